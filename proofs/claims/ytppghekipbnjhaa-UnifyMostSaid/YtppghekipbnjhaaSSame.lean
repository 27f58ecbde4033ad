import Derived.Test.YtppghekipbnjhaaSTerm5
namespace Go.Proofs.Ytppghekipbnjhaa
open Go PSL Go.Proofs

def boxR (t : Tm) : Ob := .box [.d (.v (.int .i64 t.k)), .d (.v (.string t.s)), .d (.v (.int .i64 t.n)), .d (.sl (Tm.rows t.l))]

set_option maxRecDepth 100000 in
theorem same_ok (a : Tm) : ∀ b, a.size < 1000000000 → PCtr Try.prog 86 [a.av, b.av] (bV (a.same b)) := by
  induction a using Tm.ind with
  | _ a ih =>
  intro b hsz
  refine PCtr.of_R (pf := fun _ => .still) tyOk mixed Try.func86 rfl (by kernel_rfl) (by kernel_rfl) (by simp [Try.ntmps86]) fun w S hg => ?_
  refine R_run hg.ok 1000 rfl rfl ?_
  iterate 4
    refine R_if rfl rfl (fun _ => ?_) (fun _ => ?_) <;> refine R_run hg.ok 1000 rfl rfl ?_
    · refine R_ret hg 5 rfl rfl ?_
      simp_all [Tm.same_eq, bV, Tm.rows_length]
      try exact Tm.sameL_len (by omega)
  refine R_loop (fun k : Nat => ([(2, .lo 0 0), (3, .lo 1 0), (36, .d (.sl (Tm.rows a.l))), (37, iV a.l.length), (38, iV k)], [boxR a, boxR b])) (fun k => k ≤ a.l.length ∧ a.l.length = b.l.length ∧ a.same b = Tm.sameL (a.l.drop k) (b.l.drop k)) (fun k => a.l.length - k) 0 ?_ ?_ rfl ?_
  · simp_all [Tm.same_eq, Tm.rows_length]
    omega
  · exact ⟨.refl _, .refl _, .refl _, Ent.int (by rw [Tm.rows_length]), .refl _, trivial⟩
  rintro k ⟨hk0, hl, hk⟩
  have hszl := Tm.len_le_sizeL a.l
  have hsz2 := Tm.size_eq a
  refine R_run hg.ok 1000 rfl rfl ?_
  refine R_if rfl rfl (fun h => ?_) (fun h => ?_) <;> refine R_run hg.ok 1000 rfl rfl ?_
  · have hk1 : k < a.l.length := by have := of_decide_eq_true h; omega
    have hk2 : k < b.l.length := by omega
    have e1 : a.l[k]? = some a.l[k] := List.getElem?_eq_getElem hk1
    have e2 : b.l[k]? = some b.l[k] := List.getElem?_eq_getElem hk2
    rw [List.drop_eq_getElem_cons hk1, List.drop_eq_getElem_cons hk2, Tm.sameL] at hk
    have hm := Tm.size_mem (List.getElem_mem hk1)
    refine R_index hg.ok rfl rfl rfl rfl rfl rfl (Int.natCast_nonneg k) (Tm.rows_get e1) rfl ?_
    refine R_run hg.ok 1000 rfl rfl ?_
    refine R_index hg.ok rfl rfl rfl rfl rfl rfl (Int.natCast_nonneg k) (Tm.rows_get e2) rfl ?_
    refine R_run hg.ok 1000 rfl rfl ?_
    refine R_call hg.ok (ih _ (List.getElem_mem hk1) b.l[k] (by omega)) rfl rfl rfl rfl rfl rfl ?_
    refine R_run hg.ok 1000 rfl rfl ?_
    refine R_if rfl rfl (fun h => ?_) (fun h => ?_) <;> refine R_run hg.ok 1000 rfl rfl ?_
    · refine R_ret hg 5 rfl rfl ?_
      rw [hk]; simp_all [bV]
    · refine R_drop 2 (Nat.zero_le _) rfl ?_
      refine R_next (k + 1) ⟨hk1, hl, ?_⟩ (by omega) ⟨.refl _, .refl _, .refl _, .refl _, Ent.wrap (by omega) (by omega) (by omega), trivial⟩ rfl
      rw [hk]; simp_all
  · refine R_ret hg 5 rfl rfl ?_
    have h4 : ¬ ((k : Int) < (a.l.length : Int)) := of_decide_eq_false h
    rw [hk, List.drop_eq_nil_of_le (by omega), List.drop_eq_nil_of_le (by omega)]; rfl
end Go.Proofs.Ytppghekipbnjhaa
