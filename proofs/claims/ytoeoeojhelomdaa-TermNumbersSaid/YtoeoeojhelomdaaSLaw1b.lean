import Derived.Test.YtoeoeojhelomdaaSLaw1
import Derived.Test.YtoeoeojhelomdaaSRefV
namespace Go.Proofs.Ytoeoeojhelomdaa
open Go PSL Go.Proofs

theorem row_len (l : List Tm) : ∀ r ∈ Tm.rows l, r.length = 4 := by
  intro r hr
  rw [Tm.rows_eq] at hr
  obtain ⟨t, _, rfl⟩ := List.mem_map.1 hr
  rfl

theorem some_sub {l : List Tm} (h : Tm.someT l = true) : Tm.sizeL l < 1000000000 := by have := (Tm.someT_ok h).1; omega

set_option maxRecDepth 100000 in
theorem termVars_ok (l : List Tm) (hok : ∀ t ∈ l, t.Ok) (hlen : l.length < 4611686018427387904) : PCtr Try.prog 3 [.d (.sl (Tm.rows l))] (bV true) := by
  refine PCtr.of_R (pf := fun _ => .still) tyOk mixed Try.func3 rfl (by kernel_rfl) (by kernel_rfl) (by simp [Try.ntmps3]) fun w S hg => ?_
  refine R_run hg.ok 1000 rfl rfl ?_
  refine R_call hg.ok (some_ok l hok hlen) rfl rfl rfl rfl rfl rfl ?_
  refine R_run hg.ok 1000 rfl rfl ?_
  refine R_if rfl rfl (fun h => ?_) (fun h => ?_) <;> refine R_run hg.ok 1000 rfl rfl ?_
  · refine R_call hg.ok knows1_ok rfl rfl rfl rfl rfl rfl ?_
    refine R_run hg.ok 1000 rfl rfl ?_
    refine R_ret hg 5 rfl rfl ?_
    rfl
  have hs : Tm.someT l = true := by simpa using h
  have hsz := some_sub hs
  refine R_call hg.ok (plain_ok _ l (Nat.le_refl _) hsz) rfl rfl rfl rfl rfl rfl ?_
  refine R_run hg.ok 1000 rfl rfl ?_
  refine R_if rfl rfl (fun h => ?_) (fun h => ?_) <;> refine R_run hg.ok 1000 rfl rfl ?_
  · refine R_call hg.ok knows1_ok rfl rfl rfl rfl rfl rfl ?_
    refine R_run hg.ok 1000 rfl rfl ?_
    refine R_ret hg 5 rfl rfl ?_
    rfl
  have hp : Tm.plainL l = true := by simpa using h
  have hl := Tm.len_le_sizeL l
  refine R_call hg.ok (refVars_ok l hsz) rfl rfl rfl rfl rfl rfl ?_
  refine R_run hg.ok 1000 rfl rfl ?_
  refine R_loop (fun k : Nat => ([(0, .d (.sl (Tm.rows l))), (3, .d (.sl (irows (Tm.withVL [] l)))), (4, iV k)], [])) (fun k => k ≤ l.length) (fun k => l.length - k) 0 (Nat.zero_le _) ⟨.refl _, .refl _, .refl _, trivial⟩ rfl ?_
  intro k hk
  refine R_run hg.ok 1000 rfl rfl ?_
  refine R_if rfl rfl (fun h => ?_) (fun h => ?_) <;> refine R_run hg.ok 1000 rfl rfl ?_
  · have hk1 : k < l.length := lt_dec h (by rw [Tm.rows_length])
    have e1 : l[k]? = some l[k] := List.getElem?_eq_getElem hk1
    have hsm := Tm.size_mem (List.getElem_mem hk1)
    refine R_index hg.ok rfl rfl rfl rfl rfl rfl (Int.natCast_nonneg k) (Tm.rows_get e1) rfl ?_
    refine R_run hg.ok 1000 rfl rfl ?_
    refine R_call hg.ok (ground_ok l[k] (by omega)) rfl rfl rfl rfl rfl rfl ?_
    refine R_run hg.ok 1000 rfl rfl ?_
    have hw : IntKind.i64.wrap ((k : Int) + 1) = (k : Int) + 1 := w64 (by omega) (by omega)
    refine R_sliceO hg.ok [Tm.row l[k]] rfl rfl rfl rfl rfl rfl rfl (row_len l) (Int.natCast_nonneg k) (by rw [hw]; omega) (by rw [hw, Tm.rows_length]; omega) (by rw [hw, Tm.rows_eq, ← List.map_drop, Int.toNat_natCast, List.drop_eq_getElem_cons hk1, show ((k : Int) + 1).toNat - k = 1 by omega]; rfl) ?_
    refine R_run hg.ok 1000 rfl rfl ?_
    refine R_call hg.ok (refVars_ok [l[k]] (by simp [Tm.sizeL]; omega)).one rfl rfl rfl rfl rfl rfl ?_
    refine R_run hg.ok 1000 rfl rfl ?_
    have hpk : Tm.plainL [l[k]] = true := by
      have : ∀ (l : List Tm), Tm.plainL l = true → ∀ t ∈ l, t.plain = true := by
        intro l
        induction l with
        | nil => simp
        | cons x l ih => intro h t ht; simp only [Tm.plainL, Bool.and_eq_true] at h; rcases List.mem_cons.1 ht with rfl | ht; exact h.1; exact ih h.2 t ht
      simp only [Tm.plainL, this l hp _ (List.getElem_mem hk1), Bool.and_self]
    refine R_if rfl rfl (fun h => ?_) (fun h => ?_) <;> refine R_run hg.ok 1000 rfl rfl ?_
    · exfalso
      rw [ground_vars, varsT_with _ hpk, irows_length] at h
      generalize Tm.withVL [] [l[k]] = W at h
      cases W with
      | nil => simp at h
      | cons x W => simp at h; omega
    · exact R_next (k + 1) hk1 (by omega) ⟨.refl _, .refl _, Ent.wrap (by omega) (by omega) (by omega), trivial⟩ rfl
  · refine R_call hg.ok (vars_ok l hsz) rfl rfl rfl rfl rfl rfl ?_
    refine R_run hg.ok 1000 rfl rfl ?_
    refine R_call hg.ok (numbers_ok _ _ (by have := varsF_len l []; simp at this; unfold varsT; unfold varsF at this; omega)) rfl rfl rfl rfl rfl rfl ?_
    refine R_run hg.ok 1000 rfl rfl ?_
    refine R_if rfl rfl (fun _ => ?_) (fun h => absurd h (by rw [varsT_with l hp]; simp)) <;> refine R_run hg.ok 1000 rfl rfl ?_
    refine R_call hg.ok knows1_ok rfl rfl rfl rfl rfl rfl ?_
    refine R_run hg.ok 1000 rfl rfl ?_
    refine R_ret hg 5 rfl rfl ?_
    rfl
end Go.Proofs.Ytoeoeojhelomdaa
