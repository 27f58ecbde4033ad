import Derived.Test.YtppghekipbnjhaaSNumber
import Derived.Test.YtppghekipbnjhaaPlA
namespace Go.Proofs.Ytppghekipbnjhaa
open Go PSL Go.Proofs

theorem contains_cons' {l : List Int} {x n : Int} : (x :: l).contains n = (decide (x = n) || l.contains n) := by
  simp only [List.contains_cons]; congr 1; rw [Bool.eq_iff_iff]; simp; exact eq_comm

set_option maxRecDepth 100000 in
theorem with_ok (t : Tm) : ∀ (l : List Int), l.length + t.size < 1000000000 → PCtr Try.prog 75 [.d (.sl (irows l)), t.av] (.d (.sl (irows (Tm.withV l t)))) := by
  induction t using Tm.ind with
  | _ t ih =>
  intro l hsz
  have hl := Tm.len_le_sizeL t.l
  have hs := Tm.size_eq t
  refine PCtr.of_R (pf := pfB) tyOk mixed Try.func75 rfl (by kernel_rfl) (by kernel_rfl) (by simp [Try.ntmps75]) fun w S hg => ?_
  refine R_run hg.ok 1000 rfl rfl ?_
  refine R_if rfl rfl (fun h => ?_) (fun h => ?_) <;> refine R_run hg.ok 1000 rfl rfl ?_
  · have hk : t.k = 1 := by simpa using h
    refine R_loop (fun k : Nat => ([(0, .d (.sl (irows l))), (3, .lo 0 0), (5, iV k)], [boxR t])) (fun k => k ≤ l.length ∧ l.contains t.n = (l.drop k).contains t.n) (fun k => l.length - k) 0 ⟨Nat.zero_le _, rfl⟩ ⟨.refl _, .refl _, .refl _, trivial⟩ rfl ?_
    rintro k ⟨hk0, hm⟩
    refine R_run hg.ok 1000 rfl rfl ?_
    refine R_if rfl rfl (fun h => ?_) (fun h => ?_) <;> refine R_run hg.ok 1000 rfl rfl ?_
    · have hk1 : k < l.length := lt_dec h (by rw [irows_length])
      have e1 : l[k]? = some l[k] := List.getElem?_eq_getElem hk1
      rw [List.drop_eq_getElem_cons hk1, contains_cons'] at hm
      refine R_index hg.ok rfl rfl rfl rfl rfl rfl (Int.natCast_nonneg k) (irows_get e1) rfl ?_
      refine R_run hg.ok 1000 rfl rfl ?_
      refine R_if rfl rfl (fun h => ?_) (fun h => ?_) <;> refine R_run hg.ok 1000 rfl rfl ?_
      · refine R_ret hg 5 rfl rfl ?_
        have he : l[k] = t.n := by simpa using h
        rw [Tm.withV_eq, if_pos hk, addV, if_pos (by rw [hm]; simp [he])]
      · have he : ¬ l[k] = t.n := by simpa using h
        refine R_next (k + 1) ⟨hk1, by rw [hm]; simp [he]⟩ (by omega) ⟨.refl _, .refl _, Ent.wrap (by omega) (by omega) (by omega), trivial⟩ rfl
    · have hk1 : l.length ≤ k := ge_dec h (by rw [irows_length])
      rw [List.drop_eq_nil_of_le hk1] at hm
      refine R_appendF hg.ok (rows := []) rfl rfl (.inl rfl) rfl (.inl rfl) rfl rfl rfl (by simp) (by simp [irows]; intros; subst_vars; rfl) (by simp [irows_length]; omega) (by simp [irows_length]; omega) ?_
      refine R_run hg.ok 1000 rfl rfl ?_
      refine R_appendO hg.ok (irows (l ++ [t.n])) rfl rfl rfl rfl rfl rfl rfl rfl rfl (by simp) (by simp [one1]) (by simp [irows, irow]) (by simp [irows_length]; omega) (by simp [irows_length]; omega) ?_
      refine R_run hg.ok 1000 rfl rfl ?_
      refine R_ret hg 5 rfl (sealA_ow rfl) ?_
      rw [Tm.withV_eq, if_pos hk, addV, if_neg (by rw [hm]; simp)]
  · have hk : ¬ t.k = 1 := by simpa using h
    refine R_loop (fun x : Nat × List Int => ([(0, .d (.sl (irows x.2))), (3, .lo 0 0), (6, iV x.1)], [boxR t])) (fun x => x.1 ≤ t.l.length ∧ Tm.withV l t = Tm.withVL x.2 (t.l.drop x.1) ∧ x.2.length + Tm.sizeL (t.l.drop x.1) ≤ l.length + Tm.sizeL t.l) (fun x => t.l.length - x.1) (0, l) ⟨Nat.zero_le _, by rw [Tm.withV_eq, if_neg hk]; rfl, Nat.le_refl _⟩ ⟨.refl _, .refl _, .refl _, trivial⟩ rfl ?_
    rintro ⟨k, a⟩ ⟨hk0, hm, hal⟩
    simp only at hk0 hm hal
    refine R_run hg.ok 1000 rfl rfl ?_
    refine R_if rfl rfl (fun h => ?_) (fun h => ?_) <;> refine R_run hg.ok 1000 rfl rfl ?_
    · have hk1 : k < t.l.length := lt_dec h (by rw [Tm.rows_length])
      have e1 : t.l[k]? = some t.l[k] := List.getElem?_eq_getElem hk1
      rw [List.drop_eq_getElem_cons hk1] at hm hal
      simp only [Tm.withVL] at hm
      simp only [Tm.sizeL] at hal
      refine R_index hg.ok rfl rfl rfl rfl rfl rfl (Int.natCast_nonneg k) (Tm.rows_get e1) rfl ?_
      refine R_run hg.ok 1000 rfl rfl ?_
      refine R_call hg.ok (ih _ (List.getElem_mem hk1) a (by omega)) rfl rfl rfl rfl rfl rfl ?_
      refine R_run hg.ok 1000 rfl rfl ?_
      have hwl := Tm.withV_len t.l[k] a
      exact R_next (k + 1, Tm.withV a t.l[k]) ⟨hk1, hm, by simp only; omega⟩ (by simp only; omega) ⟨.refl _, .refl _, Ent.wrap (by simp only; omega) (by simp only; omega) (by simp only; omega), trivial⟩ rfl
    · have hk1 : t.l.length ≤ k := ge_dec h (by rw [Tm.rows_length])
      refine R_ret hg 5 rfl rfl ?_
      rw [hm, List.drop_eq_nil_of_le hk1]; rfl

set_option maxRecDepth 100000 in
theorem refVars_ok (l : List Tm) (hsz : Tm.sizeL l < 1000000000) : PCtr Try.prog 36 [.d (.sl (Tm.rows l))] (.d (.sl (irows (Tm.withVL [] l)))) := by
  have hl := Tm.len_le_sizeL l
  refine PCtr.of_R (pf := pfB) tyOk mixed Try.func36 rfl (by kernel_rfl) (by kernel_rfl) (by simp [Try.ntmps36]) fun w S hg => ?_
  refine R_run hg.ok 1000 rfl rfl ?_
  refine R_loop (fun x : Nat × List Int => ([(0, .d (.sl (Tm.rows l))), (3, .d (.sl (irows x.2))), (4, iV x.1)], [])) (fun x => x.1 ≤ l.length ∧ Tm.withVL [] l = Tm.withVL x.2 (l.drop x.1) ∧ x.2.length + Tm.sizeL (l.drop x.1) ≤ Tm.sizeL l) (fun x => l.length - x.1) (0, []) ⟨Nat.zero_le _, rfl, by simp⟩ ⟨.refl _, .nil, .refl _, trivial⟩ rfl ?_
  rintro ⟨k, a⟩ ⟨hk0, hm, hal⟩
  simp only at hk0 hm hal
  refine R_run hg.ok 1000 rfl rfl ?_
  refine R_if rfl rfl (fun h => ?_) (fun h => ?_) <;> refine R_run hg.ok 1000 rfl rfl ?_
  · have hk1 : k < l.length := lt_dec h (by rw [Tm.rows_length])
    have e1 : l[k]? = some l[k] := List.getElem?_eq_getElem hk1
    rw [List.drop_eq_getElem_cons hk1] at hm hal
    simp only [Tm.withVL] at hm
    simp only [Tm.sizeL] at hal
    refine R_index hg.ok rfl rfl rfl rfl rfl rfl (Int.natCast_nonneg k) (Tm.rows_get e1) rfl ?_
    refine R_run hg.ok 1000 rfl rfl ?_
    refine R_call hg.ok (with_ok l[k] a (by omega)) rfl rfl rfl rfl rfl rfl ?_
    refine R_run hg.ok 1000 rfl rfl ?_
    have hwl := Tm.withV_len l[k] a
    exact R_next (k + 1, Tm.withV a l[k]) ⟨hk1, hm, by simp only; omega⟩ (by simp only; omega) ⟨.refl _, .refl _, Ent.wrap (by simp only; omega) (by simp only; omega) (by simp only; omega), trivial⟩ rfl
  · have hk1 : l.length ≤ k := ge_dec h (by rw [Tm.rows_length])
    refine R_ret hg 5 rfl rfl ?_
    rw [hm, List.drop_eq_nil_of_le hk1]; rfl

def toG (frm to : List Int) (n : Int) : Int := (to[(atI frm n 0).toNat]?).getD 0

theorem atI_lt : ∀ (l : List Int) (n i : Int), 0 ≤ i → atI l n i < i + l.length
  | [], _, i, h => by simp [atI]; omega
  | x :: l, n, i, h => by
    have := atI_lt l n (i + 1) (by omega)
    simp only [atI, List.length_cons]
    split
    · omega
    · omega

theorem turnR_snoc {l : List Tm} {k : Nat} {x : Tm} {g : Int → Int} (h : l[k]? = some x) : Tm.rows (Tm.turnRL g (l.take k)) ++ [Tm.row (Tm.turnR g x)] = Tm.rows (Tm.turnRL g (l.take (k + 1))) := by
  rw [List.take_add_one, h]
  simp [Tm.turnRL_map, Tm.rows_eq]

set_option maxRecDepth 100000 in
theorem refTurn_ok (frm to : List Int) (hft : frm.length ≤ to.length) (htl : to.length < 1000000000) (t : Tm) : t.size < 1000000000 → (∀ d e, e ∈ t.els d → e.2.k = 1 → 0 ≤ atI frm e.2.n 0) →
    PCtr Try.prog 84 [t.av, .d (.sl (irows frm)), .d (.sl (irows to))] (Tm.turnR (toG frm to) t).av := by
  induction t using Tm.ind with
  | _ t ih =>
  intro hsz hin
  have hl := Tm.len_le_sizeL t.l
  have hs := Tm.size_eq t
  refine PCtr.of_R (pf := fun _ => .still) tyOk mixed Try.func84 rfl (by kernel_rfl) (by kernel_rfl) (by simp [Try.ntmps84]) fun w S hg => ?_
  refine R_run hg.ok 1000 rfl rfl ?_
  refine R_if rfl rfl (fun h => ?_) (fun h => ?_) <;> refine R_run hg.ok 1000 rfl rfl ?_
  · have hk : t.k = 1 := by simpa using h
    refine R_call hg.ok (at_ok frm t.n (by omega)) rfl rfl rfl rfl rfl rfl ?_
    refine R_run hg.ok 1000 rfl rfl ?_
    have h0 : 0 ≤ atI frm t.n 0 := hin 0 (0, t) (by rw [Tm.els_eq]; simp) hk
    have hlt : (atI frm t.n 0).toNat < to.length := by
      have := atI_lt frm t.n 0 (Int.le_refl _)
      omega
    have e1 : to[(atI frm t.n 0).toNat]? = some to[(atI frm t.n 0).toNat] := List.getElem?_eq_getElem hlt
    refine R_index hg.ok rfl rfl rfl rfl rfl rfl h0 (irows_get e1) rfl ?_
    refine R_run hg.ok 1000 rfl rfl ?_
    refine R_ret hg 5 rfl rfl ?_
    rw [Tm.turnR_eq, if_pos hk]
    simp only [toG, e1, Option.getD_some]; rfl
  · have hk : ¬ t.k = 1 := by simpa using h
    refine R_ownB 2 3 4 rfl rfl rfl ?_
    refine R_loop (fun k : Nat => ([(1, .d (.sl (irows frm))), (2, .d (.sl (irows to))), (3, .lo 0 0), (6, .lo 1 0), (7, .lo 2 0), (8, iV k)], [boxR t, .box [.d (.v (.int .i64 0)), .d (.v (.string ByteArray.empty)), .d (.v (.int .i64 0)), .d (.v (.slice none 0 0))], .box [.d (.v (.int .i64 t.k)), .d (.v (.string t.s)), .d (.v (.int .i64 t.n)), .ow 3 k], .arr 4 k (Tm.rows (Tm.turnRL (toG frm to) (t.l.take k)))]))
      (fun k => k ≤ t.l.length) (fun k => t.l.length - k) 0 (Nat.zero_le _) ⟨.refl _, .refl _, .refl _, .refl _, .refl _, .refl _, trivial⟩ rfl ?_
    intro k hk0
    refine R_run hg.ok 1000 rfl rfl ?_
    refine R_if rfl rfl (fun h => ?_) (fun h => ?_) <;> refine R_run hg.ok 1000 rfl rfl ?_
    · have hk1 : k < t.l.length := lt_dec h (by rw [Tm.rows_length])
      have e1 : t.l[k]? = some t.l[k] := List.getElem?_eq_getElem hk1
      have hm := Tm.size_mem (List.getElem_mem hk1)
      refine R_index hg.ok rfl rfl rfl rfl rfl rfl (Int.natCast_nonneg k) (Tm.rows_get e1) rfl ?_
      refine R_run hg.ok 1000 rfl rfl ?_
      refine R_call hg.ok (ih _ (List.getElem_mem hk1) (by omega) (fun d e he => hin (d - 1) e (by rw [Tm.els_eq]; exact List.mem_cons_of_mem _ (Tm.els_memL (List.getElem_mem hk1) (by rw [Int.sub_add_cancel]; exact he))))) rfl rfl rfl rfl rfl rfl ?_
      refine R_run hg.ok 1000 rfl rfl ?_
      refine R_appendO hg.ok _ rfl rfl rfl rfl rfl rfl rfl rfl rfl (by simp) (by simp [one1]) (turnR_snoc e1) (by rw [Tm.rows_length, Tm.turnRL_map]; simp; omega) (by rw [Tm.rows_length, Tm.turnRL_map]; simp; omega) ?_
      refine R_run hg.ok 1000 rfl rfl ?_
      exact R_next (k + 1) hk1 (by omega) ⟨.refl _, .refl _, .refl _, .refl _, .refl _, Ent.wrap (by omega) (by omega) (by omega), trivial⟩ rfl
    · have hk1 : t.l.length ≤ k := ge_dec h (by rw [Tm.rows_length])
      refine R_ret hg 5 rfl (sealA_term rfl rfl rfl rfl) ?_
      rw [List.take_of_length_le hk1, Tm.turnR_eq, if_neg hk]; rfl
end Go.Proofs.Ytppghekipbnjhaa
