import Derived.Test.YtendhhjhjlblcaaSBind
namespace Go.Proofs.Ytendhhjhjlblcaa
open Go PSL Go.Proofs

set_option maxRecDepth 100000 in
theorem collect_ok (p : Tm) : ∀ (t : Tm), p.size < 1000000000 → PCtr Try.prog 63 [p.av, t.av] (.tup [.d (.sl (bindRows (Tm.collect p t).1)), bV (Tm.collect p t).2]) := by
  induction p using Tm.ind with
  | _ p ih =>
  intro t hsz
  have hl := Tm.len_le_sizeL p.l
  have hs := Tm.size_eq p
  have hc := Tm.collect_eq p t
  refine PCtr.of_R (pf := pfB) tyOk mixed Try.func63 rfl (by kernel_rfl) (by kernel_rfl) (by simp [Try.ntmps63]) fun w S hg => ?_
  refine R_run hg.ok 1000 rfl rfl ?_
  refine R_if rfl rfl (fun h => ?_) (fun h => ?_) <;> refine R_run hg.ok 1000 rfl rfl ?_
  · have hk : p.k = 1 := by simpa using h
    rw [if_pos hk] at hc
    refine R_ret hg 5 rfl rfl ?_
    rw [hc]; rfl
  have hk : ¬ p.k = 1 := by simpa using h
  rw [if_neg hk] at hc
  have bad : Tm.differ p t = true → Tm.collect p t = ([], false) := fun h => by rw [hc, if_pos h]
  refine R_if rfl rfl (fun h1 => ?_) (fun h1 => ?_) <;> refine R_run hg.ok 1000 rfl rfl ?_
  · refine R_ret hg 5 rfl rfl ?_
    rw [bad (by have : ¬ p.k = t.k := (by simpa using h1); simp [Tm.differ, this])]; rfl
  refine R_if rfl rfl (fun h2 => ?_) (fun h2 => ?_) <;> refine R_run hg.ok 1000 rfl rfl ?_
  · refine R_ret hg 5 rfl rfl ?_
    rw [bad (by have : ¬ p.n = t.n := (by simpa using h2); simp [Tm.differ, this])]; rfl
  refine R_if rfl rfl (fun h3 => ?_) (fun h3 => ?_) <;> refine R_run hg.ok 1000 rfl rfl ?_
  · refine R_ret hg 5 rfl rfl ?_
    rw [bad (by simp only [Tm.differ, h3]; simp)]; rfl
  refine R_if rfl rfl (fun h4 => ?_) (fun h4 => ?_) <;> refine R_run hg.ok 1000 rfl rfl ?_
  · refine R_ret hg 5 rfl rfl ?_
    rw [bad (by simp only [Tm.rows_length] at h4; have : ¬ p.l.length = t.l.length := (by simp at h4; omega); simp [Tm.differ, this])]; rfl
  have hll : p.l.length = t.l.length := by simp only [Tm.rows_length] at h4; simp at h4; omega
  rw [if_neg (by simp only [Tm.differ, h3]; have a1 : p.k = t.k := (by simpa using h1); have a2 : p.n = t.n := (by simpa using h2); simp [a1, a2, hll])] at hc
  refine R_own 6 5 rfl rfl ?_
  refine R_loop (fun x : Nat × Binds × Nat => ([(2, .lo 0 0), (3, .lo 1 0), (6, .ow 2 x.2.2), (7, iV x.1)], [boxR p, boxR t, .arr 5 x.2.2 (bindRows x.2.1)])) (fun x => x.1 ≤ p.l.length ∧ Tm.collect p t = Tm.collectL (p.l.drop x.1) (t.l.drop x.1) x.2.1 ∧ x.2.1.length + Tm.sizeL (p.l.drop x.1) ≤ Tm.sizeL p.l) (fun x => p.l.length - x.1) (0, [], 0) ⟨Nat.zero_le _, hc, by simp⟩ ⟨.refl _, .refl _, .refl _, .refl _, trivial⟩ rfl ?_
  rintro ⟨k, Q, s⟩ ⟨hk0, hm, hQl⟩
  simp only at hk0 hm hQl
  refine R_run hg.ok 1000 rfl rfl ?_
  refine R_if rfl rfl (fun h => ?_) (fun h => ?_) <;> refine R_run hg.ok 1000 rfl rfl ?_
  · have hk1 : k < p.l.length := lt_dec h (by rw [Tm.rows_length])
    have hk2 : k < t.l.length := by omega
    have e1 : p.l[k]? = some p.l[k] := List.getElem?_eq_getElem hk1
    have e2 : t.l[k]? = some t.l[k] := List.getElem?_eq_getElem hk2
    rw [List.drop_eq_getElem_cons hk1, List.drop_eq_getElem_cons hk2, Tm.collectL] at hm
    rw [List.drop_eq_getElem_cons hk1, Tm.sizeL] at hQl
    have hsm := Tm.size_mem (List.getElem_mem hk1)
    have hcl := (Tm.collect_len p.l[k] t.l[k]).1
    refine R_index hg.ok rfl rfl rfl rfl rfl rfl (Int.natCast_nonneg k) (Tm.rows_get e1) rfl ?_
    refine R_run hg.ok 1000 rfl rfl ?_
    refine R_index hg.ok rfl rfl rfl rfl rfl rfl (Int.natCast_nonneg k) (Tm.rows_get e2) rfl ?_
    refine R_run hg.ok 1000 rfl rfl ?_
    refine R_call hg.ok (ih _ (List.getElem_mem hk1) t.l[k] (by omega)) rfl rfl rfl rfl rfl rfl ?_
    refine R_run hg.ok 1000 rfl rfl ?_
    refine R_if rfl rfl (fun h => ?_) (fun h => ?_) <;> refine R_run hg.ok 1000 rfl rfl ?_
    · refine R_ret hg 5 rfl rfl ?_
      have h : (Tm.collect p.l[k] t.l[k]).2 = false := by simpa using h
      rw [hm, if_neg (by rw [h]; simp)]; rfl
    · have h : (Tm.collect p.l[k] t.l[k]).2 = true := by simpa using h
      rw [if_pos h] at hm
      refine R_appendO hg.ok (bindRows (Q ++ (Tm.collect p.l[k] t.l[k]).1)) rfl rfl rfl rfl rfl rfl rfl rfl rfl (bindRows_sz _) (bindRows_one1 _) (bindRows_app _ _) (by simp only [bindRows_len]; omega) (by simp only [bindRows_len]; omega) ?_
      refine R_run hg.ok 1000 rfl rfl ?_
      exact R_next (k + 1, Q ++ (Tm.collect p.l[k] t.l[k]).1, s + 1) ⟨hk1, hm, by simp only [List.length_append]; omega⟩ (by simp only; omega) ⟨.refl _, .refl _, .refl _, Ent.wrap (by simp only; omega) (by simp only; omega) (by simp only; omega), trivial⟩ rfl
  · have hk1 : p.l.length ≤ k := ge_dec h (by rw [Tm.rows_length])
    refine R_ret hg 5 rfl (sealA_tup (mapO_cons (sealA_ow rfl) rfl)) ?_
    rw [hm, List.drop_eq_nil_of_le hk1]; simp only [Tm.collectL]; rfl

set_option maxRecDepth 100000 in
theorem refMatch_ok (p t : Tm) (hp : p.size < 400000000) (ht : t.size < 400000000) : PCtr Try.prog 33 [p.av, t.av] (.tup [.d (.sl (bindRows (matchR p t).1)), bV (matchR p t).2]) := by
  refine PCtr.of_R (pf := fun f => bif Nat.beq f 20 then .eff else .still) tyOk mixed Try.func33 rfl (by kernel_rfl) (by kernel_rfl) (by simp [Try.ntmps33]) fun w S hg => ?_
  refine R_run hg.ok 1000 rfl rfl ?_
  refine R_call hg.ok (collect_ok p t (by omega)) rfl rfl rfl rfl rfl rfl ?_
  refine R_run hg.ok 1000 rfl rfl ?_
  have hlen := Tm.collect_len p t
  refine R_if rfl rfl (fun h => ?_) (fun h => ?_) <;> refine R_run hg.ok 1000 rfl rfl ?_
  · refine R_ret hg 5 rfl rfl ?_
    have h : (Tm.collect p t).2 = false := by simpa using h
    unfold matchR; rw [h]; rfl
  have h : (Tm.collect p t).2 = true := by simpa using h
  have hmr : matchR p t = if (addAll [] (Tm.collect p t).1).1 then ((addAll [] (Tm.collect p t).1).2, true) else ([], false) := by unfold matchR; rw [if_pos h]
  generalize (Tm.collect p t).1 = all at *
  refine R_own 8 5 rfl rfl ?_
  refine R_loop (fun x : Nat × Binds × Nat => ([(6, .d (.sl (bindRows all))), (8, .ow 2 x.2.2), (9, iV x.1)], [boxR p, boxR t, .arr 5 x.2.2 (bindRows x.2.1)])) (fun x => x.1 ≤ all.length ∧ addAll [] all = addAll x.2.1 (all.drop x.1) ∧ x.2.1.length ≤ x.1 ∧ ∀ b ∈ x.2.1, b ∈ all) (fun x => all.length - x.1) (0, [], 0) ⟨Nat.zero_le _, rfl, Nat.le_refl _, by simp⟩ ⟨.refl _, .refl _, .refl _, trivial⟩ rfl ?_
  rintro ⟨k, Q, s⟩ ⟨hk, hm, hQl, hQm⟩
  simp only at hk hm hQl hQm
  refine R_run hg.ok 1000 rfl rfl ?_
  refine R_if rfl rfl (fun h => ?_) (fun h => ?_) <;> refine R_run hg.ok 1000 rfl rfl ?_
  · have hk1 : k < all.length := lt_dec h (by rw [bindRows_len])
    have e1 : all[k]? = some all[k] := List.getElem?_eq_getElem hk1
    rw [List.drop_eq_getElem_cons hk1, addAll] at hm
    refine R_index hg.ok rfl rfl rfl rfl rfl rfl (Int.natCast_nonneg k) (bindRows_get e1) rfl ?_
    refine R_run hg.ok 1000 rfl rfl ?_
    refine R_callO hg.ok hg.gup (place_ok Q all[k].1 (by omega)) rfl rfl rfl rfl (mapO_cons (sealA_ow rfl) rfl) rfl rfl ?_
    refine R_run hg.ok 1000 rfl rfl ?_
    rcases placeB_find Q all[k].1 with ⟨h1, h2⟩ | ⟨j, x, h1, h2, h3⟩
    · have ha : addB Q all[k].1 all[k].2 = (true, Q ++ [all[k]]) := by unfold addB; rw [h2]
      rw [ha, if_pos rfl] at hm
      refine R_if rfl rfl (fun h => ?_) (fun h => absurd h1 (of_decide_eq_false h)) <;> refine R_run hg.ok 1000 rfl rfl ?_
      refine R_index hg.ok rfl rfl rfl rfl rfl rfl (Int.natCast_nonneg k) (bindRows_get e1) rfl ?_
      refine R_run hg.ok 1000 rfl rfl ?_
      refine R_appendO hg.ok (bindRows (Q ++ [all[k]])) rfl rfl rfl rfl rfl rfl rfl rfl rfl (by simp) (by simp [one1]) (by rw [← bindRows_app]; rfl) (by simp [bindRows_len]; omega) (by simp [bindRows_len]; omega) ?_
      refine R_run hg.ok 1000 rfl rfl ?_
      refine R_next (k + 1, Q ++ [all[k]], s + 1) ⟨hk1, hm, by simp; omega, fun b hb => ?_⟩ (by simp only; omega) ⟨.refl _, .refl _, Ent.wrap (by simp only; omega) (by simp only; omega) (by simp only; omega), trivial⟩ rfl
      rcases List.mem_append.1 hb with h | h
      · exact hQm b h
      · obtain rfl : b = all[k] := by simpa using h
        exact List.getElem_mem hk1
    · have ha : addB Q all[k].1 all[k].2 = (Tm.same x all[k].2, Q) := by unfold addB; rw [h3]
      have hjl := (List.getElem?_eq_some_iff.1 h2).1
      have hx := hlen.2 _ (hQm _ (List.mem_of_getElem? h2))
      rw [ha] at hm
      rw [h1]
      refine R_if rfl rfl (fun h => absurd (of_decide_eq_true h) (by omega)) (fun h => ?_) <;> refine R_run hg.ok 1000 rfl rfl ?_
      refine R_indexO hg.ok rfl rfl rfl rfl rfl rfl rfl rfl rfl (Int.natCast_nonneg j) (by rw [bindRows_len]; simpa using hjl) ?_
      refine R_run hg.ok 1000 rfl rfl ?_
      refine R_loadE hg.ok rfl rfl rfl rfl rfl rfl (bindRows_get h2) rfl ?_
      refine R_run hg.ok 1000 rfl rfl ?_
      refine R_index hg.ok rfl rfl rfl rfl rfl rfl (Int.natCast_nonneg k) (bindRows_get e1) rfl ?_
      refine R_run hg.ok 1000 rfl rfl ?_
      refine R_call hg.ok (refSame_ok x all[k].2 (by simp only at hx; omega)) rfl rfl rfl rfl rfl rfl ?_
      refine R_run hg.ok 1000 rfl rfl ?_
      refine R_if rfl rfl (fun h => ?_) (fun h => ?_) <;> refine R_run hg.ok 1000 rfl rfl ?_
      · refine R_ret hg 5 rfl rfl ?_
        have h : Tm.same x all[k].2 = false := by simpa using h
        rw [hmr, hm, h]; rfl
      · have h : Tm.same x all[k].2 = true := by simpa using h
        rw [if_pos h] at hm
        exact R_next (k + 1, Q, s) ⟨hk1, hm, by simp only; omega, hQm⟩ (by simp only; omega) ⟨.refl _, .refl _, Ent.wrap (by simp only; omega) (by simp only; omega) (by simp only; omega), trivial⟩ rfl
  · have hk1 : all.length ≤ k := ge_dec h (by rw [bindRows_len])
    refine R_ret hg 5 rfl (sealA_tup (mapO_cons (sealA_ow rfl) rfl)) ?_
    rw [hmr, hm, List.drop_eq_nil_of_le hk1]; rfl
end Go.Proofs.Ytendhhjhjlblcaa
