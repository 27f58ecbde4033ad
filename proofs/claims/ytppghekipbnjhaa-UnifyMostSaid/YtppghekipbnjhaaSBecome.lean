import Derived.Test.YtppghekipbnjhaaSSubst3
import Derived.Test.YtppghekipbnjhaaPlWarsh
namespace Go.Proofs.Ytppghekipbnjhaa
open Go PSL Go.Proofs

set_option maxRecDepth 100000 in
theorem refBecome_ok (B : Binds) (M : Nat) (hS : Sub B M) (hBl : B.length ≤ 4000) : ∀ (N m : Nat) (t : Tm) (most deep : Int), (fullS B M t).size ≤ N → levT B m t → t.fairR = true → 0 ≤ most → most ≤ 3000 → 0 ≤ deep → deep ≤ 100 →
    PCtr Try.prog 83 [.d (.sl (bindRows B)), t.av, iV most, iV deep] (.tup [(becR (fullS B M t) most deep).1.av, iV (becR (fullS B M t) most deep).2]) := by
  intro N
  induction N with
  | zero => intro m t _ _ h; have := Tm.size_eq (fullS B M t); omega
  | succ N ihN =>
  intro m
  induction m using Nat.strongRecOn with
  | ind m ihm =>
  intro t most deep hN hlev hf hm0 hm1 hd0 hd1
  refine PCtr.of_R (pf := fun _ => .still) tyOk mixed Try.func83 rfl (by kernel_rfl) (by kernel_rfl) (by simp [Try.ntmps83]) fun w S hg => ?_
  refine R_run hg.ok 1000 rfl rfl ?_
  refine R_cut1 (fun _ : Unit => ([(0, .d (.sl (bindRows B))), (2, iV most), (3, iV deep), (5, .lo 0 0), (8, .lo 1 0)], [boxR t, zBxS])) (fun _ => t.k = 1 → findB B t.n = none) rfl ?_ ?_
  · refine R_if rfl rfl (fun hk => ?_) (fun hk => ?_) <;> refine R_run hg.ok 1000 rfl rfl ?_
    · have hk : t.k = 1 := by simpa using hk
      refine R_call hg.ok (place_ok B t.n (by omega)) rfl rfl rfl rfl rfl rfl ?_
      refine R_run hg.ok 1000 rfl rfl ?_
      rcases placeB_find B t.n with ⟨h1, h2⟩ | ⟨j, x, h1, h2, h3⟩
      · refine R_if rfl rfl (fun h => absurd h (by simp; omega)) (fun _ => ?_) <;> refine R_run hg.ok 1000 rfl rfl ?_
        exact R_to () (fun _ => h2) ⟨.refl _, .refl _, .refl _, .refl _, .refl _, trivial⟩ rfl
      · rw [h1]
        refine R_if rfl rfl (fun _ => ?_) (fun h => absurd h (by simp)) <;> refine R_run hg.ok 1000 rfl rfl ?_
        refine R_index hg.ok rfl rfl rfl rfl rfl rfl (Int.natCast_nonneg _) (bindRows_get h2) rfl ?_
        refine R_run hg.ok 1000 rfl rfl ?_
        obtain ⟨q, rfl, hq⟩ := lev_find hS.fair hlev (occ_var hk) h3
        have hb := hS.bound hf hk h3
        have hc := ihm q (by omega) x most deep (by rw [← hb]; exact hN) hq (hS.fair _ (List.mem_of_getElem? h2)) hm0 hm1 hd0 hd1
        rw [← hb] at hc
        refine R_call hg.ok (hc) rfl rfl rfl rfl rfl rfl ?_
        refine R_run hg.ok 1000 rfl rfl ?_
        refine R_ret hg 5 rfl rfl ?_
        rfl
    · have hk : ¬ t.k = 1 := by simpa using hk
      exact R_to () (fun h => absurd h hk) ⟨.refl _, .refl _, .refl _, .refl _, .refl _, trivial⟩ rfl
  rintro _ hx
  have hhead := hS.head hf hx
  have hTs : (fullS B M t).size = Tm.sizeL (t.l.map (fullS B M)) + 1 := by rw [Tm.size_eq, hhead, Nat.add_comm]; rfl
  have hTd : (fullS B M t).depth = Tm.depthL (t.l.map (fullS B M)) + 1 := by rw [Tm.depth_eq, hhead]; rfl
  have hll := Tm.len_le_sizeL (t.l.map (fullS B M))
  rw [List.length_map] at hll
  have bad : ¬ (((fullS B M t).size : Int) ≤ most ∧ ((fullS B M t).depth : Int) ≤ deep) → AV.tup [zeroT.av, iV 0] = .tup [(becR (fullS B M t) most deep).1.av, iV (becR (fullS B M t) most deep).2] := fun h => by rw [becR_no h]
  refine R_run hg.ok 1000 rfl rfl ?_
  refine R_if rfl rfl (fun h1 => ?_) (fun h1 => ?_) <;> refine R_run hg.ok 1000 rfl rfl ?_
  · have h1 := of_decide_eq_true h1
    refine R_ret hg 5 rfl rfl ?_
    exact bad (by omega)
  have h1 := of_decide_eq_false h1
  refine R_if rfl rfl (fun h2 => ?_) (fun h2 => ?_) <;> refine R_run hg.ok 1000 rfl rfl ?_
  · have h2 := of_decide_eq_true h2
    refine R_ret hg 5 rfl rfl ?_
    exact bad (by omega)
  have h2 := of_decide_eq_false h2
  refine R_ownB 2 3 4 rfl rfl rfl ?_
  refine R_loop (fun x : Nat × Int => ([(0, .d (.sl (bindRows B))), (2, iV most), (3, iV deep), (5, .lo 0 0), (8, .lo 1 0), (11, .lo 2 0), (12, iV x.2), (13, iV x.1)], [boxR t, zBxS, .box [.d (.v (.int .i64 t.k)), .d (.v (.string t.s)), .d (.v (.int .i64 t.n)), .ow 3 x.1], .arr 4 x.1 (Tm.rows ((t.l.take x.1).map (fullS B M)))]))
    (fun x => x.1 ≤ t.l.length ∧ x.2 = 1 + Tm.sizeL ((t.l.take x.1).map (fullS B M)) ∧ x.2 ≤ most ∧ ∀ y ∈ t.l.take x.1, ((fullS B M y).depth : Int) ≤ deep - 1) (fun x => t.l.length - x.1) (0, 1) ⟨Nat.zero_le _, by simp [Tm.sizeL], by simp only; omega, by simp⟩ ⟨.refl _, .refl _, .refl _, .refl _, .refl _, .refl _, .refl _, .refl _, trivial⟩ rfl ?_
  rintro ⟨k, n⟩ ⟨hk, hn, hnm, hdp⟩
  simp only at hk hn hnm hdp
  refine R_run hg.ok 1000 rfl rfl ?_
  refine R_if rfl rfl (fun h => ?_) (fun h => ?_) <;> refine R_run hg.ok 1000 rfl rfl ?_
  · have hk1 : k < t.l.length := lt_dec h (by rw [Tm.rows_length])
    have e1 : t.l[k]? = some t.l[k] := List.getElem?_eq_getElem hk1
    have e2 : (t.l.map (fullS B M))[k]? = some (fullS B M t.l[k]) := by rw [List.getElem?_map, e1]; rfl
    have hsm : (fullS B M t.l[k]).size ≤ Tm.sizeL (t.l.map (fullS B M)) := Tm.size_mem (List.mem_of_getElem? e2)
    have hdm : (fullS B M t.l[k]).depth ≤ Tm.depthL (t.l.map (fullS B M)) := Tm.depth_mem (List.mem_of_getElem? e2)
    have hst := Tm.sizeL_take_succ e2
    have hst2 := Tm.sizeL_take (t.l.map (fullS B M)) (k + 1)
    rw [← List.map_take, ← List.map_take] at hst
    rw [← List.map_take] at hst2
    have hz := Tm.size_eq (fullS B M t.l[k])
    have hkl := Tm.len_le_sizeL ((t.l.take k).map (fullS B M))
    rw [List.length_map, List.length_take, Nat.min_eq_left (by omega)] at hkl
    refine R_index hg.ok rfl rfl rfl rfl rfl rfl (Int.natCast_nonneg _) (Tm.rows_get e1) rfl ?_
    refine R_run hg.ok 1000 rfl rfl ?_
    rw [w64 (n := most - n) (by omega) (by omega), w64 (n := deep - 1) (by omega) (by omega)]
    have hc := ihN M t.l[k] (most - n) (deep - 1) (by omega) (hS.lev _) (Sub.kid_fair hf (List.getElem_mem hk1)) (by omega) (by omega) (by omega) (by omega)
    by_cases hfit : ((fullS B M t.l[k]).size : Int) ≤ most - n ∧ ((fullS B M t.l[k]).depth : Int) ≤ deep - 1
    · rw [becR_yes hfit.1 hfit.2] at hc
      refine R_call hg.ok (hc) rfl rfl rfl rfl rfl rfl ?_
      refine R_run hg.ok 1000 rfl rfl ?_
      refine R_if rfl rfl (fun h => absurd h (by simp; omega)) (fun _ => ?_) <;> refine R_run hg.ok 1000 rfl rfl ?_
      refine R_appendO hg.ok (Tm.rows ((t.l.take (k + 1)).map (fullS B M))) rfl rfl rfl rfl rfl rfl rfl rfl rfl (by simp) (by simp [one1]) (rowsMap_snoc (fullS B M) e1) (by rw [Tm.rows_length]; simp; omega) (by rw [Tm.rows_length]; simp; omega) ?_
      refine R_run hg.ok 1000 rfl rfl ?_
      rw [w64 (n := n + ((fullS B M t.l[k]).size : Int)) (by omega) (by omega)]
      refine R_dropO 4 [boxR t, zBxS, .box [.d (.v (.int .i64 t.k)), .d (.v (.string t.s)), .d (.v (.int .i64 t.n)), .ow 3 (k + 1)], .arr 4 (k + 1) (Tm.rows ((t.l.take (k + 1)).map (fullS B M)))] (Nat.zero_le _) rfl rfl ?_
      refine R_next (k + 1, n + (fullS B M t.l[k]).size) ⟨hk1, by simp only; rw [hst]; omega, by simp only; omega, fun y hy => ?_⟩ (by simp only; omega) ⟨.refl _, .refl _, .refl _, .refl _, .refl _, .refl _, .refl _, Ent.wrap (by simp only; omega) (by simp only; omega) (by simp only; omega), trivial⟩ rfl
      rw [List.take_add_one, e1] at hy
      rcases List.mem_append.1 hy with hy | hy
      · exact hdp y hy
      · simp at hy; rw [hy]; exact hfit.2
    · rw [becR_no hfit] at hc
      refine R_call hg.ok (hc) rfl rfl rfl rfl rfl rfl ?_
      refine R_run hg.ok 1000 rfl rfl ?_
      refine R_if rfl rfl (fun _ => ?_) (fun h => absurd h (by simp)) <;> refine R_run hg.ok 1000 rfl rfl ?_
      refine R_ret hg 5 rfl rfl ?_
      exact bad (by omega)
  · have hk1 : t.l.length ≤ k := ge_dec h (by rw [Tm.rows_length])
    rw [List.take_of_length_le hk1] at hn hdp ⊢
    have hd := Tm.depthL_le (l := t.l.map (fullS B M)) (n := deep - 1) (by omega) (fun y hy => by
      obtain ⟨z, hz, rfl⟩ := List.mem_map.1 hy
      exact hdp z hz)
    rw [becR_yes (by omega) (by omega)]
    have hT : fullS B M t = .mk t.k t.s t.n (t.l.map (fullS B M)) := hhead
    rw [show ((fullS B M t).size : Int) = n by omega, hT]
    refine R_ret hg 5 rfl (sealA_tup (mapO_cons (sealA_term rfl rfl rfl rfl) (mapO_cons rfl rfl))) ?_
    rfl

set_option maxRecDepth 100000 in
theorem refApply3_ok (B : Binds) (M : Nat) (hS : Sub B M) (hBl : B.length ≤ 4000) (t : Tm) (hf : t.fairR = true) : PCtr Try.prog 49 [.d (.sl (bindRows B)), t.av] (.tup [(app3 (fullS B M t)).1.av, iV (app3 (fullS B M t)).2]) := by
  have hc := refBecome_ok B M hS hBl _ M t 3000 100 (Nat.le_refl _) (hS.lev t) hf (by omega) (by omega) (by omega) (by omega)
  rw [app3_becR]
  generalize becR (fullS B M t) 3000 100 = q at hc ⊢
  obtain ⟨q1, q2⟩ := q
  refine PCtr.of_R (pf := fun _ => .still) tyOk mixed Try.func49 rfl (by kernel_rfl) (by kernel_rfl) (by simp [Try.ntmps49]) fun w S hg => ?_
  refine R_run hg.ok 1000 rfl rfl ?_
  refine R_call hg.ok (hc) rfl rfl rfl rfl rfl rfl ?_
  refine R_run hg.ok 1000 rfl rfl ?_
  refine R_if rfl rfl (fun h => ?_) (fun h => ?_) <;> refine R_run hg.ok 1000 rfl rfl ?_
  · have h : q2 = 0 := by simpa using h
    rw [if_pos h]
    refine R_ret hg 5 rfl rfl ?_
    rfl
  · have h : ¬ q2 = 0 := by simpa using h
    rw [if_neg h]
    refine R_ret hg 5 rfl rfl ?_
    rfl
end Go.Proofs.Ytppghekipbnjhaa
