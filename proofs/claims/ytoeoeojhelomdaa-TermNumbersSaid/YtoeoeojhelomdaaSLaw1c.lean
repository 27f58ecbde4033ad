import Derived.Test.YtoeoeojhelomdaaSLaw1b
import Derived.Test.YtoeoeojhelomdaaPlCut
namespace Go.Proofs.Ytoeoeojhelomdaa
open Go PSL Go.Proofs

theorem els1 {t : Tm} (h : ∀ x e, e ∈ t.els x → e.2.s.size < 1000000000) : ∀ e ∈ t.els 1, e.2.s.size < 1000000000 := fun e he => h 1 e he

set_option maxRecDepth 100000 in
theorem termShifts_ok (t : Tm) (ht : t.Ok) (by_ : Int) (hby : I64 by_) (m : Int) (hm : 0 ≤ m ∧ m ≤ 65535) : PCtr Try.prog 11 [t.av, iV by_, .d (.v (.int .u16 m))] (bV true) := by
  refine PCtr.of_R (pf := fun _ => .still) tyOk mixed Try.func11 rfl (by kernel_rfl) (by kernel_rfl) (by simp [Try.ntmps11]) fun w S hg => ?_
  refine R_run hg.ok 1000 rfl rfl ?_
  refine R_call hg.ok (some_ok [t] (by simpa using ht) (by simp)).one rfl rfl rfl rfl rfl rfl ?_
  refine R_run hg.ok 1000 rfl rfl ?_
  refine R_if rfl rfl (fun h => ?_) (fun h => ?_) <;> refine R_run hg.ok 1000 rfl rfl ?_
  · refine R_call hg.ok knows1_ok rfl rfl rfl rfl rfl rfl ?_
    refine R_run hg.ok 1000 rfl rfl ?_
    refine R_ret hg 5 rfl rfl ?_
    rfl
  have hs : Tm.someT [t] = true := by simpa using h
  obtain ⟨hsz, hns⟩ := els_of_some hs t (by simp)
  refine R_call hg.ok (shift_ok t by_ hsz (els1 hns)) rfl rfl rfl rfl rfl rfl ?_
  refine R_run hg.ok 1000 rfl rfl ?_
  refine R_call hg.ok (refRight_ok t hsz hns) rfl rfl rfl rfl rfl rfl ?_
  refine R_run hg.ok 1000 rfl rfl ?_
  refine R_if rfl rfl (fun h => ?_) (fun h => ?_) <;> refine R_run hg.ok 1000 rfl rfl ?_
  · have hr : t.rightB = false := by simpa using h
    rw [shift_none hr]
    refine R_run hg.ok 1000 rfl rfl ?_
    refine R_call hg.ok (refSame_ok zeroT zeroT (by decide)) rfl rfl rfl rfl rfl rfl ?_
    refine R_run hg.ok 1000 rfl rfl ?_
    refine R_if rfl rfl (fun _ => ?_) (fun h => absurd h (by rw [Tm.same_refl]; decide)) <;> refine R_run hg.ok 1000 rfl rfl ?_
    refine R_if rfl rfl (fun _ => ?_) (fun h => absurd h (by decide)) <;> refine R_run hg.ok 1000 rfl rfl ?_
    refine R_call hg.ok knows1_ok rfl rfl rfl rfl rfl rfl ?_
    refine R_run hg.ok 1000 rfl rfl ?_
    refine R_ret hg 5 rfl rfl ?_
    rfl
  have hr : t.rightB = true := by simpa using h
  have hf := one_fair (right_fair hr)
  refine R_call hg.ok (refVars_ok [t] (by simp [Tm.sizeL]; omega)).one rfl rfl rfl rfl rfl rfl ?_
  refine R_run hg.ok 1000 rfl rfl ?_
  rw [← varsT_with [t] (Tm.fairL_plain _ hf)]
  have hvl := varsT_one_len t
  have hbad := shift_bad hby hr
  have hgood := shift_good (by_ := by_) hr
  have htwice := shift_twice (by_ := by_) (m := m) hr
  have hvr : ∀ v ∈ varsT [t], 0 ≤ v ∧ v < 1000000 := fun v hv => varsT_range hf hv
  have hvocc : ∀ v, v ∈ varsT [t] ↔ v ∈ Tm.occ t := fun v => by rw [varsT_mem hf]; simp [Tm.occL]
  generalize hX : shiftT t by_ = X at *
  obtain ⟨x, er⟩ := X
  generalize hV : varsT [t] = V at *
  simp only at *
  -- ok at first
  refine R_cut1 (fun _ : Unit => ([(1, iV by_), (2, .d (.v (.int .u16 m))), (3, .lo 0 0), (7, .lo 1 0), (8, iV er), (9, .d (.sl (irows V))), (10, .d (.v (.slice none 0 0))), (11, bV (decide (by_ ≥ 0) && decide (by_ ≤ 1000000)))], [boxR t, boxR x])) (fun _ => True) rfl ?_ ?_
  · refine R_if rfl rfl (fun h => ?_) (fun h => ?_) <;> refine R_run hg.ok 1000 rfl rfl ?_
    · exact R_to () trivial ⟨.refl _, .refl _, .refl _, .refl _, .refl _, .refl _, .refl _, Ent.bool (by rw [h, Bool.true_and]), trivial⟩ rfl
    · exact R_to () trivial ⟨.refl _, .refl _, .refl _, .refl _, .refl _, .refl _, .refl _, Ent.ffb (by rw [h, Bool.false_and]), trivial⟩ rfl
  rintro _ _
  refine R_run hg.ok 1000 rfl rfl ?_
  refine R_own 10 1 rfl rfl ?_
  refine R_cut2 (fun p : Nat × List Int => ([(1, iV by_), (2, .d (.v (.int .u16 m))), (3, .lo 0 0), (7, .lo 1 0), (8, iV er), (9, .d (.sl (irows V))), (10, .ow 2 p.1), (11, bV (decide (by_ ≥ 0) && decide (by_ ≤ 1000000) && V.all (smallV by_)))], [boxR t, boxR x, .arr 1 p.1 (irows p.2)])) (fun p => ((decide (by_ ≥ 0) && decide (by_ ≤ 1000000) && V.all (smallV by_)) = true → p.2 = V.map fun v => IntKind.i64.wrap (v + by_)) ∧ p.2.length ≤ V.length) rfl ?_ ?_
  · generalize hb0 : (decide (by_ ≥ 0) && decide (by_ ≤ 1000000)) = b0
    refine R_loop (fun x' : Nat × Bool => ([(1, iV by_), (2, .d (.v (.int .u16 m))), (3, .lo 0 0), (7, .lo 1 0), (8, iV er), (9, .d (.sl (irows V))), (10, .ow 2 x'.1), (11, bV x'.2), (12, iV x'.1)], [boxR t, boxR x, .arr 1 x'.1 (irows ((V.take x'.1).map fun v => IntKind.i64.wrap (v + by_)))])) (fun x' => x'.1 ≤ V.length ∧ x'.2 = (b0 && (V.take x'.1).all (smallV by_))) (fun x' => V.length - x'.1) (0, b0) ⟨Nat.zero_le _, by simp⟩ ⟨.refl _, .refl _, .refl _, .refl _, .refl _, .refl _, .refl _, .refl _, .refl _, trivial⟩ rfl ?_
    rintro ⟨k, ok⟩ ⟨hk, hm'⟩
    simp only at hk hm'
    refine R_run hg.ok 1000 rfl rfl ?_
    refine R_if rfl rfl (fun h => ?_) (fun h => ?_) <;> refine R_run hg.ok 1000 rfl rfl ?_
    · have hk1 : k < V.length := lt_dec h (by rw [irows_length])
      have e1 : V[k]? = some V[k] := List.getElem?_eq_getElem hk1
      refine R_if rfl rfl (fun h2 => ?_) (fun h2 => ?_) <;> refine R_run hg.ok 1000 rfl rfl ?_
      · have h2 : ok = true := h2
        have hv := hvr V[k] (List.getElem_mem hk1)
        have hw : IntKind.i64.wrap ((V[k] : Int) + by_) = IntKind.i64.wrap (V[k] + by_) := rfl
        have hmap : ((V.take k).map fun v => IntKind.i64.wrap (v + by_)) ++ [IntKind.i64.wrap (V[k] + by_)] = (V.take (k + 1)).map fun v => IntKind.i64.wrap (v + by_) := by rw [List.take_add_one, e1, List.map_append]; rfl
        refine R_index hg.ok rfl rfl rfl rfl rfl rfl (Int.natCast_nonneg k) (irows_get e1) rfl ?_
        refine R_run hg.ok 1000 rfl rfl ?_
        refine R_appendO hg.ok (irows ((V.take (k + 1)).map fun v => IntKind.i64.wrap (v + by_))) rfl rfl rfl rfl rfl rfl rfl rfl rfl (by simp) (by simp [one1]) (by rw [← hmap]; exact irows_snoc _ _) (by simp [irows_length]; omega) (by simp [irows_length]; omega) ?_
        refine R_run hg.ok 1000 rfl rfl ?_
        refine R_index hg.ok rfl rfl rfl rfl rfl rfl (Int.natCast_nonneg k) (irows_get e1) rfl ?_
        refine R_run hg.ok 1000 rfl rfl ?_
        refine R_next (k + 1, smallV by_ V[k]) ⟨hk1, ?_⟩ (by simp only; omega) ⟨.refl _, .refl _, .refl _, .refl _, .refl _, .refl _, .refl _, .refl _, Ent.wrap (by simp only; omega) (by simp only; omega) (by simp only; omega), trivial⟩ rfl
        rw [h2] at hm'
        have : b0 = true ∧ (V.take k).all (smallV by_) = true := by simpa using hm'.symm
        rw [List.take_add_one, e1, List.all_append, this.1, this.2]; simp
      · have h2 : ok = false := h2
        refine R_to (k, (V.take k).map fun v => IntKind.i64.wrap (v + by_)) ?_ ⟨.refl _, .refl _, .refl _, .refl _, .refl _, .refl _, .refl _, ?_, trivial⟩ rfl
        all_goals
          have hff : (b0 && V.all (smallV by_)) = false := by
            rw [h2] at hm'
            cases hb : b0
            · rfl
            · rw [hb] at hm'
              simp only [Bool.true_and] at hm' ⊢
              rw [← List.take_append_drop k V, List.all_append, ← hm']; rfl
        · simp only [hff]; exact ⟨(fun h => by cases h), by simp; omega⟩
        · exact Ent.bool (h2.trans hff.symm)
    · have hk1 : V.length ≤ k := ge_dec h (by rw [irows_length])
      rw [List.take_of_length_le hk1] at hm'
      refine R_to (k, (V.take k).map fun v => IntKind.i64.wrap (v + by_)) ⟨fun _ => by rw [List.take_of_length_le hk1], by simp; omega⟩ ⟨.refl _, .refl _, .refl _, .refl _, .refl _, .refl _, .refl _, Ent.bool hm', trivial⟩ rfl
  rintro ⟨n, to⟩ ⟨hto, htl⟩
  simp only at hto htl
  refine R_freezeO hg.gup 2 [(1, iV by_), (2, .d (.v (.int .u16 m))), (3, .lo 0 0), (7, .lo 1 0), (8, iV er), (9, .d (.sl (irows V))), (10, .d (.sl (irows to))), (11, bV (decide (by_ ≥ 0) && decide (by_ ≤ 1000000) && V.all (smallV by_)))] [boxR t, boxR x, .dead] rfl rfl ⟨.refl _, .refl _, .refl _, .refl _, .refl _, .refl _, Ent.frz 2 n (irows to), .refl _, trivial⟩ ⟨ObIn.refl _, ObIn.refl _, by simp [ObIn], trivial⟩ ?_
  generalize hok1 : (decide (by_ ≥ 0) && decide (by_ ≤ 1000000) && V.all (smallV by_)) = ok1 at *
  refine R_run hg.ok 1000 rfl rfl ?_
  refine R_cut2 (fun _ : Unit => ([(1, iV by_), (2, .d (.v (.int .u16 m))), (3, .lo 0 0), (7, .lo 1 0), (8, iV er), (9, .d (.sl (irows V))), (10, .d (.sl (irows to))), (11, bV (okF V by_))], [boxR t, boxR x, .dead])) (fun _ => True) rfl ?_ ?_
  · have hokF : okF V by_ = (ok1 || (decide (by_ > 1000000) && V.isEmpty)) := by unfold okF; rw [hok1]
    refine R_if rfl rfl (fun h => ?_) (fun h => ?_) <;> refine R_run hg.ok 1000 rfl rfl ?_
    · refine R_if rfl rfl (fun h2 => ?_) (fun h2 => ?_) <;> refine R_run hg.ok 1000 rfl rfl ?_
      · have h2 : V.isEmpty = true := by cases V with
          | nil => rfl
          | cons _ _ => simp [irows_length] at h2; omega
        exact R_to () trivial ⟨.refl _, .refl _, .refl _, .refl _, .refl _, .refl _, .refl _, Ent.ttb (by rw [hokF, h, h2]; simp), trivial⟩ rfl
      · have h2 : V.isEmpty = false := by cases V with
          | nil => simp [irows_length] at h2
          | cons _ _ => rfl
        exact R_to () trivial ⟨.refl _, .refl _, .refl _, .refl _, .refl _, .refl _, .refl _, Ent.bool (by rw [hokF, h2]; simp), trivial⟩ rfl
    · exact R_to () trivial ⟨.refl _, .refl _, .refl _, .refl _, .refl _, .refl _, .refl _, Ent.bool (by rw [hokF, h]; simp), trivial⟩ rfl
  rintro _ _
  refine R_run hg.ok 1000 rfl rfl ?_
  refine R_if rfl rfl (fun h => ?_) (fun h => ?_) <;> refine R_run hg.ok 1000 rfl rfl ?_
  · have hno : okF V by_ = false := by simpa using h
    obtain ⟨rfl, rfl⟩ := Prod.mk.inj (hbad hno)
    refine R_call hg.ok (refSame_ok zeroT zeroT (by decide)) rfl rfl rfl rfl rfl rfl ?_
    refine R_run hg.ok 1000 rfl rfl ?_
    refine R_if rfl rfl (fun _ => ?_) (fun h => absurd h (by rw [Tm.same_refl]; decide)) <;> refine R_run hg.ok 1000 rfl rfl ?_
    refine R_if rfl rfl (fun _ => ?_) (fun h => absurd h (by decide)) <;> refine R_run hg.ok 1000 rfl rfl ?_
    refine R_call hg.ok knows1_ok rfl rfl rfl rfl rfl rfl ?_
    refine R_run hg.ok 1000 rfl rfl ?_
    refine R_ret hg 5 rfl rfl ?_
    rfl
  have hyes : okF V by_ = true := by simpa using h
  obtain ⟨he, h0, h1, h2⟩ := hgood hyes
  obtain ⟨hx, rfl⟩ := Prod.mk.inj he
  have hxR : x.rightB = true := by
    rw [hx]
    refine Tm.right_turn hr fun v hv => ?_
    obtain ⟨h3, h4, h5⟩ := h2 v ((hvocc v).2 hv)
    simp only [h5]; omega
  have hxf := right_fair hxR
  have hwm : IntKind.i64.wrap m = m := w64 (by omega) (by omega)
  have ht2 : V ≠ [] → shiftT x (IntKind.i64.wrap m) = shiftT t (IntKind.i64.wrap (by_ + IntKind.i64.wrap m)) := by rw [hwm, hx]; exact htwice hyes hm
  have hxs := right_small hxR
  refine R_call hg.ok (shift_ok x (IntKind.i64.wrap m) hxs (fair_names hxf 1)) rfl rfl rfl rfl rfl rfl ?_
  refine R_run hg.ok 1000 rfl rfl ?_
  refine R_call hg.ok (shift_ok t (IntKind.i64.wrap (by_ + IntKind.i64.wrap m)) hsz (els1 hns)) rfl rfl rfl rfl rfl rfl ?_
  refine R_run hg.ok 1000 rfl rfl ?_
  have hys : (shiftT x (IntKind.i64.wrap m)).1.size < 1000000000 := by
    unfold shiftT
    split
    · split
      · exact (by decide)
      · split
        · exact (by decide)
        · rw [Tm.size_turn]; exact hxs
    · exact (by decide)
  refine R_cut1 (fun _ : Unit => ([(3, .lo 0 0), (7, .lo 1 0), (8, iV 0), (9, .d (.sl (irows V))), (10, .d (.sl (irows to))), (123, .ff)], [boxR t, boxR x, .dead, boxR (shiftT x (IntKind.i64.wrap m)).1, boxR (shiftT t (IntKind.i64.wrap (by_ + IntKind.i64.wrap m))).1])) (fun _ => True) rfl ?_ ?_
  · refine R_if rfl rfl (fun h => ?_) (fun h => ?_) <;> refine R_run hg.ok 1000 rfl rfl ?_
    · have hne : V ≠ [] := by rintro rfl; simp [irows] at h
      have ht2 := ht2 hne
      refine R_if rfl rfl (fun h => ?_) (fun h => ?_) <;> refine R_run hg.ok 1000 rfl rfl ?_
      · exfalso; rw [ht2] at h; simp at h
      · refine R_call hg.ok (refSame_ok _ _ hys) rfl rfl rfl rfl rfl rfl ?_
        refine R_run hg.ok 1000 rfl rfl ?_
        exact R_to () trivial ⟨.refl _, .refl _, .refl _, .refl _, .refl _, ent_ff (by rw [ht2, Tm.same_refl]; rfl), trivial⟩ rfl
    · exact R_to () trivial ⟨.refl _, .refl _, .refl _, .refl _, .refl _, .refl _, trivial⟩ rfl
  rintro _ _
  refine R_run hg.ok 1000 rfl rfl ?_
  have hcase : (ok1 = true ∧ to = V.map fun v => IntKind.i64.wrap (v + by_)) ∨ V = [] := by
    cases hb : ok1
    · right
      unfold okF at hyes
      rw [hok1, hb] at hyes
      simpa using (by simpa using hyes : _ ∧ _).2
    · exact .inl ⟨rfl, hto hb⟩
  have hvt : V.length ≤ to.length := by
    rcases hcase with ⟨_, h⟩ | h
    · rw [h]; simp
    · rw [h]; simp
  refine R_call hg.ok (refTurn_ok V to hvt (by omega) t hsz fun d e he hk => ?_) rfl rfl rfl rfl rfl rfl ?_
  · refine (atI_mem 0 ((hvocc _).2 ?_)).1
    exact Tm.occ_of he hk (Tm.fair_plain t (right_fair hr))
  refine R_run hg.ok 1000 rfl rfl ?_
  have heq : Tm.turnR (toG V to) t = x := by
    rw [Tm.turnR_turnT _ t (right_fair hr), hx]
    refine Tm.turn_congr t (right_fair hr) fun v hv => ?_
    have hv' := (hvocc v).2 hv
    rcases hcase with ⟨_, h⟩ | h
    · unfold toG; rw [h]; exact getD_map hv'
    · rw [h] at hv'; simp at hv'
  refine R_call hg.ok (refSame_ok x (Tm.turnR (toG V to) t) hxs) rfl rfl rfl rfl rfl rfl ?_
  refine R_run hg.ok 1000 rfl rfl ?_
  refine R_if rfl rfl (fun _ => ?_) (fun h => absurd h (by rw [heq, Tm.same_refl]; decide)) <;> refine R_run hg.ok 1000 rfl rfl ?_
  refine R_if rfl rfl (fun _ => ?_) (fun h => absurd h (by decide)) <;> refine R_run hg.ok 1000 rfl rfl ?_
  refine R_call hg.ok knows1_ok rfl rfl rfl rfl rfl rfl ?_
  refine R_run hg.ok 1000 rfl rfl ?_
  refine R_ret hg 5 rfl rfl ?_
  rfl
end Go.Proofs.Ytoeoeojhelomdaa
