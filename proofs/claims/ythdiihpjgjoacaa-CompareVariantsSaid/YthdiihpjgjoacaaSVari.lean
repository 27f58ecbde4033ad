import Derived.Test.YthdiihpjgjoacaaSFit
import Derived.Test.YthdiihpjgjoacaaSRefV
namespace Go.Proofs.Ythdiihpjgjoacaa
open Go PSL Go.Proofs

def nums (n : Nat) : List Int := (List.range n).map fun (i : Nat) => (i : Int)
theorem nums_snoc (n : Nat) : nums n ++ [(n : Int)] = nums (n + 1) := by simp [nums, List.range_succ]
theorem nums_len (n : Nat) : (nums n).length = n := by simp [nums]
theorem toG_nums {V : List Int} {v : Int} (hv : v ∈ V) : toG V (nums V.length) v = placeG V v := by
  obtain ⟨h1, h2, h3⟩ := placeG_mem hv
  rw [h1] at h2 h3
  unfold toG nums
  rw [h1, List.getElem?_map, List.getElem?_range (by omega)]
  simp; omega

set_option maxRecDepth 100000 in
theorem variant_ok (a b : Tm) (ha : Bear a) (hb : Bear b) : PCtr Try.prog 17 [a.av, b.av] (bV (variantT a b)) := by
  refine PCtr.of_R (pf := fun _ => .eff) tyOk mixed Try.func17 rfl (by kernel_rfl) (by kernel_rfl) (by simp [Try.ntmps17]) fun w S hg => ?_
  refine R_run hg.ok 1000 rfl rfl ?_
  refine R_call hg.ok (right_ok a ha.1 (ha.2 1)) rfl rfl rfl rfl rfl rfl ?_
  refine R_run hg.ok 1000 rfl rfl ?_
  rw [rightT_eq]
  refine R_if rfl rfl (fun h1 => ?_) (fun h1 => ?_) <;> refine R_run hg.ok 1000 rfl rfl ?_
  · refine R_call hg.ok (right_ok b hb.1 (hb.2 1)) rfl rfl rfl rfl rfl rfl ?_
    refine R_run hg.ok 1000 rfl rfl ?_
    rw [rightT_eq]
    refine R_if rfl rfl (fun h2 => ?_) (fun h2 => ?_) <;> refine R_run hg.ok 1000 rfl rfl ?_
    · refine R_makeMap hg.ok rfl rfl ?_
      refine R_run hg.ok 1000 rfl rfl ?_
      refine R_makeMap hg.ok rfl rfl ?_
      refine R_run hg.ok 1000 rfl rfl ?_
      refine R_callSO hg.ok hg.gup ⟨rfl, rfl⟩ (fun _ _ _ _ h => by cases h) [2, 3] ([boxR a, boxR b] ++ pobjs (Tm.fitsT a b []).2) (fits_walk ⟨[], fun _ => true⟩ a b [] ha.1) (fun _ => rfl) rfl rfl rfl rfl rfl rfl rfl (by rw [pobjs_ren]; rfl) ?_
      refine R_run hg.ok 1000 rfl rfl ?_
      refine R_ret hg 5 rfl rfl ?_
      unfold variantT; rw [h1, h2]; rfl
    · refine R_ret hg 5 rfl rfl ?_
      unfold variantT; rw [h1, h2]; rfl
  · refine R_ret hg 5 rfl rfl ?_
    unfold variantT; rw [h1]; rfl

set_option maxRecDepth 100000 in
theorem numbered_ok (t : Tm) (hr : t.rightB = true) : PCtr Try.prog 56 [t.av] (numOne t).av := by
  have fa := right_fair hr
  have lf := one_fair fa
  have hsz : t.size < 1000000000 := by have := (Tm.rightB_iff.1 hr).2.1; omega
  have hvl := varsT_one_len t
  refine PCtr.of_R (pf := pfB) tyOk mixed Try.func56 rfl (by kernel_rfl) (by kernel_rfl) (by simp [Try.ntmps56]) fun w S hg => ?_
  refine R_run hg.ok 1000 rfl rfl ?_
  have hv := refVars_ok [t] (by simp [Tm.sizeL]; omega)
  rw [← varsT_with [t] (Tm.fairL_plain _ lf)] at hv
  refine R_call hg.ok hv.one rfl rfl rfl rfl rfl rfl ?_
  refine R_run hg.ok 1000 rfl rfl ?_
  generalize hV : varsT [t] = V at *
  refine R_own 4 1 rfl rfl ?_
  refine R_cut2 (fun _ : Unit => ([(1, .lo 0 0), (2, .lo 1 0), (3, .d (.sl (irows V))), (4, .ow 2 V.length)], [boxR t, .box [.d (.v (.int .i64 0)), .d (.v (.string ByteArray.empty)), .d (.v (.int .i64 0)), .d (.v (.slice none 0 0))], .arr 1 V.length (irows (nums V.length))])) (fun _ => True) rfl ?_ ?_
  · refine R_loop (fun k : Nat => ([(1, .lo 0 0), (2, .lo 1 0), (3, .d (.sl (irows V))), (4, .ow 2 k), (5, iV k)], [boxR t, .box [.d (.v (.int .i64 0)), .d (.v (.string ByteArray.empty)), .d (.v (.int .i64 0)), .d (.v (.slice none 0 0))], .arr 1 k (irows (nums k))])) (fun k => k ≤ V.length) (fun k => V.length - k) 0 (Nat.zero_le _) ⟨.refl _, .refl _, .refl _, .refl _, .refl _, trivial⟩ rfl ?_
    intro j hj
    refine R_run hg.ok 1000 rfl rfl ?_
    refine R_if rfl rfl (fun h => ?_) (fun h => ?_) <;> refine R_run hg.ok 1000 rfl rfl ?_
    · have hj1 : j < V.length := lt_dec h (by rw [irows_length])
      refine R_appendO hg.ok (irows (nums (j + 1))) rfl rfl rfl rfl rfl rfl rfl rfl rfl (by simp) (by simp [one1]) (by rw [← nums_snoc]; exact irows_snoc _ _) (by simp [irows_length, nums_len]; omega) (by simp [irows_length, nums_len]; omega) ?_
      refine R_run hg.ok 1000 rfl rfl ?_
      exact R_next (j + 1) hj1 (by omega) ⟨.refl _, .refl _, .refl _, .refl _, Ent.wrap (by omega) (by omega) (by omega), trivial⟩ rfl
    · have hj1 : V.length ≤ j := ge_dec h (by rw [irows_length])
      obtain rfl : j = V.length := by omega
      exact R_to () trivial ⟨.refl _, .refl _, .refl _, .refl _, trivial⟩ rfl
  rintro _ _
  refine R_freezeO hg.gup 2 [(1, .lo 0 0), (2, .lo 1 0), (3, .d (.sl (irows V))), (4, .d (.sl (irows (nums V.length))))] [boxR t, .box [.d (.v (.int .i64 0)), .d (.v (.string ByteArray.empty)), .d (.v (.int .i64 0)), .d (.v (.slice none 0 0))], .dead] rfl rfl ⟨.refl _, .refl _, .refl _, Ent.frz 2 V.length (irows (nums V.length)), trivial⟩ ⟨ObIn.refl _, ObIn.refl _, by simp [ObIn], trivial⟩ ?_
  refine R_run hg.ok 1000 rfl rfl ?_
  have hVm : ∀ v, v ∈ V ↔ v ∈ Tm.occ t := fun v => by rw [← hV, varsT_mem lf]; simp [Tm.occL]
  refine R_call hg.ok (refTurn_ok V (nums V.length) (by rw [nums_len]; exact Nat.le_refl _) (by rw [nums_len]; omega) t hsz fun d e he hk => ?_) rfl rfl rfl rfl rfl rfl ?_
  · exact (atI_mem 0 ((hVm _).2 (Tm.occ_of he hk (Tm.fair_plain _ fa)))).1
  rw [Tm.turnR_turnT _ t fa, Tm.turn_congr t fa (fun v hv => toG_nums ((hVm v).2 hv)), ← hV]
  refine R_run hg.ok 1000 rfl rfl ?_
  refine R_ret hg 5 rfl rfl ?_
  rfl

set_option maxRecDepth 100000 in
theorem refVariant_ok (a b : Tm) (ha : Bear a) (hb : Bear b) : PCtr Try.prog 18 [a.av, b.av] (bV (variantT a b)) := by
  refine PCtr.of_R (pf := fun _ => .still) tyOk mixed Try.func18 rfl (by kernel_rfl) (by kernel_rfl) (by simp [Try.ntmps18]) fun w S hg => ?_
  refine R_run hg.ok 1000 rfl rfl ?_
  refine R_call hg.ok (refRight_ok a ha.1 ha.2) rfl rfl rfl rfl rfl rfl ?_
  refine R_run hg.ok 1000 rfl rfl ?_
  refine R_if rfl rfl (fun h1 => ?_) (fun h1 => ?_) <;> refine R_run hg.ok 1000 rfl rfl ?_
  · refine R_call hg.ok (refRight_ok b hb.1 hb.2) rfl rfl rfl rfl rfl rfl ?_
    refine R_run hg.ok 1000 rfl rfl ?_
    refine R_if rfl rfl (fun h2 => ?_) (fun h2 => ?_) <;> refine R_run hg.ok 1000 rfl rfl ?_
    · refine R_call hg.ok (numbered_ok a h1) rfl rfl rfl rfl rfl rfl ?_
      refine R_run hg.ok 1000 rfl rfl ?_
      refine R_call hg.ok (numbered_ok b h2) rfl rfl rfl rfl rfl rfl ?_
      refine R_run hg.ok 1000 rfl rfl ?_
      have hn : (numOne a).size < 1000000000 := by unfold numOne; rw [Tm.size_turn]; exact ha.1
      refine R_call hg.ok (refSame_ok (numOne a) (numOne b) hn) rfl rfl rfl rfl rfl rfl ?_
      refine R_run hg.ok 1000 rfl rfl ?_
      refine R_ret hg 5 rfl rfl ?_
      have : (Tm.same (numOne a) (numOne b)) = variantT a b := by
        rw [Bool.eq_iff_iff, Tm.same_iff, ← fits_num h1 h2]; unfold variantT; simp [h1, h2]
      rw [this]; rfl
    · refine R_ret hg 5 rfl rfl ?_
      unfold variantT; rw [h1, h2]; rfl
  · refine R_ret hg 5 rfl rfl ?_
    unfold variantT; rw [h1]; rfl
end Go.Proofs.Ythdiihpjgjoacaa
