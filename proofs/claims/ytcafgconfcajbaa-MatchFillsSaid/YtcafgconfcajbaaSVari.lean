import Derived.Test.YtcafgconfcajbaaSFit
import Derived.Test.YtcafgconfcajbaaSRefV
namespace Go.Proofs.Ytcafgconfcajbaa
open Go PSL Go.Proofs

def nums (n : Nat) : List Int := (List.range n).map fun (i : Nat) => (i : Int)
theorem nums_snoc (n : Nat) : nums n ++ [(n : Int)] = nums (n + 1) := by simp [nums, List.range_succ]
theorem nums_len (n : Nat) : (nums n).length = n := by simp [nums]
theorem toG_nums {V : List Int} {v : Int} (hv : v ∈ V) : toG V (nums V.length) v = placeG V v := by
  obtain ⟨h1, h2, h3⟩ := placeG_mem hv
  rw [h1] at h2 h3
  unfold toG nums
  rw [h1, List.getElem?_map, List.getElem?_range (by omega)]
  simp; omega

set_option maxRecDepth 100000 in
theorem variant_ok (a b : Tm) (ha : Bear a) (hb : Bear b) : PCtr Try.prog 25 [a.av, b.av] (bV (variantT a b)) := by
  refine PCtr.of_R (pf := fun _ => .eff) tyOk mixed Try.func25 rfl (by kernel_rfl) (by kernel_rfl) (by simp [Try.ntmps25]) fun w S hg => ?_
  refine R_run hg.ok 1000 rfl rfl ?_
  refine R_call hg.ok (right_ok a ha.1 (ha.2 1)) rfl rfl rfl rfl rfl rfl ?_
  refine R_run hg.ok 1000 rfl rfl ?_
  rw [rightT_eq]
  refine R_if rfl rfl (fun h1 => ?_) (fun h1 => ?_) <;> refine R_run hg.ok 1000 rfl rfl ?_
  · refine R_call hg.ok (right_ok b hb.1 (hb.2 1)) rfl rfl rfl rfl rfl rfl ?_
    refine R_run hg.ok 1000 rfl rfl ?_
    rw [rightT_eq]
    refine R_if rfl rfl (fun h2 => ?_) (fun h2 => ?_) <;> refine R_run hg.ok 1000 rfl rfl ?_
    · refine R_makeMap hg.ok rfl rfl ?_
      refine R_run hg.ok 1000 rfl rfl ?_
      refine R_makeMap hg.ok rfl rfl ?_
      refine R_run hg.ok 1000 rfl rfl ?_
      refine R_callSO hg.ok hg.gup ⟨rfl, rfl⟩ (fun _ _ _ _ h => by cases h) [2, 3] ([boxR a, boxR b] ++ pobjs (Tm.fitsT a b []).2) (fits_walk ⟨[], fun _ => true⟩ a b [] ha.1) (fun _ => rfl) rfl rfl rfl rfl rfl rfl rfl (by rw [pobjs_ren]; rfl) ?_
      refine R_run hg.ok 1000 rfl rfl ?_
      refine R_ret hg 5 rfl rfl ?_
      unfold variantT; rw [h1, h2]; rfl
    · refine R_ret hg 5 rfl rfl ?_
      unfold variantT; rw [h1, h2]; rfl
  · refine R_ret hg 5 rfl rfl ?_
    unfold variantT; rw [h1]; rfl
end Go.Proofs.Ytcafgconfcajbaa
