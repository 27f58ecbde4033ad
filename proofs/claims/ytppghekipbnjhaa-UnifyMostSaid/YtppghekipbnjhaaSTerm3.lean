import Derived.Test.YtppghekipbnjhaaSTerm2
import Derived.Test.YtppghekipbnjhaaPlA
namespace Go.Proofs.Ytppghekipbnjhaa
open Go PSL Go.Proofs
set_option maxRecDepth 100000 in
theorem named_ok (s : ByteArray) (hs : s.size < 1000000000) : PCtr Try.prog 100 [.d (.v (.string s))] (bV (namedB s)) := by
  refine PCtr.of_R (pf := fun _ => .still) tyOk mixed Try.func100 rfl (by kernel_rfl) (by kernel_rfl) (by simp [Try.ntmps100]) fun w S hg => ?_
  refine R_run hg.ok 1000 rfl rfl ?_
  refine R_loop (fun k : Nat => ([(0, .d (.v (.string s))), (5, iV s.size), (6, iV k)], [])) (fun k => k ≤ s.size ∧ ∀ i (hi : i < s.size), i < k → byteOk s[i] = true) (fun k => s.size - k) 0 ?_ ?_ rfl ?_
  · exact ⟨Nat.zero_le _, fun i _ h => absurd h (Nat.not_lt_zero _)⟩
  · exact ⟨.refl _, .refl _, .refl _, trivial⟩
  intro k hk
  refine R_run hg.ok 1000 rfl rfl ?_
  refine R_if rfl rfl (fun h1 => ?_) (fun h1 => ?_)
  · have hk1 : k < s.size := by have := of_decide_eq_true h1; omega
    refine R_run hg.ok 1000 rfl rfl ?_
    refine R_indexS hg.ok rfl rfl rfl rfl rfl (Int.natCast_nonneg k) (byte_at hk1) ?_
    refine R_run hg.ok 1000 rfl rfl ?_
    refine R_if rfl rfl (fun h2 => ?_) (fun h2 => ?_)
    · refine R_run hg.ok 1000 rfl rfl ?_
      refine R_ret hg 5 rfl rfl ?_
      have : byteOk s[k] = false := by unfold byteOk; rw [h2]; rfl
      simp only [namedB, not_all_bytes hk1 this]; rfl
    refine R_run hg.ok 1000 rfl rfl ?_
    refine R_indexS hg.ok rfl rfl rfl rfl rfl (Int.natCast_nonneg k) (byte_at hk1) ?_
    refine R_run hg.ok 1000 rfl rfl ?_
    refine R_if rfl rfl (fun h3 => ?_) (fun h3 => ?_)
    · refine R_run hg.ok 1000 rfl rfl ?_
      refine R_ret hg 5 rfl rfl ?_
      have : byteOk s[k] = false := by unfold byteOk; rw [h3]; simp
      simp only [namedB, not_all_bytes hk1 this]; rfl
    refine R_run hg.ok 1000 rfl rfl ?_
    refine R_next (k + 1) ⟨hk1, fun i hi hik => ?_⟩ (by omega) ⟨.refl _, .refl _, Ent.wrap (by omega) (by omega) (by omega), trivial⟩ rfl
    rcases Nat.lt_or_ge i k with h | h
    · exact hk.2 i hi h
    · have : i = k := by omega
      subst this
      unfold byteOk; rw [h2, h3]; rfl
  · have h4 : ¬ ((k : Int) < (s.size : Int)) := of_decide_eq_false h1
    have hall : s.data.toList.all byteOk = true := all_bytes fun i hi => hk.2 i hi (by omega)
    refine R_run hg.ok 1000 rfl rfl ?_
    refine R_if rfl rfl (fun h2 => ?_) (fun h2 => ?_)
    · refine R_run hg.ok 1000 rfl rfl ?_
      refine R_ret hg 5 rfl rfl ?_
      simp only [namedB, hall, h2, Bool.true_and]; rfl
    · refine R_run hg.ok 1000 rfl rfl ?_
      refine R_ret hg 5 rfl rfl ?_
      simp only [namedB, hall, h2, Bool.true_and]; rfl
end Go.Proofs.Ytppghekipbnjhaa
