import Derived.Test.YthfkhfbhbfpglaaSLex2
namespace Go.Proofs.Ythfkhfbhbfpglaa
open Go PSL Go.Proofs

theorem sgn_two (c : UInt8) : sgnC c = (sgnL2.contains c || decide (c.toNat = 92)) := by
  have := byte_all (p := fun c => sgnC c == (sgnL2.contains c || decide (c.toNat = 92))) (by decide +kernel) c
  simpa using this

set_option maxRecDepth 100000 in
theorem sort8_ok (c : UInt8) : PCtr Try.prog 24 [u8A c] (iV (sortC c)) := by
  have hc := c.toNat_lt
  have r1 : lowC c = true → sortC c = 1 := fun h => by rw [sortC, if_pos h]
  have r2 : grtC c = true → sortC c = 2 := fun h => by have := sort_grt c; rw [h] at this; exact of_decide_eq_true this
  have r3 : dgC c = true → sortC c = 3 := fun h => by have := sort_dig c; rw [h] at this; exact of_decide_eq_true this
  have r5 : blkC c = true → sortC c = 5 := fun h => by have := sort_blk c; rw [h] at this; exact of_decide_eq_true this
  have r4 : sgnC c = true → sortC c = 4 := fun h => by have := sort_sgn c; rw [h] at this; exact of_decide_eq_true this
  have r0 : lowC c = false → grtC c = false → dgC c = false → blkC c = false → sgnC c = false → sortC c = 0 := fun h1 h2 h3 h4 h5 => by simp [sortC, h1, h2, h3, h4, h5]
  have hs := sgn_two c
  refine PCtr.of_R (pf := fun _ => .still) tyOk mixed Try.func24 rfl (by kernel_rfl) (by kernel_rfl) (by simp [Try.ntmps24]) fun w S hg => ?_
  refine R_run hg.ok 1000 rfl rfl ?_
  rcases (by omega : (97 ≤ c.toNat ∧ c.toNat ≤ 122) ∨ (65 ≤ c.toNat ∧ c.toNat ≤ 90) ∨ c.toNat = 95 ∨ (48 ≤ c.toNat ∧ c.toNat ≤ 57) ∨ c.toNat = 32 ∨ c.toNat = 9 ∨ c.toNat = 10 ∨ (c.toNat < 48 ∧ c.toNat ≠ 32 ∧ c.toNat ≠ 9 ∧ c.toNat ≠ 10) ∨ (57 < c.toNat ∧ c.toNat < 65) ∨ (90 < c.toNat ∧ c.toNat < 95) ∨ c.toNat = 96 ∨ 122 < c.toNat) with h | h | h | h | h | h | h | h | h | h | h | h
  · repeat
      first
      | (refine R_if rfl rfl (fun _ => ?_) (fun h => absurd h (by first | (simp; done) | (simp; omega))); refine R_run hg.ok 1000 rfl rfl ?_)
      | (refine R_if rfl rfl (fun h => absurd h (by first | (simp; done) | (simp; omega))) (fun _ => ?_); refine R_run hg.ok 1000 rfl rfl ?_)
    refine R_ret hg 5 rfl rfl ?_
    rw [r1 (by simp [lowC]; omega)]; rfl
  · repeat
      first
      | (refine R_if rfl rfl (fun _ => ?_) (fun h => absurd h (by first | (simp; done) | (simp; omega))); refine R_run hg.ok 1000 rfl rfl ?_)
      | (refine R_if rfl rfl (fun h => absurd h (by first | (simp; done) | (simp; omega))) (fun _ => ?_); refine R_run hg.ok 1000 rfl rfl ?_)
    refine R_ret hg 5 rfl rfl ?_
    rw [r2 (by simp [grtC]; omega)]; rfl
  · repeat
      first
      | (refine R_if rfl rfl (fun _ => ?_) (fun h => absurd h (by first | (simp; done) | (simp; omega))); refine R_run hg.ok 1000 rfl rfl ?_)
      | (refine R_if rfl rfl (fun h => absurd h (by first | (simp; done) | (simp; omega))) (fun _ => ?_); refine R_run hg.ok 1000 rfl rfl ?_)
    refine R_ret hg 5 rfl rfl ?_
    rw [r2 (by simp [grtC]; omega)]; rfl
  · repeat
      first
      | (refine R_if rfl rfl (fun _ => ?_) (fun h => absurd h (by first | (simp; done) | (simp; omega))); refine R_run hg.ok 1000 rfl rfl ?_)
      | (refine R_if rfl rfl (fun h => absurd h (by first | (simp; done) | (simp; omega))) (fun _ => ?_); refine R_run hg.ok 1000 rfl rfl ?_)
    refine R_ret hg 5 rfl rfl ?_
    rw [r3 (by simp [dgC]; omega)]; rfl
  · repeat
      first
      | (refine R_if rfl rfl (fun _ => ?_) (fun h => absurd h (by first | (simp; done) | (simp; omega))); refine R_run hg.ok 1000 rfl rfl ?_)
      | (refine R_if rfl rfl (fun h => absurd h (by first | (simp; done) | (simp; omega))) (fun _ => ?_); refine R_run hg.ok 1000 rfl rfl ?_)
    refine R_ret hg 5 rfl rfl ?_
    rw [r5 (by simp [blkC]; omega)]; rfl
  · repeat
      first
      | (refine R_if rfl rfl (fun _ => ?_) (fun h => absurd h (by first | (simp; done) | (simp; omega))); refine R_run hg.ok 1000 rfl rfl ?_)
      | (refine R_if rfl rfl (fun h => absurd h (by first | (simp; done) | (simp; omega))) (fun _ => ?_); refine R_run hg.ok 1000 rfl rfl ?_)
    refine R_ret hg 5 rfl rfl ?_
    rw [r5 (by simp [blkC]; omega)]; rfl
  · repeat
      first
      | (refine R_if rfl rfl (fun _ => ?_) (fun h => absurd h (by first | (simp; done) | (simp; omega))); refine R_run hg.ok 1000 rfl rfl ?_)
      | (refine R_if rfl rfl (fun h => absurd h (by first | (simp; done) | (simp; omega))) (fun _ => ?_); refine R_run hg.ok 1000 rfl rfl ?_)
    refine R_ret hg 5 rfl rfl ?_
    rw [r5 (by simp [blkC]; omega)]; rfl
  all_goals
    repeat
      first
      | (refine R_if rfl rfl (fun _ => ?_) (fun h => absurd h (by first | (simp; done) | (simp; omega))); refine R_run hg.ok 1000 rfl rfl ?_)
      | (refine R_if rfl rfl (fun h => absurd h (by first | (simp; done) | (simp; omega))) (fun _ => ?_); refine R_run hg.ok 1000 rfl rfl ?_)
    refine R_loop (fun k : Nat => ([(0, u8A c), (3, txA sgnL2), (4, iV k)], [])) (fun k => k ≤ 16 ∧ sgnL2.contains c = (sgnL2.drop k).contains c) (fun k => 16 - k) 0 ⟨Nat.zero_le _, rfl⟩ ⟨.refl _, .refl _, .refl _, trivial⟩ rfl ?_
    rintro k ⟨hk, hm⟩
    refine R_run hg.ok 1000 rfl rfl ?_
    refine R_if rfl rfl (fun h1 => ?_) (fun h1 => ?_) <;> refine R_run hg.ok 1000 rfl rfl ?_
    · have hk1 : k < sgnL2.length := lt_dec h1 (by rw [Tx_size])
      have hk2 : k < 16 := hk1
      have e1 : sgnL2[k]? = some sgnL2[k] := List.getElem?_eq_getElem hk1
      rw [List.drop_eq_getElem_cons hk1, List.contains_cons] at hm
      generalize sgnL2[k] = d at e1 hm
      refine R_indexS hg.ok rfl rfl rfl rfl rfl (Int.natCast_nonneg k) (b := d) (by rw [Tx_get]; exact e1) ?_
      refine R_run hg.ok 1000 rfl rfl ?_
      refine R_if rfl rfl (fun h2 => ?_) (fun h2 => ?_) <;> refine R_run hg.ok 1000 rfl rfl ?_
      · have h2 : d = c := UInt8.toNat_inj.1 (by simp at h2; omega)
        refine R_ret hg 5 rfl rfl ?_
        rw [r4 (by rw [hs, hm, h2]; simp)]; rfl
      · have h2 : ¬ d = c := fun e => by rw [e] at h2; simp at h2
        refine R_next (k + 1) ⟨hk2, ?_⟩ (by omega) ⟨.refl _, .refl _, Ent.wrap (by omega) (by omega) (by omega), trivial⟩ rfl
        rw [hm, show (c == d) = false by simp; exact fun e => h2 e.symm, Bool.false_or]
    · have hk1 : sgnL2.length ≤ k := ge_dec h1 (by rw [Tx_size])
      have hf : sgnL2.contains c = false := by rw [hm, List.drop_eq_nil_of_le hk1]; rfl
      rw [hf, Bool.false_or] at hs
      refine R_if rfl rfl (fun h2 => ?_) (fun h2 => ?_) <;> refine R_run hg.ok 1000 rfl rfl ?_
      · have h2 : c.toNat = 92 := by simp at h2; omega
        refine R_ret hg 5 rfl rfl ?_
        rw [r4 (by rw [hs, h2]; simp)]; rfl
      · have h2 : ¬ c.toNat = 92 := by simp at h2; omega
        refine R_ret hg 5 rfl rfl ?_
        rw [r0 (by simp [lowC]; omega) (by simp [grtC]; omega) (by simp [dgC]; omega) (by simp [blkC]; omega) (by rw [hs]; simp [h2])]; rfl
end Go.Proofs.Ythfkhfbhbfpglaa
