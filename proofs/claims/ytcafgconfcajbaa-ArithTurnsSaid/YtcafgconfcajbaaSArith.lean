import Derived.Test.YtcafgconfcajbaaSRef1
import Derived.Test.YtcafgconfcajbaaSTerm4
import Derived.Test.YtcafgconfcajbaaPlArith
import Derived.Test.YtcafgconfcajbaaPlA
namespace Go.Proofs.Ytcafgconfcajbaa
open Go PSL Go.Proofs

/-- What a deed answers. -/
def Deed (f : Nat) (s : ByteArray) : Prop := ∀ a b : Int, I64 a → I64 b → ∃ v, PCtr Try.prog f [iV a, iV b] (.tup [iV v, bV (doX s a b).2]) ∧ ((doX s a b).2 = true → v = (doX s a b).1)

theorem chk_1 {x v : Int} (h : inR x = true → v = x) : (chk x).2 = true → v = (chk x).1 := fun h2 => by
  rw [chk_2] at h2
  rw [h h2]; unfold chk; rw [if_pos h2]

set_option maxRecDepth 100000 in
theorem deed1_ok : Deed 70 sPlus := fun a b ha hb => by
  obtain ⟨h1, h2⟩ := raw_add ha hb
  rw [doX_plus]
  refine ⟨_, ?_, chk_1 h2⟩
  rw [chk_2, ← h1]
  refine PCtr.of_R (pf := fun _ => .still) tyOk mixed Try.func70 rfl (by kernel_rfl) (by kernel_rfl) (by simp [Try.ntmps70]) fun w S hg => ?_
  refine R_run hg.ok 1000 rfl rfl ?_
  refine R_ret hg 5 rfl rfl ?_
  rfl

set_option maxRecDepth 100000 in
theorem deed2_ok : Deed 71 sMinus := fun a b ha hb => by
  obtain ⟨h1, h2⟩ := raw_sub ha hb
  rw [doX_minus]
  refine ⟨_, ?_, chk_1 h2⟩
  rw [chk_2, ← h1]
  refine PCtr.of_R (pf := fun _ => .still) tyOk mixed Try.func71 rfl (by kernel_rfl) (by kernel_rfl) (by simp [Try.ntmps71]) fun w S hg => ?_
  refine R_run hg.ok 1000 rfl rfl ?_
  refine R_ret hg 5 rfl rfl ?_
  rfl

set_option maxRecDepth 100000 in
theorem deed3_ok : Deed 72 sMul := fun a b ha hb => by
  rw [doX_mul]
  by_cases h0 : a = 0 ∨ b = 0
  · have e : a * b = 0 := by rcases h0 with h | h <;> rw [h] <;> simp
    rw [e, chk_in (by unfold I64; omega)]
    refine ⟨0, ?_, fun _ => rfl⟩
    refine PCtr.of_R (pf := fun _ => .still) tyOk mixed Try.func72 rfl (by kernel_rfl) (by kernel_rfl) (by simp [Try.ntmps72]) fun w S hg => ?_
    refine R_run hg.ok 1000 rfl rfl ?_
    refine R_if rfl rfl (fun h1 => ?_) (fun h1 => ?_) <;> refine R_run hg.ok 1000 rfl rfl ?_
    · refine R_ret hg 5 rfl rfl ?_
      rfl
    · refine R_if rfl rfl (fun h2 => ?_) (fun h2 => ?_) <;> refine R_run hg.ok 1000 rfl rfl ?_
      · refine R_ret hg 5 rfl rfl ?_
        rfl
      · simp at h1 h2; omega
  · have h0a : a ≠ 0 := fun e => h0 (.inl e)
    have h0b : b ≠ 0 := fun e => h0 (.inr e)
    by_cases h1 : a = -1
    · have e : a * b = -b := by rw [h1]; omega
      rw [e]
      unfold I64 at hb
      refine ⟨IntKind.i64.wrap (0 - b), ?_, chk_1 fun h => ?_⟩
      · rw [chk_2, show inR (-b) = (b != -9223372036854775808) by
          rw [Bool.eq_iff_iff, inR_iff]; unfold I64; simp; omega]
        refine PCtr.of_R (pf := fun _ => .still) tyOk mixed Try.func72 rfl (by kernel_rfl) (by kernel_rfl) (by simp [Try.ntmps72]) fun w S hg => ?_
        refine R_run hg.ok 1000 rfl rfl ?_
        refine R_if rfl rfl (fun h => absurd h (by simp; exact h0a)) (fun _ => ?_) <;> refine R_run hg.ok 1000 rfl rfl ?_
        refine R_if rfl rfl (fun h => absurd h (by simp; exact h0b)) (fun _ => ?_) <;> refine R_run hg.ok 1000 rfl rfl ?_
        refine R_if rfl rfl (fun _ => ?_) (fun h => absurd h (by simp; exact h1)) <;> refine R_run hg.ok 1000 rfl rfl ?_
        refine R_ret hg 5 rfl rfl ?_
        rfl
      · rw [inR_iff] at h; unfold I64 at h
        rw [wrap_id (by omega) (by omega)]; omega
    · obtain ⟨h2, h3⟩ := raw_mul ha hb h0a h1
      refine ⟨_, ?_, chk_1 h3⟩
      rw [chk_2, ← h2]
      refine PCtr.of_R (pf := fun _ => .still) tyOk mixed Try.func72 rfl (by kernel_rfl) (by kernel_rfl) (by simp [Try.ntmps72]) fun w S hg => ?_
      refine R_run hg.ok 1000 rfl rfl ?_
      refine R_if rfl rfl (fun h => absurd h (by simp; exact h0a)) (fun _ => ?_) <;> refine R_run hg.ok 1000 rfl rfl ?_
      refine R_if rfl rfl (fun h => absurd h (by simp; exact h0b)) (fun _ => ?_) <;> refine R_run hg.ok 1000 rfl rfl ?_
      refine R_if rfl rfl (fun h => absurd h (by simp; exact h1)) (fun _ => ?_) <;> refine R_run hg.ok 1000 rfl rfl ?_
      refine R_quo hg.ok rfl rfl rfl rfl h0a ?_
      refine R_run hg.ok 1000 rfl rfl ?_
      refine R_ret hg 5 rfl rfl ?_
      rfl

set_option maxRecDepth 100000 in
theorem deed4_ok : Deed 73 sQuo := fun a b ha hb => by
  rw [doX_quo]
  by_cases h0 : b = 0
  · rw [if_pos h0]
    refine ⟨0, ?_, fun h => by cases h⟩
    refine PCtr.of_R (pf := fun _ => .still) tyOk mixed Try.func73 rfl (by kernel_rfl) (by kernel_rfl) (by simp [Try.ntmps73]) fun w S hg => ?_
    refine R_run hg.ok 1000 rfl rfl ?_
    refine R_if rfl rfl (fun _ => ?_) (fun h => absurd h (by simp; exact h0)) <;> refine R_run hg.ok 1000 rfl rfl ?_
    refine R_ret hg 5 rfl rfl ?_
    rfl
  · rw [if_neg h0]
    by_cases h1 : a = -9223372036854775808 ∧ b = -1
    · have e : inR (a.tdiv b) = false := by
        rw [← Bool.not_eq_true, tdiv_in ha h0]; exact fun h => h h1
      refine ⟨0, ?_, fun h => by rw [chk_2, e] at h; cases h⟩
      rw [chk_2, e]
      refine PCtr.of_R (pf := fun _ => .still) tyOk mixed Try.func73 rfl (by kernel_rfl) (by kernel_rfl) (by simp [Try.ntmps73]) fun w S hg => ?_
      refine R_run hg.ok 1000 rfl rfl ?_
      refine R_if rfl rfl (fun h => absurd h (by simp; exact h0)) (fun _ => ?_) <;> refine R_run hg.ok 1000 rfl rfl ?_
      refine R_if rfl rfl (fun _ => ?_) (fun h => absurd h (by simp; exact h1.1)) <;> refine R_run hg.ok 1000 rfl rfl ?_
      refine R_if rfl rfl (fun _ => ?_) (fun h => absurd h (by simp; exact h1.2)) <;> refine R_run hg.ok 1000 rfl rfl ?_
      refine R_ret hg 5 rfl rfl ?_
      rfl
    · have e := (tdiv_in ha h0).2 h1
      have e2 := inR_iff.1 e
      refine ⟨a.tdiv b, ?_, chk_1 fun _ => rfl⟩
      rw [chk_2, e]
      unfold I64 at e2
      refine PCtr.of_R (pf := fun _ => .still) tyOk mixed Try.func73 rfl (by kernel_rfl) (by kernel_rfl) (by simp [Try.ntmps73]) fun w S hg => ?_
      refine R_run hg.ok 1000 rfl rfl ?_
      refine R_if rfl rfl (fun h => absurd h (by simp; exact h0)) (fun _ => ?_) <;> refine R_run hg.ok 1000 rfl rfl ?_
      refine R_if rfl rfl (fun h2 => ?_) (fun h2 => ?_) <;> refine R_run hg.ok 1000 rfl rfl ?_
      · refine R_if rfl rfl (fun h => absurd h (by simp at h2 ⊢; exact fun h => h1 ⟨h2, h⟩)) (fun _ => ?_) <;> refine R_run hg.ok 1000 rfl rfl ?_
        refine R_quo hg.ok rfl rfl rfl rfl h0 ?_
        refine R_run hg.ok 1000 rfl rfl ?_
        refine R_ret hg 5 rfl rfl ?_
        rw [wrap_id (by omega) (by omega)]; rfl
      · refine R_quo hg.ok rfl rfl rfl rfl h0 ?_
        refine R_run hg.ok 1000 rfl rfl ?_
        refine R_ret hg 5 rfl rfl ?_
        rw [wrap_id (by omega) (by omega)]; rfl

set_option maxRecDepth 100000 in
theorem deed5_ok : Deed 74 sMod := fun a b ha hb => by
  rw [doX_mod]
  by_cases h0 : b = 0
  · rw [if_pos h0]
    refine ⟨0, ?_, fun h => by cases h⟩
    refine PCtr.of_R (pf := fun _ => .still) tyOk mixed Try.func74 rfl (by kernel_rfl) (by kernel_rfl) (by simp [Try.ntmps74]) fun w S hg => ?_
    refine R_run hg.ok 1000 rfl rfl ?_
    refine R_if rfl rfl (fun _ => ?_) (fun h => absurd h (by simp; exact h0)) <;> refine R_run hg.ok 1000 rfl rfl ?_
    refine R_ret hg 5 rfl rfl ?_
    rfl
  · rw [if_neg h0]
    have hm := modF_I64 (a := a) hb h0
    have hbd := modF_bound (a := a) h0
    rw [chk_in hm]
    refine ⟨modF a b, ?_, fun _ => rfl⟩
    unfold I64 at hm
    refine PCtr.of_R (pf := fun _ => .still) tyOk mixed Try.func74 rfl (by kernel_rfl) (by kernel_rfl) (by simp [Try.ntmps74]) fun w S hg => ?_
    refine R_run hg.ok 1000 rfl rfl ?_
    refine R_if rfl rfl (fun h => absurd h (by simp; exact h0)) (fun _ => ?_) <;> refine R_run hg.ok 1000 rfl rfl ?_
    by_cases h1 : b = -1
    · refine R_if rfl rfl (fun _ => ?_) (fun h => absurd h (by simp; exact h1)) <;> refine R_run hg.ok 1000 rfl rfl ?_
      refine R_ret hg 5 rfl rfl ?_
      rw [show modF a b = 0 by omega]; rfl
    · refine R_if rfl rfl (fun h => absurd h (by simp; exact h1)) (fun _ => ?_) <;> refine R_run hg.ok 1000 rfl rfl ?_
      refine R_rem hg.ok rfl rfl rfl rfl h0 ?_
      refine R_run hg.ok 1000 rfl rfl ?_
      refine R_if rfl rfl (fun h2 => ?_) (fun h2 => ?_) <;> refine R_run hg.ok 1000 rfl rfl ?_
      · refine R_if rfl rfl (fun h3 => ?_) (fun h3 => ?_) <;> refine R_run hg.ok 1000 rfl rfl ?_
        · refine R_ret hg 5 rfl rfl ?_
          have e : modF a b = a.tmod b + b := by
            unfold modF; rw [if_pos]
            simp at h2 h3
            refine ⟨h2, fun h => ?_⟩
            apply h3; simp [h]
          rw [e, wrap_id (by omega) (by omega)]; rfl
        · refine R_ret hg 5 rfl rfl ?_
          have e : modF a b = a.tmod b := by
            unfold modF; rw [if_neg]
            simp at h2 h3
            rintro ⟨_, h⟩
            exact h h3
          rw [e]; rfl
      · refine R_ret hg 5 rfl rfl ?_
        have e : modF a b = a.tmod b := by
          unfold modF; rw [if_neg]
          simp at h2
          rintro ⟨h, _⟩
          exact h h2
        rw [e]; rfl

def deedsM : List (ByteArray × AV) := [(sPlus, .clo 70 [] []), (sMinus, .clo 71 [] []), (sMul, .clo 72 [] []), (sQuo, .clo 73 [] []), (sMod, .clo 74 [] [])]

set_option maxRecDepth 100000 in
theorem deeds_ok (Y : YP) : SCtr Try.prog Y 61 [] [] (.mp 0) [.map (smap deedsM)] := by
  refine SCtr.of_R (pf := fun _ => .eff) tyOk mixed Try.func61 rfl (by kernel_rfl) (by kernel_rfl) (by simp [Try.ntmps61]) (by simp) fun w S φ hg => ?_
  refine R_run hg.ok 1000 rfl rfl ?_
  refine R_makeMap hg.ok rfl rfl ?_
  refine R_insertS hg.ok [] [(sPlus, .clo 70 [] [])] rfl rfl rfl rfl rfl rfl rfl (by decide) (by rfl) (by rfl) ?_
  refine R_insertS hg.ok [(sPlus, .clo 70 [] [])] [(sPlus, .clo 70 [] []), (sMinus, .clo 71 [] [])] rfl rfl rfl rfl rfl rfl rfl (by decide) (by rfl) (by rfl) ?_
  refine R_insertS hg.ok [(sPlus, .clo 70 [] []), (sMinus, .clo 71 [] [])] [(sPlus, .clo 70 [] []), (sMinus, .clo 71 [] []), (sMul, .clo 72 [] [])] rfl rfl rfl rfl rfl rfl rfl (by decide) (by rfl) (by rfl) ?_
  refine R_insertS hg.ok [(sPlus, .clo 70 [] []), (sMinus, .clo 71 [] []), (sMul, .clo 72 [] [])] [(sPlus, .clo 70 [] []), (sMinus, .clo 71 [] []), (sMul, .clo 72 [] []), (sQuo, .clo 73 [] [])] rfl rfl rfl rfl rfl rfl rfl (by decide) (by rfl) (by rfl) ?_
  refine R_insertS hg.ok [(sPlus, .clo 70 [] []), (sMinus, .clo 71 [] []), (sMul, .clo 72 [] []), (sQuo, .clo 73 [] [])] deedsM rfl rfl rfl rfl rfl rfl rfl (by decide) (by rfl) (by rfl) ?_
  refine R_run hg.ok 1000 rfl rfl ?_
  exact R_retS hg 1 5 (by simp) rfl rfl rfl
end Go.Proofs.Ytcafgconfcajbaa
