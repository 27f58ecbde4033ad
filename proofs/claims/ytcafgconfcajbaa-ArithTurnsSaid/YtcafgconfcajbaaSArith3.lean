import Derived.Test.YtcafgconfcajbaaSArith2
namespace Go.Proofs.Ytcafgconfcajbaa
open Go PSL Go.Proofs

def pfA : Nat → Cls := fun f => bif Nat.beq f 61 then .turn 0 else .eff

set_option maxRecDepth 100000 in
theorem evalE_ok (t : Tm) (hf : t.Fit) (hs : t.size < 1000000000) (hn : ∀ e ∈ t.els 1, e.2.s.size < 1000000000) : PCtr Try.prog 38 [t.av] (.tup [iV (evalAll t).1, iV (evalAll t).2]) := by
  refine PCtr.of_R (pf := pfA) tyOk mixed Try.func38 rfl (by kernel_rfl) (by kernel_rfl) (by simp [Try.ntmps38]) fun w S hg => ?_
  refine R_run hg.ok 1000 rfl rfl ?_
  refine R_call hg.ok (right_ok t hs hn) rfl rfl rfl rfl rfl rfl ?_
  refine R_run hg.ok 1000 rfl rfl ?_
  rw [rightT_eq]
  refine R_if rfl rfl (fun h => ?_) (fun h => ?_) <;> refine R_run hg.ok 1000 rfl rfl ?_
  · refine R_ret hg 5 rfl rfl ?_
    unfold evalAll; rw [if_neg (by simpa using h)]; rfl
  · refine R_callNew hg.ok hg.gup ⟨rfl, rfl⟩ (fun _ _ _ _ h => by cases h) [boxR t, .map (smap deedsM)] (deeds_ok ⟨[], fun _ => true⟩) (fun _ => rfl) rfl rfl rfl rfl rfl rfl ?_
    refine R_run hg.ok 1000 rfl rfl ?_
    refine R_callL hg.ok hg.gup ⟨rfl, rfl⟩ (fun _ _ _ _ h => by cases h) [1] (eval_ok ⟨[], fun _ => true⟩ t hf) (fun _ => rfl) rfl rfl rfl rfl rfl rfl rfl rfl ?_
    refine R_run hg.ok 1000 rfl rfl ?_
    refine R_ret hg 5 rfl rfl ?_
    unfold evalAll; rw [if_pos (by simpa using h)]; rfl

set_option maxRecDepth 100000 in
theorem compareX_ok (s : ByteArray) (a b : Int) : PCtr Try.prog 42 [.d (.v (.string s)), iV a, iV b] (.tup [bV (cmpX s a b).1, iV (cmpX s a b).2]) := by
  refine PCtr.of_R (pf := fun _ => .still) tyOk mixed Try.func42 rfl (by kernel_rfl) (by kernel_rfl) (by simp [Try.ntmps42]) fun w S hg => ?_
  refine R_run hg.ok 1000 rfl rfl ?_
  refine R_if rfl rfl (fun h1 => ?_) (fun h1 => ?_) <;> refine R_run hg.ok 1000 rfl rfl ?_
  · refine R_ret hg 5 rfl rfl ?_
    unfold cmpX; rw [if_pos h1]; rfl
  refine R_if rfl rfl (fun h2 => ?_) (fun h2 => ?_) <;> refine R_run hg.ok 1000 rfl rfl ?_
  · refine R_ret hg 5 rfl rfl ?_
    unfold cmpX; rw [if_neg (by rw [h1]; simp), if_pos h2]; rfl
  refine R_if rfl rfl (fun h3 => ?_) (fun h3 => ?_) <;> refine R_run hg.ok 1000 rfl rfl ?_
  · refine R_ret hg 5 rfl rfl ?_
    unfold cmpX; rw [if_neg (by rw [h1]; simp), if_neg (by rw [h2]; simp), if_pos h3]; rfl
  refine R_if rfl rfl (fun h4 => ?_) (fun h4 => ?_) <;> refine R_run hg.ok 1000 rfl rfl ?_
  · refine R_ret hg 5 rfl rfl ?_
    unfold cmpX; rw [if_neg (by rw [h1]; simp), if_neg (by rw [h2]; simp), if_neg (by rw [h3]; simp), if_pos h4]; rfl
  refine R_if rfl rfl (fun h5 => ?_) (fun h5 => ?_) <;> refine R_run hg.ok 1000 rfl rfl ?_
  · refine R_ret hg 5 rfl rfl ?_
    unfold cmpX; rw [if_neg (by rw [h1]; simp), if_neg (by rw [h2]; simp), if_neg (by rw [h3]; simp), if_neg (by rw [h4]; simp), if_pos h5]; rfl
  refine R_if rfl rfl (fun h6 => ?_) (fun h6 => ?_) <;> refine R_run hg.ok 1000 rfl rfl ?_
  · refine R_ret hg 5 rfl rfl ?_
    unfold cmpX; rw [if_neg (by rw [h1]; simp), if_neg (by rw [h2]; simp), if_neg (by rw [h3]; simp), if_neg (by rw [h4]; simp), if_neg (by rw [h5]; simp), if_pos h6]; rfl
  · refine R_ret hg 5 rfl rfl ?_
    unfold cmpX; rw [if_neg (by rw [h1]; simp), if_neg (by rw [h2]; simp), if_neg (by rw [h3]; simp), if_neg (by rw [h4]; simp), if_neg (by rw [h5]; simp), if_neg (by rw [h6]; simp)]; rfl

def uV (n : Int) : AV := .d (.v (.int .u64 n))

set_option maxRecDepth 100000 in
theorem sizeU_ok (a : Int) (ha : I64 a) : PCtr Try.prog 64 [iV a] (uV a.natAbs) := by
  unfold I64 at ha
  refine PCtr.of_R (pf := fun _ => .still) tyOk mixed Try.func64 rfl (by kernel_rfl) (by kernel_rfl) (by simp [Try.ntmps64]) fun w S hg => ?_
  refine R_run hg.ok 1000 rfl rfl ?_
  refine R_if rfl rfl (fun h => ?_) (fun h => ?_) <;> refine R_run hg.ok 1000 rfl rfl ?_
  · have h := of_decide_eq_true h
    refine R_ret hg 5 rfl rfl ?_
    rw [wrap_id (n := a + 1) (by omega) (by omega), wrap_id (n := 0 - (a + 1)) (by omega) (by omega), wrapU, wrapU, show ((0 - (a + 1)) % 18446744073709551616 + 1) % 18446744073709551616 = (a.natAbs : Int) by omega]; rfl
  · have h := of_decide_eq_false h
    refine R_ret hg 5 rfl rfl ?_
    rw [wrapU, show a % 18446744073709551616 = (a.natAbs : Int) by omega]; rfl

set_option maxRecDepth 100000 in
theorem made_ok (n : Int) (below : Bool) (h0 : 0 ≤ n) (h1 : n < 18446744073709551616) : PCtr Try.prog 65 [uV n, bV below] (.tup [iV (chk (if below then -n else n)).1, bV (chk (if below then -n else n)).2]) := by
  have out : ∀ {x : Int}, (x < -9223372036854775808 ∨ 9223372036854775807 < x) → AV.tup [iV 0, bV false] = AV.tup [iV (chk x).1, bV (chk x).2] := fun h => by rw [chk_out h]
  have inn : ∀ {x : Int}, I64 x → AV.tup [iV x, bV true] = AV.tup [iV (chk x).1, bV (chk x).2] := fun h => by rw [chk_in h]
  refine PCtr.of_R (pf := fun _ => .still) tyOk mixed Try.func65 rfl (by kernel_rfl) (by kernel_rfl) (by simp [Try.ntmps65]) fun w S hg => ?_
  refine R_run hg.ok 1000 rfl rfl ?_
  cases below with
  | true =>
    refine R_if rfl rfl (fun _ => ?_) (fun h => absurd h (by simp)) <;> refine R_run hg.ok 1000 rfl rfl ?_
    refine R_if rfl rfl (fun h2 => ?_) (fun h2 => ?_) <;> refine R_run hg.ok 1000 rfl rfl ?_
    · have h2 : n = 9223372036854775808 := by simpa using h2
      refine R_ret hg 5 rfl rfl ?_
      subst h2
      exact inn (x := -9223372036854775808) (by unfold I64; omega)
    have h2 : ¬ n = 9223372036854775808 := by simpa using h2
    refine R_if rfl rfl (fun h3 => ?_) (fun h3 => ?_) <;> refine R_run hg.ok 1000 rfl rfl ?_
    · have h3 := of_decide_eq_true h3
      refine R_ret hg 5 rfl rfl ?_
      exact out (by simp; omega)
    have h3 := of_decide_eq_false h3
    refine R_if rfl rfl (fun _ => ?_) (fun h => absurd h (by simp)) <;> refine R_run hg.ok 1000 rfl rfl ?_
    refine R_ret hg 5 rfl rfl ?_
    rw [wrap_id (n := n) (by omega) (by omega), wrap_id (n := 0 - n) (by omega) (by omega), ← inn (x := if true = true then -n else n) (by unfold I64; simp; omega)]
    simp only [if_true, Int.zero_sub]; rfl
  | false =>
    refine R_if rfl rfl (fun h => absurd h (by simp)) (fun _ => ?_) <;> refine R_run hg.ok 1000 rfl rfl ?_
    refine R_if rfl rfl (fun h3 => ?_) (fun h3 => ?_) <;> refine R_run hg.ok 1000 rfl rfl ?_
    · have h3 := of_decide_eq_true h3
      refine R_ret hg 5 rfl rfl ?_
      exact out (by simp; omega)
    have h3 := of_decide_eq_false h3
    refine R_if rfl rfl (fun h => absurd h (by simp)) (fun _ => ?_) <;> refine R_run hg.ok 1000 rfl rfl ?_
    refine R_ret hg 5 rfl rfl ?_
    rw [wrap_id (n := n) (by omega) (by omega), ← inn (x := if false = true then -n else n) (by unfold I64; simp; omega)]
    rfl

set_option maxRecDepth 100000 in
theorem addR_ok (a b : Int) (ha : I64 a) (hb : I64 b) : PCtr Try.prog 63 [iV a, iV b] (.tup [iV (chk (a + b)).1, bV (chk (a + b)).2]) := by
  have out : ∀ {x : Int}, (x < -9223372036854775808 ∨ 9223372036854775807 < x) → AV.tup [iV 0, bV false] = AV.tup [iV (chk x).1, bV (chk x).2] := fun h => by rw [chk_out h]
  have ia := ha
  have ib := hb
  unfold I64 at ia ib
  refine PCtr.of_R (pf := fun _ => .still) tyOk mixed Try.func63 rfl (by kernel_rfl) (by kernel_rfl) (by simp [Try.ntmps63]) fun w S hg => ?_
  refine R_run hg.ok 1000 rfl rfl ?_
  refine R_if rfl rfl (fun h => ?_) (fun h => ?_) <;> refine R_run hg.ok 1000 rfl rfl ?_
  · have h : (a < 0) ↔ (b < 0) := by simpa using h
    refine R_call hg.ok (sizeU_ok a ha) rfl rfl rfl rfl rfl rfl ?_
    refine R_run hg.ok 1000 rfl rfl ?_
    refine R_call hg.ok (sizeU_ok b hb) rfl rfl rfl rfl rfl rfl ?_
    refine R_run hg.ok 1000 rfl rfl ?_
    refine R_if rfl rfl (fun h2 => ?_) (fun h2 => ?_) <;> refine R_run hg.ok 1000 rfl rfl ?_
    · have h2 := of_decide_eq_true h2
      rw [wrapU] at h2
      refine R_ret hg 5 rfl rfl ?_
      exact out (by omega)
    have h2 := of_decide_eq_false h2
    rw [wrapU] at h2
    refine R_call hg.ok (sizeU_ok a ha) rfl rfl rfl rfl rfl rfl ?_
    refine R_run hg.ok 1000 rfl rfl ?_
    refine R_call hg.ok (sizeU_ok b hb) rfl rfl rfl rfl rfl rfl ?_
    refine R_run hg.ok 1000 rfl rfl ?_
    have hm := made_ok ((a.natAbs : Int) + b.natAbs) (decide (a < 0)) (by omega) (by omega)
    rw [show (if decide (a < 0) = true then -((a.natAbs : Int) + b.natAbs) else (a.natAbs : Int) + b.natAbs) = a + b by rw [← abs_sum h]; simp] at hm
    rw [wrapU, show ((a.natAbs : Int) + b.natAbs) % 18446744073709551616 = (a.natAbs : Int) + b.natAbs by omega]
    refine R_call hg.ok (hm) rfl rfl rfl rfl rfl rfl ?_
    refine R_run hg.ok 1000 rfl rfl ?_
    refine R_ret hg 5 rfl rfl ?_
    rfl
  · have h : ¬ ((a < 0) ↔ (b < 0)) := by simpa using h
    refine R_call hg.ok (sizeU_ok a ha) rfl rfl rfl rfl rfl rfl ?_
    refine R_run hg.ok 1000 rfl rfl ?_
    refine R_call hg.ok (sizeU_ok b hb) rfl rfl rfl rfl rfl rfl ?_
    refine R_run hg.ok 1000 rfl rfl ?_
    refine R_if rfl rfl (fun h2 => ?_) (fun h2 => ?_) <;> refine R_run hg.ok 1000 rfl rfl ?_
    · have h2 := of_decide_eq_true h2
      refine R_call hg.ok (sizeU_ok a ha) rfl rfl rfl rfl rfl rfl ?_
      refine R_run hg.ok 1000 rfl rfl ?_
      refine R_call hg.ok (sizeU_ok b hb) rfl rfl rfl rfl rfl rfl ?_
      refine R_run hg.ok 1000 rfl rfl ?_
      have hm := made_ok ((a.natAbs : Int) - b.natAbs) (decide (a < 0)) (by omega) (by omega)
      rw [show (if decide (a < 0) = true then -((a.natAbs : Int) - b.natAbs) else (a.natAbs : Int) - b.natAbs) = a + b by simp only [decide_eq_true_eq]; split <;> omega] at hm
      rw [wrapU, show ((a.natAbs : Int) - b.natAbs) % 18446744073709551616 = (a.natAbs : Int) - b.natAbs by omega]
      refine R_call hg.ok (hm) rfl rfl rfl rfl rfl rfl ?_
      refine R_run hg.ok 1000 rfl rfl ?_
      refine R_ret hg 5 rfl rfl ?_
      rfl
    · have h2 := of_decide_eq_false h2
      refine R_call hg.ok (sizeU_ok b hb) rfl rfl rfl rfl rfl rfl ?_
      refine R_run hg.ok 1000 rfl rfl ?_
      refine R_call hg.ok (sizeU_ok a ha) rfl rfl rfl rfl rfl rfl ?_
      refine R_run hg.ok 1000 rfl rfl ?_
      have hm := made_ok ((b.natAbs : Int) - a.natAbs) (decide (b < 0)) (by omega) (by omega)
      rw [show (if decide (b < 0) = true then -((b.natAbs : Int) - a.natAbs) else (b.natAbs : Int) - a.natAbs) = a + b by simp only [decide_eq_true_eq]; split <;> omega] at hm
      rw [wrapU, show ((b.natAbs : Int) - a.natAbs) % 18446744073709551616 = (b.natAbs : Int) - a.natAbs by omega]
      refine R_call hg.ok (hm) rfl rfl rfl rfl rfl rfl ?_
      refine R_run hg.ok 1000 rfl rfl ?_
      refine R_ret hg 5 rfl rfl ?_
      rfl
end Go.Proofs.Ytcafgconfcajbaa
