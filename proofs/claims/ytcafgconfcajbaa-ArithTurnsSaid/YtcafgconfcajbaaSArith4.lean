import Derived.Test.YtcafgconfcajbaaSArith3
namespace Go.Proofs.Ytcafgconfcajbaa
open Go PSL Go.Proofs

set_option maxRecDepth 100000 in
theorem doR_ok (s : ByteArray) (a b : Int) (ha : I64 a) (hb : I64 b) : PCtr Try.prog 41 [.d (.v (.string s)), iV a, iV b] (.tup [iV (doX s a b).1, bV (doX s a b).2]) := by
  have out : ∀ {x : Int}, (x < -9223372036854775808 ∨ 9223372036854775807 < x) → AV.tup [iV 0, bV false] = AV.tup [iV (chk x).1, bV (chk x).2] := fun h => by rw [chk_out h]
  have ia := ha
  have ib := hb
  unfold I64 at ia ib
  refine PCtr.of_R (pf := fun _ => .still) tyOk mixed Try.func41 rfl (by kernel_rfl) (by kernel_rfl) (by simp [Try.ntmps41]) fun w S hg => ?_
  refine R_run hg.ok 1000 rfl rfl ?_
  refine R_if rfl rfl (fun h1 => ?_) (fun h1 => ?_) <;> refine R_run hg.ok 1000 rfl rfl ?_
  · have h1 : strEq s sPlus = true := h1
    rw [show doX s a b = chk (a + b) by unfold doX; rw [if_pos h1]]
    refine R_call hg.ok (addR_ok a b ha hb) rfl rfl rfl rfl rfl rfl ?_
    refine R_run hg.ok 1000 rfl rfl ?_
    refine R_ret hg 5 rfl rfl ?_
    rfl
  have n1 : ¬ strEq s sPlus = true := by rw [show strEq s sPlus = false from h1]; simp
  refine R_if rfl rfl (fun h2 => ?_) (fun h2 => ?_) <;> refine R_run hg.ok 1000 rfl rfl ?_
  · have h2 : strEq s sMinus = true := h2
    rw [show doX s a b = chk (a - b) by unfold doX; rw [if_neg n1, if_pos h2]]
    refine R_if rfl rfl (fun h3 => ?_) (fun h3 => ?_) <;> refine R_run hg.ok 1000 rfl rfl ?_
    · have h3 : b = -9223372036854775808 := by simpa using h3
      refine R_if rfl rfl (fun h4 => ?_) (fun h4 => ?_) <;> refine R_run hg.ok 1000 rfl rfl ?_
      · have h4 := of_decide_eq_true h4
        refine R_ret hg 5 rfl rfl ?_
        exact out (by omega)
      · have h4 := of_decide_eq_false h4
        have e : chk (a + 9223372036854775807) = (a + 9223372036854775807, true) := chk_in (by unfold I64; omega)
        have hc := addR_ok a 9223372036854775807 ha (by unfold I64; omega)
        rw [e] at hc
        refine R_call hg.ok (hc) rfl rfl rfl rfl rfl rfl ?_
        refine R_run hg.ok 1000 rfl rfl ?_
        refine R_call hg.ok (addR_ok (a + 9223372036854775807) 1 (by unfold I64; omega) (by unfold I64; omega)) rfl rfl rfl rfl rfl rfl ?_
        refine R_run hg.ok 1000 rfl rfl ?_
        refine R_ret hg 5 rfl rfl ?_
        rw [show a + 9223372036854775807 + 1 = a - b by omega]; rfl
    · have h3 : ¬ b = -9223372036854775808 := by simpa using h3
      rw [wrap_id (n := 0 - b) (by omega) (by omega)]
      refine R_call hg.ok (addR_ok a (0 - b) ha (by unfold I64; omega)) rfl rfl rfl rfl rfl rfl ?_
      refine R_run hg.ok 1000 rfl rfl ?_
      refine R_ret hg 5 rfl rfl ?_
      rw [show a + (0 - b) = a - b by omega]; rfl
  have n2 : ¬ strEq s sMinus = true := by rw [show strEq s sMinus = false from h2]; simp
  have hmul := abs_mul a b
  have hle : (a.natAbs : Int) * b.natAbs < 18446744073709551616 ∨ True := .inr trivial
  refine R_if rfl rfl (fun h3 => ?_) (fun h3 => ?_) <;> refine R_run hg.ok 1000 rfl rfl ?_
  · have h3 : strEq s sMul = true := h3
    have e : doX s a b = chk (a * b) := by unfold doX; rw [if_neg n1, if_neg n2, if_pos h3]
    rw [e]
    refine R_if rfl rfl (fun h4 => ?_) (fun h4 => ?_) <;> refine R_run hg.ok 1000 rfl rfl ?_
    · have h4 : a = 0 := by simpa using h4
      refine R_ret hg 5 rfl rfl ?_
      rw [h4, Int.zero_mul, chk_in (by unfold I64; omega)]; rfl
    refine R_if rfl rfl (fun h5 => ?_) (fun h5 => ?_) <;> refine R_run hg.ok 1000 rfl rfl ?_
    · have h5 : b = 0 := by simpa using h5
      refine R_ret hg 5 rfl rfl ?_
      rw [h5, Int.mul_zero, chk_in (by unfold I64; omega)]; rfl
    have h4 : ¬ a = 0 := by simpa using h4
    have h5 : ¬ b = 0 := by simpa using h5
    refine R_call hg.ok (sizeU_ok a ha) rfl rfl rfl rfl rfl rfl ?_
    refine R_run hg.ok 1000 rfl rfl ?_
    refine R_call hg.ok (sizeU_ok b hb) rfl rfl rfl rfl rfl rfl ?_
    refine R_run hg.ok 1000 rfl rfl ?_
    refine R_quo hg.ok rfl rfl rfl rfl (by simpa using h5) ?_
    refine R_run hg.ok 1000 rfl rfl ?_
    have hq : IntKind.u64.wrap ((9223372036854775808 : Int).tdiv (b.natAbs : Int)) = 9223372036854775808 / (b.natAbs : Int) := by
      rw [Int.tdiv_eq_ediv_of_nonneg (by omega), wrapU]
      have := Int.ediv_le_self (a := 9223372036854775808) (b.natAbs : Int) (by omega)
      have h7 : 0 ≤ 9223372036854775808 / (b.natAbs : Int) := Int.ediv_nonneg (by omega) (by omega)
      omega
    have hqq : (a.natAbs : Int) > 9223372036854775808 / (b.natAbs : Int) ↔ (a.natAbs : Int) * b.natAbs > 9223372036854775808 := Int.ediv_lt_iff_lt_mul (by omega)
    refine R_if rfl rfl (fun h6 => ?_) (fun h6 => ?_) <;> refine R_run hg.ok 1000 rfl rfl ?_
    · have h6 := of_decide_eq_true h6
      rw [hq] at h6
      have h7 := hqq.1 h6
      refine R_ret hg 5 rfl rfl ?_
      exact out (by rw [hmul]; split <;> omega)
    have h6 := of_decide_eq_false h6
    rw [hq] at h6
    have h7 : ¬ (a.natAbs : Int) * b.natAbs > 9223372036854775808 := fun h => h6 (hqq.2 h)
    have h8 : 0 ≤ (a.natAbs : Int) * b.natAbs := Int.mul_nonneg (by omega) (by omega)
    refine R_call hg.ok (sizeU_ok a ha) rfl rfl rfl rfl rfl rfl ?_
    refine R_run hg.ok 1000 rfl rfl ?_
    refine R_call hg.ok (sizeU_ok b hb) rfl rfl rfl rfl rfl rfl ?_
    refine R_run hg.ok 1000 rfl rfl ?_
    have hm := made_ok ((a.natAbs : Int) * b.natAbs) (decide (a < 0) != decide (b < 0)) h8 (by omega)
    rw [show (if (decide (a < 0) != decide (b < 0)) = true then -((a.natAbs : Int) * b.natAbs) else (a.natAbs : Int) * b.natAbs) = a * b by
      rw [hmul]
      by_cases hx : a < 0 <;> by_cases hy : b < 0 <;> simp [hx, hy]] at hm
    rw [wrapU, show ((a.natAbs : Int) * b.natAbs) % 18446744073709551616 = (a.natAbs : Int) * b.natAbs from Int.emod_eq_of_lt h8 (by omega)]
    refine R_call hg.ok (hm) rfl rfl rfl rfl rfl rfl ?_
    refine R_run hg.ok 1000 rfl rfl ?_
    refine R_ret hg 5 rfl rfl ?_
    rfl
  have n3 : ¬ strEq s sMul = true := by rw [show strEq s sMul = false from h3]; simp
  refine R_if rfl rfl (fun h4 => ?_) (fun h4 => ?_) <;> refine R_run hg.ok 1000 rfl rfl ?_
  · have h4 : b = 0 := by simpa using h4
    refine R_ret hg 5 rfl rfl ?_
    unfold doX; rw [if_neg n1, if_neg n2, if_neg n3, if_pos h4]; rfl
  have h4 : ¬ b = 0 := by simpa using h4
  have hquo := abs_quo a b
  have hrem := abs_rem a b
  have hbn : 0 < b.natAbs := by omega
  have hqle := Nat.div_le_self a.natAbs b.natAbs
  have hrl := Nat.mod_lt a.natAbs hbn
  have hsp := Nat.div_add_mod a.natAbs b.natAbs
  generalize hqd : a.natAbs / b.natAbs = q at hquo hqle hsp
  generalize hrd : a.natAbs % b.natAbs = r at hrem hrl hsp
  have hq : IntKind.u64.wrap ((a.natAbs : Int).tdiv (b.natAbs : Int)) = (q : Int) := by
    rw [Int.tdiv_eq_ediv_of_nonneg (by omega), ← Int.natCast_ediv, hqd, wrapU]; omega
  have hr : IntKind.u64.wrap ((a.natAbs : Int) - IntKind.u64.wrap ((q : Int) * (b.natAbs : Int))) = (r : Int) := by
    rw [← Int.natCast_mul, Nat.mul_comm, wrapU, wrapU]
    generalize b.natAbs * q = P at hsp ⊢
    omega
  refine R_call hg.ok (sizeU_ok a ha) rfl rfl rfl rfl rfl rfl ?_
  refine R_run hg.ok 1000 rfl rfl ?_
  refine R_call hg.ok (sizeU_ok b hb) rfl rfl rfl rfl rfl rfl ?_
  refine R_run hg.ok 1000 rfl rfl ?_
  refine R_quo hg.ok rfl rfl rfl rfl (by simpa using h4) ?_
  refine R_run hg.ok 1000 rfl rfl ?_
  refine R_call hg.ok (sizeU_ok a ha) rfl rfl rfl rfl rfl rfl ?_
  refine R_run hg.ok 1000 rfl rfl ?_
  refine R_call hg.ok (sizeU_ok b hb) rfl rfl rfl rfl rfl rfl ?_
  refine R_run hg.ok 1000 rfl rfl ?_
  rw [hq, hr]
  refine R_if rfl rfl (fun h5 => ?_) (fun h5 => ?_) <;> refine R_run hg.ok 1000 rfl rfl ?_
  · have h5 : strEq s sQuo = true := h5
    rw [show doX s a b = chk (a.tdiv b) by unfold doX; rw [if_neg n1, if_neg n2, if_neg n3, if_neg h4, if_pos h5]]
    have hm := made_ok (q : Int) (decide (a < 0) != decide (b < 0)) (by omega) (by omega)
    rw [show (if (decide (a < 0) != decide (b < 0)) = true then -(q : Int) else (q : Int)) = a.tdiv b by
      rw [hquo]
      by_cases hx : a < 0 <;> by_cases hy : b < 0 <;> simp [hx, hy]] at hm
    refine R_call hg.ok (hm) rfl rfl rfl rfl rfl rfl ?_
    refine R_run hg.ok 1000 rfl rfl ?_
    refine R_ret hg 5 rfl rfl ?_
    rfl
  have n4 : ¬ strEq s sQuo = true := by rw [show strEq s sQuo = false from h5]; simp
  rw [show doX s a b = chk (modF a b) by unfold doX; rw [if_neg n1, if_neg n2, if_neg n3, if_neg h4, if_neg n4]]
  refine R_if rfl rfl (fun h6 => ?_) (fun h6 => ?_) <;> refine R_run hg.ok 1000 rfl rfl ?_
  · have h6 : ¬ (r : Int) = 0 := by simpa using h6
    refine R_if rfl rfl (fun h7 => ?_) (fun h7 => ?_) <;> refine R_run hg.ok 1000 rfl rfl ?_
    · have h7 : ¬ ((a < 0) ↔ (b < 0)) := by simpa using h7
      refine R_call hg.ok (sizeU_ok b hb) rfl rfl rfl rfl rfl rfl ?_
      refine R_run hg.ok 1000 rfl rfl ?_
      rw [wrapU, show ((b.natAbs : Int) - (r : Int)) % 18446744073709551616 = (b.natAbs : Int) - (r : Int) by omega]
      have hm := made_ok ((b.natAbs : Int) - (r : Int)) (decide (b < 0)) (by omega) (by omega)
      rw [show (if decide (b < 0) = true then -((b.natAbs : Int) - (r : Int)) else (b.natAbs : Int) - (r : Int)) = modF a b by
        unfold modF; rw [hrem]; simp only [decide_eq_true_eq]
        split <;> split <;> (try split) <;> omega] at hm
      refine R_call hg.ok (hm) rfl rfl rfl rfl rfl rfl ?_
      refine R_run hg.ok 1000 rfl rfl ?_
      refine R_ret hg 5 rfl rfl ?_
      rfl
    · have h7 : ((a < 0) ↔ (b < 0)) := by simpa using h7
      have hm := made_ok (r : Int) (decide (b < 0)) (by omega) (by omega)
      rw [show (if decide (b < 0) = true then -(r : Int) else (r : Int)) = modF a b by
        unfold modF; rw [hrem]; simp only [decide_eq_true_eq]
        split <;> split <;> (try split) <;> omega] at hm
      refine R_call hg.ok (hm) rfl rfl rfl rfl rfl rfl ?_
      refine R_run hg.ok 1000 rfl rfl ?_
      refine R_ret hg 5 rfl rfl ?_
      rfl
  · have h6 : (r : Int) = 0 := by simpa using h6
    have hm := made_ok (r : Int) (decide (b < 0)) (by omega) (by omega)
    rw [show (if decide (b < 0) = true then -(r : Int) else (r : Int)) = modF a b by
      unfold modF; rw [hrem]; simp only [decide_eq_true_eq]
      split <;> split <;> (try split) <;> omega] at hm
    refine R_call hg.ok (hm) rfl rfl rfl rfl rfl rfl ?_
    refine R_run hg.ok 1000 rfl rfl ?_
    refine R_ret hg 5 rfl rfl ?_
    rfl

set_option maxRecDepth 100000 in
theorem evalR_ok (t : Tm) : t.Fit → PCtr Try.prog 62 [t.av] (.tup [iV (Tm.evalX t).1, iV (Tm.evalX t).2]) := by
  induction t using Tm.ind with
  | _ t ih =>
  intro hf
  have fin : ∀ {r : Int × Int}, Tm.evalX t = r → AV.tup [iV r.1, iV r.2] = AV.tup [iV (Tm.evalX t).1, iV (Tm.evalX t).2] := fun e => by rw [e]
  refine PCtr.of_R (pf := fun _ => .still) tyOk mixed Try.func62 rfl (by kernel_rfl) (by kernel_rfl) (by simp [Try.ntmps62]) fun w S hg => ?_
  refine R_run hg.ok 1000 rfl rfl ?_
  refine R_if rfl rfl (fun g1 => ?_) (fun g1 => ?_) <;> refine R_run hg.ok 1000 rfl rfl ?_
  · refine R_ret hg 5 rfl rfl ?_
    exact fin (r := (0, 4)) (by rw [Tm.evalX_eq, evalF_k1 (by simpa using g1)])
  refine R_if rfl rfl (fun g2 => ?_) (fun g2 => ?_)
  · refine R_run hg.ok 1000 rfl rfl ?_
    refine R_ret hg 5 rfl rfl ?_
    exact fin (r := (t.n, 0)) (by rw [Tm.evalX_eq, evalF_k2 (by simpa using g1) (by simpa using g2)])
  have h1 : ¬ t.k = 1 := by simpa using g1
  have h2 : ¬ t.k = 2 := by simpa using g2
  have bad : ((t.l.length ≠ 2 ∧ ¬ (t.l.length = 1 ∧ t.s = sMinus)) ∨ isOp t.s = false) → AV.tup [iV 0, iV 5] = AV.tup [iV (Tm.evalX t).1, iV (Tm.evalX t).2] := fun h => fin (r := (0, 5)) (evalX_bad h1 h2 h)
  refine R_run hg.ok 3 rfl rfl ?_
  refine R_cut1 (fun _ : Unit => ([(1, .lo 0 0), (4, bV (isOp t.s))], [boxR t])) (fun _ => True) rfl ?_ ?_
  · have yes : ∀ {x : ByteArray}, (x = sPlus ∨ x = sMinus ∨ x = sMul ∨ x = sQuo ∨ x = sMod) → strEq t.s x = true → isOp t.s = true := fun hx h => by
      unfold isOp
      rcases hx with rfl | rfl | rfl | rfl | rfl <;> simp [h]
    refine R_run hg.ok 1000 rfl rfl ?_
    refine R_if rfl rfl (fun q1 => ?_) (fun q1 => ?_) <;> refine R_run hg.ok 1000 rfl rfl ?_
    · exact R_to () trivial ⟨.refl _, Ent.ttb (yes (x := sPlus) (.inl rfl) q1), trivial⟩ rfl
    refine R_if rfl rfl (fun q2 => ?_) (fun q2 => ?_) <;> refine R_run hg.ok 1000 rfl rfl ?_
    · exact R_to () trivial ⟨.refl _, Ent.ttb (yes (x := sMinus) (.inr (.inl rfl)) q2), trivial⟩ rfl
    refine R_if rfl rfl (fun q3 => ?_) (fun q3 => ?_) <;> refine R_run hg.ok 1000 rfl rfl ?_
    · exact R_to () trivial ⟨.refl _, Ent.ttb (yes (x := sMul) (.inr (.inr (.inl rfl))) q3), trivial⟩ rfl
    refine R_if rfl rfl (fun q4 => ?_) (fun q4 => ?_) <;> refine R_run hg.ok 1000 rfl rfl ?_
    · exact R_to () trivial ⟨.refl _, Ent.ttb (yes (x := sQuo) (.inr (.inr (.inr (.inl rfl)))) q4), trivial⟩ rfl
    have q1 : strEq t.s sPlus = false := q1
    have q2 : strEq t.s sMinus = false := q2
    have q3 : strEq t.s sMul = false := q3
    have q4 : strEq t.s sQuo = false := q4
    exact R_to () trivial ⟨.refl _, Ent.bool (by show strEq t.s sMod = _; simp [isOp, q1, q2, q3, q4]), trivial⟩ rfl
  rintro ⟨⟩ -
  refine R_run hg.ok 1000 rfl rfl ?_
  refine R_if rfl rfl (fun hop' => ?_) (fun hop' => ?_) <;> refine R_run hg.ok 1000 rfl rfl ?_
  · refine R_ret hg 5 rfl rfl ?_
    exact bad (.inr (by simpa using hop'))
  have hop : isOp t.s = true := by simpa using hop'
  clear hop'
  obtain ⟨k, s, n, l⟩ := t
  simp only [Tm.k, Tm.l, Tm.s] at h1 h2 hop bad ih
  match l with
  | [] =>
    refine R_if rfl rfl (fun _ => ?_) (fun h => absurd h (by simp [Tm.rows, Tm.l])) <;> refine R_run hg.ok 1000 rfl rfl ?_
    refine R_if rfl rfl (fun hm => ?_) (fun hm => ?_) <;> refine R_run hg.ok 1000 rfl rfl ?_
    · refine R_if rfl rfl (fun _ => ?_) (fun h => absurd h (by simp [Tm.rows, Tm.l])) <;> refine R_run hg.ok 1000 rfl rfl ?_
      refine R_ret hg 5 rfl rfl ?_
      exact bad (.inl ⟨by simp, by simp⟩)
    · refine R_ret hg 5 rfl rfl ?_
      exact bad (.inl ⟨by simp, by simp⟩)
  | [x] =>
    refine R_if rfl rfl (fun _ => ?_) (fun h => absurd h (by simp [Tm.rows, Tm.l])) <;> refine R_run hg.ok 1000 rfl rfl ?_
    refine R_if rfl rfl (fun hm => ?_) (fun hm => ?_) <;> refine R_run hg.ok 1000 rfl rfl ?_
    · have hs : s = sMinus := Tm.strEq_iff.1 hm
      subst hs
      have hfx : x.Fit := hf.sub (by simp [Tm.l])
      have hIx := Tm.evalX_I64 hfx
      have hex : Tm.evalX (.mk k sMinus n [x]) = if (Tm.evalX x).2 ≠ 0 then (0, (Tm.evalX x).2) else outX (doX sMinus 0 (Tm.evalX x).1) := by
        simp only [Tm.evalX, Tm.evalXL]
        rw [evalF_1 h1 h2, if_pos (strSelf _)]
      refine R_if rfl rfl (fun h => absurd h (by simp [Tm.rows, Tm.l])) (fun _ => ?_) <;> refine R_run hg.ok 1000 rfl rfl ?_
      refine R_index hg.ok rfl rfl rfl rfl rfl rfl (by decide) (Tm.rows_get (l := [x]) (i := 0) rfl) rfl ?_
      refine R_run hg.ok 1000 rfl rfl ?_
      refine R_call hg.ok (ih x (by simp) hfx) rfl rfl rfl rfl rfl rfl ?_
      refine R_run hg.ok 1000 rfl rfl ?_
      refine R_if rfl rfl (fun h3 => ?_) (fun h3 => ?_) <;> refine R_run hg.ok 1000 rfl rfl ?_
      · refine R_ret hg 5 rfl rfl ?_
        exact fin (r := (0, (Tm.evalX x).2)) (by rw [hex, if_pos (by simpa using h3)])
      rw [if_neg (by simpa using h3)] at hex
      refine R_if rfl rfl (fun _ => ?_) (fun h => absurd h (by simp [Tm.rows, Tm.l])) <;> refine R_run hg.ok 1000 rfl rfl ?_
      refine R_call hg.ok (doR_ok sMinus 0 (Tm.evalX x).1 (by unfold I64; omega) hIx) rfl rfl rfl rfl rfl rfl ?_
      refine R_run hg.ok 1000 rfl rfl ?_
      refine R_if rfl rfl (fun h4 => ?_) (fun h4 => ?_) <;> refine R_run hg.ok 1000 rfl rfl ?_
      · refine R_ret hg 5 rfl rfl ?_
        exact fin (r := (0, 6)) (by rw [hex]; unfold outX; rw [if_neg (by simpa using h4)])
      · have h4 : (doX sMinus 0 (Tm.evalX x).1).2 = true := by simpa using h4
        refine R_ret hg 5 rfl rfl ?_
        exact fin (r := ((doX sMinus 0 (Tm.evalX x).1).1, 0)) (by rw [hex]; unfold outX; rw [if_pos h4])
    · refine R_ret hg 5 rfl rfl ?_
      exact bad (.inl ⟨by simp, fun h => by have hm' : strEq s sMinus = false := hm; rw [Tm.strEq_iff.2 h.2] at hm'; cases hm'⟩)
  | [x, y] =>
      have hfx : x.Fit := hf.sub (by simp [Tm.l])
      have hfy : y.Fit := hf.sub (by simp [Tm.l])
      have hIx := Tm.evalX_I64 hfx
      have hIy := Tm.evalX_I64 hfy
      have hex : Tm.evalX (.mk k s n [x, y]) = if (Tm.evalX x).2 ≠ 0 then (0, (Tm.evalX x).2) else if (Tm.evalX y).2 ≠ 0 then (0, (Tm.evalX y).2) else outX (doX s (Tm.evalX x).1 (Tm.evalX y).1) := by
        simp only [Tm.evalX, Tm.evalXL]
        rw [evalF_2 h1 h2, if_pos hop]
      refine R_if rfl rfl (fun h => absurd h (by simp [Tm.rows, Tm.l])) (fun _ => ?_) <;> refine R_run hg.ok 1000 rfl rfl ?_
      refine R_index hg.ok rfl rfl rfl rfl rfl rfl (by decide) (Tm.rows_get (l := [x, y]) (i := 0) rfl) rfl ?_
      refine R_run hg.ok 1000 rfl rfl ?_
      refine R_call hg.ok (ih x (by simp) hfx) rfl rfl rfl rfl rfl rfl ?_
      refine R_run hg.ok 1000 rfl rfl ?_
      refine R_if rfl rfl (fun h3 => ?_) (fun h3 => ?_) <;> refine R_run hg.ok 1000 rfl rfl ?_
      · refine R_ret hg 5 rfl rfl ?_
        exact fin (r := (0, (Tm.evalX x).2)) (by rw [hex, if_pos (by simpa using h3)])
      rw [if_neg (by simpa using h3)] at hex
      refine R_if rfl rfl (fun h => absurd h (by simp [Tm.rows, Tm.l])) (fun _ => ?_) <;> refine R_run hg.ok 1000 rfl rfl ?_
      refine R_index hg.ok rfl rfl rfl rfl rfl rfl (by decide) (Tm.rows_get (l := [x, y]) (i := 1) rfl) rfl ?_
      refine R_run hg.ok 1000 rfl rfl ?_
      refine R_call hg.ok (ih y (by simp) hfy) rfl rfl rfl rfl rfl rfl ?_
      refine R_run hg.ok 1000 rfl rfl ?_
      refine R_if rfl rfl (fun h5 => ?_) (fun h5 => ?_) <;> refine R_run hg.ok 1000 rfl rfl ?_
      · refine R_ret hg 5 rfl rfl ?_
        exact fin (r := (0, (Tm.evalX y).2)) (by rw [hex, if_pos (by simpa using h5)])
      rw [if_neg (by simpa using h5)] at hex
      refine R_call hg.ok (doR_ok s (Tm.evalX x).1 (Tm.evalX y).1 hIx hIy) rfl rfl rfl rfl rfl rfl ?_
      refine R_run hg.ok 1000 rfl rfl ?_
      refine R_if rfl rfl (fun h4 => ?_) (fun h4 => ?_) <;> refine R_run hg.ok 1000 rfl rfl ?_
      · refine R_ret hg 5 rfl rfl ?_
        exact fin (r := (0, 6)) (by rw [hex]; unfold outX; rw [if_neg (by simpa using h4)])
      · have h4 : (doX s (Tm.evalX x).1 (Tm.evalX y).1).2 = true := by simpa using h4
        refine R_ret hg 5 rfl rfl ?_
        exact fin (r := ((doX s (Tm.evalX x).1 (Tm.evalX y).1).1, 0)) (by rw [hex]; unfold outX; rw [if_pos h4])
  | x :: y :: z :: r =>
    refine R_if rfl rfl (fun _ => ?_) (fun h => absurd h (by simp [Tm.rows, Tm.l]; omega)) <;> refine R_run hg.ok 1000 rfl rfl ?_
    refine R_if rfl rfl (fun hm => ?_) (fun hm => ?_) <;> refine R_run hg.ok 1000 rfl rfl ?_
    · refine R_if rfl rfl (fun _ => ?_) (fun h => absurd h (by simp [Tm.rows, Tm.l]; omega)) <;> refine R_run hg.ok 1000 rfl rfl ?_
      refine R_ret hg 5 rfl rfl ?_
      exact bad (.inl ⟨by simp, by simp⟩)
    · refine R_ret hg 5 rfl rfl ?_
      exact bad (.inl ⟨by simp, by simp⟩)
end Go.Proofs.Ytcafgconfcajbaa
