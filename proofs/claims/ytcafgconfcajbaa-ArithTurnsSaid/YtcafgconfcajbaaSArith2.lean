import Derived.Test.YtcafgconfcajbaaSArith
namespace Go.Proofs.Ytcafgconfcajbaa
open Go PSL Go.Proofs

theorem deed_of {s : ByteArray} (h : isOp s = true) : ∃ f, getS deedsM s = some (.clo f [] []) ∧ Deed f s := by
  rcases isOp_cases h with rfl | rfl | rfl | rfl | rfl
  · exact ⟨_, rfl, deed1_ok⟩
  · exact ⟨_, rfl, deed2_ok⟩
  · exact ⟨_, rfl, deed3_ok⟩
  · exact ⟨_, rfl, deed4_ok⟩
  · exact ⟨_, rfl, deed5_ok⟩
theorem deed_no {s : ByteArray} (h : isOp s = false) : getS deedsM s = none := by
  obtain ⟨h1, h2, h3, h4, h5⟩ := isOp_not h
  simp only [deedsM, getS]
  rw [if_neg (Ne.symm h1), if_neg (Ne.symm h2), if_neg (Ne.symm h3), if_neg (Ne.symm h4), if_neg (Ne.symm h5)]

theorem evalX_bad {t : Tm} (h1 : ¬ t.k = 1) (h2 : ¬ t.k = 2) (h3 : (t.l.length ≠ 2 ∧ ¬ (t.l.length = 1 ∧ t.s = sMinus)) ∨ isOp t.s = false) : Tm.evalX t = (0, 5) := by
  obtain ⟨k, s, n, l⟩ := t
  simp only [Tm.k, Tm.l, Tm.s] at h1 h2 h3
  rw [Tm.evalX]
  match l with
  | [] => exact evalF_0 h1 h2
  | [x] =>
    simp only [Tm.evalXL]
    rw [evalF_1 h1 h2, if_neg]
    rw [Tm.strEq_iff]
    rcases h3 with h3 | h3
    · exact fun e => h3.2 ⟨rfl, e⟩
    · exact (isOp_not h3).2.1
  | [x, y] =>
    simp only [Tm.evalXL]
    rw [evalF_2 h1 h2]
    rcases h3 with h3 | h3
    · exact absurd rfl h3.1
    · rw [h3]; rfl
  | x :: y :: z :: r => exact evalF_3 h1 h2

theorem minusOp : isOp sMinus = true := by simp [isOp, strSelf]

set_option maxRecDepth 100000 in
theorem eval_ok (Y : YP) (t : Tm) : t.Fit → SCtr Try.prog Y 60 [t.av, .mp 0] [.map (smap deedsM)] (.tup [iV (Tm.evalX t).1, iV (Tm.evalX t).2]) [.map (smap deedsM)] := by
  induction t using Tm.ind with
  | _ t ih =>
  intro hf
  have fin : ∀ {r : Int × Int}, Tm.evalX t = r → AV.tup [iV r.1, iV r.2] = AV.tup [iV (Tm.evalX t).1, iV (Tm.evalX t).2] := fun e => by rw [e]
  refine SCtr.of_R (pf := fun _ => .eff) tyOk mixed Try.func60 rfl (by kernel_rfl) (by kernel_rfl) (by simp [Try.ntmps60]) (by simp) fun w S φ hg => ?_
  refine R_run hg.ok 1000 rfl rfl ?_
  refine R_if rfl rfl (fun g1 => ?_) (fun g1 => ?_) <;> refine R_run hg.ok 1000 rfl rfl ?_
  · rw [← fin (r := (0, 4)) (by rw [Tm.evalX_eq, evalF_k1 (by simpa using g1)])]
    exact R_retS hg 1 5 (Nat.le_refl _) rfl rfl rfl
  refine R_if rfl rfl (fun g2 => ?_) (fun g2 => ?_) <;> refine R_run hg.ok 1000 rfl rfl ?_
  · rw [← fin (r := (t.n, 0)) (by rw [Tm.evalX_eq, evalF_k2 (by simpa using g1) (by simpa using g2)])]
    exact R_retS hg 1 5 (Nat.le_refl _) rfl rfl rfl
  have h1 : ¬ t.k = 1 := by simpa using g1
  have h2 : ¬ t.k = 2 := by simpa using g2
  have bad : ((t.l.length ≠ 2 ∧ ¬ (t.l.length = 1 ∧ t.s = sMinus)) ∨ isOp t.s = false) → AV.tup [iV 0, iV 5] = AV.tup [iV (Tm.evalX t).1, iV (Tm.evalX t).2] := fun h => fin (r := (0, 5)) (evalX_bad h1 h2 h)
  cases hop : isOp t.s with
  | false =>
    refine R_lookupS hg.ok deedsM rfl rfl rfl rfl rfl rfl rfl (zv := .nilFunc) (by kernel_rfl) (v := .tup [.d (.v .nilFunc), bV false]) (by rw [deed_no hop]; rfl) ?_
    refine R_run hg.ok 1000 rfl rfl ?_
    have hnm : ¬ strEq t.s ⟨#[45]⟩ = true := fun h => (isOp_not hop).2.1 (Tm.strEq_iff.1 h)
    refine R_if rfl rfl (fun h => absurd h hnm) (fun _ => ?_) <;> refine R_run hg.ok 1000 rfl rfl ?_
    refine R_if rfl rfl (fun _ => ?_) (fun h => absurd h (by simp)) <;> refine R_run hg.ok 1000 rfl rfl ?_
    rw [← bad (.inr hop)]
    exact R_retS hg 1 5 (Nat.le_refl _) rfl rfl rfl
  | true =>
    obtain ⟨f, hget, hdeed⟩ := deed_of hop
    refine R_lookupS hg.ok deedsM rfl rfl rfl rfl rfl rfl rfl (zv := .nilFunc) (by kernel_rfl) (v := .tup [.clo f [] [], bV true]) (by rw [hget]; rfl) ?_
    refine R_run hg.ok 1000 rfl rfl ?_
    obtain ⟨k, s, n, l⟩ := t
    simp only [Tm.k, Tm.l, Tm.s] at h1 h2 hop hget hdeed bad ih
    match l with
    | [] =>
      refine R_if rfl rfl (fun hm => ?_) (fun hm => ?_) <;> refine R_run hg.ok 1000 rfl rfl ?_
      · refine R_if rfl rfl (fun _ => ?_) (fun h => absurd h (by simp [Tm.rows, Tm.l])) <;> refine R_run hg.ok 1000 rfl rfl ?_
        refine R_if rfl rfl (fun h => absurd h (by simp)) (fun _ => ?_) <;> refine R_run hg.ok 1000 rfl rfl ?_
        refine R_if rfl rfl (fun _ => ?_) (fun h => absurd h (by simp [Tm.rows, Tm.l])) <;> refine R_run hg.ok 1000 rfl rfl ?_
        rw [← bad (.inl ⟨by simp, by simp⟩)]
        exact R_retS hg 1 5 (Nat.le_refl _) rfl rfl rfl
      · refine R_if rfl rfl (fun h => absurd h (by simp)) (fun _ => ?_) <;> refine R_run hg.ok 1000 rfl rfl ?_
        refine R_if rfl rfl (fun _ => ?_) (fun h => absurd h (by simp [Tm.rows, Tm.l])) <;> refine R_run hg.ok 1000 rfl rfl ?_
        rw [← bad (.inl ⟨by simp, by simp⟩)]
        exact R_retS hg 1 5 (Nat.le_refl _) rfl rfl rfl
    | [x] =>
      refine R_if rfl rfl (fun hm => ?_) (fun hm => ?_) <;> refine R_run hg.ok 1000 rfl rfl ?_
      · -- a lone '-'
        have hs : s = sMinus := Tm.strEq_iff.1 hm
        subst hs
        have hfx : x.Fit := hf.sub (by simp [Tm.l])
        have hIx := Tm.evalX_I64 hfx
        have hex : Tm.evalX (.mk k sMinus n [x]) = if (Tm.evalX x).2 ≠ 0 then (0, (Tm.evalX x).2) else outX (doX sMinus 0 (Tm.evalX x).1) := by
          simp only [Tm.evalX, Tm.evalXL]
          rw [evalF_1 h1 h2, if_pos (strSelf _)]
        refine R_if rfl rfl (fun h => absurd h (by simp [Tm.rows, Tm.l])) (fun _ => ?_) <;> refine R_run hg.ok 1000 rfl rfl ?_
        refine R_index hg.ok rfl rfl rfl rfl rfl rfl (by decide) (Tm.rows_get (l := [x]) (i := 0) rfl) rfl ?_
        refine R_run hg.ok 1000 rfl rfl ?_
        refine R_callL hg.ok hg.gup hg.wide hg.Y [0] (ih x (by simp) hfx) (fun _ => rfl) rfl rfl rfl rfl rfl rfl rfl rfl ?_
        refine R_run hg.ok 1000 rfl rfl ?_
        refine R_if rfl rfl (fun h3 => ?_) (fun h3 => ?_) <;> refine R_run hg.ok 1000 rfl rfl ?_
        · rw [← fin (r := (0, (Tm.evalX x).2)) (by rw [hex, if_pos (by simpa using h3)])]
          exact R_retS hg 1 5 (Nat.le_refl _) rfl rfl rfl
        rw [if_neg (by simpa using h3)] at hex
        refine R_if rfl rfl (fun _ => ?_) (fun h => absurd h (by simp [Tm.rows, Tm.l])) <;> refine R_run hg.ok 1000 rfl rfl ?_
        obtain ⟨v, hv1, hv2⟩ := hdeed 0 (Tm.evalX x).1 (by unfold I64; omega) hIx
        refine R_call hg.ok (hv1) rfl rfl rfl rfl rfl rfl ?_
        refine R_run hg.ok 1000 rfl rfl ?_
        refine R_if rfl rfl (fun h4 => ?_) (fun h4 => ?_) <;> refine R_run hg.ok 1000 rfl rfl ?_
        · rw [← fin (r := (0, 6)) (by rw [hex]; unfold outX; rw [if_neg (by simpa using h4)])]
          exact R_retS hg 1 5 (Nat.le_refl _) rfl rfl rfl
        · have h4 : (doX sMinus 0 (Tm.evalX x).1).2 = true := by simpa using h4
          rw [← fin (r := (v, 0)) (by rw [hex]; unfold outX; rw [if_pos h4, hv2 h4])]
          exact R_retS hg 1 5 (Nat.le_refl _) rfl rfl rfl
      · refine R_if rfl rfl (fun h => absurd h (by simp)) (fun _ => ?_) <;> refine R_run hg.ok 1000 rfl rfl ?_
        refine R_if rfl rfl (fun _ => ?_) (fun h => absurd h (by simp [Tm.rows, Tm.l])) <;> refine R_run hg.ok 1000 rfl rfl ?_
        rw [← bad (.inl ⟨by simp, fun h => by have hm' : strEq s sMinus = false := hm; rw [Tm.strEq_iff.2 h.2] at hm'; cases hm'⟩)]
        exact R_retS hg 1 5 (Nat.le_refl _) rfl rfl rfl
    | [x, y] =>
      have hfx : x.Fit := hf.sub (by simp [Tm.l])
      have hfy : y.Fit := hf.sub (by simp [Tm.l])
      have hIx := Tm.evalX_I64 hfx
      have hIy := Tm.evalX_I64 hfy
      have hex : Tm.evalX (.mk k s n [x, y]) = if (Tm.evalX x).2 ≠ 0 then (0, (Tm.evalX x).2) else if (Tm.evalX y).2 ≠ 0 then (0, (Tm.evalX y).2) else outX (doX s (Tm.evalX x).1 (Tm.evalX y).1) := by
        simp only [Tm.evalX, Tm.evalXL]
        rw [evalF_2 h1 h2, if_pos hop]
      refine R_if rfl rfl (fun hm => ?_) (fun hm => ?_) <;> refine R_run hg.ok 1000 rfl rfl ?_
      · refine R_if rfl rfl (fun _ => ?_) (fun h => absurd h (by simp [Tm.rows, Tm.l])) <;> refine R_run hg.ok 1000 rfl rfl ?_
        refine R_if rfl rfl (fun h => absurd h (by simp)) (fun _ => ?_) <;> refine R_run hg.ok 1000 rfl rfl ?_
        refine R_if rfl rfl (fun h => absurd h (by simp [Tm.rows, Tm.l])) (fun _ => ?_) <;> refine R_run hg.ok 1000 rfl rfl ?_
        refine R_index hg.ok rfl rfl rfl rfl rfl rfl (by decide) (Tm.rows_get (l := [x, y]) (i := 0) rfl) rfl ?_
        refine R_run hg.ok 1000 rfl rfl ?_
        refine R_callL hg.ok hg.gup hg.wide hg.Y [0] (ih x (by simp) hfx) (fun _ => rfl) rfl rfl rfl rfl rfl rfl rfl rfl ?_
        refine R_run hg.ok 1000 rfl rfl ?_
        refine R_if rfl rfl (fun h3 => ?_) (fun h3 => ?_) <;> refine R_run hg.ok 1000 rfl rfl ?_
        · rw [← fin (r := (0, (Tm.evalX x).2)) (by rw [hex, if_pos (by simpa using h3)])]
          exact R_retS hg 1 5 (Nat.le_refl _) rfl rfl rfl
        rw [if_neg (by simpa using h3)] at hex
        refine R_if rfl rfl (fun h => absurd h (by simp [Tm.rows, Tm.l])) (fun _ => ?_) <;> refine R_run hg.ok 1000 rfl rfl ?_
        refine R_index hg.ok rfl rfl rfl rfl rfl rfl (by decide) (Tm.rows_get (l := [x, y]) (i := 1) rfl) rfl ?_
        refine R_run hg.ok 1000 rfl rfl ?_
        refine R_callL hg.ok hg.gup hg.wide hg.Y [0] (ih y (by simp) hfy) (fun _ => rfl) rfl rfl rfl rfl rfl rfl rfl rfl ?_
        refine R_run hg.ok 1000 rfl rfl ?_
        refine R_if rfl rfl (fun h5 => ?_) (fun h5 => ?_) <;> refine R_run hg.ok 1000 rfl rfl ?_
        · rw [← fin (r := (0, (Tm.evalX y).2)) (by rw [hex, if_pos (by simpa using h5)])]
          exact R_retS hg 1 5 (Nat.le_refl _) rfl rfl rfl
        rw [if_neg (by simpa using h5)] at hex
        obtain ⟨v, hv1, hv2⟩ := hdeed (Tm.evalX x).1 (Tm.evalX y).1 hIx hIy
        refine R_call hg.ok (hv1) rfl rfl rfl rfl rfl rfl ?_
        refine R_run hg.ok 1000 rfl rfl ?_
        refine R_if rfl rfl (fun h4 => ?_) (fun h4 => ?_) <;> refine R_run hg.ok 1000 rfl rfl ?_
        · rw [← fin (r := (0, 6)) (by rw [hex]; unfold outX; rw [if_neg (by simpa using h4)])]
          exact R_retS hg 1 5 (Nat.le_refl _) rfl rfl rfl
        · have h4 : (doX s (Tm.evalX x).1 (Tm.evalX y).1).2 = true := by simpa using h4
          rw [← fin (r := (v, 0)) (by rw [hex]; unfold outX; rw [if_pos h4, hv2 h4])]
          exact R_retS hg 1 5 (Nat.le_refl _) rfl rfl rfl
      · refine R_if rfl rfl (fun h => absurd h (by simp)) (fun _ => ?_) <;> refine R_run hg.ok 1000 rfl rfl ?_
        refine R_if rfl rfl (fun h => absurd h (by simp [Tm.rows, Tm.l])) (fun _ => ?_) <;> refine R_run hg.ok 1000 rfl rfl ?_
        refine R_index hg.ok rfl rfl rfl rfl rfl rfl (by decide) (Tm.rows_get (l := [x, y]) (i := 0) rfl) rfl ?_
        refine R_run hg.ok 1000 rfl rfl ?_
        refine R_callL hg.ok hg.gup hg.wide hg.Y [0] (ih x (by simp) hfx) (fun _ => rfl) rfl rfl rfl rfl rfl rfl rfl rfl ?_
        refine R_run hg.ok 1000 rfl rfl ?_
        refine R_if rfl rfl (fun h3 => ?_) (fun h3 => ?_) <;> refine R_run hg.ok 1000 rfl rfl ?_
        · rw [← fin (r := (0, (Tm.evalX x).2)) (by rw [hex, if_pos (by simpa using h3)])]
          exact R_retS hg 1 5 (Nat.le_refl _) rfl rfl rfl
        rw [if_neg (by simpa using h3)] at hex
        refine R_index hg.ok rfl rfl rfl rfl rfl rfl (by decide) (Tm.rows_get (l := [x, y]) (i := 1) rfl) rfl ?_
        refine R_run hg.ok 1000 rfl rfl ?_
        refine R_callL hg.ok hg.gup hg.wide hg.Y [0] (ih y (by simp) hfy) (fun _ => rfl) rfl rfl rfl rfl rfl rfl rfl rfl ?_
        refine R_run hg.ok 1000 rfl rfl ?_
        refine R_if rfl rfl (fun h5 => ?_) (fun h5 => ?_) <;> refine R_run hg.ok 1000 rfl rfl ?_
        · rw [← fin (r := (0, (Tm.evalX y).2)) (by rw [hex, if_pos (by simpa using h5)])]
          exact R_retS hg 1 5 (Nat.le_refl _) rfl rfl rfl
        rw [if_neg (by simpa using h5)] at hex
        obtain ⟨v, hv1, hv2⟩ := hdeed (Tm.evalX x).1 (Tm.evalX y).1 hIx hIy
        refine R_call hg.ok (hv1) rfl rfl rfl rfl rfl rfl ?_
        refine R_run hg.ok 1000 rfl rfl ?_
        refine R_if rfl rfl (fun h4 => ?_) (fun h4 => ?_) <;> refine R_run hg.ok 1000 rfl rfl ?_
        · rw [← fin (r := (0, 6)) (by rw [hex]; unfold outX; rw [if_neg (by simpa using h4)])]
          exact R_retS hg 1 5 (Nat.le_refl _) rfl rfl rfl
        · have h4 : (doX s (Tm.evalX x).1 (Tm.evalX y).1).2 = true := by simpa using h4
          rw [← fin (r := (v, 0)) (by rw [hex]; unfold outX; rw [if_pos h4, hv2 h4])]
          exact R_retS hg 1 5 (Nat.le_refl _) rfl rfl rfl
    | x :: y :: z :: r =>
      refine R_if rfl rfl (fun hm => ?_) (fun hm => ?_) <;> refine R_run hg.ok 1000 rfl rfl ?_
      · refine R_if rfl rfl (fun _ => ?_) (fun h => absurd h (by simp [Tm.rows, Tm.l]; omega)) <;> refine R_run hg.ok 1000 rfl rfl ?_
        refine R_if rfl rfl (fun h => absurd h (by simp)) (fun _ => ?_) <;> refine R_run hg.ok 1000 rfl rfl ?_
        refine R_if rfl rfl (fun _ => ?_) (fun h => absurd h (by simp [Tm.rows, Tm.l]; omega)) <;> refine R_run hg.ok 1000 rfl rfl ?_
        rw [← bad (.inl ⟨by simp, by simp⟩)]
        exact R_retS hg 1 5 (Nat.le_refl _) rfl rfl rfl
      · refine R_if rfl rfl (fun h => absurd h (by simp)) (fun _ => ?_) <;> refine R_run hg.ok 1000 rfl rfl ?_
        refine R_if rfl rfl (fun _ => ?_) (fun h => absurd h (by simp [Tm.rows, Tm.l]; omega)) <;> refine R_run hg.ok 1000 rfl rfl ?_
        rw [← bad (.inl ⟨by simp, by simp⟩)]
        exact R_retS hg 1 5 (Nat.le_refl _) rfl rfl rfl
end Go.Proofs.Ytcafgconfcajbaa
