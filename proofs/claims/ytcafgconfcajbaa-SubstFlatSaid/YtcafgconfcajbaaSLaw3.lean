import Derived.Test.YtcafgconfcajbaaSSubst3
import Derived.Test.YtcafgconfcajbaaSRefV
import Derived.Test.YtcafgconfcajbaaPlA
namespace Go.Proofs.Ytcafgconfcajbaa
open Go PSL Go.Proofs

def sY : Tm := Tm.vT 1
def sB : Binds := [(0, .mk 3 ⟨#[102]⟩ 0 [sY]), (1, .mk 3 ⟨#[97]⟩ 0 [])]
def sG : Tm := .mk 3 ⟨#[103]⟩ 0 [Tm.vT 0, Tm.vT 2]

theorem smallFair {B : Binds} (hl : B.length ≤ 4000) (h : B.all (fun b => b.2.fairR) = true) (hs : B.all (fun b => decide (b.2.size < 400000000)) = true) : Small B :=
  ⟨hl, fun b hb => by simpa using List.all_eq_true.1 hs b hb, fun b hb x e he => fair_names (List.all_eq_true.1 h b hb) x e he⟩

set_option maxRecDepth 100000 in
theorem knows3_ok : PCtr Try.prog 27 [] (bV true) := by
  have sb : Small sB := smallFair (by decide) (by kernel_rfl) (by kernel_rfl)
  have s0 : Small [(0, Tm.vT 0)] := smallFair (by decide) (by kernel_rfl) (by kernel_rfl)
  have hA := apply_ok sB 3 (fun _ => Sub.ofB (by kernel_rfl)) sb sG (by decide) (fun x e he => fair_names (t := sG) (by kernel_rfl) x e he)
  rw [show applyT sB 3 sG = (.mk 3 ⟨#[103]⟩ 0 [.mk 3 ⟨#[102]⟩ 0 [.mk 3 ⟨#[97]⟩ 0 []], Tm.vT 2], 0) by kernel_rfl] at hA
  have hR := subRight_ok sB sb
  rw [show rightS sB = true by kernel_rfl] at hR
  have hR2 := subRight_ok [(0, Tm.vT 0)] s0
  rw [show rightS [(0, Tm.vT 0)] = false by kernel_rfl] at hR2
  refine PCtr.of_R (pf := fun _ => .still) tyOk mixed Try.func27 rfl (by kernel_rfl) (by kernel_rfl) (by simp [Try.ntmps27]) fun w S hg => ?_
  refine R_run hg.ok 1000 rfl rfl ?_
  refine R_callN hg.ok (hA) rfl rfl rfl rfl (by kernel_rfl) rfl rfl ?_
  refine R_run hg.ok 1000 rfl rfl ?_
  refine R_callN hg.ok (hR) rfl rfl rfl rfl (by kernel_rfl) rfl rfl ?_
  refine R_run hg.ok 1000 rfl rfl ?_
  refine R_if rfl rfl (fun _ => ?_) (fun h => absurd h (by simp)) <;> refine R_run hg.ok 1000 rfl rfl ?_
  refine R_callN hg.ok (hR2) rfl rfl rfl rfl (by kernel_rfl) rfl rfl ?_
  refine R_run hg.ok 1000 rfl rfl ?_
  repeat
    first
    | (refine R_if rfl rfl (fun _ => ?_) (fun h => absurd h (by decide)); refine R_run hg.ok 1000 rfl rfl ?_)
    | (refine R_index hg.ok rfl rfl rfl rfl rfl rfl (by decide) rfl rfl ?_; refine R_run hg.ok 1000 rfl rfl ?_)
    | (refine R_if rfl rfl (fun _ => ?_) (fun h => absurd (h.symm.trans (Tm.strEq_iff.2 rfl)) (by simp)); refine R_run hg.ok 1000 rfl rfl ?_)
  refine R_ret hg 5 rfl rfl ?_
  rfl

theorem some_one {t : Tm} (h : Tm.someT [t] = true) : t.size ≤ 4000 ∧ ∀ x e, e ∈ t.els x → e.2.s.size < 1000000000 := by
  obtain ⟨h1, _, _, h4⟩ := Tm.someT_ok h
  refine ⟨by have := Tm.size_mem (l := [t]) (x := t) (by simp); omega, fun x e he => by have := h4 x e (Tm.els_memL (by simp) he); omega⟩

theorem someS_small {B : Binds} (h : someS B = true) : Small B := by
  obtain ⟨h1, h2⟩ := someS_ok h
  exact ⟨by omega, fun b hb => by have := (h2 b hb).1; omega, fun b hb x e he => by have := (h2 b hb).2 x e he; omega⟩

set_option maxRecDepth 100000 in
theorem substEnds_ok (B : Binds) (hB : ∀ b ∈ B, b.2.Ok) (hBl : B.length ≤ 140737488355328) (t : Tm) (ht : t.Ok) : PCtr Try.prog 7 [.d (.sl (bindRows B)), t.av] (bV true) := by
  refine PCtr.of_R (pf := fun _ => .still) tyOk mixed Try.func7 rfl (by kernel_rfl) (by kernel_rfl) (by simp [Try.ntmps7]) fun w S hg => ?_
  refine R_run hg.ok 1000 rfl rfl ?_
  refine R_call hg.ok (refSome3_ok B hB hBl) rfl rfl rfl rfl rfl rfl ?_
  refine R_run hg.ok 1000 rfl rfl ?_
  refine R_if rfl rfl (fun h => ?_) (fun h => ?_) <;> refine R_run hg.ok 1000 rfl rfl ?_
  · refine R_call hg.ok (knows3_ok) rfl rfl rfl rfl rfl rfl ?_
    refine R_run hg.ok 1000 rfl rfl ?_
    refine R_ret hg 5 rfl rfl ?_
    rfl
  have hs : someS B = true := by simpa using h
  have sB := someS_small hs
  have hl := (someS_ok hs).1
  refine R_call hg.ok ((some_ok [t] (by simp; exact ht) (by simp)).one) rfl rfl rfl rfl rfl rfl ?_
  refine R_run hg.ok 1000 rfl rfl ?_
  refine R_if rfl rfl (fun h => ?_) (fun h => ?_) <;> refine R_run hg.ok 1000 rfl rfl ?_
  · refine R_call hg.ok (knows3_ok) rfl rfl rfl rfl rfl rfl ?_
    refine R_run hg.ok 1000 rfl rfl ?_
    refine R_ret hg 5 rfl rfl ?_
    rfl
  obtain ⟨st, nt⟩ := some_one (t := t) (by simpa using h)
  obtain ⟨M, hM⟩ : ∃ M, rightS B = true → Sub B M := by
    by_cases hr : rightS B = true
    · obtain ⟨M, h⟩ := Sub.of hr; exact ⟨M, fun _ => h⟩
    · exact ⟨0, fun h => absurd h hr⟩
  have hap := apply_ok B M hM sB t (by omega) nt
  rcases applyT_cases B M t with he | ⟨he, hz⟩
  rotate_left
  · generalize hq : applyT B M t = q at hap he hz
    obtain ⟨q1, q2⟩ := q
    simp only at he hz
    subst hz
    refine R_call hg.ok (hap) rfl rfl rfl rfl rfl rfl ?_
    refine R_run hg.ok 1000 rfl rfl ?_
    refine R_if rfl rfl (fun _ => ?_) (fun h => absurd h (by simpa using he)) <;> refine R_run hg.ok 1000 rfl rfl ?_
    refine R_call hg.ok (refSame_ok zeroT zeroT (by decide)) rfl rfl rfl rfl rfl rfl ?_
    refine R_run hg.ok 1000 rfl rfl ?_
    refine R_if rfl rfl (fun _ => ?_) (fun h => absurd h (by rw [Tm.same_refl]; simp)) <;> refine R_run hg.ok 1000 rfl rfl ?_
    refine R_call hg.ok (knows3_ok) rfl rfl rfl rfl rfl rfl ?_
    refine R_run hg.ok 1000 rfl rfl ?_
    refine R_ret hg 5 rfl rfl ?_
    rfl
  obtain ⟨hr, htr, hF, hsz, hdp⟩ := applyT_ok he
  have hS := hM hr
  have hf := right_fair htr
  have hfx := hS.fairF hf
  have hfree := hS.free t
  have htw := hS.twice hf
  have hsame := fun h => hS.same hf h
  have hap2 := apply_ok B M hM sB (fullS B M t) (by omega) (fun x e he => fair_names hfx x e he)
  have hxr : (fullS B M t).rightB = true := Tm.rightB_iff.2 ⟨hfx, by omega, by omega⟩
  rw [show applyT B M (fullS B M t) = (fullS B M t, 0) by
    unfold applyT; rw [hr, hxr, htw, decide_eq_true hsz, decide_eq_true hdp]; rfl] at hap2
  rw [show applyT B M t = (fullS B M t, 0) from Prod.ext hF he] at hap
  generalize fullS B M t = x at *
  have ho : ∀ v ∈ varsT [x], placeB B v < 0 := fun v hv => by
    rw [varsT_once (one_fair hfx)] at hv
    simp [Tm.occL, Tm.mem_once] at hv
    exact findB_place.1 (hfree v hv)
  have hvl : (varsT [x]).length ≤ Tm.sizeL [x] := by have := varsF_len [x] []; simpa [varsF, varsT] using this
  simp only [Tm.sizeL] at hvl
  have hvx := (vars_ok [x] (by simp [Tm.sizeL]; omega)).one
  generalize varsT [x] = V at hvx ho hvl
  refine R_call hg.ok (hap) rfl rfl rfl rfl rfl rfl ?_
  refine R_run hg.ok 1000 rfl rfl ?_
  refine R_if rfl rfl (fun h => absurd h (by simp)) (fun _ => ?_) <;> refine R_run hg.ok 1000 rfl rfl ?_
  refine R_call hg.ok (hvx) rfl rfl rfl rfl rfl rfl ?_
  refine R_run hg.ok 1000 rfl rfl ?_
  refine R_loop (fun k : Nat => ([(0, .d (.sl (bindRows B))), (3, .lo 0 0), (5, .lo 1 0), (7, .d (.sl (irows V))), (8, iV k)], [boxR t, boxR x])) (fun k => k ≤ V.length) (fun k => V.length - k) 0 (Nat.zero_le _) ⟨.refl _, .refl _, .refl _, .refl _, .refl _, trivial⟩ rfl ?_
  intro k hk
  refine R_run hg.ok 1000 rfl rfl ?_
  refine R_if rfl rfl (fun h => ?_) (fun h => ?_) <;> refine R_run hg.ok 1000 rfl rfl ?_
  · have hk1 : k < V.length := lt_dec h (by rw [irows_length])
    have e1 : V[k]? = some V[k] := List.getElem?_eq_getElem hk1
    have hp := ho _ (List.getElem_mem hk1)
    refine R_index hg.ok rfl rfl rfl rfl rfl rfl (Int.natCast_nonneg _) (irows_get e1) rfl ?_
    refine R_run hg.ok 1000 rfl rfl ?_
    refine R_call hg.ok (place_ok B V[k] (by omega)) rfl rfl rfl rfl rfl rfl ?_
    refine R_run hg.ok 1000 rfl rfl ?_
    refine R_if rfl rfl (fun h => absurd h (by simp; omega)) (fun _ => ?_) <;> refine R_run hg.ok 1000 rfl rfl ?_
    exact R_next (k + 1) hk1 (by omega) ⟨.refl _, .refl _, .refl _, .refl _, Ent.wrap (by omega) (by omega) (by omega), trivial⟩ rfl
  refine R_call hg.ok (hap2) rfl rfl rfl rfl rfl rfl ?_
  refine R_run hg.ok 1000 rfl rfl ?_
  have hvt := (refVars_ok [t] (by simp [Tm.sizeL]; omega)).one
  have hwl := Tm.withVL_len [t] []
  have hwo : ∀ u ∈ Tm.occ t, u ∈ Tm.withVL [] [t] := fun u hu => by
    rw [Tm.withVL_occ]
    exact Tm.mem_foldl.2 (.inr (by simp [Tm.occL, hu]))
  simp only [Tm.sizeL, List.length_nil] at hwl
  generalize Tm.withVL [] [t] = W at hvt hwl hwo
  refine R_call hg.ok (hvt) rfl rfl rfl rfl rfl rfl ?_
  refine R_run hg.ok 1000 rfl rfl ?_
  refine R_loop (fun x_ : Nat × Bool => ([(0, .d (.sl (bindRows B))), (3, .lo 0 0), (5, .lo 1 0), (9, .lo 2 0), (10, iV 0), (11, bV x_.2), (12, .d (.sl (irows W))), (13, iV x_.1)], [boxR t, boxR x, boxR x])) (fun x_ => x_.1 ≤ W.length ∧ (x_.2 = true → ∀ u ∈ W.take x_.1, placeB B u < 0)) (fun x_ => W.length - x_.1) (0, true) ⟨Nat.zero_le _, fun _ => by simp⟩ ⟨.refl _, .refl _, .refl _, .refl _, .refl _, .tt, .refl _, .refl _, trivial⟩ rfl ?_
  rintro ⟨k, f⟩ ⟨hk, hm⟩
  simp only at hk hm
  refine R_run hg.ok 1000 rfl rfl ?_
  refine R_if rfl rfl (fun h => ?_) (fun h => ?_) <;> refine R_run hg.ok 1000 rfl rfl ?_
  · have hk1 : k < W.length := lt_dec h (by rw [irows_length])
    have e1 : W[k]? = some W[k] := List.getElem?_eq_getElem hk1
    refine R_if rfl rfl (fun h1 => ?_) (fun h1 => ?_) <;> refine R_run hg.ok 1000 rfl rfl ?_
    · refine R_index hg.ok rfl rfl rfl rfl rfl rfl (Int.natCast_nonneg _) (irows_get e1) rfl ?_
      refine R_run hg.ok 1000 rfl rfl ?_
      refine R_call hg.ok (place_ok B W[k] (by omega)) rfl rfl rfl rfl rfl rfl ?_
      refine R_run hg.ok 1000 rfl rfl ?_
      refine R_next (k + 1, decide (placeB B W[k] < 0)) ⟨hk1, fun hd u hu => ?_⟩ (by simp only; omega) ⟨.refl _, .refl _, .refl _, .refl _, .refl _, .refl _, .refl _, Ent.wrap (by simp only; omega) (by simp only; omega) (by simp only; omega), trivial⟩ rfl
      rw [List.take_add_one, e1] at hu
      rcases List.mem_append.1 hu with hu | hu
      · exact hm h1 u hu
      · simp at hu; rw [hu]; exact of_decide_eq_true hd
    · exact R_next (k + 1, false) ⟨hk1, fun hd => by cases hd⟩ (by simp only; omega) ⟨.refl _, .refl _, .refl _, .refl _, .refl _, .ff, .refl _, Ent.wrap (by simp only; omega) (by simp only; omega) (by simp only; omega), trivial⟩ rfl
  have hk1 : W.length ≤ k := ge_dec h (by rw [irows_length])
  refine R_if rfl rfl (fun _ => ?_) (fun h => absurd h (by simp)) <;> refine R_run hg.ok 1000 rfl rfl ?_
  refine R_call hg.ok (refSame_ok x x (by omega)) rfl rfl rfl rfl rfl rfl ?_
  refine R_run hg.ok 1000 rfl rfl ?_
  refine R_if rfl rfl (fun _ => ?_) (fun h => absurd h (by rw [Tm.same_refl]; simp)) <;> refine R_run hg.ok 1000 rfl rfl ?_
  cases f with
  | false =>
    refine R_if rfl rfl (fun _ => ?_) (fun h => absurd h (by simp)) <;> refine R_run hg.ok 1000 rfl rfl ?_
    refine R_call hg.ok (knows3_ok) rfl rfl rfl rfl rfl rfl ?_
    refine R_run hg.ok 1000 rfl rfl ?_
    refine R_ret hg 5 rfl rfl ?_
    rfl
  | true =>
    have e : x = t := hsame fun u hu => findB_place.2 (hm rfl u (by rw [List.take_of_length_le hk1]; exact hwo u hu))
    refine R_if rfl rfl (fun h => absurd h (by simp)) (fun _ => ?_) <;> refine R_run hg.ok 1000 rfl rfl ?_
    refine R_call hg.ok (refSame_ok x t (by omega)) rfl rfl rfl rfl rfl rfl ?_
    refine R_run hg.ok 1000 rfl rfl ?_
    refine R_if rfl rfl (fun _ => ?_) (fun h => absurd h (by rw [e, Tm.same_refl]; simp)) <;> refine R_run hg.ok 1000 rfl rfl ?_
    refine R_call hg.ok (knows3_ok) rfl rfl rfl rfl rfl rfl ?_
    refine R_run hg.ok 1000 rfl rfl ?_
    refine R_ret hg 5 rfl rfl ?_
    rfl
end Go.Proofs.Ytcafgconfcajbaa
