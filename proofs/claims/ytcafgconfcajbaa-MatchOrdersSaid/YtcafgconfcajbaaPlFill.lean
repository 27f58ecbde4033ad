import Derived.Test.YtcafgconfcajbaaPlMatch
import Derived.Test.YtcafgconfcajbaaPlMapN
namespace PSL
open Go

namespace Tm
mutual
/-- A copy within bounds: whether it fits, and what is left. -/
def fillN : Tm → Int → Int → Bool × Int
  | mk _ _ _ l, left, deep => if left - 1 < 0 ∨ deep > 100 then (false, left - 1) else if (fillNL l (left - 1) (deep + 1)).1 then (true, (fillNL l (left - 1) (deep + 1)).2) else (false, left - 1)
def fillNL : List Tm → Int → Int → Bool × Int
  | [], left, _ => (true, left)
  | x :: r, left, deep => if (fillN x left deep).1 then fillNL r (fillN x left deep).2 deep else (false, (fillN x left deep).2)
end
theorem fillN_eq (t : Tm) (left deep : Int) : fillN t left deep = if left - 1 < 0 ∨ deep > 100 then (false, left - 1) else if (fillNL t.l (left - 1) (deep + 1)).1 then (true, (fillNL t.l (left - 1) (deep + 1)).2) else (false, left - 1) := by cases t; simp only [fillN]; rfl

mutual
/-- What a pattern becomes. -/
def putB (B : Binds) : Tm → Tm
  | mk k s n l => if k = 1 then (findB B n).getD (mk k s n (putBL B l)) else mk k s n (putBL B l)
def putBL (B : Binds) : List Tm → List Tm
  | [] => []
  | x :: r => putB B x :: putBL B r
end
theorem putB_eq (B : Binds) (t : Tm) : putB B t = if t.k = 1 then (findB B t.n).getD (mk t.k t.s t.n (putBL B t.l)) else mk t.k t.s t.n (putBL B t.l) := by cases t; simp only [putB]; rfl
theorem putBL_map (B : Binds) : ∀ l, putBL B l = l.map (putB B)
  | [] => rfl
  | x :: r => by simp only [putBL, List.map_cons, putBL_map B r]

mutual
/-- Filling within bounds. -/
def fillB (B : Binds) : Tm → Int → Int → Bool × Int
  | mk k s n l, left, deep =>
    match if k = 1 then findB B n else none with
    | some t => fillN t left deep
    | none => if left - 1 < 0 ∨ deep > 100 then (false, left - 1) else if (fillBL B l (left - 1) (deep + 1)).1 then (true, (fillBL B l (left - 1) (deep + 1)).2) else (false, left - 1)
def fillBL (B : Binds) : List Tm → Int → Int → Bool × Int
  | [], left, _ => (true, left)
  | x :: r, left, deep => if (fillB B x left deep).1 then fillBL B r (fillB B x left deep).2 deep else (false, (fillB B x left deep).2)
end
theorem fillB_eq (B : Binds) (t : Tm) (left deep : Int) : fillB B t left deep = match if t.k = 1 then findB B t.n else none with
    | some x => fillN x left deep
    | none => if left - 1 < 0 ∨ deep > 100 then (false, left - 1) else if (fillBL B t.l (left - 1) (deep + 1)).1 then (true, (fillBL B t.l (left - 1) (deep + 1)).2) else (false, left - 1) := by cases t; simp only [fillB]; rfl

mutual
/-- A copy fits, just if it is small and low enough. -/
theorem fillN_ok : ∀ (t : Tm) (left deep : Int), 0 ≤ left → 1 ≤ deep → ((fillN t left deep).1 = true ↔ (t.size : Int) ≤ left ∧ deep + t.depth ≤ 101) ∧ ((fillN t left deep).1 = true → (fillN t left deep).2 = left - t.size)
  | mk k s n l, left, deep, h0, h1 => by
    simp only [fillN, size, depth]
    by_cases h : left - 1 < 0 ∨ deep > 100
    · rw [if_pos h]
      refine ⟨⟨fun h => by simp at h, fun h2 => ?_⟩, fun h => by simp at h⟩
      omega
    · rw [if_neg h]
      have ih := fillNL_ok l (left - 1) (deep + 1) (by omega) (by omega)
      by_cases h2 : (fillNL l (left - 1) (deep + 1)).1 = true
      · rw [if_pos h2]
        have e := ih.1.1 h2
        have e2 := ih.2 h2
        refine ⟨⟨fun _ => ⟨by omega, ?_⟩, fun _ => rfl⟩, fun _ => by simp only [e2]; omega⟩
        rcases e.2 with hl | hl
        · subst hl; simp [depthL]; omega
        · omega
      · rw [if_neg h2]
        refine ⟨⟨fun h => by simp at h, fun h3 => absurd (ih.1.2 ⟨by omega, .inr (by omega)⟩) h2⟩, fun h => by simp at h⟩
theorem fillNL_ok : ∀ (l : List Tm) (left deep : Int), 0 ≤ left → 1 ≤ deep → ((fillNL l left deep).1 = true ↔ (sizeL l : Int) ≤ left ∧ (l = [] ∨ deep + depthL l ≤ 101)) ∧ ((fillNL l left deep).1 = true → (fillNL l left deep).2 = left - sizeL l)
  | [], left, deep, h0, h1 => by simp [fillNL, sizeL, h0]
  | x :: r, left, deep, h0, h1 => by
    have hx := fillN_ok x left deep h0 h1
    simp only [fillNL, sizeL, depthL]
    by_cases h : (fillN x left deep).1 = true
    · rw [if_pos h]
      have e := hx.1.1 h
      have e2 := hx.2 h
      have ih := fillNL_ok r (fillN x left deep).2 deep (by omega) h1
      refine ⟨ih.1.trans ?_, fun h3 => by rw [ih.2 h3, e2]; omega⟩
      constructor
      · rintro ⟨h3, h4⟩
        refine ⟨by omega, .inr ?_⟩
        rcases h4 with h4 | h4
        · subst h4; simp [depthL]; omega
        · omega
      · rintro ⟨h3, h4⟩
        refine ⟨by omega, ?_⟩
        rcases h4 with h4 | h4
        · simp at h4
        · exact .inr (by omega)
    · rw [if_neg h]
      refine ⟨⟨fun h => by simp at h, fun h3 => absurd (hx.1.2 ⟨by omega, ?_⟩) h⟩, fun h => by simp at h⟩
      rcases h3.2 with h4 | h4
      · simp at h4
      · omega
end

mutual
theorem fillB_ok (B : Binds) : ∀ (t : Tm) (left deep : Int), 0 ≤ left → 1 ≤ deep → ((fillB B t left deep).1 = true ↔ ((putB B t).size : Int) ≤ left ∧ deep + (putB B t).depth ≤ 101) ∧ ((fillB B t left deep).1 = true → (fillB B t left deep).2 = left - (putB B t).size)
  | mk k s n l, left, deep, h0, h1 => by
    simp only [fillB, putB]
    cases hm : (if k = 1 then findB B n else none) with
    | some x =>
      have hk : k = 1 := Classical.byContradiction fun e => by rw [if_neg e] at hm; simp at hm
      rw [if_pos hk] at hm ⊢
      simp only [hm, Option.getD_some]
      exact fillN_ok x left deep h0 h1
    | none =>
      have e : (if k = 1 then (findB B n).getD (mk k s n (putBL B l)) else mk k s n (putBL B l)) = mk k s n (putBL B l) := by
        split
        · rename_i hk; rw [if_pos hk] at hm; rw [hm]; rfl
        · rfl
      simp only [e, size, depth]
      by_cases h : left - 1 < 0 ∨ deep > 100
      · rw [if_pos h]
        refine ⟨⟨fun h => by simp at h, fun h2 => ?_⟩, fun h => by simp at h⟩
        omega
      · rw [if_neg h]
        have ih := fillBL_ok B l (left - 1) (deep + 1) (by omega) (by omega)
        by_cases h2 : (fillBL B l (left - 1) (deep + 1)).1 = true
        · rw [if_pos h2]
          have e := ih.1.1 h2
          have e2 := ih.2 h2
          refine ⟨⟨fun _ => ⟨by omega, ?_⟩, fun _ => rfl⟩, fun _ => by simp only [e2]; omega⟩
          rcases e.2 with hl | hl
          · subst hl; simp [putBL, depthL]; omega
          · omega
        · rw [if_neg h2]
          refine ⟨⟨fun h => by simp at h, fun h3 => absurd (ih.1.2 ⟨by omega, .inr (by omega)⟩) h2⟩, fun h => by simp at h⟩
theorem fillBL_ok (B : Binds) : ∀ (l : List Tm) (left deep : Int), 0 ≤ left → 1 ≤ deep → ((fillBL B l left deep).1 = true ↔ (sizeL (putBL B l) : Int) ≤ left ∧ (l = [] ∨ deep + depthL (putBL B l) ≤ 101)) ∧ ((fillBL B l left deep).1 = true → (fillBL B l left deep).2 = left - sizeL (putBL B l))
  | [], left, deep, h0, h1 => by simp [fillBL, putBL, sizeL, h0]
  | x :: r, left, deep, h0, h1 => by
    have hx := fillB_ok B x left deep h0 h1
    simp only [fillBL, putBL, sizeL, depthL]
    by_cases h : (fillB B x left deep).1 = true
    · rw [if_pos h]
      have e := hx.1.1 h
      have e2 := hx.2 h
      have ih := fillBL_ok B r (fillB B x left deep).2 deep (by omega) h1
      refine ⟨ih.1.trans ?_, fun h3 => by rw [ih.2 h3, e2]; omega⟩
      constructor
      · rintro ⟨h3, h4⟩
        refine ⟨by omega, .inr ?_⟩
        rcases h4 with h4 | h4
        · subst h4; simp [putBL, depthL]; omega
        · omega
      · rintro ⟨h3, h4⟩
        refine ⟨by omega, ?_⟩
        rcases h4 with h4 | h4
        · simp at h4
        · exact .inr (by omega)
    · rw [if_neg h]
      refine ⟨⟨fun h => by simp at h, fun h3 => absurd (hx.1.2 ⟨by omega, ?_⟩) h⟩, fun h => by simp at h⟩
      rcases h3.2 with h4 | h4
      · simp at h4
      · omega
end
end Tm
end PSL
