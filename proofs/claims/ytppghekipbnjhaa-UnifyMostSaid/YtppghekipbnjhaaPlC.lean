import Derived.Test.YtppghekipbnjhaaPlB
import Derived.Test.YtppghekipbnjhaaPlA
namespace PSL
open Go

/-- Binds. -/
abbrev Binds := List (Int × Tm)
def bindRow (b : Int × Tm) : List D := .v (.int .i64 b.1) :: Tm.row b.2
def bindRows (l : Binds) : List (List D) := l.map bindRow
theorem bindRows_len (l : Binds) : (bindRows l).length = l.length := by simp [bindRows]
theorem bindRows_get {l : Binds} {i : Nat} {x : Int × Tm} (h : l[i]? = some x) : (bindRows l)[i]? = some (bindRow x) := by simp [bindRows, h]
theorem bindRows_sz (l : Binds) : ∀ r ∈ bindRows l, r.length = 5 := by
  intro r hr; obtain ⟨b, _, rfl⟩ := List.mem_map.1 hr; rfl
theorem bindRows_one1 (l : Binds) : ∀ r ∈ bindRows l, ∀ x ∈ r, one1 (.d x) = true := by
  intro r hr x hx
  obtain ⟨b, _, rfl⟩ := List.mem_map.1 hr
  simp [bindRow, Tm.row] at hx
  rcases hx with rfl | rfl | rfl | rfl | rfl <;> rfl
theorem bindRows_app (a b : Binds) : bindRows a ++ bindRows b = bindRows (a ++ b) := by simp [bindRows]

/-- The place of a variable in binds. -/
def placeB (l : Binds) (v : Int) : Int := atI (l.map (·.1)) v 0
def findB (l : Binds) (v : Int) : Option Tm := (l.find? (fun b => b.1 == v)).map (·.2)

theorem atI_find : ∀ (l : Binds) (v : Int) (i : Int), 0 ≤ i → (atI (l.map (·.1)) v i < 0 ∧ findB l v = none) ∨ (∃ (k : Nat) (t : Tm), atI (l.map (·.1)) v i = i + k ∧ l[k]? = some (v, t) ∧ findB l v = some t)
  | [], v, i, h => .inl ⟨by simp [atI], rfl⟩
  | b :: l, v, i, h => by
    by_cases hb : b.1 = v
    · refine .inr ⟨0, b.2, by simp [atI, hb], by simp [← hb], by simp [findB, hb]⟩
    · have hf : findB (b :: l) v = findB l v := by
        simp only [findB, List.find?_cons, show (b.1 == v) = false by simpa using hb]
      simp only [List.map_cons, atI, if_neg hb, hf]
      rcases atI_find l v (i + 1) (by omega) with ⟨h1, h2⟩ | ⟨k, t, h1, h2, h3⟩
      · exact .inl ⟨h1, h2⟩
      · exact .inr ⟨k + 1, t, by rw [h1]; omega, by simpa using h2, h3⟩
theorem placeB_find (l : Binds) (v : Int) : (placeB l v < 0 ∧ findB l v = none) ∨ (∃ (k : Nat) (t : Tm), placeB l v = k ∧ l[k]? = some (v, t) ∧ findB l v = some t) := by
  rcases atI_find l v 0 (Int.le_refl _) with h | ⟨k, t, h1, h2, h3⟩
  · exact .inl h
  · exact .inr ⟨k, t, by unfold placeB; omega, h2, h3⟩

def sameB : Binds → Binds → Bool
  | [], [] => true
  | a :: l, b :: m => a.1 == b.1 && Tm.same a.2 b.2 && sameB l m
  | _, _ => false
theorem sameB_iff : ∀ (l m : Binds), sameB l m = true ↔ l = m
  | [], [] => by simp [sameB]
  | [], _ :: _ => by simp [sameB]
  | _ :: _, [] => by simp [sameB]
  | a :: l, b :: m => by
    simp only [sameB, Bool.and_eq_true, beq_iff_eq, Tm.same_iff, sameB_iff l m, List.cons.injEq]
    constructor
    · rintro ⟨⟨h1, h2⟩, h3⟩; exact ⟨Prod.ext h1 h2, h3⟩
    · rintro ⟨rfl, h3⟩; exact ⟨⟨rfl, rfl⟩, h3⟩
theorem sameB_len {l m : Binds} (h : l.length ≠ m.length) : sameB l m = false := by
  cases hh : sameB l m with
  | false => rfl
  | true => exact absurd (congrArg List.length ((sameB_iff l m).1 hh)) h

/-- One more bind, if it does not clash. -/
def addB (B : Binds) (v : Int) (t : Tm) : Bool × Binds :=
  match findB B v with
  | some x => (Tm.same x t, B)
  | none => (true, B ++ [(v, t)])

namespace Tm
def differ (p t : Tm) : Bool := decide (p.k ≠ t.k) || decide (p.n ≠ t.n) || !strEq p.s t.s || decide (p.l.length ≠ t.l.length)
mutual
def fitM : Tm → Tm → Binds → Bool × Binds
  | mk k s n l, t, B =>
    if k = 1 then addB B n t
    else if differ (mk k s n l) t then (false, B) else fitML l t.l B
def fitML : List Tm → List Tm → Binds → Bool × Binds
  | x :: a, y :: b, B => if (fitM x y B).1 then fitML a b (fitM x y B).2 else fitM x y B
  | _, _, B => (true, B)
end
theorem fitM_eq (p t : Tm) (B : Binds) : fitM p t B = if p.k = 1 then addB B p.n t else if differ p t then (false, B) else fitML p.l t.l B := by cases p; simp only [fitM]; rfl

mutual
def collect : Tm → Tm → Binds × Bool
  | mk k s n l, t =>
    if k = 1 then ([(n, t)], true)
    else if differ (mk k s n l) t then ([], false) else collectL l t.l []
/-- What is collected of rows, behind what there is. -/
def collectL : List Tm → List Tm → Binds → Binds × Bool
  | x :: a, y :: b, B => if (collect x y).2 then collectL a b (B ++ (collect x y).1) else ([], false)
  | _, _, B => (B, true)
end
theorem collect_eq (p t : Tm) : collect p t = if p.k = 1 then ([(p.n, t)], true) else if differ p t then ([], false) else collectL p.l t.l [] := by cases p; simp only [collect]; rfl
end Tm

/-- Binds, each put to those ahead. -/
def addAll : Binds → Binds → Bool × Binds
  | B, [] => (true, B)
  | B, b :: r => if (addB B b.1 b.2).1 then addAll (addB B b.1 b.2).2 r else (false, [])

def matchR (p t : Tm) : Binds × Bool := if (Tm.collect p t).2 then (if (addAll [] (Tm.collect p t).1).1 then ((addAll [] (Tm.collect p t).1).2, true) else ([], false)) else ([], false)
def matchT (p t : Tm) : Binds × Bool × Int :=
  if rightT p && rightT t then (if (Tm.fitM p t []).1 then ((Tm.fitM p t []).2, true, 0) else ([], false, 0)) else ([], false, 1)

theorem addAll_app : ∀ (a B b : Binds), addAll B (a ++ b) = if (addAll B a).1 then addAll (addAll B a).2 b else (false, [])
  | [], B, b => by simp [addAll]
  | x :: a, B, b => by
    simp only [List.cons_append, addAll]
    split
    · exact addAll_app a _ b
    · rfl

namespace Tm
theorem collectL_acc : ∀ (a b : List Tm) (B : Binds), collectL a b B = if (collectL a b []).2 then (B ++ (collectL a b []).1, true) else ([], false)
  | [], _, B => by simp [collectL]
  | _ :: _, [], B => by simp [collectL]
  | x :: a, y :: b, B => by
    simp only [collectL, List.nil_append]
    split
    · rw [collectL_acc a b (B ++ _), collectL_acc a b (collect x y).1]
      split <;> simp
    · simp

mutual
/-- To fit step by step is to collect, and to put together. -/
theorem fitM_ok : ∀ (p t : Tm) (B : Binds), ((fitM p t B).1 = true ↔ (collect p t).2 = true ∧ (addAll B (collect p t).1).1 = true) ∧ ((fitM p t B).1 = true → (fitM p t B).2 = (addAll B (collect p t).1).2)
  | mk k s n l, t, B => by
    have ih := fitML_ok l t.l B
    simp only [fitM, collect]
    by_cases hk : k = 1
    · simp only [if_pos hk, addAll, true_and]
      cases h : (addB B n t).1 with
      | true => simp
      | false => simp [Prod.swap]
    · simp only [if_neg hk]
      by_cases hd : differ (mk k s n l) t = true
      · simp [hd]
      · rw [if_neg hd, if_neg hd]; exact ih
theorem fitML_ok : ∀ (a b : List Tm) (B : Binds), ((fitML a b B).1 = true ↔ (collectL a b []).2 = true ∧ (addAll B (collectL a b []).1).1 = true) ∧ ((fitML a b B).1 = true → (fitML a b B).2 = (addAll B (collectL a b []).1).2)
  | [], _, B => by simp [fitML, collectL, addAll]
  | _ :: _, [], B => by simp [fitML, collectL, addAll]
  | x :: a, y :: b, B => by
    have h1 := fitM_ok x y B
    simp only [fitML, collectL, List.nil_append]
    by_cases hc : (collect x y).2 = true
    · rw [if_pos hc, collectL_acc a b (collect x y).1]
      by_cases hx : (fitM x y B).1 = true
      · have h2 := fitML_ok a b (fitM x y B).2
        have e1 := (h1.1.1 hx).2
        have e2 := h1.2 hx
        rw [if_pos hx]
        by_cases hl : (collectL a b []).2 = true
        · rw [if_pos hl]
          simp only [addAll_app, if_pos e1, ← e2, true_and]
          exact ⟨h2.1.trans ⟨fun h => h.2, fun h => ⟨hl, h⟩⟩, h2.2⟩
        · rw [if_neg hl]
          refine ⟨⟨fun h => absurd (h2.1.1 h).1 hl, fun h => by simp at h⟩, fun h => absurd (h2.1.1 h).1 hl⟩
      · rw [if_neg hx]
        refine ⟨⟨fun h => absurd h hx, fun h => ?_⟩, fun h => absurd h hx⟩
        by_cases hl : (collectL a b []).2 = true
        · rw [if_pos hl] at h
          simp only [addAll_app] at h
          by_cases e1 : (addAll B (collect x y).1).1 = true
          · exact h1.1.2 ⟨hc, e1⟩
          · rw [if_neg e1] at h; simp at h
        · rw [if_neg hl] at h; simp at h
    · rw [if_neg hc]
      have hx : ¬ (fitM x y B).1 = true := fun h => hc (h1.1.1 h).1
      rw [if_neg hx]
      exact ⟨⟨fun h => absurd h hx, fun h => by simp at h⟩, fun h => absurd h hx⟩
end
end Tm

theorem match_same {p t : Tm} (hp : p.rightB = true) (ht : t.rightB = true) : matchT p t = ((matchR p t).1, (matchR p t).2, 0) := by
  have h := Tm.fitM_ok p t []
  unfold matchT matchR
  rw [rightT_eq, rightT_eq, hp, ht]
  simp only [Bool.and_self, if_true]
  by_cases hc : (Tm.collect p t).2 = true
  · by_cases ha : (addAll [] (Tm.collect p t).1).1 = true
    · have hf := h.1.2 ⟨hc, ha⟩
      rw [if_pos hf, if_pos hc, if_pos ha, h.2 hf]
    · have hf : ¬ (Tm.fitM p t []).1 = true := fun e => ha (h.1.1 e).2
      rw [if_neg hf, if_pos hc, if_neg ha]
  · have hf : ¬ (Tm.fitM p t []).1 = true := fun e => hc (h.1.1 e).1
    rw [if_neg hf, if_neg hc]

theorem addB_grow (B : Binds) (v : Int) (t : Tm) : (addB B v t).2.length ≤ B.length + 1 ∧ ∀ b ∈ (addB B v t).2, b ∈ B ∨ b = (v, t) := by
  unfold addB
  split
  · exact ⟨Nat.le_succ _, fun b hb => .inl hb⟩
  · refine ⟨by simp, fun b hb => ?_⟩
    rcases List.mem_append.1 hb with h | h
    · exact .inl h
    · exact .inr (by simpa using h)

namespace Tm
mutual
theorem fitM_grow : ∀ (p t : Tm) (B : Binds), (fitM p t B).2.length ≤ B.length + p.size ∧ ∀ b ∈ (fitM p t B).2, b ∈ B ∨ b.2.size ≤ t.size
  | mk k s n l, t, B => by
    have ih := fitML_grow l t.l B
    have hs := size_eq t
    simp only [fitM, size]
    split
    · have h := addB_grow B n t
      refine ⟨by omega, fun b hb => (h.2 b hb).imp id fun e => by rw [e]; exact Nat.le_refl _⟩
    · split
      · exact ⟨by simp, fun b hb => .inl hb⟩
      · exact ⟨by omega, fun b hb => (ih.2 b hb).imp id fun e => by omega⟩
theorem fitML_grow : ∀ (a b : List Tm) (B : Binds), (fitML a b B).2.length ≤ B.length + sizeL a ∧ ∀ x ∈ (fitML a b B).2, x ∈ B ∨ x.2.size ≤ sizeL b
  | [], _, B => by simp only [fitML]; exact ⟨by omega, fun x hx => .inl hx⟩
  | _ :: _, [], B => by simp only [fitML]; exact ⟨by omega, fun x hx => .inl hx⟩
  | x :: a, y :: b, B => by
    have h1 := fitM_grow x y B
    have h2 := fitML_grow a b (fitM x y B).2
    simp only [fitML, sizeL]
    split
    · refine ⟨by omega, fun z hz => ?_⟩
      rcases h2.2 z hz with h | h
      · exact (h1.2 z h).imp id fun e => by omega
      · exact .inr (by omega)
    · exact ⟨by omega, fun z hz => (h1.2 z hz).imp id fun e => by omega⟩
end
end Tm

namespace Tm
mutual
theorem collect_len : ∀ (p t : Tm), (collect p t).1.length ≤ p.size ∧ ∀ b ∈ (collect p t).1, b.2.size ≤ t.size
  | mk k s n l, t => by
    have ih := collectL_len l t.l []
    have hs := size_eq t
    simp only [collect, size]
    split
    · simp
    · split
      · simp
      · refine ⟨by have := ih.1; simp only [List.length_nil] at this; omega, fun b hb => ?_⟩
        rcases ih.2 b hb with h | h
        · simp at h
        · omega
theorem collectL_len : ∀ (a b : List Tm) (B : Binds), (collectL a b B).1.length ≤ B.length + sizeL a ∧ ∀ x ∈ (collectL a b B).1, x ∈ B ∨ x.2.size ≤ sizeL b
  | [], _, B => by simp only [collectL]; exact ⟨by omega, fun x hx => .inl hx⟩
  | _ :: _, [], B => by simp only [collectL]; exact ⟨by omega, fun x hx => .inl hx⟩
  | x :: a, y :: b, B => by
    have h1 := collect_len x y
    have h2 := collectL_len a b (B ++ (collect x y).1)
    simp only [collectL, sizeL]
    split
    · refine ⟨by have := h2.1; simp only [List.length_append] at this; omega, fun z hz => ?_⟩
      rcases h2.2 z hz with h | h
      · rcases List.mem_append.1 h with h | h
        · exact .inl h
        · exact .inr (by have := h1.2 z h; omega)
      · exact .inr (by omega)
    · exact ⟨by simp, fun z hz => by simp at hz⟩
end
end Tm
end PSL

namespace PSL
open Go

namespace Tm
mutual
/-- A copy within bounds: whether it fits, and what is left. -/
def fillN : Tm → Int → Int → Bool × Int
  | mk _ _ _ l, left, deep => if left - 1 < 0 ∨ deep > 100 then (false, left - 1) else if (fillNL l (left - 1) (deep + 1)).1 then (true, (fillNL l (left - 1) (deep + 1)).2) else (false, left - 1)
def fillNL : List Tm → Int → Int → Bool × Int
  | [], left, _ => (true, left)
  | x :: r, left, deep => if (fillN x left deep).1 then fillNL r (fillN x left deep).2 deep else (false, (fillN x left deep).2)
end
theorem fillN_eq (t : Tm) (left deep : Int) : fillN t left deep = if left - 1 < 0 ∨ deep > 100 then (false, left - 1) else if (fillNL t.l (left - 1) (deep + 1)).1 then (true, (fillNL t.l (left - 1) (deep + 1)).2) else (false, left - 1) := by cases t; simp only [fillN]; rfl

mutual
/-- What a pattern becomes. -/
def putB (B : Binds) : Tm → Tm
  | mk k s n l => if k = 1 then (findB B n).getD (mk k s n (putBL B l)) else mk k s n (putBL B l)
def putBL (B : Binds) : List Tm → List Tm
  | [] => []
  | x :: r => putB B x :: putBL B r
end
theorem putB_eq (B : Binds) (t : Tm) : putB B t = if t.k = 1 then (findB B t.n).getD (mk t.k t.s t.n (putBL B t.l)) else mk t.k t.s t.n (putBL B t.l) := by cases t; simp only [putB]; rfl
theorem putBL_map (B : Binds) : ∀ l, putBL B l = l.map (putB B)
  | [] => rfl
  | x :: r => by simp only [putBL, List.map_cons, putBL_map B r]

mutual
/-- Filling within bounds. -/
def fillB (B : Binds) : Tm → Int → Int → Bool × Int
  | mk k s n l, left, deep =>
    match if k = 1 then findB B n else none with
    | some t => fillN t left deep
    | none => if left - 1 < 0 ∨ deep > 100 then (false, left - 1) else if (fillBL B l (left - 1) (deep + 1)).1 then (true, (fillBL B l (left - 1) (deep + 1)).2) else (false, left - 1)
def fillBL (B : Binds) : List Tm → Int → Int → Bool × Int
  | [], left, _ => (true, left)
  | x :: r, left, deep => if (fillB B x left deep).1 then fillBL B r (fillB B x left deep).2 deep else (false, (fillB B x left deep).2)
end
theorem fillB_eq (B : Binds) (t : Tm) (left deep : Int) : fillB B t left deep = match if t.k = 1 then findB B t.n else none with
    | some x => fillN x left deep
    | none => if left - 1 < 0 ∨ deep > 100 then (false, left - 1) else if (fillBL B t.l (left - 1) (deep + 1)).1 then (true, (fillBL B t.l (left - 1) (deep + 1)).2) else (false, left - 1) := by cases t; simp only [fillB]; rfl

mutual
/-- A copy fits, just if it is small and low enough. -/
theorem fillN_ok : ∀ (t : Tm) (left deep : Int), 0 ≤ left → 1 ≤ deep → ((fillN t left deep).1 = true ↔ (t.size : Int) ≤ left ∧ deep + t.depth ≤ 101) ∧ ((fillN t left deep).1 = true → (fillN t left deep).2 = left - t.size)
  | mk k s n l, left, deep, h0, h1 => by
    simp only [fillN, size, depth]
    by_cases h : left - 1 < 0 ∨ deep > 100
    · rw [if_pos h]
      refine ⟨⟨fun h => by simp at h, fun h2 => ?_⟩, fun h => by simp at h⟩
      omega
    · rw [if_neg h]
      have ih := fillNL_ok l (left - 1) (deep + 1) (by omega) (by omega)
      by_cases h2 : (fillNL l (left - 1) (deep + 1)).1 = true
      · rw [if_pos h2]
        have e := ih.1.1 h2
        have e2 := ih.2 h2
        refine ⟨⟨fun _ => ⟨by omega, ?_⟩, fun _ => rfl⟩, fun _ => by simp only [e2]; omega⟩
        rcases e.2 with hl | hl
        · subst hl; simp [depthL]; omega
        · omega
      · rw [if_neg h2]
        refine ⟨⟨fun h => by simp at h, fun h3 => absurd (ih.1.2 ⟨by omega, .inr (by omega)⟩) h2⟩, fun h => by simp at h⟩
theorem fillNL_ok : ∀ (l : List Tm) (left deep : Int), 0 ≤ left → 1 ≤ deep → ((fillNL l left deep).1 = true ↔ (sizeL l : Int) ≤ left ∧ (l = [] ∨ deep + depthL l ≤ 101)) ∧ ((fillNL l left deep).1 = true → (fillNL l left deep).2 = left - sizeL l)
  | [], left, deep, h0, h1 => by simp [fillNL, sizeL, h0]
  | x :: r, left, deep, h0, h1 => by
    have hx := fillN_ok x left deep h0 h1
    simp only [fillNL, sizeL, depthL]
    by_cases h : (fillN x left deep).1 = true
    · rw [if_pos h]
      have e := hx.1.1 h
      have e2 := hx.2 h
      have ih := fillNL_ok r (fillN x left deep).2 deep (by omega) h1
      refine ⟨ih.1.trans ?_, fun h3 => by rw [ih.2 h3, e2]; omega⟩
      constructor
      · rintro ⟨h3, h4⟩
        refine ⟨by omega, .inr ?_⟩
        rcases h4 with h4 | h4
        · subst h4; simp [depthL]; omega
        · omega
      · rintro ⟨h3, h4⟩
        refine ⟨by omega, ?_⟩
        rcases h4 with h4 | h4
        · simp at h4
        · exact .inr (by omega)
    · rw [if_neg h]
      refine ⟨⟨fun h => by simp at h, fun h3 => absurd (hx.1.2 ⟨by omega, ?_⟩) h⟩, fun h => by simp at h⟩
      rcases h3.2 with h4 | h4
      · simp at h4
      · omega
end

mutual
theorem fillB_ok (B : Binds) : ∀ (t : Tm) (left deep : Int), 0 ≤ left → 1 ≤ deep → ((fillB B t left deep).1 = true ↔ ((putB B t).size : Int) ≤ left ∧ deep + (putB B t).depth ≤ 101) ∧ ((fillB B t left deep).1 = true → (fillB B t left deep).2 = left - (putB B t).size)
  | mk k s n l, left, deep, h0, h1 => by
    simp only [fillB, putB]
    cases hm : (if k = 1 then findB B n else none) with
    | some x =>
      have hk : k = 1 := Classical.byContradiction fun e => by rw [if_neg e] at hm; simp at hm
      rw [if_pos hk] at hm ⊢
      simp only [hm, Option.getD_some]
      exact fillN_ok x left deep h0 h1
    | none =>
      have e : (if k = 1 then (findB B n).getD (mk k s n (putBL B l)) else mk k s n (putBL B l)) = mk k s n (putBL B l) := by
        split
        · rename_i hk; rw [if_pos hk] at hm; rw [hm]; rfl
        · rfl
      simp only [e, size, depth]
      by_cases h : left - 1 < 0 ∨ deep > 100
      · rw [if_pos h]
        refine ⟨⟨fun h => by simp at h, fun h2 => ?_⟩, fun h => by simp at h⟩
        omega
      · rw [if_neg h]
        have ih := fillBL_ok B l (left - 1) (deep + 1) (by omega) (by omega)
        by_cases h2 : (fillBL B l (left - 1) (deep + 1)).1 = true
        · rw [if_pos h2]
          have e := ih.1.1 h2
          have e2 := ih.2 h2
          refine ⟨⟨fun _ => ⟨by omega, ?_⟩, fun _ => rfl⟩, fun _ => by simp only [e2]; omega⟩
          rcases e.2 with hl | hl
          · subst hl; simp [putBL, depthL]; omega
          · omega
        · rw [if_neg h2]
          refine ⟨⟨fun h => by simp at h, fun h3 => absurd (ih.1.2 ⟨by omega, .inr (by omega)⟩) h2⟩, fun h => by simp at h⟩
theorem fillBL_ok (B : Binds) : ∀ (l : List Tm) (left deep : Int), 0 ≤ left → 1 ≤ deep → ((fillBL B l left deep).1 = true ↔ (sizeL (putBL B l) : Int) ≤ left ∧ (l = [] ∨ deep + depthL (putBL B l) ≤ 101)) ∧ ((fillBL B l left deep).1 = true → (fillBL B l left deep).2 = left - sizeL (putBL B l))
  | [], left, deep, h0, h1 => by simp [fillBL, putBL, sizeL, h0]
  | x :: r, left, deep, h0, h1 => by
    have hx := fillB_ok B x left deep h0 h1
    simp only [fillBL, putBL, sizeL, depthL]
    by_cases h : (fillB B x left deep).1 = true
    · rw [if_pos h]
      have e := hx.1.1 h
      have e2 := hx.2 h
      have ih := fillBL_ok B r (fillB B x left deep).2 deep (by omega) h1
      refine ⟨ih.1.trans ?_, fun h3 => by rw [ih.2 h3, e2]; omega⟩
      constructor
      · rintro ⟨h3, h4⟩
        refine ⟨by omega, .inr ?_⟩
        rcases h4 with h4 | h4
        · subst h4; simp [putBL, depthL]; omega
        · omega
      · rintro ⟨h3, h4⟩
        refine ⟨by omega, ?_⟩
        rcases h4 with h4 | h4
        · simp at h4
        · exact .inr (by omega)
    · rw [if_neg h]
      refine ⟨⟨fun h => by simp at h, fun h3 => absurd (hx.1.2 ⟨by omega, ?_⟩) h⟩, fun h => by simp at h⟩
      rcases h3.2 with h4 | h4
      · simp at h4
      · omega
end
end Tm
end PSL

namespace PSL
open Go

/-- Binds that may be filled in: the reference's way. -/
def mayR (l : Binds) : Binds → Nat → Bool
  | [], _ => true
  | b :: r, i => decide (0 ≤ b.1) && decide (b.1 < 1000000) && b.2.rightB && decide (placeB l b.1 = (i : Int)) && mayR l r (i + 1)
/-- The program's way. -/
def mayT (done : Binds) : Binds → Bool
  | [] => true
  | b :: r => (findB done b.1).isNone && decide (0 ≤ b.1) && decide (b.1 < 1000000) && rightT b.2 && mayT (done ++ [b]) r

theorem atI_shift : ∀ (l : List Int) (v i j : Int), 0 ≤ i → 0 ≤ j → (atI l v i < 0 ↔ atI l v j < 0) ∧ (0 ≤ atI l v i → atI l v i - i = atI l v j - j)
  | [], v, i, j, _, _ => by simp [atI]
  | x :: l, v, i, j, hi, hj => by
    simp only [atI]
    by_cases h : x = v
    · simp only [if_pos h]; omega
    · simp only [if_neg h]
      have := atI_shift l v (i + 1) (j + 1) (by omega) (by omega)
      omega
theorem atI_app : ∀ (a b : List Int) (v i : Int), 0 ≤ i → atI (a ++ b) v i = if atI a v i < 0 then atI b v (i + a.length) else atI a v i
  | [], b, v, i, h => by simp [atI]
  | x :: a, b, v, i, h => by
    simp only [List.cons_append, atI, List.length_cons]
    by_cases hx : x = v
    · simp only [if_pos hx]; rw [if_neg (by omega)]
    · simp only [if_neg hx]
      rw [atI_app a b v (i + 1) (by omega)]
      have : i + 1 + (a.length : Int) = i + ((a.length + 1 : Nat) : Int) := by omega
      rw [this]

theorem place_new (done r : Binds) (b : Int × Tm) : placeB (done ++ b :: r) b.1 = (done.length : Int) ↔ findB done b.1 = none := by
  have h := placeB_find done b.1
  unfold placeB at *
  rw [List.map_append, atI_app _ _ _ _ (Int.le_refl 0)]
  rcases h with ⟨h1, h2⟩ | ⟨k, t, h1, h2, h3⟩
  · rw [if_pos h1]; simp [atI, h2]
  · have hk := (List.getElem?_eq_some_iff.1 h2).1
    rw [h1, if_neg (by omega), h3]
    constructor
    · intro h; have hk' : k < done.length := hk; omega
    · intro h; simp at h

theorem may_same : ∀ (r done : Binds), mayT done r = mayR (done ++ r) r done.length
  | [], done => rfl
  | b :: r, done => by
    have ih := may_same r (done ++ [b])
    simp only [mayT, mayR, rightT_eq]
    rw [ih]
    have e1 : done ++ [b] ++ r = done ++ b :: r := by simp
    have e2 : (done ++ [b]).length = done.length + 1 := by simp
    rw [e1, e2]
    have e3 : (findB done b.1).isNone = decide (placeB (done ++ b :: r) b.1 = (done.length : Int)) := by
      rw [Bool.eq_iff_iff, decide_eq_true_eq, place_new, Option.isNone_iff_eq_none]
    rw [e3]
    simp only [Bool.and_assoc]
    cases decide (placeB (done ++ b :: r) b.1 = (done.length : Int)) <;> simp

def fillT (p : Tm) (B : Binds) : Tm × Int :=
  if rightT p && mayT [] B then (if (Tm.fillB B p 3000 1).1 then (Tm.putB B p, 0) else (zeroT, 3)) else (zeroT, 1)

theorem may_all : ∀ {r done : Binds}, mayT done r = true → ∀ b ∈ r, 0 ≤ b.1 ∧ b.1 < 1000000 ∧ b.2.rightB = true
  | [], _, _, b, hb => by simp at hb
  | x :: r, done, h, b, hb => by
    simp only [mayT, Bool.and_eq_true, decide_eq_true_eq, rightT_eq] at h
    rcases List.mem_cons.1 hb with rfl | hb
    · exact ⟨h.1.1.1.2, h.1.1.2, h.1.2⟩
    · exact may_all h.2 b hb

namespace Tm
theorem plainL_mem {x : Tm} : ∀ {l : List Tm}, plainL l = true → x ∈ l → plain x = true
  | [], _, h => by simp at h
  | y :: l, hp, h => by
    simp only [plainL, Bool.and_eq_true] at hp
    rcases List.mem_cons.1 h with rfl | h
    · exact hp.1
    · exact plainL_mem hp.2 h

theorem findB_mem {B : Binds} {n : Int} {t : Tm} (h : findB B n = some t) : (n, t) ∈ B := by
  unfold findB at h
  obtain ⟨z, hz, rfl⟩ := Option.map_eq_some_iff.1 h
  have h1 := List.find?_some hz
  have h2 : z.1 = n := by simpa using h1
  subst h2; exact List.mem_of_find?_eq_some hz

mutual
/-- A sound pattern, filled with sound terms, is sound. -/
theorem putB_fair (B : Binds) (hB : ∀ b ∈ B, fairR b.2 = true) : ∀ (p : Tm), fairR p = true → fairR (putB B p) = true
  | mk k s n l, h => by
    have hl := fairR_mk h
    simp only [putB]
    by_cases hk : k = 1
    · rw [if_pos hk]
      cases hf : findB B n with
      | some t => exact hB _ (findB_mem hf)
      | none =>
        obtain ⟨rfl, rfl⟩ := hl.2 hk
        simpa [putBL] using h
    · rw [if_neg hk]
      have ih := putBL_fair B hB l hl.1
      have hlen : (putBL B l).length = l.length := by rw [putBL_map]; simp
      simp only [fairR, Bool.and_eq_true] at h ⊢
      rw [hlen]; exact ⟨⟨h.1.1, ih⟩, h.2⟩
theorem putBL_fair (B : Binds) (hB : ∀ b ∈ B, fairR b.2 = true) : ∀ (l : List Tm), fairRL l = true → fairRL (putBL B l) = true
  | [], _ => rfl
  | x :: r, h => by
    simp only [fairRL, Bool.and_eq_true] at h
    simp only [putBL, fairRL, putB_fair B hB x h.1, putBL_fair B hB r h.2, Bool.and_self]
end
end Tm

/-- What Fill answers, as the document says. -/
theorem fill_same {p : Tm} {B : Binds} (h : (rightT p && mayT [] B) = true) : fillT p B = if (Tm.putB B p).rightB then (Tm.putB B p, 0) else (zeroT, 3) := by
  simp only [Bool.and_eq_true, rightT_eq] at h
  have hf := Tm.putB_fair B (fun b hb => right_fair (may_all h.2 b hb).2.2) p (right_fair h.1)
  have hk := (Tm.fillB_ok B p 3000 1 (by omega) (by omega)).1
  unfold fillT
  rw [rightT_eq, h.1, h.2]
  simp only [Bool.and_self, if_true]
  have e : (Tm.fillB B p 3000 1).1 = (Tm.putB B p).rightB := by
    rw [Bool.eq_iff_iff, hk, Tm.rightB_iff]
    constructor
    · rintro ⟨h1, h2⟩; exact ⟨hf, by omega, by omega⟩
    · rintro ⟨_, h1, h2⟩; exact ⟨by omega, by omega⟩
  rw [e]
theorem fill_bad {p : Tm} {B : Binds} (h : (rightT p && mayT [] B) = false) : fillT p B = (zeroT, 1) := by unfold fillT; rw [h]; rfl
end PSL

namespace PSL
open Go

namespace Tm
mutual
/-- A pattern with terms for its variables. -/
def putF (σ : Int → Tm) : Tm → Tm
  | mk k s n l => if k = 1 then σ n else mk k s n (putFL σ l)
def putFL (σ : Int → Tm) : List Tm → List Tm
  | [] => []
  | x :: r => putF σ x :: putFL σ r
end
theorem putFL_len (σ : Int → Tm) : ∀ l, (putFL σ l).length = l.length
  | [] => rfl
  | x :: r => by simp only [putFL, List.length_cons, putFL_len σ r]

mutual
theorem putF_congr {σ τ : Int → Tm} : ∀ (p : Tm), (∀ v ∈ occ p, σ v = τ v) → putF σ p = putF τ p
  | mk k s n l, h => by
    simp only [putF]
    simp only [occ] at h
    by_cases hk : k = 1
    · simp only [if_pos hk] at h ⊢; exact h n (by simp)
    · simp only [if_neg hk] at h ⊢; rw [putFL_congr l h]
theorem putFL_congr {σ τ : Int → Tm} : ∀ (l : List Tm), (∀ v ∈ occL l, σ v = τ v) → putFL σ l = putFL τ l
  | [], _ => rfl
  | x :: r, h => by
    simp only [occL, List.mem_append] at h
    simp only [putFL, putF_congr x (fun v hv => h v (.inl hv)), putFL_congr r (fun v hv => h v (.inr hv))]
end

/-- A variable. -/
def vT (n : Int) : Tm := mk 1 ByteArray.empty n []

mutual
theorem putB_putF (B : Binds) : ∀ (p : Tm), fairR p = true → putB B p = putF (fun v => (findB B v).getD (vT v)) p
  | mk k s n l, h => by
    have hl := fairR_mk h
    simp only [putB, putF]
    by_cases hk : k = 1
    · obtain ⟨rfl, rfl⟩ := hl.2 hk
      subst hk
      simp only [if_true, putBL]; rfl
    · rw [if_neg hk, if_neg hk, putBL_putFL B l hl.1]
theorem putBL_putFL (B : Binds) : ∀ (l : List Tm), fairRL l = true → putBL B l = putFL (fun v => (findB B v).getD (vT v)) l
  | [], _ => rfl
  | x :: r, h => by
    simp only [fairRL, Bool.and_eq_true] at h
    simp only [putBL, putFL, putB_putF B x h.1, putBL_putFL B r h.2]
end

theorem differ_iff {p t : Tm} : differ p t = false ↔ p.k = t.k ∧ p.n = t.n ∧ p.s = t.s ∧ p.l.length = t.l.length := by
  simp [differ, strEq_iff, and_assoc]

mutual
/-- A filled pattern is collected as what it was filled with. -/
theorem collect_put (σ : Int → Tm) : ∀ (p : Tm), collect p (putF σ p) = ((occ p).map fun v => (v, σ v), true)
  | mk k s n l => by
    simp only [collect, putF, occ]
    by_cases hk : k = 1
    · simp [hk]
    · simp only [if_neg hk]
      have hd : differ (mk k s n l) (mk k s n (putFL σ l)) = false := differ_iff.2 ⟨rfl, rfl, rfl, (putFL_len σ l).symm⟩
      rw [hd]
      simp only [Bool.false_eq_true, if_false]
      exact collectL_put σ l []
theorem collectL_put (σ : Int → Tm) : ∀ (l : List Tm) (B : Binds), collectL l (putFL σ l) B = (B ++ (occL l).map fun v => (v, σ v), true)
  | [], B => by simp [collectL, occL]
  | x :: r, B => by
    simp only [putFL, collectL, occL, collect_put σ x, if_true, collectL_put σ r, List.map_append, List.append_assoc]
end

mutual
/-- What is collected tells the term. -/
theorem collect_back (σ : Int → Tm) : ∀ (p t : Tm), (collect p t).2 = true → (∀ b ∈ (collect p t).1, b.2 = σ b.1) → t = putF σ p ∧ (collect p t).1.map (·.1) = occ p
  | mk k s n l, mk k' s' n' l', h, hb => by
    simp only [collect] at h hb ⊢
    simp only [putF, occ]
    by_cases hk : k = 1
    · simp only [if_pos hk] at h hb ⊢
      exact ⟨hb (n, _) (by simp), by simp⟩
    · simp only [if_neg hk] at h hb ⊢
      cases hd : differ (mk k s n l) (mk k' s' n' l') with
      | true => rw [hd] at h; simp at h
      | false =>
        rw [hd] at h hb
        simp only [Bool.false_eq_true, if_false] at h hb ⊢
        obtain ⟨h1, h2, h3, h4⟩ := differ_iff.1 hd
        have h1 : k = k' := h1
        have h2 : n = n' := h2
        have h3 : s = s' := h3
        subst h1; subst h2; subst h3
        have := collectL_back σ l l' [] h hb h4
        exact ⟨by rw [this.1]; rfl, this.2⟩
theorem collectL_back (σ : Int → Tm) : ∀ (a b : List Tm) (B : Binds), (collectL a b B).2 = true → (∀ x ∈ (collectL a b B).1, x.2 = σ x.1) → a.length = b.length → b = putFL σ a ∧ (collectL a b B).1.map (·.1) = B.map (·.1) ++ occL a
  | [], [], B, _, _, _ => by simp [collectL, putFL, occL]
  | [], _ :: _, _, _, _, h => by simp at h
  | _ :: _, [], _, _, _, h => by simp at h
  | x :: a, y :: b, B, h, hb, hl => by
    simp only [collectL] at h hb ⊢
    by_cases hc : (collect x y).2 = true
    · rw [if_pos hc] at h hb ⊢
      have h2 := collectL_back σ a b (B ++ (collect x y).1) h hb (by simpa using hl)
      have hacc := collectL_acc a b (B ++ (collect x y).1)
      have hsub : ∀ z ∈ (collect x y).1, z.2 = σ z.1 := fun z hz => hb z (by
        rw [hacc] at h ⊢
        by_cases hl2 : (collectL a b []).2 = true
        · rw [if_pos hl2]; simp [hz]
        · rw [if_neg hl2] at h; simp at h)
      have h1 := collect_back σ x y hc hsub
      refine ⟨by rw [putFL, ← h1.1, ← h2.1], ?_⟩
      rw [h2.2, List.map_append, h1.2, occL, List.append_assoc]
    · rw [if_neg hc] at h; simp at h
end
end Tm

theorem findB_app (A B : Binds) (v : Int) : findB (A ++ B) v = match findB A v with | some t => some t | none => findB B v := by
  unfold findB
  rw [List.find?_append]
  cases h : List.find? (fun b => b.1 == v) A <;> simp

/-- Binds put together one behind the other: what is met first stays. -/
theorem addAll_ok : ∀ (L B : Binds), (addAll B L).1 = true → (∀ v t, findB B v = some t → findB (addAll B L).2 v = some t) ∧ (∀ b ∈ L, findB (addAll B L).2 b.1 = some b.2) ∧ (addAll B L).2.map (·.1) = (L.map (·.1)).foldl addV (B.map (·.1))
  | [], B, _ => ⟨fun _ _ h => h, by simp, rfl⟩
  | b :: L, B, h => by
    simp only [addAll] at h ⊢
    by_cases ha : (addB B b.1 b.2).1 = true
    · rw [if_pos ha] at h ⊢
      have ih := addAll_ok L (addB B b.1 b.2).2 h
      unfold addB at ha ih ⊢
      cases hf : findB B b.1 with
      | some t =>
        simp only [hf] at ha ih ⊢
        have e := (Tm.same_iff t b.2).1 ha
        have hmem : b.1 ∈ B.map (·.1) := List.mem_map.2 ⟨_, Tm.findB_mem hf, rfl⟩
        refine ⟨ih.1, fun z hz => ?_, ?_⟩
        · rcases List.mem_cons.1 hz with rfl | hz
          · rw [← e]; exact ih.1 _ _ hf
          · exact ih.2.1 z hz
        · rw [ih.2.2, List.map_cons, List.foldl_cons, addV, if_pos (by simpa using hmem)]
      | none =>
        simp only [hf] at ha ih ⊢
        have hnm : b.1 ∉ B.map (·.1) := fun hm => by
          obtain ⟨z, hz, hzz⟩ := List.mem_map.1 hm
          unfold findB at hf
          have := List.find?_eq_none.1 (Option.map_eq_none_iff.1 hf) z hz
          simp [hzz] at this
        have hnew : findB (B ++ [(b.1, b.2)]) b.1 = some b.2 := by rw [findB_app, hf]; simp [findB]
        refine ⟨fun v t hv => ih.1 v t (by rw [findB_app, hv]), fun z hz => ?_, ?_⟩
        · rcases List.mem_cons.1 hz with rfl | hz
          · exact ih.1 _ _ hnew
          · exact ih.2.1 z hz
        · rw [ih.2.2, List.map_cons, List.foldl_cons, addV, if_neg (by simpa using hnm)]
          simp
    · rw [if_neg ha] at h; simp at h

theorem addAll_fun (σ : Int → Tm) : ∀ (L B : Binds), (∀ b ∈ L, b.2 = σ b.1) → (∀ b ∈ B, b.2 = σ b.1) → (addAll B L).1 = true
  | [], B, _, _ => rfl
  | b :: L, B, hL, hB => by
    simp only [addAll]
    have hb := hL b (by simp)
    have ha : (addB B b.1 b.2).1 = true ∧ ∀ z ∈ (addB B b.1 b.2).2, z.2 = σ z.1 := by
      unfold addB
      cases hf : findB B b.1 with
      | some t =>
        have := hB _ (Tm.findB_mem hf)
        exact ⟨(Tm.same_iff _ _).2 (by rw [hb]; exact this), hB⟩
      | none =>
        refine ⟨rfl, fun z hz => ?_⟩
        rcases List.mem_append.1 hz with hz | hz
        · exact hB z hz
        · obtain rfl : z = (b.1, b.2) := by simpa using hz
          exact hb
    rw [if_pos ha.1]
    exact addAll_fun σ L _ (fun z hz => hL z (by simp [hz])) ha.2

/-- A term is matched, just if it is the pattern with terms for its variables. -/
theorem matchR_iff (p t : Tm) : (matchR p t).2 = true ↔ ∃ σ, t = Tm.putF σ p := by
  unfold matchR
  constructor
  · intro h
    by_cases hc : (Tm.collect p t).2 = true
    · rw [if_pos hc] at h
      by_cases ha : (addAll [] (Tm.collect p t).1).1 = true
      · have h1 := addAll_ok _ _ ha
        refine ⟨fun v => (findB (addAll [] (Tm.collect p t).1).2 v).getD (Tm.vT v), ?_⟩
        exact (Tm.collect_back _ p t hc fun b hb => by rw [h1.2.1 b hb]; rfl).1
      · rw [if_neg ha] at h; simp at h
    · rw [if_neg hc] at h; simp at h
  · rintro ⟨σ, rfl⟩
    rw [Tm.collect_put]
    have := addAll_fun σ ((Tm.occ p).map fun v => (v, σ v)) [] (by simp) (by simp)
    simp only [if_true, this]

/-- Of what is matched: the binds fill the pattern again, and bind its variables. -/
theorem matchR_back {p t : Tm} (hp : p.fairR = true) (h : (matchR p t).2 = true) : Tm.putB (matchR p t).1 p = t ∧ (matchR p t).1.map (·.1) = Tm.once (Tm.occ p) := by
  have hm : matchR p t = ((addAll [] (Tm.collect p t).1).2, true) ∧ (Tm.collect p t).2 = true ∧ (addAll [] (Tm.collect p t).1).1 = true := by
    unfold matchR at h ⊢
    by_cases hc : (Tm.collect p t).2 = true
    · rw [if_pos hc] at h ⊢
      by_cases ha : (addAll [] (Tm.collect p t).1).1 = true
      · rw [if_pos ha]; exact ⟨rfl, hc, ha⟩
      · rw [if_neg ha] at h; simp at h
    · rw [if_neg hc] at h; simp at h
  obtain ⟨e, hc, ha⟩ := hm
  have h1 := addAll_ok _ _ ha
  have hb := Tm.collect_back (fun v => (findB (addAll [] (Tm.collect p t).1).2 v).getD (Tm.vT v)) p t hc fun b hb => by rw [h1.2.1 b hb]; rfl
  rw [e]
  refine ⟨by rw [Tm.putB_putF _ p hp]; exact hb.1.symm, ?_⟩
  simp only [h1.2.2, hb.2]; rfl
end PSL

namespace PSL
open Go
namespace Tm
mutual
theorem putF_comp (σ τ : Int → Tm) : ∀ (p : Tm), putF τ (putF σ p) = putF (fun v => putF τ (σ v)) p
  | mk k s n l => by
    simp only [putF]
    by_cases hk : k = 1
    · simp [hk]
    · simp only [if_neg hk, putF, putFL_comp σ τ l]
theorem putFL_comp (σ τ : Int → Tm) : ∀ (l : List Tm), putFL τ (putFL σ l) = putFL (fun v => putF τ (σ v)) l
  | [] => rfl
  | x :: r => by simp only [putFL, putF_comp σ τ x, putFL_comp σ τ r]
end
mutual
theorem turn_put (g : Int → Int) : ∀ (p : Tm), fairR p = true → turnT g p = putF (fun v => vT (g v)) p
  | mk k s n l, h => by
    have hl := fairR_mk h
    simp only [turnT, putF]
    by_cases hk : k = 1
    · obtain ⟨rfl, rfl⟩ := hl.2 hk
      subst hk
      simp [turnTL, vT]
    · rw [if_neg hk, if_neg hk, turnL_put g l hl.1]
theorem turnL_put (g : Int → Int) : ∀ (l : List Tm), fairRL l = true → turnTL g l = putFL (fun v => vT (g v)) l
  | [], _ => rfl
  | x :: r, h => by
    simp only [fairRL, Bool.and_eq_true] at h
    simp only [turnTL, putFL, turn_put g x h.1, turnL_put g r h.2]
end
theorem put_self (p : Tm) (h : fairR p = true) : putF vT p = p := by
  have := turn_put (fun n => n) p h
  rw [turn_self] at this; exact this.symm

mutual
/-- Terms put for variables, told by what comes of it. -/
theorem putF_inj {σ τ : Int → Tm} : ∀ (p : Tm), putF σ p = putF τ p → ∀ v ∈ occ p, σ v = τ v
  | mk k s n l, h, v, hv => by
    simp only [putF] at h
    simp only [occ] at hv
    by_cases hk : k = 1
    · simp only [if_pos hk, List.mem_singleton] at h hv
      subst hv; exact h
    · simp only [if_neg hk, Tm.mk.injEq, true_and] at h hv
      exact putFL_inj l h v hv
theorem putFL_inj {σ τ : Int → Tm} : ∀ (l : List Tm), putFL σ l = putFL τ l → ∀ v ∈ occL l, σ v = τ v
  | [], _, v, hv => by simp [occL] at hv
  | x :: r, h, v, hv => by
    simp only [putFL, List.cons.injEq] at h
    simp only [occL, List.mem_append] at hv
    exact hv.elim (putF_inj x h.1 v) (putFL_inj r h.2 v)
end

mutual
theorem fair_put {σ : Int → Tm} : ∀ (p : Tm), fairR (putF σ p) = true → ∀ v ∈ occ p, fairR (σ v) = true
  | mk k s n l, h, v, hv => by
    simp only [putF] at h
    simp only [occ] at hv
    by_cases hk : k = 1
    · simp only [if_pos hk, List.mem_singleton] at h hv
      subst hv; exact h
    · simp only [if_neg hk] at h hv
      exact fairL_put l (fairR_mk h).1 v hv
theorem fairL_put {σ : Int → Tm} : ∀ (l : List Tm), fairRL (putFL σ l) = true → ∀ v ∈ occL l, fairR (σ v) = true
  | [], _, v, hv => by simp [occL] at hv
  | x :: r, h, v, hv => by
    simp only [putFL, fairRL, Bool.and_eq_true] at h
    simp only [occL, List.mem_append] at hv
    exact hv.elim (fair_put x h.1 v) (fairL_put r h.2 v)
end

theorem inst_trans {a b c : Tm} (h1 : ∃ σ, a = putF σ b) (h2 : ∃ σ, b = putF σ c) : ∃ σ, a = putF σ c := by
  obtain ⟨σ, rfl⟩ := h1
  obtain ⟨τ, rfl⟩ := h2
  exact ⟨_, putF_comp τ σ c⟩
end Tm

/-- Variants are one another with other variables, one to one. -/
theorem num_turn {a b : Tm} (ha : a.rightB = true) (hb : b.rightB = true) (h : numOne a = numOne b) : ∃ g : Int → Int, b = Tm.turnT g a := by
  have fa := right_fair ha
  have fb := right_fair hb
  have h1 := (Tm.fits_ok a b [] fa fb (by intro x hx; simp at hx)).1.1 ((fits_num ha hb).2 h)
  rw [List.nil_append] at h1
  obtain ⟨g, hg, _⟩ := Tm.good_fun (Tm.occ_bare_len h1.1) h1.2
  refine ⟨g, Tm.bare_occ _ _ ?_ (by rw [Tm.occ_turn, hg]) (Tm.fair_plain _ fb) ?_⟩
  · show Tm.turnT _ b = Tm.turnT _ (Tm.turnT g a)
    rw [Tm.turn_comp]; exact h1.1.symm
  · refine Tm.fair_plain _ (Tm.fair_turn g a fa fun v hv => ?_)
    exact Tm.occ_range b fb _ (by rw [hg]; exact List.mem_map_of_mem hv)

/-- Terms are variants, just if each is an instance of the other. -/
theorem inst_both {a b : Tm} (ha : a.rightB = true) (hb : b.rightB = true) : ((∃ σ, b = Tm.putF σ a) ∧ (∃ σ, a = Tm.putF σ b)) ↔ numOne a = numOne b := by
  have fa := right_fair ha
  have fb := right_fair hb
  constructor
  · rintro ⟨⟨σ, hσ⟩, ⟨τ, hτ⟩⟩
    have hfix : Tm.putF (fun v => Tm.putF τ (σ v)) a = Tm.putF Tm.vT a := by
      rw [← Tm.putF_comp, ← hσ, ← hτ, Tm.put_self a fa]
    have hv := Tm.putF_inj a hfix
    have hfs := Tm.fair_put a (σ := σ) (by rw [← hσ]; exact fb)
    have hk : ∀ v ∈ Tm.occ a, σ v = Tm.vT (σ v).n ∧ τ (σ v).n = Tm.vT v := fun v h => by
      have e := hv v h
      have f := hfs v h
      generalize σ v = x at e f
      cases x with
      | mk k s n l =>
        simp only [Tm.putF] at e
        by_cases hk : k = 1
        · obtain ⟨rfl, rfl⟩ := (Tm.fairR_mk f).2 hk
          subst hk
          rw [if_pos rfl] at e
          exact ⟨rfl, e⟩
        · rw [if_neg hk] at e
          exact absurd (congrArg Tm.k e) hk
    have eb : b = Tm.turnT (fun v => (σ v).n) a := by
      rw [hσ, Tm.turn_put _ a fa]; exact Tm.putF_congr a fun v h => (hk v h).1
    have hocc : Tm.occ b = (Tm.occ a).map fun v => (σ v).n := by
      have := congrArg Tm.occ eb; rwa [Tm.occ_turn] at this
    rw [eb]
    refine (numOne_turn ha (fun v h => Tm.occ_range b fb _ (by rw [hocc]; exact List.mem_map_of_mem (f := fun v => (σ v).n) h)) fun x hx y hy e => ?_).symm
    have e1 := (hk x hx).2
    have e2 := (hk y hy).2
    have e : (σ x).n = (σ y).n := e
    rw [e, e2] at e1
    exact (congrArg Tm.n e1).symm
  · intro h
    obtain ⟨g, hg⟩ := num_turn ha hb h
    obtain ⟨g', hg'⟩ := num_turn hb ha h.symm
    exact ⟨⟨_, hg.trans (Tm.turn_put g a fa)⟩, ⟨_, hg'.trans (Tm.turn_put g' b fb)⟩⟩

/-- Is a term an instance of a pattern? -/
def instT (t p : Tm) : Bool := (matchT p t).2.1 && (matchT p t).2.2 == 0
theorem instT_iff {t p : Tm} (hp : p.rightB = true) (ht : t.rightB = true) : instT t p = true ↔ ∃ σ, t = Tm.putF σ p := by
  unfold instT
  rw [match_same hp ht, ← matchR_iff]; simp
theorem instT_bad {t p : Tm} (h : p.rightB = false ∨ t.rightB = false) : instT t p = false ∧ matchT p t = ([], false, 1) := by
  unfold instT matchT
  rw [rightT_eq, rightT_eq]
  rcases h with h | h <;> rw [h] <;> simp
end PSL

namespace PSL
open Go

theorem nodup_addV : ∀ (l a : List Int), a.Nodup → (l.foldl addV a).Nodup
  | [], _, h => h
  | x :: l, a, h => by
    refine nodup_addV l (addV a x) ?_
    unfold addV
    split
    · exact h
    · rename_i hn
      rw [List.nodup_append]
      refine ⟨h, by simp, fun y hy z hz => ?_⟩
      obtain rfl : z = x := by simpa using hz
      intro e; subst e
      exact hn (by simpa using hy)
theorem once_nodup (l : List Int) : (Tm.once l).Nodup := nodup_addV l [] (by simp)

theorem place_nodup {l : Binds} (h : (l.map (·.1)).Nodup) {k : Nat} {b : Int × Tm} (hk : l[k]? = some b) : placeB l b.1 = k := by
  rcases placeB_find l b.1 with ⟨h1, h2⟩ | ⟨j, t, h1, h2, _⟩
  · exfalso
    unfold findB at h2
    have := List.find?_eq_none.1 (Option.map_eq_none_iff.1 h2) b (List.mem_of_getElem? hk)
    simp at this
  · have e : j = k := by
      have hj : (l.map (·.1))[j]? = some b.1 := by rw [List.getElem?_map, h2]; rfl
      have hk' : (l.map (·.1))[k]? = some b.1 := by rw [List.getElem?_map, hk]; rfl
      have hjl := (List.getElem?_eq_some_iff.1 hj).1
      exact (List.getElem?_inj hjl h).1 (hj.trans hk'.symm)
    rw [h1, e]

theorem mayR_of (l : Binds) : ∀ (r : Binds) (i : Nat), (∀ k b, r[k]? = some b → 0 ≤ b.1 ∧ b.1 < 1000000 ∧ b.2.rightB = true ∧ placeB l b.1 = ((i + k : Nat) : Int)) → mayR l r i = true
  | [], _, _ => rfl
  | b :: r, i, h => by
    have h0 := h 0 b rfl
    have ih := mayR_of l r (i + 1) fun k c hk => by
      have := h (k + 1) c (by simpa using hk)
      rw [show i + 1 + k = i + (k + 1) by omega]; exact this
    simp only [mayR, Bool.and_eq_true, decide_eq_true_eq]
    exact ⟨⟨⟨⟨h0.1, h0.2.1⟩, h0.2.2.1⟩, h0.2.2.2⟩, ih⟩

namespace Tm
mutual
theorem put_bound (σ : Int → Tm) : ∀ (p : Tm), ∀ v ∈ occ p, (σ v).size ≤ (putF σ p).size ∧ (σ v).depth ≤ (putF σ p).depth
  | mk k s n l, v, hv => by
    simp only [putF]
    simp only [occ] at hv
    by_cases hk : k = 1
    · simp only [if_pos hk, List.mem_singleton] at hv ⊢
      subst hv; exact ⟨Nat.le_refl _, Nat.le_refl _⟩
    · simp only [if_neg hk] at hv ⊢
      have := putL_bound σ l v hv
      simp only [size, depth]; omega
theorem putL_bound (σ : Int → Tm) : ∀ (l : List Tm), ∀ v ∈ occL l, (σ v).size ≤ sizeL (putFL σ l) ∧ (σ v).depth ≤ depthL (putFL σ l)
  | [], v, hv => by simp [occL] at hv
  | x :: r, v, hv => by
    simp only [occL, List.mem_append] at hv
    simp only [putFL, sizeL, depthL]
    rcases hv with hv | hv
    · have := put_bound σ x v hv; omega
    · have := putL_bound σ r v hv; omega
end
end Tm

/-- What a match binds may be filled in. -/
theorem matchR_may {p t : Tm} (hp : p.rightB = true) (ht : t.rightB = true) (h : (matchR p t).2 = true) : mayT [] (matchR p t).1 = true := by
  have fp := right_fair hp
  have ft := right_fair ht
  obtain ⟨hput, hkeys⟩ := matchR_back fp h
  rw [may_same]
  simp only [List.nil_append, List.length_nil]
  have hnd : ((matchR p t).1.map (·.1)).Nodup := by rw [hkeys]; exact once_nodup _
  refine mayR_of _ _ 0 fun k b hk => ?_
  have hm := List.mem_of_getElem? hk
  have hocc : b.1 ∈ Tm.occ p := by
    rw [← Tm.mem_once, ← hkeys]; exact List.mem_map_of_mem (f := fun b : Int × Tm => b.1) hm
  have hr := Tm.occ_range p fp _ hocc
  have hfind : findB (matchR p t).1 b.1 = some b.2 := by
    rcases placeB_find (matchR p t).1 b.1 with ⟨h1, h2⟩ | ⟨j, x, h1, h2, h3⟩
    · have := place_nodup hnd hk; omega
    · have e := place_nodup hnd hk
      have : j = k := by omega
      subst this
      rw [hk] at h2
      rw [h3]; injection h2 with h2; rw [h2]
  have ht2 : t = Tm.putF (fun v => (findB (matchR p t).1 v).getD (Tm.vT v)) p := by rw [← Tm.putB_putF _ p fp, hput]
  have hsub := Tm.put_bound (fun v => (findB (matchR p t).1 v).getD (Tm.vT v)) p b.1 hocc
  have hfs := Tm.fair_put (σ := fun v => (findB (matchR p t).1 v).getD (Tm.vT v)) p (by rw [← ht2]; exact ft) b.1 hocc
  rw [← ht2] at hsub
  simp only [hfind, Option.getD_some] at hsub hfs
  have hrt := Tm.rightB_iff.1 ht
  refine ⟨hr.1, hr.2, Tm.rightB_iff.2 ⟨hfs, by omega, by omega⟩, by rw [place_nodup hnd hk]; omega⟩

/-- Match, then fill: the term. -/
theorem fill_match {p t : Tm} (hp : p.rightB = true) (ht : t.rightB = true) (h : (matchR p t).2 = true) : fillT p (matchR p t).1 = (t, 0) := by
  have hb := (matchR_back (right_fair hp) h).1
  rw [fill_same (by rw [rightT_eq, hp, matchR_may hp ht h]; rfl), hb, if_pos ht]
end PSL

namespace PSL
open Go

/-- How many terms are left behind binds. -/
def fewB : Binds → Int → Int
  | [], m => m
  | b :: r, m => if m ≥ 0 then fewB r (b.2.few m 200) else m

theorem fewB_le : ∀ (l : Binds) (m : Int), 0 ≤ m → m < 9223372036854775808 → fewB l m < 0 ∨ (0 ≤ fewB l m ∧ fewB l m ≤ m ∧ ∀ b ∈ l, (b.2.size : Int) ≤ m ∧ ∀ x e, e ∈ b.2.els x → e.2.s.size ≤ 100)
  | [], m, h0, _ => .inr ⟨h0, Int.le_refl _, by simp⟩
  | b :: r, m, h0, h1 => by
    simp only [fewB]
    rw [if_pos h0]
    rcases Tm.few_le b.2 m 200 h0 h1 (by omega) with h | ⟨h2, _, _, h4, h5⟩
    · rw [h]
      left
      cases r with
      | nil => simp [fewB]
      | cons x r => simp [fewB]
    · rcases fewB_le r (b.2.few m 200) h4 (by omega) with h | ⟨h6, h7, h8⟩
      · exact .inl h
      · refine .inr ⟨h6, by omega, fun x hx => ?_⟩
        rcases List.mem_cons.1 hx with rfl | hx
        · exact ⟨by omega, h5⟩
        · exact ⟨by have := (h8 x hx).1; omega, (h8 x hx).2⟩

namespace Tm
mutual
theorem putB_size (B : Binds) (M : Nat) (hB : ∀ b ∈ B, b.2.size ≤ M) : ∀ (p : Tm), (putB B p).size ≤ p.size * (M + 1)
  | mk k s n l => by
    have h := putBL_size B M hB l
    have h2 : (mk k s n (putBL B l)).size ≤ (mk k s n l).size * (M + 1) := by
      rw [size_eq, size_eq (mk k s n l)]; simp only [Tm.l]; rw [Nat.add_mul]; omega
    have h3 : M ≤ (mk k s n l).size * (M + 1) := by
      rw [size_eq, Nat.add_mul]; omega
    rw [putB_eq]
    by_cases hk : (mk k s n l).k = 1
    · rw [if_pos hk]
      cases hf : findB B (mk k s n l).n with
      | none => exact h2
      | some t => exact Nat.le_trans (hB _ (findB_mem hf)) h3
    · rw [if_neg hk]; exact h2
theorem putBL_size (B : Binds) (M : Nat) (hB : ∀ b ∈ B, b.2.size ≤ M) : ∀ (l : List Tm), sizeL (putBL B l) ≤ sizeL l * (M + 1)
  | [] => by simp [putBL, sizeL]
  | t :: l => by
    have h1 := putB_size B M hB t
    have h2 := putBL_size B M hB l
    simp only [putBL, sizeL]
    rw [Nat.add_mul]; omega
end
end Tm

/-- What is filled is an instance. -/
theorem put_inst {p : Tm} {B : Binds} (hp : p.rightB = true) (hw : (Tm.putB B p).rightB = true) : instT (Tm.putB B p) p = true :=
  (instT_iff hp hw).2 ⟨_, Tm.putB_putF B p (Tm.rightB_iff.1 hp).1⟩

/-- A type's number is that of binds. -/
structure IsBind (ty : Nat → Option Ty) (T TT : Nat) : Prop where
  ex : ∃ (a : Nat) (τ τa : Ty), ty T = some τ ∧ τ.sh = .struct [(0, a), (1, TT)] ∧ τ.size = 5 ∧ 1 ≤ τ.bytes ∧ ty a = some τa ∧ τa.sh = .int .i64

def isBindB (ty : Nat → Option Ty) (T TT : Nat) : Bool :=
  match ty T with
  | some ⟨5, by_, _, .struct [(0, a), (1, T')]⟩ => Nat.ble 1 by_ && (match ty a with | some ⟨_, _, _, .int .i64⟩ => true | _ => false) && Nat.beq T' TT
  | _ => false

theorem isBindB_ok {ty : Nat → Option Ty} {T TT : Nat} (h : isBindB ty T TT = true) : IsBind ty T TT := by
  unfold isBindB at h
  split at h
  case h_2 => cases h
  rename_i by_ z a T' hT
  simp only [Bool.and_eq_true] at h
  obtain ⟨⟨h0, h1⟩, h2⟩ := h
  split at h1
  case h_2 => cases h1
  rename_i ha
  have := natBeq h2
  subst this
  exact ⟨a, _, _, hT, rfl, rfl, Nat.le_of_ble_eq_true h0, ha, rfl⟩

theorem bind_of {ty : Nat → Option Ty} {T TT B : Nat} (hT : IsTerm ty TT) (hI : IsBind ty T TT) (hB : B ≤ 140737488355328) (n : Nat) (row : List D) (h : HasTy ty B n T row) : ∃ b : Int × Tm, row = bindRow b ∧ I64 b.1 ∧ b.2.Ok ∧ b.2.Fit := by
  obtain ⟨a, τ, τa, h1, h2, h3, hby, ha, ha'⟩ := hI.ex
  cases n with
  | zero => simp [HasTy] at h
  | succ n =>
    simp only [HasTy, h1, h2, HasFs] at h
    obtain ⟨_, ra, _, g1, rfl, g2, g3, _, rt, _, g4, rfl, g5, g6, rfl⟩ := h
    rw [ha] at g1; cases g1
    obtain ⟨v, rfl, hv⟩ := has_int ha ha' g3
    obtain ⟨t, rfl, ht⟩ := tm_of hT hB n rt g6
    exact ⟨(v, t), by simp [bindRow], hv, ht⟩

theorem arg_binds {ty : Nat → Option Ty} {T TT TS B : Nat} (hT : IsTerm ty TT) (hI : IsBind ty T TT) (hB : B ≤ 140737488355328) {n : Nat} {τ : Ty} {row : List D} {a : AV} (hτ : ty TS = some τ) (hs : τ.sh = .slice T) (h : HasTy ty B n TS row) (ha : a = avOf τ row) :
    ∃ l : Binds, a = .d (.sl (bindRows l)) ∧ (∀ b ∈ l, I64 b.1 ∧ b.2.Ok ∧ b.2.Fit) ∧ l.length ≤ 140737488355328 := by
  cases n with
  | zero => simp [HasTy] at h
  | succ n =>
    obtain ⟨rows, rfl, h1, h2⟩ := has_slice hτ hs h
    have hch : ∃ l : Binds, rows = bindRows l ∧ ∀ x ∈ l, I64 x.1 ∧ x.2.Ok ∧ x.2.Fit := by
      clear h1 h ha
      induction rows with
      | nil => exact ⟨[], rfl, by simp⟩
      | cons r rows ihr =>
        obtain ⟨t, ht1, ht2⟩ := bind_of hT hI hB n r (h2 r (by simp))
        obtain ⟨l, hl1, hl2⟩ := ihr fun r hr => h2 r (by simp [hr])
        exact ⟨t :: l, by simp [bindRows, ht1, hl1], fun x hx => (List.mem_cons.1 hx).elim (fun e => e ▸ ht2) (hl2 x)⟩
    obtain ⟨l, rfl, hl⟩ := hch
    refine ⟨l, ?_, hl, ?_⟩
    · rw [ha]; unfold avOf Ty.agg; rw [hs]
    · obtain ⟨a', τ', τa, g1, g2, g3, hby, _⟩ := hI.ex
      have := h1 τ' g1
      rw [bindRows_len] at this
      exact Nat.le_trans (Nat.le_mul_of_pos_right _ hby) (Nat.le_trans this hB)
end PSL
