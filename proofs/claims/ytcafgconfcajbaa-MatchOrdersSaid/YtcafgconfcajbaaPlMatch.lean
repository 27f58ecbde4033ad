import Derived.Test.YtcafgconfcajbaaPlFit
namespace PSL
open Go

/-- Binds. -/
abbrev Binds := List (Int × Tm)
def bindRow (b : Int × Tm) : List D := .v (.int .i64 b.1) :: Tm.row b.2
def bindRows (l : Binds) : List (List D) := l.map bindRow
theorem bindRows_len (l : Binds) : (bindRows l).length = l.length := by simp [bindRows]
theorem bindRows_get {l : Binds} {i : Nat} {x : Int × Tm} (h : l[i]? = some x) : (bindRows l)[i]? = some (bindRow x) := by simp [bindRows, h]
theorem bindRows_sz (l : Binds) : ∀ r ∈ bindRows l, r.length = 5 := by
  intro r hr; obtain ⟨b, _, rfl⟩ := List.mem_map.1 hr; rfl
theorem bindRows_one1 (l : Binds) : ∀ r ∈ bindRows l, ∀ x ∈ r, one1 (.d x) = true := by
  intro r hr x hx
  obtain ⟨b, _, rfl⟩ := List.mem_map.1 hr
  simp [bindRow, Tm.row] at hx
  rcases hx with rfl | rfl | rfl | rfl | rfl <;> rfl
theorem bindRows_app (a b : Binds) : bindRows a ++ bindRows b = bindRows (a ++ b) := by simp [bindRows]

/-- The place of a variable in binds. -/
def placeB (l : Binds) (v : Int) : Int := atI (l.map (·.1)) v 0
def findB (l : Binds) (v : Int) : Option Tm := (l.find? (fun b => b.1 == v)).map (·.2)

theorem atI_find : ∀ (l : Binds) (v : Int) (i : Int), 0 ≤ i → (atI (l.map (·.1)) v i < 0 ∧ findB l v = none) ∨ (∃ (k : Nat) (t : Tm), atI (l.map (·.1)) v i = i + k ∧ l[k]? = some (v, t) ∧ findB l v = some t)
  | [], v, i, h => .inl ⟨by simp [atI], rfl⟩
  | b :: l, v, i, h => by
    by_cases hb : b.1 = v
    · refine .inr ⟨0, b.2, by simp [atI, hb], by simp [← hb], by simp [findB, hb]⟩
    · have hf : findB (b :: l) v = findB l v := by
        simp only [findB, List.find?_cons, show (b.1 == v) = false by simpa using hb]
      simp only [List.map_cons, atI, if_neg hb, hf]
      rcases atI_find l v (i + 1) (by omega) with ⟨h1, h2⟩ | ⟨k, t, h1, h2, h3⟩
      · exact .inl ⟨h1, h2⟩
      · exact .inr ⟨k + 1, t, by rw [h1]; omega, by simpa using h2, h3⟩
theorem placeB_find (l : Binds) (v : Int) : (placeB l v < 0 ∧ findB l v = none) ∨ (∃ (k : Nat) (t : Tm), placeB l v = k ∧ l[k]? = some (v, t) ∧ findB l v = some t) := by
  rcases atI_find l v 0 (Int.le_refl _) with h | ⟨k, t, h1, h2, h3⟩
  · exact .inl h
  · exact .inr ⟨k, t, by unfold placeB; omega, h2, h3⟩

def sameB : Binds → Binds → Bool
  | [], [] => true
  | a :: l, b :: m => a.1 == b.1 && Tm.same a.2 b.2 && sameB l m
  | _, _ => false
theorem sameB_iff : ∀ (l m : Binds), sameB l m = true ↔ l = m
  | [], [] => by simp [sameB]
  | [], _ :: _ => by simp [sameB]
  | _ :: _, [] => by simp [sameB]
  | a :: l, b :: m => by
    simp only [sameB, Bool.and_eq_true, beq_iff_eq, Tm.same_iff, sameB_iff l m, List.cons.injEq]
    constructor
    · rintro ⟨⟨h1, h2⟩, h3⟩; exact ⟨Prod.ext h1 h2, h3⟩
    · rintro ⟨rfl, h3⟩; exact ⟨⟨rfl, rfl⟩, h3⟩
theorem sameB_len {l m : Binds} (h : l.length ≠ m.length) : sameB l m = false := by
  cases hh : sameB l m with
  | false => rfl
  | true => exact absurd (congrArg List.length ((sameB_iff l m).1 hh)) h

/-- One more bind, if it does not clash. -/
def addB (B : Binds) (v : Int) (t : Tm) : Bool × Binds :=
  match findB B v with
  | some x => (Tm.same x t, B)
  | none => (true, B ++ [(v, t)])

namespace Tm
def differ (p t : Tm) : Bool := decide (p.k ≠ t.k) || decide (p.n ≠ t.n) || !strEq p.s t.s || decide (p.l.length ≠ t.l.length)
mutual
def fitM : Tm → Tm → Binds → Bool × Binds
  | mk k s n l, t, B =>
    if k = 1 then addB B n t
    else if differ (mk k s n l) t then (false, B) else fitML l t.l B
def fitML : List Tm → List Tm → Binds → Bool × Binds
  | x :: a, y :: b, B => if (fitM x y B).1 then fitML a b (fitM x y B).2 else fitM x y B
  | _, _, B => (true, B)
end
theorem fitM_eq (p t : Tm) (B : Binds) : fitM p t B = if p.k = 1 then addB B p.n t else if differ p t then (false, B) else fitML p.l t.l B := by cases p; simp only [fitM]; rfl

mutual
def collect : Tm → Tm → Binds × Bool
  | mk k s n l, t =>
    if k = 1 then ([(n, t)], true)
    else if differ (mk k s n l) t then ([], false) else collectL l t.l []
/-- What is collected of rows, behind what there is. -/
def collectL : List Tm → List Tm → Binds → Binds × Bool
  | x :: a, y :: b, B => if (collect x y).2 then collectL a b (B ++ (collect x y).1) else ([], false)
  | _, _, B => (B, true)
end
theorem collect_eq (p t : Tm) : collect p t = if p.k = 1 then ([(p.n, t)], true) else if differ p t then ([], false) else collectL p.l t.l [] := by cases p; simp only [collect]; rfl
end Tm

/-- Binds, each put to those ahead. -/
def addAll : Binds → Binds → Bool × Binds
  | B, [] => (true, B)
  | B, b :: r => if (addB B b.1 b.2).1 then addAll (addB B b.1 b.2).2 r else (false, [])

def matchR (p t : Tm) : Binds × Bool := if (Tm.collect p t).2 then (if (addAll [] (Tm.collect p t).1).1 then ((addAll [] (Tm.collect p t).1).2, true) else ([], false)) else ([], false)
def matchT (p t : Tm) : Binds × Bool × Int :=
  if rightT p && rightT t then (if (Tm.fitM p t []).1 then ((Tm.fitM p t []).2, true, 0) else ([], false, 0)) else ([], false, 1)

theorem addAll_app : ∀ (a B b : Binds), addAll B (a ++ b) = if (addAll B a).1 then addAll (addAll B a).2 b else (false, [])
  | [], B, b => by simp [addAll]
  | x :: a, B, b => by
    simp only [List.cons_append, addAll]
    split
    · exact addAll_app a _ b
    · rfl

namespace Tm
theorem collectL_acc : ∀ (a b : List Tm) (B : Binds), collectL a b B = if (collectL a b []).2 then (B ++ (collectL a b []).1, true) else ([], false)
  | [], _, B => by simp [collectL]
  | _ :: _, [], B => by simp [collectL]
  | x :: a, y :: b, B => by
    simp only [collectL, List.nil_append]
    split
    · rw [collectL_acc a b (B ++ _), collectL_acc a b (collect x y).1]
      split <;> simp
    · simp

mutual
/-- To fit step by step is to collect, and to put together. -/
theorem fitM_ok : ∀ (p t : Tm) (B : Binds), ((fitM p t B).1 = true ↔ (collect p t).2 = true ∧ (addAll B (collect p t).1).1 = true) ∧ ((fitM p t B).1 = true → (fitM p t B).2 = (addAll B (collect p t).1).2)
  | mk k s n l, t, B => by
    have ih := fitML_ok l t.l B
    simp only [fitM, collect]
    by_cases hk : k = 1
    · simp only [if_pos hk, addAll, true_and]
      cases h : (addB B n t).1 with
      | true => simp
      | false => simp [Prod.swap]
    · simp only [if_neg hk]
      by_cases hd : differ (mk k s n l) t = true
      · simp [hd]
      · rw [if_neg hd, if_neg hd]; exact ih
theorem fitML_ok : ∀ (a b : List Tm) (B : Binds), ((fitML a b B).1 = true ↔ (collectL a b []).2 = true ∧ (addAll B (collectL a b []).1).1 = true) ∧ ((fitML a b B).1 = true → (fitML a b B).2 = (addAll B (collectL a b []).1).2)
  | [], _, B => by simp [fitML, collectL, addAll]
  | _ :: _, [], B => by simp [fitML, collectL, addAll]
  | x :: a, y :: b, B => by
    have h1 := fitM_ok x y B
    simp only [fitML, collectL, List.nil_append]
    by_cases hc : (collect x y).2 = true
    · rw [if_pos hc, collectL_acc a b (collect x y).1]
      by_cases hx : (fitM x y B).1 = true
      · have h2 := fitML_ok a b (fitM x y B).2
        have e1 := (h1.1.1 hx).2
        have e2 := h1.2 hx
        rw [if_pos hx]
        by_cases hl : (collectL a b []).2 = true
        · rw [if_pos hl]
          simp only [addAll_app, if_pos e1, ← e2, true_and]
          exact ⟨h2.1.trans ⟨fun h => h.2, fun h => ⟨hl, h⟩⟩, h2.2⟩
        · rw [if_neg hl]
          refine ⟨⟨fun h => absurd (h2.1.1 h).1 hl, fun h => by simp at h⟩, fun h => absurd (h2.1.1 h).1 hl⟩
      · rw [if_neg hx]
        refine ⟨⟨fun h => absurd h hx, fun h => ?_⟩, fun h => absurd h hx⟩
        by_cases hl : (collectL a b []).2 = true
        · rw [if_pos hl] at h
          simp only [addAll_app] at h
          by_cases e1 : (addAll B (collect x y).1).1 = true
          · exact h1.1.2 ⟨hc, e1⟩
          · rw [if_neg e1] at h; simp at h
        · rw [if_neg hl] at h; simp at h
    · rw [if_neg hc]
      have hx : ¬ (fitM x y B).1 = true := fun h => hc (h1.1.1 h).1
      rw [if_neg hx]
      exact ⟨⟨fun h => absurd h hx, fun h => by simp at h⟩, fun h => absurd h hx⟩
end
end Tm

theorem match_same {p t : Tm} (hp : p.rightB = true) (ht : t.rightB = true) : matchT p t = ((matchR p t).1, (matchR p t).2, 0) := by
  have h := Tm.fitM_ok p t []
  unfold matchT matchR
  rw [rightT_eq, rightT_eq, hp, ht]
  simp only [Bool.and_self, if_true]
  by_cases hc : (Tm.collect p t).2 = true
  · by_cases ha : (addAll [] (Tm.collect p t).1).1 = true
    · have hf := h.1.2 ⟨hc, ha⟩
      rw [if_pos hf, if_pos hc, if_pos ha, h.2 hf]
    · have hf : ¬ (Tm.fitM p t []).1 = true := fun e => ha (h.1.1 e).2
      rw [if_neg hf, if_pos hc, if_neg ha]
  · have hf : ¬ (Tm.fitM p t []).1 = true := fun e => hc (h.1.1 e).1
    rw [if_neg hf, if_neg hc]

theorem addB_grow (B : Binds) (v : Int) (t : Tm) : (addB B v t).2.length ≤ B.length + 1 ∧ ∀ b ∈ (addB B v t).2, b ∈ B ∨ b = (v, t) := by
  unfold addB
  split
  · exact ⟨Nat.le_succ _, fun b hb => .inl hb⟩
  · refine ⟨by simp, fun b hb => ?_⟩
    rcases List.mem_append.1 hb with h | h
    · exact .inl h
    · exact .inr (by simpa using h)

namespace Tm
mutual
theorem fitM_grow : ∀ (p t : Tm) (B : Binds), (fitM p t B).2.length ≤ B.length + p.size ∧ ∀ b ∈ (fitM p t B).2, b ∈ B ∨ b.2.size ≤ t.size
  | mk k s n l, t, B => by
    have ih := fitML_grow l t.l B
    have hs := size_eq t
    simp only [fitM, size]
    split
    · have h := addB_grow B n t
      refine ⟨by omega, fun b hb => (h.2 b hb).imp id fun e => by rw [e]; exact Nat.le_refl _⟩
    · split
      · exact ⟨by simp, fun b hb => .inl hb⟩
      · exact ⟨by omega, fun b hb => (ih.2 b hb).imp id fun e => by omega⟩
theorem fitML_grow : ∀ (a b : List Tm) (B : Binds), (fitML a b B).2.length ≤ B.length + sizeL a ∧ ∀ x ∈ (fitML a b B).2, x ∈ B ∨ x.2.size ≤ sizeL b
  | [], _, B => by simp only [fitML]; exact ⟨by omega, fun x hx => .inl hx⟩
  | _ :: _, [], B => by simp only [fitML]; exact ⟨by omega, fun x hx => .inl hx⟩
  | x :: a, y :: b, B => by
    have h1 := fitM_grow x y B
    have h2 := fitML_grow a b (fitM x y B).2
    simp only [fitML, sizeL]
    split
    · refine ⟨by omega, fun z hz => ?_⟩
      rcases h2.2 z hz with h | h
      · exact (h1.2 z h).imp id fun e => by omega
      · exact .inr (by omega)
    · exact ⟨by omega, fun z hz => (h1.2 z hz).imp id fun e => by omega⟩
end
end Tm

namespace Tm
mutual
theorem collect_len : ∀ (p t : Tm), (collect p t).1.length ≤ p.size ∧ ∀ b ∈ (collect p t).1, b.2.size ≤ t.size
  | mk k s n l, t => by
    have ih := collectL_len l t.l []
    have hs := size_eq t
    simp only [collect, size]
    split
    · simp
    · split
      · simp
      · refine ⟨by have := ih.1; simp only [List.length_nil] at this; omega, fun b hb => ?_⟩
        rcases ih.2 b hb with h | h
        · simp at h
        · omega
theorem collectL_len : ∀ (a b : List Tm) (B : Binds), (collectL a b B).1.length ≤ B.length + sizeL a ∧ ∀ x ∈ (collectL a b B).1, x ∈ B ∨ x.2.size ≤ sizeL b
  | [], _, B => by simp only [collectL]; exact ⟨by omega, fun x hx => .inl hx⟩
  | _ :: _, [], B => by simp only [collectL]; exact ⟨by omega, fun x hx => .inl hx⟩
  | x :: a, y :: b, B => by
    have h1 := collect_len x y
    have h2 := collectL_len a b (B ++ (collect x y).1)
    simp only [collectL, sizeL]
    split
    · refine ⟨by have := h2.1; simp only [List.length_append] at this; omega, fun z hz => ?_⟩
      rcases h2.2 z hz with h | h
      · rcases List.mem_append.1 h with h | h
        · exact .inl h
        · exact .inr (by have := h1.2 z h; omega)
      · exact .inr (by omega)
    · exact ⟨by simp, fun z hz => by simp at hz⟩
end
end Tm
end PSL
