import Derived.Test.YtcafgconfcajbaaPlFill
namespace PSL
open Go

/-- Binds that may be filled in: the reference's way. -/
def mayR (l : Binds) : Binds → Nat → Bool
  | [], _ => true
  | b :: r, i => decide (0 ≤ b.1) && decide (b.1 < 1000000) && b.2.rightB && decide (placeB l b.1 = (i : Int)) && mayR l r (i + 1)
/-- The program's way. -/
def mayT (done : Binds) : Binds → Bool
  | [] => true
  | b :: r => (findB done b.1).isNone && decide (0 ≤ b.1) && decide (b.1 < 1000000) && rightT b.2 && mayT (done ++ [b]) r

theorem atI_shift : ∀ (l : List Int) (v i j : Int), 0 ≤ i → 0 ≤ j → (atI l v i < 0 ↔ atI l v j < 0) ∧ (0 ≤ atI l v i → atI l v i - i = atI l v j - j)
  | [], v, i, j, _, _ => by simp [atI]
  | x :: l, v, i, j, hi, hj => by
    simp only [atI]
    by_cases h : x = v
    · simp only [if_pos h]; omega
    · simp only [if_neg h]
      have := atI_shift l v (i + 1) (j + 1) (by omega) (by omega)
      omega
theorem atI_app : ∀ (a b : List Int) (v i : Int), 0 ≤ i → atI (a ++ b) v i = if atI a v i < 0 then atI b v (i + a.length) else atI a v i
  | [], b, v, i, h => by simp [atI]
  | x :: a, b, v, i, h => by
    simp only [List.cons_append, atI, List.length_cons]
    by_cases hx : x = v
    · simp only [if_pos hx]; rw [if_neg (by omega)]
    · simp only [if_neg hx]
      rw [atI_app a b v (i + 1) (by omega)]
      have : i + 1 + (a.length : Int) = i + ((a.length + 1 : Nat) : Int) := by omega
      rw [this]

theorem place_new (done r : Binds) (b : Int × Tm) : placeB (done ++ b :: r) b.1 = (done.length : Int) ↔ findB done b.1 = none := by
  have h := placeB_find done b.1
  unfold placeB at *
  rw [List.map_append, atI_app _ _ _ _ (Int.le_refl 0)]
  rcases h with ⟨h1, h2⟩ | ⟨k, t, h1, h2, h3⟩
  · rw [if_pos h1]; simp [atI, h2]
  · have hk := (List.getElem?_eq_some_iff.1 h2).1
    rw [h1, if_neg (by omega), h3]
    constructor
    · intro h; have hk' : k < done.length := hk; omega
    · intro h; simp at h

theorem may_same : ∀ (r done : Binds), mayT done r = mayR (done ++ r) r done.length
  | [], done => rfl
  | b :: r, done => by
    have ih := may_same r (done ++ [b])
    simp only [mayT, mayR, rightT_eq]
    rw [ih]
    have e1 : done ++ [b] ++ r = done ++ b :: r := by simp
    have e2 : (done ++ [b]).length = done.length + 1 := by simp
    rw [e1, e2]
    have e3 : (findB done b.1).isNone = decide (placeB (done ++ b :: r) b.1 = (done.length : Int)) := by
      rw [Bool.eq_iff_iff, decide_eq_true_eq, place_new, Option.isNone_iff_eq_none]
    rw [e3]
    simp only [Bool.and_assoc]
    cases decide (placeB (done ++ b :: r) b.1 = (done.length : Int)) <;> simp

def fillT (p : Tm) (B : Binds) : Tm × Int :=
  if rightT p && mayT [] B then (if (Tm.fillB B p 3000 1).1 then (Tm.putB B p, 0) else (zeroT, 3)) else (zeroT, 1)

theorem may_all : ∀ {r done : Binds}, mayT done r = true → ∀ b ∈ r, 0 ≤ b.1 ∧ b.1 < 1000000 ∧ b.2.rightB = true
  | [], _, _, b, hb => by simp at hb
  | x :: r, done, h, b, hb => by
    simp only [mayT, Bool.and_eq_true, decide_eq_true_eq, rightT_eq] at h
    rcases List.mem_cons.1 hb with rfl | hb
    · exact ⟨h.1.1.1.2, h.1.1.2, h.1.2⟩
    · exact may_all h.2 b hb

namespace Tm
theorem plainL_mem {x : Tm} : ∀ {l : List Tm}, plainL l = true → x ∈ l → plain x = true
  | [], _, h => by simp at h
  | y :: l, hp, h => by
    simp only [plainL, Bool.and_eq_true] at hp
    rcases List.mem_cons.1 h with rfl | h
    · exact hp.1
    · exact plainL_mem hp.2 h

theorem findB_mem {B : Binds} {n : Int} {t : Tm} (h : findB B n = some t) : (n, t) ∈ B := by
  unfold findB at h
  obtain ⟨z, hz, rfl⟩ := Option.map_eq_some_iff.1 h
  have h1 := List.find?_some hz
  have h2 : z.1 = n := by simpa using h1
  subst h2; exact List.mem_of_find?_eq_some hz

mutual
/-- A sound pattern, filled with sound terms, is sound. -/
theorem putB_fair (B : Binds) (hB : ∀ b ∈ B, fairR b.2 = true) : ∀ (p : Tm), fairR p = true → fairR (putB B p) = true
  | mk k s n l, h => by
    have hl := fairR_mk h
    simp only [putB]
    by_cases hk : k = 1
    · rw [if_pos hk]
      cases hf : findB B n with
      | some t => exact hB _ (findB_mem hf)
      | none =>
        obtain ⟨rfl, rfl⟩ := hl.2 hk
        simpa [putBL] using h
    · rw [if_neg hk]
      have ih := putBL_fair B hB l hl.1
      have hlen : (putBL B l).length = l.length := by rw [putBL_map]; simp
      simp only [fairR, Bool.and_eq_true] at h ⊢
      rw [hlen]; exact ⟨⟨h.1.1, ih⟩, h.2⟩
theorem putBL_fair (B : Binds) (hB : ∀ b ∈ B, fairR b.2 = true) : ∀ (l : List Tm), fairRL l = true → fairRL (putBL B l) = true
  | [], _ => rfl
  | x :: r, h => by
    simp only [fairRL, Bool.and_eq_true] at h
    simp only [putBL, fairRL, putB_fair B hB x h.1, putBL_fair B hB r h.2, Bool.and_self]
end
end Tm

/-- What Fill answers, as the document says. -/
theorem fill_same {p : Tm} {B : Binds} (h : (rightT p && mayT [] B) = true) : fillT p B = if (Tm.putB B p).rightB then (Tm.putB B p, 0) else (zeroT, 3) := by
  simp only [Bool.and_eq_true, rightT_eq] at h
  have hf := Tm.putB_fair B (fun b hb => right_fair (may_all h.2 b hb).2.2) p (right_fair h.1)
  have hk := (Tm.fillB_ok B p 3000 1 (by omega) (by omega)).1
  unfold fillT
  rw [rightT_eq, h.1, h.2]
  simp only [Bool.and_self, if_true]
  have e : (Tm.fillB B p 3000 1).1 = (Tm.putB B p).rightB := by
    rw [Bool.eq_iff_iff, hk, Tm.rightB_iff]
    constructor
    · rintro ⟨h1, h2⟩; exact ⟨hf, by omega, by omega⟩
    · rintro ⟨_, h1, h2⟩; exact ⟨by omega, by omega⟩
  rw [e]
theorem fill_bad {p : Tm} {B : Binds} (h : (rightT p && mayT [] B) = false) : fillT p B = (zeroT, 1) := by unfold fillT; rw [h]; rfl
end PSL
