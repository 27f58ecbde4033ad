import Derived.Test.YtcafgconfcajbaaPlSort
namespace PSL
open Go

def fwdP (P : List (Int × Int)) (n : Int) : Option Int := (P.find? (fun p => p.1 == n)).map (·.2)
def bwdP (P : List (Int × Int)) (n : Int) : Option Int := (P.find? (fun p => p.2 == n)).map (·.1)
def varFit (n n' : Int) (P : List (Int × Int)) : Bool × List (Int × Int) :=
  match fwdP P n, bwdP P n' with
  | none, none => (true, P ++ [(n, n')])
  | some x, some y => (x == n' && y == n, P)
  | _, _ => (false, P)

namespace Tm
mutual
/-- The program's renaming of a into b, on pairs met so far. -/
def fitsT : Tm → Tm → List (Int × Int) → Bool × List (Int × Int)
  | mk k s n l, mk k' s' n' l', P =>
    if k ≠ k' ∨ strEq s s' = false ∨ l.length ≠ l'.length then (false, P)
    else if k ≠ 1 then (if n ≠ n' then (false, P) else fitsL l l' P) else varFit n n' P
def fitsL : List Tm → List Tm → List (Int × Int) → Bool × List (Int × Int)
  | x :: a, y :: b, P => if (fitsT x y P).1 then fitsL a b (fitsT x y P).2 else fitsT x y P
  | _, _, P => (true, P)
end
theorem fitsT_eq (a b : Tm) (P : List (Int × Int)) : fitsT a b P = if a.k ≠ b.k ∨ strEq a.s b.s = false ∨ a.l.length ≠ b.l.length then (false, P)
    else if a.k ≠ 1 then (if a.n ≠ b.n then (false, P) else fitsL a.l b.l P) else varFit a.n b.n P := by cases a; cases b; simp only [fitsT]; rfl

def goodP (P : List (Int × Int)) : Prop := ∀ x ∈ P, ∀ y ∈ P, x.1 = y.1 ↔ x.2 = y.2

theorem fwd_some {P : List (Int × Int)} {n x : Int} (h : fwdP P n = some x) : (n, x) ∈ P := by
  unfold fwdP at h
  obtain ⟨p, hp, rfl⟩ := Option.map_eq_some_iff.1 h
  have := List.find?_some hp
  have h1 : p.1 = n := by simpa using this
  subst h1; exact List.mem_of_find?_eq_some hp
theorem bwd_some {P : List (Int × Int)} {n x : Int} (h : bwdP P n = some x) : (x, n) ∈ P := by
  unfold bwdP at h
  obtain ⟨p, hp, rfl⟩ := Option.map_eq_some_iff.1 h
  have := List.find?_some hp
  have h1 : p.2 = n := by simpa using this
  subst h1; exact List.mem_of_find?_eq_some hp
theorem fwd_none {P : List (Int × Int)} {n : Int} (h : fwdP P n = none) : ∀ p ∈ P, p.1 ≠ n := by
  unfold fwdP at h
  have := List.find?_eq_none.1 (Option.map_eq_none_iff.1 h)
  intro p hp e; exact this p hp (by simp [e])
theorem bwd_none {P : List (Int × Int)} {n : Int} (h : bwdP P n = none) : ∀ p ∈ P, p.2 ≠ n := by
  unfold bwdP at h
  have := List.find?_eq_none.1 (Option.map_eq_none_iff.1 h)
  intro p hp e; exact this p hp (by simp [e])

theorem goodP_congr {P Q : List (Int × Int)} (h : ∀ z, z ∈ P ↔ z ∈ Q) : goodP P ↔ goodP Q :=
  ⟨fun hp x hx y hy => hp x ((h x).2 hx) y ((h y).2 hy), fun hp x hx y hy => hp x ((h x).1 hx) y ((h y).1 hy)⟩
theorem goodP_sub {P Q : List (Int × Int)} (h : ∀ z, z ∈ P → z ∈ Q) (hq : goodP Q) : goodP P := fun x hx y hy => hq x (h x hx) y (h y hy)

theorem varFit_ok {n n' : Int} {P : List (Int × Int)} (hP : goodP P) : ((varFit n n' P).1 = true ↔ goodP (P ++ [(n, n')])) ∧ ((varFit n n' P).1 = true → ∀ z, z ∈ (varFit n n' P).2 ↔ z ∈ P ++ [(n, n')]) := by
  unfold varFit
  cases h1 : fwdP P n with
  | none =>
    cases h2 : bwdP P n' with
    | none =>
      refine ⟨⟨fun _ x hx y hy => ?_, fun _ => rfl⟩, fun _ z => Iff.rfl⟩
      have a1 := fwd_none h1
      have a2 := bwd_none h2
      rcases List.mem_append.1 hx with hx | hx <;> rcases List.mem_append.1 hy with hy | hy
      · exact hP x hx y hy
      · obtain rfl : y = (n, n') := by simpa using hy
        exact ⟨fun e => absurd e (a1 x hx), fun e => absurd e (a2 x hx)⟩
      · obtain rfl : x = (n, n') := by simpa using hx
        exact ⟨fun e => absurd e.symm (a1 y hy), fun e => absurd e.symm (a2 y hy)⟩
      · obtain rfl : x = (n, n') := by simpa using hx
        obtain rfl : y = (n, n') := by simpa using hy
        simp
    | some y =>
      have m := bwd_some h2
      have a1 := fwd_none h1
      refine ⟨⟨fun h => by simp at h, fun h => ?_⟩, fun h => by simp at h⟩
      have := (h (y, n') (by simp [m]) (n, n') (by simp)).2 rfl
      exact absurd this (a1 _ m)
  | some x =>
    have m1 := fwd_some h1
    cases h2 : bwdP P n' with
    | none =>
      have a2 := bwd_none h2
      refine ⟨⟨fun h => by simp at h, fun h => ?_⟩, fun h => by simp at h⟩
      have := (h (n, x) (by simp [m1]) (n, n') (by simp)).1 rfl
      exact absurd this (a2 _ m1)
    | some y =>
      have m2 := bwd_some h2
      simp only [Bool.and_eq_true, beq_iff_eq]
      refine ⟨⟨fun ⟨e1, e2⟩ => ?_, fun h => ?_⟩, fun ⟨e1, e2⟩ z => ?_⟩
      · subst e1
        exact goodP_sub (fun z hz => by rcases List.mem_append.1 hz with hz | hz; exact hz; obtain rfl : z = _ := (by simpa using hz); exact m1) hP
      · exact ⟨(h (n, x) (by simp [m1]) (n, n') (by simp)).1 rfl, (h (y, n') (by simp [m2]) (n, n') (by simp)).2 rfl⟩
      · subst e1
        constructor
        · intro hz; exact List.mem_append_left _ hz
        · intro hz; rcases List.mem_append.1 hz with hz | hz; exact hz; obtain rfl : z = _ := (by simpa using hz); exact m1

/-- Terms without their variables' numbers. -/
abbrev bare (t : Tm) : Tm := turnT (fun _ => 0) t
abbrev bareL (l : List Tm) : List Tm := turnTL (fun _ => 0) l

theorem occ_bare_len {a b : Tm} (h : bare a = bare b) : (occ a).length = (occ b).length := by
  have := congrArg occ h
  simp only [bare, occ_turn] at this
  simpa using congrArg List.length this

theorem fairR_mk {k : Int} {s : ByteArray} {n : Int} {l : List Tm} (h : fairR (mk k s n l) = true) : fairRL l = true ∧ (k = 1 → s = ByteArray.empty ∧ l = []) := by
  simp only [fairR, Bool.and_eq_true] at h
  refine ⟨h.1.2, fun hk => ?_⟩
  subst hk
  have := kindR_var h.2
  exact ⟨this.2.2.1, List.length_eq_zero_iff.1 this.2.2.2⟩

mutual
theorem fits_ok : ∀ (a b : Tm) (P : List (Int × Int)), fairR a = true → fairR b = true → goodP P → ((fitsT a b P).1 = true ↔ bare a = bare b ∧ goodP (P ++ (occ a).zip (occ b))) ∧ ((fitsT a b P).1 = true → ∀ z, z ∈ (fitsT a b P).2 ↔ z ∈ P ++ (occ a).zip (occ b))
  | mk k s n l, mk k' s' n' l', P, fa, fb, hP => by
    have ga := fairR_mk fa
    have gb := fairR_mk fb
    have ih := fitsL_ok l l' P ga.1 gb.1 hP
    simp only [fitsT]
    by_cases h : k ≠ k' ∨ strEq s s' = false ∨ l.length ≠ l'.length
    · rw [if_pos h]
      refine ⟨⟨fun h => by simp at h, fun ⟨h1, _⟩ => ?_⟩, fun h => by simp at h⟩
      simp only [bare, turnT, Tm.mk.injEq] at h1
      have hl := congrArg List.length h1.2.2.2
      rw [turnTL_len, turnTL_len] at hl
      rcases h with h | h | h
      · exact absurd h1.1 h
      · rw [show strEq s s' = true from strEq_iff.2 h1.2.1] at h; simp at h
      · exact absurd hl h
    rw [if_neg h]
    have hk : k = k' := Classical.byContradiction fun e => h (.inl e)
    have hs : s = s' := Classical.byContradiction fun e => h (.inr (.inl (by
      cases hh : strEq s s' with
      | false => rfl
      | true => exact absurd (strEq_iff.1 hh) e)))
    have hl : l.length = l'.length := Classical.byContradiction fun e => h (.inr (.inr e))
    subst hk; subst hs
    by_cases h1 : k = 1
    · subst h1
      rw [if_neg (by simp)]
      obtain rfl := (ga.2 rfl).2
      obtain rfl := (gb.2 rfl).2
      have hv := varFit_ok (n := n) (n' := n') hP
      simp only [occ, if_true, bare, turnT, turnTL, List.zip_cons_cons, List.zip_nil_left, true_and]
      exact hv
    · rw [if_pos h1]
      simp only [bare, turnT, if_neg h1, occ, Tm.mk.injEq, true_and]
      by_cases h2 : n = n'
      · subst h2
        rw [if_neg (by simp)]
        simp only [true_and]
        exact ih hl
      · rw [if_pos h2]
        exact ⟨⟨fun h => by simp at h, fun h => absurd h.1.1 h2⟩, fun h => by simp at h⟩
theorem fitsL_ok : ∀ (a b : List Tm) (P : List (Int × Int)), fairRL a = true → fairRL b = true → goodP P → a.length = b.length → ((fitsL a b P).1 = true ↔ bareL a = bareL b ∧ goodP (P ++ (occL a).zip (occL b))) ∧ ((fitsL a b P).1 = true → ∀ z, z ∈ (fitsL a b P).2 ↔ z ∈ P ++ (occL a).zip (occL b))
  | [], [], P, _, _, hP, _ => by simp [fitsL, bareL, turnTL, occL, hP]
  | [], _ :: _, _, _, _, _, h => by simp at h
  | _ :: _, [], _, _, _, _, h => by simp at h
  | x :: a, y :: b, P, fa, fb, hP, hl => by
    simp only [fairRL, Bool.and_eq_true] at fa fb
    have h1 := fits_ok x y P fa.1 fb.1 hP
    simp only [fitsL]
    by_cases hx : (fitsT x y P).1 = true
    · rw [if_pos hx]
      have e1 := h1.1.1 hx
      have e2 := h1.2 hx
      have hg : goodP (fitsT x y P).2 := (goodP_congr e2).2 e1.2
      have h2 := fitsL_ok a b (fitsT x y P).2 fa.2 fb.2 hg (by simpa using hl)
      have hz : (occL (x :: a)).zip (occL (y :: b)) = (occ x).zip (occ y) ++ (occL a).zip (occL b) := by
        simp only [occL]; exact List.zip_append (occ_bare_len e1.1)
      have hm : ∀ z, z ∈ (fitsT x y P).2 ++ (occL a).zip (occL b) ↔ z ∈ P ++ (occL (x :: a)).zip (occL (y :: b)) := fun z => by
        rw [hz, List.mem_append, e2, ← List.append_assoc, List.mem_append (s := P ++ _)]
      refine ⟨?_, fun h z => by rw [h2.2 h, hm]⟩
      rw [h2.1, goodP_congr hm]
      simp only [bareL, turnTL, List.cons.injEq]
      rw [show turnT (fun _ => 0) x = turnT (fun _ => 0) y from e1.1]; simp
    · rw [if_neg hx]
      refine ⟨⟨fun h => absurd h hx, fun h => ?_⟩, fun h => absurd h hx⟩
      simp only [bareL, turnTL, List.cons.injEq] at h
      refine absurd (h1.1.2 ⟨h.1.1, goodP_sub (fun z hz => ?_) h.2⟩) hx
      have hz2 : (occL (x :: a)).zip (occL (y :: b)) = (occ x).zip (occ y) ++ (occL a).zip (occL b) := by
        simp only [occL]; exact List.zip_append (occ_bare_len h.1.1)
      rw [hz2, ← List.append_assoc]; exact List.mem_append_left _ hz
end

mutual
theorem bare_occ : ∀ (a b : Tm), bare a = bare b → occ a = occ b → plain a = true → plain b = true → a = b
  | mk k s n l, mk k' s' n' l', h, ho, pa, pb => by
    simp only [bare, turnT, Tm.mk.injEq] at h
    obtain ⟨rfl, rfl, hn, hl⟩ := h
    simp only [occ] at ho
    simp only [plain, Bool.and_eq_true] at pa pb
    by_cases hk : k = 1
    · subst hk
      simp only [if_true, List.cons.injEq, and_true] at ho
      have la : l = [] := by simpa using pa.1
      have lb : l' = [] := by simpa using pb.1
      rw [ho, la, lb]
    · simp only [if_neg hk] at hn ho
      rw [hn, bareL_occ l l' hl ho pa.2 pb.2]
theorem bareL_occ : ∀ (a b : List Tm), bareL a = bareL b → occL a = occL b → plainL a = true → plainL b = true → a = b
  | [], [], _, _, _, _ => rfl
  | [], _ :: _, h, _, _, _ => by simp [bareL, turnTL] at h
  | _ :: _, [], h, _, _, _ => by simp [bareL, turnTL] at h
  | x :: a, y :: b, h, ho, pa, pb => by
    simp only [bareL, turnTL, List.cons.injEq] at h
    simp only [occL] at ho
    simp only [plainL, Bool.and_eq_true] at pa pb
    obtain ⟨h1, h2⟩ := List.append_inj ho (occ_bare_len h.1)
    rw [bare_occ x y h.1 h1 pa.1 pb.1, bareL_occ a b h.2 h2 pa.2 pb.2]
end

/-- Pairs that fit make a function. -/
theorem good_fun {U V : List Int} (hl : U.length = V.length) (h : goodP (U.zip V)) : ∃ g : Int → Int, V = U.map g ∧ ∀ x ∈ U, ∀ y ∈ U, g x = g y → x = y := by
  have hz : ∀ i (h1 : i < U.length) (h2 : i < V.length), (U[i], V[i]) ∈ U.zip V := fun i h1 h2 => by
    rw [List.mem_iff_getElem]; exact ⟨i, by simp; omega, by simp⟩
  have key : ∀ i (h1 : i < U.length), (fwdP (U.zip V) U[i]).getD 0 = V[i]'(by omega) := fun i h1 => by
    have h2 : i < V.length := by omega
    cases hf : fwdP (U.zip V) U[i] with
    | none => exact absurd rfl (fwd_none hf _ (hz i h1 h2))
    | some x => exact (h _ (fwd_some hf) _ (hz i h1 h2)).1 rfl
  refine ⟨fun v => (fwdP (U.zip V) v).getD 0, ?_, ?_⟩
  · refine List.ext_getElem (by simp [hl]) fun i h1 h2 => ?_
    rw [List.getElem_map, key i (by omega)]
  · intro x hx y hy e
    obtain ⟨i, hi, rfl⟩ := List.mem_iff_getElem.1 hx
    obtain ⟨j, hj, rfl⟩ := List.mem_iff_getElem.1 hy
    simp only [key i hi, key j hj] at e
    exact (h _ (hz i hi (by omega)) _ (hz j hj (by omega))).2 e
end Tm

/-- A term with its variables numbered. -/
def numOne (t : Tm) : Tm := Tm.turnT (placeG (varsT [t])) t
theorem numOne_eq {t : Tm} (h : t.rightB = true) : numberT [t] = ([numOne t], ((varsT [t]).length : Int), 0) := by
  unfold numberT
  rw [if_pos (all_rights.2 (by simpa using h))]; rfl

theorem numOne_turn {t : Tm} {g : Int → Int} (h : t.rightB = true) (hg : ∀ v ∈ Tm.occ t, 0 ≤ g v ∧ g v < 1000000) (hi : ∀ x ∈ Tm.occ t, ∀ y ∈ Tm.occ t, g x = g y → x = y) : numOne (Tm.turnT g t) = numOne t := by
  have ho : Tm.occL [t] = Tm.occ t := by simp [Tm.occL]
  have h1 := number_turn (l := [t]) (g := g) (by simpa using h) (by rw [ho]; exact hg) (by rw [ho]; exact hi)
  have h2 := Tm.right_turn h hg
  simp only [Tm.turnTL] at h1
  rw [numOne_eq h, numOne_eq h2] at h1
  simpa using congrArg Prod.fst h1

def variantT (a b : Tm) : Bool := a.rightB && b.rightB && (Tm.fitsT a b []).1

theorem fits_num {a b : Tm} (ha : a.rightB = true) (hb : b.rightB = true) : (Tm.fitsT a b []).1 = true ↔ numOne a = numOne b := by
  have fa := right_fair ha
  have fb := right_fair hb
  have h := (Tm.fits_ok a b [] fa fb (by intro x hx; simp at hx)).1
  rw [h, List.nil_append]
  have la := one_fair fa
  have lb := one_fair fb
  have oa : Tm.occL [a] = Tm.occ a := by simp [Tm.occL]
  have ob : Tm.occL [b] = Tm.occ b := by simp [Tm.occL]
  constructor
  · rintro ⟨h1, h2⟩
    obtain ⟨g, hg, hi⟩ := Tm.good_fun (Tm.occ_bare_len h1) h2
    have e : b = Tm.turnT g a := by
      refine Tm.bare_occ _ _ ?_ (by rw [Tm.occ_turn, hg]) (Tm.fair_plain _ fb) ?_
      · show Tm.turnT _ b = Tm.turnT _ (Tm.turnT g a)
        rw [Tm.turn_comp]; exact h1.symm
      · refine Tm.fair_plain _ (Tm.fair_turn g a fa fun v hv => ?_)
        exact Tm.occ_range b fb _ (by rw [hg]; exact List.mem_map_of_mem hv)
    rw [e]
    exact (numOne_turn ha (fun v hv => Tm.occ_range b fb _ (by rw [hg]; exact List.mem_map_of_mem hv)) hi).symm
  · intro e
    unfold numOne at e
    refine ⟨?_, ?_⟩
    · have := congrArg (Tm.turnT fun _ => 0) e
      rwa [Tm.turn_comp, Tm.turn_comp] at this
    · have ho := congrArg Tm.occ e
      rw [Tm.occ_turn, Tm.occ_turn] at ho
      have hlen : (Tm.occ a).length = (Tm.occ b).length := by simpa using congrArg List.length ho
      have key : ∀ z ∈ (Tm.occ a).zip (Tm.occ b), z.1 ∈ Tm.occ a ∧ z.2 ∈ Tm.occ b ∧ placeG (varsT [a]) z.1 = placeG (varsT [b]) z.2 := fun z hz => by
        obtain ⟨i, hi, rfl⟩ := List.mem_iff_getElem.1 hz
        have hi' : i < (Tm.occ a).length ∧ i < (Tm.occ b).length := by simpa [Nat.lt_min] using hi
        rw [List.getElem_zip]
        refine ⟨List.getElem_mem _, List.getElem_mem _, ?_⟩
        have := congrArg (fun l => l[i]?) ho
        simp only [List.getElem?_map, List.getElem?_eq_getElem hi'.1, List.getElem?_eq_getElem hi'.2, Option.map_some, Option.some.injEq] at this
        exact this
      intro x hx y hy
      obtain ⟨x1, x2, x3⟩ := key x hx
      obtain ⟨y1, y2, y3⟩ := key y hy
      constructor
      · intro e1
        exact placeG_inj ((varsT_mem lb).2 (ob ▸ x2)) ((varsT_mem lb).2 (ob ▸ y2)) (by rw [← x3, ← y3, e1])
      · intro e1
        exact placeG_inj ((varsT_mem la).2 (oa ▸ x1)) ((varsT_mem la).2 (oa ▸ y1)) (by rw [x3, y3, e1])
end PSL
