import Derived.Test.YtppghekipbnjhaaPlSubst
namespace PSL
open Go

namespace Tm
mutual
theorem putF_fair {σ : Int → Tm} : ∀ (p : Tm), fairR p = true → (∀ v ∈ occ p, fairR (σ v) = true) → fairR (putF σ p) = true
  | mk k s n l, h, hs => by
    have hf := fairR_mk h
    simp only [occ] at hs
    simp only [putF]
    by_cases hk : k = 1
    · rw [if_pos hk] at hs ⊢; exact hs n (by simp)
    · rw [if_neg hk] at hs ⊢
      simp only [fairR, Bool.and_eq_true] at h ⊢
      exact ⟨⟨h.1.1, putFL_fair l h.1.2 hs⟩, by rw [putFL_len]; exact h.2⟩
theorem putFL_fair {σ : Int → Tm} : ∀ (l : List Tm), fairRL l = true → (∀ v ∈ occL l, fairR (σ v) = true) → fairRL (putFL σ l) = true
  | [], _, _ => rfl
  | x :: l, h, hs => by
    simp only [fairRL, Bool.and_eq_true] at h
    simp only [occL, List.mem_append] at hs
    simp only [putFL, fairRL, Bool.and_eq_true]
    exact ⟨putF_fair x h.1 fun v hv => hs v (.inl hv), putFL_fair l h.2 fun v hv => hs v (.inr hv)⟩
end
mutual
theorem occ_putF {σ : Int → Tm} : ∀ (p : Tm) (u : Int), u ∈ occ (putF σ p) → ∃ v ∈ occ p, u ∈ occ (σ v)
  | mk k s n l, u, h => by
    simp only [putF] at h
    simp only [occ]
    by_cases hk : k = 1
    · rw [if_pos hk] at h ⊢; exact ⟨n, by simp, h⟩
    · rw [if_neg hk] at h ⊢
      simp only [occ, if_neg hk] at h
      exact occL_putF l u h
theorem occL_putF {σ : Int → Tm} : ∀ (l : List Tm) (u : Int), u ∈ occL (putFL σ l) → ∃ v ∈ occL l, u ∈ occ (σ v)
  | [], u, h => by simp [putFL, occL] at h
  | x :: l, u, h => by
    simp only [putFL, occL, List.mem_append] at h
    simp only [occL, List.mem_append]
    rcases h with h | h
    · obtain ⟨v, h1, h2⟩ := occ_putF x u h; exact ⟨v, .inl h1, h2⟩
    · obtain ⟨v, h1, h2⟩ := occL_putF l u h; exact ⟨v, .inr h1, h2⟩
end
theorem vT_fair' {n : Int} (h0 : 0 ≤ n) (h1 : n < 1000000) : fairR (vT n) = true := by
  have e : strEq ByteArray.empty ⟨#[]⟩ = true := strEq_iff.2 rfl
  have e2 : ByteArray.empty.data.toList.all byteOk = true := rfl
  simp only [vT, fairR, fairRL, kindR, e, e2]
  simp
  omega
theorem putFL_map (σ : Int → Tm) : ∀ l, putFL σ l = l.map (putF σ)
  | [] => rfl
  | x :: l => by simp only [putFL, List.map_cons, putFL_map σ l]
theorem put_id {σ : Int → Tm} (p : Tm) (h : fairR p = true) (hs : ∀ v ∈ occ p, σ v = vT v) : putF σ p = p := by
  rw [putF_congr p hs, put_self p h]
end Tm

/-- What a term becomes, so many steps deep. -/
def fullS (B : Binds) : Nat → Tm → Tm
  | 0, t => t
  | m + 1, t => Tm.putF (fun v => match findB B v with | some x => fullS B m x | none => Tm.vT v) t

/-- No bound variable of a term leads further. -/
def levT (B : Binds) (m : Nat) (t : Tm) : Prop := ∀ v ∈ Tm.occ t, 0 ≤ placeB B v → Okn (adjB B) m (placeB B v).toNat

theorem lev_bind {B : Binds} {m : Nat} {v : Int} {x : Tm} (hx : x.fairR = true) (h : findB B v = some x) (ho : Okn (adjB B) m (placeB B v).toNat) : ∃ q, m = q + 1 ∧ levT B q x := by
  cases ho with
  | @mk q _ ho =>
    refine ⟨q, rfl, fun u hu hp => ho _ ?_⟩
    rcases placeB_find B v with ⟨_, h2⟩ | ⟨k, t, h1, h2, h3⟩
    · rw [h2] at h; cases h
    · rw [h3] at h; cases h
      rw [h1]
      simp only [Int.toNat_natCast, adjB, h2, List.mem_filterMap]
      refine ⟨u, ?_, by rw [if_neg (by omega)]⟩
      rw [varsT_once (one_fair hx)]
      simp [Tm.occL, Tm.mem_once, hu]

section
variable {B : Binds} (hB : ∀ b ∈ B, b.2.fairR = true)
include hB

theorem findB_fair {v : Int} {x : Tm} (h : findB B v = some x) : x.fairR = true := hB _ (Tm.findB_mem h)

theorem lev_find {m : Nat} {t : Tm} (h : levT B m t) {v : Int} (hv : v ∈ Tm.occ t) {x : Tm} (hx : findB B v = some x) : ∃ q, m = q + 1 ∧ levT B q x := by
  refine lev_bind (findB_fair hB hx) hx (h v hv ?_)
  rcases placeB_find B v with ⟨_, h2⟩ | ⟨k, t, h1, h2, h3⟩
  · rw [h2] at hx; cases hx
  · omega

theorem full_stable : ∀ (m : Nat) (t : Tm), t.fairR = true → levT B m t → ∀ m', m ≤ m' → fullS B m' t = fullS B m t := by
  intro m
  induction m with
  | zero =>
    intro t hf hl m' _
    have hn : ∀ v ∈ Tm.occ t, findB B v = none := fun v hv => by
      cases h : findB B v with
      | none => rfl
      | some x => obtain ⟨q, hq, _⟩ := lev_find hB hl hv h; omega
    cases m' with
    | zero => rfl
    | succ m' =>
      simp only [fullS]
      exact Tm.put_id t hf fun v hv => by rw [hn v hv]
  | succ m ih =>
    intro t hf hl m' hm
    obtain ⟨q, rfl⟩ : ∃ q, m' = q + 1 := ⟨m' - 1, by omega⟩
    simp only [fullS]
    refine Tm.putF_congr t fun v hv => ?_
    cases h : findB B v with
    | none => rfl
    | some x =>
      obtain ⟨r, hr, h2⟩ := lev_find hB hl hv h
      cases hr
      exact ih x (findB_fair hB h) h2 q (by omega)

theorem full_fair : ∀ (m : Nat) (t : Tm), t.fairR = true → (∀ v ∈ Tm.occ t, 0 ≤ v ∧ v < 1000000) → (fullS B m t).fairR = true := by
  intro m
  induction m with
  | zero => intro t h _; exact h
  | succ m ih =>
    intro t h hv
    refine Tm.putF_fair t h fun v hm => ?_
    cases hf : findB B v with
    | none => exact Tm.vT_fair' (hv v hm).1 (hv v hm).2
    | some x =>
      have := findB_fair hB hf
      exact ih x this (Tm.occ_range x this)

theorem full_free : ∀ (m : Nat) (t : Tm), levT B m t → ∀ u ∈ Tm.occ (fullS B m t), findB B u = none := by
  intro m
  induction m with
  | zero =>
    intro t hl u hu
    cases h : findB B u with
    | none => rfl
    | some x => obtain ⟨q, hq, _⟩ := lev_find hB hl hu h; omega
  | succ m ih =>
    intro t hl u hu
    obtain ⟨v, hv, h2⟩ := Tm.occ_putF t u hu
    cases h : findB B v with
    | none =>
      rw [h] at h2
      simp [Tm.vT, Tm.occ] at h2
      rw [h2]; exact h
    | some x =>
      rw [h] at h2
      obtain ⟨r, hr, h3⟩ := lev_find hB hl hv h
      cases hr
      exact ih x h3 u h2
end

/-- All that is needed of a right substitution. -/
structure Sub (B : Binds) (M : Nat) : Prop where
  fair : ∀ b ∈ B, b.2.fairR = true
  okn : ∀ i < B.length, Okn (adjB B) M i

theorem Sub.lev {B : Binds} {M : Nat} (h : Sub B M) (t : Tm) : levT B M t := fun v _ hp => h.okn _ (by
  rcases placeB_find B v with ⟨h1, _⟩ | ⟨k, t, h1, h2, h3⟩
  · omega
  · have := (List.getElem?_eq_some_iff.1 h2).1; omega)

theorem Sub.of {B : Binds} (h : rightS B = true) : ∃ M, Sub B M := by
  obtain ⟨_, h2, M, h3⟩ := rightS_spec h
  exact ⟨M, fun b hb => right_fair (h2 b hb).2.2, h3⟩

theorem Sub.fix {B : Binds} {M : Nat} (h : Sub B M) {t : Tm} (hf : t.fairR = true) : fullS B M t = Tm.putF (fun v => match findB B v with | some x => fullS B M x | none => Tm.vT v) t :=
  (full_stable h.fair M t hf (h.lev t) (M + 1) (by omega)).symm

/-- A step from a bound variable. -/
theorem Sub.bound {B : Binds} {M : Nat} (h : Sub B M) {t x : Tm} (hf : t.fairR = true) (hk : t.k = 1) (hx : findB B t.n = some x) : fullS B M t = fullS B M x := by
  rw [h.fix hf]
  obtain ⟨k, s, n, l⟩ := t
  simp only [Tm.k, Tm.n] at hk hx
  simp only [Tm.putF, if_pos hk, hx]

theorem occ_var {t : Tm} (hk : t.k = 1) : t.n ∈ Tm.occ t := by
  obtain ⟨k, s, n, l⟩ := t
  simp only [Tm.k] at hk
  simp [Tm.occ, hk, Tm.n]

/-- What isn't a bound variable keeps its head. -/
theorem Sub.head {B : Binds} {M : Nat} (h : Sub B M) {t : Tm} (hf : t.fairR = true) (hx : t.k = 1 → findB B t.n = none) : fullS B M t = .mk t.k t.s t.n (t.l.map (fullS B M)) := by
  rw [h.fix hf]
  obtain ⟨k, s, n, l⟩ := t
  have h1 := Tm.fairR_mk hf
  by_cases hk : k = 1
  · obtain ⟨rfl, rfl⟩ := h1.2 hk
    have := hx hk
    simp only [Tm.n] at this
    subst hk
    simp [Tm.putF, this, Tm.vT, Tm.k, Tm.s, Tm.n, Tm.l]
  · simp only [Tm.putF, if_neg hk, Tm.k, Tm.s, Tm.n, Tm.l, Tm.putFL_map]
    congr 1
    refine List.map_congr_left fun x hx => ?_
    exact (h.fix (Tm.fairRL_iff.1 h1.1 x hx)).symm

theorem Sub.kid_fair {t x : Tm} (hf : t.fairR = true) (hx : x ∈ t.l) : x.fairR = true := by
  obtain ⟨k, s, n, l⟩ := t
  exact Tm.fairRL_iff.1 (Tm.fairR_mk hf).1 x hx

theorem Sub.free {B : Binds} {M : Nat} (h : Sub B M) (t : Tm) : ∀ u ∈ Tm.occ (fullS B M t), findB B u = none := full_free h.fair M t (h.lev t)
theorem Sub.fairF {B : Binds} {M : Nat} (h : Sub B M) {t : Tm} (hf : t.fairR = true) : (fullS B M t).fairR = true := full_fair h.fair M t hf (Tm.occ_range t hf)
/-- What has no bound variable stays. -/
theorem Sub.same {B : Binds} {M : Nat} (h : Sub B M) {t : Tm} (hf : t.fairR = true) (hn : ∀ u ∈ Tm.occ t, findB B u = none) : fullS B M t = t := by
  rw [h.fix hf]
  exact Tm.put_id t hf fun v hv => by rw [hn v hv]
theorem Sub.twice {B : Binds} {M : Nat} (h : Sub B M) {t : Tm} (hf : t.fairR = true) : fullS B M (fullS B M t) = fullS B M t := h.same (h.fairF hf) (h.free t)

/-! ### copies within bounds -/
namespace Tm
mutual
def bldN : Tm → Int → Int → Bool × Int
  | mk _ _ _ l, left, deep => if left - 1 < 0 ∨ deep > 100 then (false, left - 1) else bldNL l (left - 1) (deep + 1)
def bldNL : List Tm → Int → Int → Bool × Int
  | [], left, _ => (true, left)
  | x :: r, left, deep => if (bldN x left deep).1 then bldNL r (bldN x left deep).2 deep else (false, (bldN x left deep).2)
end
theorem bldN_eq (t : Tm) (left deep : Int) : bldN t left deep = if left - 1 < 0 ∨ deep > 100 then (false, left - 1) else bldNL t.l (left - 1) (deep + 1) := by cases t; simp only [bldN]; rfl
mutual
theorem bldN_ok : ∀ (t : Tm) (left deep : Int), 0 ≤ left → 1 ≤ deep → ((bldN t left deep).1 = true ↔ (t.size : Int) ≤ left ∧ deep + t.depth ≤ 101) ∧ ((bldN t left deep).1 = true → (bldN t left deep).2 = left - t.size) ∧ -1 ≤ (bldN t left deep).2 ∧ (bldN t left deep).2 ≤ left
  | mk k s n l, left, deep, h0, h1 => by
    have h2 : 1 ≤ (mk k s n l).depth := by simp only [depth]; omega
    simp only [bldN, size, depth]
    split
    · rename_i h
      refine ⟨⟨fun h => (by cases h), fun h' => (by omega)⟩, fun h => (by cases h), by simp only; omega, by simp only; omega⟩
    · rename_i h
      obtain ⟨h3, h4, h5, h6⟩ := bldNL_ok l (left - 1) (deep + 1) (by omega) (by omega)
      refine ⟨?_, fun hr => by rw [h4 hr]; omega, h5, by omega⟩
      rw [h3]
      constructor
      · rintro ⟨h7, h8⟩
        refine ⟨by omega, ?_⟩
        rcases h8 with h8 | h8
        · subst h8; simp only [depthL]; omega
        · omega
      · rintro ⟨h7, h8⟩; exact ⟨by omega, .inr (by omega)⟩
theorem bldNL_ok : ∀ (l : List Tm) (left deep : Int), 0 ≤ left → 1 ≤ deep → ((bldNL l left deep).1 = true ↔ (sizeL l : Int) ≤ left ∧ (l = [] ∨ deep + depthL l ≤ 101)) ∧ ((bldNL l left deep).1 = true → (bldNL l left deep).2 = left - sizeL l) ∧ -1 ≤ (bldNL l left deep).2 ∧ (bldNL l left deep).2 ≤ left
  | [], left, deep, h0, h1 => by simp only [bldNL, sizeL]; exact ⟨⟨fun _ => ⟨by omega, by simp⟩, fun _ => by simp⟩, fun _ => by omega, by omega, by omega⟩
  | x :: r, left, deep, h0, h1 => by
    obtain ⟨h2, h3, h4, h5⟩ := bldN_ok x left deep h0 h1
    have hx := size_eq x
    simp only [bldNL, sizeL, depthL]
    cases hb : (bldN x left deep).1 with
    | true =>
      simp only [if_true]
      have h6 := h3 hb
      obtain ⟨h7, h8⟩ := h2.1 hb
      obtain ⟨g1, g2, g3, g4⟩ := bldNL_ok r (bldN x left deep).2 deep (by omega) h1
      refine ⟨?_, fun hr => by rw [g2 hr, h6]; omega, g3, by omega⟩
      rw [g1, h6]
      constructor
      · rintro ⟨a, b⟩
        refine ⟨by omega, .inr ?_⟩
        rcases b with b | b
        · subst b; simp only [depthL]; omega
        · omega
      · rintro ⟨a, b⟩
        refine ⟨by omega, ?_⟩
        rcases b with b | b
        · simp at b
        · exact .inr (by omega)
    | false =>
      simp only [Bool.false_eq_true, if_false]
      refine ⟨⟨fun h => (by cases h), fun ⟨a, b⟩ => ?_⟩, fun h => (by cases h), h4, h5⟩
      have : (bldN x left deep).1 = true := h2.2 (by
        rcases b with b | b
        · simp at b
        · exact ⟨by omega, by omega⟩)
      rw [hb] at this; cases this
end
end Tm

/-- What Apply answers. -/
def applyT (B : Binds) (M : Nat) (t : Tm) : Tm × Int :=
  if rightS B && t.rightB then (if decide ((fullS B M t).size ≤ 3000) && decide ((fullS B M t).depth ≤ 100) then (fullS B M t, 0) else (zeroT, 3)) else (zeroT, 1)
end PSL
namespace PSL
open Go
def oknB (adj : Nat → List Nat) : Nat → Nat → Bool
  | 0, _ => false
  | m + 1, i => (adj i).all (oknB adj m)
theorem oknB_ok {adj : Nat → List Nat} : ∀ {m i : Nat}, oknB adj m i = true → Okn adj m i
  | 0, i, h => by cases h
  | m + 1, i, h => .mk fun k hk => oknB_ok (List.all_eq_true.1 h k hk)
def subB (B : Binds) (M : Nat) : Bool := B.all (fun b => b.2.fairR) && (List.range B.length).all (oknB (adjB B) M)
theorem Sub.ofB {B : Binds} {M : Nat} (h : subB B M = true) : Sub B M := by
  simp only [subB, Bool.and_eq_true] at h
  exact ⟨fun b hb => List.all_eq_true.1 h.1 b hb, fun i hi => oknB_ok (List.all_eq_true.1 h.2 i (by simpa using hi))⟩

/-- Few enough to be gone through. -/
def someS (B : Binds) : Bool := decide (fewB B 4000 ≥ 0) && decide ((B.length : Int) ≤ 60)
theorem someS_ok {B : Binds} (h : someS B = true) : B.length ≤ 60 ∧ ∀ b ∈ B, b.2.size ≤ 4000 ∧ ∀ x e, e ∈ b.2.els x → e.2.s.size ≤ 100 := by
  simp only [someS, Bool.and_eq_true, decide_eq_true_eq] at h
  obtain ⟨h1, h2⟩ := h
  rcases fewB_le B 4000 (by omega) (by omega) with h3 | ⟨_, _, h3⟩
  · omega
  · exact ⟨by omega, fun b hb => ⟨by have := (h3 b hb).1; omega, (h3 b hb).2⟩⟩

theorem findB_place {B : Binds} {v : Int} : findB B v = none ↔ placeB B v < 0 := by
  rcases placeB_find B v with ⟨h1, h2⟩ | ⟨k, t, h1, h2, h3⟩
  · exact ⟨fun _ => h1, fun _ => h2⟩
  · rw [h3, h1]; exact ⟨fun h => (by cases h), fun h => (by omega)⟩

theorem applyT_ok {B : Binds} {M : Nat} {t : Tm} (h : (applyT B M t).2 = 0) : rightS B = true ∧ t.rightB = true ∧ (applyT B M t).1 = fullS B M t ∧ (fullS B M t).size ≤ 3000 ∧ (fullS B M t).depth ≤ 100 := by
  unfold applyT at h ⊢
  split at h
  · rename_i h1
    simp only [Bool.and_eq_true] at h1
    rw [if_pos (by simp [h1])]
    split at h
    · rename_i h2
      rw [if_pos h2]
      simp only [Bool.and_eq_true, decide_eq_true_eq] at h2
      exact ⟨h1.1, h1.2, rfl, h2.1, h2.2⟩
    · cases h
  · cases h
theorem applyT_cases (B : Binds) (M : Nat) (t : Tm) : (applyT B M t).2 = 0 ∨ ((applyT B M t).2 ≠ 0 ∧ (applyT B M t).1 = zeroT) := by
  unfold applyT
  split
  · split
    · exact .inl rfl
    · exact .inr ⟨by decide, rfl⟩
  · exact .inr ⟨by decide, rfl⟩
end PSL
namespace PSL
open Go
theorem findB_cons (b : Int × Tm) (r : Binds) (v : Int) : findB (b :: r) v = if b.1 = v then some b.2 else findB r v := by
  by_cases h : b.1 = v
  · simp [findB, h]
  · have : (b.1 == v) = false := by simpa using h
    simp [findB, this, h]
end PSL
namespace PSL
open Go
/-- What the document's Become answers. -/
def becR (T : Tm) (most deep : Int) : Tm × Int := if decide ((T.size : Int) ≤ most) && decide ((T.depth : Int) ≤ deep) then (T, (T.size : Int)) else (zeroT, 0)
theorem becR_no {T : Tm} {most deep : Int} (h : ¬ ((T.size : Int) ≤ most ∧ (T.depth : Int) ≤ deep)) : becR T most deep = (zeroT, 0) := by
  unfold becR
  rw [if_neg]
  simpa using h
theorem becR_yes {T : Tm} {most deep : Int} (h1 : (T.size : Int) ≤ most) (h2 : (T.depth : Int) ≤ deep) : becR T most deep = (T, (T.size : Int)) := by
  unfold becR
  rw [if_pos (by simp [h1, h2])]
namespace Tm
theorem depth_mem {l : List Tm} {x : Tm} (h : x ∈ l) : depth x ≤ depthL l := by
  induction l with
  | nil => simp at h
  | cons y l ih =>
    simp only [depthL]
    rcases List.mem_cons.1 h with rfl | h
    · omega
    · have := ih h; omega
theorem depthL_le {l : List Tm} {n : Int} (h0 : 0 ≤ n) (h : ∀ x ∈ l, (depth x : Int) ≤ n) : (depthL l : Int) ≤ n := by
  induction l with
  | nil => simpa [depthL] using h0
  | cons y l ih =>
    have h1 := h y (by simp)
    have h2 := ih fun x hx => h x (by simp [hx])
    simp only [depthL]
    omega
theorem sizeL_take (l : List Tm) (k : Nat) : sizeL (l.take k) ≤ sizeL l := by
  have := sizeL_append (l.take k) (l.drop k)
  rw [List.take_append_drop] at this; omega
end Tm
end PSL
namespace PSL
open Go
/-- What the document's Apply answers. -/
def app3 (T : Tm) : Tm × Int := if decide (T.size ≤ 3000) && decide (T.depth ≤ 100) then (T, 0) else (zeroT, 3)
theorem app3_becR (T : Tm) : app3 T = (if (becR T 3000 100).2 = 0 then (zeroT, 3) else ((becR T 3000 100).1, 0)) := by
  have hz := Tm.size_eq T
  unfold app3
  by_cases h : T.size ≤ 3000 ∧ T.depth ≤ 100
  · rw [becR_yes (by omega) (by omega), if_pos (by simp [h.1, h.2]), if_neg (by simp only; omega)]
  · rw [becR_no (by omega), if_neg (by simpa using h), if_pos rfl]
theorem applyT_app3 {B : Binds} {M : Nat} {t : Tm} (h1 : rightS B = true) (h2 : t.rightB = true) : applyT B M t = app3 (fullS B M t) := by
  unfold applyT app3; rw [h1, h2]; rfl
theorem applyT_arg {B : Binds} {M : Nat} {t : Tm} (h : (rightS B && t.rightB) = false) : applyT B M t = (zeroT, 1) := by
  unfold applyT; rw [h]; rfl
end PSL
