import Derived.Test.YtcafgconfcajbaaPlInst2
namespace PSL
open Go

theorem nodup_addV : ∀ (l a : List Int), a.Nodup → (l.foldl addV a).Nodup
  | [], _, h => h
  | x :: l, a, h => by
    refine nodup_addV l (addV a x) ?_
    unfold addV
    split
    · exact h
    · rename_i hn
      rw [List.nodup_append]
      refine ⟨h, by simp, fun y hy z hz => ?_⟩
      obtain rfl : z = x := by simpa using hz
      intro e; subst e
      exact hn (by simpa using hy)
theorem once_nodup (l : List Int) : (Tm.once l).Nodup := nodup_addV l [] (by simp)

theorem place_nodup {l : Binds} (h : (l.map (·.1)).Nodup) {k : Nat} {b : Int × Tm} (hk : l[k]? = some b) : placeB l b.1 = k := by
  rcases placeB_find l b.1 with ⟨h1, h2⟩ | ⟨j, t, h1, h2, _⟩
  · exfalso
    unfold findB at h2
    have := List.find?_eq_none.1 (Option.map_eq_none_iff.1 h2) b (List.mem_of_getElem? hk)
    simp at this
  · have e : j = k := by
      have hj : (l.map (·.1))[j]? = some b.1 := by rw [List.getElem?_map, h2]; rfl
      have hk' : (l.map (·.1))[k]? = some b.1 := by rw [List.getElem?_map, hk]; rfl
      have hjl := (List.getElem?_eq_some_iff.1 hj).1
      exact (List.getElem?_inj hjl h).1 (hj.trans hk'.symm)
    rw [h1, e]

theorem mayR_of (l : Binds) : ∀ (r : Binds) (i : Nat), (∀ k b, r[k]? = some b → 0 ≤ b.1 ∧ b.1 < 1000000 ∧ b.2.rightB = true ∧ placeB l b.1 = ((i + k : Nat) : Int)) → mayR l r i = true
  | [], _, _ => rfl
  | b :: r, i, h => by
    have h0 := h 0 b rfl
    have ih := mayR_of l r (i + 1) fun k c hk => by
      have := h (k + 1) c (by simpa using hk)
      rw [show i + 1 + k = i + (k + 1) by omega]; exact this
    simp only [mayR, Bool.and_eq_true, decide_eq_true_eq]
    exact ⟨⟨⟨⟨h0.1, h0.2.1⟩, h0.2.2.1⟩, h0.2.2.2⟩, ih⟩

namespace Tm
mutual
theorem put_bound (σ : Int → Tm) : ∀ (p : Tm), ∀ v ∈ occ p, (σ v).size ≤ (putF σ p).size ∧ (σ v).depth ≤ (putF σ p).depth
  | mk k s n l, v, hv => by
    simp only [putF]
    simp only [occ] at hv
    by_cases hk : k = 1
    · simp only [if_pos hk, List.mem_singleton] at hv ⊢
      subst hv; exact ⟨Nat.le_refl _, Nat.le_refl _⟩
    · simp only [if_neg hk] at hv ⊢
      have := putL_bound σ l v hv
      simp only [size, depth]; omega
theorem putL_bound (σ : Int → Tm) : ∀ (l : List Tm), ∀ v ∈ occL l, (σ v).size ≤ sizeL (putFL σ l) ∧ (σ v).depth ≤ depthL (putFL σ l)
  | [], v, hv => by simp [occL] at hv
  | x :: r, v, hv => by
    simp only [occL, List.mem_append] at hv
    simp only [putFL, sizeL, depthL]
    rcases hv with hv | hv
    · have := put_bound σ x v hv; omega
    · have := putL_bound σ r v hv; omega
end
end Tm

/-- What a match binds may be filled in. -/
theorem matchR_may {p t : Tm} (hp : p.rightB = true) (ht : t.rightB = true) (h : (matchR p t).2 = true) : mayT [] (matchR p t).1 = true := by
  have fp := right_fair hp
  have ft := right_fair ht
  obtain ⟨hput, hkeys⟩ := matchR_back fp h
  rw [may_same]
  simp only [List.nil_append, List.length_nil]
  have hnd : ((matchR p t).1.map (·.1)).Nodup := by rw [hkeys]; exact once_nodup _
  refine mayR_of _ _ 0 fun k b hk => ?_
  have hm := List.mem_of_getElem? hk
  have hocc : b.1 ∈ Tm.occ p := by
    rw [← Tm.mem_once, ← hkeys]; exact List.mem_map_of_mem (f := fun b : Int × Tm => b.1) hm
  have hr := Tm.occ_range p fp _ hocc
  have hfind : findB (matchR p t).1 b.1 = some b.2 := by
    rcases placeB_find (matchR p t).1 b.1 with ⟨h1, h2⟩ | ⟨j, x, h1, h2, h3⟩
    · have := place_nodup hnd hk; omega
    · have e := place_nodup hnd hk
      have : j = k := by omega
      subst this
      rw [hk] at h2
      rw [h3]; injection h2 with h2; rw [h2]
  have ht2 : t = Tm.putF (fun v => (findB (matchR p t).1 v).getD (Tm.vT v)) p := by rw [← Tm.putB_putF _ p fp, hput]
  have hsub := Tm.put_bound (fun v => (findB (matchR p t).1 v).getD (Tm.vT v)) p b.1 hocc
  have hfs := Tm.fair_put (σ := fun v => (findB (matchR p t).1 v).getD (Tm.vT v)) p (by rw [← ht2]; exact ft) b.1 hocc
  rw [← ht2] at hsub
  simp only [hfind, Option.getD_some] at hsub hfs
  have hrt := Tm.rightB_iff.1 ht
  refine ⟨hr.1, hr.2, Tm.rightB_iff.2 ⟨hfs, by omega, by omega⟩, by rw [place_nodup hnd hk]; omega⟩

/-- Match, then fill: the term. -/
theorem fill_match {p t : Tm} (hp : p.rightB = true) (ht : t.rightB = true) (h : (matchR p t).2 = true) : fillT p (matchR p t).1 = (t, 0) := by
  have hb := (matchR_back (right_fair hp) h).1
  rw [fill_same (by rw [rightT_eq, hp, matchR_may hp ht h]; rfl), hb, if_pos ht]
end PSL
