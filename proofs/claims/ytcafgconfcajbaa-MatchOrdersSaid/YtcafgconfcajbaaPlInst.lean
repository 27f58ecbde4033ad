import Derived.Test.YtcafgconfcajbaaPlMayB
namespace PSL
open Go

namespace Tm
mutual
/-- A pattern with terms for its variables. -/
def putF (σ : Int → Tm) : Tm → Tm
  | mk k s n l => if k = 1 then σ n else mk k s n (putFL σ l)
def putFL (σ : Int → Tm) : List Tm → List Tm
  | [] => []
  | x :: r => putF σ x :: putFL σ r
end
theorem putFL_len (σ : Int → Tm) : ∀ l, (putFL σ l).length = l.length
  | [] => rfl
  | x :: r => by simp only [putFL, List.length_cons, putFL_len σ r]

mutual
theorem putF_congr {σ τ : Int → Tm} : ∀ (p : Tm), (∀ v ∈ occ p, σ v = τ v) → putF σ p = putF τ p
  | mk k s n l, h => by
    simp only [putF]
    simp only [occ] at h
    by_cases hk : k = 1
    · simp only [if_pos hk] at h ⊢; exact h n (by simp)
    · simp only [if_neg hk] at h ⊢; rw [putFL_congr l h]
theorem putFL_congr {σ τ : Int → Tm} : ∀ (l : List Tm), (∀ v ∈ occL l, σ v = τ v) → putFL σ l = putFL τ l
  | [], _ => rfl
  | x :: r, h => by
    simp only [occL, List.mem_append] at h
    simp only [putFL, putF_congr x (fun v hv => h v (.inl hv)), putFL_congr r (fun v hv => h v (.inr hv))]
end

/-- A variable. -/
def vT (n : Int) : Tm := mk 1 ByteArray.empty n []

mutual
theorem putB_putF (B : Binds) : ∀ (p : Tm), fairR p = true → putB B p = putF (fun v => (findB B v).getD (vT v)) p
  | mk k s n l, h => by
    have hl := fairR_mk h
    simp only [putB, putF]
    by_cases hk : k = 1
    · obtain ⟨rfl, rfl⟩ := hl.2 hk
      subst hk
      simp only [if_true, putBL]; rfl
    · rw [if_neg hk, if_neg hk, putBL_putFL B l hl.1]
theorem putBL_putFL (B : Binds) : ∀ (l : List Tm), fairRL l = true → putBL B l = putFL (fun v => (findB B v).getD (vT v)) l
  | [], _ => rfl
  | x :: r, h => by
    simp only [fairRL, Bool.and_eq_true] at h
    simp only [putBL, putFL, putB_putF B x h.1, putBL_putFL B r h.2]
end

theorem differ_iff {p t : Tm} : differ p t = false ↔ p.k = t.k ∧ p.n = t.n ∧ p.s = t.s ∧ p.l.length = t.l.length := by
  simp [differ, strEq_iff, and_assoc]

mutual
/-- A filled pattern is collected as what it was filled with. -/
theorem collect_put (σ : Int → Tm) : ∀ (p : Tm), collect p (putF σ p) = ((occ p).map fun v => (v, σ v), true)
  | mk k s n l => by
    simp only [collect, putF, occ]
    by_cases hk : k = 1
    · simp [hk]
    · simp only [if_neg hk]
      have hd : differ (mk k s n l) (mk k s n (putFL σ l)) = false := differ_iff.2 ⟨rfl, rfl, rfl, (putFL_len σ l).symm⟩
      rw [hd]
      simp only [Bool.false_eq_true, if_false]
      exact collectL_put σ l []
theorem collectL_put (σ : Int → Tm) : ∀ (l : List Tm) (B : Binds), collectL l (putFL σ l) B = (B ++ (occL l).map fun v => (v, σ v), true)
  | [], B => by simp [collectL, occL]
  | x :: r, B => by
    simp only [putFL, collectL, occL, collect_put σ x, if_true, collectL_put σ r, List.map_append, List.append_assoc]
end

mutual
/-- What is collected tells the term. -/
theorem collect_back (σ : Int → Tm) : ∀ (p t : Tm), (collect p t).2 = true → (∀ b ∈ (collect p t).1, b.2 = σ b.1) → t = putF σ p ∧ (collect p t).1.map (·.1) = occ p
  | mk k s n l, mk k' s' n' l', h, hb => by
    simp only [collect] at h hb ⊢
    simp only [putF, occ]
    by_cases hk : k = 1
    · simp only [if_pos hk] at h hb ⊢
      exact ⟨hb (n, _) (by simp), by simp⟩
    · simp only [if_neg hk] at h hb ⊢
      cases hd : differ (mk k s n l) (mk k' s' n' l') with
      | true => rw [hd] at h; simp at h
      | false =>
        rw [hd] at h hb
        simp only [Bool.false_eq_true, if_false] at h hb ⊢
        obtain ⟨h1, h2, h3, h4⟩ := differ_iff.1 hd
        have h1 : k = k' := h1
        have h2 : n = n' := h2
        have h3 : s = s' := h3
        subst h1; subst h2; subst h3
        have := collectL_back σ l l' [] h hb h4
        exact ⟨by rw [this.1]; rfl, this.2⟩
theorem collectL_back (σ : Int → Tm) : ∀ (a b : List Tm) (B : Binds), (collectL a b B).2 = true → (∀ x ∈ (collectL a b B).1, x.2 = σ x.1) → a.length = b.length → b = putFL σ a ∧ (collectL a b B).1.map (·.1) = B.map (·.1) ++ occL a
  | [], [], B, _, _, _ => by simp [collectL, putFL, occL]
  | [], _ :: _, _, _, _, h => by simp at h
  | _ :: _, [], _, _, _, h => by simp at h
  | x :: a, y :: b, B, h, hb, hl => by
    simp only [collectL] at h hb ⊢
    by_cases hc : (collect x y).2 = true
    · rw [if_pos hc] at h hb ⊢
      have h2 := collectL_back σ a b (B ++ (collect x y).1) h hb (by simpa using hl)
      have hacc := collectL_acc a b (B ++ (collect x y).1)
      have hsub : ∀ z ∈ (collect x y).1, z.2 = σ z.1 := fun z hz => hb z (by
        rw [hacc] at h ⊢
        by_cases hl2 : (collectL a b []).2 = true
        · rw [if_pos hl2]; simp [hz]
        · rw [if_neg hl2] at h; simp at h)
      have h1 := collect_back σ x y hc hsub
      refine ⟨by rw [putFL, ← h1.1, ← h2.1], ?_⟩
      rw [h2.2, List.map_append, h1.2, occL, List.append_assoc]
    · rw [if_neg hc] at h; simp at h
end
end Tm

theorem findB_app (A B : Binds) (v : Int) : findB (A ++ B) v = match findB A v with | some t => some t | none => findB B v := by
  unfold findB
  rw [List.find?_append]
  cases h : List.find? (fun b => b.1 == v) A <;> simp

/-- Binds put together one behind the other: what is met first stays. -/
theorem addAll_ok : ∀ (L B : Binds), (addAll B L).1 = true → (∀ v t, findB B v = some t → findB (addAll B L).2 v = some t) ∧ (∀ b ∈ L, findB (addAll B L).2 b.1 = some b.2) ∧ (addAll B L).2.map (·.1) = (L.map (·.1)).foldl addV (B.map (·.1))
  | [], B, _ => ⟨fun _ _ h => h, by simp, rfl⟩
  | b :: L, B, h => by
    simp only [addAll] at h ⊢
    by_cases ha : (addB B b.1 b.2).1 = true
    · rw [if_pos ha] at h ⊢
      have ih := addAll_ok L (addB B b.1 b.2).2 h
      unfold addB at ha ih ⊢
      cases hf : findB B b.1 with
      | some t =>
        simp only [hf] at ha ih ⊢
        have e := (Tm.same_iff t b.2).1 ha
        have hmem : b.1 ∈ B.map (·.1) := List.mem_map.2 ⟨_, Tm.findB_mem hf, rfl⟩
        refine ⟨ih.1, fun z hz => ?_, ?_⟩
        · rcases List.mem_cons.1 hz with rfl | hz
          · rw [← e]; exact ih.1 _ _ hf
          · exact ih.2.1 z hz
        · rw [ih.2.2, List.map_cons, List.foldl_cons, addV, if_pos (by simpa using hmem)]
      | none =>
        simp only [hf] at ha ih ⊢
        have hnm : b.1 ∉ B.map (·.1) := fun hm => by
          obtain ⟨z, hz, hzz⟩ := List.mem_map.1 hm
          unfold findB at hf
          have := List.find?_eq_none.1 (Option.map_eq_none_iff.1 hf) z hz
          simp [hzz] at this
        have hnew : findB (B ++ [(b.1, b.2)]) b.1 = some b.2 := by rw [findB_app, hf]; simp [findB]
        refine ⟨fun v t hv => ih.1 v t (by rw [findB_app, hv]), fun z hz => ?_, ?_⟩
        · rcases List.mem_cons.1 hz with rfl | hz
          · exact ih.1 _ _ hnew
          · exact ih.2.1 z hz
        · rw [ih.2.2, List.map_cons, List.foldl_cons, addV, if_neg (by simpa using hnm)]
          simp
    · rw [if_neg ha] at h; simp at h

theorem addAll_fun (σ : Int → Tm) : ∀ (L B : Binds), (∀ b ∈ L, b.2 = σ b.1) → (∀ b ∈ B, b.2 = σ b.1) → (addAll B L).1 = true
  | [], B, _, _ => rfl
  | b :: L, B, hL, hB => by
    simp only [addAll]
    have hb := hL b (by simp)
    have ha : (addB B b.1 b.2).1 = true ∧ ∀ z ∈ (addB B b.1 b.2).2, z.2 = σ z.1 := by
      unfold addB
      cases hf : findB B b.1 with
      | some t =>
        have := hB _ (Tm.findB_mem hf)
        exact ⟨(Tm.same_iff _ _).2 (by rw [hb]; exact this), hB⟩
      | none =>
        refine ⟨rfl, fun z hz => ?_⟩
        rcases List.mem_append.1 hz with hz | hz
        · exact hB z hz
        · obtain rfl : z = (b.1, b.2) := by simpa using hz
          exact hb
    rw [if_pos ha.1]
    exact addAll_fun σ L _ (fun z hz => hL z (by simp [hz])) ha.2

/-- A term is matched, just if it is the pattern with terms for its variables. -/
theorem matchR_iff (p t : Tm) : (matchR p t).2 = true ↔ ∃ σ, t = Tm.putF σ p := by
  unfold matchR
  constructor
  · intro h
    by_cases hc : (Tm.collect p t).2 = true
    · rw [if_pos hc] at h
      by_cases ha : (addAll [] (Tm.collect p t).1).1 = true
      · have h1 := addAll_ok _ _ ha
        refine ⟨fun v => (findB (addAll [] (Tm.collect p t).1).2 v).getD (Tm.vT v), ?_⟩
        exact (Tm.collect_back _ p t hc fun b hb => by rw [h1.2.1 b hb]; rfl).1
      · rw [if_neg ha] at h; simp at h
    · rw [if_neg hc] at h; simp at h
  · rintro ⟨σ, rfl⟩
    rw [Tm.collect_put]
    have := addAll_fun σ ((Tm.occ p).map fun v => (v, σ v)) [] (by simp) (by simp)
    simp only [if_true, this]

/-- Of what is matched: the binds fill the pattern again, and bind its variables. -/
theorem matchR_back {p t : Tm} (hp : p.fairR = true) (h : (matchR p t).2 = true) : Tm.putB (matchR p t).1 p = t ∧ (matchR p t).1.map (·.1) = Tm.once (Tm.occ p) := by
  have hm : matchR p t = ((addAll [] (Tm.collect p t).1).2, true) ∧ (Tm.collect p t).2 = true ∧ (addAll [] (Tm.collect p t).1).1 = true := by
    unfold matchR at h ⊢
    by_cases hc : (Tm.collect p t).2 = true
    · rw [if_pos hc] at h ⊢
      by_cases ha : (addAll [] (Tm.collect p t).1).1 = true
      · rw [if_pos ha]; exact ⟨rfl, hc, ha⟩
      · rw [if_neg ha] at h; simp at h
    · rw [if_neg hc] at h; simp at h
  obtain ⟨e, hc, ha⟩ := hm
  have h1 := addAll_ok _ _ ha
  have hb := Tm.collect_back (fun v => (findB (addAll [] (Tm.collect p t).1).2 v).getD (Tm.vT v)) p t hc fun b hb => by rw [h1.2.1 b hb]; rfl
  rw [e]
  refine ⟨by rw [Tm.putB_putF _ p hp]; exact hb.1.symm, ?_⟩
  simp only [h1.2.2, hb.2]; rfl
end PSL
