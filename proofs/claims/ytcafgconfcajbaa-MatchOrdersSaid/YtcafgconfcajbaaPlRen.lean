import Derived.Test.YtcafgconfcajbaaPlRef1
namespace PSL
open Go
namespace Tm
mutual
/-- A term's variables, as often as they are met. -/
def occ : Tm → List Int
  | mk k _ n l => if k = 1 then [n] else occL l
def occL : List Tm → List Int
  | [] => []
  | t :: r => occ t ++ occL r
end

theorem occL_mem {l : List Tm} {v : Int} (h : v ∈ occL l) : ∃ t ∈ l, v ∈ occ t := by
  induction l with
  | nil => simp [occL] at h
  | cons x l ih =>
    simp only [occL, List.mem_append] at h
    rcases h with h | h
    · exact ⟨x, by simp, h⟩
    · obtain ⟨t, ht, hv⟩ := ih h; exact ⟨t, by simp [ht], hv⟩

mutual
theorem withV_occ : ∀ (t : Tm) (a : List Int), withV a t = (occ t).foldl addV a
  | mk k s n l, a => by
    simp only [withV, occ]
    split
    · rfl
    · exact withVL_occ l a
theorem withVL_occ : ∀ (l : List Tm) (a : List Int), withVL a l = (occL l).foldl addV a
  | [], a => rfl
  | t :: r, a => by simp only [withVL, occL, List.foldl_append, withV_occ t a, withVL_occ r]
end

mutual
theorem occ_of : ∀ {t : Tm} {d : Int} {e : Int × Tm}, e ∈ els t d → e.2.k = 1 → plain t = true → e.2.n ∈ occ t
  | mk k s n l, d, e, he, hk, hp => by
    simp only [els, List.mem_cons] at he
    simp only [plain, Bool.and_eq_true] at hp
    rcases he with rfl | he
    · have hk : k = 1 := hk
      simp only [occ, if_pos hk]
      show n ∈ [n]; simp
    · have hl := occL_of he hk hp.2
      by_cases h1 : k = 1
      · have : l = [] := by
          have h2 := hp.1
          simp only [h1, beq_self_eq_true, Bool.true_and, Bool.not_not] at h2
          simpa using h2
        subst this
        simp [elsL] at he
      · simp only [occ, if_neg h1]; exact hl
theorem occL_of : ∀ {l : List Tm} {d : Int} {e : Int × Tm}, e ∈ elsL l d → e.2.k = 1 → plainL l = true → e.2.n ∈ occL l
  | [], _, _, he, _, _ => by simp [elsL] at he
  | t :: r, d, e, he, hk, hp => by
    simp only [elsL, List.mem_append] at he
    simp only [plainL, Bool.and_eq_true] at hp
    simp only [occL, List.mem_append]
    rcases he with he | he
    · exact .inl (occ_of he hk hp.1)
    · exact .inr (occL_of he hk hp.2)
end

theorem kindR_var {s : ByteArray} {n : Int} {m : Nat} (h : kindR 1 s n m = true) : 0 ≤ n ∧ n < 1000000 ∧ s = ByteArray.empty ∧ m = 0 := by
  simp only [kindR, if_true, Bool.and_eq_true, decide_eq_true_eq, strEq_iff, beq_iff_eq] at h
  obtain ⟨⟨⟨h1, h2⟩, h3⟩, h4⟩ := h
  exact ⟨h1, h2, h3, by omega⟩

mutual
theorem fair_plain : ∀ (t : Tm), fairR t = true → plain t = true
  | mk k s n l, h => by
    simp only [fairR, Bool.and_eq_true] at h
    simp only [plain, Bool.and_eq_true, fairL_plain l h.1.2, and_true, Bool.not_eq_true', Bool.and_eq_false_iff]
    by_cases hk : k = 1
    · subst hk
      have := (kindR_var h.2).2.2.2
      right; cases l <;> simp at this ⊢
    · left; simpa using hk
theorem fairL_plain : ∀ (l : List Tm), fairRL l = true → plainL l = true
  | [], _ => rfl
  | t :: r, h => by
    simp only [fairRL, Bool.and_eq_true] at h
    simp only [plainL, fair_plain t h.1, fairL_plain r h.2, Bool.and_self]
end

mutual
theorem occ_range : ∀ (t : Tm), fairR t = true → ∀ v ∈ occ t, 0 ≤ v ∧ v < 1000000
  | mk k s n l, h, v, hv => by
    simp only [fairR, Bool.and_eq_true] at h
    simp only [occ] at hv
    split at hv
    · rename_i hk
      subst hk
      simp at hv; subst hv
      have := kindR_var h.2
      exact ⟨this.1, this.2.1⟩
    · exact occL_range l h.1.2 v hv
theorem occL_range : ∀ (l : List Tm), fairRL l = true → ∀ v ∈ occL l, 0 ≤ v ∧ v < 1000000
  | [], _, v, hv => by simp [occL] at hv
  | t :: r, h, v, hv => by
    simp only [fairRL, Bool.and_eq_true] at h
    simp only [occL, List.mem_append] at hv
    exact hv.elim (occ_range t h.1 v) (occL_range r h.2 v)
end

mutual
theorem occ_turn (g : Int → Int) : ∀ (t : Tm), occ (turnT g t) = (occ t).map g
  | mk k s n l => by
    simp only [turnT, occ]
    split
    · rfl
    · exact occL_turn g l
theorem occL_turn (g : Int → Int) : ∀ (l : List Tm), occL (turnTL g l) = (occL l).map g
  | [] => rfl
  | t :: r => by simp only [turnTL, occL, List.map_append, occ_turn g t, occL_turn g r]
end

mutual
theorem turn_congr {g g' : Int → Int} : ∀ (t : Tm), fairR t = true → (∀ v ∈ occ t, g v = g' v) → turnT g t = turnT g' t
  | mk k s n l, h, hv => by
    simp only [fairR, Bool.and_eq_true] at h
    simp only [turnT]
    by_cases hk : k = 1
    · subst hk
      have hl := (kindR_var h.2).2.2.2
      have hl : l = [] := List.length_eq_zero_iff.1 hl
      subst hl
      rw [if_pos rfl, if_pos rfl, hv n (by simp [occ])]
      rfl
    · rw [if_neg hk, if_neg hk, turnL_congr l h.1.2 fun v h' => hv v (by simp only [occ, if_neg hk]; exact h')]
theorem turnL_congr {g g' : Int → Int} : ∀ (l : List Tm), fairRL l = true → (∀ v ∈ occL l, g v = g' v) → turnTL g l = turnTL g' l
  | [], _, _ => rfl
  | t :: r, h, hv => by
    simp only [fairRL, Bool.and_eq_true] at h
    simp only [turnTL]
    rw [turn_congr t h.1 fun v h' => hv v (by simp [occL, h']), turnL_congr r h.2 fun v h' => hv v (by simp [occL, h'])]
end

mutual
theorem turn_comp (g h : Int → Int) : ∀ (t : Tm), turnT h (turnT g t) = turnT (fun n => h (g n)) t
  | mk k s n l => by
    simp only [turnT, turnL_comp g h l]
    by_cases hk : k = 1 <;> simp [hk]
theorem turnL_comp (g h : Int → Int) : ∀ (l : List Tm), turnTL h (turnTL g l) = turnTL (fun n => h (g n)) l
  | [] => rfl
  | t :: r => by simp only [turnTL, turn_comp g h t, turnL_comp g h r]
end

mutual
theorem turn_self : ∀ (t : Tm), turnT (fun n => n) t = t
  | mk k s n l => by simp [turnT, turnL_self l]
theorem turnL_self : ∀ (l : List Tm), turnTL (fun n => n) l = l
  | [] => rfl
  | t :: r => by simp only [turnTL, turn_self t, turnL_self r]
end

mutual
theorem turnR_turnT (g : Int → Int) : ∀ (t : Tm), fairR t = true → turnR g t = turnT g t
  | mk k s n l, h => by
    simp only [fairR, Bool.and_eq_true] at h
    simp only [turnT, turnR]
    by_cases hk : k = 1
    · subst hk
      obtain ⟨_, _, h3, h4⟩ := kindR_var h.2
      have hl : l = [] := List.length_eq_zero_iff.1 h4
      subst hl; subst h3
      rfl
    · rw [if_neg hk, if_neg hk, turnRL_turnTL g l h.1.2]
theorem turnRL_turnTL (g : Int → Int) : ∀ (l : List Tm), fairRL l = true → turnRL g l = turnTL g l
  | [], _ => rfl
  | t :: r, h => by
    simp only [fairRL, Bool.and_eq_true] at h
    simp only [turnTL, turnRL, turnR_turnT g t h.1, turnRL_turnTL g r h.2]
end

theorem turnTL_len (g : Int → Int) (l : List Tm) : (turnTL g l).length = l.length := by rw [turnTL_map]; simp
mutual
theorem size_turn (g : Int → Int) : ∀ (t : Tm), size (turnT g t) = size t
  | mk k s n l => by simp only [turnT, size, sizeL_turn g l]
theorem sizeL_turn (g : Int → Int) : ∀ (l : List Tm), sizeL (turnTL g l) = sizeL l
  | [] => rfl
  | t :: r => by simp only [turnTL, sizeL, size_turn g t, sizeL_turn g r]
end
mutual
theorem depth_turn (g : Int → Int) : ∀ (t : Tm), depth (turnT g t) = depth t
  | mk k s n l => by simp only [turnT, depth, depthL_turn g l]
theorem depthL_turn (g : Int → Int) : ∀ (l : List Tm), depthL (turnTL g l) = depthL l
  | [] => rfl
  | t :: r => by simp only [turnTL, depthL, depth_turn g t, depthL_turn g r]
end

mutual
theorem fair_turn (g : Int → Int) : ∀ (t : Tm), fairR t = true → (∀ v ∈ occ t, 0 ≤ g v ∧ g v < 1000000) → fairR (turnT g t) = true
  | mk k s n l, h, hv => by
    simp only [fairR, Bool.and_eq_true] at h
    simp only [turnT, fairR, Bool.and_eq_true, turnTL_len]
    by_cases hk : k = 1
    · subst hk
      obtain ⟨_, _, h3, h4⟩ := kindR_var h.2
      have hl : l = [] := List.length_eq_zero_iff.1 h4
      subst hl; subst h3
      obtain ⟨h5, h6⟩ := hv n (by simp [occ])
      refine ⟨⟨h.1.1, rfl⟩, ?_⟩
      simp only [kindR, if_true, Bool.and_eq_true, decide_eq_true_eq]
      exact ⟨⟨⟨h5, h6⟩, strEq_iff.2 rfl⟩, by rfl⟩
    · rw [if_neg hk]
      exact ⟨⟨h.1.1, fairL_turn g l h.1.2 fun v h' => hv v (by simp only [occ, if_neg hk]; exact h')⟩, h.2⟩
theorem fairL_turn (g : Int → Int) : ∀ (l : List Tm), fairRL l = true → (∀ v ∈ occL l, 0 ≤ g v ∧ g v < 1000000) → fairRL (turnTL g l) = true
  | [], _, _ => rfl
  | t :: r, h, hv => by
    simp only [fairRL, Bool.and_eq_true] at h
    simp only [turnTL, fairRL, Bool.and_eq_true]
    exact ⟨fair_turn g t h.1 fun v h' => hv v (by simp [occL, h']), fairL_turn g r h.2 fun v h' => hv v (by simp [occL, h'])⟩
end

theorem rightB_iff {t : Tm} : rightB t = true ↔ fairR t = true ∧ t.size ≤ 3000 ∧ t.depth ≤ 100 := by
  simp only [rightB, Bool.and_eq_true, decide_eq_true_eq, and_assoc]
theorem right_turn {g : Int → Int} {t : Tm} (h : rightB t = true) (hv : ∀ v ∈ occ t, 0 ≤ g v ∧ g v < 1000000) : rightB (turnT g t) = true := by
  rw [rightB_iff] at h ⊢
  exact ⟨fair_turn g t h.1 hv, by rw [size_turn]; exact h.2.1, by rw [depth_turn]; exact h.2.2⟩

/-- Each once. -/
def once (l : List Int) : List Int := l.foldl addV []

theorem mem_addV {a : List Int} {x v : Int} : v ∈ addV a x ↔ v ∈ a ∨ v = x := by
  unfold addV
  split
  · rename_i h
    have : x ∈ a := by simpa using h
    constructor
    · exact .inl
    · rintro (h | rfl)
      · exact h
      · exact this
  · simp
theorem mem_foldl {l : List Int} : ∀ {a : List Int} {v : Int}, v ∈ l.foldl addV a ↔ v ∈ a ∨ v ∈ l := by
  induction l with
  | nil => simp
  | cons x l ih => intro a v; simp only [List.foldl_cons, ih, mem_addV, List.mem_cons, or_assoc]
theorem mem_once {l : List Int} {v : Int} : v ∈ once l ↔ v ∈ l := by simp [once, mem_foldl]

theorem foldl_map {g : Int → Int} : ∀ (l a : List Int), (∀ x ∈ a ++ l, ∀ y ∈ a ++ l, g x = g y → x = y) → (l.map g).foldl addV (a.map g) = (l.foldl addV a).map g
  | [], a, _ => rfl
  | x :: l, a, hg => by
    have h1 : addV (a.map g) (g x) = (addV a x).map g := by
      unfold addV
      have : (a.map g).contains (g x) = a.contains x := by
        rw [Bool.eq_iff_iff]
        simp only [List.contains_iff_mem, List.mem_map]
        constructor
        · rintro ⟨y, hy, he⟩
          have := hg y (by simp [hy]) x (by simp) he
          rw [← this]; exact hy
        · intro h; exact ⟨x, h, rfl⟩
      rw [this]
      split <;> simp
    simp only [List.map_cons, List.foldl_cons, h1]
    refine foldl_map l (addV a x) fun y hy z hz => hg y ?_ z ?_
    · simp only [List.mem_append, mem_addV] at hy
      simp only [List.mem_append, List.mem_cons]
      rcases hy with (h | h) | h
      · exact .inl h
      · exact .inr (.inl h)
      · exact .inr (.inr h)
    · simp only [List.mem_append, mem_addV] at hz
      simp only [List.mem_append, List.mem_cons]
      rcases hz with (h | h) | h
      · exact .inl h
      · exact .inr (.inl h)
      · exact .inr (.inr h)

theorem once_map {g : Int → Int} {l : List Int} (hg : ∀ x ∈ l, ∀ y ∈ l, g x = g y → x = y) : once (l.map g) = (once l).map g := by
  have := foldl_map (g := g) l [] (by simpa using hg)
  simpa [once] using this
end Tm

theorem varsT_once {l : List Tm} (h : Tm.fairRL l = true) : varsT l = Tm.once (Tm.occL l) := by
  rw [varsT_with l (Tm.fairL_plain l h), Tm.withVL_occ]; rfl

def placeG (l : List Int) (n : Int) : Int := if atI l n 0 < 0 then 0 else atI l n 0

theorem atI_ge : ∀ (l : List Int) (n i : Int), 0 ≤ i → atI l n i = -1 ∨ i ≤ atI l n i
  | [], n, i, h => .inl rfl
  | x :: l, n, i, h => by
    simp only [atI]
    split
    · exact .inr (Int.le_refl _)
    · rcases atI_ge l n (i + 1) (by omega) with h1 | h1
      · exact .inl h1
      · exact .inr (by omega)

theorem atI_mem : ∀ {l : List Int} {n : Int} (i : Int), n ∈ l → i ≤ atI l n i ∧ atI l n i < i + l.length
  | x :: l, n, i, h => by
    simp only [atI, List.length_cons]
    split
    · omega
    · rename_i hx
      have := atI_mem (l := l) (n := n) (i + 1) ((List.mem_cons.1 h).resolve_left fun e => hx e.symm)
      omega

theorem atI_not_mem : ∀ {l : List Int} {n i : Int}, n ∉ l → atI l n i = -1
  | [], _, _, _ => rfl
  | x :: l, n, i, h => by
    simp only [List.mem_cons, not_or] at h
    simp only [atI]
    rw [if_neg (fun e => h.1 e.symm)]
    exact atI_not_mem h.2

theorem atI_map {g : Int → Int} {n : Int} : ∀ (l : List Int) (i : Int), (∀ x ∈ l, g x = g n → x = n) → atI (l.map g) (g n) i = atI l n i
  | [], i, _ => rfl
  | x :: l, i, h => by
    simp only [List.map_cons, atI]
    by_cases hx : x = n
    · simp [hx]
    · have : ¬ g x = g n := fun e => hx (h x (by simp) e)
      rw [if_neg hx, if_neg this, atI_map l (i + 1) fun y hy => h y (by simp [hy])]

theorem placeG_mem {l : List Int} {n : Int} (h : n ∈ l) : placeG l n = atI l n 0 ∧ 0 ≤ placeG l n ∧ placeG l n < l.length := by
  have := atI_mem 0 h
  unfold placeG
  rw [if_neg (by omega)]
  exact ⟨rfl, this.1, by omega⟩

theorem placeG_map {g : Int → Int} {l : List Int} {n : Int} (h : ∀ x ∈ l, g x = g n → x = n) : placeG (l.map g) (g n) = placeG l n := by
  unfold placeG; rw [atI_map l 0 h]

theorem atI_inj : ∀ {l : List Int} {n m i : Int}, n ∈ l → m ∈ l → atI l n i = atI l m i → n = m
  | x :: l, n, m, i, hn, hm, h => by
    simp only [atI] at h
    by_cases h1 : x = n <;> by_cases h2 : x = m
    · rw [← h1, h2]
    · rw [if_pos h1, if_neg h2] at h
      have := atI_mem (l := l) (n := m) (i + 1) ((List.mem_cons.1 hm).resolve_left fun e => h2 e.symm)
      omega
    · rw [if_neg h1, if_pos h2] at h
      have := atI_mem (l := l) (n := n) (i + 1) ((List.mem_cons.1 hn).resolve_left fun e => h1 e.symm)
      omega
    · rw [if_neg h1, if_neg h2] at h
      exact atI_inj ((List.mem_cons.1 hn).resolve_left fun e => h1 e.symm) ((List.mem_cons.1 hm).resolve_left fun e => h2 e.symm) h

theorem placeG_inj {l : List Int} {n m : Int} (hn : n ∈ l) (hm : m ∈ l) (h : placeG l n = placeG l m) : n = m := by
  rw [(placeG_mem hn).1, (placeG_mem hm).1] at h
  exact atI_inj hn hm h
end PSL
