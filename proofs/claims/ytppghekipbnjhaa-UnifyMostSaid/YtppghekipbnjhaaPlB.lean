import Derived.Test.YtppghekipbnjhaaPlA
import Derived.Test.YtppghekipbnjhaaPslD
namespace PSL
open Go
namespace Tm
mutual
/-- A term's variables, as often as they are met. -/
def occ : Tm → List Int
  | mk k _ n l => if k = 1 then [n] else occL l
def occL : List Tm → List Int
  | [] => []
  | t :: r => occ t ++ occL r
end

theorem occL_mem {l : List Tm} {v : Int} (h : v ∈ occL l) : ∃ t ∈ l, v ∈ occ t := by
  induction l with
  | nil => simp [occL] at h
  | cons x l ih =>
    simp only [occL, List.mem_append] at h
    rcases h with h | h
    · exact ⟨x, by simp, h⟩
    · obtain ⟨t, ht, hv⟩ := ih h; exact ⟨t, by simp [ht], hv⟩

mutual
theorem withV_occ : ∀ (t : Tm) (a : List Int), withV a t = (occ t).foldl addV a
  | mk k s n l, a => by
    simp only [withV, occ]
    split
    · rfl
    · exact withVL_occ l a
theorem withVL_occ : ∀ (l : List Tm) (a : List Int), withVL a l = (occL l).foldl addV a
  | [], a => rfl
  | t :: r, a => by simp only [withVL, occL, List.foldl_append, withV_occ t a, withVL_occ r]
end

mutual
theorem occ_of : ∀ {t : Tm} {d : Int} {e : Int × Tm}, e ∈ els t d → e.2.k = 1 → plain t = true → e.2.n ∈ occ t
  | mk k s n l, d, e, he, hk, hp => by
    simp only [els, List.mem_cons] at he
    simp only [plain, Bool.and_eq_true] at hp
    rcases he with rfl | he
    · have hk : k = 1 := hk
      simp only [occ, if_pos hk]
      show n ∈ [n]; simp
    · have hl := occL_of he hk hp.2
      by_cases h1 : k = 1
      · have : l = [] := by
          have h2 := hp.1
          simp only [h1, beq_self_eq_true, Bool.true_and, Bool.not_not] at h2
          simpa using h2
        subst this
        simp [elsL] at he
      · simp only [occ, if_neg h1]; exact hl
theorem occL_of : ∀ {l : List Tm} {d : Int} {e : Int × Tm}, e ∈ elsL l d → e.2.k = 1 → plainL l = true → e.2.n ∈ occL l
  | [], _, _, he, _, _ => by simp [elsL] at he
  | t :: r, d, e, he, hk, hp => by
    simp only [elsL, List.mem_append] at he
    simp only [plainL, Bool.and_eq_true] at hp
    simp only [occL, List.mem_append]
    rcases he with he | he
    · exact .inl (occ_of he hk hp.1)
    · exact .inr (occL_of he hk hp.2)
end

theorem kindR_var {s : ByteArray} {n : Int} {m : Nat} (h : kindR 1 s n m = true) : 0 ≤ n ∧ n < 1000000 ∧ s = ByteArray.empty ∧ m = 0 := by
  simp only [kindR, if_true, Bool.and_eq_true, decide_eq_true_eq, strEq_iff, beq_iff_eq] at h
  obtain ⟨⟨⟨h1, h2⟩, h3⟩, h4⟩ := h
  exact ⟨h1, h2, h3, by omega⟩

mutual
theorem fair_plain : ∀ (t : Tm), fairR t = true → plain t = true
  | mk k s n l, h => by
    simp only [fairR, Bool.and_eq_true] at h
    simp only [plain, Bool.and_eq_true, fairL_plain l h.1.2, and_true, Bool.not_eq_true', Bool.and_eq_false_iff]
    by_cases hk : k = 1
    · subst hk
      have := (kindR_var h.2).2.2.2
      right; cases l <;> simp at this ⊢
    · left; simpa using hk
theorem fairL_plain : ∀ (l : List Tm), fairRL l = true → plainL l = true
  | [], _ => rfl
  | t :: r, h => by
    simp only [fairRL, Bool.and_eq_true] at h
    simp only [plainL, fair_plain t h.1, fairL_plain r h.2, Bool.and_self]
end

mutual
theorem occ_range : ∀ (t : Tm), fairR t = true → ∀ v ∈ occ t, 0 ≤ v ∧ v < 1000000
  | mk k s n l, h, v, hv => by
    simp only [fairR, Bool.and_eq_true] at h
    simp only [occ] at hv
    split at hv
    · rename_i hk
      subst hk
      simp at hv; subst hv
      have := kindR_var h.2
      exact ⟨this.1, this.2.1⟩
    · exact occL_range l h.1.2 v hv
theorem occL_range : ∀ (l : List Tm), fairRL l = true → ∀ v ∈ occL l, 0 ≤ v ∧ v < 1000000
  | [], _, v, hv => by simp [occL] at hv
  | t :: r, h, v, hv => by
    simp only [fairRL, Bool.and_eq_true] at h
    simp only [occL, List.mem_append] at hv
    exact hv.elim (occ_range t h.1 v) (occL_range r h.2 v)
end

mutual
theorem occ_turn (g : Int → Int) : ∀ (t : Tm), occ (turnT g t) = (occ t).map g
  | mk k s n l => by
    simp only [turnT, occ]
    split
    · rfl
    · exact occL_turn g l
theorem occL_turn (g : Int → Int) : ∀ (l : List Tm), occL (turnTL g l) = (occL l).map g
  | [] => rfl
  | t :: r => by simp only [turnTL, occL, List.map_append, occ_turn g t, occL_turn g r]
end

mutual
theorem turn_congr {g g' : Int → Int} : ∀ (t : Tm), fairR t = true → (∀ v ∈ occ t, g v = g' v) → turnT g t = turnT g' t
  | mk k s n l, h, hv => by
    simp only [fairR, Bool.and_eq_true] at h
    simp only [turnT]
    by_cases hk : k = 1
    · subst hk
      have hl := (kindR_var h.2).2.2.2
      have hl : l = [] := List.length_eq_zero_iff.1 hl
      subst hl
      rw [if_pos rfl, if_pos rfl, hv n (by simp [occ])]
      rfl
    · rw [if_neg hk, if_neg hk, turnL_congr l h.1.2 fun v h' => hv v (by simp only [occ, if_neg hk]; exact h')]
theorem turnL_congr {g g' : Int → Int} : ∀ (l : List Tm), fairRL l = true → (∀ v ∈ occL l, g v = g' v) → turnTL g l = turnTL g' l
  | [], _, _ => rfl
  | t :: r, h, hv => by
    simp only [fairRL, Bool.and_eq_true] at h
    simp only [turnTL]
    rw [turn_congr t h.1 fun v h' => hv v (by simp [occL, h']), turnL_congr r h.2 fun v h' => hv v (by simp [occL, h'])]
end

mutual
theorem turn_comp (g h : Int → Int) : ∀ (t : Tm), turnT h (turnT g t) = turnT (fun n => h (g n)) t
  | mk k s n l => by
    simp only [turnT, turnL_comp g h l]
    by_cases hk : k = 1 <;> simp [hk]
theorem turnL_comp (g h : Int → Int) : ∀ (l : List Tm), turnTL h (turnTL g l) = turnTL (fun n => h (g n)) l
  | [] => rfl
  | t :: r => by simp only [turnTL, turn_comp g h t, turnL_comp g h r]
end

mutual
theorem turn_self : ∀ (t : Tm), turnT (fun n => n) t = t
  | mk k s n l => by simp [turnT, turnL_self l]
theorem turnL_self : ∀ (l : List Tm), turnTL (fun n => n) l = l
  | [] => rfl
  | t :: r => by simp only [turnTL, turn_self t, turnL_self r]
end

mutual
theorem turnR_turnT (g : Int → Int) : ∀ (t : Tm), fairR t = true → turnR g t = turnT g t
  | mk k s n l, h => by
    simp only [fairR, Bool.and_eq_true] at h
    simp only [turnT, turnR]
    by_cases hk : k = 1
    · subst hk
      obtain ⟨_, _, h3, h4⟩ := kindR_var h.2
      have hl : l = [] := List.length_eq_zero_iff.1 h4
      subst hl; subst h3
      rfl
    · rw [if_neg hk, if_neg hk, turnRL_turnTL g l h.1.2]
theorem turnRL_turnTL (g : Int → Int) : ∀ (l : List Tm), fairRL l = true → turnRL g l = turnTL g l
  | [], _ => rfl
  | t :: r, h => by
    simp only [fairRL, Bool.and_eq_true] at h
    simp only [turnTL, turnRL, turnR_turnT g t h.1, turnRL_turnTL g r h.2]
end

theorem turnTL_len (g : Int → Int) (l : List Tm) : (turnTL g l).length = l.length := by rw [turnTL_map]; simp
mutual
theorem size_turn (g : Int → Int) : ∀ (t : Tm), size (turnT g t) = size t
  | mk k s n l => by simp only [turnT, size, sizeL_turn g l]
theorem sizeL_turn (g : Int → Int) : ∀ (l : List Tm), sizeL (turnTL g l) = sizeL l
  | [] => rfl
  | t :: r => by simp only [turnTL, sizeL, size_turn g t, sizeL_turn g r]
end
mutual
theorem depth_turn (g : Int → Int) : ∀ (t : Tm), depth (turnT g t) = depth t
  | mk k s n l => by simp only [turnT, depth, depthL_turn g l]
theorem depthL_turn (g : Int → Int) : ∀ (l : List Tm), depthL (turnTL g l) = depthL l
  | [] => rfl
  | t :: r => by simp only [turnTL, depthL, depth_turn g t, depthL_turn g r]
end

mutual
theorem fair_turn (g : Int → Int) : ∀ (t : Tm), fairR t = true → (∀ v ∈ occ t, 0 ≤ g v ∧ g v < 1000000) → fairR (turnT g t) = true
  | mk k s n l, h, hv => by
    simp only [fairR, Bool.and_eq_true] at h
    simp only [turnT, fairR, Bool.and_eq_true, turnTL_len]
    by_cases hk : k = 1
    · subst hk
      obtain ⟨_, _, h3, h4⟩ := kindR_var h.2
      have hl : l = [] := List.length_eq_zero_iff.1 h4
      subst hl; subst h3
      obtain ⟨h5, h6⟩ := hv n (by simp [occ])
      refine ⟨⟨h.1.1, rfl⟩, ?_⟩
      simp only [kindR, if_true, Bool.and_eq_true, decide_eq_true_eq]
      exact ⟨⟨⟨h5, h6⟩, strEq_iff.2 rfl⟩, by rfl⟩
    · rw [if_neg hk]
      exact ⟨⟨h.1.1, fairL_turn g l h.1.2 fun v h' => hv v (by simp only [occ, if_neg hk]; exact h')⟩, h.2⟩
theorem fairL_turn (g : Int → Int) : ∀ (l : List Tm), fairRL l = true → (∀ v ∈ occL l, 0 ≤ g v ∧ g v < 1000000) → fairRL (turnTL g l) = true
  | [], _, _ => rfl
  | t :: r, h, hv => by
    simp only [fairRL, Bool.and_eq_true] at h
    simp only [turnTL, fairRL, Bool.and_eq_true]
    exact ⟨fair_turn g t h.1 fun v h' => hv v (by simp [occL, h']), fairL_turn g r h.2 fun v h' => hv v (by simp [occL, h'])⟩
end

theorem rightB_iff {t : Tm} : rightB t = true ↔ fairR t = true ∧ t.size ≤ 3000 ∧ t.depth ≤ 100 := by
  simp only [rightB, Bool.and_eq_true, decide_eq_true_eq, and_assoc]
theorem right_turn {g : Int → Int} {t : Tm} (h : rightB t = true) (hv : ∀ v ∈ occ t, 0 ≤ g v ∧ g v < 1000000) : rightB (turnT g t) = true := by
  rw [rightB_iff] at h ⊢
  exact ⟨fair_turn g t h.1 hv, by rw [size_turn]; exact h.2.1, by rw [depth_turn]; exact h.2.2⟩

/-- Each once. -/
def once (l : List Int) : List Int := l.foldl addV []

theorem mem_addV {a : List Int} {x v : Int} : v ∈ addV a x ↔ v ∈ a ∨ v = x := by
  unfold addV
  split
  · rename_i h
    have : x ∈ a := by simpa using h
    constructor
    · exact .inl
    · rintro (h | rfl)
      · exact h
      · exact this
  · simp
theorem mem_foldl {l : List Int} : ∀ {a : List Int} {v : Int}, v ∈ l.foldl addV a ↔ v ∈ a ∨ v ∈ l := by
  induction l with
  | nil => simp
  | cons x l ih => intro a v; simp only [List.foldl_cons, ih, mem_addV, List.mem_cons, or_assoc]
theorem mem_once {l : List Int} {v : Int} : v ∈ once l ↔ v ∈ l := by simp [once, mem_foldl]

theorem foldl_map {g : Int → Int} : ∀ (l a : List Int), (∀ x ∈ a ++ l, ∀ y ∈ a ++ l, g x = g y → x = y) → (l.map g).foldl addV (a.map g) = (l.foldl addV a).map g
  | [], a, _ => rfl
  | x :: l, a, hg => by
    have h1 : addV (a.map g) (g x) = (addV a x).map g := by
      unfold addV
      have : (a.map g).contains (g x) = a.contains x := by
        rw [Bool.eq_iff_iff]
        simp only [List.contains_iff_mem, List.mem_map]
        constructor
        · rintro ⟨y, hy, he⟩
          have := hg y (by simp [hy]) x (by simp) he
          rw [← this]; exact hy
        · intro h; exact ⟨x, h, rfl⟩
      rw [this]
      split <;> simp
    simp only [List.map_cons, List.foldl_cons, h1]
    refine foldl_map l (addV a x) fun y hy z hz => hg y ?_ z ?_
    · simp only [List.mem_append, mem_addV] at hy
      simp only [List.mem_append, List.mem_cons]
      rcases hy with (h | h) | h
      · exact .inl h
      · exact .inr (.inl h)
      · exact .inr (.inr h)
    · simp only [List.mem_append, mem_addV] at hz
      simp only [List.mem_append, List.mem_cons]
      rcases hz with (h | h) | h
      · exact .inl h
      · exact .inr (.inl h)
      · exact .inr (.inr h)

theorem once_map {g : Int → Int} {l : List Int} (hg : ∀ x ∈ l, ∀ y ∈ l, g x = g y → x = y) : once (l.map g) = (once l).map g := by
  have := foldl_map (g := g) l [] (by simpa using hg)
  simpa [once] using this
end Tm

theorem varsT_once {l : List Tm} (h : Tm.fairRL l = true) : varsT l = Tm.once (Tm.occL l) := by
  rw [varsT_with l (Tm.fairL_plain l h), Tm.withVL_occ]; rfl

def placeG (l : List Int) (n : Int) : Int := if atI l n 0 < 0 then 0 else atI l n 0

theorem atI_ge : ∀ (l : List Int) (n i : Int), 0 ≤ i → atI l n i = -1 ∨ i ≤ atI l n i
  | [], n, i, h => .inl rfl
  | x :: l, n, i, h => by
    simp only [atI]
    split
    · exact .inr (Int.le_refl _)
    · rcases atI_ge l n (i + 1) (by omega) with h1 | h1
      · exact .inl h1
      · exact .inr (by omega)

theorem atI_mem : ∀ {l : List Int} {n : Int} (i : Int), n ∈ l → i ≤ atI l n i ∧ atI l n i < i + l.length
  | x :: l, n, i, h => by
    simp only [atI, List.length_cons]
    split
    · omega
    · rename_i hx
      have := atI_mem (l := l) (n := n) (i + 1) ((List.mem_cons.1 h).resolve_left fun e => hx e.symm)
      omega

theorem atI_not_mem : ∀ {l : List Int} {n i : Int}, n ∉ l → atI l n i = -1
  | [], _, _, _ => rfl
  | x :: l, n, i, h => by
    simp only [List.mem_cons, not_or] at h
    simp only [atI]
    rw [if_neg (fun e => h.1 e.symm)]
    exact atI_not_mem h.2

theorem atI_map {g : Int → Int} {n : Int} : ∀ (l : List Int) (i : Int), (∀ x ∈ l, g x = g n → x = n) → atI (l.map g) (g n) i = atI l n i
  | [], i, _ => rfl
  | x :: l, i, h => by
    simp only [List.map_cons, atI]
    by_cases hx : x = n
    · simp [hx]
    · have : ¬ g x = g n := fun e => hx (h x (by simp) e)
      rw [if_neg hx, if_neg this, atI_map l (i + 1) fun y hy => h y (by simp [hy])]

theorem placeG_mem {l : List Int} {n : Int} (h : n ∈ l) : placeG l n = atI l n 0 ∧ 0 ≤ placeG l n ∧ placeG l n < l.length := by
  have := atI_mem 0 h
  unfold placeG
  rw [if_neg (by omega)]
  exact ⟨rfl, this.1, by omega⟩

theorem placeG_map {g : Int → Int} {l : List Int} {n : Int} (h : ∀ x ∈ l, g x = g n → x = n) : placeG (l.map g) (g n) = placeG l n := by
  unfold placeG; rw [atI_map l 0 h]

theorem atI_inj : ∀ {l : List Int} {n m i : Int}, n ∈ l → m ∈ l → atI l n i = atI l m i → n = m
  | x :: l, n, m, i, hn, hm, h => by
    simp only [atI] at h
    by_cases h1 : x = n <;> by_cases h2 : x = m
    · rw [← h1, h2]
    · rw [if_pos h1, if_neg h2] at h
      have := atI_mem (l := l) (n := m) (i + 1) ((List.mem_cons.1 hm).resolve_left fun e => h2 e.symm)
      omega
    · rw [if_neg h1, if_pos h2] at h
      have := atI_mem (l := l) (n := n) (i + 1) ((List.mem_cons.1 hn).resolve_left fun e => h1 e.symm)
      omega
    · rw [if_neg h1, if_neg h2] at h
      exact atI_inj ((List.mem_cons.1 hn).resolve_left fun e => h1 e.symm) ((List.mem_cons.1 hm).resolve_left fun e => h2 e.symm) h

theorem placeG_inj {l : List Int} {n m : Int} (hn : n ∈ l) (hm : m ∈ l) (h : placeG l n = placeG l m) : n = m := by
  rw [(placeG_mem hn).1, (placeG_mem hm).1] at h
  exact atI_inj hn hm h
end PSL

namespace PSL
open Go

theorem fair_names {t : Tm} (h : t.fairR = true) : ∀ d e, e ∈ t.els d → e.2.s.size < 1000000000 := fun d e he => by
  have h1 := (Tm.fair_els t d).2 h e he
  rw [Tm.ownT_eq] at h1
  simp only [Bool.and_eq_true, Tm.kindR] at h1
  have h2 := h1.2
  split at h2
  · simp only [Bool.and_eq_true, Tm.strEq_iff] at h2
    rw [h2.1.2]; decide
  · split at h2
    · simp only [Bool.and_eq_true, Tm.strEq_iff] at h2
      rw [h2.1]; decide
    · simp only [Bool.and_eq_true, decide_eq_true_eq] at h2
      have := h2.1.2; omega

theorem right_small {t : Tm} (h : t.rightB = true) : t.size < 1000000000 := by have := (Tm.rightB_iff.1 h).2.1; omega
theorem right_fair {t : Tm} (h : t.rightB = true) : t.fairR = true := (Tm.rightB_iff.1 h).1

def zeroT : Tm := .mk 0 ByteArray.empty 0 []
def bigV (by_ : Int) (n : Int) : Bool := decide (by_ ≥ IntKind.i64.wrap (1000000 - n))
def shiftT (t : Tm) (by_ : Int) : Tm × Int :=
  if rightT t then (if by_ < 0 then (zeroT, 3) else if (varsT [t]).any (bigV by_) then (zeroT, 3) else (Tm.turnT (fun n => IntKind.i64.wrap (n + by_)) t, 0)) else (zeroT, 1)
def numberT (l : List Tm) : List Tm × Int × Int :=
  if l.all rightT then (Tm.turnTL (placeG (varsT l)) l, (varsT l).length, 0) else ([], 0, 1)

def smallV (by_ : Int) (v : Int) : Bool := decide (IntKind.i64.wrap (v + by_) < 1000000)
def okF (V : List Int) (by_ : Int) : Bool := (decide (by_ ≥ 0) && decide (by_ ≤ 1000000) && V.all (smallV by_)) || (decide (by_ > 1000000) && V.isEmpty)

theorem one_fair {t : Tm} (h : t.fairR = true) : Tm.fairRL [t] = true := by simp [Tm.fairRL, h]

theorem varsT_mem {l : List Tm} (h : Tm.fairRL l = true) {v : Int} : v ∈ varsT l ↔ v ∈ Tm.occL l := by rw [varsT_once h, Tm.mem_once]
theorem varsT_range {l : List Tm} (h : Tm.fairRL l = true) {v : Int} (hv : v ∈ varsT l) : 0 ≤ v ∧ v < 1000000 := Tm.occL_range l h v ((varsT_mem h).1 hv)

theorem shift_bad {t : Tm} {by_ : Int} (hb : I64 by_) (h : t.rightB = true) (ho : okF (varsT [t]) by_ = false) : shiftT t by_ = (zeroT, 3) := by
  have hr : rightT t = true := by rw [rightT_eq]; exact h
  have hf := one_fair (right_fair h)
  unfold shiftT
  rw [if_pos hr]
  split
  · rfl
  · rename_i h0
    have : (varsT [t]).any (bigV by_) = true := by
      simp only [okF, Bool.or_eq_false_iff, Bool.and_eq_false_iff, decide_eq_false_iff_not, List.all_eq_false, List.isEmpty_eq_false_iff] at ho
      rw [List.any_eq_true]
      obtain ⟨h1, h2⟩ := ho
      rcases h1 with (h1 | h1) | ⟨v, hv, h1⟩
      · omega
      · rcases h2 with h2 | h2
        · omega
        · obtain ⟨v, hv⟩ := List.exists_mem_of_ne_nil _ h2
          have := varsT_range hf hv
          refine ⟨v, hv, ?_⟩
          simp only [bigV, decide_eq_true_eq]
          rw [w64 (by omega) (by omega)]; omega
      · have := varsT_range hf hv
        refine ⟨v, hv, ?_⟩
        simp only [bigV, decide_eq_true_eq]
        rw [w64 (by omega) (by omega)]
        simp only [smallV, decide_eq_true_eq] at h1
        by_cases h5 : by_ < 1000000
        · rw [w64 (by omega) (by omega)] at h1; omega
        · omega
    rw [if_pos this]

theorem shift_good {t : Tm} {by_ : Int} (h : t.rightB = true) (ho : okF (varsT [t]) by_ = true) : shiftT t by_ = (Tm.turnT (fun n => IntKind.i64.wrap (n + by_)) t, 0) ∧ 0 ≤ by_ ∧ (varsT [t] ≠ [] → by_ ≤ 1000000) ∧ ∀ v ∈ varsT [t], 0 ≤ v ∧ v + by_ < 1000000 ∧ IntKind.i64.wrap (v + by_) = v + by_ := by
  have hr : rightT t = true := by rw [rightT_eq]; exact h
  have hf := one_fair (right_fair h)
  have key : 0 ≤ by_ ∧ (varsT [t] ≠ [] → by_ ≤ 1000000) ∧ ∀ v ∈ varsT [t], 0 ≤ v ∧ v + by_ < 1000000 ∧ IntKind.i64.wrap (v + by_) = v + by_ := by
    simp only [okF, Bool.or_eq_true, Bool.and_eq_true, decide_eq_true_eq, List.all_eq_true, List.isEmpty_iff] at ho
    rcases ho with ⟨⟨h1, h2⟩, h3⟩ | ⟨h1, h2⟩
    · refine ⟨h1, fun _ => h2, fun v hv => ?_⟩
      have h4 := varsT_range hf hv
      have h5 := h3 v hv
      simp only [smallV, decide_eq_true_eq] at h5
      have hw : IntKind.i64.wrap (v + by_) = v + by_ := w64 (by omega) (by omega)
      rw [hw] at h5
      exact ⟨h4.1, h5, hw⟩
    · exact ⟨by omega, fun h => absurd h2 h, fun v hv => by rw [h2] at hv; simp at hv⟩
  refine ⟨?_, key⟩
  unfold shiftT
  rw [if_pos hr, if_neg (by omega)]
  have : ¬ (varsT [t]).any (bigV by_) = true := by
    rw [List.any_eq_true]
    rintro ⟨v, hv, hb⟩
    obtain ⟨h1, h2, _⟩ := key.2.2 v hv
    simp only [bigV, decide_eq_true_eq] at hb
    rw [w64 (by omega) (by omega)] at hb
    omega
  rw [if_neg this]

theorem shift_none {t : Tm} {by_ : Int} (h : t.rightB = false) : shiftT t by_ = (zeroT, 1) := by
  unfold shiftT
  rw [if_neg (by rw [rightT_eq, h]; simp)]

theorem once_nil {l : List Int} (h : Tm.once l = []) : l = [] := by
  cases l with
  | nil => rfl
  | cons x l => have : x ∈ Tm.once (x :: l) := Tm.mem_once.2 (by simp); rw [h] at this; simp at this

/-- Variables of a term with others. -/
theorem varsT_turn {l : List Tm} {g : Int → Int} (h : Tm.fairRL l = true) (hg : ∀ v ∈ Tm.occL l, 0 ≤ g v ∧ g v < 1000000) (hi : ∀ x ∈ Tm.occL l, ∀ y ∈ Tm.occL l, g x = g y → x = y) : varsT (Tm.turnTL g l) = (varsT l).map g := by
  rw [varsT_once (Tm.fairL_turn g l h hg), varsT_once h, Tm.occL_turn, Tm.once_map hi]

theorem shift_twice {t : Tm} {by_ m : Int} (h : t.rightB = true) (ho : okF (varsT [t]) by_ = true) (hm : 0 ≤ m ∧ m ≤ 65535) (hne : varsT [t] ≠ []) :
    shiftT (Tm.turnT (fun n => IntKind.i64.wrap (n + by_)) t) m = shiftT t (IntKind.i64.wrap (by_ + m)) := by
  obtain ⟨_, h0, h1, h2⟩ := shift_good h ho
  have h1 := h1 hne
  have hf := one_fair (right_fair h)
  have hocc : ∀ v ∈ Tm.occL [t], 0 ≤ v ∧ v + by_ < 1000000 ∧ IntKind.i64.wrap (v + by_) = v + by_ := fun v hv => h2 v ((varsT_mem hf).2 hv)
  have hR : (Tm.turnT (fun n => IntKind.i64.wrap (n + by_)) t).rightB = true := Tm.right_turn h fun v hv => by
    obtain ⟨h3, h4, h5⟩ := hocc v (by simpa [Tm.occL] using hv)
    rw [h5]; omega
  have hw : IntKind.i64.wrap (by_ + m) = by_ + m := w64 (by omega) (by omega)
  have hV : varsT [Tm.turnT (fun n => IntKind.i64.wrap (n + by_)) t] = (varsT [t]).map (fun n => IntKind.i64.wrap (n + by_)) := by
    have := varsT_turn (l := [t]) (g := fun n => IntKind.i64.wrap (n + by_)) hf (fun v hv => by
      obtain ⟨h3, h4, h5⟩ := hocc v hv
      simp only [h5]; omega) (fun x hx y hy he => by
      simp only [(hocc x hx).2.2, (hocc y hy).2.2] at he; omega)
    simpa [Tm.turnTL] using this
  have hr : rightT t = true := by rw [rightT_eq]; exact h
  have hr2 : rightT (Tm.turnT (fun n => IntKind.i64.wrap (n + by_)) t) = true := by rw [rightT_eq]; exact hR
  unfold shiftT
  rw [if_pos hr, if_pos hr2, hw, if_neg (show ¬ m < 0 by omega), if_neg (show ¬ by_ + m < 0 by omega), hV]
  have hany : ((varsT [t]).map fun n => IntKind.i64.wrap (n + by_)).any (bigV m) = (varsT [t]).any (bigV (by_ + m)) := by
    rw [List.any_map, Bool.eq_iff_iff, List.any_eq_true, List.any_eq_true]
    have : ∀ v ∈ varsT [t], (bigV m ∘ fun n => IntKind.i64.wrap (n + by_)) v = bigV (by_ + m) v := fun v hv => by
      obtain ⟨h3, h4, h5⟩ := h2 v hv
      simp only [Function.comp, h5, bigV]
      rw [w64 (by omega) (by omega), w64 (by omega) (by omega)]
      apply decide_eq_decide.2; omega
    constructor
    · rintro ⟨v, hv, he⟩; exact ⟨v, hv, by rw [← this v hv]; exact he⟩
    · rintro ⟨v, hv, he⟩; exact ⟨v, hv, by rw [this v hv]; exact he⟩
  rw [hany]
  split
  · rfl
  · rename_i hn
    rw [Tm.turn_comp]
    congr 1
    refine Tm.turn_congr t (right_fair h) fun v hv => ?_
    have hv' : v ∈ varsT [t] := (varsT_mem hf).2 (by simpa [Tm.occL] using hv)
    obtain ⟨h3, h4, h5⟩ := h2 v hv'
    rw [h5]; congr 1; omega

theorem getD_map {V : List Int} {g : Int → Int} {v : Int} (hv : v ∈ V) : ((V.map g)[(atI V v 0).toNat]?).getD 0 = g v := by
  have key : ∀ (V : List Int) (i : Nat), v ∈ V → ((V.map g)[(atI V v i).toNat - i]?).getD 0 = g v := by
    intro V
    induction V with
    | nil => intro i h; simp at h
    | cons x V ih =>
      intro i h
      simp only [atI]
      by_cases hx : x = v
      · rw [if_pos hx]; simp [hx]
      · rw [if_neg hx]
        have hv := (List.mem_cons.1 h).resolve_left fun e => hx e.symm
        have h1 := ih (i + 1) hv
        have h2 := atI_mem (l := V) (n := v) ((i : Int) + 1) hv
        have e : (atI V v ((i : Int) + 1)).toNat - i = ((atI V v ((i : Int) + 1)).toNat - (i + 1)) + 1 := by omega
        rw [e, List.map_cons, List.getElem?_cons_succ]
        have e2 : ((i + 1 : Nat) : Int) = (i : Int) + 1 := by omega
        rw [e2] at h1
        exact h1
  simpa using key V 0 hv

/-! ### numbering -/
theorem place_self {l : List Tm} (h : Tm.fairRL l = true) {v : Int} (hv : v ∈ Tm.occL l) : placeG (varsT l) v = atI (varsT l) v 0 ∧ 0 ≤ placeG (varsT l) v ∧ placeG (varsT l) v < (varsT l).length := placeG_mem ((varsT_mem h).2 hv)

theorem occ_sub {l : List Tm} {t : Tm} (ht : t ∈ l) {v : Int} (hv : v ∈ Tm.occ t) : v ∈ Tm.occL l := by
  induction l with
  | nil => simp at ht
  | cons x l ih =>
    simp only [Tm.occL, List.mem_append]
    rcases List.mem_cons.1 ht with rfl | ht
    · exact .inl hv
    · exact .inr (ih ht)

theorem all_rights {l : List Tm} : l.all rightT = true ↔ ∀ t ∈ l, t.rightB = true := by
  simp only [List.all_eq_true, rightT_eq]
theorem fairL_of {l : List Tm} (h : ∀ t ∈ l, t.rightB = true) : Tm.fairRL l = true := Tm.fairRL_iff.2 fun t ht => right_fair (h t ht)

theorem rightL_turn {l : List Tm} {g : Int → Int} (h : ∀ t ∈ l, t.rightB = true) (hg : ∀ v ∈ Tm.occL l, 0 ≤ g v ∧ g v < 1000000) : ∀ t ∈ Tm.turnTL g l, t.rightB = true := by
  intro t ht
  rw [Tm.turnTL_map] at ht
  obtain ⟨x, hx, rfl⟩ := List.mem_map.1 ht
  exact Tm.right_turn (h x hx) fun v hv => hg v (occ_sub hx hv)

/-- Terms with other variables, one to one, are numbered as they were. -/
theorem number_turn {l : List Tm} {g : Int → Int} (h : ∀ t ∈ l, t.rightB = true) (hg : ∀ v ∈ Tm.occL l, 0 ≤ g v ∧ g v < 1000000) (hi : ∀ x ∈ Tm.occL l, ∀ y ∈ Tm.occL l, g x = g y → x = y) : numberT (Tm.turnTL g l) = numberT l := by
  have hf := fairL_of h
  have h2 := rightL_turn h hg
  have hV := varsT_turn hf hg hi
  unfold numberT
  rw [if_pos (all_rights.2 h), if_pos (all_rights.2 h2), hV, List.length_map, Tm.turnL_comp]
  congr 1
  refine Tm.turnL_congr l hf fun v hv => ?_
  exact placeG_map fun x hx he => hi x ((varsT_mem hf).1 hx) v hv he

theorem number_again {l : List Tm} (h : ∀ t ∈ l, t.rightB = true) (hs : (varsT l).length < 1000000) : numberT (numberT l).1 = numberT l := by
  have hf := fairL_of h
  have e : (numberT l).1 = Tm.turnTL (placeG (varsT l)) l := by unfold numberT; rw [if_pos (all_rights.2 h)]
  rw [e]
  refine number_turn h (fun v hv => ?_) fun x hx y hy he => placeG_inj ((varsT_mem hf).2 hx) ((varsT_mem hf).2 hy) he
  obtain ⟨_, h1, h2⟩ := place_self hf hv
  omega
end PSL

namespace PSL
open Go

/-- A type's number is that of terms. -/
structure IsTerm (ty : Nat → Option Ty) (T : Nat) : Prop where
  ex : ∃ (a b c s : Nat) (τ τa τb τc τs : Ty), ty T = some τ ∧ τ.sh = .struct [(0, a), (1, b), (2, c), (3, s)] ∧ τ.size = 4 ∧ 1 ≤ τ.bytes ∧ ty a = some τa ∧ τa.sh = .int .i64 ∧ ty b = some τb ∧ τb.sh = .str ∧ ty c = some τc ∧ τc.sh = .int .i64 ∧ ty s = some τs ∧ τs.sh = .slice T

def isTermB (ty : Nat → Option Ty) (T : Nat) : Bool :=
  match ty T with
  | some ⟨4, by_, _, .struct [(0, a), (1, b), (2, c), (3, s)]⟩ => Nat.ble 1 by_ && (match ty a with | some ⟨_, _, _, .int .i64⟩ => true | _ => false) && (match ty b with | some ⟨_, _, _, .str⟩ => true | _ => false) &&
      (match ty c with | some ⟨_, _, _, .int .i64⟩ => true | _ => false) && (match ty s with | some ⟨_, _, _, .slice T'⟩ => Nat.beq T' T | _ => false)
  | _ => false

theorem isTermB_ok {ty : Nat → Option Ty} {T : Nat} (h : isTermB ty T = true) : IsTerm ty T := by
  unfold isTermB at h
  split at h
  case h_2 => cases h
  rename_i by_ z a b c s hT
  simp only [Bool.and_eq_true] at h
  obtain ⟨⟨⟨⟨h0, h1⟩, h2⟩, h3⟩, h4⟩ := h
  split at h1
  case h_2 => cases h1
  rename_i ha
  split at h2
  case h_2 => cases h2
  rename_i hb
  split at h3
  case h_2 => cases h3
  rename_i hc
  split at h4
  case h_2 => cases h4
  rename_i hs
  have := natBeq h4
  subst this
  exact ⟨a, b, c, s, _, _, _, _, _, hT, rfl, rfl, Nat.le_of_ble_eq_true h0, ha, rfl, hb, rfl, hc, rfl, hs, rfl⟩

theorem has_int {ty : Nat → Option Ty} {B n t : Nat} {τ : Ty} {row : List D} {k : IntKind} (hτ : ty t = some τ) (hs : τ.sh = .int k) (h : HasTy ty B n t row) : ∃ m, row = [.v (.int k m)] ∧ k.min ≤ m ∧ m ≤ k.max := by
  cases n with
  | zero => simp [HasTy] at h
  | succ n => simpa only [HasTy, hτ, hs] using h
theorem has_str {ty : Nat → Option Ty} {B n t : Nat} {τ : Ty} {row : List D} (hτ : ty t = some τ) (hs : τ.sh = .str) (h : HasTy ty B n t row) : ∃ s : ByteArray, row = [.v (.string s)] ∧ s.size ≤ B := by
  cases n with
  | zero => simp [HasTy] at h
  | succ n => simpa only [HasTy, hτ, hs] using h
theorem has_slice {ty : Nat → Option Ty} {B n t e : Nat} {τ : Ty} {row : List D} (hτ : ty t = some τ) (hs : τ.sh = .slice e) (h : HasTy ty B (n + 1) t row) : ∃ rows : List (List D), row = [.sl rows] ∧ (∀ τ, ty e = some τ → rows.length * τ.bytes ≤ B) ∧ ∀ r ∈ rows, HasTy ty B n e r := by
  simpa only [HasTy, hτ, hs] using h

/-- All numbers of a term fit. -/
def Tm.Fit (t : Tm) : Prop := ∀ d e, e ∈ t.els d → I64 e.2.k ∧ I64 e.2.n

theorem tm_of {ty : Nat → Option Ty} {T B : Nat} (hT : IsTerm ty T) (hB : B ≤ 140737488355328) : ∀ (n : Nat) (row : List D), HasTy ty B n T row → ∃ t : Tm, row = t.row ∧ t.Ok ∧ t.Fit := by
  obtain ⟨a, b, c, s, τ, τa, τb, τc, τs, h1, h2, h3, hby, ha, ha', hb, hb', hc, hc', hs, hs'⟩ := hT.ex
  intro n
  induction n using Nat.strongRecOn with
  | _ n ih =>
  intro row h
  cases n with
  | zero => simp [HasTy] at h
  | succ n =>
    simp only [HasTy, h1, h2, HasFs] at h
    obtain ⟨_, ra, _, g1, rfl, g2, g3, _, rb, _, g4, rfl, g5, g6, _, rc, _, g7, rfl, g8, g9, _, rs, _, g10, rfl, g11, g12, rfl⟩ := h
    rw [ha] at g1; cases g1
    rw [hb] at g4; cases g4
    rw [hc] at g7; cases g7
    rw [hs] at g10; cases g10
    obtain ⟨k, rfl, hk⟩ := has_int ha ha' g3
    obtain ⟨nm, rfl, hnm⟩ := has_str hb hb' g6
    obtain ⟨m, rfl, hm⟩ := has_int hc hc' g9
    cases n with
    | zero => simp [HasTy] at g12
    | succ n =>
      obtain ⟨rows, rfl, hlen, hrows⟩ := has_slice hs hs' g12
      have hch : ∃ l : List Tm, rows = l.map Tm.row ∧ ∀ x ∈ l, x.Ok ∧ x.Fit := by
        clear hlen g11 g12
        induction rows with
        | nil => exact ⟨[], rfl, by simp⟩
        | cons r rows ihr =>
          obtain ⟨t, ht1, ht2⟩ := ih n (by omega) r (hrows r (by simp))
          obtain ⟨l, hl1, hl2⟩ := ihr fun r hr => hrows r (by simp [hr])
          exact ⟨t :: l, by simp [ht1, hl1], by simpa using ⟨ht2, hl2⟩⟩
      obtain ⟨l, rfl, hl⟩ := hch
      have hll : l.length ≤ B := by
        have := hlen τ h1
        rw [List.length_map] at this
        exact Nat.le_trans (Nat.le_mul_of_pos_right _ hby) this
      refine ⟨.mk k nm m l, by simp [Tm.row, Tm.k, Tm.s, Tm.n, Tm.l, Tm.rows_eq], ?_, ?_⟩
      · intro d e he
        simp only [Tm.els, List.mem_cons] at he
        rcases he with rfl | he
        · exact ⟨show l.length ≤ _ by omega, show nm.size ≤ _ by omega⟩
        · obtain ⟨x, hx, hex⟩ := Tm.elsL_mem he
          exact (hl x hx).1 _ _ hex
      · intro d e he
        simp only [Tm.els, List.mem_cons] at he
        rcases he with rfl | he
        · exact ⟨hk, hm⟩
        · obtain ⟨x, hx, hex⟩ := Tm.elsL_mem he
          exact (hl x hx).2 _ _ hex

theorem av_row (t : Tm) : AV.agg (t.row.map .d) = t.av := rfl

/-- An argument that is a term. -/
theorem arg_tm {ty : Nat → Option Ty} {T B : Nat} (hT : IsTerm ty T) (hB : B ≤ 140737488355328) {n : Nat} {τ : Ty} {row : List D} {a : AV} (hτ : ty T = some τ) (h : HasTy ty B n T row) (ha : a = avOf τ row) : ∃ t : Tm, a = t.av ∧ t.Ok ∧ t.Fit := by
  obtain ⟨t, rfl, h1⟩ := tm_of hT hB n row h
  refine ⟨t, ?_, h1⟩
  obtain ⟨a', b, c, s, τ', τa, τb, τc, τs, g1, g2, _⟩ := hT.ex
  rw [hτ] at g1; cases g1
  rw [ha]; unfold avOf Ty.agg
  rw [g2]; rfl

theorem arg_tms {ty : Nat → Option Ty} {T TS B : Nat} (hT : IsTerm ty T) (hB : B ≤ 140737488355328) {n : Nat} {τ : Ty} {row : List D} {a : AV} (hτ : ty TS = some τ) (hs : τ.sh = .slice T) (h : HasTy ty B n TS row) (ha : a = avOf τ row) : ∃ l : List Tm, a = .d (.sl (Tm.rows l)) ∧ (∀ t ∈ l, t.Ok ∧ t.Fit) ∧ l.length ≤ 140737488355328 := by
  cases n with
  | zero => simp [HasTy] at h
  | succ n =>
    obtain ⟨rows, rfl, h1, h2⟩ := has_slice hτ hs h
    have hch : ∃ l : List Tm, rows = l.map Tm.row ∧ ∀ x ∈ l, x.Ok ∧ x.Fit := by
      clear h1 h ha
      induction rows with
      | nil => exact ⟨[], rfl, by simp⟩
      | cons r rows ihr =>
        obtain ⟨t, ht1, ht2⟩ := tm_of hT hB n r (h2 r (by simp))
        obtain ⟨l, hl1, hl2⟩ := ihr fun r hr => h2 r (by simp [hr])
        exact ⟨t :: l, by simp [ht1, hl1], by simpa using ⟨ht2, hl2⟩⟩
    obtain ⟨l, rfl, hl⟩ := hch
    refine ⟨l, ?_, hl, ?_⟩
    · rw [ha]; unfold avOf Ty.agg; rw [hs, Tm.rows_eq]
    · obtain ⟨a', b, c, s, τ', τa, τb, τc, τs, g1, g2, _, hby, _⟩ := hT.ex
      have := h1 τ' g1
      rw [List.length_map] at this
      exact Nat.le_trans (Nat.le_mul_of_pos_right _ hby) (Nat.le_trans this hB)

theorem arg_int {ty : Nat → Option Ty} {t B n : Nat} {k : IntKind} {τ : Ty} {row : List D} {a : AV} (hτ : ty t = some τ) (hs : τ.sh = .int k) (h : HasTy ty B n t row) (ha : a = avOf τ row) : ∃ m, a = .d (.v (.int k m)) ∧ k.min ≤ m ∧ m ≤ k.max := by
  obtain ⟨m, rfl, h1⟩ := has_int hτ hs h
  exact ⟨m, by rw [ha]; unfold avOf Ty.agg; rw [hs], h1⟩
theorem arg_str {ty : Nat → Option Ty} {t B n : Nat} {τ : Ty} {row : List D} {a : AV} (hτ : ty t = some τ) (hs : τ.sh = .str) (h : HasTy ty B n t row) (ha : a = avOf τ row) : ∃ m : ByteArray, a = .d (.v (.string m)) ∧ m.size ≤ B := by
  obtain ⟨m, rfl, h1⟩ := has_str hτ hs h
  exact ⟨m, by rw [ha]; unfold avOf Ty.agg; rw [hs], h1⟩

theorem sh_of {ty : Nat → Option Ty} {t : Nat} {τ : Ty} {sh : Sh} (h : ty t = some τ) (h2 : (ty t).map Ty.sh = some sh) : τ.sh = sh := by rw [h] at h2; simpa using h2

theorem args1 {ty : Nat → Option Ty} {B t : Nat} {as : List AV} (h : ArgsAre ty B [t] as) : ∃ (n : Nat) (τ : Ty) (row : List D) (a : AV), as = [a] ∧ ty t = some τ ∧ HasTy ty B n t row ∧ a = avOf τ row := by
  match as, h with
  | [a], h => simp only [ArgsAre] at h; obtain ⟨⟨n, τ, row, h1, h2, _, h3⟩, _⟩ := h; exact ⟨n, τ, row, a, rfl, h1, h2, h3⟩
  | [], h => simp [ArgsAre] at h
  | _ :: _ :: _, h => simp [ArgsAre] at h
theorem argsC {ty : Nat → Option Ty} {B t : Nat} {ts : List Nat} {as : List AV} (h : ArgsAre ty B (t :: ts) as) : ∃ (n : Nat) (τ : Ty) (row : List D) (a : AV) (as' : List AV), as = a :: as' ∧ ty t = some τ ∧ HasTy ty B n t row ∧ a = avOf τ row ∧ ArgsAre ty B ts as' := by
  match as, h with
  | a :: as, h => simp only [ArgsAre] at h; obtain ⟨⟨n, τ, row, h1, h2, _, h3⟩, h4⟩ := h; exact ⟨n, τ, row, a, as, rfl, h1, h2, h3, h4⟩
  | [], h => simp [ArgsAre] at h
theorem args0 {ty : Nat → Option Ty} {B : Nat} {as : List AV} (h : ArgsAre ty B [] as) : as = [] := by
  cases as with
  | nil => rfl
  | cons _ _ => simp [ArgsAre] at h
end PSL

namespace PSL
open Go

def numI (a b : Int) : Int := if a < b then -1 else if a > b then 1 else 0
def signI (n : Int) : Int := if n > 0 then 1 else if n < 0 then -1 else 0

def namesL : List UInt8 → List UInt8 → Int
  | [], [] => 0
  | [], _ :: _ => -1
  | _ :: _, [] => 1
  | x :: a, y :: b => if x = y then namesL a b else numI x.toNat y.toNat
def namesB (a b : ByteArray) : Int := namesL a.data.toList b.data.toList

namespace Tm
mutual
/-- What the program's comparison answers. -/
def cmpT : Tm → Tm → Int
  | mk k s n l, mk k' s' n' l' =>
    if k ≠ k' then signI (IntKind.i64.wrap (k - k')) else if k ≠ 3 then numI n n' else if numI l.length l'.length ≠ 0 then numI l.length l'.length
    else if namesB s s' ≠ 0 then namesB s s' else cmpTL l l'
def cmpTL : List Tm → List Tm → Int
  | x :: a, y :: b => if cmpT x y ≠ 0 then cmpT x y else cmpTL a b
  | _, _ => 0
end
theorem cmpT_eq (a b : Tm) : cmpT a b = if a.k ≠ b.k then signI (IntKind.i64.wrap (a.k - b.k)) else if a.k ≠ 3 then numI a.n b.n else if numI a.l.length b.l.length ≠ 0 then numI a.l.length b.l.length
    else if namesB a.s b.s ≠ 0 then namesB a.s b.s else cmpTL a.l b.l := by cases a; cases b; simp only [cmpT]; rfl

mutual
/-- What the reference's comparison answers. -/
def cmpR : Tm → Tm → Int
  | mk k s n l, mk k' s' n' l' =>
    if k < k' then -1 else if k > k' then 1 else if n < n' ∨ (l.length : Int) < l'.length then -1 else if n > n' ∨ (l.length : Int) > l'.length then 1
    else if Op.bytesLess s.toList s'.toList then -1 else if !(Op.bytesLess s.toList s'.toList || strEq s s') then 1 else cmpRL l l'
def cmpRL : List Tm → List Tm → Int
  | x :: a, y :: b => if cmpR x y ≠ 0 then cmpR x y else cmpRL a b
  | _, _ => 0
end
theorem cmpR_eq (a b : Tm) : cmpR a b = if a.k < b.k then -1 else if a.k > b.k then 1 else if a.n < b.n ∨ (a.l.length : Int) < b.l.length then -1 else if a.n > b.n ∨ (a.l.length : Int) > b.l.length then 1
    else if Op.bytesLess a.s.toList b.s.toList then -1 else if !(Op.bytesLess a.s.toList b.s.toList || strEq a.s b.s) then 1 else cmpRL a.l b.l := by cases a; cases b; simp only [cmpR]; rfl
end Tm

theorem namesL_less : ∀ (a b : List UInt8), (Op.bytesLess a b = true ↔ namesL a b = -1) ∧ (namesL a b = 0 ↔ a = b) ∧ (namesL a b = -1 ∨ namesL a b = 0 ∨ namesL a b = 1)
  | [], [] => by simp [Op.bytesLess, namesL]
  | [], y :: b => by simp [Op.bytesLess, namesL]
  | x :: a, [] => by simp [Op.bytesLess, namesL]
  | x :: a, y :: b => by
    have h := namesL_less a b
    simp only [Op.bytesLess, namesL]
    by_cases hx : x = y
    · subst hx
      have : ¬ x < x := by simp [UInt8.lt_iff_toNat_lt]
      simp only [this, decide_false, Bool.false_or, beq_self_eq_true, Bool.true_and, if_true, List.cons.injEq, true_and]
      exact h
    · rw [if_neg hx]
      have hne : ¬ x.toNat = y.toNat := fun e => hx (UInt8.toNat_inj.1 e)
      have hlt : (x < y) ↔ x.toNat < y.toNat := UInt8.lt_iff_toNat_lt
      simp only [Bool.or_eq_true, decide_eq_true_eq, Bool.and_eq_true, beq_iff_eq, hx, false_and, or_false, hlt, numI, List.cons.injEq]
      by_cases h1 : x.toNat < y.toNat
      · simp [h1]
      · have h2 : ((y.toNat : Int) < x.toNat) := by omega
        have h3 : ¬ ((x.toNat : Int) < y.toNat) := by omega
        simp [h1, h2, h3]

theorem namesB_less (a b : ByteArray) : (Op.bytesLess a.toList b.toList = true ↔ namesB a b = -1) ∧ (namesB a b = 0 ↔ a = b) ∧ (namesB a b = -1 ∨ namesB a b = 0 ∨ namesB a b = 1) := by
  have h := namesL_less a.data.toList b.data.toList
  rw [Tm.toList_data, Tm.toList_data]
  refine ⟨h.1, ?_, h.2.2⟩
  unfold namesB
  rw [h.2.1]
  constructor
  · intro e; cases a; cases b; simpa using e
  · rintro rfl; rfl

theorem namesL_turn : ∀ (a b : List UInt8), namesL b a = - namesL a b
  | [], [] => rfl
  | [], _ :: _ => rfl
  | _ :: _, [] => rfl
  | x :: a, y :: b => by
    simp only [namesL]
    by_cases h : x = y
    · subst h; simp [namesL_turn a b]
    · rw [if_neg h, if_neg (fun e => h e.symm)]
      unfold numI; repeat' split
      all_goals omega

theorem numI_turn (a b : Int) : numI b a = - numI a b := by
  unfold numI; repeat' split
  all_goals omega
theorem numI_zero {a b : Int} : numI a b = 0 ↔ a = b := by
  unfold numI; repeat' split
  all_goals omega
theorem numI_cases (a b : Int) : (numI a b = -1 ∧ a < b) ∨ (numI a b = 0 ∧ a = b) ∨ (numI a b = 1 ∧ b < a) := by
  unfold numI; repeat' split
  all_goals omega

/-- Ways to compare that are an order. -/
structure Ord3 (x y z w : Int) : Prop where
  -- x: a to b, y: b to c, z: a to c
  lt1 : x < 0 → y ≤ 0 → z < 0
  lt2 : x ≤ 0 → y < 0 → z < 0
  gt1 : x > 0 → y ≥ 0 → z > 0
  gt2 : x ≥ 0 → y > 0 → z > 0

theorem numI_trans (a b c : Int) : Ord3 (numI a b) (numI b c) (numI a c) 0 := by
  have h1 := numI_cases a b
  have h2 := numI_cases b c
  have h3 := numI_cases a c
  constructor <;> omega

theorem namesL_trans : ∀ (a b c : List UInt8), Ord3 (namesL a b) (namesL b c) (namesL a c) 0
  | [], [], [] => by constructor <;> simp [namesL]
  | [], [], _ :: _ => by constructor <;> simp [namesL]
  | [], _ :: _, [] => by constructor <;> simp [namesL]
  | [], y :: b, z :: c => by
    have := (namesL_less (y :: b) (z :: c)).2.2
    constructor <;> simp [namesL] <;> omega
  | _ :: _, [], [] => by constructor <;> simp [namesL]
  | _ :: _, [], _ :: _ => by constructor <;> simp [namesL]
  | x :: a, y :: b, [] => by
    have := (namesL_less (x :: a) (y :: b)).2.2
    constructor <;> simp [namesL] <;> omega
  | x :: a, y :: b, z :: c => by
    have ih := namesL_trans a b c
    have hn : ∀ u v : UInt8, ¬ u = v → (numI u.toNat v.toNat = -1 ∧ u.toNat < v.toNat) ∨ (numI u.toNat v.toNat = 1 ∧ v.toNat < u.toNat) := fun u v h => by
      have := numI_cases u.toNat v.toNat
      have : u.toNat ≠ v.toNat := fun e => h (UInt8.toNat_inj.1 e)
      omega
    have l1 := (namesL_less a b).2.2
    have l2 := (namesL_less b c).2.2
    simp only [namesL]
    by_cases h1 : x = y <;> by_cases h2 : y = z
    · subst h1; subst h2; simpa using ih
    · subst h1
      have := hn x z h2
      simp only [if_pos, if_neg h2]
      constructor <;> omega
    · subst h2
      have := hn x y h1
      simp only [if_pos, if_neg h1]
      constructor <;> omega
    · rw [if_neg h1, if_neg h2]
      have g1 := hn x y h1
      have g2 := hn y z h2
      by_cases h3 : x = z
      · subst h3; constructor <;> omega
      · rw [if_neg h3]
        have g3 := hn x z h3
        constructor <;> omega

namespace Tm
/-- Kinds that terms have. -/
theorem fair_kind {t : Tm} (h : fairR t = true) : (t.k = 1 ∨ t.k = 2 ∨ t.k = 3) ∧ (t.k ≠ 3 → t.s = ByteArray.empty ∧ t.l = []) ∧ (t.k = 3 → t.n = 0) := by
  rw [fairR_eq] at h
  simp only [Bool.and_eq_true, kindR] at h
  have h2 := h.2
  split at h2
  · rename_i hk
    simp only [Bool.and_eq_true, strEq_iff, beq_iff_eq] at h2
    exact ⟨.inl hk, fun _ => ⟨h2.1.2, List.length_eq_zero_iff.1 (by omega)⟩, fun e => by omega⟩
  · split at h2
    · rename_i hk
      simp only [Bool.and_eq_true, strEq_iff, beq_iff_eq] at h2
      exact ⟨.inr (.inl hk), fun _ => ⟨h2.1, List.length_eq_zero_iff.1 (by omega)⟩, fun e => by omega⟩
    · simp only [Bool.and_eq_true, beq_iff_eq] at h2
      exact ⟨.inr (.inr h2.1.1.1.1), fun e => absurd h2.1.1.1.1 e, fun _ => h2.1.1.1.2⟩
theorem fair_l {t : Tm} (h : fairR t = true) : fairRL t.l = true := by rw [fairR_eq] at h; simp only [Bool.and_eq_true] at h; exact h.1.2

theorem sign_sub {a b : Int} (ha : a = 1 ∨ a = 2 ∨ a = 3) (hb : b = 1 ∨ b = 2 ∨ b = 3) : signI (IntKind.i64.wrap (a - b)) = numI a b := by
  rw [w64 (by omega) (by omega)]
  unfold signI numI
  repeat' split
  all_goals omega

mutual
theorem cmp_same : ∀ (a b : Tm), fairR a = true → fairR b = true → cmpT a b = cmpR a b
  | mk k s n l, mk k' s' n' l', ha, hb => by
    obtain ⟨a1, a2, a3⟩ := fair_kind ha
    obtain ⟨b1, b2, b3⟩ := fair_kind hb
    have al := fair_l ha
    have bl := fair_l hb
    simp only [Tm.k, Tm.n, Tm.s, Tm.l] at *
    have hL := cmpL_same l l' al bl
    have hs := namesB_less s s'
    simp only [cmpT, cmpR]
    by_cases hk : k = k'
    · subst hk
      rw [if_neg (show ¬ k ≠ k by omega), if_neg (show ¬ k < k by omega), if_neg (show ¬ k > k by omega)]
      by_cases h3 : k = 3
      · rw [if_neg (show ¬ k ≠ 3 by omega), a3 h3, b3 h3]
        have hl := numI_cases l.length l'.length
        rcases hl with ⟨h4, h5⟩ | ⟨h4, h5⟩ | ⟨h4, h5⟩
        · rw [h4, if_pos (show (-1 : Int) ≠ 0 by decide), if_pos (show (0 : Int) < 0 ∨ (l.length : Int) < l'.length by omega)]
        · rw [h4, if_neg (show ¬ (0 : Int) ≠ 0 by decide), if_neg (show ¬ ((0 : Int) < 0 ∨ (l.length : Int) < l'.length) by omega), if_neg (show ¬ ((0 : Int) > 0 ∨ (l.length : Int) > l'.length) by omega)]
          rcases hs.2.2 with h6 | h6 | h6
          · rw [if_pos (show namesB s s' ≠ 0 by omega), if_pos (hs.1.2 h6), h6]
          · have : Op.bytesLess s.toList s'.toList = false := by
              cases hb : Op.bytesLess s.toList s'.toList
              · rfl
              · have := hs.1.1 hb; omega
            rw [if_neg (show ¬ namesB s s' ≠ 0 by omega), this]
            have he : strEq s s' = true := strEq_iff.2 (hs.2.1.1 h6)
            rw [he]; simpa using hL
          · have : Op.bytesLess s.toList s'.toList = false := by
              cases hb : Op.bytesLess s.toList s'.toList
              · rfl
              · have := hs.1.1 hb; omega
            rw [if_pos (show namesB s s' ≠ 0 by omega), this, h6]
            have he : strEq s s' = false := by
              cases he : strEq s s'
              · rfl
              · have := hs.2.1.2 (strEq_iff.1 he); omega
            rw [he]; rfl
        · rw [h4, if_pos (show (1 : Int) ≠ 0 by decide), if_neg (show ¬ ((0 : Int) < 0 ∨ (l.length : Int) < l'.length) by omega), if_pos (show (0 : Int) > 0 ∨ (l.length : Int) > l'.length by omega)]
      · rw [if_pos h3]
        obtain ⟨hs1, hl1⟩ := a2 h3
        obtain ⟨hs2, hl2⟩ := b2 h3
        subst hs1; subst hl1; subst hs2; subst hl2
        have hl := numI_cases n n'
        have e1 : Op.bytesLess ByteArray.empty.toList ByteArray.empty.toList = false := by rw [toList_data]; rfl
        have e2 : strEq ByteArray.empty ByteArray.empty = true := strEq_iff.2 rfl
        rcases hl with ⟨h4, h5⟩ | ⟨h4, h5⟩ | ⟨h4, h5⟩
        · rw [h4, if_pos (show n < n' ∨ _ from .inl h5)]
        · rw [h4, if_neg (by simp; omega), if_neg (by simp; omega), e1, e2]; rfl
        · rw [h4, if_neg (by simp; omega), if_pos (show n > n' ∨ _ from .inl h5)]
    · rw [if_pos hk, sign_sub a1 b1]
      have := numI_cases k k'
      by_cases h1 : k < k'
      · rw [if_pos h1]; omega
      · rw [if_neg h1, if_pos (by omega)]; omega
theorem cmpL_same : ∀ (a b : List Tm), fairRL a = true → fairRL b = true → cmpTL a b = cmpRL a b
  | [], [], _, _ => rfl
  | [], _ :: _, _, _ => rfl
  | _ :: _, [], _, _ => rfl
  | x :: a, y :: b, ha, hb => by
    simp only [fairRL, Bool.and_eq_true] at ha hb
    simp only [cmpTL, cmpRL, cmp_same x y ha.1 hb.1, cmpL_same a b ha.2 hb.2]
end

mutual
theorem cmp_turn : ∀ (a b : Tm), fairR a = true → fairR b = true → cmpT b a = - cmpT a b
  | mk k s n l, mk k' s' n' l', ha, hb => by
    obtain ⟨a1, a2, a3⟩ := fair_kind ha
    obtain ⟨b1, b2, b3⟩ := fair_kind hb
    have al := fair_l ha
    have bl := fair_l hb
    simp only [Tm.k, Tm.n, Tm.s, Tm.l] at *
    have hL := cmpL_turn l l' al bl
    have hn : namesB s' s = - namesB s s' := namesL_turn _ _
    simp only [cmpT]
    by_cases hk : k = k'
    · subst hk
      simp only [if_neg (show ¬ k ≠ k by omega)]
      by_cases h3 : k = 3
      · simp only [if_neg (show ¬ k ≠ 3 by omega)]
        rw [numI_turn l.length l'.length, hn, hL]
        by_cases h4 : numI l.length l'.length = 0
        · rw [h4]; simp
          by_cases h5 : namesB s s' = 0
          · simp [h5]
          · simp [h5]
        · have h5 : - numI l.length l'.length ≠ 0 := by omega
          rw [if_pos h5, if_pos h4]
      · simp only [if_pos (show k ≠ 3 from h3)]
        rw [numI_turn]
    · rw [if_pos hk, if_pos (show k' ≠ k from fun e => hk e.symm), sign_sub a1 b1, sign_sub b1 a1, numI_turn]
theorem cmpL_turn : ∀ (a b : List Tm), fairRL a = true → fairRL b = true → cmpTL b a = - cmpTL a b
  | [], [], _, _ => rfl
  | [], _ :: _, _, _ => rfl
  | _ :: _, [], _, _ => rfl
  | x :: a, y :: b, ha, hb => by
    simp only [fairRL, Bool.and_eq_true] at ha hb
    simp only [cmpTL, cmp_turn x y ha.1 hb.1, cmpL_turn a b ha.2 hb.2]
    by_cases h : cmpT x y = 0
    · rw [h]; simp
    · have h2 : - cmpT x y ≠ 0 := by omega
      rw [if_pos h2, if_pos h]
end

mutual
theorem cmp_zero : ∀ (a b : Tm), fairR a = true → fairR b = true → (cmpT a b = 0 ↔ a = b)
  | mk k s n l, mk k' s' n' l', ha, hb => by
    obtain ⟨a1, a2, a3⟩ := fair_kind ha
    obtain ⟨b1, b2, b3⟩ := fair_kind hb
    have al := fair_l ha
    have bl := fair_l hb
    simp only [Tm.k, Tm.n, Tm.s, Tm.l] at *
    have hs := (namesB_less s s').2.1
    simp only [cmpT, mk.injEq]
    by_cases hk : k = k'
    · subst hk
      rw [if_neg (show ¬ k ≠ k by omega)]
      by_cases h3 : k = 3
      · rw [if_neg (show ¬ k ≠ 3 by omega), a3 h3, b3 h3]
        by_cases h4 : numI l.length l'.length = 0
        · rw [if_neg (show ¬ numI l.length l'.length ≠ 0 by omega)]
          have h4 := numI_zero.1 h4
          by_cases h5 : namesB s s' = 0
          · rw [if_neg (show ¬ namesB s s' ≠ 0 by omega)]
            have hL := cmpL_zero l l' al bl (by omega)
            rw [hL]
            have := hs.1 h5
            simp [this]
          · rw [if_pos h5]
            have : ¬ s = s' := fun e => h5 (hs.2 e)
            simp [this, h5]
        · rw [if_pos h4]
          have h6 : ¬ l = l' := fun e => h4 (by rw [e]; exact numI_zero.2 rfl)
          simp [h4, h6]
      · rw [if_pos h3, numI_zero]
        obtain ⟨hs1, hl1⟩ := a2 h3
        obtain ⟨hs2, hl2⟩ := b2 h3
        subst hs1; subst hl1; subst hs2; subst hl2
        simp
    · rw [if_pos hk, sign_sub a1 b1, numI_zero]
      simp [hk]
theorem cmpL_zero : ∀ (a b : List Tm), fairRL a = true → fairRL b = true → a.length = b.length → (cmpTL a b = 0 ↔ a = b)
  | [], [], _, _, _ => by simp [cmpTL]
  | [], _ :: _, _, _, h => by simp at h
  | _ :: _, [], _, _, h => by simp at h
  | x :: a, y :: b, ha, hb, h => by
    simp only [fairRL, Bool.and_eq_true] at ha hb
    have h1 := cmp_zero x y ha.1 hb.1
    have h2 := cmpL_zero a b ha.2 hb.2 (by simpa using h)
    simp only [cmpTL, List.cons.injEq]
    by_cases h : cmpT x y = 0
    · rw [if_neg (show ¬ cmpT x y ≠ 0 by omega), h2]; simp [h1.1 h]
    · rw [if_pos h]
      have : ¬ x = y := fun e => h (h1.2 e)
      simp [h, this]
end

mutual
theorem cmp_trans : ∀ (a b c : Tm), fairR a = true → fairR b = true → fairR c = true → Ord3 (cmpT a b) (cmpT b c) (cmpT a c) 0
  | mk k s n l, mk k' s' n' l', mk k2 s2 n2 l2, ha, hb, hc => by
    obtain ⟨a1, a2, a3⟩ := fair_kind ha
    obtain ⟨b1, b2, b3⟩ := fair_kind hb
    obtain ⟨c1, c2, c3⟩ := fair_kind hc
    have al := fair_l ha
    have bl := fair_l hb
    have cl := fair_l hc
    simp only [Tm.k, Tm.n, Tm.s, Tm.l] at *
    simp only [cmpT]
    by_cases h1 : k = k'
    · subst h1
      simp only [if_neg (show ¬ k ≠ k by omega)]
      by_cases h2 : k = k2
      · subst h2
        simp only [if_neg (show ¬ k ≠ k by omega)]
        by_cases h3 : k = 3
        · simp only [if_neg (show ¬ k ≠ 3 by omega)]
          have g1 := numI_cases l.length l'.length
          have g2 := numI_cases l'.length l2.length
          have g3 := numI_cases l.length l2.length
          have n1 := namesL_trans s.data.toList s'.data.toList s2.data.toList
          have m1 := (namesB_less s s').2.2
          have m2 := (namesB_less s' s2).2.2
          have m3 := (namesB_less s s2).2.2
          have z1 := (namesB_less s s').2.1
          have z2 := (namesB_less s' s2).2.1
          have z3 := (namesB_less s s2).2.1
          change Ord3 (namesB s s') (namesB s' s2) (namesB s s2) 0 at n1
          by_cases e1 : numI l.length l'.length = 0 <;> by_cases e2 : numI l'.length l2.length = 0
          · have e3 : numI l.length l2.length = 0 := by omega
            rw [if_neg (by omega : ¬ numI l.length l'.length ≠ 0), if_neg (by omega : ¬ numI l'.length l2.length ≠ 0), if_neg (by omega : ¬ numI l.length l2.length ≠ 0)]
            have ih := cmpL_trans l l' l2 al bl cl (by omega) (by omega)
            by_cases f1 : namesB s s' = 0 <;> by_cases f2 : namesB s' s2 = 0
            · have f3 : namesB s s2 = 0 := z3.2 ((z1.1 f1).trans (z2.1 f2))
              rw [if_neg (by omega : ¬ namesB s s' ≠ 0), if_neg (by omega : ¬ namesB s' s2 ≠ 0), if_neg (by omega : ¬ namesB s s2 ≠ 0)]
              exact ih
            · have f3 : namesB s s2 = namesB s' s2 := by rw [z1.1 f1]
              rw [if_neg (by omega : ¬ namesB s s' ≠ 0), if_pos f2, f3, if_pos f2]
              constructor <;> omega
            · have f3 : namesB s s2 = namesB s s' := by rw [z2.1 f2]
              rw [if_neg (by omega : ¬ namesB s' s2 ≠ 0), if_pos f1, f3, if_pos f1]
              constructor <;> omega
            · rw [if_pos f1, if_pos f2]
              have ⟨o1, o2, o3, o4⟩ := n1
              by_cases f3 : namesB s s2 = 0
              · rw [if_neg (by omega : ¬ namesB s s2 ≠ 0)]
                constructor <;> omega
              · rw [if_pos f3]; constructor <;> omega
          · rw [if_pos e2, if_pos (by omega : numI l.length l2.length ≠ 0)]
            constructor <;> omega
          · rw [if_pos e1, if_pos (by omega : numI l.length l2.length ≠ 0)]
            constructor <;> omega
          · rw [if_pos e1, if_pos e2]
            by_cases e3 : numI l.length l2.length = 0
            · constructor <;> omega
            · rw [if_pos e3]; constructor <;> omega
        · simp only [if_pos (show k ≠ 3 from h3)]; exact numI_trans n n' n2
      · rw [if_pos h2, if_pos h2, sign_sub a1 c1]
        have := numI_cases k k2
        constructor <;> omega
    · by_cases h2 : k' = k2
      · subst h2
        rw [if_pos h1, sign_sub a1 b1, if_neg (by omega : ¬ k' ≠ k')]
        have := numI_cases k k'
        constructor <;> omega
      · rw [if_pos h1, if_pos h2, sign_sub a1 b1, sign_sub b1 c1]
        have g1 := numI_cases k k'
        have g2 := numI_cases k' k2
        by_cases h3 : k = k2
        · subst h3; constructor <;> omega
        · rw [if_pos h3, sign_sub a1 c1]
          have g3 := numI_cases k k2
          constructor <;> omega
theorem cmpL_trans : ∀ (a b c : List Tm), fairRL a = true → fairRL b = true → fairRL c = true → a.length = b.length → b.length = c.length → Ord3 (cmpTL a b) (cmpTL b c) (cmpTL a c) 0
  | [], [], [], _, _, _, _, _ => by constructor <;> simp [cmpTL]
  | [], [], _ :: _, _, _, _, _, h => by simp at h
  | [], _ :: _, _, _, _, _, h, _ => by simp at h
  | _ :: _, [], _, _, _, _, h, _ => by simp at h
  | _ :: _, _ :: _, [], _, _, _, _, h => by simp at h
  | x :: a, y :: b, z :: c, ha, hb, hc, h1, h2 => by
    simp only [fairRL, Bool.and_eq_true] at ha hb hc
    have ih := cmpL_trans a b c ha.2 hb.2 hc.2 (by simpa using h1) (by simpa using h2)
    have ⟨o1, o2, o3, o4⟩ := cmp_trans x y z ha.1 hb.1 hc.1
    have z1 := cmp_zero x y ha.1 hb.1
    have z2 := cmp_zero y z hb.1 hc.1
    have z3 := cmp_zero x z ha.1 hc.1
    simp only [cmpTL]
    by_cases f1 : cmpT x y = 0 <;> by_cases f2 : cmpT y z = 0
    · have f3 : cmpT x z = 0 := z3.2 ((z1.1 f1).trans (z2.1 f2))
      rw [if_neg (by omega : ¬ cmpT x y ≠ 0), if_neg (by omega : ¬ cmpT y z ≠ 0), if_neg (by omega : ¬ cmpT x z ≠ 0)]
      exact ih
    · have f3 : cmpT x z = cmpT y z := by rw [z1.1 f1]
      rw [if_neg (by omega : ¬ cmpT x y ≠ 0), if_pos f2, f3, if_pos f2]
      constructor <;> omega
    · have f3 : cmpT x z = cmpT x y := by rw [z2.1 f2]
      rw [if_neg (by omega : ¬ cmpT y z ≠ 0), if_pos f1, f3, if_pos f1]
      constructor <;> omega
    · rw [if_pos f1, if_pos f2]
      by_cases f3 : cmpT x z = 0
      · rw [if_neg (by omega : ¬ cmpT x z ≠ 0)]
        constructor <;> omega
      · rw [if_pos f3]; constructor <;> omega
end
end Tm
end PSL

namespace PSL
open Go
namespace Tm

def mergeT : List Tm → List Tm → List Tm
  | [], b => b
  | a, [] => a
  | x :: a, y :: b => if cmpT x y < 0 then x :: mergeT a (y :: b) else if cmpT x y > 0 then y :: mergeT (x :: a) b else mergeT (x :: a) b
termination_by a b => a.length + b.length

theorem mergeT_nil (a : List Tm) : mergeT a [] = a := by cases a <;> simp [mergeT]
theorem mergeT_cons (x y : Tm) (a b : List Tm) : mergeT (x :: a) (y :: b) = if cmpT x y < 0 then x :: mergeT a (y :: b) else if cmpT x y > 0 then y :: mergeT (x :: a) b else mergeT (x :: a) b := by rw [mergeT]

def msort (l : List Tm) : List Tm := if h : l.length < 2 then l else mergeT (msort (l.take (l.length / 2))) (msort (l.drop (l.length / 2)))
termination_by l.length
decreasing_by
  all_goals simp only [List.length_take, List.length_drop]; omega

theorem msort_eq (l : List Tm) : msort l = if l.length < 2 then l else mergeT (msort (l.take (l.length / 2))) (msort (l.drop (l.length / 2))) := by
  rw [msort]; split <;> rfl

def insR (x : Tm) : List Tm → List Tm
  | [] => [x]
  | y :: r => if cmpR y x < 0 then y :: insR x r else if cmpR y x = 0 then y :: r else x :: y :: r
def sortFrom (o l : List Tm) : List Tm := l.foldl (fun o x => insR x o) o

theorem merge_mem (z : Tm) : ∀ (n : Nat) (a b : List Tm), a.length + b.length ≤ n → z ∈ mergeT a b → z ∈ a ∨ z ∈ b
  | _, [], b, _, h => by simp only [mergeT] at h; exact .inr h
  | _, x :: a, [], _, h => by rw [mergeT_nil] at h; exact .inl h
  | 0, x :: a, y :: b, hn, _ => by simp at hn
  | n + 1, x :: a, y :: b, hn, h => by
    simp only [List.length_cons] at hn
    rw [mergeT_cons] at h
    split at h
    · rcases List.mem_cons.1 h with h | h
      · exact .inl (h ▸ List.mem_cons_self)
      · rcases merge_mem z n a (y :: b) (by simp; omega) h with h | h
        · exact .inl (List.mem_cons_of_mem _ h)
        · exact .inr h
    · split at h
      · rcases List.mem_cons.1 h with h | h
        · exact .inr (h ▸ List.mem_cons_self)
        · rcases merge_mem z n (x :: a) b (by simp; omega) h with h | h
          · exact .inl h
          · exact .inr (List.mem_cons_of_mem _ h)
      · rcases merge_mem z n (x :: a) b (by simp; omega) h with h | h
        · exact .inl h
        · exact .inr (List.mem_cons_of_mem _ h)

theorem merge_len : ∀ (n : Nat) (a b : List Tm), a.length + b.length ≤ n → (mergeT a b).length ≤ a.length + b.length
  | _, [], b, _ => by simp [mergeT]
  | _, x :: a, [], _ => by rw [mergeT_nil]; simp
  | 0, x :: a, y :: b, hn => by simp at hn
  | n + 1, x :: a, y :: b, hn => by
    simp only [List.length_cons] at hn
    have h1 := merge_len n a (y :: b) (by simp; omega)
    have h2 := merge_len n (x :: a) b (by simp; omega)
    simp only [List.length_cons] at h1 h2
    rw [mergeT_cons]
    split
    · simp only [List.length_cons]; omega
    · split
      · simp only [List.length_cons]; omega
      · simp only [List.length_cons]; omega

theorem msort_mem (n : Nat) : ∀ (l : List Tm), l.length ≤ n → ∀ z, z ∈ msort l → z ∈ l := by
  induction n using Nat.strongRecOn with
  | _ n ih =>
  intro l hl z h
  rw [msort_eq] at h
  split at h
  · exact h
  · rename_i h2
    rcases merge_mem z _ _ _ (Nat.le_refl _) h with h | h
    · exact List.mem_of_mem_take (ih (l.take (l.length / 2)).length (by rw [List.length_take]; omega) _ (Nat.le_refl _) z h)
    · exact List.mem_of_mem_drop (ih (l.drop (l.length / 2)).length (by rw [List.length_drop]; omega) _ (Nat.le_refl _) z h)

theorem msort_len (n : Nat) : ∀ (l : List Tm), l.length ≤ n → (msort l).length ≤ l.length := by
  induction n using Nat.strongRecOn with
  | _ n ih =>
  intro l hl
  rw [msort_eq]
  split
  · exact Nat.le_refl _
  · have h1 := ih (l.take (l.length / 2)).length (by rw [List.length_take]; omega) _ (Nat.le_refl _)
    have h2 := ih (l.drop (l.length / 2)).length (by rw [List.length_drop]; omega) _ (Nat.le_refl _)
    have h3 := merge_len _ (msort (l.take (l.length / 2))) (msort (l.drop (l.length / 2))) (Nat.le_refl _)
    rw [List.length_take] at h1
    rw [List.length_drop] at h2
    omega

/-- Less, among sound terms. -/
def ltT (x y : Tm) : Prop := fairR x = true ∧ fairR y = true ∧ cmpT x y < 0
theorem ltT_irr {x : Tm} (h : ltT x x) : False := by
  have := (cmp_zero x x h.1 h.1).2 rfl
  have := h.2.2; omega
theorem ltT_asym {x y : Tm} (h : ltT x y) (h2 : ltT y x) : False := by
  have := cmp_turn x y h.1 h.2.1
  have := h.2.2; have := h2.2.2; omega
theorem ltT_trans {x y z : Tm} (h : ltT x y) (h2 : ltT y z) : ltT x z :=
  ⟨h.1, h2.2.1, (cmp_trans x y z h.1 h.2.1 h2.2.1).lt1 h.2.2 (by have := h2.2.2; omega)⟩

theorem sorted_ext : ∀ (a b : List Tm), a.Pairwise ltT → b.Pairwise ltT → (∀ z, z ∈ a ↔ z ∈ b) → a = b
  | [], [], _, _, _ => rfl
  | [], y :: b, _, _, h => absurd ((h y).2 List.mem_cons_self) (by simp)
  | x :: a, [], _, _, h => absurd ((h x).1 List.mem_cons_self) (by simp)
  | x :: a, y :: b, ha, hb, h => by
    rw [List.pairwise_cons] at ha hb
    have hxy : x = y := by
      rcases List.mem_cons.1 ((h x).1 List.mem_cons_self) with e | hx
      · exact e
      rcases List.mem_cons.1 ((h y).2 List.mem_cons_self) with e | hy
      · exact e.symm
      exact (ltT_asym (ha.1 y hy) (hb.1 x hx)).elim
    subst hxy
    rw [sorted_ext a b ha.2 hb.2 fun z => ⟨fun hz => ?_, fun hz => ?_⟩]
    · rcases List.mem_cons.1 ((h z).1 (List.mem_cons_of_mem _ hz)) with e | h1
      · subst e; exact (ltT_irr (ha.1 _ hz)).elim
      · exact h1
    · rcases List.mem_cons.1 ((h z).2 (List.mem_cons_of_mem _ hz)) with e | h1
      · subst e; exact (ltT_irr (hb.1 _ hz)).elim
      · exact h1

theorem merge_sorted : ∀ (n : Nat) (a b : List Tm), a.length + b.length ≤ n → (∀ x ∈ a, fairR x = true) → (∀ x ∈ b, fairR x = true) → a.Pairwise ltT → b.Pairwise ltT → (mergeT a b).Pairwise ltT ∧ ∀ z, z ∈ mergeT a b ↔ z ∈ a ∨ z ∈ b
  | _, [], b, _, _, _, _, hb => by simp only [mergeT]; exact ⟨hb, by simp⟩
  | _, x :: a, [], _, _, _, ha, _ => by rw [mergeT_nil]; exact ⟨ha, by simp⟩
  | 0, x :: a, y :: b, hn, _, _, _, _ => by simp at hn
  | n + 1, x :: a, y :: b, hn, fa, fb, ha, hb => by
    simp only [List.length_cons] at hn
    have fx := fa x List.mem_cons_self
    have fy := fb y List.mem_cons_self
    have fa' : ∀ z ∈ a, fairR z = true := fun z h => fa z (List.mem_cons_of_mem _ h)
    have fb' : ∀ z ∈ b, fairR z = true := fun z h => fb z (List.mem_cons_of_mem _ h)
    have ha2 := List.pairwise_cons.1 ha
    have hb2 := List.pairwise_cons.1 hb
    have h1 := merge_sorted n a (y :: b) (by simp; omega) fa' fb ha2.2 hb
    have h2 := merge_sorted n (x :: a) b (by simp; omega) fa fb' ha hb2.2
    rw [mergeT_cons]
    split
    · rename_i hc
      refine ⟨List.pairwise_cons.2 ⟨fun z hz => ?_, h1.1⟩, fun z => ?_⟩
      · rcases (h1.2 z).1 hz with h | h
        · exact ha2.1 z h
        · have hxy : ltT x y := ⟨fx, fy, hc⟩
          rcases List.mem_cons.1 h with e | h
          · subst e; exact hxy
          · exact ltT_trans hxy (hb2.1 z h)
      · simp only [List.mem_cons, h1.2, or_assoc]
    · rename_i hc
      split
      · rename_i hc2
        have hyx : ltT y x := ⟨fy, fx, by have := cmp_turn x y fx fy; omega⟩
        refine ⟨List.pairwise_cons.2 ⟨fun z hz => ?_, h2.1⟩, fun z => ?_⟩
        · rcases (h2.2 z).1 hz with h | h
          · rcases List.mem_cons.1 h with e | h
            · subst e; exact hyx
            · exact ltT_trans hyx (ha2.1 z h)
          · exact hb2.1 z h
        · simp only [List.mem_cons, h2.2]; constructor
          · rintro (h | (h | h) | h)
            · exact .inr (.inl h)
            · exact .inl (.inl h)
            · exact .inl (.inr h)
            · exact .inr (.inr h)
          · rintro ((h | h) | (h | h))
            · exact .inr (.inl (.inl h))
            · exact .inr (.inl (.inr h))
            · exact .inl h
            · exact .inr (.inr h)
      · have he : x = y := (cmp_zero x y fx fy).1 (by omega)
        refine ⟨h2.1, fun z => ?_⟩
        simp only [List.mem_cons, h2.2]; subst he
        constructor
        · rintro (h | h)
          · exact .inl h
          · exact .inr (.inr h)
        · rintro (h | h | h)
          · exact .inl h
          · exact .inl (.inl h)
          · exact .inr h

theorem msort_sorted (n : Nat) : ∀ (l : List Tm), l.length ≤ n → (∀ x ∈ l, fairR x = true) → (msort l).Pairwise ltT ∧ ∀ z, z ∈ msort l ↔ z ∈ l := by
  induction n using Nat.strongRecOn with
  | _ n ih =>
  intro l hl hf
  rw [msort_eq]
  split
  · match l, hl with
    | [], _ => simp
    | [x], _ => simp
  · have h1 := ih (l.take (l.length / 2)).length (by rw [List.length_take]; omega) _ (Nat.le_refl _) (fun x hx => hf x (List.mem_of_mem_take hx))
    have h2 := ih (l.drop (l.length / 2)).length (by rw [List.length_drop]; omega) _ (Nat.le_refl _) (fun x hx => hf x (List.mem_of_mem_drop hx))
    have h3 := merge_sorted _ (msort (l.take (l.length / 2))) (msort (l.drop (l.length / 2))) (Nat.le_refl _) (fun x hx => hf x (List.mem_of_mem_take ((h1.2 x).1 hx))) (fun x hx => hf x (List.mem_of_mem_drop ((h2.2 x).1 hx))) h1.1 h2.1
    refine ⟨h3.1, fun z => ?_⟩
    rw [h3.2, h1.2, h2.2, ← List.mem_append, List.take_append_drop]

theorem ins_sorted (x : Tm) (fx : fairR x = true) : ∀ (o : List Tm), (∀ z ∈ o, fairR z = true) → o.Pairwise ltT → (insR x o).Pairwise ltT ∧ ∀ z, z ∈ insR x o ↔ z = x ∨ z ∈ o
  | [], _, _ => by simp [insR]
  | y :: r, fo, ho => by
    have fy := fo y List.mem_cons_self
    have ho2 := List.pairwise_cons.1 ho
    have ih := ins_sorted x fx r (fun z hz => fo z (List.mem_cons_of_mem _ hz)) ho2.2
    simp only [insR, ← cmp_same y x fy fx]
    split
    · rename_i hc
      refine ⟨List.pairwise_cons.2 ⟨fun z hz => ?_, ih.1⟩, fun z => ?_⟩
      · rcases (ih.2 z).1 hz with e | h
        · subst e; exact ⟨fy, fx, hc⟩
        · exact ho2.1 z h
      · simp only [List.mem_cons, ih.2]; constructor
        · rintro (h | h | h)
          · exact .inr (.inl h)
          · exact .inl h
          · exact .inr (.inr h)
        · rintro (h | h | h)
          · exact .inr (.inl h)
          · exact .inl h
          · exact .inr (.inr h)
    · split
      · have he := (cmp_zero y x fy fx).1 (by assumption)
        subst he
        exact ⟨ho, fun z => by simp⟩
      · have hxy : ltT x y := ⟨fx, fy, by have := cmp_turn y x fy fx; omega⟩
        refine ⟨List.pairwise_cons.2 ⟨fun z hz => ?_, ho⟩, fun z => by simp⟩
        rcases List.mem_cons.1 hz with e | h
        · subst e; exact hxy
        · exact ltT_trans hxy (ho2.1 z h)

theorem sortFrom_sorted : ∀ (l o : List Tm), (∀ z ∈ l, fairR z = true) → (∀ z ∈ o, fairR z = true) → o.Pairwise ltT → (sortFrom o l).Pairwise ltT ∧ ∀ z, z ∈ sortFrom o l ↔ z ∈ l ∨ z ∈ o
  | [], o, _, _, ho => by simp [sortFrom, ho]
  | x :: l, o, fl, fo, ho => by
    have fx := fl x List.mem_cons_self
    have h1 := ins_sorted x fx o fo ho
    have h2 := sortFrom_sorted l (insR x o) (fun z hz => fl z (List.mem_cons_of_mem _ hz)) (fun z hz => ((h1.2 z).1 hz).elim (fun e => e ▸ fx) (fo z)) h1.1
    refine ⟨h2.1, fun z => ?_⟩
    show z ∈ sortFrom (insR x o) l ↔ _
    rw [h2.2, h1.2, List.mem_cons]
    constructor
    · rintro (h | h | h)
      · exact .inl (.inr h)
      · exact .inl (.inl h)
      · exact .inr h
    · rintro ((h | h) | h)
      · exact .inr (.inl h)
      · exact .inl h
      · exact .inr (.inr h)

theorem sort_same (l : List Tm) (h : ∀ x ∈ l, fairR x = true) : msort l = sortFrom [] l := by
  have h1 := msort_sorted _ l (Nat.le_refl _) h
  have h2 := sortFrom_sorted l [] h (by simp) .nil
  exact sorted_ext _ _ h1.1 h2.1 fun z => by rw [h1.2, h2.2]; simp

theorem insR_len (x : Tm) : ∀ o : List Tm, (insR x o).length ≤ o.length + 1
  | [] => by simp [insR]
  | y :: r => by
    have := insR_len x r
    simp only [insR]; split
    · simp; omega
    · split <;> simp
theorem insR_mem (x z : Tm) : ∀ o : List Tm, z ∈ insR x o → z = x ∨ z ∈ o
  | [], h => by simp [insR] at h; exact .inl h
  | y :: r, h => by
    simp only [insR] at h; split at h
    · rcases List.mem_cons.1 h with h | h
      · exact .inr (h ▸ List.mem_cons_self)
      · exact (insR_mem x z r h).imp id (List.mem_cons_of_mem _)
    · split at h
      · exact .inr h
      · exact List.mem_cons.1 h
end Tm
end PSL

namespace PSL
open Go

def fwdP (P : List (Int × Int)) (n : Int) : Option Int := (P.find? (fun p => p.1 == n)).map (·.2)
def bwdP (P : List (Int × Int)) (n : Int) : Option Int := (P.find? (fun p => p.2 == n)).map (·.1)
def varFit (n n' : Int) (P : List (Int × Int)) : Bool × List (Int × Int) :=
  match fwdP P n, bwdP P n' with
  | none, none => (true, P ++ [(n, n')])
  | some x, some y => (x == n' && y == n, P)
  | _, _ => (false, P)

namespace Tm
mutual
/-- The program's renaming of a into b, on pairs met so far. -/
def fitsT : Tm → Tm → List (Int × Int) → Bool × List (Int × Int)
  | mk k s n l, mk k' s' n' l', P =>
    if k ≠ k' ∨ strEq s s' = false ∨ l.length ≠ l'.length then (false, P)
    else if k ≠ 1 then (if n ≠ n' then (false, P) else fitsL l l' P) else varFit n n' P
def fitsL : List Tm → List Tm → List (Int × Int) → Bool × List (Int × Int)
  | x :: a, y :: b, P => if (fitsT x y P).1 then fitsL a b (fitsT x y P).2 else fitsT x y P
  | _, _, P => (true, P)
end
theorem fitsT_eq (a b : Tm) (P : List (Int × Int)) : fitsT a b P = if a.k ≠ b.k ∨ strEq a.s b.s = false ∨ a.l.length ≠ b.l.length then (false, P)
    else if a.k ≠ 1 then (if a.n ≠ b.n then (false, P) else fitsL a.l b.l P) else varFit a.n b.n P := by cases a; cases b; simp only [fitsT]; rfl

def goodP (P : List (Int × Int)) : Prop := ∀ x ∈ P, ∀ y ∈ P, x.1 = y.1 ↔ x.2 = y.2

theorem fwd_some {P : List (Int × Int)} {n x : Int} (h : fwdP P n = some x) : (n, x) ∈ P := by
  unfold fwdP at h
  obtain ⟨p, hp, rfl⟩ := Option.map_eq_some_iff.1 h
  have := List.find?_some hp
  have h1 : p.1 = n := by simpa using this
  subst h1; exact List.mem_of_find?_eq_some hp
theorem bwd_some {P : List (Int × Int)} {n x : Int} (h : bwdP P n = some x) : (x, n) ∈ P := by
  unfold bwdP at h
  obtain ⟨p, hp, rfl⟩ := Option.map_eq_some_iff.1 h
  have := List.find?_some hp
  have h1 : p.2 = n := by simpa using this
  subst h1; exact List.mem_of_find?_eq_some hp
theorem fwd_none {P : List (Int × Int)} {n : Int} (h : fwdP P n = none) : ∀ p ∈ P, p.1 ≠ n := by
  unfold fwdP at h
  have := List.find?_eq_none.1 (Option.map_eq_none_iff.1 h)
  intro p hp e; exact this p hp (by simp [e])
theorem bwd_none {P : List (Int × Int)} {n : Int} (h : bwdP P n = none) : ∀ p ∈ P, p.2 ≠ n := by
  unfold bwdP at h
  have := List.find?_eq_none.1 (Option.map_eq_none_iff.1 h)
  intro p hp e; exact this p hp (by simp [e])

theorem goodP_congr {P Q : List (Int × Int)} (h : ∀ z, z ∈ P ↔ z ∈ Q) : goodP P ↔ goodP Q :=
  ⟨fun hp x hx y hy => hp x ((h x).2 hx) y ((h y).2 hy), fun hp x hx y hy => hp x ((h x).1 hx) y ((h y).1 hy)⟩
theorem goodP_sub {P Q : List (Int × Int)} (h : ∀ z, z ∈ P → z ∈ Q) (hq : goodP Q) : goodP P := fun x hx y hy => hq x (h x hx) y (h y hy)

theorem varFit_ok {n n' : Int} {P : List (Int × Int)} (hP : goodP P) : ((varFit n n' P).1 = true ↔ goodP (P ++ [(n, n')])) ∧ ((varFit n n' P).1 = true → ∀ z, z ∈ (varFit n n' P).2 ↔ z ∈ P ++ [(n, n')]) := by
  unfold varFit
  cases h1 : fwdP P n with
  | none =>
    cases h2 : bwdP P n' with
    | none =>
      refine ⟨⟨fun _ x hx y hy => ?_, fun _ => rfl⟩, fun _ z => Iff.rfl⟩
      have a1 := fwd_none h1
      have a2 := bwd_none h2
      rcases List.mem_append.1 hx with hx | hx <;> rcases List.mem_append.1 hy with hy | hy
      · exact hP x hx y hy
      · obtain rfl : y = (n, n') := by simpa using hy
        exact ⟨fun e => absurd e (a1 x hx), fun e => absurd e (a2 x hx)⟩
      · obtain rfl : x = (n, n') := by simpa using hx
        exact ⟨fun e => absurd e.symm (a1 y hy), fun e => absurd e.symm (a2 y hy)⟩
      · obtain rfl : x = (n, n') := by simpa using hx
        obtain rfl : y = (n, n') := by simpa using hy
        simp
    | some y =>
      have m := bwd_some h2
      have a1 := fwd_none h1
      refine ⟨⟨fun h => by simp at h, fun h => ?_⟩, fun h => by simp at h⟩
      have := (h (y, n') (by simp [m]) (n, n') (by simp)).2 rfl
      exact absurd this (a1 _ m)
  | some x =>
    have m1 := fwd_some h1
    cases h2 : bwdP P n' with
    | none =>
      have a2 := bwd_none h2
      refine ⟨⟨fun h => by simp at h, fun h => ?_⟩, fun h => by simp at h⟩
      have := (h (n, x) (by simp [m1]) (n, n') (by simp)).1 rfl
      exact absurd this (a2 _ m1)
    | some y =>
      have m2 := bwd_some h2
      simp only [Bool.and_eq_true, beq_iff_eq]
      refine ⟨⟨fun ⟨e1, e2⟩ => ?_, fun h => ?_⟩, fun ⟨e1, e2⟩ z => ?_⟩
      · subst e1
        exact goodP_sub (fun z hz => by rcases List.mem_append.1 hz with hz | hz; exact hz; obtain rfl : z = _ := (by simpa using hz); exact m1) hP
      · exact ⟨(h (n, x) (by simp [m1]) (n, n') (by simp)).1 rfl, (h (y, n') (by simp [m2]) (n, n') (by simp)).2 rfl⟩
      · subst e1
        constructor
        · intro hz; exact List.mem_append_left _ hz
        · intro hz; rcases List.mem_append.1 hz with hz | hz; exact hz; obtain rfl : z = _ := (by simpa using hz); exact m1

/-- Terms without their variables' numbers. -/
abbrev bare (t : Tm) : Tm := turnT (fun _ => 0) t
abbrev bareL (l : List Tm) : List Tm := turnTL (fun _ => 0) l

theorem occ_bare_len {a b : Tm} (h : bare a = bare b) : (occ a).length = (occ b).length := by
  have := congrArg occ h
  simp only [bare, occ_turn] at this
  simpa using congrArg List.length this

theorem fairR_mk {k : Int} {s : ByteArray} {n : Int} {l : List Tm} (h : fairR (mk k s n l) = true) : fairRL l = true ∧ (k = 1 → s = ByteArray.empty ∧ l = []) := by
  simp only [fairR, Bool.and_eq_true] at h
  refine ⟨h.1.2, fun hk => ?_⟩
  subst hk
  have := kindR_var h.2
  exact ⟨this.2.2.1, List.length_eq_zero_iff.1 this.2.2.2⟩

mutual
theorem fits_ok : ∀ (a b : Tm) (P : List (Int × Int)), fairR a = true → fairR b = true → goodP P → ((fitsT a b P).1 = true ↔ bare a = bare b ∧ goodP (P ++ (occ a).zip (occ b))) ∧ ((fitsT a b P).1 = true → ∀ z, z ∈ (fitsT a b P).2 ↔ z ∈ P ++ (occ a).zip (occ b))
  | mk k s n l, mk k' s' n' l', P, fa, fb, hP => by
    have ga := fairR_mk fa
    have gb := fairR_mk fb
    have ih := fitsL_ok l l' P ga.1 gb.1 hP
    simp only [fitsT]
    by_cases h : k ≠ k' ∨ strEq s s' = false ∨ l.length ≠ l'.length
    · rw [if_pos h]
      refine ⟨⟨fun h => by simp at h, fun ⟨h1, _⟩ => ?_⟩, fun h => by simp at h⟩
      simp only [bare, turnT, Tm.mk.injEq] at h1
      have hl := congrArg List.length h1.2.2.2
      rw [turnTL_len, turnTL_len] at hl
      rcases h with h | h | h
      · exact absurd h1.1 h
      · rw [show strEq s s' = true from strEq_iff.2 h1.2.1] at h; simp at h
      · exact absurd hl h
    rw [if_neg h]
    have hk : k = k' := Classical.byContradiction fun e => h (.inl e)
    have hs : s = s' := Classical.byContradiction fun e => h (.inr (.inl (by
      cases hh : strEq s s' with
      | false => rfl
      | true => exact absurd (strEq_iff.1 hh) e)))
    have hl : l.length = l'.length := Classical.byContradiction fun e => h (.inr (.inr e))
    subst hk; subst hs
    by_cases h1 : k = 1
    · subst h1
      rw [if_neg (by simp)]
      obtain rfl := (ga.2 rfl).2
      obtain rfl := (gb.2 rfl).2
      have hv := varFit_ok (n := n) (n' := n') hP
      simp only [occ, if_true, bare, turnT, turnTL, List.zip_cons_cons, List.zip_nil_left, true_and]
      exact hv
    · rw [if_pos h1]
      simp only [bare, turnT, if_neg h1, occ, Tm.mk.injEq, true_and]
      by_cases h2 : n = n'
      · subst h2
        rw [if_neg (by simp)]
        simp only [true_and]
        exact ih hl
      · rw [if_pos h2]
        exact ⟨⟨fun h => by simp at h, fun h => absurd h.1.1 h2⟩, fun h => by simp at h⟩
theorem fitsL_ok : ∀ (a b : List Tm) (P : List (Int × Int)), fairRL a = true → fairRL b = true → goodP P → a.length = b.length → ((fitsL a b P).1 = true ↔ bareL a = bareL b ∧ goodP (P ++ (occL a).zip (occL b))) ∧ ((fitsL a b P).1 = true → ∀ z, z ∈ (fitsL a b P).2 ↔ z ∈ P ++ (occL a).zip (occL b))
  | [], [], P, _, _, hP, _ => by simp [fitsL, bareL, turnTL, occL, hP]
  | [], _ :: _, _, _, _, _, h => by simp at h
  | _ :: _, [], _, _, _, _, h => by simp at h
  | x :: a, y :: b, P, fa, fb, hP, hl => by
    simp only [fairRL, Bool.and_eq_true] at fa fb
    have h1 := fits_ok x y P fa.1 fb.1 hP
    simp only [fitsL]
    by_cases hx : (fitsT x y P).1 = true
    · rw [if_pos hx]
      have e1 := h1.1.1 hx
      have e2 := h1.2 hx
      have hg : goodP (fitsT x y P).2 := (goodP_congr e2).2 e1.2
      have h2 := fitsL_ok a b (fitsT x y P).2 fa.2 fb.2 hg (by simpa using hl)
      have hz : (occL (x :: a)).zip (occL (y :: b)) = (occ x).zip (occ y) ++ (occL a).zip (occL b) := by
        simp only [occL]; exact List.zip_append (occ_bare_len e1.1)
      have hm : ∀ z, z ∈ (fitsT x y P).2 ++ (occL a).zip (occL b) ↔ z ∈ P ++ (occL (x :: a)).zip (occL (y :: b)) := fun z => by
        rw [hz, List.mem_append, e2, ← List.append_assoc, List.mem_append (s := P ++ _)]
      refine ⟨?_, fun h z => by rw [h2.2 h, hm]⟩
      rw [h2.1, goodP_congr hm]
      simp only [bareL, turnTL, List.cons.injEq]
      rw [show turnT (fun _ => 0) x = turnT (fun _ => 0) y from e1.1]; simp
    · rw [if_neg hx]
      refine ⟨⟨fun h => absurd h hx, fun h => ?_⟩, fun h => absurd h hx⟩
      simp only [bareL, turnTL, List.cons.injEq] at h
      refine absurd (h1.1.2 ⟨h.1.1, goodP_sub (fun z hz => ?_) h.2⟩) hx
      have hz2 : (occL (x :: a)).zip (occL (y :: b)) = (occ x).zip (occ y) ++ (occL a).zip (occL b) := by
        simp only [occL]; exact List.zip_append (occ_bare_len h.1.1)
      rw [hz2, ← List.append_assoc]; exact List.mem_append_left _ hz
end

mutual
theorem bare_occ : ∀ (a b : Tm), bare a = bare b → occ a = occ b → plain a = true → plain b = true → a = b
  | mk k s n l, mk k' s' n' l', h, ho, pa, pb => by
    simp only [bare, turnT, Tm.mk.injEq] at h
    obtain ⟨rfl, rfl, hn, hl⟩ := h
    simp only [occ] at ho
    simp only [plain, Bool.and_eq_true] at pa pb
    by_cases hk : k = 1
    · subst hk
      simp only [if_true, List.cons.injEq, and_true] at ho
      have la : l = [] := by simpa using pa.1
      have lb : l' = [] := by simpa using pb.1
      rw [ho, la, lb]
    · simp only [if_neg hk] at hn ho
      rw [hn, bareL_occ l l' hl ho pa.2 pb.2]
theorem bareL_occ : ∀ (a b : List Tm), bareL a = bareL b → occL a = occL b → plainL a = true → plainL b = true → a = b
  | [], [], _, _, _, _ => rfl
  | [], _ :: _, h, _, _, _ => by simp [bareL, turnTL] at h
  | _ :: _, [], h, _, _, _ => by simp [bareL, turnTL] at h
  | x :: a, y :: b, h, ho, pa, pb => by
    simp only [bareL, turnTL, List.cons.injEq] at h
    simp only [occL] at ho
    simp only [plainL, Bool.and_eq_true] at pa pb
    obtain ⟨h1, h2⟩ := List.append_inj ho (occ_bare_len h.1)
    rw [bare_occ x y h.1 h1 pa.1 pb.1, bareL_occ a b h.2 h2 pa.2 pb.2]
end

/-- Pairs that fit make a function. -/
theorem good_fun {U V : List Int} (hl : U.length = V.length) (h : goodP (U.zip V)) : ∃ g : Int → Int, V = U.map g ∧ ∀ x ∈ U, ∀ y ∈ U, g x = g y → x = y := by
  have hz : ∀ i (h1 : i < U.length) (h2 : i < V.length), (U[i], V[i]) ∈ U.zip V := fun i h1 h2 => by
    rw [List.mem_iff_getElem]; exact ⟨i, by simp; omega, by simp⟩
  have key : ∀ i (h1 : i < U.length), (fwdP (U.zip V) U[i]).getD 0 = V[i]'(by omega) := fun i h1 => by
    have h2 : i < V.length := by omega
    cases hf : fwdP (U.zip V) U[i] with
    | none => exact absurd rfl (fwd_none hf _ (hz i h1 h2))
    | some x => exact (h _ (fwd_some hf) _ (hz i h1 h2)).1 rfl
  refine ⟨fun v => (fwdP (U.zip V) v).getD 0, ?_, ?_⟩
  · refine List.ext_getElem (by simp [hl]) fun i h1 h2 => ?_
    rw [List.getElem_map, key i (by omega)]
  · intro x hx y hy e
    obtain ⟨i, hi, rfl⟩ := List.mem_iff_getElem.1 hx
    obtain ⟨j, hj, rfl⟩ := List.mem_iff_getElem.1 hy
    simp only [key i hi, key j hj] at e
    exact (h _ (hz i hi (by omega)) _ (hz j hj (by omega))).2 e
end Tm

/-- A term with its variables numbered. -/
def numOne (t : Tm) : Tm := Tm.turnT (placeG (varsT [t])) t
theorem numOne_eq {t : Tm} (h : t.rightB = true) : numberT [t] = ([numOne t], ((varsT [t]).length : Int), 0) := by
  unfold numberT
  rw [if_pos (all_rights.2 (by simpa using h))]; rfl

theorem numOne_turn {t : Tm} {g : Int → Int} (h : t.rightB = true) (hg : ∀ v ∈ Tm.occ t, 0 ≤ g v ∧ g v < 1000000) (hi : ∀ x ∈ Tm.occ t, ∀ y ∈ Tm.occ t, g x = g y → x = y) : numOne (Tm.turnT g t) = numOne t := by
  have ho : Tm.occL [t] = Tm.occ t := by simp [Tm.occL]
  have h1 := number_turn (l := [t]) (g := g) (by simpa using h) (by rw [ho]; exact hg) (by rw [ho]; exact hi)
  have h2 := Tm.right_turn h hg
  simp only [Tm.turnTL] at h1
  rw [numOne_eq h, numOne_eq h2] at h1
  simpa using congrArg Prod.fst h1

def variantT (a b : Tm) : Bool := a.rightB && b.rightB && (Tm.fitsT a b []).1

theorem fits_num {a b : Tm} (ha : a.rightB = true) (hb : b.rightB = true) : (Tm.fitsT a b []).1 = true ↔ numOne a = numOne b := by
  have fa := right_fair ha
  have fb := right_fair hb
  have h := (Tm.fits_ok a b [] fa fb (by intro x hx; simp at hx)).1
  rw [h, List.nil_append]
  have la := one_fair fa
  have lb := one_fair fb
  have oa : Tm.occL [a] = Tm.occ a := by simp [Tm.occL]
  have ob : Tm.occL [b] = Tm.occ b := by simp [Tm.occL]
  constructor
  · rintro ⟨h1, h2⟩
    obtain ⟨g, hg, hi⟩ := Tm.good_fun (Tm.occ_bare_len h1) h2
    have e : b = Tm.turnT g a := by
      refine Tm.bare_occ _ _ ?_ (by rw [Tm.occ_turn, hg]) (Tm.fair_plain _ fb) ?_
      · show Tm.turnT _ b = Tm.turnT _ (Tm.turnT g a)
        rw [Tm.turn_comp]; exact h1.symm
      · refine Tm.fair_plain _ (Tm.fair_turn g a fa fun v hv => ?_)
        exact Tm.occ_range b fb _ (by rw [hg]; exact List.mem_map_of_mem hv)
    rw [e]
    exact (numOne_turn ha (fun v hv => Tm.occ_range b fb _ (by rw [hg]; exact List.mem_map_of_mem hv)) hi).symm
  · intro e
    unfold numOne at e
    refine ⟨?_, ?_⟩
    · have := congrArg (Tm.turnT fun _ => 0) e
      rwa [Tm.turn_comp, Tm.turn_comp] at this
    · have ho := congrArg Tm.occ e
      rw [Tm.occ_turn, Tm.occ_turn] at ho
      have hlen : (Tm.occ a).length = (Tm.occ b).length := by simpa using congrArg List.length ho
      have key : ∀ z ∈ (Tm.occ a).zip (Tm.occ b), z.1 ∈ Tm.occ a ∧ z.2 ∈ Tm.occ b ∧ placeG (varsT [a]) z.1 = placeG (varsT [b]) z.2 := fun z hz => by
        obtain ⟨i, hi, rfl⟩ := List.mem_iff_getElem.1 hz
        have hi' : i < (Tm.occ a).length ∧ i < (Tm.occ b).length := by simpa [Nat.lt_min] using hi
        rw [List.getElem_zip]
        refine ⟨List.getElem_mem _, List.getElem_mem _, ?_⟩
        have := congrArg (fun l => l[i]?) ho
        simp only [List.getElem?_map, List.getElem?_eq_getElem hi'.1, List.getElem?_eq_getElem hi'.2, Option.map_some, Option.some.injEq] at this
        exact this
      intro x hx y hy
      obtain ⟨x1, x2, x3⟩ := key x hx
      obtain ⟨y1, y2, y3⟩ := key y hy
      constructor
      · intro e1
        exact placeG_inj ((varsT_mem lb).2 (ob ▸ x2)) ((varsT_mem lb).2 (ob ▸ y2)) (by rw [← x3, ← y3, e1])
      · intro e1
        exact placeG_inj ((varsT_mem la).2 (oa ▸ x1)) ((varsT_mem la).2 (oa ▸ y1)) (by rw [x3, y3, e1])
end PSL
