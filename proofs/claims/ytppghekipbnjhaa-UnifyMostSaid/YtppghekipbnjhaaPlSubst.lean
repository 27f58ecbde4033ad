import Derived.Test.YtppghekipbnjhaaPlC
namespace PSL
open Go

/-! ### where each variable is bound first -/
def ixGo : List Int → Int → List (Int × AV) → List (Int × AV)
  | [], _, A => A
  | v :: r, i, A => ixGo r (i + 1) (if (getI A v).isSome then A else A ++ [(v, iV i)])
def ixM (V : List Int) : List (Int × AV) := ixGo V 0 []

theorem getI_app : ∀ (A B : List (Int × AV)) (v : Int), getI (A ++ B) v = match getI A v with | some x => some x | none => getI B v
  | [], B, v => rfl
  | p :: A, B, v => by
    simp only [List.cons_append, getI]
    split
    · rfl
    · exact getI_app A B v

theorem getI_ixGo : ∀ (V : List Int) (i : Int) (A : List (Int × AV)) (v : Int), 0 ≤ i → getI (ixGo V i A) v = match getI A v with | some x => some x | none => if atI V v i < 0 then none else some (iV (atI V v i))
  | [], i, A, v, _ => by
    simp only [ixGo, atI]
    cases getI A v <;> simp
  | u :: V, i, A, v, h => by
    simp only [ixGo, atI]
    rw [getI_ixGo V (i + 1) _ v (by omega)]
    by_cases hu : (getI A u).isSome = true
    · rw [if_pos hu]
      cases hv : getI A v with
      | some x => rfl
      | none =>
        have : ¬ u = v := fun e => by rw [e, hv] at hu; cases hu
        simp only [if_neg this]
    · rw [if_neg hu, getI_app]
      cases hv : getI A v with
      | some x => rfl
      | none =>
        simp only [getI]
        by_cases e : u = v
        · simp only [if_pos e]
          rw [if_neg (by omega)]
        · simp only [if_neg e]
theorem getI_ix (V : List Int) (v : Int) : getI (ixM V) v = if atI V v 0 < 0 then none else some (iV (atI V v 0)) := by
  unfold ixM; rw [getI_ixGo V 0 [] v (Int.le_refl _)]; rfl

theorem ixGo_keys : ∀ (V : List Int) (i : Int) (A : List (Int × AV)), (ixGo V i A).map (·.1) = V.foldl addV (A.map (·.1))
  | [], i, A => rfl
  | u :: V, i, A => by
    simp only [ixGo, List.foldl_cons]
    rw [ixGo_keys V (i + 1)]
    congr 1
    have key : ∀ (A : List (Int × AV)), (getI A u).isSome = (A.map (·.1)).contains u := by
      intro A
      induction A with
      | nil => rfl
      | cons p A ih =>
        simp only [getI, List.map_cons, List.contains_cons]
        by_cases h : p.1 = u
        · rw [if_pos h]; simp [h]
        · rw [if_neg h, ih]
          have : (u == p.1) = false := by simp; exact fun e => h e.symm
          rw [this, Bool.false_or]
    unfold addV
    rw [← key A]
    split <;> simp
theorem ixM_len (V : List Int) : (ixM V).length = (Tm.once V).length := by
  have := congrArg List.length (ixGo_keys V 0 [])
  simpa [ixM, Tm.once] using this

theorem foldl_len : ∀ (l a : List Int), (l.foldl addV a).length ≤ a.length + l.length ∧ ((l.foldl addV a).length = a.length + l.length → l.Nodup ∧ ∀ x ∈ l, x ∉ a)
  | [], a => by simp
  | x :: l, a => by
    have h := foldl_len l (addV a x)
    have h2 := Tm.addV_len' a x
    simp only [List.foldl_cons, List.length_cons]
    refine ⟨by omega, fun he => ?_⟩
    have h3 : (addV a x).length = a.length + 1 := by omega
    have hx : x ∉ a := fun hm => by
      unfold addV at h3; rw [if_pos (by simpa using hm)] at h3; omega
    obtain ⟨h4, h5⟩ := h.2 (by omega)
    have h6 : addV a x = a ++ [x] := by unfold addV; rw [if_neg (by simpa using hx)]
    rw [h6] at h5
    refine ⟨List.nodup_cons.2 ⟨fun hm => by have := h5 x hm; simp at this, h4⟩, fun y hy => ?_⟩
    rcases List.mem_cons.1 hy with rfl | hy
    · exact hx
    · have := h5 y hy; simp at this; exact this.1
theorem once_len {V : List Int} : ((Tm.once V).length < V.length) ↔ ¬ V.Nodup := by
  have h := foldl_len V []
  unfold Tm.once
  constructor
  · intro h1 h2
    have key : ∀ (l a : List Int), l.Nodup → (∀ x ∈ l, x ∉ a) → (l.foldl addV a).length = a.length + l.length := by
      intro l
      induction l with
      | nil => intro a _ _; simp
      | cons x l ih =>
        intro a hn hd
        have hx : addV a x = a ++ [x] := by unfold addV; rw [if_neg (by simpa using hd x (by simp))]
        rw [List.foldl_cons, hx, ih _ (List.nodup_cons.1 hn).2 fun y hy => ?_]
        · simp; omega
        · simp only [List.mem_append, List.mem_singleton, not_or]
          exact ⟨hd y (by simp [hy]), fun e => (List.nodup_cons.1 hn).1 (e ▸ hy)⟩
    have := key V [] h2 (by simp)
    simp at this; omega
  · intro h1
    rcases Nat.lt_or_ge (V.foldl addV []).length V.length with h2 | h2
    · exact h2
    · exact absurd (h.2 (by simp; have := h.1; simp at this; omega)).1 h1

/-! ### looking through -/
def dfsL (g : Nat → List Int → Bool × List Int) : List Nat → List Int → Bool × List Int
  | [], st => (true, st)
  | k :: r, st => if (g k st).1 then dfsL g r (g k st).2 else (false, (g k st).2)
def dfsF (adj : Nat → List Nat) : Nat → Nat → List Int → Bool × List Int
  | 0, _, st => (false, st)
  | f + 1, i, st => if st.getD i 0 ≠ 0 then (decide (st.getD i 0 = 2), st) else
      if (dfsL (dfsF adj f) (adj i) (st.set i 1)).1 then (true, (dfsL (dfsF adj f) (adj i) (st.set i 1)).2.set i 2) else (false, (dfsL (dfsF adj f) (adj i) (st.set i 1)).2)

def zeros (st : List Int) : Nat := st.countP (· == 0)
theorem zeros_set : ∀ (st : List Int) (i : Nat) (x : Int), x ≠ 0 → zeros (st.set i x) ≤ zeros st ∧ (i < st.length → st.getD i 0 = 0 → zeros (st.set i x) + 1 = zeros st)
  | [], i, x, _ => by simp [zeros]
  | y :: st, 0, x, hx => by
    simp only [zeros, List.set_cons_zero, List.countP_cons]
    have : (x == 0) = false := by simpa using hx
    rw [this]
    constructor
    · simp
    · intro _ h0
      have : y = 0 := by simpa using h0
      simp [this]
  | y :: st, i + 1, x, hx => by
    have h := zeros_set st i x hx
    simp only [zeros, List.set_cons_succ, List.countP_cons] at h ⊢
    refine ⟨by omega, fun h1 h2 => ?_⟩
    have := h.2 (by simpa using h1) (by simpa using h2)
    omega

theorem dfs_shape (adj : Nat → List Nat) : ∀ (f i : Nat) (st : List Int), (dfsF adj f i st).2.length = st.length ∧ zeros (dfsF adj f i st).2 ≤ zeros st := by
  intro f
  induction f with
  | zero => intro i st; exact ⟨rfl, Nat.le_refl _⟩
  | succ f ih =>
    intro i st
    have hL : ∀ (L : List Nat) (st : List Int), (dfsL (dfsF adj f) L st).2.length = st.length ∧ zeros (dfsL (dfsF adj f) L st).2 ≤ zeros st := by
      intro L
      induction L with
      | nil => intro st; exact ⟨rfl, Nat.le_refl _⟩
      | cons k r ihr =>
        intro st
        have h1 := ih k st
        have h2 := ihr (dfsF adj f k st).2
        simp only [dfsL]
        split
        · exact ⟨by rw [h2.1, h1.1], by omega⟩
        · exact h1
    have h1 := hL (adj i) (st.set i 1)
    have h2 := zeros_set st i 1 (by omega)
    simp only [dfsF]
    split
    · exact ⟨rfl, Nat.le_refl _⟩
    · split
      · have h3 := zeros_set (dfsL (dfsF adj f) (adj i) (st.set i 1)).2 i 2 (by omega)
        exact ⟨by simp [h1.1], by simp only; omega⟩
      · exact ⟨by simp [h1.1], by simp only; omega⟩

/-- No way leads round. -/
inductive Okn (adj : Nat → List Nat) : Nat → Nat → Prop
  | mk {m i : Nat} (h : ∀ k ∈ adj i, Okn adj m k) : Okn adj (m + 1) i
theorem Okn.mono {adj : Nat → List Nat} : ∀ {m i : Nat}, Okn adj m i → ∀ {m' : Nat}, m ≤ m' → Okn adj m' i := by
  intro m
  induction m with
  | zero => intro i h; cases h
  | succ m ih =>
    intro i h m' hm
    cases h with
    | mk h =>
      obtain ⟨q, rfl⟩ : ∃ q, m' = q + 1 := ⟨m' - 1, by omega⟩
      exact .mk fun k hk => ih (h k hk) (by omega)
theorem Okn.all {adj : Nat → List Nat} : ∀ {L : List Nat}, (∀ k ∈ L, ∃ m, Okn adj m k) → ∃ m, ∀ k ∈ L, Okn adj m k
  | [], _ => ⟨0, by simp⟩
  | k :: L, h => by
    obtain ⟨m, h1⟩ := h k (by simp)
    obtain ⟨m', h2⟩ := Okn.all (L := L) fun k hk => h k (by simp [hk])
    refine ⟨m + m', fun x hx => ?_⟩
    rcases List.mem_cons.1 hx with rfl | hx
    · exact h1.mono (by omega)
    · exact (h2 x hx).mono (by omega)

/-- What has been looked through leads nowhere round. -/
theorem dfs_sound (adj : Nat → List Nat) : ∀ (f i : Nat) (st : List Int), (∀ j, st.getD j 0 = 2 → ∃ m, Okn adj m j) → (∀ j, (dfsF adj f i st).2.getD j 0 = 2 → ∃ m, Okn adj m j) ∧ ((dfsF adj f i st).1 = true → ∃ m, Okn adj m i) := by
  intro f
  induction f with
  | zero => intro i st h; exact ⟨h, fun h => by cases h⟩
  | succ f ih =>
    intro i st h
    have hL : ∀ (L : List Nat) (st : List Int), (∀ j, st.getD j 0 = 2 → ∃ m, Okn adj m j) → (∀ j, (dfsL (dfsF adj f) L st).2.getD j 0 = 2 → ∃ m, Okn adj m j) ∧ ((dfsL (dfsF adj f) L st).1 = true → ∀ k ∈ L, ∃ m, Okn adj m k) := by
      intro L
      induction L with
      | nil => intro st h; exact ⟨h, by simp⟩
      | cons k r ihr =>
        intro st h
        obtain ⟨h1, h2⟩ := ih k st h
        obtain ⟨h3, h4⟩ := ihr _ h1
        simp only [dfsL]
        split
        · rename_i hk
          refine ⟨h3, fun hr x hx => ?_⟩
          rcases List.mem_cons.1 hx with rfl | hx
          · exact h2 hk
          · exact h4 hr x hx
        · exact ⟨h1, fun h => by cases h⟩
    have hset : ∀ (st : List Int) (x : Int), (∀ j, st.getD j 0 = 2 → ∃ m, Okn adj m j) → (x = 2 → ∃ m, Okn adj m i) → ∀ j, (st.set i x).getD j 0 = 2 → ∃ m, Okn adj m j := fun st x hst hx j hj => by
      by_cases e : j = i
      · subst e
        rcases Nat.lt_or_ge j st.length with hl | hl
        · rw [List.getD_eq_getElem?_getD, List.getElem?_set_self hl] at hj
          exact hx (by simpa using hj)
        · rw [List.getD_eq_getElem?_getD, List.getElem?_eq_none (by simpa using hl)] at hj
          simp at hj
      · rw [List.getD_eq_getElem?_getD, List.getElem?_set_ne (fun h => e h.symm), ← List.getD_eq_getElem?_getD] at hj
        exact hst j hj
    obtain ⟨h1, h2⟩ := hL (adj i) (st.set i 1) (hset st 1 h (by omega))
    have hi : (dfsL (dfsF adj f) (adj i) (st.set i 1)).1 = true → ∃ m, Okn adj m i := fun hr => by
      obtain ⟨m, hm⟩ := Okn.all (h2 hr)
      exact ⟨m + 1, .mk hm⟩
    simp only [dfsF]
    split
    · exact ⟨h, fun hd => h i (by simpa using hd)⟩
    · split
      · rename_i hr
        exact ⟨hset _ 2 h1 fun _ => hi hr, fun _ => hi hr⟩
      · exact ⟨h1, fun h => by cases h⟩

/-- To where a bind's term leads. -/
def adjB (l : Binds) (i : Nat) : List Nat := match l[i]? with
  | some b => (varsT [b.2]).filterMap fun v => if placeB l v < 0 then none else some (placeB l v).toNat
  | none => []
/-- All are gone through. -/
def dfsAll (adj : Nat → List Nat) (n : Nat) : List Nat → List Int → Bool
  | [], _ => true
  | i :: r, st => if (dfsF adj (n + 1) i st).1 then dfsAll adj n r (dfsF adj (n + 1) i st).2 else false
def fineB (l : Binds) : Bool := l.all fun b => decide (0 ≤ b.1) && decide (b.1 < 1000000) && b.2.rightB
/-- May a substitution be? -/
def rightS (l : Binds) : Bool := !decide ((ixM (l.map (·.1))).length < l.length) && fineB l && dfsAll (adjB l) l.length (List.range l.length) (List.replicate l.length 0)

theorem dfsAll_sound {adj : Nat → List Nat} {n : Nat} : ∀ (L : List Nat) (st : List Int), (∀ j, st.getD j 0 = 2 → ∃ m, Okn adj m j) → dfsAll adj n L st = true → ∀ i ∈ L, ∃ m, Okn adj m i
  | [], st, _, _ => by simp
  | i :: r, st, h, hr => by
    simp only [dfsAll] at hr
    obtain ⟨h1, h2⟩ := dfs_sound adj (n + 1) i st h
    split at hr
    · rename_i hi
      have h3 := dfsAll_sound r _ h1 hr
      intro x hx
      rcases List.mem_cons.1 hx with rfl | hx
      · exact h2 hi
      · exact h3 x hx
    · cases hr

theorem rightS_spec {l : Binds} (h : rightS l = true) : (l.map (·.1)).Nodup ∧ (∀ b ∈ l, 0 ≤ b.1 ∧ b.1 < 1000000 ∧ b.2.rightB = true) ∧ ∃ M, ∀ i < l.length, Okn (adjB l) M i := by
  simp only [rightS, Bool.and_eq_true, Bool.not_eq_true', decide_eq_false_iff_not] at h
  obtain ⟨⟨h1, h2⟩, h3⟩ := h
  refine ⟨?_, fun b hb => ?_, ?_⟩
  · rw [ixM_len] at h1
    have := once_len (V := l.map (·.1))
    rw [List.length_map] at this
    exact Classical.byContradiction fun hn => h1 (this.2 hn)
  · have := List.all_eq_true.1 h2 b hb
    simp only [Bool.and_eq_true, decide_eq_true_eq] at this
    exact ⟨this.1.1, this.1.2, this.2⟩
  · have h4 := dfsAll_sound _ _ (fun j hj => by
      rw [List.getD_eq_getElem?_getD, List.getElem?_replicate] at hj
      split at hj <;> simp at hj) h3
    obtain ⟨M, hM⟩ := Okn.all h4
    exact ⟨M, fun i hi => hM i (by simpa using hi)⟩
end PSL
namespace PSL
open Go
theorem ixGo_iv : ∀ (V : List Int) (i : Int) (A : List (Int × AV)), (∀ p ∈ A, ∃ n, p.2 = iV n) → ∀ p ∈ ixGo V i A, ∃ n, p.2 = iV n
  | [], _, _, h => h
  | u :: V, i, A, h => ixGo_iv V (i + 1) _ (by
    intro p hp
    split at hp
    · exact h p hp
    · rcases List.mem_append.1 hp with hp | hp
      · exact h p hp
      · simp at hp; exact ⟨i, by rw [hp]⟩)
theorem ixM_iv (V : List Int) : ∀ p ∈ ixM V, ∃ n, p.2 = iV n := ixGo_iv V 0 [] (by simp)
theorem mapOb_iv {f : AV → AV} (h : ∀ n, f (iV n) = iV n) {A : List (Int × AV)} (hA : ∀ p ∈ A, ∃ n, p.2 = iV n) : mapOb f (.map (imap A)) = .map (imap A) := by
  simp only [mapOb, imap, List.map_map]
  congr 1
  refine List.map_congr_left fun p hp => ?_
  obtain ⟨n, hn⟩ := hA p hp
  simp [hn, h]
theorem renOb_iv {f : Nat → Nat} {A : List (Int × AV)} (hA : ∀ p ∈ A, ∃ n, p.2 = iV n) : renOb f (.map (imap A)) = .map (imap A) := by
  have h := mapOb_iv (f := renA f) (fun n => rfl) hA
  simpa only [mapOb, renOb] using h
theorem placesOf {l : Binds} {i : Nat} {b : Int × Tm} (h : l[i]? = some b) : adjB l i = (varsT [b.2]).filterMap fun v => if placeB l v < 0 then none else some (placeB l v).toNat := by unfold adjB; rw [h]
theorem irows_set {st : List Int} {i : Nat} {x : Int} : (irows st).set i [.v (.int .i64 x)] = irows (st.set i x) := by simp [irows, irow, List.map_set]
end PSL
namespace PSL
open Go
theorem getI_iv : ∀ {A : List (Int × AV)} {v : Int} {x : AV}, (∀ p ∈ A, ∃ n, p.2 = iV n) → getI A v = some x → ∃ n, x = iV n
  | [], v, x, _, h => by cases h
  | p :: A, v, x, hA, h => by
    simp only [getI] at h
    split at h
    · cases h; exact hA p (by simp)
    · exact getI_iv (fun q hq => hA q (by simp [hq])) h
end PSL
