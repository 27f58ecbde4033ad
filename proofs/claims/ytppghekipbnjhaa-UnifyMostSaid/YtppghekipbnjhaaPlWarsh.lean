import Derived.Test.YtppghekipbnjhaaPlSubst2
namespace PSL
open Go

/-! ### tables -/
def rowD (n : Nat) (r : Nat → Bool) : List D := (List.range n).map fun j => .v (.bool (r j))
def tabD (n k : Nat) (c : Nat → Nat → Bool) : List (List D) := (List.range k).map fun i => rowD n (c i)
def hdN (hds : List (Nat × Nat × Nat)) (n : Nat) : List (List D) := hds.map fun x => [D.v (hdV x n)]

theorem rowD_len (n : Nat) (r : Nat → Bool) : (rowD n r).length = n := by simp [rowD]
theorem tabD_len (n k : Nat) (c : Nat → Nat → Bool) : (tabD n k c).length = k := by simp [tabD]
theorem hdN_len (hds : List (Nat × Nat × Nat)) (n : Nat) : (hdN hds n).length = hds.length := by simp [hdN]
theorem rowD_get {n j : Nat} {r : Nat → Bool} (h : j < n) : (rowD n r)[j]? = some (.v (.bool (r j))) := by
  rw [rowD, List.getElem?_map, List.getElem?_range h]; rfl
theorem tabD_get {n k i : Nat} {c : Nat → Nat → Bool} (h : i < k) : (tabD n k c)[i]? = some (rowD n (c i)) := by
  rw [tabD, List.getElem?_map, List.getElem?_range h]; rfl
theorem hdN_get {hds : List (Nat × Nat × Nat)} {n i : Nat} {y : Nat × Nat × Nat} (h : hds[i]? = some y) : (hdN hds n)[i]? = some [.v (hdV y n)] := by
  rw [hdN, List.getElem?_map, h]; rfl
theorem hdN_snoc (hds : List (Nat × Nat × Nat)) (n : Nat) (x : Nat × Nat × Nat) : hdN hds n ++ [[.v (hdV x n)]] = hdN (hds ++ [x]) n := by simp [hdN]
theorem tabD_snoc (n k : Nat) (c : Nat → Nat → Bool) : tabD n k c ++ [rowD n (c k)] = tabD n (k + 1) c := by simp [tabD, List.range_succ]
theorem rowD_congr {n : Nat} {r r' : Nat → Bool} (h : ∀ j < n, r j = r' j) : rowD n r = rowD n r' := by
  unfold rowD; refine List.map_congr_left fun j hj => ?_; rw [h j (by simpa using hj)]
theorem tabD_congr {n k : Nat} {c c' : Nat → Nat → Bool} (h : ∀ i < k, ∀ j < n, c i j = c' i j) : tabD n k c = tabD n k c' := by
  unfold tabD; refine List.map_congr_left fun i hi => rowD_congr (h i (by simpa using hi))
def upd1 (r : Nat → Bool) (p : Nat) (b : Bool) : Nat → Bool := fun j => if j = p then b else r j
def upd2 (c : Nat → Nat → Bool) (p q : Nat) (b : Bool) : Nat → Nat → Bool := fun i => if i = p then upd1 (c i) q b else c i
theorem rowD_set {n : Nat} {r : Nat → Bool} {p : Nat} {b : Bool} : (rowD n r).set p (.v (.bool b)) = rowD n (upd1 r p b) := by
  apply List.ext_getElem?
  intro j
  rw [List.getElem?_set, rowD_len]
  by_cases hj : j < n
  · rw [rowD_get hj, rowD_get hj]
    by_cases e : p = j
    · subst e; simp [hj, upd1]
    · rw [if_neg e, upd1, if_neg (fun h => e (Eq.symm h))]
  · rw [List.getElem?_eq_none (by rw [rowD_len]; omega), List.getElem?_eq_none (by rw [rowD_len]; omega)]
    split
    · rename_i e; subst e; rw [if_neg hj]
    · rfl
theorem rowD_setM {n : Nat} {r : Nat → Bool} {p : Nat} {b : Bool} : ((rowD n r).map fun d => [d]).set p [.v (.bool b)] = (rowD n (upd1 r p b)).map fun d => [d] := by
  rw [← rowD_set, List.map_set]
theorem tabD_set {n k : Nat} {c : Nat → Nat → Bool} {p q : Nat} {b : Bool} : (tabD n k c).set p ((rowD n (c p)).set q (.v (.bool b))) = tabD n k (upd2 c p q b) := by
  rw [rowD_set]
  apply List.ext_getElem?
  intro i
  rw [List.getElem?_set, tabD_len]
  by_cases hi : i < k
  · rw [tabD_get hi, tabD_get hi]
    by_cases e : p = i
    · subst e; simp [hi, upd2]
    · rw [if_neg e, upd2, if_neg (fun h => e (Eq.symm h))]
  · rw [List.getElem?_eq_none (by rw [tabD_len]; omega), List.getElem?_eq_none (by rw [tabD_len]; omega)]
    split
    · rename_i e; subst e; rw [if_neg hi]
    · rfl
theorem rowD_false (n : Nat) : List.replicate n [D.v (.bool false)] = (rowD n fun _ => false).map fun d => [d] := by
  rw [rowD, List.map_map]
  induction n with
  | zero => rfl
  | succ n ih => rw [List.replicate_succ', ih, List.range_succ]; simp
theorem hdRows_N {hds : List (Nat × Nat × Nat)} {n k : Nat} {c : Nat → Nat → Bool} (h : hds.length = k) : hdRows hds (tabD n k c) = hdN hds n := by
  apply List.ext_getElem?
  intro i
  by_cases hi : i < k
  · have hy : hds[i]? = some (hds[i]'(by omega)) := List.getElem?_eq_getElem _
    rw [hdN_get hy, hdRows, List.getElem?_map, (List.getElem?_zip_eq_some (z := (hds[i]'(by omega), rowD n (c i)))).2 ⟨hy, tabD_get hi⟩]
    simp [rowD_len]
  · rw [List.getElem?_eq_none (by simp [hdRows, tabD_len]; omega), List.getElem?_eq_none (by rw [hdN_len]; omega)]

/-! ### made whole, step by step -/
def warsh (C : Nat → Nat → Bool) : Nat → Nat → Nat → Bool
  | 0, i, j => C i j
  | k + 1, i, j => warsh C k i j || (warsh C k i k && warsh C k k j)

theorem warsh_col (C : Nat → Nat → Bool) (k i : Nat) : warsh C (k + 1) i k = warsh C k i k := by
  simp only [warsh]; cases warsh C k i k <;> simp
theorem warsh_row (C : Nat → Nat → Bool) (k j : Nat) : warsh C (k + 1) k j = warsh C k k j := by
  simp only [warsh]; cases warsh C k k j <;> simp

/-- A way of at least one step. -/
inductive Way (C : Nat → Nat → Bool) : Nat → Nat → Prop
  | one {i j : Nat} (h : C i j = true) : Way C i j
  | snoc {i j k : Nat} (h : Way C i j) (h2 : C j k = true) : Way C i k

theorem Way.trans {C : Nat → Nat → Bool} {i j k : Nat} (h : Way C i j) (h2 : Way C j k) : Way C i k := by
  induction h2 with
  | one h3 => exact .snoc h h3
  | snoc _ h3 ih => exact .snoc ih h3

theorem warsh_way (C : Nat → Nat → Bool) : ∀ (k i j : Nat), warsh C k i j = true → Way C i j
  | 0, i, j, h => .one h
  | k + 1, i, j, h => by
    simp only [warsh, Bool.or_eq_true, Bool.and_eq_true] at h
    rcases h with h | ⟨h1, h2⟩
    · exact warsh_way C k i j h
    · exact (warsh_way C k i k h1).trans (warsh_way C k k j h2)

theorem warsh_mono (C : Nat → Nat → Bool) (k i j : Nat) (h : C i j = true) : warsh C k i j = true := by
  induction k with
  | zero => exact h
  | succ k ih => simp [warsh, ih]

theorem warsh_trans (C : Nat → Nat → Bool) : ∀ (k m i j : Nat), m < k → warsh C k i m = true → warsh C k m j = true → warsh C k i j = true
  | 0, m, i, j, h, _, _ => by omega
  | k + 1, m, i, j, h, h1, h2 => by
    have ih := warsh_trans C k
    by_cases e : m = k
    · subst e
      rw [warsh_col] at h1; rw [warsh_row] at h2
      simp [warsh, h1, h2]
    · have hm : m < k := by omega
      simp only [warsh, Bool.or_eq_true, Bool.and_eq_true] at h1 h2 ⊢
      rcases h1 with h1 | ⟨h1, h1'⟩ <;> rcases h2 with h2 | ⟨h2, h2'⟩
      · exact .inl (ih m i j hm h1 h2)
      · exact .inr ⟨ih m i k hm h1 h2, h2'⟩
      · exact .inr ⟨h1, ih m k j hm h1' h2⟩
      · exact .inr ⟨h1, h2'⟩

theorem warsh_full {C : Nat → Nat → Bool} {n : Nat} (hC : ∀ i j, C i j = true → i < n ∧ j < n) {i j : Nat} (h : Way C i j) : warsh C n i j = true := by
  have hj : ∀ {i j : Nat}, Way C i j → j < n := fun h => by
    cases h with
    | one h => exact (hC _ _ h).2
    | snoc _ h => exact (hC _ _ h).2
  induction h with
  | one h => exact warsh_mono C n _ _ h
  | snoc h1 h2 ih => exact warsh_trans C n _ _ _ (hj h1) ih (warsh_mono C n _ _ h2)

/-! ### what is looked through says false at a way round alone -/
def isOpen (st : List Int) (j : Nat) : Prop := st.getD j 0 ≠ 0 ∧ st.getD j 0 ≠ 2
def edge (adj : Nat → List Nat) (i j : Nat) : Bool := (adj i).contains j

theorem open_set {st : List Int} {i j : Nat} {x : Int} (hi : i < st.length) : isOpen (st.set i x) j ↔ (if j = i then x ≠ 0 ∧ x ≠ 2 else isOpen st j) := by
  unfold isOpen
  by_cases e : j = i
  · subst e; rw [List.getD_eq_getElem?_getD, List.getElem?_set_self hi]; simp
  · rw [if_neg e, List.getD_eq_getElem?_getD, List.getElem?_set_ne (fun h => e h.symm), ← List.getD_eq_getElem?_getD]

theorem dfs_full (adj : Nat → List Nat) (n : Nat) (hadj : ∀ i, ∀ k ∈ adj i, k < n) : ∀ (f i : Nat) (st : List Int), st.length = n → i < n → zeros st < f → (∀ j, isOpen st j → Way (edge adj) j i) →
    ((dfsF adj f i st).1 = true ∧ ∀ j, isOpen (dfsF adj f i st).2 j ↔ isOpen st j) ∨ ((dfsF adj f i st).1 = false ∧ ∃ c, Way (edge adj) c c) := by
  intro f
  induction f with
  | zero => intro i st _ _ hz; omega
  | succ f ih =>
    intro i st hl hi hz hop
    simp only [dfsF]
    split
    · rename_i hne
      by_cases h2 : st.getD i 0 = 2
      · left; exact ⟨decide_eq_true h2, fun j => Iff.rfl⟩
      · right; exact ⟨by simp only [decide_eq_false h2], i, hop i ⟨hne, h2⟩⟩
    · rename_i h0
      have h0 : st.getD i 0 = 0 := by simpa using h0
      have hil : i < st.length := by omega
      have hz1 := (zeros_set st i 1 (by omega)).2 hil h0
      have hop1 : ∀ j, isOpen (st.set i 1) j → ∀ k ∈ adj i, Way (edge adj) j k := fun j hj k hk => by
        have he : edge adj i k = true := by simpa [edge] using hk
        rw [open_set hil] at hj
        by_cases e : j = i
        · subst e; exact .one he
        · rw [if_neg e] at hj; exact .snoc (hop j hj) he
      have hL : ∀ (L : List Nat) (st1 : List Int), st1.length = n → zeros st1 < f → (∀ k ∈ L, k ∈ adj i) → (∀ j, isOpen st1 j → ∀ k ∈ adj i, Way (edge adj) j k) →
          ((dfsL (dfsF adj f) L st1).1 = true ∧ ∀ j, isOpen (dfsL (dfsF adj f) L st1).2 j ↔ isOpen st1 j) ∨ ((dfsL (dfsF adj f) L st1).1 = false ∧ ∃ c, Way (edge adj) c c) := by
        intro L
        induction L with
        | nil => intro st1 _ _ _ _; exact .inl ⟨rfl, fun j => Iff.rfl⟩
        | cons k r ihr =>
          intro st1 hl1 hz1 hk hop1
          have hk1 := hk k (by simp)
          have hsh := dfs_shape adj f k st1
          simp only [dfsL]
          rcases ih k st1 hl1 (hadj i k hk1) hz1 (fun j hj => hop1 j hj k hk1) with ⟨h1, h2⟩ | ⟨h1, h2⟩
          · rw [if_pos h1]
            rcases ihr (dfsF adj f k st1).2 (by rw [hsh.1, hl1]) (by omega) (fun x hx => hk x (by simp [hx])) (fun j hj => hop1 j ((h2 j).1 hj)) with ⟨h3, h4⟩ | h3
            · exact .inl ⟨h3, fun j => (h4 j).trans (h2 j)⟩
            · exact .inr h3
          · rw [if_neg (by rw [h1]; simp)]; exact .inr ⟨rfl, h2⟩
      rcases hL (adj i) (st.set i 1) (by simp [hl]) (by omega) (fun _ h => h) hop1 with ⟨h1, h2⟩ | ⟨h1, h2⟩
      · rw [if_pos h1]
        refine .inl ⟨rfl, fun j => ?_⟩
        have hlen : ((dfsL (dfsF adj f) (adj i) (st.set i 1)).2).length = n := by
          have key : ∀ (L : List Nat) (st1 : List Int), st1.length = n → (dfsL (dfsF adj f) L st1).2.length = n := by
            intro L
            induction L with
            | nil => intro st1 h; exact h
            | cons k r ihr =>
              intro st1 h
              have hsh := dfs_shape adj f k st1
              simp only [dfsL]
              split
              · exact ihr _ (by rw [hsh.1, h])
              · rw [hsh.1, h]
          exact key _ _ (by simp [hl])
        rw [open_set (by omega)]
        by_cases e : j = i
        · subst e; rw [if_pos rfl]
          constructor
          · intro h; exact absurd rfl h.2
          · intro h; exact absurd h0 h.1
        · rw [if_neg e, h2 j, open_set hil, if_neg e]
      · rw [if_neg (by rw [h1]; simp)]; exact .inr ⟨rfl, h2⟩

theorem dfsAll_full (adj : Nat → List Nat) (n : Nat) (hadj : ∀ i, ∀ k ∈ adj i, k < n) : ∀ (L : List Nat) (st : List Int), st.length = n → (∀ i ∈ L, i < n) → (∀ j, ¬ isOpen st j) → dfsAll adj n L st = false → ∃ c, Way (edge adj) c c
  | [], st, _, _, _, h => by cases h
  | i :: r, st, hl, hL, hop, h => by
    have hz : zeros st < n + 1 := by have : zeros st ≤ st.length := List.countP_le_length; omega
    have hsh := dfs_shape adj (n + 1) i st
    simp only [dfsAll] at h
    rcases dfs_full adj n hadj (n + 1) i st hl (hL i (by simp)) hz (fun j hj => absurd hj (hop j)) with ⟨h1, h2⟩ | ⟨_, h2⟩
    · rw [if_pos h1] at h
      exact dfsAll_full adj n hadj r _ (by rw [hsh.1, hl]) (fun x hx => hL x (by simp [hx])) (fun j hj => hop j ((h2 j).1 hj)) h
    · exact h2

theorem okn_way {adj : Nat → List Nat} {i j : Nat} (h : Way (edge adj) i j) : ∀ {m : Nat}, Okn adj m i → ∃ q, q < m ∧ Okn adj q j := by
  induction h with
  | one h =>
    intro m ho
    cases ho with
    | @mk q _ ho => exact ⟨q, by omega, ho _ (by simpa [edge] using h)⟩
  | snoc _ h2 ih =>
    intro m ho
    obtain ⟨q, h3, h4⟩ := ih ho
    cases h4 with
    | @mk q' _ ho' => exact ⟨q', by omega, ho' _ (by simpa [edge] using h2)⟩
theorem okn_round {adj : Nat → List Nat} {i : Nat} (h : Way (edge adj) i i) : ∀ {m : Nat}, ¬ Okn adj m i := by
  intro m
  induction m using Nat.strongRecOn with
  | ind m ih => intro ho; obtain ⟨q, h1, h2⟩ := okn_way h ho; exact ih q h1 h2

theorem adjB_lt {B : Binds} {i k : Nat} (h : k ∈ adjB B i) : k < B.length := by
  unfold adjB at h
  split at h
  · simp only [List.mem_filterMap] at h
    obtain ⟨v, _, h2⟩ := h
    split at h2
    · cases h2
    · rename_i hp
      cases h2
      rcases placeB_find B v with ⟨h3, _⟩ | ⟨j, t, h3, h4, _⟩
      · omega
      · rw [h3]; have := (List.getElem?_eq_some_iff.1 h4).1; simpa using this
  · simp at h
theorem adjB_lt' {B : Binds} {i k : Nat} (h : k ∈ adjB B i) : i < B.length := by
  unfold adjB at h
  split at h
  · rename_i b hb; exact (List.getElem?_eq_some_iff.1 hb).1
  · simp at h

/-- Is the bind at a place one that may be? -/
def okAt (B : Binds) (i : Nat) : Bool := match B[i]? with
  | some b => decide (0 ≤ b.1) && decide (b.1 < 1000000) && decide (placeB B b.1 = i) && b.2.rightB
  | none => true
def rightR (B : Binds) : Bool := (List.range B.length).all (okAt B) && (List.range B.length).all fun i => !warsh (edge (adjB B)) B.length i i

theorem placeB_eq (B : Binds) (v : Int) : placeB B v = atI (B.map (·.1)) v 0 := rfl

theorem findB_nil : ∀ {B : Binds} {v : Int}, findB B v = none → ∀ b ∈ B, b.1 ≠ v
  | [], _, _, b, hb => by simp at hb
  | c :: B, v, h, b, hb => by
    rw [findB_cons] at h
    split at h
    · cases h
    · rename_i hc
      rcases List.mem_cons.1 hb with rfl | hb
      · exact hc
      · exact findB_nil h b hb

theorem nodup_place {B : Binds} : (B.map (·.1)).Nodup ↔ ∀ (i : Nat) (b : Int × Tm), B[i]? = some b → placeB B b.1 = i := by
  constructor
  · intro hn i b hb
    rcases placeB_find B b.1 with ⟨_, h2⟩ | ⟨j, t, h1, h2, _⟩
    · exact absurd rfl (findB_nil h2 b (List.mem_of_getElem? hb))
    · rw [h1]
      have e1 : (B.map (·.1))[i]? = some b.1 := by rw [List.getElem?_map, hb]; rfl
      have e2 : (B.map (·.1))[j]? = some b.1 := by rw [List.getElem?_map, h2]; rfl
      obtain ⟨l1, e1⟩ := List.getElem?_eq_some_iff.1 e1
      obtain ⟨l2, e2⟩ := List.getElem?_eq_some_iff.1 e2
      have := (List.getElem_inj hn).1 (e2.trans e1.symm)
      omega
  · intro h
    have hB : ∀ k, (h : k < B.length) → placeB B (B[k]).1 = k := fun k hk => h k _ (List.getElem?_eq_getElem hk)
    refine List.pairwise_iff_getElem.2 fun i j hi hj hij he => ?_
    simp only [List.getElem_map] at he
    have g1 := hB i (by simpa using hi)
    have g2 := hB j (by simpa using hj)
    rw [he, g2] at g1
    omega

theorem rightR_eq (B : Binds) : rightR B = rightS B := by
  have hadj : ∀ i, ∀ k ∈ adjB B i, k < B.length := fun i k hk => adjB_lt hk
  have hE : ∀ i j, edge (adjB B) i j = true → i < B.length ∧ j < B.length := fun i j h => by
    have h : j ∈ adjB B i := by simpa [edge] using h
    exact ⟨adjB_lt' h, adjB_lt h⟩
  have hA : ((List.range B.length).all fun i => !warsh (edge (adjB B)) B.length i i) = dfsAll (adjB B) B.length (List.range B.length) (List.replicate B.length 0) := by
    have h0 : ∀ j, (List.replicate B.length (0 : Int)).getD j 0 = 0 := fun j => by
      rw [List.getD_eq_getElem?_getD, List.getElem?_replicate]; split <;> rfl
    rw [Bool.eq_iff_iff]
    constructor
    · intro h
      cases hd : dfsAll (adjB B) B.length (List.range B.length) (List.replicate B.length 0) with
      | true => rfl
      | false =>
        obtain ⟨c, hc⟩ := dfsAll_full (adjB B) B.length hadj _ _ (by simp) (by simp) (fun j hj => hj.1 (h0 j)) hd
        have hcl : c < B.length := by
          have key : ∀ {i j : Nat}, Way (edge (adjB B)) i j → j < B.length := fun h => by
            cases h with
            | one h => exact (hE _ _ h).2
            | snoc _ h => exact (hE _ _ h).2
          exact key hc
        have h1 := List.all_eq_true.1 h c (by simpa using hcl)
        rw [warsh_full hE hc] at h1; cases h1
    · intro h
      rw [List.all_eq_true]
      intro i hi
      obtain ⟨m, hm⟩ := dfsAll_sound _ _ (fun j hj => by rw [h0] at hj; cases hj) h i hi
      cases hw : warsh (edge (adjB B)) B.length i i with
      | false => rfl
      | true => exact absurd hm (okn_round (warsh_way _ _ _ _ hw))
  have hF : (List.range B.length).all (okAt B) = (!decide ((ixM (B.map (·.1))).length < B.length) && fineB B) := by
    have hn : (!decide ((ixM (B.map (·.1))).length < B.length)) = true ↔ (B.map (·.1)).Nodup := by
      have := once_len (V := B.map (·.1))
      rw [List.length_map, ← ixM_len] at this
      simp only [Bool.not_eq_true', decide_eq_false_iff_not]
      rw [this]; exact Classical.not_not
    rw [Bool.eq_iff_iff, Bool.and_eq_true, hn, nodup_place, List.all_eq_true, fineB, List.all_eq_true]
    constructor
    · intro h
      have key : ∀ (i : Nat) (b : Int × Tm), B[i]? = some b → (0 ≤ b.1 ∧ b.1 < 1000000) ∧ placeB B b.1 = i ∧ b.2.rightB = true := fun i b hb => by
        have := h i (by simp; exact (List.getElem?_eq_some_iff.1 hb).1)
        rw [okAt, hb] at this
        simp only [Bool.and_eq_true, decide_eq_true_eq] at this
        exact ⟨this.1.1, this.1.2, this.2⟩
      refine ⟨fun i b hb => (key i b hb).2.1, fun b hb => ?_⟩
      obtain ⟨i, hi⟩ := List.mem_iff_getElem?.1 hb
      obtain ⟨h1, _, h3⟩ := key i b hi
      simp [h1.1, h1.2, h3]
    · rintro ⟨h1, h2⟩ i hi
      have hil : i < B.length := by simpa using hi
      have hb : B[i]? = some (B[i]'hil) := List.getElem?_eq_getElem _
      have h3 := h2 _ (List.mem_of_getElem? hb)
      simp only [Bool.and_eq_true, decide_eq_true_eq] at h3
      rw [okAt, hb]
      simp only [Bool.and_eq_true, decide_eq_true_eq]
      exact ⟨⟨h3.1, h1 i _ hb⟩, h3.2⟩
  rw [rightR, hA, hF, rightS]
end PSL
