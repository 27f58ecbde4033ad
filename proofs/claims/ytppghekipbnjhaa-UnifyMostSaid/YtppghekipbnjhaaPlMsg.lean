import Derived.Test.YtppghekipbnjhaaPlC
namespace PSL
open Go

abbrev Prs := List (Tm × Tm)
def prsRow (p : Tm × Tm) : List D := Tm.row p.1 ++ Tm.row p.2
def prsRows (M : Prs) : List (List D) := M.map prsRow
theorem prsRows_len (l : Prs) : (prsRows l).length = l.length := by simp [prsRows]
theorem prsRows_get {l : Prs} {i : Nat} {x : Tm × Tm} (h : l[i]? = some x) : (prsRows l)[i]? = some (prsRow x) := by simp [prsRows, h]
theorem prsRows_sz (l : Prs) : ∀ r ∈ prsRows l, r.length = 8 := by
  intro r hr; simp only [prsRows, List.mem_map] at hr; obtain ⟨p, _, rfl⟩ := hr; rfl
theorem prsRows_one1 (l : Prs) : ∀ r ∈ prsRows l, ∀ x ∈ r, one1 (.d x) = true := by
  intro r hr x hx; simp only [prsRows, List.mem_map] at hr; obtain ⟨p, _, rfl⟩ := hr
  simp only [prsRow, Tm.row, List.cons_append, List.nil_append, List.mem_cons, List.not_mem_nil, or_false] at hx
  rcases hx with rfl | rfl | rfl | rfl | rfl | rfl | rfl | rfl <;> rfl
/-- The result's cell is written beside the reading of the pairs. -/
def pfO : Nat → Cls := fun f => bif Nat.beq f 4000100006 then .look 103 else bif Nat.beq f 4000300015 then .look 103 else bif Nat.beq f 4000200004 then .turn 102 else .still
theorem prsRows_app (a b : Prs) : prsRows a ++ prsRows b = prsRows (a ++ b) := by simp [prsRows]
/-- Loads of the row of what is made, beside the calls that turn the pairs. -/
def pfM : Nat → Cls := fun f => bif Nat.beq f 4000100060 then .look 4 else bif Nat.beq f 4000000008 then .turn 3 else .eff
/-- The place of two terms in a row of pairs. -/
def atP : Prs → Tm → Tm → Int → Int
  | [], _, _, _ => -1
  | p :: r, a, b, i => if Tm.same p.1 a && Tm.same p.2 b then i else atP r a b (i + 1)

def like (a b : Tm) : Bool := !(a.k == 1) && a.k == b.k && a.n == b.n && strEq a.s b.s && decide (a.l.length = b.l.length)
theorem like_iff {a b : Tm} : like a b = true ↔ a.k ≠ 1 ∧ a.k = b.k ∧ a.n = b.n ∧ a.s = b.s ∧ a.l.length = b.l.length := by
  simp [like, Tm.strEq_iff, and_assoc]

theorem atP_spec : ∀ (M : Prs) (a b : Tm) (i : Int), 0 ≤ i → (atP M a b i = -1 ∧ (a, b) ∉ M) ∨ (∃ k : Nat, atP M a b i = i + k ∧ M[k]? = some (a, b))
  | [], a, b, i, _ => .inl ⟨rfl, by simp⟩
  | p :: r, a, b, i, h => by
    simp only [atP]
    by_cases hp : (Tm.same p.1 a && Tm.same p.2 b) = true
    · rw [if_pos hp]
      simp only [Bool.and_eq_true, Tm.same_iff] at hp
      refine .inr ⟨0, by omega, ?_⟩
      simp [← hp.1, ← hp.2]
    · rw [if_neg hp]
      simp only [Bool.and_eq_true, Tm.same_iff] at hp
      rcases atP_spec r a b (i + 1) (by omega) with ⟨h1, h2⟩ | ⟨k, h1, h2⟩
      · refine .inl ⟨h1, fun hm => ?_⟩
        rcases List.mem_cons.1 hm with rfl | hm
        · exact hp ⟨rfl, rfl⟩
        · exact h2 hm
      · exact .inr ⟨k + 1, by omega, by simpa using h2⟩

theorem atP_app : ∀ (M Q : Prs) (a b : Tm) (i : Int), 0 ≤ i → atP (M ++ Q) a b i = if atP M a b i < 0 then atP Q a b (i + M.length) else atP M a b i
  | [], Q, a, b, i, _ => by simp [atP]
  | p :: r, Q, a, b, i, h => by
    simp only [List.cons_append, atP]
    by_cases hp : (Tm.same p.1 a && Tm.same p.2 b) = true
    · simp only [hp, if_true]; rw [if_neg (by omega)]
    · simp only [hp, if_false, Bool.false_eq_true]
      rw [atP_app r Q a b (i + 1) (by omega)]
      simp only [List.length_cons]
      rw [show i + 1 + (r.length : Int) = i + ((r.length + 1 : Nat) : Int) by omega]

theorem atP_new {M : Prs} {a b : Tm} (Q : Prs) (h : atP M a b 0 < 0) : atP (M ++ (a, b) :: Q) a b 0 = M.length := by
  rw [atP_app M _ a b 0 (Int.le_refl _), if_pos h]
  simp [atP, Tm.same_refl]

namespace Tm
mutual
/-- What two terms have in common, step by step. -/
def bothT : Tm → Tm → Prs → Tm × Prs
  | mk k s n l, b, M =>
    if like (mk k s n l) b then (mk k s n (bothTL l b.l M).1, (bothTL l b.l M).2)
    else if atP M (mk k s n l) b 0 < 0 then (vT M.length, M ++ [(mk k s n l, b)]) else (vT (atP M (mk k s n l) b 0), M)
def bothTL : List Tm → List Tm → Prs → List Tm × Prs
  | x :: l, y :: m, M => ((bothT x y M).1 :: (bothTL l m (bothT x y M).2).1, (bothTL l m (bothT x y M).2).2)
  | _, _, M => ([], M)
end
theorem bothT_eq (a b : Tm) (M : Prs) : bothT a b M = if like a b then (mk a.k a.s a.n (bothTL a.l b.l M).1, (bothTL a.l b.l M).2)
    else if atP M a b 0 < 0 then (vT M.length, M ++ [(a, b)]) else (vT (atP M a b 0), M) := by cases a; simp only [bothT]; rfl

mutual
/-- The pairs that differ, behind others. -/
def pairsT : Tm → Tm → Prs → Prs
  | mk k s n l, b, M => if like (mk k s n l) b then pairsTL l b.l M else if atP M (mk k s n l) b 0 < 0 then M ++ [(mk k s n l, b)] else M
def pairsTL : List Tm → List Tm → Prs → Prs
  | x :: l, y :: m, M => pairsTL l m (pairsT x y M)
  | _, _, M => M
end
theorem pairsT_eq (a b : Tm) (M : Prs) : pairsT a b M = if like a b then pairsTL a.l b.l M else if atP M a b 0 < 0 then M ++ [(a, b)] else M := by cases a; simp only [pairsT]; rfl

mutual
/-- What pairs make of two terms. -/
def buildT (M : Prs) : Tm → Tm → Tm
  | mk k s n l, b => if like (mk k s n l) b then mk k s n (buildTL M l b.l) else vT (atP M (mk k s n l) b 0)
def buildTL (M : Prs) : List Tm → List Tm → List Tm
  | x :: l, y :: m => buildT M x y :: buildTL M l m
  | _, _ => []
end
theorem buildT_eq (M : Prs) (a b : Tm) : buildT M a b = if like a b then mk a.k a.s a.n (buildTL M a.l b.l) else vT (atP M a b 0) := by cases a; simp only [buildT]; rfl

mutual
theorem both_pairs : ∀ (a b : Tm) (M : Prs), (bothT a b M).2 = pairsT a b M ∧ ∃ Q, pairsT a b M = M ++ Q ∧ Q.length ≤ a.size
  | mk k s n l, b, M => by
    simp only [bothT, pairsT, size]
    split
    · obtain ⟨h1, Q, h2, h3⟩ := bothL_pairs l b.l M
      exact ⟨h1, Q, h2, by omega⟩
    · split
      · exact ⟨rfl, _, rfl, by simp⟩
      · exact ⟨rfl, [], by simp, by simp⟩
theorem bothL_pairs : ∀ (l m : List Tm) (M : Prs), (bothTL l m M).2 = pairsTL l m M ∧ ∃ Q, pairsTL l m M = M ++ Q ∧ Q.length ≤ sizeL l
  | [], m, M => by cases m <;> exact ⟨rfl, [], by simp [pairsTL], by simp⟩
  | x :: l, [], M => ⟨rfl, [], by simp [pairsTL], by simp⟩
  | x :: l, y :: m, M => by
    obtain ⟨h1, Q, h2, h3⟩ := both_pairs x y M
    obtain ⟨h4, Q', h5, h6⟩ := bothL_pairs l m (bothT x y M).2
    simp only [bothTL, pairsTL, sizeL]
    rw [h1] at h4 h5 ⊢
    exact ⟨h4, Q ++ Q', by rw [h5, h2]; simp, by simp; omega⟩
end

mutual
theorem both_mem : ∀ (a b : Tm) (M : Prs), ∀ p ∈ (bothT a b M).2, p ∈ M ∨ (p.1.size ≤ a.size ∧ p.2.size ≤ b.size)
  | mk k s n l, b, M => by
    have hb := size_eq b
    intro p hp
    simp only [bothT] at hp
    simp only [size]
    split at hp
    · rcases bothL_mem l b.l M p hp with h | h
      · exact .inl h
      · exact .inr (by omega)
    · split at hp
      · rcases List.mem_append.1 hp with h | h
        · exact .inl h
        · simp at h; subst h; exact .inr ⟨by simp [size], Nat.le_refl _⟩
      · exact .inl hp
theorem bothL_mem : ∀ (l m : List Tm) (M : Prs), ∀ p ∈ (bothTL l m M).2, p ∈ M ∨ (p.1.size ≤ sizeL l ∧ p.2.size ≤ sizeL m)
  | [], m, M => by intro p hp; cases m <;> exact .inl hp
  | x :: l, [], M => by intro p hp; exact .inl hp
  | x :: l, y :: m, M => by
    intro p hp
    simp only [bothTL] at hp
    simp only [sizeL]
    rcases bothL_mem l m _ p hp with h | h
    · rcases both_mem x y M p h with h | h
      · exact .inl h
      · exact .inr (by omega)
    · exact .inr (by omega)
end

theorem both_grow (a b : Tm) (M : Prs) : ∃ Q, (bothT a b M).2 = M ++ Q ∧ Q.length ≤ a.size := by
  obtain ⟨h1, h2⟩ := both_pairs a b M
  rw [h1]; exact h2
theorem bothL_grow (a b : List Tm) (M : Prs) : ∃ Q, (bothTL a b M).2 = M ++ Q ∧ Q.length ≤ sizeL a := by
  obtain ⟨h1, h2⟩ := bothL_pairs a b M
  rw [h1]; exact h2

mutual
theorem both_build : ∀ (a b : Tm) (M Q : Prs), buildT ((bothT a b M).2 ++ Q) a b = (bothT a b M).1
  | mk k s n l, b, M, Q => by
    simp only [bothT, buildT]
    split
    · rw [bothL_build l b.l M Q]
    · split
      · rename_i h
        rw [List.append_assoc, List.singleton_append, atP_new Q h]
      · rename_i h
        rw [atP_app M Q _ _ 0 (Int.le_refl _), if_neg h]
theorem bothL_build : ∀ (l m : List Tm) (M Q : Prs), buildTL ((bothTL l m M).2 ++ Q) l m = (bothTL l m M).1
  | [], m, M, Q => by cases m <;> rfl
  | x :: l, [], M, Q => rfl
  | x :: l, y :: m, M, Q => by
    simp only [bothTL, buildTL]
    obtain ⟨Q', h, _⟩ := bothL_grow l m (bothT x y M).2
    rw [bothL_build l m (bothT x y M).2 Q, h, List.append_assoc, both_build x y M (Q' ++ Q)]
end

mutual
theorem both_size : ∀ (a b : Tm) (M : Prs), (bothT a b M).1.size ≤ a.size ∧ (bothT a b M).1.size ≤ b.size ∧ (bothT a b M).1.depth ≤ a.depth ∧ (bothT a b M).1.depth ≤ b.depth
  | mk k s n l, b, M => by
    have h1 := size_eq b
    have h2 := depth_eq b
    simp only [bothT]
    split
    · rename_i hk
      obtain ⟨_, _, _, _, hl⟩ := like_iff.1 hk
      have := bothL_size l b.l M hl
      simp only [size, depth]; omega
    · split <;> simp only [vT, size, sizeL, depth, depthL] <;> omega
theorem bothL_size : ∀ (l m : List Tm) (M : Prs), l.length = m.length → sizeL (bothTL l m M).1 ≤ sizeL l ∧ sizeL (bothTL l m M).1 ≤ sizeL m ∧ depthL (bothTL l m M).1 ≤ depthL l ∧ depthL (bothTL l m M).1 ≤ depthL m
  | [], m, M, h => by cases m <;> simp [bothTL, sizeL, depthL]
  | x :: l, [], M, h => by simp at h
  | x :: l, y :: m, M, h => by
    have h1 := both_size x y M
    have h2 := bothL_size l m (bothT x y M).2 (by simpa using h)
    simp only [bothTL, sizeL, depthL]; omega
end

theorem bothL_len : ∀ (l m : List Tm) (M : Prs), l.length = m.length → (bothTL l m M).1.length = l.length
  | [], m, M, h => by cases m <;> simp [bothTL]
  | x :: l, [], M, h => by simp at h
  | x :: l, y :: m, M, h => by simp only [bothTL, List.length_cons, bothL_len l m _ (by simpa using h)]

theorem vT_fair {n : Int} (h0 : 0 ≤ n) (h1 : n < 1000000) : fairR (vT n) = true := by
  have e : strEq ByteArray.empty ⟨#[]⟩ = true := strEq_iff.2 rfl
  have e2 : ByteArray.empty.data.toList.all byteOk = true := rfl
  simp only [vT, fairR, fairRL, kindR, e, e2]
  simp
  omega

mutual
theorem both_fair : ∀ (a b : Tm) (M : Prs), fairR a = true → M.length + a.size ≤ 1000000 → fairR (bothT a b M).1 = true
  | mk k s n l, b, M, h, hM => by
    simp only [bothT]
    simp only [size] at hM
    split
    · rename_i hk
      obtain ⟨_, _, _, _, hl⟩ := like_iff.1 hk
      simp only [fairR, Bool.and_eq_true] at h ⊢
      refine ⟨⟨h.1.1, bothL_fair l b.l M h.1.2 (by omega)⟩, ?_⟩
      rw [bothL_len l b.l M hl]; exact h.2
    · split
      · exact vT_fair (by omega) (by omega)
      · rename_i h2
        rcases atP_spec M (mk k s n l) b 0 (Int.le_refl _) with ⟨h3, _⟩ | ⟨j, h3, h4⟩
        · omega
        · have := (List.getElem?_eq_some_iff.1 h4).1
          exact vT_fair (by omega) (by omega)
theorem bothL_fair : ∀ (l m : List Tm) (M : Prs), fairRL l = true → M.length + sizeL l ≤ 1000000 → fairRL (bothTL l m M).1 = true
  | [], m, M, h, hM => by cases m <;> simp [bothTL, fairRL]
  | x :: l, [], M, h, hM => by simp [bothTL, fairRL]
  | x :: l, y :: m, M, h, hM => by
    simp only [fairRL, Bool.and_eq_true] at h
    simp only [sizeL] at hM
    obtain ⟨Q, h1, h2⟩ := both_grow x y M
    simp only [bothTL, fairRL, Bool.and_eq_true]
    exact ⟨both_fair x y M h.1 (by omega), bothL_fair l m _ h.2 (by rw [h1]; simp; omega)⟩
end

theorem both_right {a b : Tm} (ha : a.rightB = true) : (bothT a b []).1.rightB = true := by
  obtain ⟨h1, h2, h3⟩ := rightB_iff.1 ha
  have := both_size a b []
  exact rightB_iff.2 ⟨both_fair a b [] h1 (by simp; omega), by omega, by omega⟩

mutual
/-- Both are instances of it. -/
theorem both_inst (σ τ : Int → Tm) : ∀ (a b : Tm) (M : Prs), (∀ (k : Nat) (p : Tm × Tm), (bothT a b M).2[k]? = some p → σ k = p.1 ∧ τ k = p.2) → putF σ (bothT a b M).1 = a ∧ putF τ (bothT a b M).1 = b
  | mk k s n l, b, M, h => by
    simp only [bothT] at h ⊢
    split at h
    · rename_i hk
      rw [if_pos hk]
      obtain ⟨h1, h2, h3, h4, h5⟩ := like_iff.1 hk
      obtain ⟨h6, h7⟩ := bothL_inst σ τ l b.l M h5 h
      simp only [Tm.k, Tm.n, Tm.s] at h1 h2 h3 h4
      simp only [putF, if_neg h1, h6, h7, true_and]
      cases b; simp only [Tm.k, Tm.n, Tm.s, Tm.l] at *; rw [h2, h3, h4]
    · rename_i hk
      rw [if_neg hk]
      split at h
      · rename_i h0
        rw [if_pos h0]
        have := h M.length (mk k s n l, b) (by simp)
        simp only [putF, vT, if_true]; exact this
      · rename_i h0
        rw [if_neg h0]
        rcases atP_spec M (mk k s n l) b 0 (Int.le_refl _) with ⟨h3, _⟩ | ⟨j, h3, h4⟩
        · omega
        · have := h j _ h4
          rw [h3, Int.zero_add]
          simp only [putF, vT, if_true]; exact this
theorem bothL_inst (σ τ : Int → Tm) : ∀ (l m : List Tm) (M : Prs), l.length = m.length → (∀ (k : Nat) (p : Tm × Tm), (bothTL l m M).2[k]? = some p → σ k = p.1 ∧ τ k = p.2) → putFL σ (bothTL l m M).1 = l ∧ putFL τ (bothTL l m M).1 = m
  | [], m, M, h, _ => by cases m with
    | nil => exact ⟨rfl, rfl⟩
    | cons _ _ => simp at h
  | x :: l, [], M, h, _ => by simp at h
  | x :: l, y :: m, M, h, hM => by
    simp only [bothTL] at hM ⊢
    obtain ⟨Q, h1, _⟩ := bothL_grow l m (bothT x y M).2
    obtain ⟨h2, h3⟩ := both_inst σ τ x y M fun k p hp => hM k p (by rw [h1, List.getElem?_append_left (List.getElem?_eq_some_iff.1 hp).1]; exact hp)
    obtain ⟨h4, h5⟩ := bothL_inst σ τ l m (bothT x y M).2 (by simpa using h) hM
    simp only [putFL, h2, h3, h4, h5, true_and]
end

theorem both_left (a b : Tm) : ∃ σ, a = putF σ (bothT a b []).1 :=
  ⟨fun v => (((bothT a b []).2[v.toNat]?).getD (a, a)).1, ((both_inst _ (fun v => (((bothT a b []).2[v.toNat]?).getD (a, a)).2) a b [] fun k p hp => by simp [hp]).1).symm⟩
theorem both_rgt (a b : Tm) : ∃ σ, b = putF σ (bothT a b []).1 :=
  ⟨fun v => (((bothT a b []).2[v.toNat]?).getD (a, a)).2, ((both_inst (fun v => (((bothT a b []).2[v.toNat]?).getD (a, a)).1) _ a b [] fun k p hp => by simp [hp]).2).symm⟩

mutual
theorem build_put (M : Prs) (α β : Int → Tm) : ∀ (c : Tm), buildT M (putF α c) (putF β c) = putF (fun v => buildT M (α v) (β v)) c
  | mk k s n l => by
    by_cases hk : k = 1
    · simp only [putF, if_pos hk]
    · simp only [putF, if_neg hk]
      rw [buildT_eq, if_pos ((like_iff (a := mk k s n (putFL α l)) (b := mk k s n (putFL β l))).2 ⟨hk, rfl, rfl, rfl, by simp only [Tm.l, putFL_len]⟩)]
      simp only [Tm.k, Tm.n, Tm.s, Tm.l, build_putL M α β l]
theorem build_putL (M : Prs) (α β : Int → Tm) : ∀ (l : List Tm), buildTL M (putFL α l) (putFL β l) = putFL (fun v => buildT M (α v) (β v)) l
  | [] => rfl
  | x :: l => by simp only [putFL, buildTL, build_put M α β x, build_putL M α β l]
end

/-- It is an instance of what both are instances of. -/
theorem both_least {a b c : Tm} (ha : ∃ σ, a = putF σ c) (hb : ∃ σ, b = putF σ c) : ∃ σ, (bothT a b []).1 = putF σ c := by
  obtain ⟨α, rfl⟩ := ha
  obtain ⟨β, rfl⟩ := hb
  have := both_build (putF α c) (putF β c) [] []
  rw [List.append_nil, build_put] at this
  exact ⟨_, this.symm⟩

theorem like_swap (a b : Tm) : like b a = like a b := by
  rw [Bool.eq_iff_iff, like_iff, like_iff]
  constructor <;> rintro ⟨h1, h2, h3, h4, h5⟩ <;> exact ⟨by rw [← h2]; exact h1, h2.symm, h3.symm, h4.symm, h5.symm⟩
theorem atP_swap : ∀ (M : Prs) (a b : Tm) (i : Int), atP (M.map Prod.swap) b a i = atP M a b i
  | [], _, _, _ => rfl
  | p :: r, a, b, i => by simp only [List.map_cons, atP, Prod.fst_swap, Prod.snd_swap, Bool.and_comm, atP_swap r a b (i + 1)]

mutual
theorem both_swap : ∀ (a b : Tm) (M : Prs), bothT b a (M.map Prod.swap) = ((bothT a b M).1, (bothT a b M).2.map Prod.swap)
  | mk k s n l, b, M => by
    rw [bothT_eq b, bothT_eq (mk k s n l), like_swap, atP_swap]
    split
    · rename_i hk
      obtain ⟨h1, h2, h3, h4, h5⟩ := like_iff.1 hk
      have := bothL_swap l b.l M h5
      simp only [Tm.l] at *
      rw [this, h2, h3, h4]
    · split
      · simp
      · rfl
theorem bothL_swap : ∀ (l m : List Tm) (M : Prs), l.length = m.length → bothTL m l (M.map Prod.swap) = ((bothTL l m M).1, (bothTL l m M).2.map Prod.swap)
  | [], m, M, h => by cases m with
    | nil => rfl
    | cons _ _ => simp at h
  | x :: l, [], M, h => by simp at h
  | x :: l, y :: m, M, h => by
    simp only [bothTL]
    rw [both_swap x y M]
    simp only
    rw [bothL_swap l m _ (by simpa using h)]
end

/-- It is the same in both orders. -/
theorem both_turn (a b : Tm) : (bothT b a []).1 = (bothT a b []).1 := by
  have := both_swap a b []
  simp only [List.map_nil] at this
  rw [this]

theorem atP_var (σ : Int → Tm) (n : Int) : ∀ (V : List Int) (i : Int), atP (V.map fun v => (vT v, σ v)) (vT n) (σ n) i = atI V n i
  | [], _ => rfl
  | v :: V, i => by
    simp only [List.map_cons, atP, atI]
    have : (same (vT v) (vT n) && same (σ v) (σ n)) = (v == n) := by
      rw [Bool.eq_iff_iff]
      simp only [Bool.and_eq_true, same_iff, beq_iff_eq, vT, mk.injEq, true_and, and_true]
      exact ⟨fun h => h.1, fun h => ⟨h, by rw [h]⟩⟩
    rw [this, atP_var σ n V (i + 1)]
    by_cases h : v = n <;> simp [h]

theorem foldl_addV_app : ∀ (l V : List Int), ∃ Q, l.foldl addV V = V ++ Q
  | [], V => ⟨[], by simp⟩
  | x :: l, V => by
    obtain ⟨Q, h⟩ := foldl_addV_app l (addV V x)
    rw [List.foldl_cons, h]
    unfold addV
    split
    · exact ⟨Q, rfl⟩
    · exact ⟨[x] ++ Q, by simp⟩

mutual
/-- A term and an instance of it: the term, numbered. -/
theorem both_put (σ : Int → Tm) : ∀ (a : Tm) (V Q : List Int), fairR a = true → bothT a (putF σ a) (V.map fun v => (vT v, σ v)) = (turnT (fun v => atI ((occ a).foldl addV V ++ Q) v 0) a, ((occ a).foldl addV V).map fun v => (vT v, σ v))
  | mk k s n l, V, Q, h => by
    have hf := fairR_mk h
    by_cases hk : k = 1
    · obtain ⟨rfl, rfl⟩ := hf.2 hk
      subst hk
      have e : mk 1 ByteArray.empty n [] = vT n := rfl
      have hnl : like (vT n) (σ n) = false := by
        cases hc : like (vT n) (σ n) with
        | false => rfl
        | true => exact absurd rfl (like_iff.1 hc).1
      simp only [occ, putF, if_true, List.foldl_cons, List.foldl_nil, turnT, turnTL]
      rw [e, bothT_eq, hnl]
      simp only [Bool.false_eq_true, if_false, atP_var, List.length_map]
      unfold addV
      by_cases hm : n ∈ V
      · have := atI_mem 0 hm
        rw [if_neg (by omega), if_pos (by simpa using hm), atI_app _ _ _ _ (Int.le_refl _), if_neg (by omega)]
        rfl
      · have := atI_not_mem (i := 0) hm
        rw [if_pos (by omega), if_neg (by simpa using hm), List.append_assoc, atI_app _ _ _ _ (Int.le_refl _), if_pos (by omega)]
        simp [atI, vT]
    · simp only [putF, occ, if_neg hk, turnT]
      rw [bothT_eq, if_pos ((like_iff (a := mk k s n l) (b := mk k s n (putFL σ l))).2 ⟨hk, rfl, rfl, rfl, by simp only [Tm.l, putFL_len]⟩)]
      simp only [Tm.k, Tm.n, Tm.s, Tm.l, both_putL σ l V Q hf.1]
theorem both_putL (σ : Int → Tm) : ∀ (l : List Tm) (V Q : List Int), fairRL l = true → bothTL l (putFL σ l) (V.map fun v => (vT v, σ v)) = (turnTL (fun v => atI ((occL l).foldl addV V ++ Q) v 0) l, ((occL l).foldl addV V).map fun v => (vT v, σ v))
  | [], V, Q, h => rfl
  | x :: l, V, Q, h => by
    simp only [fairRL, Bool.and_eq_true] at h
    simp only [putFL, bothTL, occL, List.foldl_append, turnTL]
    obtain ⟨Q', hQ⟩ := foldl_addV_app (occL l) ((occ x).foldl addV V)
    rw [both_put σ x V (Q' ++ Q) h.1]
    simp only
    rw [both_putL σ l _ Q h.2, hQ, List.append_assoc]
end

theorem both_numbered {a : Tm} (h : a.rightB = true) (σ : Int → Tm) : (bothT a (putF σ a) []).1 = numOne a := by
  have hf := right_fair h
  have := both_put σ a [] [] hf
  simp only [List.map_nil, List.append_nil] at this
  rw [this]
  unfold numOne
  refine turn_congr a hf fun v hv => ?_
  have e : varsT [a] = (occ a).foldl addV [] := by rw [varsT_once (one_fair hf)]; simp [occL, once]
  rw [e]
  have hm : v ∈ (occ a).foldl addV [] := mem_foldl.2 (.inr hv)
  exact (placeG_mem hm).1.symm
end Tm
end PSL
namespace PSL
open Go
/-- What Of answers. -/
def msgT (a b : Tm) : Tm × Int := if rightT a && rightT b then ((Tm.bothT a b []).1, 0) else (zeroT, 1)
def apartT (a b : Tm) : Int × Int := if rightT a && rightT b then ((Tm.bothT a b []).2.length, 0) else (0, 1)
/-- The least generalisation of a row. -/
def foldM (o : Tm) (l : List Tm) : Tm := l.foldl (fun o x => (Tm.bothT o x []).1) o
def msgAll : List Tm → Tm × Int
  | [] => (zeroT, 10)
  | t :: r => if (t :: r).all rightT then (foldM (Tm.bothT t t []).1 r, 0) else (zeroT, 1)

theorem foldM_right : ∀ (l : List Tm) (o : Tm), o.rightB = true → (foldM o l).rightB = true
  | [], o, h => h
  | x :: l, o, h => foldM_right l _ (Tm.both_right h)
theorem foldM_inst : ∀ (l : List Tm) (o : Tm), o.rightB = true → (∃ σ, o = Tm.putF σ (foldM o l)) ∧ ∀ x ∈ l, ∃ σ, x = Tm.putF σ (foldM o l)
  | [], o, h => ⟨⟨Tm.vT, (Tm.put_self o (right_fair h)).symm⟩, by simp⟩
  | x :: l, o, h => by
    obtain ⟨h1, h2⟩ := foldM_inst l (Tm.bothT o x []).1 (Tm.both_right h)
    have e : foldM o (x :: l) = foldM (Tm.bothT o x []).1 l := rfl
    rw [e]
    refine ⟨Tm.inst_trans (Tm.both_left o x) h1, fun y hy => ?_⟩
    rcases List.mem_cons.1 hy with rfl | hy
    · exact Tm.inst_trans (Tm.both_rgt o y) h1
    · exact h2 y hy
end PSL
