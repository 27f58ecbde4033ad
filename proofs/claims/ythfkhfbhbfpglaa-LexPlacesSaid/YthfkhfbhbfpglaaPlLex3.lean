import Derived.Test.YthfkhfbhbfpglaaPlLex2
namespace PSL
open Go

/-! ### texts behind others, and ahead of others -/
def shT (n : Nat) (t : Tk) : Tk := ⟨t.kind, t.text, t.n, t.at_ + n, t.opn⟩
def shE (n : Nat) : Except Nat (List Tk) → Except Nat (List Tk)
  | .ok l => .ok (l.map (shT n))
  | .error j => .error (n + j)

theorem sh_get (P B : Bs) (k : Nat) : (P ++ B)[P.length + k]? = B[k]? := by
  rw [List.getElem?_append_right (by omega)]; congr 1; omega
theorem sh_drop (P B : Bs) (k : Nat) : (P ++ B).drop (P.length + k) = B.drop k := by
  rw [List.drop_append]; simp
theorem sh_run (p : UInt8 → Bool) (P B : Bs) (k : Nat) : runB p (P ++ B) (P.length + k) = P.length + runB p B k := by
  unfold runB; rw [sh_drop]; omega
theorem sh_cut (P B : Bs) (i j : Nat) : cutB (P ++ B) (P.length + i) (P.length + j) = cutB B i j := by
  unfold cutB; rw [sh_drop]; congr 1; omega
theorem sh_opn (P B : Bs) (k : Nat) : opnB (P ++ B) (P.length + k) = opnB B k := by unfold opnB; rw [sh_get]
theorem sh_end (P B : Bs) (k : Nat) : endAft (P ++ B) (P.length + k) = endAft B k := by unfold endAft; rw [sh_get]
theorem sh_pass (P B : Bs) (k : Nat) : passN (P ++ B) (P.length + k) = P.length + passN B k := by unfold passN; rw [sh_drop]; omega
theorem sh_name (P B : Bs) (kind : Int) (text : Bs) (i to : Nat) : nameT (P ++ B) kind text (P.length + i) (P.length + to) = (nameT B kind text i to).map fun x => (shT P.length x.1, P.length + x.2) := by
  unfold nameT
  split
  · simp only [Option.map_some, shT, sh_opn]
    congr 3
    omega
  · rfl

theorem sh_one (P B : Bs) (k : Nat) : oneT (P ++ B) (P.length + k) = (oneT B k).map fun x => (shT P.length x.1, P.length + x.2) := by
  unfold oneT
  rw [sh_get]
  cases B[k]? with
  | none => rfl
  | some c =>
    simp only
    split
    · rw [sh_run, sh_cut, sh_name]
    split
    · rw [sh_run, sh_cut, sh_name]
    split
    · rw [sh_run, sh_cut]
      cases numT (cutB B k (runB dgC B k)) with
      | none => rfl
      | some n =>
        simp [shT]; omega
    split
    · rw [show P.length + k + 1 = P.length + (k + 1) by omega, sh_drop]
      cases quo (B.drop (k + 1)) with
      | none => rfl
      | some x =>
        obtain ⟨t, j⟩ := x
        simp only
        rw [show P.length + (k + 1) + j = P.length + (k + 1 + j) by omega, sh_name]
    rw [show P.length + k + 1 = P.length + (k + 1) by omega, sh_get]
    split
    · rw [show P.length + k + 2 = P.length + (k + 2) by omega, sh_name]
    split
    · rw [sh_name]
    split
    · simp [shT]; omega
    rw [sh_run, sh_end]
    by_cases h : runB sgnC B k = k + 1 ∧ c.toNat = 46 ∧ endAft B (k + 1) = true
    · rw [if_pos h, if_pos ⟨by omega, h.2⟩]
      simp [shT]; omega
    · rw [if_neg h, if_neg (fun g => h ⟨by omega, g.2⟩), sh_cut, sh_name]

theorem sh_toks (P B : Bs) : ∀ (f k : Nat), toks f (P ++ B) (P.length + k) = shE P.length (toks f B k)
  | 0, k => rfl
  | f + 1, k => by
    simp only [toks]
    rw [sh_pass, List.length_append, sh_one]
    by_cases h : passN B k < B.length
    · rw [if_pos h, if_pos (by omega)]
      cases oneT B (passN B k) with
      | none => rfl
      | some x =>
        obtain ⟨t, to⟩ := x
        simp only [Option.map_some]
        rw [sh_toks P B f to]
        cases toks f B to <;> rfl
    · rw [if_neg h, if_neg (by omega)]; rfl

/-- Fuel enough is as good as more. -/
theorem toks_fuel : ∀ (f f' : Nat) (L : Bs) (i : Nat), L.length - i < f → L.length - i < f' → toks f L i = toks f' L i
  | 0, _, L, i, h, _ => by omega
  | _, 0, L, i, _, h => by omega
  | f + 1, f' + 1, L, i, h, h' => by
    simp only [toks]
    by_cases hp : passN L i < L.length
    · rw [if_pos hp, if_pos hp]
      cases hone : oneT L (passN L i) with
      | none => rfl
      | some x =>
        obtain ⟨t, to⟩ := x
        have hto := oneT_to hone
        have hle : i ≤ passN L i := by unfold passN; omega
        simp only
        rw [toks_fuel f f' L to (by omega) (by omega)]
    · rw [if_neg hp, if_neg hp]

/-! ### a line feed behind -/
theorem tw_app {p : UInt8 → Bool} {c : UInt8} (hc : p c = false) (r : Bs) : ∀ l : Bs, (l ++ c :: r).takeWhile p = l.takeWhile p
  | [] => by rw [List.nil_append, List.takeWhile_cons_of_neg (by rw [hc]; simp)]; rfl
  | x :: l => by
    rw [List.cons_append]
    by_cases h : p x = true
    · rw [List.takeWhile_cons_of_pos h, List.takeWhile_cons_of_pos h, tw_app hc r l]
    · rw [List.takeWhile_cons_of_neg h, List.takeWhile_cons_of_neg h]
theorem nl_run {p : UInt8 → Bool} {c : UInt8} (hc : p c = false) (A r : Bs) {i : Nat} (hi : i ≤ A.length) : runB p (A ++ c :: r) i = runB p A i := by
  unfold runB
  rw [List.drop_append_of_le_length hi, tw_app hc]
theorem nl_cut (A r : Bs) {i j : Nat} (hi : i ≤ A.length) (hj : j ≤ A.length) : cutB (A ++ r) i j = cutB A i j := by
  unfold cutB
  rw [List.drop_append_of_le_length hi, List.take_append_of_le_length (by rw [List.length_drop]; omega)]
theorem nl_opn {c : UInt8} (hc : c.toNat ≠ 40) (A r : Bs) {to : Nat} (h : to ≤ A.length) : opnB (A ++ c :: r) to = opnB A to := by
  unfold opnB
  rcases Nat.lt_or_ge to A.length with h1 | h1
  · rw [List.getElem?_append_left h1]
  · have e : to = A.length := by omega
    rw [e, List.getElem?_append_right (Nat.le_refl _), List.getElem?_eq_none (Nat.le_refl _)]
    simp [hc]
theorem nl_end {c : UInt8} (hc : blkC c = true) (A r : Bs) {to : Nat} (h : to ≤ A.length) : endAft (A ++ c :: r) to = endAft A to := by
  unfold endAft
  rcases Nat.lt_or_ge to A.length with h1 | h1
  · rw [List.getElem?_append_left h1]
  · have e : to = A.length := by omega
    rw [e, List.getElem?_append_right (Nat.le_refl _), List.getElem?_eq_none (Nat.le_refl _)]
    simp [hc]
theorem nl_name {c : UInt8} (hc : c.toNat ≠ 40) (A r : Bs) {kind : Int} {text : Bs} {i to : Nat} (h : to ≤ A.length) : nameT (A ++ c :: r) kind text i to = nameT A kind text i to := by
  unfold nameT; rw [nl_opn hc A r h]
theorem quo_app {c : UInt8} (hc : c.toNat ≠ 39) (r : Bs) : ∀ (n : Nat) (l : Bs), l.length ≤ n → ∀ t k, quo l = some (t, k) → quo (l ++ c :: r) = some (t, k)
  | 0, l, h, t, k, hq => by
    have : l = [] := List.length_eq_zero_iff.1 (by omega)
    subst this; cases hq
  | n + 1, [], _, t, k, hq => by cases hq
  | n + 1, x :: l, h, t, k, hq => by
    simp only [List.length_cons] at h
    rw [List.cons_append]
    by_cases hb : x.toNat < 32 ∨ 126 < x.toNat
    · rw [quo_bad hb] at hq; cases hq
    by_cases h39 : x.toNat = 39
    · by_cases h2 : ∀ d, l[0]? = some d → d.toNat ≠ 39
      · rw [quo_one h39 h2] at hq
        rw [quo_one h39]
        · exact hq
        · intro d hd
          cases l with
          | nil => simp at hd; rw [← hd]; exact hc
          | cons y l => simp at hd; exact h2 d (by simp [hd])
      · cases l with
        | nil => exact absurd (fun d h => by simp at h) h2
        | cons d l' =>
          have hd : d.toNat = 39 := Classical.byContradiction fun hd => h2 fun e he => by simp at he; subst he; exact hd
          rw [quo_two h39 hd] at hq
          rw [List.cons_append, quo_two h39 hd]
          cases hr : quo l' with
          | none => rw [hr] at hq; cases hq
          | some y =>
            simp only [List.length_cons] at h
            rw [quo_app hc r n l' (by omega) y.1 y.2 hr, ← hq, hr]
    · rw [quo_any hb h39] at hq
      rw [quo_any hb h39]
      cases hr : quo l with
      | none => rw [hr] at hq; cases hq
      | some y =>
        rw [quo_app hc r n l (by omega) y.1 y.2 hr, ← hq, hr]

theorem nl_one {c : UInt8} (hc : c.toNat = 10 ∨ c.toNat = 32) (A r : Bs) {i : Nat} {t : Tk} {j : Nat} (h : oneT A i = some (t, j)) : oneT (A ++ c :: r) i = some (t, j) := by
  have hto := oneT_to h
  have n40 : c.toNat ≠ 40 := by omega
  have n39 : c.toNat ≠ 39 := by omega
  have nb : blkC c = true := by simp [blkC]; omega
  have nf : folC c = false := by simp [folC, dgC, lowC, grtC]; omega
  have nd : dgC c = false := by simp [dgC]; omega
  have ns : sgnC c = false := by
    have := byte_all (p := fun c => !blkC c || !sgnC c) (by decide +kernel) c
    rw [nb] at this; simpa using this
  have hi : i ≤ A.length := by omega
  have rl := fun (p : UInt8 → Bool) => (runB_le (p := p) (L := A) (i := i) hi)
  have h0 := h
  unfold oneT at h ⊢
  rw [List.getElem?_append_left (by omega)]
  cases hx : A[i]? with
  | none => rw [hx] at h; cases h
  | some x =>
    rw [hx] at h
    simp only at h ⊢
    split
    · rename_i g; rw [if_pos g] at h
      rw [nl_run nf A r hi, nl_cut A _ hi (rl folC).2, nl_name n40 A r (rl folC).2]; exact h
    rename_i g1; rw [if_neg g1] at h
    split
    · rename_i g; rw [if_pos g] at h
      rw [nl_run nf A r hi, nl_cut A _ hi (rl folC).2, nl_name n40 A r (rl folC).2]; exact h
    rename_i g2; rw [if_neg g2] at h
    split
    · rename_i g; rw [if_pos g] at h
      rw [nl_run nd A r hi, nl_cut A _ hi (rl dgC).2]; exact h
    rename_i g3; rw [if_neg g3] at h
    split
    · rename_i g; rw [if_pos g] at h
      rw [List.drop_append_of_le_length (by omega)]
      cases hq : quo (A.drop (i + 1)) with
      | none => rw [hq] at h; cases h
      | some y =>
        obtain ⟨u, k⟩ := y
        rw [hq] at h
        rw [quo_app n39 r _ _ (Nat.le_refl _) u k hq]
        simp only at h ⊢
        obtain ⟨e1, _⟩ := nameT_to h
        rw [nl_name n40 A r (by omega)]; exact h
    rename_i g4; rw [if_neg g4] at h
    have e93 : ((A ++ c :: r)[i + 1]?.map UInt8.toNat) = some 93 ↔ (A[i + 1]?.map UInt8.toNat) = some 93 := by
      rcases Nat.lt_or_ge (i + 1) A.length with h1 | h1
      · rw [List.getElem?_append_left h1]
      · have e : i + 1 = A.length := by omega
        rw [e, List.getElem?_append_right (Nat.le_refl _), List.getElem?_eq_none (Nat.le_refl _)]
        simp; omega
    by_cases g5 : x.toNat = 91 ∧ (A[i + 1]?.map UInt8.toNat) = some 93
    · rw [if_pos g5] at h
      rw [if_pos ⟨g5.1, e93.2 g5.2⟩]
      obtain ⟨e1, _⟩ := nameT_to h
      rw [nl_name n40 A r (by omega)]; exact h
    rw [if_neg g5] at h
    rw [if_neg (fun g => g5 ⟨g.1, e93.1 g.2⟩)]
    split
    · rename_i g; rw [if_pos g] at h
      rw [nl_name n40 A r (by omega)]; exact h
    rename_i g6; rw [if_neg g6] at h
    split
    · rename_i g; rw [if_pos g] at h; exact h
    rename_i g7; rw [if_neg g7] at h
    rw [nl_run ns A r hi, nl_end nb A r (by omega), nl_cut A _ hi (rl sgnC).2, nl_name n40 A r (rl sgnC).2]; exact h

theorem skip_nl (r : Bs) {c : UInt8} (hc : c.toNat = 10) : ∀ (b : Bool) (l : Bs), (skipL b l < l.length → skipL b (l ++ c :: r) = skipL b l) ∧ (¬ skipL b l < l.length → skipL b (l ++ c :: r) = l.length + 1 + skipL false r)
  | true, [] => by simp [skipL, hc]
  | false, [] => by
    have hb : blkC c = true := by simp [blkC, hc]
    simp [skipL, hc, hb]
  | true, x :: l => by
    obtain ⟨h1, h2⟩ := skip_nl r hc (!decide (x.toNat = 10)) l
    simp only [List.cons_append, skipL, List.length_cons]
    constructor
    · intro h; rw [h1 (by omega)]
    · intro h; rw [h2 (by omega)]; omega
  | false, x :: l => by
    obtain ⟨h1, h2⟩ := skip_nl r hc true l
    obtain ⟨h3, h4⟩ := skip_nl r hc false l
    simp only [List.cons_append, skipL, List.length_cons]
    by_cases hx : x.toNat = 37
    · simp only [if_pos hx]
      constructor
      · intro h; rw [h1 (by omega)]
      · intro h; rw [h2 (by omega)]; omega
    · simp only [if_neg hx]
      by_cases hb : blkC x = true
      · simp only [if_pos hb]
        constructor
        · intro h; rw [h3 (by omega)]
        · intro h; rw [h4 (by omega)]; omega
      · simp only [if_neg hb]
        constructor
        · intro h; first | rfl | trivial
        · intro h; omega
theorem pass_nl (A r : Bs) {c : UInt8} (hc : c.toNat = 10) {i : Nat} (hi : i ≤ A.length) : passN (A ++ c :: r) i = if passN A i < A.length then passN A i else A.length + 1 + passN r 0 := by
  unfold passN
  rw [List.drop_append_of_le_length hi, List.drop_zero]
  obtain ⟨h1, h2⟩ := skip_nl r hc false (A.drop i)
  rw [List.length_drop] at h1 h2
  by_cases h : skipL false (A.drop i) < A.length - i
  · rw [h1 h, if_pos (by omega)]
  · rw [h2 h, if_neg (by omega)]; omega

def appE (l : List Tk) : Except Nat (List Tk) → Except Nat (List Tk)
  | .ok m => .ok (l ++ m)
  | .error j => .error j

theorem toks_join (A B : Bs) {c : UInt8} (hc : c.toNat = 10) : ∀ (n : Nat) (i : Nat) (l : List Tk), A.length - i < n → i ≤ A.length → toks n A i = .ok l →
    ∀ f, (A ++ c :: B).length - i < f → toks f (A ++ c :: B) i = appE l (shE (A.length + 1) (toks (B.length + 1) B 0))
  | 0, i, l, h, _, _ => by omega
  | n + 1, i, l, hn, hi, h => fun f hf => by
    obtain ⟨e, he⟩ : ∃ e, toks (B.length + 1) B 0 = e := ⟨_, rfl⟩
    rw [he]
    obtain ⟨f, rfl⟩ : ∃ g, f = g + 1 := ⟨f - 1, by omega⟩
    have hCl : (A ++ c :: B).length = A.length + 1 + B.length := by simp; omega
    rw [hCl] at hf
    simp only [toks] at h
    have hle := pass_le hi
    by_cases hp : passN A i < A.length
    · rw [if_pos hp] at h
      cases hone : oneT A (passN A i) with
      | none => rw [hone] at h; cases h
      | some x =>
        obtain ⟨t, to⟩ := x
        rw [hone] at h
        have hto := oneT_to hone
        simp only at h
        cases hr : toks n A to with
        | error j => rw [hr] at h; cases h
        | ok l' =>
          rw [hr] at h
          simp only [Except.ok.injEq] at h
          subst h
          have ih := toks_join A B hc n to l' (by omega) hto.2 hr f (by rw [hCl]; omega)
          simp only [toks]
          rw [pass_nl A B hc hi, if_pos hp, hCl, if_pos (by omega), nl_one (.inl hc) A B hone]
          simp only
          rw [ih, he]
          cases e <;> rfl
    · rw [if_neg hp] at h
      simp only [Except.ok.injEq] at h
      subst h
      have e1 : toks (f + 1) (A ++ c :: B) i = toks (f + 1) (A ++ c :: B) (A.length + 1) := by
        have e2 : passN (A ++ c :: B) i = passN (A ++ c :: B) (A.length + 1) := by
          rw [pass_nl A B hc hi, if_neg hp]
          have := sh_pass (A ++ [c]) B 0
          simp only [List.append_assoc, List.singleton_append, List.length_append, List.length_singleton, Nat.add_zero] at this
          rw [this]
        simp only [toks]
        rw [e2]
      rw [e1]
      have e3 := sh_toks (A ++ [c]) B (f + 1) 0
      simp only [List.append_assoc, List.singleton_append, List.length_append, List.length_singleton, Nat.add_zero] at e3
      rw [e3, toks_fuel (f + 1) (B.length + 1) B 0 (by omega) (by omega), he]
      cases e <;> rfl
end PSL
namespace PSL
open Go
theorem toks_bad : ∀ (f : Nat) (L : Bs) (i j : Nat), toks f L i = .error j → j < L.length
  | 0, L, i, j, h => by simp [toks] at h
  | f + 1, L, i, j, h => by
    simp only [toks] at h
    by_cases hp : passN L i < L.length
    · rw [if_pos hp] at h
      cases hone : oneT L (passN L i) with
      | none => rw [hone] at h; simp only [Except.error.injEq] at h; omega
      | some x =>
        obtain ⟨t, to⟩ := x
        rw [hone] at h
        simp only at h
        cases hr : toks f L to with
        | error k => rw [hr] at h; simp only [Except.error.injEq] at h; rw [← h]; exact toks_bad f L to k hr
        | ok r => rw [hr] at h; cases h
    · rw [if_neg hp] at h; cases h
end PSL
