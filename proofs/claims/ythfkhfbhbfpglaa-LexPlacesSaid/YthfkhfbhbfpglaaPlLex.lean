import Derived.Test.YthfkhfbhbfpglaaPlA
namespace PSL
open Go

/-! ### texts as rows of bytes -/
abbrev Bs := List UInt8
def Tx (l : Bs) : ByteArray := ⟨l.toArray⟩
theorem Tx_data (s : ByteArray) : Tx s.data.toList = s := by simp [Tx]
theorem Tx_size (l : Bs) : (Tx l).size = l.length := by simp [Tx, ByteArray.size]
theorem Tx_get (l : Bs) (n : Nat) : (Tx l)[n]? = l[n]? := by
  show (if h : n < (Tx l).size then some ((Tx l)[n]) else none) = l[n]?
  by_cases h : n < l.length
  · rw [dif_pos (by rw [Tx_size]; exact h), List.getElem?_eq_getElem h]; rfl
  · rw [dif_neg (by rw [Tx_size]; exact h), List.getElem?_eq_none (by omega)]
theorem Tx_app (a b : Bs) : Tx a ++ Tx b = Tx (a ++ b) := by
  apply ByteArray.ext
  show (Tx a ++ Tx b).data = _
  rw [ByteArray.data_append]; simp [Tx]
theorem Tx_cut (l : Bs) (i j : Nat) : (Tx l).extract i j = Tx ((l.drop i).take (j - i)) := by
  apply ByteArray.ext
  rw [ByteArray.data_extract]
  apply Array.ext'
  simp [Tx, List.take_drop, List.extract_eq_take_drop]
theorem Tx_list (l : Bs) : (Tx l).toList = l := by rw [Tm.toList_data]; simp [Tx]
theorem Tx_inj {a b : Bs} (h : Tx a = Tx b) : a = b := by rw [← Tx_list a, h, Tx_list]
theorem Tx_eq (a b : Bs) : strEq (Tx a) (Tx b) = (a == b) := by unfold strEq; rw [Tx_list, Tx_list]

/-! ### of which sort is a byte -/
def dgC (c : UInt8) : Bool := decide (48 ≤ c.toNat) && decide (c.toNat ≤ 57)
def lowC (c : UInt8) : Bool := decide (97 ≤ c.toNat) && decide (c.toNat ≤ 122)
def grtC (c : UInt8) : Bool := (decide (65 ≤ c.toNat) && decide (c.toNat ≤ 90)) || decide (c.toNat = 95)
def folC (c : UInt8) : Bool := dgC c || lowC c || grtC c
def blkC (c : UInt8) : Bool := decide (c.toNat = 32) || decide (c.toNat = 9) || decide (c.toNat = 10)
def sgnL : Bs := [43, 45, 42, 47, 92, 94, 60, 62, 61, 126, 58, 46, 63, 64, 35, 38, 36]
def sgnL2 : Bs := [43, 45, 42, 47, 94, 60, 62, 61, 126, 58, 46, 63, 64, 35, 38, 36]
def mrkL : Bs := [40, 41, 91, 93, 124, 44]
def sgnC (c : UInt8) : Bool := sgnL.contains c
def mrkC (c : UInt8) : Bool := mrkL.contains c
def sortC (c : UInt8) : Int := if lowC c then 1 else if grtC c then 2 else if dgC c then 3 else if blkC c then 5 else if sgnC c then 4 else 0
theorem byte_all {p : UInt8 → Bool} (h : (List.range 256).all (fun n => p (UInt8.ofNat n)) = true) (c : UInt8) : p c = true := by
  have h1 := List.all_eq_true.1 h c.toNat (by simp; exact c.toNat_lt)
  simpa using h1
theorem sort_fol (c : UInt8) : (decide (1 ≤ sortC c) && decide (sortC c ≤ 3)) = folC c := by
  have := byte_all (p := fun c => (decide (1 ≤ sortC c) && decide (sortC c ≤ 3)) == folC c) (by decide +kernel) c
  simpa using this
theorem sort_dig (c : UInt8) : decide (sortC c = 3) = dgC c := by
  have := byte_all (p := fun c => decide (sortC c = 3) == dgC c) (by decide +kernel) c
  simpa using this
theorem sort_sgn (c : UInt8) : decide (sortC c = 4) = sgnC c := by
  have := byte_all (p := fun c => decide (sortC c = 4) == sgnC c) (by decide +kernel) c
  simpa using this
theorem sort_blk (c : UInt8) : decide (sortC c = 5) = blkC c := by
  have := byte_all (p := fun c => decide (sortC c = 5) == blkC c) (by decide +kernel) c
  simpa using this
theorem sort_low (c : UInt8) : decide (sortC c = 1) = lowC c := by
  have := byte_all (p := fun c => decide (sortC c = 1) == lowC c) (by decide +kernel) c
  simpa using this
theorem sort_grt (c : UInt8) : decide (sortC c = 2) = grtC c := by
  have := byte_all (p := fun c => decide (sortC c = 2) == grtC c) (by decide +kernel) c
  simpa using this

/-- How far bytes are of a sort. -/
def runB (p : UInt8 → Bool) (L : Bs) (i : Nat) : Nat := i + ((L.drop i).takeWhile p).length
theorem runB_step {p : UInt8 → Bool} {L : Bs} {i : Nat} {c : UInt8} (h : L[i]? = some c) (hp : p c = true) : runB p L i = runB p L (i + 1) := by
  have hi := (List.getElem?_eq_some_iff.1 h).1
  have he := (List.getElem?_eq_some_iff.1 h).2
  unfold runB
  rw [List.drop_eq_getElem_cons hi, he, List.takeWhile_cons_of_pos hp, List.length_cons]; omega
theorem runB_stop {p : UInt8 → Bool} {L : Bs} {i : Nat} {c : UInt8} (h : L[i]? = some c) (hp : p c = false) : runB p L i = i := by
  have hi := (List.getElem?_eq_some_iff.1 h).1
  have he := (List.getElem?_eq_some_iff.1 h).2
  unfold runB
  rw [List.drop_eq_getElem_cons hi, he, List.takeWhile_cons_of_neg (by rw [hp]; simp)]; rfl
theorem runB_end {p : UInt8 → Bool} {L : Bs} {i : Nat} (h : L.length ≤ i) : runB p L i = i := by
  unfold runB; rw [List.drop_eq_nil_of_le h]; rfl
theorem runB_le {p : UInt8 → Bool} {L : Bs} {i : Nat} (h : i ≤ L.length) : i ≤ runB p L i ∧ runB p L i ≤ L.length := by
  have : ((L.drop i).takeWhile p).length ≤ (L.drop i).length := (List.takeWhile_sublist p).length_le
  rw [List.length_drop] at this
  unfold runB; omega

/-! ### tokens -/
structure Tk where
  kind : Int
  text : Bs
  n : Int
  at_ : Int
  opn : Bool
  deriving DecidableEq
def cutB (L : Bs) (i j : Nat) : Bs := (L.drop i).take (j - i)
def opnB (L : Bs) (to : Nat) : Bool := match L[to]? with | some c => decide (c.toNat = 40) | none => false
def nameT (L : Bs) (kind : Int) (text : Bs) (i to : Nat) : Option (Tk × Nat) := if 1 ≤ text.length ∧ text.length ≤ 20 then some (⟨kind, text, 0, i, opnB L to⟩, to) else none

def valN (n : Nat) (D : Bs) : Nat := D.foldl (fun n c => 10 * n + (c.toNat - 48)) n
def numT (D : Bs) : Option Nat := if (1 < D.length ∧ (D[0]?.map UInt8.toNat) = some 48) ∨ 9223372036854775807 < valN 0 D then none else some (valN 0 D)

def quo : Bs → Option (Bs × Nat)
  | [] => none
  | [c] => if c.toNat = 39 then some ([], 1) else none
  | c :: d :: r => if c.toNat < 32 ∨ 126 < c.toNat then none else if c.toNat = 39 then (if d.toNat = 39 then (quo r).map fun x => (39 :: x.1, x.2 + 2) else some ([], 1)) else (quo (d :: r)).map fun x => (c :: x.1, x.2 + 1)

def endAft (L : Bs) (to : Nat) : Bool := match L[to]? with | some c => blkC c || decide (c.toNat = 37) | none => true

/-- The token at a place, and where it ends. -/
def oneT (L : Bs) (i : Nat) : Option (Tk × Nat) := match L[i]? with
  | none => none
  | some c =>
    if lowC c then nameT L 1 (cutB L i (runB folC L i)) i (runB folC L i)
    else if grtC c then nameT L 2 (cutB L i (runB folC L i)) i (runB folC L i)
    else if dgC c then (numT (cutB L i (runB dgC L i))).map fun n => (⟨3, cutB L i (runB dgC L i), n, i, false⟩, runB dgC L i)
    else if c.toNat = 39 then (match quo (L.drop (i + 1)) with | some (t, k) => nameT L 1 t i (i + 1 + k) | none => none)
    else if c.toNat = 91 ∧ (L[i + 1]?.map UInt8.toNat) = some 93 then nameT L 1 [91, 93] i (i + 2)
    else if c.toNat = 33 ∨ c.toNat = 59 then nameT L 1 [c] i (i + 1)
    else if mrkC c then some (⟨4, [c], 0, i, false⟩, i + 1)
    else if runB sgnC L i = i + 1 ∧ c.toNat = 46 ∧ endAft L (i + 1) then some (⟨5, [46], 0, i, false⟩, i + 1)
    else nameT L 1 (cutB L i (runB sgnC L i)) i (runB sgnC L i)

/-- How much stands between. -/
def skipL : Bool → Bs → Nat
  | _, [] => 0
  | true, c :: r => 1 + skipL (!decide (c.toNat = 10)) r
  | false, c :: r => if c.toNat = 37 then 1 + skipL true r else if blkC c then 1 + skipL false r else 0
theorem skipL_le : ∀ (b : Bool) (L : Bs), skipL b L ≤ L.length
  | _, [] => by simp [skipL]
  | true, c :: r => by simp only [skipL, List.length_cons]; have := skipL_le (!decide (c.toNat = 10)) r; omega
  | false, c :: r => by
    simp only [skipL, List.length_cons]
    split
    · have := skipL_le true r; omega
    · split
      · have := skipL_le false r; omega
      · omega
def passN (L : Bs) (i : Nat) : Nat := i + skipL false (L.drop i)

/-- All tokens from a place on; or the byte. -/
def toks : Nat → Bs → Nat → Except Nat (List Tk)
  | 0, _, _ => .ok []
  | f + 1, L, i => if passN L i < L.length then (match oneT L (passN L i) with
      | none => .error (passN L i)
      | some (t, to) => match toks f L to with
        | .ok l => .ok (t :: l)
        | .error j => .error j) else .ok []
def tokT (L : Bs) : List Tk × Int × Int := if 8000 < L.length then ([], 0, 3) else match toks (L.length + 1) L 0 with
  | .ok l => (l, 0, 0)
  | .error j => ([], j, 2)

theorem cutB_len {L : Bs} {i j : Nat} (h : i ≤ j) (hj : j ≤ L.length) : (cutB L i j).length = j - i := by simp [cutB]; omega

theorem quo_bad {c : UInt8} {r : Bs} (h : c.toNat < 32 ∨ 126 < c.toNat) : quo (c :: r) = none := by
  cases r with
  | nil => simp only [quo]; rw [if_neg (by omega)]
  | cons d r => simp only [quo]; rw [if_pos h]
theorem quo_two {c d : UInt8} {r : Bs} (h : c.toNat = 39) (h2 : d.toNat = 39) : quo (c :: d :: r) = (quo r).map fun x => (39 :: x.1, x.2 + 2) := by
  simp only [quo]; rw [if_neg (by omega), if_pos h, if_pos h2]
theorem quo_one {c : UInt8} {r : Bs} (h : c.toNat = 39) (h2 : ∀ d, r[0]? = some d → d.toNat ≠ 39) : quo (c :: r) = some ([], 1) := by
  cases r with
  | nil => simp only [quo]; rw [if_pos h]
  | cons d r => simp only [quo]; rw [if_neg (by omega), if_pos h, if_neg (h2 d rfl)]
theorem quo_any {c : UInt8} {r : Bs} (h0 : ¬ (c.toNat < 32 ∨ 126 < c.toNat)) (h : c.toNat ≠ 39) : quo (c :: r) = (quo r).map fun x => (c :: x.1, x.2 + 1) := by
  cases r with
  | nil => simp only [quo]; rw [if_neg h]; rfl
  | cons d r => simp only [quo]; rw [if_neg h0, if_neg h]

theorem quo_len : ∀ (n : Nat) (L : Bs), L.length ≤ n → ∀ t k, quo L = some (t, k) → 1 ≤ k ∧ k ≤ L.length ∧ t.length < k
  | 0, L, h, t, k, hq => by
    have : L = [] := List.length_eq_zero_iff.1 (by omega)
    subst this; cases hq
  | n + 1, [], _, t, k, hq => by cases hq
  | n + 1, c :: r, h, t, k, hq => by
    simp only [List.length_cons] at h ⊢
    by_cases hb : c.toNat < 32 ∨ 126 < c.toNat
    · rw [quo_bad hb] at hq; cases hq
    by_cases h39 : c.toNat = 39
    · by_cases h2 : ∀ d, r[0]? = some d → d.toNat ≠ 39
      · rw [quo_one h39 h2] at hq; cases hq; simp
      · cases r with
        | nil => exact absurd (fun d h => by simp at h) h2
        | cons d r' =>
          have hd : d.toNat = 39 := Classical.byContradiction fun hd => h2 fun e he => by simp at he; subst he; exact hd
          rw [quo_two h39 hd] at hq
          simp only [List.length_cons] at h ⊢
          cases hr : quo r' with
          | none => rw [hr] at hq; cases hq
          | some x =>
            rw [hr] at hq
            cases hq
            have := quo_len n r' (by omega) x.1 x.2 hr
            simp only [List.length_cons]; omega
    · rw [quo_any hb h39] at hq
      cases hr : quo r with
      | none => rw [hr] at hq; cases hq
      | some x =>
        rw [hr] at hq
        cases hq
        have := quo_len n r (by omega) x.1 x.2 hr
        simp only [List.length_cons]; omega

theorem nameT_to {L : Bs} {kind : Int} {text : Bs} {i to : Nat} {t : Tk} {j : Nat} (h : nameT L kind text i to = some (t, j)) : j = to ∧ t = ⟨kind, text, 0, i, opnB L to⟩ ∧ 1 ≤ text.length ∧ text.length ≤ 20 := by
  unfold nameT at h
  split at h
  · rename_i hh
    simp only [Option.some.injEq, Prod.mk.injEq] at h
    exact ⟨h.2.symm, h.1.symm, hh.1, hh.2⟩
  · cases h

/-- A token goes on. -/
theorem oneT_to {L : Bs} {i : Nat} {t : Tk} {j : Nat} (h : oneT L i = some (t, j)) : i < j ∧ j ≤ L.length := by
  unfold oneT at h
  split at h
  · cases h
  rename_i c hc
  have hi := (List.getElem?_eq_some_iff.1 hc).1
  have run : ∀ (p : UInt8 → Bool) (kind : Int), nameT L kind (cutB L i (runB p L i)) i (runB p L i) = some (t, j) → i < j ∧ j ≤ L.length := fun p kind h => by
    obtain ⟨h1, _, h2, _⟩ := nameT_to h
    have hr := runB_le (p := p) (L := L) (i := i) (by omega)
    rw [cutB_len hr.1 hr.2] at h2
    subst h1; omega
  split at h
  · exact run folC 1 h
  · split at h
    · exact run folC 2 h
    · split at h
      · rename_i hd
        cases hn : numT (cutB L i (runB dgC L i)) with
        | none => rw [hn] at h; cases h
        | some n =>
          rw [hn] at h
          cases h
          have hr := runB_le (p := dgC) (L := L) (i := i + 1) (by omega)
          rw [runB_step hc hd]; omega
      · split at h
        · split at h
          · rename_i t' k hq
            obtain ⟨h1, _, _, _⟩ := nameT_to h
            have := quo_len _ _ (Nat.le_refl _) _ _ hq
            rw [List.length_drop] at this
            subst h1; omega
          · cases h
        · split at h
          · rename_i h91
            obtain ⟨h1, _, _, _⟩ := nameT_to h
            cases h2 : L[i + 1]? with
            | none => rw [h2] at h91; simp at h91
            | some d => have := (List.getElem?_eq_some_iff.1 h2).1; subst h1; omega
          · split at h
            · obtain ⟨h1, _, _, _⟩ := nameT_to h; subst h1; omega
            · split at h
              · simp only [Option.some.injEq, Prod.mk.injEq] at h; obtain ⟨_, rfl⟩ := h; omega
              · split at h
                · simp only [Option.some.injEq, Prod.mk.injEq] at h; obtain ⟨_, rfl⟩ := h; omega
                · exact run sgnC 1 h
end PSL
