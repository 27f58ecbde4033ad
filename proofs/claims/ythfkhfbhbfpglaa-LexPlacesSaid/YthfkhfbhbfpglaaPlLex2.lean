import Derived.Test.YthfkhfbhbfpglaaPlLex
namespace PSL
open Go

theorem valN_acc : ∀ (D : Bs) (n : Nat), valN n D = n * 10 ^ D.length + valN 0 D
  | [], n => by simp [valN]
  | c :: D, n => by
    show valN (10 * n + (c.toNat - 48)) D = n * 10 ^ (D.length + 1) + valN (10 * 0 + (c.toNat - 48)) D
    rw [valN_acc D, valN_acc D (10 * 0 + (c.toNat - 48)), Nat.pow_succ]
    have : (10 * n + (c.toNat - 48)) * 10 ^ D.length = n * (10 ^ D.length * 10) + (c.toNat - 48) * 10 ^ D.length := by
      rw [Nat.add_mul]; congr 1
      rw [Nat.mul_comm 10 n, Nat.mul_assoc, Nat.mul_comm 10]
    rw [this, show 10 * 0 + (c.toNat - 48) = c.toNat - 48 by omega]; omega
theorem valN_cons (c : UInt8) (D : Bs) : valN 0 (c :: D) = (c.toNat - 48) * 10 ^ D.length + valN 0 D := by
  show valN (10 * 0 + (c.toNat - 48)) D = _
  rw [valN_acc]; simp
theorem valN_lt : ∀ (D : Bs), D.all dgC = true → valN 0 D < 10 ^ D.length
  | [], _ => by simp [valN]
  | c :: D, h => by
    simp only [List.all_cons, Bool.and_eq_true] at h
    have h1 := valN_lt D h.2
    have h2 : c.toNat - 48 ≤ 9 := by have := h.1; simp only [dgC, Bool.and_eq_true, decide_eq_true_eq] at this; omega
    rw [valN_cons, List.length_cons, Nat.pow_succ]
    have : (c.toNat - 48) * 10 ^ D.length ≤ 9 * 10 ^ D.length := Nat.mul_le_mul_right _ h2
    omega
theorem valN_snoc (D : Bs) (c : UInt8) (n : Nat) : valN n (D ++ [c]) = 10 * valN n D + (c.toNat - 48) := by simp [valN, List.foldl_append]
theorem valN_mono (D E : Bs) : valN 0 D ≤ valN 0 (D ++ E) := by
  have e : valN 0 (D ++ E) = valN (valN 0 D) E := by simp [valN, List.foldl_append]
  rw [e, valN_acc E (valN 0 D)]
  have : 1 ≤ 10 ^ E.length := Nat.one_le_pow _ _ (by omega)
  have : valN 0 D * 1 ≤ valN 0 D * 10 ^ E.length := Nat.mul_le_mul_left _ this
  omega

theorem less_val : ∀ (A B : Bs), A.length = B.length → A.all dgC = true → B.all dgC = true → (Op.bytesLess A B = true ↔ valN 0 A < valN 0 B) ∧ ((A == B) = true ↔ valN 0 A = valN 0 B)
  | [], [], _, _, _ => by simp [Op.bytesLess, valN]
  | [], _ :: _, h, _, _ => by simp at h
  | _ :: _, [], h, _, _ => by simp at h
  | a :: A, b :: B, h, ha, hb => by
    simp only [List.all_cons, Bool.and_eq_true] at ha hb
    have hl : A.length = B.length := by simpa using h
    obtain ⟨h1, h2⟩ := less_val A B hl ha.2 hb.2
    have l1 := valN_lt A ha.2
    have l2 := valN_lt B hb.2
    have ga := ha.1
    have gb := hb.1
    simp only [dgC, Bool.and_eq_true, decide_eq_true_eq] at ga gb
    rw [valN_cons, valN_cons, hl]
    rw [hl] at l1
    generalize 10 ^ B.length = p at *
    have key : ∀ {x y : Nat}, x < y → x * p + valN 0 A < y * p + valN 0 B := fun {x y} hxy => by
      have : (x + 1) * p ≤ y * p := Nat.mul_le_mul_right _ hxy
      rw [Nat.succ_mul] at this; omega
    have key2 : ∀ {x y : Nat}, x < y → x * p + valN 0 B < y * p + valN 0 A := fun {x y} hxy => by
      have : (x + 1) * p ≤ y * p := Nat.mul_le_mul_right _ hxy
      rw [Nat.succ_mul] at this; omega
    have hlt : (a < b) ↔ a.toNat < b.toNat := UInt8.lt_iff_toNat_lt
    have heq : (a = b) ↔ a.toNat = b.toNat := UInt8.toNat_inj.symm
    rcases Nat.lt_trichotomy a.toNat b.toNat with hc | hc | hc
    · have := key (x := a.toNat - 48) (y := b.toNat - 48) (by omega)
      constructor
      · simp only [Op.bytesLess, Bool.or_eq_true, decide_eq_true_eq, hlt]; exact ⟨fun _ => this, fun _ => .inl hc⟩
      · rw [beq_iff_eq]
        constructor
        · intro e; cases e; omega
        · intro e; omega
    · have e := heq.2 hc
      subst e
      constructor
      · simp only [Op.bytesLess, Bool.or_eq_true, decide_eq_true_eq, hlt, beq_self_eq_true, Bool.true_and]
        rw [h1]; constructor
        · rintro (h | h) <;> omega
        · intro h; right; omega
      · rw [beq_iff_eq] at h2 ⊢
        constructor
        · intro e; cases e; rfl
        · intro e; rw [h2.2 (by omega)]
    · have := key2 (x := b.toNat - 48) (y := a.toNat - 48) (by omega)
      have hne : ¬ a = b := fun e => by rw [heq] at e; omega
      constructor
      · simp only [Op.bytesLess, Bool.or_eq_true, decide_eq_true_eq, hlt, Bool.and_eq_true, beq_iff_eq]
        constructor
        · rintro (h | ⟨h, _⟩)
          · omega
          · exact absurd h hne
        · intro h; omega
      · rw [beq_iff_eq]
        constructor
        · intro e; cases e; exact absurd rfl hne
        · intro e; omega

def maxD : Bs := [57, 50, 50, 51, 51, 55, 50, 48, 51, 54, 56, 53, 52, 55, 55, 53, 56, 48, 55]
/-- The document's word for it: by length, or digit by digit. -/
theorem num_ref {D : Bs} (hd : D.all dgC = true) (h0 : ¬ (1 < D.length ∧ (D[0]?.map UInt8.toNat) = some 48)) (hne : D ≠ []) :
    (9223372036854775807 < valN 0 D) ↔ (19 < D.length ∨ (D.length = 19 ∧ (Op.bytesLess D maxD || D == maxD) = false)) := by
  have hlt := valN_lt D hd
  rcases Nat.lt_trichotomy D.length 19 with h | h | h
  · have : 10 ^ D.length ≤ 10 ^ 18 := Nat.pow_le_pow_right (by omega) (by omega)
    constructor
    · intro h2; omega
    · rintro (h2 | ⟨h2, _⟩) <;> omega
  · obtain ⟨h1, h2⟩ := less_val D maxD (by rw [h]; rfl) hd (by decide)
    have hv : valN 0 maxD = 9223372036854775807 := by decide
    rw [hv] at h1 h2
    rw [Bool.or_eq_false_iff]
    constructor
    · intro hh
      refine .inr ⟨h, ?_, ?_⟩
      · cases hb : Op.bytesLess D maxD with
        | false => rfl
        | true => have := h1.1 hb; omega
      · cases hb : (D == maxD) with
        | false => rfl
        | true => have := h2.1 hb; omega
    · rintro (hh | ⟨_, g1, g2⟩)
      · omega
      · rcases Nat.lt_trichotomy (valN 0 D) 9223372036854775807 with h3 | h3 | h3
        · rw [h1.2 h3] at g1; cases g1
        · rw [h2.2 h3] at g2; cases g2
        · exact h3
  · refine ⟨fun _ => .inl h, fun _ => ?_⟩
    cases D with
    | nil => exact absurd rfl hne
    | cons c D =>
      simp only [List.length_cons] at h
      have hc : c.toNat ≠ 48 := fun e => h0 ⟨by simp; omega, by simp [e]⟩
      have gc : 48 ≤ c.toNat := by
        simp only [List.all_cons, Bool.and_eq_true, dgC, decide_eq_true_eq] at hd; exact hd.1.1
      rw [valN_cons]
      have h1 : 10 ^ 19 ≤ 10 ^ D.length := Nat.pow_le_pow_right (by omega) (by omega)
      have h2 : 1 * 10 ^ D.length ≤ (c.toNat - 48) * 10 ^ D.length := Nat.mul_le_mul_right _ (by omega)
      omega
end PSL
namespace PSL
open Go
def nlC (c : UInt8) : Bool := !decide (c.toNat = 10)
theorem skip_line : ∀ (r : Bs), skipL true r = (r.takeWhile nlC).length + skipL false (r.dropWhile nlC)
  | [] => by simp [skipL]
  | c :: r => by
    by_cases h : c.toNat = 10
    · have hn : nlC c = false := by simp [nlC, h]
      have hb : blkC c = true := by simp [blkC, h]
      rw [List.takeWhile_cons_of_neg (by rw [hn]; simp), List.dropWhile_cons_of_neg (by rw [hn]; simp)]
      simp [skipL, h, hb]
    · have hn : nlC c = true := by simp [nlC, h]
      rw [List.takeWhile_cons_of_pos hn, List.dropWhile_cons_of_pos hn]
      simp only [skipL, List.length_cons]
      rw [decide_eq_false h, Bool.not_false, skip_line r]; omega
theorem drop_run (p : UInt8 → Bool) (l : Bs) : l.drop (l.takeWhile p).length = l.dropWhile p := by
  induction l with
  | nil => rfl
  | cons c l ih =>
    by_cases h : p c = true
    · rw [List.takeWhile_cons_of_pos h, List.dropWhile_cons_of_pos h]; simpa using ih
    · rw [List.takeWhile_cons_of_neg h, List.dropWhile_cons_of_neg h]; rfl
theorem pass_end {L : Bs} {i : Nat} (h : L.length ≤ i) : passN L i = i := by unfold passN; rw [List.drop_eq_nil_of_le h]; simp [skipL]
theorem pass_blank {L : Bs} {i : Nat} {c : UInt8} (h : L[i]? = some c) (hb : blkC c = true) : passN L i = passN L (i + 1) := by
  have hi := (List.getElem?_eq_some_iff.1 h).1
  have he := (List.getElem?_eq_some_iff.1 h).2
  have hne : ¬ c.toNat = 37 := by simp [blkC] at hb; omega
  unfold passN
  rw [List.drop_eq_getElem_cons hi, he]
  simp only [skipL]
  rw [if_neg hne, if_pos hb]; omega
theorem pass_line {L : Bs} {i : Nat} {c : UInt8} (h : L[i]? = some c) (hc : c.toNat = 37) : passN L i = passN L (runB nlC L i) ∧ i < runB nlC L i := by
  have hi := (List.getElem?_eq_some_iff.1 h).1
  have he := (List.getElem?_eq_some_iff.1 h).2
  have hn : nlC c = true := by simp [nlC, hc]
  have hr := runB_step h hn
  have hl := (runB_le (p := nlC) (L := L) (i := i + 1) (by omega)).1
  refine ⟨?_, by omega⟩
  have hd : L.drop (runB nlC L (i + 1)) = (L.drop (i + 1)).dropWhile nlC := by rw [← drop_run nlC (L.drop (i + 1)), List.drop_drop]; rfl
  unfold passN
  rw [hr, hd, List.drop_eq_getElem_cons hi, he]
  simp only [skipL]
  rw [if_pos hc, skip_line]
  unfold runB
  omega
theorem pass_stop {L : Bs} {i : Nat} {c : UInt8} (h : L[i]? = some c) (hb : blkC c = false) (hc : ¬ c.toNat = 37) : passN L i = i := by
  have hi := (List.getElem?_eq_some_iff.1 h).1
  have he := (List.getElem?_eq_some_iff.1 h).2
  unfold passN
  rw [List.drop_eq_getElem_cons hi, he]
  simp only [skipL]
  rw [if_neg hc, if_neg (by rw [hb]; simp)]; rfl
theorem pass_le {L : Bs} {i : Nat} (h : i ≤ L.length) : i ≤ passN L i ∧ passN L i ≤ L.length := by
  have := skipL_le false (L.drop i)
  rw [List.length_drop] at this
  unfold passN; omega
end PSL
namespace PSL
open Go
theorem oneT_at {L : Bs} {i : Nat} {t : Tk} {j : Nat} (h : oneT L i = some (t, j)) : t.at_ = i := by
  have nm : ∀ {kind : Int} {text : Bs} {to : Nat}, nameT L kind text i to = some (t, j) → t.at_ = i := fun h => by
    obtain ⟨_, rfl, _⟩ := nameT_to h; rfl
  unfold oneT at h
  split at h
  · cases h
  split at h
  · exact nm h
  split at h
  · exact nm h
  split at h
  · cases hn : numT (cutB L i (runB dgC L i)) with
    | none => rw [hn] at h; cases h
    | some n => rw [hn] at h; cases h; rfl
  split at h
  · split at h
    · exact nm h
    · cases h
  split at h
  · exact nm h
  split at h
  · exact nm h
  split at h
  · cases h; rfl
  split at h
  · cases h; rfl
  · exact nm h
theorem toks_len : ∀ (f : Nat) (L : Bs) (i : Nat) (l : List Tk), toks f L i = .ok l → l.length ≤ L.length - i
  | 0, L, i, l, h => by simp only [toks, Except.ok.injEq] at h; subst h; simp
  | f + 1, L, i, l, h => by
    simp only [toks] at h
    have hle : i ≤ passN L i := by unfold passN; omega
    split at h
    · rename_i hlt
      cases hone : oneT L (passN L i) with
      | none => rw [hone] at h; cases h
      | some x =>
        obtain ⟨u, to⟩ := x
        rw [hone] at h
        have hto := oneT_to hone
        simp only at h
        cases hr : toks f L to with
        | error j => rw [hr] at h; cases h
        | ok r =>
          rw [hr] at h
          simp only [Except.ok.injEq] at h
          subst h
          have := toks_len f L to r hr
          simp only [List.length_cons]; omega
    · simp only [Except.ok.injEq] at h; subst h; simp
end PSL
