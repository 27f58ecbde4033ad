import Derived.Test.YthfkhfbhbfpglaaSRef8d
import Derived.Test.YthfkhfbhbfpglaaSLex4
namespace Go.Proofs.Ythfkhfbhbfpglaa
open Go PSL Go.Proofs

theorem skip_cons {L : Bs} {i : Nat} {c : UInt8} (hc : L[i]? = some c) (b : Bool) : i + skipL b (L.drop i) = if b = true then i + 1 + skipL (!decide (c.toNat = 10)) (L.drop (i + 1)) else if c.toNat = 37 then i + 1 + skipL true (L.drop (i + 1)) else if blkC c = true then i + 1 + skipL false (L.drop (i + 1)) else i := by
  have hi := (List.getElem?_eq_some_iff.1 hc).1
  have he := (List.getElem?_eq_some_iff.1 hc).2
  rw [List.drop_eq_getElem_cons hi, he]
  cases b with
  | true => rw [if_pos rfl]; simp only [skipL]; omega
  | false =>
    rw [if_neg (by simp)]
    simp only [skipL]
    split
    · omega
    · split <;> omega

set_option maxRecDepth 100000 in
theorem tokens8_ok (L : Bs) (hL : L.length ≤ 9000) : PCtr Try.prog 12 [txA L] (tokR L) := by
  refine PCtr.of_R (pf := fun _ => .eff) tyOk mixed Try.func12 rfl (by kernel_rfl) (by kernel_rfl) (by simp [Try.ntmps12]) fun w S hg => ?_
  refine R_run hg.ok 1000 rfl rfl ?_
  refine R_if rfl rfl (fun h => ?_) (fun h => ?_)
  · refine R_run hg.ok 1000 rfl rfl ?_
    have h : 8000 < L.length := by have := of_decide_eq_true h; rw [Tx_size] at this; omega
    refine R_ret hg 5 rfl rfl ?_
    unfold tokR tokT
    rw [if_pos h]; rfl
  have hbig : ¬ 8000 < L.length := by have := of_decide_eq_false h; rw [Tx_size] at this; omega
  first
  | (refine R_run hg.ok 1 rfl rfl ?_; refine R_own 5 5 rfl rfl ?_)
  | (refine R_run hg.ok 2 rfl rfl ?_; refine R_own 5 5 rfl rfl ?_)
  | (refine R_run hg.ok 3 rfl rfl ?_; refine R_own 5 5 rfl rfl ?_)
  | (refine R_run hg.ok 4 rfl rfl ?_; refine R_own 5 5 rfl rfl ?_)
  | (refine R_run hg.ok 5 rfl rfl ?_; refine R_own 5 5 rfl rfl ?_)
  | (refine R_run hg.ok 6 rfl rfl ?_; refine R_own 5 5 rfl rfl ?_)
  | (refine R_run hg.ok 7 rfl rfl ?_; refine R_own 5 5 rfl rfl ?_)
  | (refine R_run hg.ok 8 rfl rfl ?_; refine R_own 5 5 rfl rfl ?_)
  | (refine R_run hg.ok 9 rfl rfl ?_; refine R_own 5 5 rfl rfl ?_)
  refine R_run hg.ok 1000 rfl rfl ?_
  have h0 : toks (L.length + 1) L 0 = preE [] (toksP L.length L (0 + skipL false (L.drop 0))) := by
    rw [toks_P]
    show toksP L.length L (passN L 0) = preE [] (toksP L.length L (passN L 0))
    cases toksP L.length L (passN L 0) <;> rfl
  refine R_loop (fun x : Nat × Nat × Bool × List Tk => ([(0, txA L), (5, .ow 0 x.2.2.2.length), (6, iV x.2.1), (7, bV x.2.2.1)], [.arr 5 x.2.2.2.length (tkRows x.2.2.2)])) (fun x => x.2.1 ≤ L.length ∧ L.length - x.2.1 ≤ x.1 ∧ x.2.2.2.length ≤ x.2.1 ∧ toks (L.length + 1) L 0 = preE x.2.2.2 (toksP x.1 L (x.2.1 + skipL x.2.2.1 (L.drop x.2.1)))) (fun x => L.length - x.2.1) (L.length, 0, false, []) ⟨Nat.zero_le _, by simp only; omega, Nat.zero_le _, h0⟩ ⟨.refl _, .refl _, .refl _, .ff, trivial⟩ rfl ?_
  rintro ⟨f, i, b, out⟩ ⟨hi, hf, ho, hm⟩
  simp only at hi hf ho hm
  refine R_run hg.ok 1000 rfl rfl ?_
  refine R_if rfl rfl (fun h1 => ?_) (fun h1 => ?_) <;> refine R_run hg.ok 1000 rfl rfl ?_
  · have h1 : i < L.length := lt_dec h1 (by rw [Tx_size])
    have hc : L[i]? = some L[i] := List.getElem?_eq_getElem h1
    generalize L[i] = c at hc
    rw [skip_cons hc] at hm
    have nxt : ∀ b', toks (L.length + 1) L 0 = preE out (toksP f L (i + 1 + skipL b' (L.drop (i + 1)))) → i + 1 ≤ L.length ∧ L.length - (i + 1) ≤ f ∧ out.length ≤ i + 1 ∧ toks (L.length + 1) L 0 = preE out (toksP f L (i + 1 + skipL b' (L.drop (i + 1)))) := fun b' h => ⟨h1, by omega, by omega, h⟩
    refine R_if rfl rfl (fun h2 => ?_) (fun h2 => ?_) <;> refine R_run hg.ok 1000 rfl rfl ?_
    · have h2 : b = true := h2
      rw [if_pos h2] at hm
      refine R_indexS hg.ok rfl rfl rfl rfl rfl (Int.natCast_nonneg i) (b := c) (by rw [Tx_get]; exact hc) ?_
      refine R_run hg.ok 1000 rfl rfl ?_
      exact R_next (f, i + 1, !decide (c.toNat = 10), out) (nxt _ hm) (by simp only; omega) ⟨.refl _, .refl _, Ent.wrap (by simp only; omega) (by simp only; omega) (by simp only; omega), Ent.bool (by rw [Bool.eq_iff_iff]; simp; omega), trivial⟩ rfl
    have h2' : b = false := h2
    have h2 : ¬ b = true := by rw [h2']; simp
    rw [if_neg h2] at hm
    refine R_indexS hg.ok rfl rfl rfl rfl rfl (Int.natCast_nonneg i) (b := c) (by rw [Tx_get]; exact hc) ?_
    refine R_run hg.ok 1000 rfl rfl ?_
    refine R_if rfl rfl (fun h3 => ?_) (fun h3 => ?_) <;> refine R_run hg.ok 1000 rfl rfl ?_
    · have h3 : c.toNat = 37 := by simp at h3; omega
      rw [if_pos h3] at hm
      refine R_indexS hg.ok rfl rfl rfl rfl rfl (Int.natCast_nonneg i) (b := c) (by rw [Tx_get]; exact hc) ?_
      refine R_run hg.ok 1000 rfl rfl ?_
      exact R_next (f, i + 1, true, out) (nxt _ hm) (by simp only; omega) ⟨.refl _, .refl _, Ent.wrap (by simp only; omega) (by simp only; omega) (by simp only; omega), Ent.bool (by simp; omega), trivial⟩ rfl
    have h3 : ¬ c.toNat = 37 := by simp at h3; omega
    rw [if_neg h3] at hm
    have s5 := sort_blk c
    refine R_indexS hg.ok rfl rfl rfl rfl rfl (Int.natCast_nonneg i) (b := c) (by rw [Tx_get]; exact hc) ?_
    refine R_run hg.ok 1000 rfl rfl ?_
    refine R_call hg.ok (sort8_ok c) rfl rfl rfl rfl rfl rfl ?_
    refine R_run hg.ok 1000 rfl rfl ?_
    refine R_if rfl rfl (fun h4 => ?_) (fun h4 => ?_) <;> refine R_run hg.ok 1000 rfl rfl ?_
    · have h4 : blkC c = true := by rw [← s5]; simpa using h4
      rw [if_pos h4] at hm
      exact R_next (f, i + 1, false, out) (nxt _ hm) (by simp only; omega) ⟨.refl _, .refl _, Ent.wrap (by simp only; omega) (by simp only; omega) (by simp only; omega), Ent.bool h2', trivial⟩ rfl
    have h4 : ¬ blkC c = true := by rw [← s5]; simpa using h4
    rw [if_neg h4] at hm
    refine R_call hg.ok (one8_ok L i c hc hL) rfl rfl rfl rfl rfl rfl ?_
    refine R_run hg.ok 1000 rfl rfl ?_
    have hP : toksP f L i = match oneT L i with
      | none => .error i
      | some (t, to) => match toks f L to with
        | .ok l => .ok (t :: l)
        | .error j => .error j := by unfold toksP; rw [if_pos h1]; rfl
    cases hone : oneT L i with
    | none =>
      rw [hone] at hP
      refine R_if rfl rfl (fun _ => ?_) (fun h => absurd h (by simp [oneI])) <;> refine R_run hg.ok 1000 rfl rfl ?_
      refine R_ret hg 5 rfl rfl ?_
      rw [tokR_bad hbig (j := i) (by rw [hm, hP]; rfl)]
      rfl
    | some x =>
      obtain ⟨t, to⟩ := x
      rw [hone] at hP
      have hto := oneT_to hone
      simp only at hP
      refine R_if rfl rfl (fun h => absurd h (by simp [oneI]; exact decide_eq_false (by omega))) (fun _ => ?_) <;> refine R_run hg.ok 1000 rfl rfl ?_
      have hf1 : f = (f - 1) + 1 := by omega
      rw [hf1, toks_P] at hP
      refine R_appendO hg.ok (tkRows (out ++ [t])) rfl rfl rfl rfl rfl rfl rfl rfl rfl (by simp) (by simp [one1]) (by simp [tkRows, tkD, oneK]) (by rw [tkRows_len]; simp; omega) (by rw [tkRows_len]; simp; omega) ?_
      refine R_run hg.ok 1000 rfl rfl ?_
      refine R_dropO 1 [.arr 5 (out.length + 1) (tkRows (out ++ [t]))] (Nat.zero_le _) rfl rfl ?_
      refine R_next (f - 1, to, false, out ++ [t]) ⟨hto.2, by simp only; omega, by simp; omega, ?_⟩ (by simp only; omega) ⟨.refl _, by simp only [List.length_append, List.length_singleton]; exact .refl _, .refl _, Ent.bool h2', trivial⟩ (by simp only [List.length_append, List.length_singleton])
      simp only
      rw [hm, preE_snoc]
      show preE out (toksP f L i) = preE out (match toksP (f - 1) L (passN L to) with
        | .ok l => .ok (t :: l)
        | .error j => .error j)
      rw [← hP, ← hf1]
  · have h1 : L.length ≤ i := ge_dec h1 (by rw [Tx_size])
    rw [List.drop_eq_nil_of_le h1] at hm
    refine R_ret hg 5 rfl (sealA_tup (mapO_cons (sealA_ow rfl) rfl)) ?_
    rw [tokR_ok hbig (l := out) (by rw [hm]; unfold toksP; rw [if_neg (by omega)]; simp [preE])]
    rfl
end Go.Proofs.Ythfkhfbhbfpglaa
