import Derived.Test.YthfkhfbhbfpglaaSRef8b
import Derived.Test.YthfkhfbhbfpglaaSLex
namespace Go.Proofs.Ythfkhfbhbfpglaa
open Go PSL Go.Proofs

theorem wrap_sub48 (a : Int) : IntKind.i64.wrap (IntKind.i64.wrap a - 48) = IntKind.i64.wrap (a - 48) := by
  simp [IntKind.wrap, IntKind.signed, IntKind.bits]; omega

set_option maxRecDepth 100000 in
theorem number8_ok (D : Bs) (hd : D.all dgC = true) (hl : D.length ≤ 9000) (hne : D ≠ []) : PCtr Try.prog 54 [txA D] (.tup [iV (numP D).1, bV (numP D).2]) := by
  have bad : numT D = none → AV.tup [iV 0, .d (.v (.bool false))] = .tup [iV (numP D).1, bV (numP D).2] := fun h => by unfold numP; rw [h]; rfl
  have ok : ∀ n : Nat, numT D = some n → AV.tup [iV n, .d (.v (.bool true))] = .tup [iV (numP D).1, bV (numP D).2] := fun n h => by unfold numP; rw [h]; rfl
  have hpos : 0 < D.length := by cases D with | nil => exact absurd rfl hne | cons a b => simp
  have e0 : D[0]? = some D[0] := List.getElem?_eq_getElem hpos
  refine PCtr.of_R (pf := fun _ => .still) tyOk mixed Try.func54 rfl (by kernel_rfl) (by kernel_rfl) (by simp [Try.ntmps54]) fun w S hg => ?_
  refine R_run hg.ok 1000 rfl rfl ?_
  refine R_indexS hg.ok rfl rfl rfl rfl rfl (by decide) (b := D[0]) (by rw [Tx_get]; exact e0) ?_
  refine R_run hg.ok 1000 rfl rfl ?_
  by_cases h0 : 1 < D.length ∧ (D[0]?.map UInt8.toNat) = some 48
  · have hb := bad (by unfold numT; rw [if_pos (.inl h0)])
    have h48 : D[0].toNat = 48 := by have := h0.2; rw [e0] at this; simpa using this
    refine R_if rfl rfl (fun _ => ?_) (fun h => absurd h (by simp; omega)) <;> refine R_run hg.ok 1000 rfl rfl ?_
    refine R_if rfl rfl (fun _ => ?_) (fun h => absurd h (by simp [Tx_size]; omega)) <;> refine R_run hg.ok 1000 rfl rfl ?_
    refine R_ret hg 5 rfl rfl ?_
    exact hb
  have h0' : ¬ (1 < D.length ∧ (D[0]?.map UInt8.toNat) = some 48) := h0
  have hv : numT D = none ∨ (numT D = some (valN 0 D) ∧ valN 0 D ≤ 9223372036854775807) := by
    unfold numT
    by_cases hb : 9223372036854775807 < valN 0 D
    · rw [if_pos (.inr hb)]; exact .inl rfl
    · rw [if_neg (by rintro (g | g); exact h0 g; exact hb g)]; exact .inr ⟨rfl, by omega⟩
  have href := num_ref hd h0 hne
  have hbig : 9223372036854775807 < valN 0 D → numT D = none := fun hb => by unfold numT; rw [if_pos (.inr hb)]
  have hsmall : ¬ 9223372036854775807 < valN 0 D → numT D = some (valN 0 D) := fun hb => by
    unfold numT; rw [if_neg (by rintro (g | g); exact h0 g; exact hb g)]
  refine R_if rfl rfl (fun h1 => ?_) (fun h1 => ?_) <;> refine R_run hg.ok 1000 rfl rfl ?_
  · have h1 : D[0].toNat = 48 := by simp at h1; omega
    have h2 : D.length = 1 := Classical.byContradiction fun h2 => h0 ⟨by omega, by rw [e0]; simp [h1]⟩
    refine R_if rfl rfl (fun h => absurd h (by simp [Tx_size]; omega)) (fun _ => ?_) <;> refine R_run hg.ok 1000 rfl rfl ?_
    refine R_if rfl rfl (fun h => absurd h (by simp [Tx_size]; omega)) (fun _ => ?_) <;> refine R_run hg.ok 1000 rfl rfl ?_
    refine R_if rfl rfl (fun h => absurd h (by simp [Tx_size]; omega)) (fun _ => ?_) <;> refine R_run hg.ok 1000 rfl rfl ?_
    have hno : ¬ 9223372036854775807 < valN 0 D := fun g => by rcases href.1 g with h | h <;> omega
    refine R_loop (fun k : Nat => ([(0, txA D), (4, iV (valN 0 (D.take k))), (5, iV k)], [])) (fun k => k ≤ D.length) (fun k => D.length - k) 0 (Nat.zero_le _) ⟨.refl _, .refl _, .refl _, trivial⟩ rfl ?_
    rintro k hk
    refine R_run hg.ok 1000 rfl rfl ?_
    refine R_if rfl rfl (fun h => ?_) (fun h => ?_) <;> refine R_run hg.ok 1000 rfl rfl ?_
    · have hk1 : k < D.length := lt_dec h (by rw [Tx_size])
      have e1 : D[k]? = some D[k] := List.getElem?_eq_getElem hk1
      have hdk : dgC D[k] = true := List.all_eq_true.1 hd _ (List.getElem_mem hk1)
      have htk : D.take (k + 1) = D.take k ++ [D[k]] := by rw [List.take_add_one, e1]; rfl
      have hv : valN 0 (D.take (k + 1)) = 10 * valN 0 (D.take k) + (D[k].toNat - 48) := by rw [htk, valN_snoc]
      have hmono : valN 0 (D.take (k + 1)) ≤ valN 0 D := by
        have := valN_mono (D.take (k + 1)) (D.drop (k + 1))
        rwa [List.take_append_drop] at this
      have hd9 : 48 ≤ D[k].toNat ∧ D[k].toNat ≤ 57 := by simp only [dgC, Bool.and_eq_true, decide_eq_true_eq] at hdk; exact hdk
      generalize D[k] = c at e1 hv hd9
      refine R_indexS hg.ok rfl rfl rfl rfl rfl (Int.natCast_nonneg k) (b := c) (by rw [Tx_get]; exact e1) ?_
      refine R_run hg.ok 1000 rfl rfl ?_
      refine R_next (k + 1) hk1 (by omega) ⟨.refl _, ?_, Ent.wrap (by omega) (by omega) (by omega), trivial⟩ rfl
      refine Ent.int ?_
      rw [w64 (n := 10 * (valN 0 (D.take k) : Int)) (by omega) (by omega), w64 (n := (c.toNat : Int)) (by omega) (by omega), wrap_sub48, w64 (by omega) (by omega)]
      omega
    · have hk1 : D.length ≤ k := ge_dec h (by rw [Tx_size])
      refine R_ret hg 5 rfl rfl ?_
      rw [List.take_of_length_le hk1]
      exact ok _ (hsmall hno)
  refine R_if rfl rfl (fun h2 => ?_) (fun h2 => ?_) <;> refine R_run hg.ok 1000 rfl rfl ?_
  · have h2 : 19 < D.length := by have := of_decide_eq_true h2; rw [Tx_size] at this; omega
    refine R_ret hg 5 rfl rfl ?_
    exact bad (hbig (href.2 (.inl h2)))
  have h2 : ¬ 19 < D.length := by have := of_decide_eq_false h2; rw [Tx_size] at this; omega
  refine R_if rfl rfl (fun h3 => ?_) (fun h3 => ?_) <;> refine R_run hg.ok 1000 rfl rfl ?_
  · have h3 : D.length = 19 := by simp [Tx_size] at h3; omega
    have hgt : (Op.bytesLess (Tx D).toList (Tx maxD).toList || strEq (Tx D) (Tx maxD)) = (Op.bytesLess D maxD || D == maxD) := by rw [Tx_list, Tx_list, Tx_eq]
    refine R_if rfl rfl (fun h4 => ?_) (fun h4 => ?_) <;> refine R_run hg.ok 1000 rfl rfl ?_
    · have h4 : (!(Op.bytesLess (Tx D).toList (Tx maxD).toList || strEq (Tx D) (Tx maxD))) = true := h4
      rw [hgt] at h4
      refine R_ret hg 5 rfl rfl ?_
      exact bad (hbig (href.2 (.inr ⟨h3, by simpa using h4⟩)))
    · have h4 : (!(Op.bytesLess (Tx D).toList (Tx maxD).toList || strEq (Tx D) (Tx maxD))) = false := h4
      rw [hgt] at h4
      have hno : ¬ 9223372036854775807 < valN 0 D := fun g => by
        rcases href.1 g with h | ⟨_, h⟩
        · omega
        · rw [h] at h4; cases h4
      refine R_loop (fun k : Nat => ([(0, txA D), (4, iV (valN 0 (D.take k))), (5, iV k)], [])) (fun k => k ≤ D.length) (fun k => D.length - k) 0 (Nat.zero_le _) ⟨.refl _, .refl _, .refl _, trivial⟩ rfl ?_
      rintro k hk
      refine R_run hg.ok 1000 rfl rfl ?_
      refine R_if rfl rfl (fun h => ?_) (fun h => ?_) <;> refine R_run hg.ok 1000 rfl rfl ?_
      · have hk1 : k < D.length := lt_dec h (by rw [Tx_size])
        have e1 : D[k]? = some D[k] := List.getElem?_eq_getElem hk1
        have hdk : dgC D[k] = true := List.all_eq_true.1 hd _ (List.getElem_mem hk1)
        have htk : D.take (k + 1) = D.take k ++ [D[k]] := by rw [List.take_add_one, e1]; rfl
        have hv : valN 0 (D.take (k + 1)) = 10 * valN 0 (D.take k) + (D[k].toNat - 48) := by rw [htk, valN_snoc]
        have hmono : valN 0 (D.take (k + 1)) ≤ valN 0 D := by
          have := valN_mono (D.take (k + 1)) (D.drop (k + 1))
          rwa [List.take_append_drop] at this
        have hd9 : 48 ≤ D[k].toNat ∧ D[k].toNat ≤ 57 := by simp only [dgC, Bool.and_eq_true, decide_eq_true_eq] at hdk; exact hdk
        generalize D[k] = c at e1 hv hd9
        refine R_indexS hg.ok rfl rfl rfl rfl rfl (Int.natCast_nonneg k) (b := c) (by rw [Tx_get]; exact e1) ?_
        refine R_run hg.ok 1000 rfl rfl ?_
        refine R_next (k + 1) hk1 (by omega) ⟨.refl _, ?_, Ent.wrap (by omega) (by omega) (by omega), trivial⟩ rfl
        refine Ent.int ?_
        rw [w64 (n := 10 * (valN 0 (D.take k) : Int)) (by omega) (by omega), w64 (n := (c.toNat : Int)) (by omega) (by omega), wrap_sub48, w64 (by omega) (by omega)]
        omega
      · have hk1 : D.length ≤ k := ge_dec h (by rw [Tx_size])
        refine R_ret hg 5 rfl rfl ?_
        rw [List.take_of_length_le hk1]
        exact ok _ (hsmall hno)
  have h3 : ¬ D.length = 19 := by simp [Tx_size] at h3; omega
  have hno : ¬ 9223372036854775807 < valN 0 D := fun g => by rcases href.1 g with h | h <;> omega
  refine R_loop (fun k : Nat => ([(0, txA D), (4, iV (valN 0 (D.take k))), (5, iV k)], [])) (fun k => k ≤ D.length) (fun k => D.length - k) 0 (Nat.zero_le _) ⟨.refl _, .refl _, .refl _, trivial⟩ rfl ?_
  rintro k hk
  refine R_run hg.ok 1000 rfl rfl ?_
  refine R_if rfl rfl (fun h => ?_) (fun h => ?_) <;> refine R_run hg.ok 1000 rfl rfl ?_
  · have hk1 : k < D.length := lt_dec h (by rw [Tx_size])
    have e1 : D[k]? = some D[k] := List.getElem?_eq_getElem hk1
    have hdk : dgC D[k] = true := List.all_eq_true.1 hd _ (List.getElem_mem hk1)
    have htk : D.take (k + 1) = D.take k ++ [D[k]] := by rw [List.take_add_one, e1]; rfl
    have hv : valN 0 (D.take (k + 1)) = 10 * valN 0 (D.take k) + (D[k].toNat - 48) := by rw [htk, valN_snoc]
    have hmono : valN 0 (D.take (k + 1)) ≤ valN 0 D := by
      have := valN_mono (D.take (k + 1)) (D.drop (k + 1))
      rwa [List.take_append_drop] at this
    have hd9 : 48 ≤ D[k].toNat ∧ D[k].toNat ≤ 57 := by simp only [dgC, Bool.and_eq_true, decide_eq_true_eq] at hdk; exact hdk
    generalize D[k] = c at e1 hv hd9
    refine R_indexS hg.ok rfl rfl rfl rfl rfl (Int.natCast_nonneg k) (b := c) (by rw [Tx_get]; exact e1) ?_
    refine R_run hg.ok 1000 rfl rfl ?_
    refine R_next (k + 1) hk1 (by omega) ⟨.refl _, ?_, Ent.wrap (by omega) (by omega) (by omega), trivial⟩ rfl
    refine Ent.int ?_
    rw [w64 (n := 10 * (valN 0 (D.take k) : Int)) (by omega) (by omega), w64 (n := (c.toNat : Int)) (by omega) (by omega), wrap_sub48, w64 (by omega) (by omega)]
    omega
  · have hk1 : D.length ≤ k := ge_dec h (by rw [Tx_size])
    refine R_ret hg 5 rfl rfl ?_
    rw [List.take_of_length_le hk1]
    exact ok _ (hsmall hno)

def oneK (o : Option (Tk × Nat)) : Tk := match o with
  | some x => x.1
  | none => ⟨0, [], 0, 0, false⟩

def oneI (o : Option (Tk × Nat)) : Int := match o with
  | some x => x.2
  | none => -1

def oneA (o : Option (Tk × Nat)) : AV := .tup [tkA (oneK o), .d (.v (.int .i64 (oneI o)))]

set_option maxRecDepth 100000 in
theorem name8_ok (L : Bs) (kind : Int) (text : Bs) (i to : Nat) (hto : to ≤ L.length) (hL : L.length ≤ 9000) : PCtr Try.prog 51 [txA L, iV kind, txA text, iV i, iV to] (oneA (nameT L kind text i to)) := by
  refine PCtr.of_R (pf := fun _ => .eff) tyOk mixed Try.func51 rfl (by kernel_rfl) (by kernel_rfl) (by simp [Try.ntmps51]) fun w S hg => ?_
  refine R_run hg.ok 1000 rfl rfl ?_
  refine R_if rfl rfl (fun h1 => ?_) (fun h1 => ?_) <;> refine R_run hg.ok 1000 rfl rfl ?_
  · have h1 : ¬ 1 ≤ text.length := by have := of_decide_eq_true h1; rw [Tx_size] at this; omega
    refine R_ret hg 5 rfl rfl ?_
    rw [nameT, if_neg (by omega)]; rfl
  have h1 : 1 ≤ text.length := by have := of_decide_eq_false h1; rw [Tx_size] at this; omega
  refine R_if rfl rfl (fun h2 => ?_) (fun h2 => ?_) <;> refine R_run hg.ok 1000 rfl rfl ?_
  · have h2 : ¬ text.length ≤ 20 := by have := of_decide_eq_true h2; rw [Tx_size] at this; omega
    refine R_ret hg 5 rfl rfl ?_
    rw [nameT, if_neg (by omega)]; rfl
  have h2 : text.length ≤ 20 := by have := of_decide_eq_false h2; rw [Tx_size] at this; omega
  refine R_if rfl rfl (fun h3 => ?_) (fun h3 => ?_) <;> refine R_run hg.ok 1000 rfl rfl ?_
  · have h3 : to < L.length := lt_dec h3 (by rw [Tx_size])
    have e1 : L[to]? = some L[to] := List.getElem?_eq_getElem h3
    have ho : (((L[to].toNat : Int)) == 40) = opnB L to := by
      rw [opnB, e1, Bool.eq_iff_iff, beq_iff_eq, decide_eq_true_eq]; omega
    refine R_indexS hg.ok rfl rfl rfl rfl rfl (Int.natCast_nonneg to) (b := L[to]) (by rw [Tx_get]; exact e1) ?_
    refine R_run hg.ok 1000 rfl rfl ?_
    rw [ho]
    refine R_ret hg 5 rfl rfl ?_
    rw [nameT, if_pos ⟨h1, h2⟩]; rfl
  · have h3 : L.length ≤ to := ge_dec h3 (by rw [Tx_size])
    have ho : opnB L to = false := by rw [opnB, List.getElem?_eq_none h3]
    refine R_ret hg 5 rfl rfl ?_
    rw [nameT, if_pos ⟨h1, h2⟩, ho]; rfl
end Go.Proofs.Ythfkhfbhbfpglaa
