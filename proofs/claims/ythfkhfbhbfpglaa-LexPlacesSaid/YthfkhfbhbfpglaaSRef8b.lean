import Derived.Test.YthfkhfbhbfpglaaSRef8
namespace Go.Proofs.Ythfkhfbhbfpglaa
open Go PSL Go.Proofs

set_option maxRecDepth 100000 in
theorem word8_ok (L : Bs) (i : Nat) (hi : i ≤ L.length) (hL : L.length ≤ 9000) : PCtr Try.prog 52 [txA L, iV i] (iV (runB folC L i)) := by
  refine PCtr.of_R (pf := fun _ => .still) tyOk mixed Try.func52 rfl (by kernel_rfl) (by kernel_rfl) (by simp [Try.ntmps52]) fun w S hg => ?_
  refine R_run hg.ok 1000 rfl rfl ?_
  refine R_loop (fun k : Nat => ([(0, txA L), (1, iV k)], [])) (fun k => k ≤ L.length ∧ runB folC L i = runB folC L k) (fun k => L.length - k) i ⟨hi, rfl⟩ ⟨.refl _, .refl _, trivial⟩ rfl ?_
  rintro k ⟨hk, hm⟩
  refine R_run hg.ok 1000 rfl rfl ?_
  refine R_if rfl rfl (fun h => ?_) (fun h => ?_) <;> refine R_run hg.ok 1000 rfl rfl ?_
  · have hk1 : k < L.length := lt_dec h (by rw [Tx_size])
    have e1 : L[k]? = some L[k] := List.getElem?_eq_getElem hk1
    have hs := sort_fol L[k]
    generalize L[k] = c at e1 hs
    refine R_indexS hg.ok rfl rfl rfl rfl rfl (Int.natCast_nonneg k) (b := c) (by rw [Tx_get]; exact e1) ?_
    refine R_run hg.ok 1000 rfl rfl ?_
    refine R_call hg.ok (sort8_ok c) rfl rfl rfl rfl rfl rfl ?_
    refine R_run hg.ok 1000 rfl rfl ?_
    refine R_if rfl rfl (fun h1 => ?_) (fun h1 => ?_) <;> refine R_run hg.ok 1000 rfl rfl ?_
    · have h1 : 1 ≤ sortC c := by have := of_decide_eq_true h1; omega
      refine R_indexS hg.ok rfl rfl rfl rfl rfl (Int.natCast_nonneg k) (b := c) (by rw [Tx_get]; exact e1) ?_
      refine R_run hg.ok 1000 rfl rfl ?_
      refine R_call hg.ok (sort8_ok c) rfl rfl rfl rfl rfl rfl ?_
      refine R_run hg.ok 1000 rfl rfl ?_
      refine R_if rfl rfl (fun h2 => ?_) (fun h2 => ?_) <;> refine R_run hg.ok 1000 rfl rfl ?_
      · have h2 : sortC c ≤ 3 := by have := of_decide_eq_true h2; omega
        exact R_next (k + 1) ⟨hk1, by rw [hm, runB_step e1 (by rw [← hs]; simp; omega)]⟩ (by omega) ⟨.refl _, Ent.wrap (by omega) (by omega) (by omega), trivial⟩ rfl
      · have h2 : ¬ sortC c ≤ 3 := by have := of_decide_eq_false h2; omega
        refine R_ret hg 5 rfl rfl ?_
        rw [hm, runB_stop e1 (by rw [← hs]; simp; omega)]; rfl
    · have h1 : ¬ 1 ≤ sortC c := by have := of_decide_eq_false h1; omega
      refine R_ret hg 5 rfl rfl ?_
      rw [hm, runB_stop e1 (by rw [← hs]; simp; omega)]; rfl
  · have hk1 : L.length ≤ k := ge_dec h (by rw [Tx_size])
    refine R_ret hg 5 rfl rfl ?_
    rw [hm, runB_end hk1]; rfl

set_option maxRecDepth 100000 in
theorem digits8_ok (L : Bs) (i : Nat) (hi : i ≤ L.length) (hL : L.length ≤ 9000) : PCtr Try.prog 53 [txA L, iV i] (iV (runB dgC L i)) := by
  refine PCtr.of_R (pf := fun _ => .still) tyOk mixed Try.func53 rfl (by kernel_rfl) (by kernel_rfl) (by simp [Try.ntmps53]) fun w S hg => ?_
  refine R_run hg.ok 1000 rfl rfl ?_
  refine R_loop (fun k : Nat => ([(0, txA L), (1, iV k)], [])) (fun k => k ≤ L.length ∧ runB dgC L i = runB dgC L k) (fun k => L.length - k) i ⟨hi, rfl⟩ ⟨.refl _, .refl _, trivial⟩ rfl ?_
  rintro k ⟨hk, hm⟩
  refine R_run hg.ok 1000 rfl rfl ?_
  refine R_if rfl rfl (fun h => ?_) (fun h => ?_) <;> refine R_run hg.ok 1000 rfl rfl ?_
  · have hk1 : k < L.length := lt_dec h (by rw [Tx_size])
    have e1 : L[k]? = some L[k] := List.getElem?_eq_getElem hk1
    have hs := sort_dig L[k]
    generalize L[k] = c at e1 hs
    refine R_indexS hg.ok rfl rfl rfl rfl rfl (Int.natCast_nonneg k) (b := c) (by rw [Tx_get]; exact e1) ?_
    refine R_run hg.ok 1000 rfl rfl ?_
    refine R_call hg.ok (sort8_ok c) rfl rfl rfl rfl rfl rfl ?_
    refine R_run hg.ok 1000 rfl rfl ?_
    refine R_if rfl rfl (fun h1 => ?_) (fun h1 => ?_) <;> refine R_run hg.ok 1000 rfl rfl ?_
    · have h1 : sortC c = 3 := by simpa using h1
      exact R_next (k + 1) ⟨hk1, by rw [hm, runB_step e1 (by rw [← hs]; simp [h1])]⟩ (by omega) ⟨.refl _, Ent.wrap (by omega) (by omega) (by omega), trivial⟩ rfl
    · have h1 : ¬ sortC c = 3 := by simpa using h1
      refine R_ret hg 5 rfl rfl ?_
      rw [hm, runB_stop e1 (by rw [← hs]; simp [h1])]; rfl
  · have hk1 : L.length ≤ k := ge_dec h (by rw [Tx_size])
    refine R_ret hg 5 rfl rfl ?_
    rw [hm, runB_end hk1]; rfl


set_option maxRecDepth 100000 in
theorem signs8_ok (L : Bs) (i : Nat) (hi : i ≤ L.length) (hL : L.length ≤ 9000) : PCtr Try.prog 56 [txA L, iV i] (iV (runB sgnC L i)) := by
  refine PCtr.of_R (pf := fun _ => .still) tyOk mixed Try.func56 rfl (by kernel_rfl) (by kernel_rfl) (by simp [Try.ntmps56]) fun w S hg => ?_
  refine R_run hg.ok 1000 rfl rfl ?_
  refine R_loop (fun k : Nat => ([(0, txA L), (1, iV k)], [])) (fun k => k ≤ L.length ∧ runB sgnC L i = runB sgnC L k) (fun k => L.length - k) i ⟨hi, rfl⟩ ⟨.refl _, .refl _, trivial⟩ rfl ?_
  rintro k ⟨hk, hm⟩
  refine R_run hg.ok 1000 rfl rfl ?_
  refine R_if rfl rfl (fun h => ?_) (fun h => ?_) <;> refine R_run hg.ok 1000 rfl rfl ?_
  · have hk1 : k < L.length := lt_dec h (by rw [Tx_size])
    have e1 : L[k]? = some L[k] := List.getElem?_eq_getElem hk1
    have hs := sort_sgn L[k]
    generalize L[k] = c at e1 hs
    refine R_indexS hg.ok rfl rfl rfl rfl rfl (Int.natCast_nonneg k) (b := c) (by rw [Tx_get]; exact e1) ?_
    refine R_run hg.ok 1000 rfl rfl ?_
    refine R_call hg.ok (sort8_ok c) rfl rfl rfl rfl rfl rfl ?_
    refine R_run hg.ok 1000 rfl rfl ?_
    refine R_if rfl rfl (fun h1 => ?_) (fun h1 => ?_) <;> refine R_run hg.ok 1000 rfl rfl ?_
    · have h1 : sortC c = 4 := by simpa using h1
      exact R_next (k + 1) ⟨hk1, by rw [hm, runB_step e1 (by rw [← hs]; simp [h1])]⟩ (by omega) ⟨.refl _, Ent.wrap (by omega) (by omega) (by omega), trivial⟩ rfl
    · have h1 : ¬ sortC c = 4 := by simpa using h1
      refine R_ret hg 5 rfl rfl ?_
      rw [hm, runB_stop e1 (by rw [← hs]; simp [h1])]; rfl
  · have hk1 : L.length ≤ k := ge_dec h (by rw [Tx_size])
    refine R_ret hg 5 rfl rfl ?_
    rw [hm, runB_end hk1]; rfl


def quo2 (L : Bs) (at_ : Nat) : Bs × Nat × Bool := match quo (L.drop at_) with
  | some (t, k) => (t, at_ + k, true)
  | none => ([], 0, false)

set_option maxRecDepth 100000 in
theorem quoted8_ok (L : Bs) (i : Nat) (hi : i ≤ L.length) (hL : L.length ≤ 9000) : PCtr Try.prog 55 [txA L, iV i] (.tup [txA (quo2 L i).1, iV (quo2 L i).2.1, bV (quo2 L i).2.2]) := by
  have bad : quo (L.drop i) = none → AV.tup [.d (.v (.string ByteArray.empty)), iV 0, .d (.v (.bool false))] = .tup [txA (quo2 L i).1, iV (quo2 L i).2.1, bV (quo2 L i).2.2] := fun h => by
    unfold quo2; rw [h]; rfl
  refine PCtr.of_R (pf := fun _ => .still) tyOk mixed Try.func55 rfl (by kernel_rfl) (by kernel_rfl) (by simp [Try.ntmps55]) fun w S hg => ?_
  refine R_run hg.ok 1000 rfl rfl ?_
  refine R_loop (fun x : Nat × Bs => ([(0, txA L), (1, iV x.1), (7, txA x.2)], [])) (fun x => i ≤ x.1 ∧ x.1 ≤ L.length ∧ x.2.length ≤ x.1 ∧ quo (L.drop i) = (quo (L.drop x.1)).map fun y => (x.2 ++ y.1, y.2 + (x.1 - i))) (fun x => L.length - x.1) (i, []) ⟨Nat.le_refl _, hi, Nat.zero_le _, by simp⟩ ⟨.refl _, .refl _, .refl _, trivial⟩ rfl ?_
  rintro ⟨k, out⟩ ⟨hk0, hk, ho, hm⟩
  simp only at hk0 hk ho hm
  refine R_run hg.ok 1000 rfl rfl ?_
  refine R_if rfl rfl (fun h => ?_) (fun h => ?_) <;> refine R_run hg.ok 1000 rfl rfl ?_
  · have hk1 : k < L.length := lt_dec h (by rw [Tx_size])
    have e1 : L[k]? = some L[k] := List.getElem?_eq_getElem hk1
    have hd : L.drop k = L[k] :: L.drop (k + 1) := List.drop_eq_getElem_cons hk1
    generalize L[k] = c at e1 hd
    refine R_indexS hg.ok rfl rfl rfl rfl rfl (Int.natCast_nonneg k) (b := c) (by rw [Tx_get]; exact e1) ?_
    refine R_run hg.ok 1000 rfl rfl ?_
    rw [hd] at hm
    refine R_if rfl rfl (fun h1 => ?_) (fun h1 => ?_) <;> refine R_run hg.ok 1000 rfl rfl ?_
    · have h1 : c.toNat < 32 := by simp at h1; omega
      refine R_ret hg 5 rfl rfl ?_
      exact bad (by rw [hm, quo_bad (.inl h1)]; rfl)
    have h1 : ¬ c.toNat < 32 := by simp at h1; omega
    refine R_indexS hg.ok rfl rfl rfl rfl rfl (Int.natCast_nonneg k) (b := c) (by rw [Tx_get]; exact e1) ?_
    refine R_run hg.ok 1000 rfl rfl ?_
    refine R_if rfl rfl (fun h2 => ?_) (fun h2 => ?_) <;> refine R_run hg.ok 1000 rfl rfl ?_
    · have h2 : 126 < c.toNat := by simp at h2; omega
      refine R_ret hg 5 rfl rfl ?_
      exact bad (by rw [hm, quo_bad (.inr h2)]; rfl)
    have h2 : ¬ 126 < c.toNat := by simp at h2; omega
    refine R_indexS hg.ok rfl rfl rfl rfl rfl (Int.natCast_nonneg k) (b := c) (by rw [Tx_get]; exact e1) ?_
    refine R_run hg.ok 1000 rfl rfl ?_
    refine R_if rfl rfl (fun h3 => ?_) (fun h3 => ?_) <;> refine R_run hg.ok 1000 rfl rfl ?_
    · have h3 : c.toNat = 39 := by simp at h3; omega
      rw [w64 (n := (k : Int) + 1) (by omega) (by omega), show (k : Int) + 1 = ((k + 1 : Nat) : Int) by omega]
      refine R_if rfl rfl (fun h4 => ?_) (fun h4 => ?_) <;> refine R_run hg.ok 1000 rfl rfl ?_
      · have hk2 : k + 1 < L.length := lt_dec h4 (by rw [Tx_size])
        rw [w64 (n := (k : Int) + 1) (by omega) (by omega), show (k : Int) + 1 = ((k + 1 : Nat) : Int) by omega]
        have e2 : L[k + 1]? = some L[k + 1] := List.getElem?_eq_getElem hk2
        have hd2 : L.drop (k + 1) = L[k + 1] :: L.drop (k + 1 + 1) := List.drop_eq_getElem_cons hk2
        generalize L[k + 1] = d at e2 hd2
        refine R_indexS hg.ok rfl rfl rfl rfl rfl (Int.natCast_nonneg (k + 1)) (b := d) (by rw [Tx_get]; exact e2) ?_
        refine R_run hg.ok 1000 rfl rfl ?_
        refine R_if rfl rfl (fun h5 => ?_) (fun h5 => ?_) <;> refine R_run hg.ok 1000 rfl rfl ?_
        · have h5 : d.toNat = 39 := by simp at h5; omega
          rw [hd2, quo_two h3 h5] at hm
          rw [w64 (n := (k : Int) + 1) (by omega) (by omega), show (k : Int) + 1 = ((k + 1 : Nat) : Int) by omega]
          rw [w64 (n := ((k + 1 : Nat) : Int) + 1) (by omega) (by omega)]
          refine R_sliceS hg.ok rfl rfl rfl (l := ((k + 1 : Nat) : Int)) (h := ((k + 1 : Nat) : Int) + 1) rfl rfl rfl (by omega) (by omega) (by rw [Tx_size]; omega) ?_
          rw [Tx_cut, show ((((k + 1 : Nat) : Int) + 1).toNat - (((k + 1 : Nat) : Int)).toNat) = 1 by omega, show (((k + 1 : Nat) : Int)).toNat = k + 1 by omega, hd2, List.take_succ_cons, List.take_zero, show d = 39 from UInt8.toNat_inj.1 h5]
          refine R_run hg.ok 1000 rfl rfl ?_
          refine R_concat hg.ok (Tx (out ++ [39])) rfl rfl rfl rfl (by rw [Tx_size, Tx_size]; simp; omega) (Tx_app _ _) ?_
          refine R_run hg.ok 1000 rfl rfl ?_
          refine R_next (k + 2, out ++ [39]) ⟨by simp only; omega, hk2, by simp; omega, ?_⟩ (by simp only; omega) ⟨.refl _, Ent.wrap (by simp only; omega) (by simp only; omega) (by simp only; omega), .refl _, trivial⟩ rfl
          simp only
          rw [hm, Option.map_map]
          congr 1
          funext y
          simp; omega
        · have h5 : ¬ d.toNat = 39 := by simp at h5; omega
          have last : quo2 L i = (out, k + 1, true) := by
            unfold quo2
            rw [hm, quo_one h3 (fun x hx => by rw [hd2] at hx; cases hx; exact h5)]
            simp; omega
          refine R_indexS hg.ok rfl rfl rfl rfl rfl (Int.natCast_nonneg k) (b := c) (by rw [Tx_get]; exact e1) ?_
          refine R_run hg.ok 1000 rfl rfl ?_
          refine R_if rfl rfl (fun _ => ?_) (fun h => absurd h (by simp; omega)) <;> refine R_run hg.ok 1000 rfl rfl ?_
          rw [w64 (n := (k : Int) + 1) (by omega) (by omega), show (k : Int) + 1 = ((k + 1 : Nat) : Int) by omega]
          refine R_ret hg 5 rfl rfl ?_
          rw [last]; rfl
      · have hk2 : L.length ≤ k + 1 := ge_dec h4 (by rw [Tx_size])
        have last : quo2 L i = (out, k + 1, true) := by
          unfold quo2
          rw [hm, quo_one h3 (fun x hx => by rw [List.drop_eq_nil_of_le hk2] at hx; cases hx)]
          simp; omega
        refine R_indexS hg.ok rfl rfl rfl rfl rfl (Int.natCast_nonneg k) (b := c) (by rw [Tx_get]; exact e1) ?_
        refine R_run hg.ok 1000 rfl rfl ?_
        refine R_if rfl rfl (fun _ => ?_) (fun h => absurd h (by simp; omega)) <;> refine R_run hg.ok 1000 rfl rfl ?_
        rw [w64 (n := (k : Int) + 1) (by omega) (by omega), show (k : Int) + 1 = ((k + 1 : Nat) : Int) by omega]
        refine R_ret hg 5 rfl rfl ?_
        rw [last]; rfl
    · have h3 : ¬ c.toNat = 39 := by simp at h3; omega
      refine R_indexS hg.ok rfl rfl rfl rfl rfl (Int.natCast_nonneg k) (b := c) (by rw [Tx_get]; exact e1) ?_
      refine R_run hg.ok 1000 rfl rfl ?_
      refine R_if rfl rfl (fun h => absurd h (by simp; omega)) (fun _ => ?_) <;> refine R_run hg.ok 1000 rfl rfl ?_
      rw [quo_any (by omega) h3] at hm
      rw [w64 (n := (k : Int) + 1) (by omega) (by omega), show (k : Int) + 1 = ((k + 1 : Nat) : Int) by omega]
      refine R_sliceS hg.ok rfl rfl rfl (l := (k : Int)) (h := ((k + 1 : Nat) : Int)) rfl rfl rfl (by omega) (by omega) (by rw [Tx_size]; omega) ?_
      rw [Tx_cut, show ((((k + 1 : Nat) : Int)).toNat - ((k : Int)).toNat) = 1 by omega, show ((k : Int)).toNat = k by omega, hd, List.take_succ_cons, List.take_zero]
      refine R_run hg.ok 1000 rfl rfl ?_
      refine R_concat hg.ok (Tx (out ++ [c])) rfl rfl rfl rfl (by rw [Tx_size, Tx_size]; simp; omega) (Tx_app _ _) ?_
      refine R_run hg.ok 1000 rfl rfl ?_
      refine R_next (k + 1, out ++ [c]) ⟨by simp only; omega, hk1, by simp; omega, ?_⟩ (by simp only; omega) ⟨.refl _, Ent.wrap (by simp only; omega) (by simp only; omega) (by simp only; omega), .refl _, trivial⟩ rfl
      simp only
      rw [hm, Option.map_map]
      congr 1
      funext y
      simp; omega
  · have hk1 : L.length ≤ k := ge_dec h (by rw [Tx_size])
    rw [List.drop_eq_nil_of_le hk1] at hm
    refine R_ret hg 5 rfl rfl ?_
    exact bad (by rw [hm]; rfl)
end Go.Proofs.Ythfkhfbhbfpglaa
