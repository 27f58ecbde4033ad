import Derived.Test.YthfkhfbhbfpglaaSRef8c
namespace Go.Proofs.Ythfkhfbhbfpglaa
open Go PSL Go.Proofs

theorem take_run8 (p : UInt8 → Bool) : ∀ l : Bs, l.take (l.takeWhile p).length = l.takeWhile p ∧ (l.takeWhile p).all p = true
  | [] => by simp
  | c :: l => by
    by_cases h : p c = true
    · obtain ⟨h1, h2⟩ := take_run8 p l
      rw [List.takeWhile_cons_of_pos h, List.length_cons, List.take_succ_cons, h1, List.all_cons, h, h2]
      exact ⟨rfl, rfl⟩
    · rw [List.takeWhile_cons_of_neg h]; exact ⟨rfl, rfl⟩

theorem run_all8 {p : UInt8 → Bool} {L : Bs} {i : Nat} : (cutB L i (runB p L i)).all p = true := by
  unfold cutB runB
  rw [Nat.add_sub_cancel_left, (take_run8 p (L.drop i)).1]
  exact (take_run8 p (L.drop i)).2

set_option maxHeartbeats 1600000 in
set_option maxRecDepth 100000 in
theorem one8_ok (L : Bs) (i : Nat) (c : UInt8) (hc : L[i]? = some c) (hL : L.length ≤ 9000) : PCtr Try.prog 25 [txA L, iV i] (oneA (oneT L i)) := by
  have hi := (List.getElem?_eq_some_iff.1 hc).1
  have fin : ∀ {x : Option (Tk × Nat)}, oneT L i = x → oneA x = oneA (oneT L i) := fun h => by rw [h]
  have hrun := fun (p : UInt8 → Bool) => runB_le (p := p) (L := L) (i := i) (by omega)
  have s1 := sort_low c
  have s2 := sort_grt c
  have s3 := sort_dig c
  refine PCtr.of_R (pf := fun f => bif Nat.beq f 52 then .still else .eff) tyOk mixed Try.func25 rfl (by kernel_rfl) (by kernel_rfl) (by simp [Try.ntmps25]) fun w S hg => ?_
  refine R_run hg.ok 1000 rfl rfl ?_
  refine R_indexS hg.ok rfl rfl rfl rfl rfl (Int.natCast_nonneg i) (b := c) (by rw [Tx_get]; exact hc) ?_
  refine R_run hg.ok 1000 rfl rfl ?_
  refine R_call hg.ok (sort8_ok c) rfl rfl rfl rfl rfl rfl ?_
  refine R_run hg.ok 1000 rfl rfl ?_
  refine R_if rfl rfl (fun h1 => ?_) (fun h1 => ?_) <;> refine R_run hg.ok 1000 rfl rfl ?_
  · have h1 : lowC c = true := by rw [← s1]; simpa using h1
    have hr := hrun folC
    refine R_call hg.ok (word8_ok L i (by omega) hL) rfl rfl rfl rfl rfl rfl ?_
    refine R_run hg.ok 1000 rfl rfl ?_
    generalize hto : runB folC L i = to at hr
    refine R_sliceS hg.ok rfl rfl rfl (l := (i : Int)) (h := ((to : Nat) : Int)) rfl rfl rfl (Int.natCast_nonneg i) (by omega) (by rw [Tx_size]; omega) ?_
    rw [Tx_cut, show (L.drop ((i : Int)).toNat).take ((((to : Nat) : Int)).toNat - ((i : Int)).toNat) = cutB L i (to) from rfl]
    refine R_run hg.ok 1000 rfl rfl ?_
    refine R_call hg.ok (word8_ok L i (by omega) hL) rfl rfl rfl rfl rfl rfl ?_
    refine R_run hg.ok 1000 rfl rfl ?_
    rw [hto]
    refine R_call hg.ok (name8_ok L 1 (cutB L i to) i to hr.2 hL) rfl rfl rfl rfl rfl rfl ?_
    refine R_run hg.ok 1000 rfl rfl ?_
    refine R_ret hg 5 rfl rfl ?_
    rw [← fin (x := nameT L 1 (cutB L i to) i to) (by unfold oneT; rw [hc]; simp only; rw [if_pos h1, hto])]; rfl
  have n1 : ¬ lowC c = true := by rw [← s1]; simpa using h1
  refine R_if rfl rfl (fun h2 => ?_) (fun h2 => ?_) <;> refine R_run hg.ok 1000 rfl rfl ?_
  · have h2 : grtC c = true := by rw [← s2]; simpa using h2
    have hr := hrun folC
    refine R_call hg.ok (word8_ok L i (by omega) hL) rfl rfl rfl rfl rfl rfl ?_
    refine R_run hg.ok 1000 rfl rfl ?_
    generalize hto : runB folC L i = to at hr
    refine R_sliceS hg.ok rfl rfl rfl (l := (i : Int)) (h := ((to : Nat) : Int)) rfl rfl rfl (Int.natCast_nonneg i) (by omega) (by rw [Tx_size]; omega) ?_
    rw [Tx_cut, show (L.drop ((i : Int)).toNat).take ((((to : Nat) : Int)).toNat - ((i : Int)).toNat) = cutB L i (to) from rfl]
    refine R_run hg.ok 1000 rfl rfl ?_
    refine R_call hg.ok (word8_ok L i (by omega) hL) rfl rfl rfl rfl rfl rfl ?_
    refine R_run hg.ok 1000 rfl rfl ?_
    rw [hto]
    refine R_call hg.ok (name8_ok L 2 (cutB L i to) i to hr.2 hL) rfl rfl rfl rfl rfl rfl ?_
    refine R_run hg.ok 1000 rfl rfl ?_
    refine R_ret hg 5 rfl rfl ?_
    rw [← fin (x := nameT L 2 (cutB L i to) i to) (by unfold oneT; rw [hc]; simp only; rw [if_neg n1, if_pos h2, hto])]; rfl
  have n2 : ¬ grtC c = true := by rw [← s2]; simpa using h2
  refine R_if rfl rfl (fun h3 => ?_) (fun h3 => ?_) <;> refine R_run hg.ok 1000 rfl rfl ?_
  · have h3 : dgC c = true := by rw [← s3]; simpa using h3
    have hr := hrun dgC
    have hall := run_all8 (p := dgC) (L := L) (i := i)
    have hne : cutB L i (runB dgC L i) ≠ [] := by
      have hl := cutB_len (L := L) hr.1 hr.2
      have h4 := (runB_le (p := dgC) (L := L) (i := i + 1) (by omega)).1
      intro e
      rw [e, runB_step hc h3] at hl
      simp at hl; omega
    refine R_call hg.ok (digits8_ok L i (by omega) hL) rfl rfl rfl rfl rfl rfl ?_
    refine R_run hg.ok 1000 rfl rfl ?_
    generalize hto : runB dgC L i = to at hr hall hne
    have hcl := cutB_len (L := L) hr.1 hr.2
    refine R_sliceS hg.ok rfl rfl rfl (l := (i : Int)) (h := ((to : Nat) : Int)) rfl rfl rfl (Int.natCast_nonneg i) (by omega) (by rw [Tx_size]; omega) ?_
    rw [Tx_cut, show (L.drop ((i : Int)).toNat).take ((((to : Nat) : Int)).toNat - ((i : Int)).toNat) = cutB L i (to) from rfl]
    refine R_run hg.ok 1000 rfl rfl ?_
    refine R_call hg.ok (number8_ok (cutB L i to) hall (by omega) hne) rfl rfl rfl rfl rfl rfl ?_
    refine R_run hg.ok 1000 rfl rfl ?_
    have hT : oneT L i = (numT (cutB L i to)).map fun n => (⟨3, cutB L i to, n, i, false⟩, to) := by
      unfold oneT; rw [hc]; simp only; rw [if_neg n1, if_neg n2, if_pos h3, hto]; cases numT (cutB L i to) <;> rfl
    unfold numP
    cases hn : numT (cutB L i to) with
    | none =>
      rw [hn] at hT
      refine R_run hg.ok 1000 rfl rfl ?_
      refine R_if rfl rfl (fun _ => ?_) (fun h => absurd h (by simp)) <;> refine R_run hg.ok 1000 rfl rfl ?_
      refine R_ret hg 5 rfl rfl ?_
      rw [← fin hT]; rfl
    | some n =>
      rw [hn] at hT
      refine R_run hg.ok 1000 rfl rfl ?_
      refine R_if rfl rfl (fun h => absurd h (by simp)) (fun _ => ?_) <;> refine R_run hg.ok 1000 rfl rfl ?_
      refine R_sliceS hg.ok rfl rfl rfl (l := (i : Int)) (h := ((to : Nat) : Int)) rfl rfl rfl (Int.natCast_nonneg i) (by omega) (by rw [Tx_size]; omega) ?_
      rw [Tx_cut, show (L.drop ((i : Int)).toNat).take ((((to : Nat) : Int)).toNat - ((i : Int)).toNat) = cutB L i (to) from rfl]
      refine R_run hg.ok 1000 rfl rfl ?_
      refine R_ret hg 5 rfl rfl ?_
      rw [← fin hT]; rfl
  have n3 : ¬ dgC c = true := by rw [← s3]; simpa using h3
  refine R_if rfl rfl (fun h4 => ?_) (fun h4 => ?_) <;> refine R_run hg.ok 1000 rfl rfl ?_
  · have h4 : c.toNat = 39 := by simp at h4; omega
    rw [w64 (n := (i : Int) + 1) (by omega) (by omega), show (i : Int) + 1 = ((i + 1 : Nat) : Int) by omega]
    have hT : oneT L i = match quo (L.drop (i + 1)) with | some (t, k) => nameT L 1 t i (i + 1 + k) | none => none := by
      unfold oneT; rw [hc]; simp only; rw [if_neg n1, if_neg n2, if_neg n3, if_pos h4]; cases quo (L.drop (i + 1)) <;> rfl
    refine R_call hg.ok (quoted8_ok L (i + 1) (by omega) hL) rfl rfl rfl rfl rfl rfl ?_
    refine R_run hg.ok 1000 rfl rfl ?_
    unfold quo2
    cases hq : quo (L.drop (i + 1)) with
    | none =>
      rw [hq] at hT
      refine R_run hg.ok 1000 rfl rfl ?_
      refine R_if rfl rfl (fun _ => ?_) (fun h => absurd h (by simp)) <;> refine R_run hg.ok 1000 rfl rfl ?_
      refine R_ret hg 5 rfl rfl ?_
      rw [← fin hT]; rfl
    | some x =>
      obtain ⟨t, k⟩ := x
      rw [hq] at hT
      have hk := quo_len _ _ (Nat.le_refl _) _ _ hq
      rw [List.length_drop] at hk
      refine R_run hg.ok 1000 rfl rfl ?_
      refine R_if rfl rfl (fun h => absurd h (by simp)) (fun _ => ?_) <;> refine R_run hg.ok 1000 rfl rfl ?_
      refine R_call hg.ok (name8_ok L 1 t i (i + 1 + k) (by omega) hL) rfl rfl rfl rfl rfl rfl ?_
      refine R_run hg.ok 1000 rfl rfl ?_
      refine R_ret hg 5 rfl rfl ?_
      rw [← fin hT]; rfl
  have n4 : ¬ c.toNat = 39 := by simp at h4; omega
  by_cases h5 : c.toNat = 91 ∧ (L[i + 1]?.map UInt8.toNat) = some 93
  · obtain ⟨d, hd, hd93⟩ : ∃ d, L[i + 1]? = some d ∧ d.toNat = 93 := by
      have := h5.2
      cases hx : L[i + 1]? with
      | none => rw [hx] at this; simp at this
      | some d => rw [hx] at this; exact ⟨d, rfl, by simpa using this⟩
    have hi1 := (List.getElem?_eq_some_iff.1 hd).1
    refine R_if rfl rfl (fun _ => ?_) (fun h => absurd h (by simp; omega)) <;> refine R_run hg.ok 1000 rfl rfl ?_
    rw [w64 (n := (i : Int) + 1) (by omega) (by omega), show (i : Int) + 1 = ((i + 1 : Nat) : Int) by omega]
    refine R_if rfl rfl (fun _ => ?_) (fun h => absurd h (by simp [Tx_size]; omega)) <;> refine R_run hg.ok 1000 rfl rfl ?_
    rw [w64 (n := (i : Int) + 1) (by omega) (by omega), show (i : Int) + 1 = ((i + 1 : Nat) : Int) by omega]
    refine R_indexS hg.ok rfl rfl rfl rfl rfl (Int.natCast_nonneg (i + 1)) (b := d) (by rw [Tx_get]; exact hd) ?_
    refine R_run hg.ok 1000 rfl rfl ?_
    refine R_if rfl rfl (fun _ => ?_) (fun h => absurd h (by simp; omega)) <;> refine R_run hg.ok 1000 rfl rfl ?_
    rw [w64 (n := (i : Int) + 2) (by omega) (by omega), show (i : Int) + 2 = ((i + 2 : Nat) : Int) by omega]
    refine R_call hg.ok (name8_ok L 1 [91, 93] i (i + 2) (by omega) hL) rfl rfl rfl rfl rfl rfl ?_
    refine R_run hg.ok 1000 rfl rfl ?_
    refine R_ret hg 5 rfl rfl ?_
    rw [← fin (x := nameT L 1 [91, 93] i (i + 2)) (by unfold oneT; rw [hc]; simp only; rw [if_neg n1, if_neg n2, if_neg n3, if_neg n4, if_pos h5])]; rfl
  have n5 := h5
  have hd0 : L.drop i = c :: L.drop (i + 1) := by rw [List.drop_eq_getElem_cons hi, (List.getElem?_eq_some_iff.1 hc).2]
  have hcut1 : cutB L i (i + 1) = [c] := by rw [cutB, hd0, Nat.add_sub_cancel_left]; rfl
  refine R_if rfl rfl (fun h6 => ?_) (fun h6 => ?_) <;> refine R_run hg.ok 1000 rfl rfl ?_
  · have h6 : c.toNat = 91 := by simp at h6; omega
    have tail : mrkC c = true := by have e : c = 91 := UInt8.toNat_inj.1 h6; rw [e]; decide
    rw [w64 (n := (i : Int) + 1) (by omega) (by omega), show (i : Int) + 1 = ((i + 1 : Nat) : Int) by omega]
    refine R_if rfl rfl (fun h7 => ?_) (fun h7 => ?_) <;> refine R_run hg.ok 1000 rfl rfl ?_
    · have hi1 : i + 1 < L.length := lt_dec h7 (by rw [Tx_size])
      rw [w64 (n := (i : Int) + 1) (by omega) (by omega), show (i : Int) + 1 = ((i + 1 : Nat) : Int) by omega]
      refine R_indexS hg.ok rfl rfl rfl rfl rfl (Int.natCast_nonneg (i + 1)) (b := L[i + 1]) (by rw [Tx_get]; exact List.getElem?_eq_getElem hi1) ?_
      refine R_run hg.ok 1000 rfl rfl ?_
      refine R_if rfl rfl (fun h => absurd h (by have h9 : ¬ L[i + 1].toNat = 93 := fun g => n5 ⟨h6, by rw [List.getElem?_eq_getElem hi1]; simpa using g⟩; simp; omega)) (fun _ => ?_) <;> refine R_run hg.ok 1000 rfl rfl ?_
      repeat
        first
        | (refine R_if rfl rfl (fun _ => ?_) (fun h => absurd h (by first | (simp; done) | (simp; omega))); refine R_run hg.ok 1000 rfl rfl ?_)
        | (refine R_if rfl rfl (fun h => absurd h (by first | (simp; done) | (simp; omega))) (fun _ => ?_); refine R_run hg.ok 1000 rfl rfl ?_)
      rw [w64 (n := (i : Int) + 1) (by omega) (by omega), show (i : Int) + 1 = ((i + 1 : Nat) : Int) by omega]
      refine R_sliceS hg.ok rfl rfl rfl (l := (i : Int)) (h := ((i + 1 : Nat) : Int)) rfl rfl rfl (Int.natCast_nonneg i) (by omega) (by rw [Tx_size]; omega) ?_
      rw [Tx_cut, show (L.drop ((i : Int)).toNat).take ((((i + 1 : Nat) : Int)).toNat - ((i : Int)).toNat) = cutB L i (i + 1) from rfl]
      refine R_run hg.ok 1000 rfl rfl ?_
      refine R_ret hg 5 rfl rfl ?_
      rw [w64 (n := (i : Int) + 1) (by omega) (by omega), show (i : Int) + 1 = ((i + 1 : Nat) : Int) by omega]
      rw [hcut1, ← fin (x := some (⟨4, [c], 0, i, false⟩, i + 1)) (by unfold oneT; rw [hc]; simp only; rw [if_neg n1, if_neg n2, if_neg n3, if_neg n4, if_neg n5, if_neg (by omega), if_pos tail])]; rfl
    · have h7 := h7
      repeat
        first
        | (refine R_if rfl rfl (fun _ => ?_) (fun h => absurd h (by first | (simp; done) | (simp; omega))); refine R_run hg.ok 1000 rfl rfl ?_)
        | (refine R_if rfl rfl (fun h => absurd h (by first | (simp; done) | (simp; omega))) (fun _ => ?_); refine R_run hg.ok 1000 rfl rfl ?_)
      rw [w64 (n := (i : Int) + 1) (by omega) (by omega), show (i : Int) + 1 = ((i + 1 : Nat) : Int) by omega]
      refine R_sliceS hg.ok rfl rfl rfl (l := (i : Int)) (h := ((i + 1 : Nat) : Int)) rfl rfl rfl (Int.natCast_nonneg i) (by omega) (by rw [Tx_size]; omega) ?_
      rw [Tx_cut, show (L.drop ((i : Int)).toNat).take ((((i + 1 : Nat) : Int)).toNat - ((i : Int)).toNat) = cutB L i (i + 1) from rfl]
      refine R_run hg.ok 1000 rfl rfl ?_
      refine R_ret hg 5 rfl rfl ?_
      rw [w64 (n := (i : Int) + 1) (by omega) (by omega), show (i : Int) + 1 = ((i + 1 : Nat) : Int) by omega]
      rw [hcut1, ← fin (x := some (⟨4, [c], 0, i, false⟩, i + 1)) (by unfold oneT; rw [hc]; simp only; rw [if_neg n1, if_neg n2, if_neg n3, if_neg n4, if_neg n5, if_neg (by omega), if_pos tail])]; rfl
  refine R_if rfl rfl (fun h8 => ?_) (fun h8 => ?_) <;> refine R_run hg.ok 1000 rfl rfl ?_
  · have h8 : c.toNat = 33 := by simp at h8; omega
    rw [w64 (n := (i : Int) + 1) (by omega) (by omega), show (i : Int) + 1 = ((i + 1 : Nat) : Int) by omega]
    refine R_sliceS hg.ok rfl rfl rfl (l := (i : Int)) (h := ((i + 1 : Nat) : Int)) rfl rfl rfl (Int.natCast_nonneg i) (by omega) (by rw [Tx_size]; omega) ?_
    rw [Tx_cut, show (L.drop ((i : Int)).toNat).take ((((i + 1 : Nat) : Int)).toNat - ((i : Int)).toNat) = cutB L i (i + 1) from rfl]
    refine R_run hg.ok 1000 rfl rfl ?_
    rw [w64 (n := (i : Int) + 1) (by omega) (by omega), show (i : Int) + 1 = ((i + 1 : Nat) : Int) by omega]
    refine R_call hg.ok (name8_ok L 1 (cutB L i (i + 1)) i (i + 1) (by omega) hL) rfl rfl rfl rfl rfl rfl ?_
    refine R_run hg.ok 1000 rfl rfl ?_
    refine R_ret hg 5 rfl rfl ?_
    rw [hcut1, ← fin (x := nameT L 1 [c] i (i + 1)) (by unfold oneT; rw [hc]; simp only; rw [if_neg n1, if_neg n2, if_neg n3, if_neg n4, if_neg n5, if_pos (.inl h8)])]; rfl
  refine R_if rfl rfl (fun h9 => ?_) (fun h9 => ?_) <;> refine R_run hg.ok 1000 rfl rfl ?_
  · have h9 : c.toNat = 59 := by simp at h9; omega
    rw [w64 (n := (i : Int) + 1) (by omega) (by omega), show (i : Int) + 1 = ((i + 1 : Nat) : Int) by omega]
    refine R_sliceS hg.ok rfl rfl rfl (l := (i : Int)) (h := ((i + 1 : Nat) : Int)) rfl rfl rfl (Int.natCast_nonneg i) (by omega) (by rw [Tx_size]; omega) ?_
    rw [Tx_cut, show (L.drop ((i : Int)).toNat).take ((((i + 1 : Nat) : Int)).toNat - ((i : Int)).toNat) = cutB L i (i + 1) from rfl]
    refine R_run hg.ok 1000 rfl rfl ?_
    rw [w64 (n := (i : Int) + 1) (by omega) (by omega), show (i : Int) + 1 = ((i + 1 : Nat) : Int) by omega]
    refine R_call hg.ok (name8_ok L 1 (cutB L i (i + 1)) i (i + 1) (by omega) hL) rfl rfl rfl rfl rfl rfl ?_
    refine R_run hg.ok 1000 rfl rfl ?_
    refine R_ret hg 5 rfl rfl ?_
    rw [hcut1, ← fin (x := nameT L 1 [c] i (i + 1)) (by unfold oneT; rw [hc]; simp only; rw [if_neg n1, if_neg n2, if_neg n3, if_neg n4, if_neg n5, if_pos (.inr h9)])]; rfl
  have n6 : ¬ (c.toNat = 33 ∨ c.toNat = 59) := by simp at h8 h9; omega
  have m6 : ¬ c.toNat = 91 := by simp at h6; omega
  by_cases tail : mrkC c = true
  · have hm : c.toNat = 40 ∨ c.toNat = 41 ∨ c.toNat = 91 ∨ c.toNat = 93 ∨ c.toNat = 124 ∨ c.toNat = 44 := by
      have := byte_all (p := fun c => !mrkC c || (decide (c.toNat = 40) || decide (c.toNat = 41) || decide (c.toNat = 91) || decide (c.toNat = 93) || decide (c.toNat = 124) || decide (c.toNat = 44))) (by decide +kernel) c
      simp only [tail, Bool.not_true, Bool.false_or, Bool.or_eq_true, decide_eq_true_eq] at this
      omega
    rcases hm with hm | hm | hm | hm | hm | hm
    all_goals
      repeat
        first
        | (refine R_if rfl rfl (fun _ => ?_) (fun h => absurd h (by first | (simp; done) | (simp; omega))); refine R_run hg.ok 1000 rfl rfl ?_)
        | (refine R_if rfl rfl (fun h => absurd h (by first | (simp; done) | (simp; omega))) (fun _ => ?_); refine R_run hg.ok 1000 rfl rfl ?_)
      rw [w64 (n := (i : Int) + 1) (by omega) (by omega), show (i : Int) + 1 = ((i + 1 : Nat) : Int) by omega]
      refine R_sliceS hg.ok rfl rfl rfl (l := (i : Int)) (h := ((i + 1 : Nat) : Int)) rfl rfl rfl (Int.natCast_nonneg i) (by omega) (by rw [Tx_size]; omega) ?_
      rw [Tx_cut, show (L.drop ((i : Int)).toNat).take ((((i + 1 : Nat) : Int)).toNat - ((i : Int)).toNat) = cutB L i (i + 1) from rfl]
      refine R_run hg.ok 1000 rfl rfl ?_
      refine R_ret hg 5 rfl rfl ?_
      rw [w64 (n := (i : Int) + 1) (by omega) (by omega), show (i : Int) + 1 = ((i + 1 : Nat) : Int) by omega]
      rw [hcut1, ← fin (x := some (⟨4, [c], 0, i, false⟩, i + 1)) (by unfold oneT; rw [hc]; simp only; rw [if_neg n1, if_neg n2, if_neg n3, if_neg n4, if_neg n5, if_neg (by omega), if_pos tail])]; rfl
  have n7 := tail
  have hm : ¬ (c.toNat = 40 ∨ c.toNat = 41 ∨ c.toNat = 91 ∨ c.toNat = 93 ∨ c.toNat = 124 ∨ c.toNat = 44) := by
    have := byte_all (p := fun c => mrkC c || !(decide (c.toNat = 40) || decide (c.toNat = 41) || decide (c.toNat = 91) || decide (c.toNat = 93) || decide (c.toNat = 124) || decide (c.toNat = 44))) (by decide +kernel) c
    rw [Bool.eq_false_iff.2 n7] at this
    simp only [Bool.false_or, Bool.not_eq_true', Bool.or_eq_false_iff, decide_eq_false_iff_not] at this
    omega
  repeat
    first
    | (refine R_if rfl rfl (fun h => absurd h (by simp; omega)) (fun _ => ?_); refine R_run hg.ok 1000 rfl rfl ?_)
  have hr := hrun sgnC
  refine R_call hg.ok (signs8_ok L i (by omega) hL) rfl rfl rfl rfl rfl rfl ?_
  refine R_run hg.ok 1000 rfl rfl ?_
  generalize hto : runB sgnC L i = to at hr
  rw [w64 (n := (i : Int) + 1) (by omega) (by omega), show (i : Int) + 1 = ((i + 1 : Nat) : Int) by omega]
  refine R_if rfl rfl (fun a1 => ?_) (fun a1 => ?_) <;> refine R_run hg.ok 1000 rfl rfl ?_
  · have a1 : to = i + 1 := by simp at a1; omega
    refine R_if rfl rfl (fun a2 => ?_) (fun a2 => ?_) <;> refine R_run hg.ok 1000 rfl rfl ?_
    · have a2 : c.toNat = 46 := by simp at a2; omega
      refine R_if rfl rfl (fun a3 => ?_) (fun a3 => ?_) <;> refine R_run hg.ok 1000 rfl rfl ?_
      · have a3 : L.length = to := by simp [Tx_size] at a3; omega
        have ea : endAft L to = true := by unfold endAft; rw [List.getElem?_eq_none (by omega)]
        refine R_ret hg 5 rfl rfl ?_
        rw [← fin (x := some (⟨5, [46], 0, i, false⟩, to)) (by unfold oneT; rw [hc]; simp only; rw [if_neg n1, if_neg n2, if_neg n3, if_neg n4, if_neg n5, if_neg n6, if_neg n7, if_pos ⟨hto.trans a1, a2, by rw [← a1]; first | exact ea | (rw [ea]; simp [*])⟩, a1])]; rfl
      · have a3 : to < L.length := by simp [Tx_size] at a3; omega
        have e1 : L[to]? = some L[to] := List.getElem?_eq_getElem a3
        have ea : endAft L to = (blkC L[to] || decide (L[to].toNat = 37)) := by unfold endAft; rw [e1]
        generalize L[to] = d at e1 ea
        have s5 := sort_blk d
        refine R_indexS hg.ok rfl rfl rfl rfl rfl (Int.natCast_nonneg to) (b := d) (by rw [Tx_get]; exact e1) ?_
        refine R_run hg.ok 1000 rfl rfl ?_
        refine R_call hg.ok (sort8_ok d) rfl rfl rfl rfl rfl rfl ?_
        refine R_run hg.ok 1000 rfl rfl ?_
        refine R_if rfl rfl (fun a4 => ?_) (fun a4 => ?_) <;> refine R_run hg.ok 1000 rfl rfl ?_
        · have a4 : blkC d = true := by rw [← s5]; simpa using a4
          refine R_ret hg 5 rfl rfl ?_
          rw [← fin (x := some (⟨5, [46], 0, i, false⟩, to)) (by unfold oneT; rw [hc]; simp only; rw [if_neg n1, if_neg n2, if_neg n3, if_neg n4, if_neg n5, if_neg n6, if_neg n7, if_pos ⟨hto.trans a1, a2, by rw [← a1]; first | exact ea | (rw [ea]; simp [*])⟩, a1])]; rfl
        · have a4 : blkC d = false := by rw [← s5]; simpa using a4
          refine R_indexS hg.ok rfl rfl rfl rfl rfl (Int.natCast_nonneg to) (b := d) (by rw [Tx_get]; exact e1) ?_
          refine R_run hg.ok 1000 rfl rfl ?_
          refine R_if rfl rfl (fun a5 => ?_) (fun a5 => ?_) <;> refine R_run hg.ok 1000 rfl rfl ?_
          · have a5 : d.toNat = 37 := by simp at a5; omega
            refine R_ret hg 5 rfl rfl ?_
            rw [← fin (x := some (⟨5, [46], 0, i, false⟩, to)) (by unfold oneT; rw [hc]; simp only; rw [if_neg n1, if_neg n2, if_neg n3, if_neg n4, if_neg n5, if_neg n6, if_neg n7, if_pos ⟨hto.trans a1, a2, by rw [← a1]; first | exact ea | (rw [ea]; simp [*])⟩, a1])]; rfl
          · have a5 : ¬ d.toNat = 37 := by simp at a5; omega
            refine R_sliceS hg.ok rfl rfl rfl (l := (i : Int)) (h := ((to : Nat) : Int)) rfl rfl rfl (Int.natCast_nonneg i) (by omega) (by rw [Tx_size]; omega) ?_
            rw [Tx_cut, show (L.drop ((i : Int)).toNat).take ((((to : Nat) : Int)).toNat - ((i : Int)).toNat) = cutB L i (to) from rfl]
            refine R_run hg.ok 1000 rfl rfl ?_
            refine R_call hg.ok (name8_ok L 1 (cutB L i to) i to hr.2 hL) rfl rfl rfl rfl rfl rfl ?_
            refine R_run hg.ok 1000 rfl rfl ?_
            refine R_ret hg 5 rfl rfl ?_
            rw [← fin (x := nameT L 1 (cutB L i to) i to) (by unfold oneT; rw [hc]; simp only; rw [if_neg n1, if_neg n2, if_neg n3, if_neg n4, if_neg n5, if_neg n6, if_neg n7, if_neg (by rw [hto]; rintro ⟨_, _, h⟩; rw [← a1, ea, a4] at h; simp [a5] at h), hto])]; rfl
    · have a2 : ¬ c.toNat = 46 := by simp at a2; omega
      refine R_sliceS hg.ok rfl rfl rfl (l := (i : Int)) (h := ((to : Nat) : Int)) rfl rfl rfl (Int.natCast_nonneg i) (by omega) (by rw [Tx_size]; omega) ?_
      rw [Tx_cut, show (L.drop ((i : Int)).toNat).take ((((to : Nat) : Int)).toNat - ((i : Int)).toNat) = cutB L i (to) from rfl]
      refine R_run hg.ok 1000 rfl rfl ?_
      refine R_call hg.ok (name8_ok L 1 (cutB L i to) i to hr.2 hL) rfl rfl rfl rfl rfl rfl ?_
      refine R_run hg.ok 1000 rfl rfl ?_
      refine R_ret hg 5 rfl rfl ?_
      rw [← fin (x := nameT L 1 (cutB L i to) i to) (by unfold oneT; rw [hc]; simp only; rw [if_neg n1, if_neg n2, if_neg n3, if_neg n4, if_neg n5, if_neg n6, if_neg n7, if_neg (by rintro ⟨_, h, _⟩; exact a2 h), hto])]; rfl
  · have a1 : ¬ to = i + 1 := by simp at a1; omega
    refine R_sliceS hg.ok rfl rfl rfl (l := (i : Int)) (h := ((to : Nat) : Int)) rfl rfl rfl (Int.natCast_nonneg i) (by omega) (by rw [Tx_size]; omega) ?_
    rw [Tx_cut, show (L.drop ((i : Int)).toNat).take ((((to : Nat) : Int)).toNat - ((i : Int)).toNat) = cutB L i (to) from rfl]
    refine R_run hg.ok 1000 rfl rfl ?_
    refine R_call hg.ok (name8_ok L 1 (cutB L i to) i to hr.2 hL) rfl rfl rfl rfl rfl rfl ?_
    refine R_run hg.ok 1000 rfl rfl ?_
    refine R_ret hg 5 rfl rfl ?_
    rw [← fin (x := nameT L 1 (cutB L i to) i to) (by unfold oneT; rw [hc]; simp only; rw [if_neg n1, if_neg n2, if_neg n3, if_neg n4, if_neg n5, if_neg n6, if_neg n7, if_neg (by rw [hto]; rintro ⟨h, _, _⟩; exact a1 h), hto])]; rfl
end Go.Proofs.Ythfkhfbhbfpglaa
