import Derived.Test.YthfkhfbhbfpglaaSLex
namespace Go.Proofs.Ythfkhfbhbfpglaa
open Go PSL Go.Proofs

def quoR (L : Bs) (i : Nat) : Bs × Nat × Bool := match quo (L.drop (i + 1)) with
  | some (t, k) => (t, i + 1 + k, true)
  | none => ([], 0, false)

theorem byRows_snoc (l : Bs) (c : UInt8) : byRows l ++ [[.v (.int .u8 c.toNat)]] = byRows (l ++ [c]) := by simp [byRows]

theorem byRows_len (l : Bs) : (byRows l).length = l.length := by simp [byRows]

set_option maxRecDepth 100000 in
theorem quoted_walk (Y : YP) (L : Bs) (i : Nat) (hi : i < L.length) (hL : L.length ≤ 9000) : SCtr Try.prog Y 48 [.lo 0 0] (cutO L i) (.tup [txA (quoR L i).1, iV (quoR L i).2.1, bV (quoR L i).2.2]) (cutO L i) := by
  refine SCtr.of_R (pf := fun _ => .eff) tyOk mixed Try.func48 rfl (by kernel_rfl) (by kernel_rfl) (by simp [Try.ntmps48]) (by simp [cutO]) fun w S φ hg => ?_
  have hφ : φ.length = 1 := hg.hs0.len
  have bad : quo (L.drop (i + 1)) = none → AV.tup [.d (.v (.string ByteArray.empty)), iV 0, .d (.v (.bool false))] = .tup [txA (quoR L i).1, iV (quoR L i).2.1, bV (quoR L i).2.2] := fun h => by
    unfold quoR; rw [h]; rfl
  refine R_run hg.ok 1000 rfl rfl ?_
  rw [w64 (n := (i : Int) + 1) (by omega) (by omega), show (i : Int) + 1 = ((i + 1 : Nat) : Int) by omega]
  refine R_own 5 1 rfl rfl ?_
  refine R_loop (fun x : Nat × Bs => ([(0, .lo 0 0), (5, .ow 1 x.2.length), (6, iV x.1)], cutO L i ++ [.arr 1 x.2.length (byRows x.2)])) (fun x => i + 1 ≤ x.1 ∧ x.1 ≤ L.length ∧ x.2.length ≤ x.1 ∧ quo (L.drop (i + 1)) = (quo (L.drop x.1)).map fun y => (x.2 ++ y.1, y.2 + (x.1 - (i + 1)))) (fun x => L.length - x.1) (i + 1, []) ⟨Nat.le_refl _, hi, Nat.zero_le _, by simp⟩ ⟨.refl _, .refl _, .refl _, trivial⟩ rfl ?_
  rintro ⟨k, out⟩ ⟨hk0, hk, ho, hm⟩
  simp only at hk0 hk ho hm
  refine R_run hg.ok 1000 rfl rfl ?_
  refine R_if rfl rfl (fun h => ?_) (fun h => ?_) <;> refine R_run hg.ok 1000 rfl rfl ?_
  · have hk1 : k < L.length := lt_dec h (by rw [Tx_size])
    have e1 : L[k]? = some L[k] := List.getElem?_eq_getElem hk1
    rw [List.drop_eq_getElem_cons hk1] at hm
    refine R_indexS hg.ok rfl rfl rfl rfl rfl (Int.natCast_nonneg k) (b := L[k]) (by rw [Tx_get]; exact e1) ?_
    generalize L[k] = x at hm e1
    refine R_run hg.ok 1000 rfl rfl ?_
    refine R_if rfl rfl (fun g1 => ?_) (fun g1 => ?_) <;> refine R_run hg.ok 1000 rfl rfl ?_
    · have g1 : ¬ x.toNat = 39 := by simp at g1; omega
      refine R_if rfl rfl (fun g2 => ?_) (fun g2 => ?_) <;> refine R_run hg.ok 1000 rfl rfl ?_
      · have g2 := of_decide_eq_true g2
        rw [← bad (by rw [hm, quo_bad (.inl (by omega))]; rfl)]
        exact R_retS hg 1 5 (Nat.le_refl _) rfl rfl rfl
      have g2 := of_decide_eq_false g2
      refine R_if rfl rfl (fun g3 => ?_) (fun g3 => ?_) <;> refine R_run hg.ok 1000 rfl rfl ?_
      · have g3 := of_decide_eq_true g3
        rw [← bad (by rw [hm, quo_bad (.inr (by omega))]; rfl)]
        exact R_retS hg 1 5 (Nat.le_refl _) rfl rfl rfl
      have g3 := of_decide_eq_false g3
      refine R_if rfl rfl (fun _ => ?_) (fun h => absurd h (by simp; omega)) <;> refine R_run hg.ok 1000 rfl rfl ?_
      refine R_appendO hg.ok (byRows (out ++ [x])) rfl rfl rfl rfl rfl rfl rfl rfl rfl (by simp) (by simp [one1]) (byRows_snoc out x) (by rw [byRows_len]; simp; omega) (by rw [byRows_len]; simp; omega) ?_
      refine R_run hg.ok 1000 rfl rfl ?_
      refine R_next (k + 1, out ++ [x]) ⟨by simp only; omega, hk1, by simp; omega, ?_⟩ (by simp only; omega) ⟨.refl _, by simp only [List.length_append, List.length_singleton]; exact .refl _, Ent.wrap (by simp only; omega) (by simp only; omega) (by simp only; omega), trivial⟩ (by simp only [List.length_append, List.length_singleton]; rfl)
      simp only
      rw [hm, quo_any (by omega) g1, Option.map_map]
      congr 1
      funext y
      simp; omega
    · have g1 : x.toNat = 39 := by simp at g1; omega
      refine R_if rfl rfl (fun h => absurd h (by simp; omega)) (fun _ => ?_) <;> refine R_run hg.ok 1000 rfl rfl ?_
      rw [w64 (n := (k : Int) + 1) (by omega) (by omega), show (k : Int) + 1 = ((k + 1 : Nat) : Int) by omega]
      have last : (∀ d, (L.drop (k + 1))[0]? = some d → d.toNat ≠ 39) → quoR L i = (out, k + 1, true) := fun h => by
        unfold quoR
        rw [hm, quo_one g1 h]
        simp; omega
      refine R_if rfl rfl (fun g2 => ?_) (fun g2 => ?_)
      · refine R_run hg.ok 1000 rfl rfl ?_
        have hk2 : k + 1 < L.length := lt_dec g2 (by rw [Tx_size])
        have e2 : L[k + 1]? = some L[k + 1] := List.getElem?_eq_getElem hk2
        rw [w64 (n := (k : Int) + 1) (by omega) (by omega), show (k : Int) + 1 = ((k + 1 : Nat) : Int) by omega]
        refine R_indexS hg.ok rfl rfl rfl rfl rfl (Int.natCast_nonneg (k + 1)) (b := L[k + 1]) (by rw [Tx_get]; exact e2) ?_
        refine R_run hg.ok 1000 rfl rfl ?_
        refine R_if rfl rfl (fun g3 => ?_) (fun g3 => ?_)
        · refine R_run hg.ok 1000 rfl rfl ?_
          have g3 : L[k + 1].toNat = 39 := by simp at g3; omega
          have g4 : L[k + 1] = 39 := UInt8.toNat_inj.1 g3
          rw [List.drop_eq_getElem_cons hk2, quo_two g1 g3] at hm
          refine R_appendO hg.ok (byRows (out ++ [39])) rfl rfl rfl rfl rfl rfl rfl rfl rfl (by simp) (by simp [one1]) (byRows_snoc out 39) (by rw [byRows_len]; simp; omega) (by rw [byRows_len]; simp; omega) ?_
          refine R_run hg.ok 1000 rfl rfl ?_
          rw [w64 (n := (k : Int) + 1) (by omega) (by omega)]
          refine R_next (k + 2, out ++ [39]) ⟨by simp only; omega, hk2, by simp; omega, ?_⟩ (by simp only; omega) ⟨.refl _, by simp only [List.length_append, List.length_singleton]; exact .refl _, Ent.wrap (by simp only; omega) (by simp only; omega) (by simp only; omega), trivial⟩ (by simp only [List.length_append, List.length_singleton]; rfl)
          simp only
          rw [hm, Option.map_map]
          congr 1
          funext y
          simp; omega
        · have g3 : ¬ L[k + 1].toNat = 39 := by simp at g3; omega
          refine R_run hg.ok 1 rfl rfl ?_
          refine R_freezeO hg.gup 1 [(0, .lo 0 0), (5, .d (.sl (byRows out))), (6, iV k)] [.box [txA L, iV i], .dead] rfl rfl ⟨.refl _, Ent.frz 1 out.length (byRows out), .refl _, trivial⟩ ⟨⟨.refl _, .refl _, trivial⟩, by simp [ObIn], trivial⟩ ?_
          refine R_run hg.ok 1000 rfl rfl ?_
          refine R_convD hg.ok out rfl rfl rfl rfl rfl rfl ?_
          refine R_run hg.ok 1000 rfl rfl ?_
          rw [w64 (n := (k : Int) + 1) (by omega) (by omega), show (k : Int) + 1 = ((k + 1 : Nat) : Int) by omega, last (fun d hd => by rw [List.getElem?_drop] at hd; simp only [Nat.add_zero] at hd; rw [e2] at hd; cases hd; exact g3)]
          exact R_retS hg 1 5 (Nat.le_refl _) rfl rfl rfl
      · refine R_run hg.ok 2 rfl rfl ?_
        have hk2 : L.length ≤ k + 1 := ge_dec g2 (by rw [Tx_size])
        refine R_freezeO hg.gup 1 [(0, .lo 0 0), (5, .d (.sl (byRows out))), (6, iV k)] [.box [txA L, iV i], .dead] rfl rfl ⟨.refl _, Ent.frz 1 out.length (byRows out), .refl _, trivial⟩ ⟨⟨.refl _, .refl _, trivial⟩, by simp [ObIn], trivial⟩ ?_
        refine R_run hg.ok 1000 rfl rfl ?_
        refine R_convD hg.ok out rfl rfl rfl rfl rfl rfl ?_
        refine R_run hg.ok 1000 rfl rfl ?_
        rw [w64 (n := (k : Int) + 1) (by omega) (by omega), show (k : Int) + 1 = ((k + 1 : Nat) : Int) by omega, last (fun d hd => by rw [List.drop_eq_nil_of_le hk2] at hd; simp at hd)]
        exact R_retS hg 1 5 (Nat.le_refl _) rfl rfl rfl
  · have hk1 : L.length ≤ k := ge_dec h (by rw [Tx_size])
    rw [List.drop_eq_nil_of_le hk1] at hm
    rw [← bad (by rw [hm]; rfl)]
    exact R_retS hg 1 5 (Nat.le_refl _) rfl rfl rfl

def numP (D : Bs) : Nat × Bool := match numT D with
  | some n => (n, true)
  | none => (0, false)

theorem w8sub {c : UInt8} (h : dgC c = true) : IntKind.u8.wrap ((c.toNat : Int) - 48) = ((c.toNat - 48 : Nat) : Int) := by
  have h1 := c.toNat_lt
  simp only [dgC, Bool.and_eq_true, decide_eq_true_eq] at h
  simp [IntKind.wrap, IntKind.signed, IntKind.bits]; omega

set_option maxRecDepth 100000 in
theorem number_ok (D : Bs) (hd : D.all dgC = true) (hl : D.length ≤ 9000) : PCtr Try.prog 47 [txA D] (.tup [iV (numP D).1, bV (numP D).2]) := by
  have bad : numT D = none → AV.tup [iV 0, .d (.v (.bool false))] = .tup [iV (numP D).1, bV (numP D).2] := fun h => by unfold numP; rw [h]; rfl
  have ok : ∀ n : Nat, numT D = some n → AV.tup [iV n, .d (.v (.bool true))] = .tup [iV (numP D).1, bV (numP D).2] := fun n h => by unfold numP; rw [h]; rfl
  refine PCtr.of_R (pf := fun _ => .still) tyOk mixed Try.func47 rfl (by kernel_rfl) (by kernel_rfl) (by simp [Try.ntmps47]) fun w S hg => ?_
  refine R_run hg.ok 1000 rfl rfl ?_
  by_cases h0 : 1 < D.length ∧ (D[0]?.map UInt8.toNat) = some 48
  · have hb := bad (by unfold numT; rw [if_pos (.inl h0)])
    have e0 : D[0]? = some D[0] := List.getElem?_eq_getElem (by omega)
    have h48 : D[0].toNat = 48 := by have := h0.2; rw [e0] at this; simpa using this
    refine R_if rfl rfl (fun _ => ?_) (fun h => absurd h (by simp [Tx_size]; omega)) <;> refine R_run hg.ok 1000 rfl rfl ?_
    refine R_indexS hg.ok rfl rfl rfl rfl rfl (by decide) (b := D[0]) (by rw [Tx_get]; exact e0) ?_
    refine R_run hg.ok 1000 rfl rfl ?_
    refine R_if rfl rfl (fun _ => ?_) (fun h => absurd h (by simp; omega)) <;> refine R_run hg.ok 1000 rfl rfl ?_
    refine R_ret hg 5 rfl rfl ?_
    exact hb
  refine R_if rfl rfl (fun h1 => ?_) (fun h1 => ?_) <;> refine R_run hg.ok 1000 rfl rfl ?_
  all_goals
    try
      have h1 : 1 < D.length := by have := of_decide_eq_true h1; rw [Tx_size] at this; omega
      have e0 : D[0]? = some D[0] := List.getElem?_eq_getElem (by omega)
      have h48 : ¬ D[0].toNat = 48 := fun e => h0 ⟨h1, by rw [e0]; simp [e]⟩
      refine R_indexS hg.ok rfl rfl rfl rfl rfl (by decide) (b := D[0]) (by rw [Tx_get]; exact e0) ?_
      refine R_run hg.ok 1000 rfl rfl ?_
      refine R_if rfl rfl (fun h => absurd h (by simp; omega)) (fun _ => ?_) <;> refine R_run hg.ok 1000 rfl rfl ?_
  all_goals
    refine R_loop (fun x : Nat × Nat => ([(0, txA D), (4, iV x.2), (16, iV D.length), (17, iV x.1)], [])) (fun x => x.1 ≤ D.length ∧ x.2 = valN 0 (D.take x.1) ∧ x.2 ≤ 9223372036854775807) (fun x => D.length - x.1) (0, 0) ⟨Nat.zero_le _, rfl, by simp⟩ ⟨.refl _, .refl _, Ent.int (by rw [Tx_size]), .refl _, trivial⟩ rfl ?_
    rintro ⟨k, n⟩ ⟨hk, hn, hb⟩
    simp only at hk hn hb
    refine R_run hg.ok 1000 rfl rfl ?_
    refine R_if rfl rfl (fun h => ?_) (fun h => ?_) <;> refine R_run hg.ok 1000 rfl rfl ?_
    · have hk1 : k < D.length := lt_dec h rfl
      have e1 : D[k]? = some D[k] := List.getElem?_eq_getElem hk1
      have hdk : dgC D[k] = true := List.all_eq_true.1 hd _ (List.getElem_mem hk1)
      have htk : D.take (k + 1) = D.take k ++ [D[k]] := by rw [List.take_add_one, e1]; rfl
      have hv : valN 0 (D.take (k + 1)) = 10 * n + (D[k].toNat - 48) := by rw [htk, valN_snoc, hn]
      have hmono : valN 0 (D.take (k + 1)) ≤ valN 0 D := by
        have := valN_mono (D.take (k + 1)) (D.drop (k + 1))
        rwa [List.take_append_drop] at this
      have hd9 : D[k].toNat - 48 ≤ 9 := by simp only [dgC, Bool.and_eq_true, decide_eq_true_eq] at hdk; omega
      refine R_indexS hg.ok rfl rfl rfl rfl rfl (Int.natCast_nonneg k) (b := D[k]) (by rw [Tx_get]; exact e1) ?_
      refine R_run hg.ok 1000 rfl rfl ?_
      rw [w8sub hdk]
      generalize D[k].toNat - 48 = d at hv hd9
      rw [w64 (n := ((d : Nat) : Int)) (by omega) (by omega), w64 (n := 9223372036854775807 - (d : Int)) (by omega) (by omega)]
      refine R_quo hg.ok rfl rfl rfl rfl (by decide) ?_
      refine R_run hg.ok 1000 rfl rfl ?_
      rw [Int.tdiv_eq_ediv_of_nonneg (by omega), w64 (n := (9223372036854775807 - (d : Int)) / 10) (by omega) (by omega)]
      refine R_if rfl rfl (fun h2 => ?_) (fun h2 => ?_) <;> refine R_run hg.ok 1000 rfl rfl ?_
      · have h2 := of_decide_eq_true h2
        refine R_ret hg 5 rfl rfl ?_
        refine bad ?_
        unfold numT
        rw [if_pos (.inr (by omega))]
      · have h2 := of_decide_eq_false h2
        rw [w64 (n := 10 * (n : Int)) (by omega) (by omega), w64 (n := 10 * (n : Int) + (d : Int)) (by omega) (by omega), show 10 * (n : Int) + (d : Int) = ((10 * n + d : Nat) : Int) by omega]
        exact R_next (k + 1, 10 * n + d) ⟨hk1, hv.symm, by simp only; omega⟩ (by simp only; omega) ⟨.refl _, .refl _, .refl _, Ent.wrap (by simp only; omega) (by simp only; omega) (by simp only; omega), trivial⟩ rfl
    · have hk1 : D.length ≤ k := ge_dec h rfl
      rw [List.take_of_length_le hk1] at hn
      refine R_ret hg 5 rfl rfl ?_
      refine ok n ?_
      unfold numT
      rw [if_neg (by rw [← hn]; rintro (g | g); exact h0 g; omega), hn]
end Go.Proofs.Ythfkhfbhbfpglaa
