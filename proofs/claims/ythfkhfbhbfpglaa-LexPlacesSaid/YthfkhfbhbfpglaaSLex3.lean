import Derived.Test.YthfkhfbhbfpglaaSLex2
namespace Go.Proofs.Ythfkhfbhbfpglaa
open Go PSL Go.Proofs

def namR (L : Bs) (kind : Int) (text : Bs) (i to : Nat) : Tk × Nat × Bool := (⟨kind, text, 0, i, opnB L to⟩, to, namB text)

def nextR (L : Bs) (i : Nat) (c : UInt8) : Tk × Nat × Bool :=
  if lowC c then namR L 1 (cutB L i (runB folC L i)) i (runB folC L i)
  else if grtC c then namR L 2 (cutB L i (runB folC L i)) i (runB folC L i)
  else if dgC c then (⟨3, cutB L i (runB dgC L i), (numP (cutB L i (runB dgC L i))).1, i, false⟩, runB dgC L i, (numP (cutB L i (runB dgC L i))).2)
  else if c.toNat = 39 then ((namR L 1 (quoR L i).1 i (quoR L i).2.1).1, (quoR L i).2.1, (quoR L i).2.2 && namB (quoR L i).1)
  else if c.toNat = 91 ∧ (L[i + 1]?.map UInt8.toNat) = some 93 then namR L 1 [91, 93] i (i + 2)
  else if c.toNat = 33 ∨ c.toNat = 59 then namR L 1 [c] i (i + 1)
  else if mrkC c then (⟨4, [c], 0, i, false⟩, i + 1, true)
  else if runB sgnC L i = i + 1 ∧ c.toNat = 46 ∧ endAft L (i + 1) then (⟨5, [46], 0, i, false⟩, i + 1, true)
  else namR L 1 (cutB L i (runB sgnC L i)) i (runB sgnC L i)

def zTk : Ob := .box [.d (.v (.int .i64 0)), .d (.v (.string ByteArray.empty)), .d (.v (.int .i64 0)), .d (.v (.int .i64 0)), .d (.v (.bool false))]

def pfNext : Nat → Cls := fun f => bif Nat.beq f 4000200002 then .turn 101 else bif Nat.beq f 4000100192 then .look 102 else .eff

theorem take_run (p : UInt8 → Bool) : ∀ l : Bs, l.take (l.takeWhile p).length = l.takeWhile p ∧ (l.takeWhile p).all p = true
  | [] => by simp
  | c :: l => by
    by_cases h : p c = true
    · obtain ⟨h1, h2⟩ := take_run p l
      rw [List.takeWhile_cons_of_pos h, List.length_cons, List.take_succ_cons, h1, List.all_cons, h, h2]
      exact ⟨rfl, rfl⟩
    · rw [List.takeWhile_cons_of_neg h]; exact ⟨rfl, rfl⟩

theorem run_all {p : UInt8 → Bool} {L : Bs} {i : Nat} : (cutB L i (runB p L i)).all p = true := by
  unfold cutB runB
  rw [Nat.add_sub_cancel_left, (take_run p (L.drop i)).1]
  exact (take_run p (L.drop i)).2

theorem enc_ascii {c : UInt8} (h : c.toNat < 128) : Utf8.encode (c.toNat : Int) = Tx [c] := by
  unfold Utf8.encode
  have hv : Utf8.valid (c.toNat : Int) = true := by simp [Utf8.valid]; omega
  simp only [hv, if_true, Int.toNat_natCast]
  rw [if_pos (by omega)]
  simp [Tx]

set_option maxHeartbeats 1600000 in
set_option maxHeartbeats 1600000 in
set_option maxRecDepth 100000 in
theorem next_walk (Y : YP) (L : Bs) (i : Nat) (c : UInt8) (hc : L[i]? = some c) (hL : L.length ≤ 9000) : SCtr Try.prog Y 23 [.lo 0 0] (cutO L i) (.tup [tkA (nextR L i c).1, iV (nextR L i c).2.1, bV (nextR L i c).2.2]) (cutO L i) := by
  refine SCtr.of_R (pf := pfNext) tyOk mixed Try.func23 rfl (by kernel_rfl) (by kernel_rfl) (by simp [Try.ntmps23]) (by simp [cutO]) fun w S φ hg => ?_
  have hφ : φ.length = 1 := hg.hs0.len
  have hi := (List.getElem?_eq_some_iff.1 hc).1
  have fin : ∀ {t : Tk} {to : Nat} {b : Bool}, nextR L i c = (t, to, b) → AV.tup [tkA t, iV to, bV b] = .tup [tkA (nextR L i c).1, iV (nextR L i c).2.1, bV (nextR L i c).2.2] := fun h => by rw [h]
  have hrun := fun (p : UInt8 → Bool) => runB_le (p := p) (L := L) (i := i) (by omega)
  refine R_run hg.ok 1000 rfl rfl ?_
  refine R_indexS hg.ok rfl rfl rfl rfl rfl (Int.natCast_nonneg i) (b := c) (by rw [Tx_get]; exact hc) ?_
  refine R_run hg.ok 1000 rfl rfl ?_
  refine R_call hg.ok (low_ok c) rfl rfl rfl rfl rfl rfl ?_
  refine R_run hg.ok 1000 rfl rfl ?_
  refine R_if rfl rfl (fun h1 => ?_) (fun h1 => ?_) <;> refine R_run hg.ok 1000 rfl rfl ?_
  · have hr := hrun folC
    have hcall := run_walk Y 44 folC follows_ok L i i (by omega) hL
    generalize hto : runB folC L i = to at hr hcall
    refine R_callSO hg.ok hg.gup hg.wide hg.Y [0] (cutO L i ++ [zTk]) hcall (fun _ => rfl) rfl rfl rfl rfl rfl rfl rfl rfl ?_
    refine R_run hg.ok 1000 rfl rfl ?_
    refine R_call hg.ok (low_ok c) rfl rfl rfl rfl rfl rfl ?_
    refine R_run hg.ok 1000 rfl rfl ?_
    refine R_if rfl rfl (fun _ => ?_) (fun h => absurd h (by simp [h1])) <;> refine R_run hg.ok 1000 rfl rfl ?_
    refine R_sliceS hg.ok rfl rfl rfl (l := (i : Int)) (h := (to : Int)) rfl rfl rfl (Int.natCast_nonneg i) (by omega) (by rw [Tx_size]; omega) ?_
    rw [Tx_cut, show (L.drop ((i : Int)).toNat).take (((to : Int)).toNat - ((i : Int)).toNat) = cutB L i to from rfl]
    refine R_run hg.ok 1000 rfl rfl ?_
    refine R_callSO hg.ok hg.gup hg.wide hg.Y [0] (cutO L i ++ [zTk]) (named_walk Y L i 1 (cutB L i to) to (by omega) hL (by omega)) (fun _ => rfl) rfl rfl rfl rfl rfl rfl rfl rfl ?_
    refine R_run hg.ok 1000 rfl rfl ?_
    refine R_storeJ hg.ok rfl rfl rfl rfl rfl rfl rfl rfl rfl ?_
    refine R_run hg.ok 1000 rfl rfl ?_
    rw [← fin (t := ⟨1, (cutB L i to), 0, i, opnB L to⟩) (to := to) (b := namB (cutB L i to)) (by unfold nextR; rw [if_pos h1, hto]; rfl)]
    exact R_retS hg 1 5 (Nat.le_refl _) rfl rfl rfl
  refine R_call hg.ok (great_ok c) rfl rfl rfl rfl rfl rfl ?_
  refine R_run hg.ok 1000 rfl rfl ?_
  refine R_if rfl rfl (fun h2 => ?_) (fun h2 => ?_) <;> refine R_run hg.ok 1000 rfl rfl ?_
  · have hr := hrun folC
    have hcall := run_walk Y 44 folC follows_ok L i i (by omega) hL
    generalize hto : runB folC L i = to at hr hcall
    refine R_callSO hg.ok hg.gup hg.wide hg.Y [0] (cutO L i ++ [zTk]) hcall (fun _ => rfl) rfl rfl rfl rfl rfl rfl rfl rfl ?_
    refine R_run hg.ok 1000 rfl rfl ?_
    refine R_call hg.ok (low_ok c) rfl rfl rfl rfl rfl rfl ?_
    refine R_run hg.ok 1000 rfl rfl ?_
    refine R_if rfl rfl (fun h => absurd h (by simp [h1])) (fun _ => ?_) <;> refine R_run hg.ok 1000 rfl rfl ?_
    refine R_sliceS hg.ok rfl rfl rfl (l := (i : Int)) (h := (to : Int)) rfl rfl rfl (Int.natCast_nonneg i) (by omega) (by rw [Tx_size]; omega) ?_
    rw [Tx_cut, show (L.drop ((i : Int)).toNat).take (((to : Int)).toNat - ((i : Int)).toNat) = cutB L i to from rfl]
    refine R_run hg.ok 1000 rfl rfl ?_
    refine R_callSO hg.ok hg.gup hg.wide hg.Y [0] (cutO L i ++ [zTk]) (named_walk Y L i 2 (cutB L i to) to (by omega) hL (by omega)) (fun _ => rfl) rfl rfl rfl rfl rfl rfl rfl rfl ?_
    refine R_run hg.ok 1000 rfl rfl ?_
    refine R_storeJ hg.ok rfl rfl rfl rfl rfl rfl rfl rfl rfl ?_
    refine R_run hg.ok 1000 rfl rfl ?_
    rw [← fin (t := ⟨2, (cutB L i to), 0, i, opnB L to⟩) (to := to) (b := namB (cutB L i to)) (by unfold nextR; rw [if_neg (by rw [h1]; simp), if_pos h2, hto]; rfl)]
    exact R_retS hg 1 5 (Nat.le_refl _) rfl rfl rfl
  have n1 : ¬ lowC c = true := by rw [h1]; simp
  have n2 : ¬ grtC c = true := by rw [h2]; simp
  refine R_call hg.ok (digit_ok c) rfl rfl rfl rfl rfl rfl ?_
  refine R_run hg.ok 1000 rfl rfl ?_
  refine R_if rfl rfl (fun h3 => ?_) (fun h3 => ?_) <;> refine R_run hg.ok 1000 rfl rfl ?_
  · have hr := hrun dgC
    have hcall := run_walk Y 46 dgC digit_ok L i i (by omega) hL
    generalize hto : runB dgC L i = to at hr hcall
    refine R_callSO hg.ok hg.gup hg.wide hg.Y [0] (cutO L i ++ [zTk]) hcall (fun _ => rfl) rfl rfl rfl rfl rfl rfl rfl rfl ?_
    refine R_run hg.ok 1000 rfl rfl ?_
    have hall := run_all (p := dgC) (L := L) (i := i)
    rw [hto] at hall
    have hcl := cutB_len (L := L) hr.1 hr.2
    refine R_sliceS hg.ok rfl rfl rfl (l := (i : Int)) (h := (to : Int)) rfl rfl rfl (Int.natCast_nonneg i) (by omega) (by rw [Tx_size]; omega) ?_
    rw [Tx_cut, show (L.drop ((i : Int)).toNat).take (((to : Int)).toNat - ((i : Int)).toNat) = cutB L i to from rfl]
    refine R_run hg.ok 1000 rfl rfl ?_
    refine R_call hg.ok (number_ok (cutB L i to) hall (by omega)) rfl rfl rfl rfl rfl rfl ?_
    refine R_run hg.ok 1000 rfl rfl ?_
    refine R_sliceS hg.ok rfl rfl rfl (l := (i : Int)) (h := (to : Int)) rfl rfl rfl (Int.natCast_nonneg i) (by omega) (by rw [Tx_size]; omega) ?_
    rw [Tx_cut, show (L.drop ((i : Int)).toNat).take (((to : Int)).toNat - ((i : Int)).toNat) = cutB L i to from rfl]
    refine R_run hg.ok 1000 rfl rfl ?_
    refine R_storeJ hg.ok rfl rfl rfl rfl rfl rfl rfl rfl rfl ?_
    refine R_run hg.ok 1000 rfl rfl ?_
    rw [← fin (t := ⟨3, cutB L i to, (numP (cutB L i to)).1, i, false⟩) (to := to) (b := (numP (cutB L i to)).2) (by unfold nextR; rw [if_neg n1, if_neg n2, if_pos h3, hto])]
    exact R_retS hg 1 5 (Nat.le_refl _) rfl rfl rfl
  have n3 : ¬ dgC c = true := by rw [h3]; simp
  refine R_if rfl rfl (fun h4 => ?_) (fun h4 => ?_) <;> refine R_run hg.ok 1000 rfl rfl ?_
  · have h4 : c.toNat = 39 := by simp at h4; omega
    have hq := quoted_walk Y L i hi hL
    have hqle : (quoR L i).2.1 ≤ L.length := by
      unfold quoR
      cases hqq : quo (L.drop (i + 1)) with
      | none => simp
      | some x => have := quo_len _ _ (Nat.le_refl _) x.1 x.2 hqq; rw [List.length_drop] at this; simp only; omega
    have hn : nextR L i c = (⟨1, (quoR L i).1, 0, i, opnB L (quoR L i).2.1⟩, (quoR L i).2.1, (quoR L i).2.2 && namB (quoR L i).1) := by
      unfold nextR; rw [if_neg n1, if_neg n2, if_neg n3, if_pos h4]; rfl
    generalize quoR L i = q at hq hqle hn
    obtain ⟨text, to, ok⟩ := q
    simp only at hqle hn
    refine R_callSO hg.ok hg.gup hg.wide hg.Y [0] (cutO L i ++ [zTk]) hq (fun _ => rfl) rfl rfl rfl rfl rfl rfl rfl rfl ?_
    refine R_run hg.ok 1000 rfl rfl ?_
    refine R_callSO hg.ok hg.gup hg.wide hg.Y [0] (cutO L i ++ [zTk]) (named_walk Y L i 1 text to hqle hL (by omega)) (fun _ => rfl) rfl rfl rfl rfl rfl rfl rfl rfl ?_
    refine R_run hg.ok 1000 rfl rfl ?_
    refine R_if rfl rfl (fun h5 => ?_) (fun h5 => ?_) <;> refine R_run hg.ok 1000 rfl rfl ?_
    · have h5 : ok = true := h5
      refine R_storeJ hg.ok rfl rfl rfl rfl rfl rfl rfl rfl rfl ?_
      refine R_run hg.ok 1000 rfl rfl ?_
      rw [← fin (t := ⟨1, text, 0, i, opnB L to⟩) (to := to) (b := namB text) (by rw [hn, h5]; simp)]
      exact R_retS hg 1 5 (Nat.le_refl _) rfl rfl rfl
    · have h5 : ok = false := h5
      refine R_storeJ hg.ok rfl rfl rfl rfl rfl rfl rfl rfl rfl ?_
      refine R_run hg.ok 1000 rfl rfl ?_
      rw [← fin (t := ⟨1, text, 0, i, opnB L to⟩) (to := to) (b := false) (by rw [hn, h5]; simp)]
      exact R_retS hg 1 5 (Nat.le_refl _) rfl rfl rfl
  have n4 : ¬ c.toNat = 39 := by simp at h4; omega
  by_cases h5 : c.toNat = 91 ∧ (L[i + 1]?.map UInt8.toNat) = some 93
  · obtain ⟨d, hd, hd93⟩ : ∃ d, L[i + 1]? = some d ∧ d.toNat = 93 := by
      have := h5.2
      cases hx : L[i + 1]? with
      | none => rw [hx] at this; simp at this
      | some d => rw [hx] at this; exact ⟨d, rfl, by simpa using this⟩
    have hi1 := (List.getElem?_eq_some_iff.1 hd).1
    refine R_if rfl rfl (fun _ => ?_) (fun h => absurd h (by simp; omega)) <;> refine R_run hg.ok 1000 rfl rfl ?_
    rw [w64 (n := (i : Int) + 1) (by omega) (by omega), show (i : Int) + 1 = ((i + 1 : Nat) : Int) by omega]
    refine R_if rfl rfl (fun _ => ?_) (fun h => absurd h (by simp [Tx_size]; omega)) <;> refine R_run hg.ok 1000 rfl rfl ?_
    rw [w64 (n := (i : Int) + 1) (by omega) (by omega), show (i : Int) + 1 = ((i + 1 : Nat) : Int) by omega]
    refine R_indexS hg.ok rfl rfl rfl rfl rfl (Int.natCast_nonneg (i + 1)) (b := d) (by rw [Tx_get]; exact hd) ?_
    refine R_run hg.ok 1000 rfl rfl ?_
    refine R_if rfl rfl (fun _ => ?_) (fun h => absurd h (by simp; omega)) <;> refine R_run hg.ok 1000 rfl rfl ?_
    rw [w64 (n := (i : Int) + 2) (by omega) (by omega), show (i : Int) + 2 = ((i + 2 : Nat) : Int) by omega]
    refine R_callSO hg.ok hg.gup hg.wide hg.Y [0] (cutO L i ++ [zTk]) (named_walk Y L i 1 [91, 93] (i + 2) (by omega) hL (by omega)) (fun _ => rfl) rfl rfl rfl rfl rfl rfl rfl rfl ?_
    refine R_run hg.ok 1000 rfl rfl ?_
    refine R_storeJ hg.ok rfl rfl rfl rfl rfl rfl rfl rfl rfl ?_
    refine R_run hg.ok 1000 rfl rfl ?_
    rw [← fin (t := ⟨1, [91, 93], 0, i, opnB L (i + 2)⟩) (to := i + 2) (b := namB [91, 93]) (by unfold nextR; rw [if_neg n1, if_neg n2, if_neg n3, if_neg n4, if_pos h5]; rfl)]
    exact R_retS hg 1 5 (Nat.le_refl _) rfl rfl rfl
  have n5 := h5
  refine R_if rfl rfl (fun h6 => ?_) (fun h6 => ?_) <;> refine R_run hg.ok 1000 rfl rfl ?_
  · have h6 : c.toNat = 91 := by simp at h6; omega
    have tail : mrkC c = true := by have e : c = 91 := UInt8.toNat_inj.1 h6; rw [e]; decide
    rw [w64 (n := (i : Int) + 1) (by omega) (by omega), show (i : Int) + 1 = ((i + 1 : Nat) : Int) by omega]
    refine R_if rfl rfl (fun h7 => ?_) (fun h7 => ?_) <;> refine R_run hg.ok 1000 rfl rfl ?_
    · have hi1 : i + 1 < L.length := lt_dec h7 (by rw [Tx_size])
      rw [w64 (n := (i : Int) + 1) (by omega) (by omega), show (i : Int) + 1 = ((i + 1 : Nat) : Int) by omega]
      refine R_indexS hg.ok rfl rfl rfl rfl rfl (Int.natCast_nonneg (i + 1)) (b := L[i + 1]) (by rw [Tx_get]; exact List.getElem?_eq_getElem hi1) ?_
      refine R_run hg.ok 1000 rfl rfl ?_
      refine R_if rfl rfl (fun h => absurd h (by have h9 : ¬ L[i + 1].toNat = 93 := fun g => n5 ⟨h6, by rw [List.getElem?_eq_getElem hi1]; simpa using g⟩; simp; omega)) (fun _ => ?_) <;> refine R_run hg.ok 1000 rfl rfl ?_
      refine R_if rfl rfl (fun h => absurd h (by simp; omega)) (fun _ => ?_) <;> refine R_run hg.ok 1000 rfl rfl ?_
      refine R_if rfl rfl (fun h => absurd h (by simp; omega)) (fun _ => ?_) <;> refine R_run hg.ok 1000 rfl rfl ?_
      refine R_call hg.ok (among_ok mrkL (by decide) c) rfl rfl rfl rfl rfl rfl ?_
      refine R_run hg.ok 1000 rfl rfl ?_
      refine R_if rfl rfl (fun _ => ?_) (fun h => absurd h (by rw [show mrkL.contains c = true from tail]; simp)) <;> refine R_run hg.ok 1000 rfl rfl ?_
      refine R_convB hg.ok (Tx [c]) rfl rfl rfl rfl rfl (enc_ascii (by omega)) ?_
      refine R_run hg.ok 1000 rfl rfl ?_
      refine R_loadJ hg.ok 101 (by simp [mayO, len]) rfl rfl rfl rfl rfl rfl rfl ?_
      refine R_run hg.ok 1000 rfl rfl ?_
      rw [w64 (n := (i : Int) + 1) (by omega) (by omega), show (i : Int) + 1 = ((i + 1 : Nat) : Int) by omega]
      refine R_storeJ hg.ok rfl rfl rfl rfl rfl rfl rfl rfl rfl ?_
      refine R_run hg.ok 1000 rfl rfl ?_
      rw [← fin (t := ⟨4, [c], 0, i, false⟩) (to := i + 1) (b := true) (by unfold nextR; rw [if_neg n1, if_neg n2, if_neg n3, if_neg n4, if_neg n5, if_neg (by omega), if_pos tail])]
      exact R_retS hg 1 5 (Nat.le_refl _) rfl rfl rfl
    · have := h7
      refine R_if rfl rfl (fun h => absurd h (by simp; omega)) (fun _ => ?_) <;> refine R_run hg.ok 1000 rfl rfl ?_
      refine R_if rfl rfl (fun h => absurd h (by simp; omega)) (fun _ => ?_) <;> refine R_run hg.ok 1000 rfl rfl ?_
      refine R_call hg.ok (among_ok mrkL (by decide) c) rfl rfl rfl rfl rfl rfl ?_
      refine R_run hg.ok 1000 rfl rfl ?_
      refine R_if rfl rfl (fun _ => ?_) (fun h => absurd h (by rw [show mrkL.contains c = true from tail]; simp)) <;> refine R_run hg.ok 1000 rfl rfl ?_
      refine R_convB hg.ok (Tx [c]) rfl rfl rfl rfl rfl (enc_ascii (by omega)) ?_
      refine R_run hg.ok 1000 rfl rfl ?_
      refine R_loadJ hg.ok 101 (by simp [mayO, len]) rfl rfl rfl rfl rfl rfl rfl ?_
      refine R_run hg.ok 1000 rfl rfl ?_
      rw [w64 (n := (i : Int) + 1) (by omega) (by omega), show (i : Int) + 1 = ((i + 1 : Nat) : Int) by omega]
      refine R_storeJ hg.ok rfl rfl rfl rfl rfl rfl rfl rfl rfl ?_
      refine R_run hg.ok 1000 rfl rfl ?_
      rw [← fin (t := ⟨4, [c], 0, i, false⟩) (to := i + 1) (b := true) (by unfold nextR; rw [if_neg n1, if_neg n2, if_neg n3, if_neg n4, if_neg n5, if_neg (by omega), if_pos tail])]
      exact R_retS hg 1 5 (Nat.le_refl _) rfl rfl rfl
  refine R_if rfl rfl (fun h8 => ?_) (fun h8 => ?_) <;> refine R_run hg.ok 1000 rfl rfl ?_
  · have h8 : c.toNat = 33 := by simp at h8; omega
    refine R_convB hg.ok (Tx [c]) rfl rfl rfl rfl rfl (enc_ascii (by omega)) ?_
    refine R_run hg.ok 1000 rfl rfl ?_
    rw [w64 (n := (i : Int) + 1) (by omega) (by omega), show (i : Int) + 1 = ((i + 1 : Nat) : Int) by omega]
    refine R_callSO hg.ok hg.gup hg.wide hg.Y [0] (cutO L i ++ [zTk]) (named_walk Y L i 1 [c] (i + 1) (by omega) hL (by omega)) (fun _ => rfl) rfl rfl rfl rfl rfl rfl rfl rfl ?_
    refine R_run hg.ok 1000 rfl rfl ?_
    refine R_storeJ hg.ok rfl rfl rfl rfl rfl rfl rfl rfl rfl ?_
    refine R_run hg.ok 1000 rfl rfl ?_
    rw [← fin (t := ⟨1, [c], 0, i, opnB L (i + 1)⟩) (to := i + 1) (b := namB [c]) (by unfold nextR; rw [if_neg n1, if_neg n2, if_neg n3, if_neg n4, if_neg n5, if_pos (.inl h8)]; rfl)]
    exact R_retS hg 1 5 (Nat.le_refl _) rfl rfl rfl
  refine R_if rfl rfl (fun h9 => ?_) (fun h9 => ?_) <;> refine R_run hg.ok 1000 rfl rfl ?_
  · have h9 : c.toNat = 59 := by simp at h9; omega
    refine R_convB hg.ok (Tx [c]) rfl rfl rfl rfl rfl (enc_ascii (by omega)) ?_
    refine R_run hg.ok 1000 rfl rfl ?_
    rw [w64 (n := (i : Int) + 1) (by omega) (by omega), show (i : Int) + 1 = ((i + 1 : Nat) : Int) by omega]
    refine R_callSO hg.ok hg.gup hg.wide hg.Y [0] (cutO L i ++ [zTk]) (named_walk Y L i 1 [c] (i + 1) (by omega) hL (by omega)) (fun _ => rfl) rfl rfl rfl rfl rfl rfl rfl rfl ?_
    refine R_run hg.ok 1000 rfl rfl ?_
    refine R_storeJ hg.ok rfl rfl rfl rfl rfl rfl rfl rfl rfl ?_
    refine R_run hg.ok 1000 rfl rfl ?_
    rw [← fin (t := ⟨1, [c], 0, i, opnB L (i + 1)⟩) (to := i + 1) (b := namB [c]) (by unfold nextR; rw [if_neg n1, if_neg n2, if_neg n3, if_neg n4, if_neg n5, if_pos (.inr h9)]; rfl)]
    exact R_retS hg 1 5 (Nat.le_refl _) rfl rfl rfl
  have n6 : ¬ (c.toNat = 33 ∨ c.toNat = 59) := by simp at h8 h9; omega
  by_cases tail : mrkC c = true
  · have h128 : c.toNat < 128 := by
      have := byte_all (p := fun c => !mrkC c || decide (c.toNat < 128)) (by decide +kernel) c
      simpa [tail] using this
    refine R_call hg.ok (among_ok mrkL (by decide) c) rfl rfl rfl rfl rfl rfl ?_
    refine R_run hg.ok 1000 rfl rfl ?_
    refine R_if rfl rfl (fun _ => ?_) (fun h => absurd h (by rw [show mrkL.contains c = true from tail]; simp)) <;> refine R_run hg.ok 1000 rfl rfl ?_
    refine R_convB hg.ok (Tx [c]) rfl rfl rfl rfl rfl (enc_ascii (h128)) ?_
    refine R_run hg.ok 1000 rfl rfl ?_
    refine R_loadJ hg.ok 101 (by simp [mayO, len]) rfl rfl rfl rfl rfl rfl rfl ?_
    refine R_run hg.ok 1000 rfl rfl ?_
    rw [w64 (n := (i : Int) + 1) (by omega) (by omega), show (i : Int) + 1 = ((i + 1 : Nat) : Int) by omega]
    refine R_storeJ hg.ok rfl rfl rfl rfl rfl rfl rfl rfl rfl ?_
    refine R_run hg.ok 1000 rfl rfl ?_
    rw [← fin (t := ⟨4, [c], 0, i, false⟩) (to := i + 1) (b := true) (by unfold nextR; rw [if_neg n1, if_neg n2, if_neg n3, if_neg n4, if_neg n5, if_neg (by omega), if_pos tail])]
    exact R_retS hg 1 5 (Nat.le_refl _) rfl rfl rfl
  have n7 := tail
  refine R_call hg.ok (among_ok mrkL (by decide) c) rfl rfl rfl rfl rfl rfl ?_
  refine R_run hg.ok 1000 rfl rfl ?_
  refine R_if rfl rfl (fun h => absurd h (by rw [show mrkL.contains c = false from by simpa [mrkC] using n7]; simp)) (fun _ => ?_) <;> refine R_run hg.ok 1000 rfl rfl ?_
  have hr := hrun sgnC
  have hcall := run_walk Y 50 sgnC sign1_ok L i i (by omega) hL
  generalize hto : runB sgnC L i = to at hr hcall
  refine R_callSO hg.ok hg.gup hg.wide hg.Y [0] (cutO L i ++ [zTk]) hcall (fun _ => rfl) rfl rfl rfl rfl rfl rfl rfl rfl ?_
  refine R_run hg.ok 1000 rfl rfl ?_
  refine R_sliceS hg.ok rfl rfl rfl (l := (i : Int)) (h := (to : Int)) rfl rfl rfl (Int.natCast_nonneg i) (by omega) (by rw [Tx_size]; omega) ?_
  rw [Tx_cut, show (L.drop ((i : Int)).toNat).take (((to : Int)).toNat - ((i : Int)).toNat) = cutB L i to from rfl]
  refine R_run hg.ok 1000 rfl rfl ?_
  have hlen := cutB_len (L := L) hr.1 hr.2
  have hcut : (cutB L i to == [46]) = true ↔ to = i + 1 ∧ c.toNat = 46 := by
    rw [beq_iff_eq]
    have hd : L.drop i = c :: L.drop (i + 1) := by rw [List.drop_eq_getElem_cons hi, (List.getElem?_eq_some_iff.1 hc).2]
    constructor
    · intro h
      rw [h] at hlen
      have e : to = i + 1 := by simp only [List.length_singleton] at hlen; omega
      rw [e, cutB, hd, Nat.add_sub_cancel_left] at h
      simp only [List.take_succ_cons, List.take_zero, List.cons.injEq, and_true] at h
      exact ⟨e, by rw [h]; rfl⟩
    · rintro ⟨e, h⟩
      have h : c = 46 := UInt8.toNat_inj.1 h
      rw [e, cutB, hd, Nat.add_sub_cancel_left, h]; rfl
  have hdot : strEq (Tx (cutB L i to)) ⟨#[46]⟩ = (cutB L i to == [46]) := Tx_eq _ _
  by_cases hE : to = i + 1 ∧ c.toNat = 46
  · have hb := hcut.2 hE
    refine R_if rfl rfl (fun _ => ?_) (fun h => absurd h (by rw [hdot.trans hb]; simp)) <;> refine R_run hg.ok 1000 rfl rfl ?_
    obtain ⟨rfl, h46⟩ := hE
    have hE : i + 1 = i + 1 ∧ c.toNat = 46 := ⟨rfl, h46⟩
    refine R_if rfl rfl (fun h10 => ?_) (fun h10 => ?_) <;> refine R_run hg.ok 1000 rfl rfl ?_
    · have h10 : L.length = i + 1 := by simp [Tx_size] at h10; omega
      have ea : endAft L (i + 1) = true := by unfold endAft; rw [List.getElem?_eq_none (by omega)]
      refine R_storeJ hg.ok rfl rfl rfl rfl rfl rfl rfl rfl rfl ?_
      refine R_run hg.ok 1000 rfl rfl ?_
      rw [← fin (t := ⟨5, [46], 0, i, false⟩) (to := i + 1) (b := true) (by unfold nextR; rw [if_neg n1, if_neg n2, if_neg n3, if_neg n4, if_neg n5, if_neg n6, if_neg n7, if_pos ⟨by rw [hto], hE.2, ea⟩])]
      exact R_retS hg 1 5 (Nat.le_refl _) rfl rfl rfl
    · have h10 : i + 1 < L.length := by simp [Tx_size] at h10; omega
      have e1 : L[i + 1]? = some L[i + 1] := List.getElem?_eq_getElem h10
      have ea : endAft L (i + 1) = (blkC L[i + 1] || decide (L[i + 1].toNat = 37)) := by unfold endAft; rw [e1]
      generalize L[i + 1] = d at e1 ea
      refine R_indexS hg.ok rfl rfl rfl rfl rfl (Int.natCast_nonneg (i + 1)) (b := d) (by rw [Tx_get]; exact e1) ?_
      refine R_run hg.ok 1000 rfl rfl ?_
      refine R_call hg.ok (blank_ok d) rfl rfl rfl rfl rfl rfl ?_
      refine R_run hg.ok 1000 rfl rfl ?_
      refine R_if rfl rfl (fun h11 => ?_) (fun h11 => ?_) <;> refine R_run hg.ok 1000 rfl rfl ?_
      · refine R_storeJ hg.ok rfl rfl rfl rfl rfl rfl rfl rfl rfl ?_
        refine R_run hg.ok 1000 rfl rfl ?_
        rw [← fin (t := ⟨5, [46], 0, i, false⟩) (to := i + 1) (b := true) (by unfold nextR; rw [if_neg n1, if_neg n2, if_neg n3, if_neg n4, if_neg n5, if_neg n6, if_neg n7, if_pos ⟨by rw [hto], hE.2, by rw [ea, h11]; simp⟩])]
        exact R_retS hg 1 5 (Nat.le_refl _) rfl rfl rfl
      · refine R_indexS hg.ok rfl rfl rfl rfl rfl (Int.natCast_nonneg (i + 1)) (b := d) (by rw [Tx_get]; exact e1) ?_
        refine R_run hg.ok 1000 rfl rfl ?_
        refine R_if rfl rfl (fun h12 => ?_) (fun h12 => ?_) <;> refine R_run hg.ok 1000 rfl rfl ?_
        · have h12 : d.toNat = 37 := by simp at h12; omega
          refine R_storeJ hg.ok rfl rfl rfl rfl rfl rfl rfl rfl rfl ?_
          refine R_run hg.ok 1000 rfl rfl ?_
          rw [← fin (t := ⟨5, [46], 0, i, false⟩) (to := i + 1) (b := true) (by unfold nextR; rw [if_neg n1, if_neg n2, if_neg n3, if_neg n4, if_neg n5, if_neg n6, if_neg n7, if_pos ⟨by rw [hto], hE.2, by rw [ea, h12]; simp⟩])]
          exact R_retS hg 1 5 (Nat.le_refl _) rfl rfl rfl
        · have h12 : ¬ d.toNat = 37 := by simp at h12; omega
          have hno : endAft L (i + 1) = false := by rw [ea, h11]; simp [h12]
          refine R_sliceS hg.ok rfl rfl rfl (l := (i : Int)) (h := ((i + 1 : Nat) : Int)) rfl rfl rfl (Int.natCast_nonneg i) (by omega) (by rw [Tx_size]; omega) ?_
          rw [Tx_cut, show (L.drop ((i : Int)).toNat).take ((((i + 1 : Nat) : Int)).toNat - ((i : Int)).toNat) = cutB L i (i + 1) from rfl]
          refine R_run hg.ok 1000 rfl rfl ?_
          refine R_callSO hg.ok hg.gup hg.wide hg.Y [0] (cutO L i ++ [zTk]) (named_walk Y L i 1 (cutB L i (i + 1)) (i + 1) (by omega) hL (by omega)) (fun _ => rfl) rfl rfl rfl rfl rfl rfl rfl rfl ?_
          refine R_run hg.ok 1000 rfl rfl ?_
          refine R_storeJ hg.ok rfl rfl rfl rfl rfl rfl rfl rfl rfl ?_
          refine R_run hg.ok 1000 rfl rfl ?_
          rw [← fin (t := ⟨1, cutB L i (i + 1), 0, i, opnB L (i + 1)⟩) (to := i + 1) (b := namB (cutB L i (i + 1))) (by unfold nextR; rw [if_neg n1, if_neg n2, if_neg n3, if_neg n4, if_neg n5, if_neg n6, if_neg n7, if_neg (by rw [hto]; rintro ⟨_, _, h⟩; rw [hno] at h; cases h), hto]; rfl)]
          exact R_retS hg 1 5 (Nat.le_refl _) rfl rfl rfl
  · have hb : (cutB L i to == [46]) = false := by
      rw [Bool.eq_false_iff]; exact fun h => hE (hcut.1 h)
    refine R_if rfl rfl (fun h => absurd h (by rw [hdot.trans hb]; simp)) (fun _ => ?_) <;> refine R_run hg.ok 1000 rfl rfl ?_
    refine R_sliceS hg.ok rfl rfl rfl (l := (i : Int)) (h := (to : Int)) rfl rfl rfl (Int.natCast_nonneg i) (by omega) (by rw [Tx_size]; omega) ?_
    rw [Tx_cut, show (L.drop ((i : Int)).toNat).take (((to : Int)).toNat - ((i : Int)).toNat) = cutB L i to from rfl]
    refine R_run hg.ok 1000 rfl rfl ?_
    refine R_callSO hg.ok hg.gup hg.wide hg.Y [0] (cutO L i ++ [zTk]) (named_walk Y L i 1 (cutB L i to) to (by omega) hL (by omega)) (fun _ => rfl) rfl rfl rfl rfl rfl rfl rfl rfl ?_
    refine R_run hg.ok 1000 rfl rfl ?_
    refine R_storeJ hg.ok rfl rfl rfl rfl rfl rfl rfl rfl rfl ?_
    refine R_run hg.ok 1000 rfl rfl ?_
    rw [← fin (t := ⟨1, cutB L i to, 0, i, opnB L to⟩) (to := to) (b := namB (cutB L i to)) (by unfold nextR; rw [if_neg n1, if_neg n2, if_neg n3, if_neg n4, if_neg n5, if_neg n6, if_neg n7, if_neg (by rw [hto]; rintro ⟨h, h2, _⟩; exact hE ⟨h, h2⟩), hto]; rfl)]
    exact R_retS hg 1 5 (Nat.le_refl _) rfl rfl rfl
end Go.Proofs.Ythfkhfbhbfpglaa
