import Derived.Test.YthfkhfbhbfpglaaSLaw8b
import Derived.Test.YthfkhfbhbfpglaaPlLex4
namespace Go.Proofs.Ythfkhfbhbfpglaa
open Go PSL Go.Proofs

set_option maxHeartbeats 1600000 in
set_option maxRecDepth 100000 in
theorem lexPlaces_ok (a : ByteArray) : PCtr Try.prog 5 [.d (.v (.string a))] (bV true) := by
  rw [← Tx_data a]
  generalize a.data.toList = L
  refine PCtr.of_R (pf := fun _ => .eff) tyOk mixed Try.func5 rfl (by kernel_rfl) (by kernel_rfl) (by simp [Try.ntmps5]) fun w S hg => ?_
  refine R_run hg.ok 1000 rfl rfl ?_
  refine R_if rfl rfl (fun h1 => ?_) (fun h1 => ?_) <;> refine R_run hg.ok 1000 rfl rfl ?_
  · refine R_call hg.ok (knows8_ok) rfl rfl rfl rfl rfl rfl ?_
    refine R_run hg.ok 1000 rfl rfl ?_
    refine R_ret hg 5 rfl rfl ?_
    rfl
  have hL : L.length ≤ 3000 := by have := of_decide_eq_false h1; rw [Tx_size] at this; omega
  have cA := tokens_ok L (by omega)
  cases eA : toks (L.length + 1) L 0 with
  | error j =>
    have hj := toks_bad _ L 0 j eA
    rw [tokR_bad (by omega) eA] at cA
    refine R_call hg.ok (cA) rfl rfl rfl rfl rfl rfl ?_
    refine R_run hg.ok 1000 rfl rfl ?_
    refine R_if rfl rfl (fun _ => ?_) (fun h => absurd h (by simp)) <;> refine R_run hg.ok 1000 rfl rfl ?_
    refine R_if rfl rfl (fun _ => ?_) (fun h => absurd h (by simp)) <;> refine R_run hg.ok 1000 rfl rfl ?_
    refine R_if rfl rfl (fun _ => ?_) (fun h => absurd h (by simp)) <;> refine R_run hg.ok 1000 rfl rfl ?_
    refine R_if rfl rfl (fun _ => ?_) (fun h => absurd h (by simp [Tx_size]; omega)) <;> refine R_run hg.ok 1000 rfl rfl ?_
    refine R_call hg.ok (knows8_ok) rfl rfl rfl rfl rfl rfl ?_
    refine R_run hg.ok 1000 rfl rfl ?_
    refine R_ret hg 5 rfl rfl ?_
    rfl
  | ok l =>
    have hl := toks_len _ L 0 l eA
    obtain ⟨hplace, hinc⟩ := toks_place _ L 0 l eA
    rw [tokR_ok (by omega) eA] at cA
    refine R_call hg.ok (cA) rfl rfl rfl rfl rfl rfl ?_
    refine R_run hg.ok 1000 rfl rfl ?_
    refine R_if rfl rfl (fun h => absurd h (by simp)) (fun _ => ?_) <;> refine R_run hg.ok 1000 rfl rfl ?_
    refine R_loop (fun k : Nat => ([(0, txA L), (3, .d (.sl (tkRows l))), (6, iV k)], [])) (fun k => k ≤ l.length) (fun k => l.length - k) 0 (Nat.zero_le _) ⟨.refl _, .refl _, .refl _, trivial⟩ rfl ?_
    rintro k hk
    refine R_run hg.ok 1000 rfl rfl ?_
    refine R_if rfl rfl (fun h => ?_) (fun h => ?_) <;> refine R_run hg.ok 1000 rfl rfl ?_
    · have hk1 : k < l.length := lt_dec h (by rw [tkRows_len])
      have e1 : l[k]? = some l[k] := List.getElem?_eq_getElem hk1
      have hP := hplace l[k] (List.getElem_mem hk1)
      have hinc' := fun (v : Tk) (hv : l[k - 1]? = some v) (h0 : 0 < k) => hinc (k - 1) v l[k] hv (by rw [show k - 1 + 1 = k by omega]; exact e1)
      generalize l[k] = t at e1 hP hinc'
      obtain ⟨kind, text, n, at_, opn⟩ := t
      obtain ⟨p, rfl⟩ : ∃ p : Nat, at_ = (p : Int) := ⟨at_.toNat, by have := hP.lo; simp only at this; omega⟩
      have hhi := hP.hi
      have hop := hP.opn
      have hcut := hP.cut
      simp only [Int.toNat_natCast] at hhi hop hcut hinc'
      have hp : p < L.length := by omega
      have ec : L[p]? = some L[p] := List.getElem?_eq_getElem hp
      generalize L[p] = c at ec
      refine R_index hg.ok rfl rfl rfl rfl rfl rfl (Int.natCast_nonneg k) (tkRows_get e1) rfl ?_
      refine R_run hg.ok 1000 rfl rfl ?_
      refine R_if rfl rfl (fun h => absurd h (by simp)) (fun _ => ?_) <;> refine R_run hg.ok 1000 rfl rfl ?_
      refine R_if rfl rfl (fun h => absurd h (by simp [Tx_size]; omega)) (fun _ => ?_) <;> refine R_run hg.ok 1000 rfl rfl ?_
      refine R_if rfl rfl (fun h2 => ?_) (fun h2 => ?_) <;> refine R_run hg.ok 1000 rfl rfl ?_
      · have h2 : 0 < k := by have := of_decide_eq_true h2; omega
        have e0 : l[k - 1]? = some l[k - 1] := List.getElem?_eq_getElem (by omega)
        have hlt := hinc' _ e0 h2
        generalize l[k - 1] = u at e0 hlt
        rw [w64 (n := (k : Int) - 1) (by omega) (by omega), show (k : Int) - 1 = ((k - 1 : Nat) : Int) by omega]
        refine R_index hg.ok rfl rfl rfl rfl rfl rfl (Int.natCast_nonneg (k - 1)) (tkRows_get e0) rfl ?_
        refine R_run hg.ok 1000 rfl rfl ?_
        refine R_if rfl rfl (fun h => absurd h (by simp; omega)) (fun _ => ?_) <;> refine R_run hg.ok 1000 rfl rfl ?_
        refine R_if rfl rfl (fun h3 => ?_) (fun h3 => ?_) <;> refine R_run hg.ok 1000 rfl rfl ?_
        · have h3 : kind ≤ 2 := hop h3
          refine R_if rfl rfl (fun h => absurd h (by simp; omega)) (fun _ => ?_) <;> refine R_run hg.ok 1000 rfl rfl ?_
          refine R_indexS hg.ok rfl rfl rfl rfl rfl (Int.natCast_nonneg p) (b := c) (by rw [Tx_get]; exact ec) ?_
          refine R_run hg.ok 1000 rfl rfl ?_
          refine R_if rfl rfl (fun h4 => ?_) (fun h4 => ?_) <;> refine R_run hg.ok 1000 rfl rfl ?_
          · refine R_dropO 0 [] (Nat.zero_le _) rfl rfl ?_
            exact R_next (k + 1) hk1 (by omega) ⟨.refl _, .refl _, Ent.wrap (by omega) (by omega) (by omega), trivial⟩ rfl
          have h4 : ¬ c.toNat = 39 := by simp at h4; omega
          refine R_if rfl rfl (fun h5 => ?_) (fun h5 => ?_) <;> refine R_run hg.ok 1000 rfl rfl ?_
          · refine R_dropO 0 [] (Nat.zero_le _) rfl rfl ?_
            exact R_next (k + 1) hk1 (by omega) ⟨.refl _, .refl _, Ent.wrap (by omega) (by omega) (by omega), trivial⟩ rfl
          have h5 : ¬ kind = 5 := by simpa using h5
          obtain ⟨q1, q2, q3⟩ := hcut c ec h4 h5
          rw [w64 (n := (p : Int) + ((Tx text).size : Int)) (by rw [Tx_size]; omega) (by rw [Tx_size]; omega)]
          refine R_if rfl rfl (fun h => absurd h (by simp [Tx_size]; omega)) (fun _ => ?_) <;> refine R_run hg.ok 1000 rfl rfl ?_
          rw [w64 (n := (p : Int) + ((Tx text).size : Int)) (by rw [Tx_size]; omega) (by rw [Tx_size]; omega), show (p : Int) + ((Tx text).size : Int) = ((p + text.length : Nat) : Int) by rw [Tx_size]; omega]
          refine R_sliceS hg.ok rfl rfl rfl (l := (p : Int)) (h := ((p + text.length : Nat) : Int)) rfl rfl rfl (Int.natCast_nonneg p) (by omega) (by rw [Tx_size]; omega) ?_
          rw [Tx_cut, show (L.drop ((p : Int)).toNat).take ((((p + text.length : Nat) : Int)).toNat - ((p : Int)).toNat) = cutB L p (p + text.length) from rfl, q2]
          refine R_run hg.ok 1000 rfl rfl ?_
          refine R_if rfl rfl (fun h => absurd h (by simp [strEq])) (fun _ => ?_) <;> refine R_run hg.ok 1000 rfl rfl ?_
          refine R_concat hg.ok (Tx (text ++ [32])) rfl rfl rfl rfl (by rw [Tx_size]; simp [ByteArray.size]; omega) (Tx_app text [32]) ?_
          refine R_run hg.ok 1000 rfl rfl ?_
          have cT := tokens_ok (text ++ [32]) (by simp; omega)
          by_cases hdot : text = [46]
          · refine R_call hg.ok (cT) rfl rfl rfl rfl rfl rfl ?_
            refine R_run hg.ok 1000 rfl rfl ?_
            have hse : strEq (Tx text) ⟨#[46]⟩ = true := by rw [show (⟨#[46]⟩ : ByteArray) = Tx [46] from rfl, Tx_eq, hdot]; rfl
            refine R_if rfl rfl (fun h => absurd h (by rw [hse]; simp)) (fun _ => ?_) <;> refine R_run hg.ok 1000 rfl rfl ?_
            refine R_dropO 0 [] (Nat.zero_le _) rfl rfl ?_
            exact R_next (k + 1) hk1 (by omega) ⟨.refl _, .refl _, Ent.wrap (by omega) (by omega) (by omega), trivial⟩ rfl
          · unfold tokR at cT
            rw [q3 hdot hL] at cT
            refine R_call hg.ok (cT) rfl rfl rfl rfl rfl rfl ?_
            refine R_run hg.ok 1000 rfl rfl ?_
            have hse : strEq (Tx text) ⟨#[46]⟩ = false := by rw [show (⟨#[46]⟩ : ByteArray) = Tx [46] from rfl, Tx_eq]; simpa using hdot
            refine R_if rfl rfl (fun _ => ?_) (fun h => absurd h (by rw [hse]; simp)) <;> refine R_run hg.ok 1000 rfl rfl ?_
            refine R_if rfl rfl (fun h => absurd h (by simp)) (fun _ => ?_) <;> refine R_run hg.ok 1000 rfl rfl ?_
            refine R_if rfl rfl (fun h => absurd h (by simp [tkRows])) (fun _ => ?_) <;> refine R_run hg.ok 1000 rfl rfl ?_
            refine R_index hg.ok rfl rfl rfl rfl rfl rfl (by decide) rfl rfl ?_
            refine R_run hg.ok 1000 rfl rfl ?_
            refine R_if rfl rfl (fun h => absurd h (by simp)) (fun _ => ?_) <;> refine R_run hg.ok 1000 rfl rfl ?_
            refine R_index hg.ok rfl rfl rfl rfl rfl rfl (by decide) rfl rfl ?_
            refine R_run hg.ok 1000 rfl rfl ?_
            refine R_if rfl rfl (fun h => absurd h (by simp)) (fun _ => ?_) <;> refine R_run hg.ok 1000 rfl rfl ?_
            refine R_index hg.ok rfl rfl rfl rfl rfl rfl (by decide) rfl rfl ?_
            refine R_run hg.ok 1000 rfl rfl ?_
            refine R_if rfl rfl (fun h => absurd h (by simp)) (fun _ => ?_) <;> refine R_run hg.ok 1000 rfl rfl ?_
            refine R_dropO 0 [] (Nat.zero_le _) rfl rfl ?_
            exact R_next (k + 1) hk1 (by omega) ⟨.refl _, .refl _, Ent.wrap (by omega) (by omega) (by omega), trivial⟩ rfl
        refine R_indexS hg.ok rfl rfl rfl rfl rfl (Int.natCast_nonneg p) (b := c) (by rw [Tx_get]; exact ec) ?_
        refine R_run hg.ok 1000 rfl rfl ?_
        refine R_if rfl rfl (fun h4 => ?_) (fun h4 => ?_) <;> refine R_run hg.ok 1000 rfl rfl ?_
        · refine R_dropO 0 [] (Nat.zero_le _) rfl rfl ?_
          exact R_next (k + 1) hk1 (by omega) ⟨.refl _, .refl _, Ent.wrap (by omega) (by omega) (by omega), trivial⟩ rfl
        have h4 : ¬ c.toNat = 39 := by simp at h4; omega
        refine R_if rfl rfl (fun h5 => ?_) (fun h5 => ?_) <;> refine R_run hg.ok 1000 rfl rfl ?_
        · refine R_dropO 0 [] (Nat.zero_le _) rfl rfl ?_
          exact R_next (k + 1) hk1 (by omega) ⟨.refl _, .refl _, Ent.wrap (by omega) (by omega) (by omega), trivial⟩ rfl
        have h5 : ¬ kind = 5 := by simpa using h5
        obtain ⟨q1, q2, q3⟩ := hcut c ec h4 h5
        rw [w64 (n := (p : Int) + ((Tx text).size : Int)) (by rw [Tx_size]; omega) (by rw [Tx_size]; omega)]
        refine R_if rfl rfl (fun h => absurd h (by simp [Tx_size]; omega)) (fun _ => ?_) <;> refine R_run hg.ok 1000 rfl rfl ?_
        rw [w64 (n := (p : Int) + ((Tx text).size : Int)) (by rw [Tx_size]; omega) (by rw [Tx_size]; omega), show (p : Int) + ((Tx text).size : Int) = ((p + text.length : Nat) : Int) by rw [Tx_size]; omega]
        refine R_sliceS hg.ok rfl rfl rfl (l := (p : Int)) (h := ((p + text.length : Nat) : Int)) rfl rfl rfl (Int.natCast_nonneg p) (by omega) (by rw [Tx_size]; omega) ?_
        rw [Tx_cut, show (L.drop ((p : Int)).toNat).take ((((p + text.length : Nat) : Int)).toNat - ((p : Int)).toNat) = cutB L p (p + text.length) from rfl, q2]
        refine R_run hg.ok 1000 rfl rfl ?_
        refine R_if rfl rfl (fun h => absurd h (by simp [strEq])) (fun _ => ?_) <;> refine R_run hg.ok 1000 rfl rfl ?_
        refine R_concat hg.ok (Tx (text ++ [32])) rfl rfl rfl rfl (by rw [Tx_size]; simp [ByteArray.size]; omega) (Tx_app text [32]) ?_
        refine R_run hg.ok 1000 rfl rfl ?_
        have cT := tokens_ok (text ++ [32]) (by simp; omega)
        by_cases hdot : text = [46]
        · refine R_call hg.ok (cT) rfl rfl rfl rfl rfl rfl ?_
          refine R_run hg.ok 1000 rfl rfl ?_
          have hse : strEq (Tx text) ⟨#[46]⟩ = true := by rw [show (⟨#[46]⟩ : ByteArray) = Tx [46] from rfl, Tx_eq, hdot]; rfl
          refine R_if rfl rfl (fun h => absurd h (by rw [hse]; simp)) (fun _ => ?_) <;> refine R_run hg.ok 1000 rfl rfl ?_
          refine R_dropO 0 [] (Nat.zero_le _) rfl rfl ?_
          exact R_next (k + 1) hk1 (by omega) ⟨.refl _, .refl _, Ent.wrap (by omega) (by omega) (by omega), trivial⟩ rfl
        · unfold tokR at cT
          rw [q3 hdot hL] at cT
          refine R_call hg.ok (cT) rfl rfl rfl rfl rfl rfl ?_
          refine R_run hg.ok 1000 rfl rfl ?_
          have hse : strEq (Tx text) ⟨#[46]⟩ = false := by rw [show (⟨#[46]⟩ : ByteArray) = Tx [46] from rfl, Tx_eq]; simpa using hdot
          refine R_if rfl rfl (fun _ => ?_) (fun h => absurd h (by rw [hse]; simp)) <;> refine R_run hg.ok 1000 rfl rfl ?_
          refine R_if rfl rfl (fun h => absurd h (by simp)) (fun _ => ?_) <;> refine R_run hg.ok 1000 rfl rfl ?_
          refine R_if rfl rfl (fun h => absurd h (by simp [tkRows])) (fun _ => ?_) <;> refine R_run hg.ok 1000 rfl rfl ?_
          refine R_index hg.ok rfl rfl rfl rfl rfl rfl (by decide) rfl rfl ?_
          refine R_run hg.ok 1000 rfl rfl ?_
          refine R_if rfl rfl (fun h => absurd h (by simp)) (fun _ => ?_) <;> refine R_run hg.ok 1000 rfl rfl ?_
          refine R_index hg.ok rfl rfl rfl rfl rfl rfl (by decide) rfl rfl ?_
          refine R_run hg.ok 1000 rfl rfl ?_
          refine R_if rfl rfl (fun h => absurd h (by simp)) (fun _ => ?_) <;> refine R_run hg.ok 1000 rfl rfl ?_
          refine R_index hg.ok rfl rfl rfl rfl rfl rfl (by decide) rfl rfl ?_
          refine R_run hg.ok 1000 rfl rfl ?_
          refine R_if rfl rfl (fun h => absurd h (by simp)) (fun _ => ?_) <;> refine R_run hg.ok 1000 rfl rfl ?_
          refine R_dropO 0 [] (Nat.zero_le _) rfl rfl ?_
          exact R_next (k + 1) hk1 (by omega) ⟨.refl _, .refl _, Ent.wrap (by omega) (by omega) (by omega), trivial⟩ rfl
      · have h2 := h2
        refine R_if rfl rfl (fun h3 => ?_) (fun h3 => ?_) <;> refine R_run hg.ok 1000 rfl rfl ?_
        · have h3 : kind ≤ 2 := hop h3
          refine R_if rfl rfl (fun h => absurd h (by simp; omega)) (fun _ => ?_) <;> refine R_run hg.ok 1000 rfl rfl ?_
          refine R_indexS hg.ok rfl rfl rfl rfl rfl (Int.natCast_nonneg p) (b := c) (by rw [Tx_get]; exact ec) ?_
          refine R_run hg.ok 1000 rfl rfl ?_
          refine R_if rfl rfl (fun h4 => ?_) (fun h4 => ?_) <;> refine R_run hg.ok 1000 rfl rfl ?_
          · refine R_dropO 0 [] (Nat.zero_le _) rfl rfl ?_
            exact R_next (k + 1) hk1 (by omega) ⟨.refl _, .refl _, Ent.wrap (by omega) (by omega) (by omega), trivial⟩ rfl
          have h4 : ¬ c.toNat = 39 := by simp at h4; omega
          refine R_if rfl rfl (fun h5 => ?_) (fun h5 => ?_) <;> refine R_run hg.ok 1000 rfl rfl ?_
          · refine R_dropO 0 [] (Nat.zero_le _) rfl rfl ?_
            exact R_next (k + 1) hk1 (by omega) ⟨.refl _, .refl _, Ent.wrap (by omega) (by omega) (by omega), trivial⟩ rfl
          have h5 : ¬ kind = 5 := by simpa using h5
          obtain ⟨q1, q2, q3⟩ := hcut c ec h4 h5
          rw [w64 (n := (p : Int) + ((Tx text).size : Int)) (by rw [Tx_size]; omega) (by rw [Tx_size]; omega)]
          refine R_if rfl rfl (fun h => absurd h (by simp [Tx_size]; omega)) (fun _ => ?_) <;> refine R_run hg.ok 1000 rfl rfl ?_
          rw [w64 (n := (p : Int) + ((Tx text).size : Int)) (by rw [Tx_size]; omega) (by rw [Tx_size]; omega), show (p : Int) + ((Tx text).size : Int) = ((p + text.length : Nat) : Int) by rw [Tx_size]; omega]
          refine R_sliceS hg.ok rfl rfl rfl (l := (p : Int)) (h := ((p + text.length : Nat) : Int)) rfl rfl rfl (Int.natCast_nonneg p) (by omega) (by rw [Tx_size]; omega) ?_
          rw [Tx_cut, show (L.drop ((p : Int)).toNat).take ((((p + text.length : Nat) : Int)).toNat - ((p : Int)).toNat) = cutB L p (p + text.length) from rfl, q2]
          refine R_run hg.ok 1000 rfl rfl ?_
          refine R_if rfl rfl (fun h => absurd h (by simp [strEq])) (fun _ => ?_) <;> refine R_run hg.ok 1000 rfl rfl ?_
          refine R_concat hg.ok (Tx (text ++ [32])) rfl rfl rfl rfl (by rw [Tx_size]; simp [ByteArray.size]; omega) (Tx_app text [32]) ?_
          refine R_run hg.ok 1000 rfl rfl ?_
          have cT := tokens_ok (text ++ [32]) (by simp; omega)
          by_cases hdot : text = [46]
          · refine R_call hg.ok (cT) rfl rfl rfl rfl rfl rfl ?_
            refine R_run hg.ok 1000 rfl rfl ?_
            have hse : strEq (Tx text) ⟨#[46]⟩ = true := by rw [show (⟨#[46]⟩ : ByteArray) = Tx [46] from rfl, Tx_eq, hdot]; rfl
            refine R_if rfl rfl (fun h => absurd h (by rw [hse]; simp)) (fun _ => ?_) <;> refine R_run hg.ok 1000 rfl rfl ?_
            refine R_dropO 0 [] (Nat.zero_le _) rfl rfl ?_
            exact R_next (k + 1) hk1 (by omega) ⟨.refl _, .refl _, Ent.wrap (by omega) (by omega) (by omega), trivial⟩ rfl
          · unfold tokR at cT
            rw [q3 hdot hL] at cT
            refine R_call hg.ok (cT) rfl rfl rfl rfl rfl rfl ?_
            refine R_run hg.ok 1000 rfl rfl ?_
            have hse : strEq (Tx text) ⟨#[46]⟩ = false := by rw [show (⟨#[46]⟩ : ByteArray) = Tx [46] from rfl, Tx_eq]; simpa using hdot
            refine R_if rfl rfl (fun _ => ?_) (fun h => absurd h (by rw [hse]; simp)) <;> refine R_run hg.ok 1000 rfl rfl ?_
            refine R_if rfl rfl (fun h => absurd h (by simp)) (fun _ => ?_) <;> refine R_run hg.ok 1000 rfl rfl ?_
            refine R_if rfl rfl (fun h => absurd h (by simp [tkRows])) (fun _ => ?_) <;> refine R_run hg.ok 1000 rfl rfl ?_
            refine R_index hg.ok rfl rfl rfl rfl rfl rfl (by decide) rfl rfl ?_
            refine R_run hg.ok 1000 rfl rfl ?_
            refine R_if rfl rfl (fun h => absurd h (by simp)) (fun _ => ?_) <;> refine R_run hg.ok 1000 rfl rfl ?_
            refine R_index hg.ok rfl rfl rfl rfl rfl rfl (by decide) rfl rfl ?_
            refine R_run hg.ok 1000 rfl rfl ?_
            refine R_if rfl rfl (fun h => absurd h (by simp)) (fun _ => ?_) <;> refine R_run hg.ok 1000 rfl rfl ?_
            refine R_index hg.ok rfl rfl rfl rfl rfl rfl (by decide) rfl rfl ?_
            refine R_run hg.ok 1000 rfl rfl ?_
            refine R_if rfl rfl (fun h => absurd h (by simp)) (fun _ => ?_) <;> refine R_run hg.ok 1000 rfl rfl ?_
            refine R_dropO 0 [] (Nat.zero_le _) rfl rfl ?_
            exact R_next (k + 1) hk1 (by omega) ⟨.refl _, .refl _, Ent.wrap (by omega) (by omega) (by omega), trivial⟩ rfl
        refine R_indexS hg.ok rfl rfl rfl rfl rfl (Int.natCast_nonneg p) (b := c) (by rw [Tx_get]; exact ec) ?_
        refine R_run hg.ok 1000 rfl rfl ?_
        refine R_if rfl rfl (fun h4 => ?_) (fun h4 => ?_) <;> refine R_run hg.ok 1000 rfl rfl ?_
        · refine R_dropO 0 [] (Nat.zero_le _) rfl rfl ?_
          exact R_next (k + 1) hk1 (by omega) ⟨.refl _, .refl _, Ent.wrap (by omega) (by omega) (by omega), trivial⟩ rfl
        have h4 : ¬ c.toNat = 39 := by simp at h4; omega
        refine R_if rfl rfl (fun h5 => ?_) (fun h5 => ?_) <;> refine R_run hg.ok 1000 rfl rfl ?_
        · refine R_dropO 0 [] (Nat.zero_le _) rfl rfl ?_
          exact R_next (k + 1) hk1 (by omega) ⟨.refl _, .refl _, Ent.wrap (by omega) (by omega) (by omega), trivial⟩ rfl
        have h5 : ¬ kind = 5 := by simpa using h5
        obtain ⟨q1, q2, q3⟩ := hcut c ec h4 h5
        rw [w64 (n := (p : Int) + ((Tx text).size : Int)) (by rw [Tx_size]; omega) (by rw [Tx_size]; omega)]
        refine R_if rfl rfl (fun h => absurd h (by simp [Tx_size]; omega)) (fun _ => ?_) <;> refine R_run hg.ok 1000 rfl rfl ?_
        rw [w64 (n := (p : Int) + ((Tx text).size : Int)) (by rw [Tx_size]; omega) (by rw [Tx_size]; omega), show (p : Int) + ((Tx text).size : Int) = ((p + text.length : Nat) : Int) by rw [Tx_size]; omega]
        refine R_sliceS hg.ok rfl rfl rfl (l := (p : Int)) (h := ((p + text.length : Nat) : Int)) rfl rfl rfl (Int.natCast_nonneg p) (by omega) (by rw [Tx_size]; omega) ?_
        rw [Tx_cut, show (L.drop ((p : Int)).toNat).take ((((p + text.length : Nat) : Int)).toNat - ((p : Int)).toNat) = cutB L p (p + text.length) from rfl, q2]
        refine R_run hg.ok 1000 rfl rfl ?_
        refine R_if rfl rfl (fun h => absurd h (by simp [strEq])) (fun _ => ?_) <;> refine R_run hg.ok 1000 rfl rfl ?_
        refine R_concat hg.ok (Tx (text ++ [32])) rfl rfl rfl rfl (by rw [Tx_size]; simp [ByteArray.size]; omega) (Tx_app text [32]) ?_
        refine R_run hg.ok 1000 rfl rfl ?_
        have cT := tokens_ok (text ++ [32]) (by simp; omega)
        by_cases hdot : text = [46]
        · refine R_call hg.ok (cT) rfl rfl rfl rfl rfl rfl ?_
          refine R_run hg.ok 1000 rfl rfl ?_
          have hse : strEq (Tx text) ⟨#[46]⟩ = true := by rw [show (⟨#[46]⟩ : ByteArray) = Tx [46] from rfl, Tx_eq, hdot]; rfl
          refine R_if rfl rfl (fun h => absurd h (by rw [hse]; simp)) (fun _ => ?_) <;> refine R_run hg.ok 1000 rfl rfl ?_
          refine R_dropO 0 [] (Nat.zero_le _) rfl rfl ?_
          exact R_next (k + 1) hk1 (by omega) ⟨.refl _, .refl _, Ent.wrap (by omega) (by omega) (by omega), trivial⟩ rfl
        · unfold tokR at cT
          rw [q3 hdot hL] at cT
          refine R_call hg.ok (cT) rfl rfl rfl rfl rfl rfl ?_
          refine R_run hg.ok 1000 rfl rfl ?_
          have hse : strEq (Tx text) ⟨#[46]⟩ = false := by rw [show (⟨#[46]⟩ : ByteArray) = Tx [46] from rfl, Tx_eq]; simpa using hdot
          refine R_if rfl rfl (fun _ => ?_) (fun h => absurd h (by rw [hse]; simp)) <;> refine R_run hg.ok 1000 rfl rfl ?_
          refine R_if rfl rfl (fun h => absurd h (by simp)) (fun _ => ?_) <;> refine R_run hg.ok 1000 rfl rfl ?_
          refine R_if rfl rfl (fun h => absurd h (by simp [tkRows])) (fun _ => ?_) <;> refine R_run hg.ok 1000 rfl rfl ?_
          refine R_index hg.ok rfl rfl rfl rfl rfl rfl (by decide) rfl rfl ?_
          refine R_run hg.ok 1000 rfl rfl ?_
          refine R_if rfl rfl (fun h => absurd h (by simp)) (fun _ => ?_) <;> refine R_run hg.ok 1000 rfl rfl ?_
          refine R_index hg.ok rfl rfl rfl rfl rfl rfl (by decide) rfl rfl ?_
          refine R_run hg.ok 1000 rfl rfl ?_
          refine R_if rfl rfl (fun h => absurd h (by simp)) (fun _ => ?_) <;> refine R_run hg.ok 1000 rfl rfl ?_
          refine R_index hg.ok rfl rfl rfl rfl rfl rfl (by decide) rfl rfl ?_
          refine R_run hg.ok 1000 rfl rfl ?_
          refine R_if rfl rfl (fun h => absurd h (by simp)) (fun _ => ?_) <;> refine R_run hg.ok 1000 rfl rfl ?_
          refine R_dropO 0 [] (Nat.zero_le _) rfl rfl ?_
          exact R_next (k + 1) hk1 (by omega) ⟨.refl _, .refl _, Ent.wrap (by omega) (by omega) (by omega), trivial⟩ rfl
    · refine R_call hg.ok (knows8_ok) rfl rfl rfl rfl rfl rfl ?_
      refine R_run hg.ok 1000 rfl rfl ?_
      refine R_ret hg 5 rfl rfl ?_
      rfl
end Go.Proofs.Ythfkhfbhbfpglaa
