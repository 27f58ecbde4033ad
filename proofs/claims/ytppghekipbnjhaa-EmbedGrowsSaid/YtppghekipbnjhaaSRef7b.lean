import Derived.Test.YtppghekipbnjhaaSRef7
namespace Go.Proofs.Ytppghekipbnjhaa
open Go PSL Go.Proofs

theorem w64n {k : Nat} (h : k ≤ 1000000) : IntKind.i64.wrap ((k : Nat) : Int) = k := w64 (by omega) (by omega)

set_option maxRecDepth 100000 in
theorem refIn_ok (a b : Tm) (fa : a.fairR = true) (fb : b.fairR = true) (sa : a.size ≤ 500) (sb : b.size ≤ 500) : PCtr Try.prog 29 [a.av, b.av] (bV (Tm.emb b a)) := by
  refine PCtr.of_R (pf := fun _ => .still) tyOk mixed Try.func29 rfl (by kernel_rfl) (by kernel_rfl) (by simp [Try.ntmps29]) fun w S hg => ?_
  refine R_run hg.ok 1000 rfl rfl ?_
  refine R_callV hg.ok hg.gup (refParts_ok a fa (by omega)) rfl rfl rfl rfl rfl rfl ?_
  refine R_run hg.ok 1000 rfl rfl ?_
  refine R_callV hg.ok hg.gup (refParts_ok b fb (by omega)) rfl rfl rfl rfl rfl rfl ?_
  refine R_run hg.ok 1000 rfl rfl ?_
  have gL := (Tm.prt_good a [] fa Tm.Good.nil)
  have gM := (Tm.prt_good b [] fb Tm.Good.nil)
  have lL := Tm.prt_len a []
  have lM := Tm.prt_len b []
  have pL := prt_pos a []
  have pM := prt_pos b []
  generalize Tm.prt a [] = L at gL lL pL ⊢
  generalize Tm.prt b [] = M at gM lM pM ⊢
  obtain ⟨gL, _, xa, eL⟩ := gL
  obtain ⟨gM, _, xb, eM⟩ := gM
  have last : embT L M (L.length - 1) (M.length - 1) = Tm.emb b a := embT_at eL eM
  obtain ⟨n, hn⟩ : ∃ n, n = L.length := ⟨_, rfl⟩
  obtain ⟨m, hm⟩ : ∃ m, m = M.length := ⟨_, rfl⟩
  simp only [List.length_nil, Nat.zero_add] at lL lM
  have hnm : n * m ≤ 500 * 500 := Nat.mul_le_mul (by omega) (by omega)
  rw [rpRows_len, rpRows_len, ← hn, ← hm, show (n : Int) * (m : Int) = ((n * m : Nat) : Int) from (Int.natCast_mul n m).symm, w64n (k := n * m) (by omega)]
  refine R_makeSlice hg.ok (flT n m fun _ _ => false) rfl rfl rfl rfl rfl rfl (Int.natCast_nonneg _) (by omega) (by omega) (flT_false n m) ?_
  refine R_run hg.ok 1000 rfl rfl ?_
  refine R_loop (fun x : Nat × (Nat → Nat → Bool) => ([(5, .d (.sl (rpRows L))), (6, .d (.sl (rpRows M))), (7, iV m), (8, .ow 2 0), (9, iV x.1)], [boxR a, boxR b, .arr 1 0 (flT n m x.2)])) (fun x => x.1 ≤ m ∧ ∀ i < n, ∀ j < x.1, x.2 i j = embT L M i j) (fun x => m - x.1) (0, fun _ _ => false) ⟨Nat.zero_le _, fun _ _ _ h => absurd h (Nat.not_lt_zero _)⟩ ⟨.refl _, .refl _, .refl _, .refl _, .refl _, trivial⟩ rfl ?_
  rintro ⟨k, c⟩ ⟨hk, hc⟩
  simp only at hk hc
  refine R_run hg.ok 1000 rfl rfl ?_
  refine R_if rfl rfl (fun h => ?_) (fun h => ?_) <;> refine R_run hg.ok 1000 rfl rfl ?_
  · have hk1 : k < m := lt_dec h (by rw [rpRows_len, hm])
    obtain ⟨y, ey⟩ : ∃ y, M[k]? = some y := ⟨_, List.getElem?_eq_getElem (by omega)⟩
    obtain ⟨fy, ly, _⟩ := gM k y.1 y.2 ey
    refine R_index hg.ok rfl rfl rfl rfl rfl rfl (Int.natCast_nonneg _) (rpRows_get ey) rfl ?_
    refine R_run hg.ok 1000 rfl rfl ?_
    refine R_loop (fun x : Nat × (Nat → Nat → Bool) => ([(5, .d (.sl (rpRows L))), (6, .d (.sl (rpRows M))), (7, iV m), (8, .ow 2 0), (9, iV k), (10, .lo 3 0), (11, iV x.1)], [boxR a, boxR b, .arr 1 0 (flT n m x.2), .box (rpA y)])) (fun x => x.1 ≤ n ∧ (∀ i < n, ∀ j < k, x.2 i j = embT L M i j) ∧ ∀ i < x.1, x.2 i k = embT L M i k) (fun x => n - x.1) (0, c) ⟨Nat.zero_le _, hc, fun _ h => absurd h (Nat.not_lt_zero _)⟩ ⟨.refl _, .refl _, .refl _, .refl _, .refl _, .refl _, .refl _, trivial⟩ rfl ?_
    rintro ⟨i, c1⟩ ⟨hi, hc1, hd1⟩
    simp only at hi hc1 hd1
    refine R_run hg.ok 1000 rfl rfl ?_
    refine R_if rfl rfl (fun h => ?_) (fun h => ?_) <;> refine R_run hg.ok 1000 rfl rfl ?_
    · have hi1 : i < n := lt_dec h (by rw [rpRows_len, hn])
      obtain ⟨x, ex⟩ : ∃ x, L[i]? = some x := ⟨_, List.getElem?_eq_getElem (by omega)⟩
      obtain ⟨fx, lx, _⟩ := gL i x.1 x.2 ex
      have ax := Tm.fair_arity fx
      have ay := Tm.fair_arity fy
      have hcc := coup_table gL gM hn.symm ex ey hc1
      have hdd := dive_table gM hn.symm ex ey hc1
      have ee : embT L M i k = (Tm.coup y.1 x.1 || Tm.embAny y.1.l x.1) := by rw [embT_at ex ey, Tm.emb_eq]
      rw [← hm] at hcc hdd
      have upd : ∀ v : Bool, v = (Tm.coup y.1 x.1 || Tm.embAny y.1.l x.1) → (∀ a < n, ∀ b < k, upd2 c1 i k v a b = embT L M a b) ∧ ∀ a < i + 1, upd2 c1 i k v a k = embT L M a k := fun v hv => by
        refine ⟨fun a ha b hb => ?_, fun a ha => ?_⟩
        · unfold upd2
          split
          · rename_i e; subst e; unfold upd1; rw [if_neg (by omega)]; exact hc1 a ha b hb
          · exact hc1 a ha b hb
        · unfold upd2
          split
          · rename_i e; subst e; unfold upd1; rw [if_pos rfl, hv, ee]
          · exact hd1 a (by omega)
      refine R_index hg.ok rfl rfl rfl rfl rfl rfl (Int.natCast_nonneg _) (rpRows_get ex) rfl ?_
      refine R_run hg.ok 2 rfl rfl ?_
      refine R_cut1 (fun ok : Bool => ([(5, .d (.sl (rpRows L))), (6, .d (.sl (rpRows M))), (7, iV m), (8, .ow 2 0), (9, iV k), (10, .lo 3 0), (11, iV i), (12, .lo 4 0), (13, bV ok)], [boxR a, boxR b, .arr 1 0 (flT n m c1), .box (rpA y), .box (rpA x)])) (fun ok => ok = headP y x) rfl ?_ ?_
      · refine R_run hg.ok 1000 rfl rfl ?_
        refine R_if rfl rfl (fun h1 => ?_) (fun h1 => ?_) <;> refine R_run hg.ok 1000 rfl rfl ?_
        · have h1 : x.1.k = y.1.k := by simpa using h1
          refine R_if rfl rfl (fun h2 => ?_) (fun h2 => ?_) <;> refine R_run hg.ok 1000 rfl rfl ?_
          · have h2 : ¬ x.1.k = 3 := by simpa using h2
            have hh : headP y x = true := by simp [headP, h1, h1 ▸ h2]
            exact R_to (headP y x) rfl ⟨.refl _, .refl _, .refl _, .refl _, .refl _, .refl _, .refl _, .refl _, by rw [hh]; exact .tt, trivial⟩ rfl
          · have h2 : x.1.k = 3 := by simpa using h2
            refine R_if rfl rfl (fun h3 => ?_) (fun h3 => ?_) <;> refine R_run hg.ok 1000 rfl rfl ?_
            · refine R_to (headP y x) rfl ⟨.refl _, .refl _, .refl _, .refl _, .refl _, .refl _, .refl _, .refl _, Ent.bool ?_, trivial⟩ rfl
              rw [headP, decide_eq_true h1, decide_eq_true h2, h3, irows_length, irows_length, natL_len, natL_len]
              simp
              rw [Bool.eq_iff_iff, beq_iff_eq, decide_eq_true_eq]; omega
            · have hh : headP y x = false := by
                have h3 : strEq x.1.s y.1.s = false := h3
                simp [headP, h2, h3]
              exact R_to (headP y x) rfl ⟨.refl _, .refl _, .refl _, .refl _, .refl _, .refl _, .refl _, .refl _, by rw [hh]; exact .ff, trivial⟩ rfl
        · have h1 : ¬ x.1.k = y.1.k := by simpa using h1
          have hh : headP y x = false := by simp [headP, h1]
          exact R_to (headP y x) rfl ⟨.refl _, .refl _, .refl _, .refl _, .refl _, .refl _, .refl _, .refl _, by rw [hh]; exact .ff, trivial⟩ rfl
      rintro ok hok
      refine R_run hg.ok 1000 rfl rfl ?_
      refine R_cut2 (fun _ : Unit => ([(5, .d (.sl (rpRows L))), (6, .d (.sl (rpRows M))), (7, iV m), (8, .ow 2 0), (9, iV k), (10, .lo 3 0), (11, iV i), (13, bV (Tm.coup y.1 x.1))], [boxR a, boxR b, .arr 1 0 (flT n m c1), .box (rpA y), .box (rpA x)])) (fun _ => True) rfl ?_ ?_
      · refine R_loop (fun z : Nat × Bool => ([(5, .d (.sl (rpRows L))), (6, .d (.sl (rpRows M))), (7, iV m), (8, .ow 2 0), (9, iV k), (10, .lo 3 0), (11, iV i), (12, .lo 4 0), (13, bV z.2), (14, iV z.1)], [boxR a, boxR b, .arr 1 0 (flT n m c1), .box (rpA y), .box (rpA x)])) (fun z => z.1 ≤ x.2.length ∧ (z.2 = true → headP y x = true ∧ ∀ j < z.1, ∀ (y' x' : Tm), y.1.l[j]? = some y' → x.1.l[j]? = some x' → Tm.emb y' x' = true) ∧ (z.2 = false → Tm.coup y.1 x.1 = false)) (fun z => x.2.length - z.1) (0, ok) ⟨Nat.zero_le _, fun h => ⟨by rw [← hok]; exact h, fun _ h => absurd h (Nat.not_lt_zero _)⟩, fun h => by
          cases hcp : Tm.coup y.1 x.1 with
          | false => rfl
          | true => rw [coup_head lx ly hcp] at hok; simp only at h; rw [hok] at h; cases h⟩ ⟨.refl _, .refl _, .refl _, .refl _, .refl _, .refl _, .refl _, .refl _, .refl _, .refl _, trivial⟩ rfl ?_
        rintro ⟨j, ok⟩ ⟨hj, ht, hf⟩
        simp only at hj ht hf
        refine R_run hg.ok 1000 rfl rfl ?_
        refine R_if rfl rfl (fun h1 => ?_) (fun h1 => ?_) <;> refine R_run hg.ok 1000 rfl rfl ?_
        · have hj1 : j < x.2.length := lt_dec h1 (by rw [irows_length, natL_len])
          refine R_if rfl rfl (fun h2 => ?_) (fun h2 => ?_) <;> refine R_run hg.ok 1000 rfl rfl ?_
          · have h2 : ok = true := h2
            obtain ⟨hh, hall⟩ := ht h2
            obtain ⟨g1, g2⟩ := (headP_iff lx ly).1 hh
            have h3 : y.1.k = 3 := Classical.byContradiction fun h3 => by
              have := Tm.fair_leaf fx (g1 ▸ h3); rw [lx, this] at hj1; simp at hj1
            obtain ⟨g3, g4⟩ := g2 h3
            obtain ⟨av, ea⟩ : ∃ a, x.2[j]? = some a := ⟨_, List.getElem?_eq_getElem hj1⟩
            obtain ⟨bv, eb⟩ : ∃ b, y.2[j]? = some b := ⟨_, List.getElem?_eq_getElem (by omega)⟩
            obtain ⟨x', ex'⟩ : ∃ a, x.1.l[j]? = some a := ⟨_, List.getElem?_eq_getElem (by omega)⟩
            obtain ⟨y', ey'⟩ : ∃ b, y.1.l[j]? = some b := ⟨_, List.getElem?_eq_getElem (by omega)⟩
            obtain ⟨q1, q2, q3⟩ := hcc j av bv x' y' ea eb ex' ey'
            have hlt := flT_lt q1 q2
            refine R_index hg.ok rfl rfl rfl rfl rfl rfl (Int.natCast_nonneg _) (irows_get (natL_get ea)) rfl ?_
            refine R_run hg.ok 1000 rfl rfl ?_
            refine R_index hg.ok rfl rfl rfl rfl rfl rfl (Int.natCast_nonneg _) (irows_get (natL_get eb)) rfl ?_
            refine R_run hg.ok 1000 rfl rfl ?_
            rw [show (av : Int) * (m : Int) = ((av * m : Nat) : Int) from (Int.natCast_mul av m).symm, w64n (k := av * m) (by omega), show ((av * m : Nat) : Int) + (bv : Int) = ((av * m + bv : Nat) : Int) from (Int.natCast_add _ _).symm, w64n (k := av * m + bv) (by omega)]
            refine R_indexO hg.ok rfl rfl rfl rfl rfl rfl rfl rfl rfl (Int.natCast_nonneg (av * m + bv)) (by rw [flT_len]; exact hlt) ?_
            refine R_run hg.ok 1000 rfl rfl ?_
            refine R_loadE hg.ok rfl rfl rfl rfl rfl rfl (flT_get q1 q2) rfl ?_
            refine R_run hg.ok 1000 rfl rfl ?_
            rw [q3]
            refine R_next (j + 1, Tm.emb y' x') ⟨hj1, fun h => ⟨hh, fun j' hj' y2 x2 hy2 hx2 => ?_⟩, fun h => ?_⟩ (by simp only; omega) ⟨.refl _, .refl _, .refl _, .refl _, .refl _, .refl _, .refl _, .refl _, .refl _, Ent.wrap (by simp only; omega) (by simp only; omega) (by simp only; omega), trivial⟩ rfl
            · by_cases e : j' = j
              · subst e; rw [ey'] at hy2; rw [ex'] at hx2; cases hy2; cases hx2; exact h
              · exact hall j' (by simp only at hj'; omega) y2 x2 hy2 hx2
            · cases hcp : Tm.coup y.1 x.1 with
              | false => rfl
              | true =>
                have := ((Tm.coup_iff.1 hcp).2 h3).2.2 j y' x' ey' ex'
                simp only at h; rw [this] at h; cases h
          · have h2 : ok = false := h2
            refine R_to () trivial ⟨.refl _, .refl _, .refl _, .refl _, .refl _, .refl _, .refl _, Ent.bool (by rw [hf h2]; exact h2), trivial⟩ rfl
        · have hj1 : x.2.length ≤ j := ge_dec h1 (by rw [irows_length, natL_len])
          refine R_to () trivial ⟨.refl _, .refl _, .refl _, .refl _, .refl _, .refl _, .refl _, Ent.bool ?_, trivial⟩ rfl
          cases ok with
          | false => exact (hf rfl).symm
          | true =>
            obtain ⟨hh, hall⟩ := ht rfl
            obtain ⟨g1, g2⟩ := (headP_iff lx ly).1 hh
            exact (Tm.coup_iff.2 ⟨g1, fun h3 => ⟨(g2 h3).1, (g2 h3).2, fun j' y2 x2 hy2 hx2 => hall j' (by have := (List.getElem?_eq_some_iff.1 hx2).1; omega) y2 x2 hy2 hx2⟩⟩).symm
      rintro _ _
      refine R_run hg.ok 1000 rfl rfl ?_
      refine R_loop (fun z : Nat × Bool => ([(5, .d (.sl (rpRows L))), (6, .d (.sl (rpRows M))), (7, iV m), (8, .ow 2 0), (9, iV k), (10, .lo 3 0), (11, iV i), (13, bV z.2), (15, iV z.1)], [boxR a, boxR b, .arr 1 0 (flT n m c1), .box (rpA y), .box (rpA x)])) (fun z => z.1 ≤ y.2.length ∧ z.2 = (Tm.coup y.1 x.1 || Tm.embAny (y.1.l.take z.1) x.1)) (fun z => y.2.length - z.1) (0, Tm.coup y.1 x.1) ⟨Nat.zero_le _, by simp [Tm.embAny]⟩ ⟨.refl _, .refl _, .refl _, .refl _, .refl _, .refl _, .refl _, .refl _, .refl _, trivial⟩ rfl ?_
      rintro ⟨j, ok⟩ ⟨hj, ht⟩
      simp only at hj ht
      refine R_run hg.ok 1000 rfl rfl ?_
      refine R_if rfl rfl (fun h1 => ?_) (fun h1 => ?_) <;> refine R_run hg.ok 1000 rfl rfl ?_
      · have hj1 : j < y.2.length := lt_dec h1 (by rw [irows_length, natL_len])
        obtain ⟨bv, eb⟩ : ∃ b, y.2[j]? = some b := ⟨_, List.getElem?_eq_getElem (by omega)⟩
        obtain ⟨y', ey'⟩ : ∃ b, y.1.l[j]? = some b := ⟨_, List.getElem?_eq_getElem (by omega)⟩
        obtain ⟨q2, q3⟩ := hdd j bv y' eb ey'
        have hlt := flT_lt hi1 q2
        have htk := embAny_take (x := x.1) ey'
        refine R_if rfl rfl (fun h2 => ?_) (fun h2 => ?_) <;> refine R_run hg.ok 1000 rfl rfl ?_
        · have h2 : ok = true := h2
          exact R_next (j + 1, true) ⟨hj1, by simp only; rw [htk, ← Bool.or_assoc, ← ht, h2]; rfl⟩ (by simp only; omega) ⟨.refl _, .refl _, .refl _, .refl _, .refl _, .refl _, .refl _, .tt, Ent.wrap (by simp only; omega) (by simp only; omega) (by simp only; omega), trivial⟩ rfl
        · have h2 : ok = false := h2
          refine R_index hg.ok rfl rfl rfl rfl rfl rfl (Int.natCast_nonneg _) (irows_get (natL_get eb)) rfl ?_
          refine R_run hg.ok 1000 rfl rfl ?_
          rw [show (i : Int) * (m : Int) = ((i * m : Nat) : Int) from (Int.natCast_mul i m).symm, w64n (k := i * m) (by omega), show ((i * m : Nat) : Int) + (bv : Int) = ((i * m + bv : Nat) : Int) from (Int.natCast_add _ _).symm, w64n (k := i * m + bv) (by omega)]
          refine R_indexO hg.ok rfl rfl rfl rfl rfl rfl rfl rfl rfl (Int.natCast_nonneg (i * m + bv)) (by rw [flT_len]; exact hlt) ?_
          refine R_run hg.ok 1000 rfl rfl ?_
          refine R_loadE hg.ok rfl rfl rfl rfl rfl rfl (flT_get hi1 q2) rfl ?_
          refine R_run hg.ok 1000 rfl rfl ?_
          rw [q3]
          exact R_next (j + 1, Tm.emb y' x.1) ⟨hj1, by simp only; rw [htk, ← Bool.or_assoc, ← ht, h2]; rfl⟩ (by simp only; omega) ⟨.refl _, .refl _, .refl _, .refl _, .refl _, .refl _, .refl _, .refl _, Ent.wrap (by simp only; omega) (by simp only; omega) (by simp only; omega), trivial⟩ rfl
      · have hj1 : y.2.length ≤ j := ge_dec h1 (by rw [irows_length, natL_len])
        rw [List.take_of_length_le (by omega)] at ht
        have hlt := flT_lt hi1 hk1
        rw [show (i : Int) * (m : Int) = ((i * m : Nat) : Int) from (Int.natCast_mul i m).symm, w64n (k := i * m) (by omega), show ((i * m : Nat) : Int) + (k : Int) = ((i * m + k : Nat) : Int) from (Int.natCast_add _ _).symm, w64n (k := i * m + k) (by omega)]
        refine R_indexO hg.ok rfl rfl rfl rfl rfl rfl rfl rfl rfl (Int.natCast_nonneg (i * m + k)) (by rw [flT_len]; exact hlt) ?_
        refine R_run hg.ok 1000 rfl rfl ?_
        refine R_storeEO hg.ok (flT n m (upd2 c1 i k ok)) rfl rfl rfl rfl rfl (flT_get hi1 hk1) rfl rfl rfl (by decide) (flT_set hi1 hk1) ?_
        refine R_run hg.ok 1000 rfl rfl ?_
        refine R_dropO 4 [boxR a, boxR b, .arr 1 0 (flT n m (upd2 c1 i k ok)), .box (rpA y)] (Nat.zero_le _) rfl rfl ?_
        obtain ⟨u1, u2⟩ := upd ok ht
        exact R_next (i + 1, upd2 c1 i k ok) ⟨hi1, u1, u2⟩ (by simp only; omega) ⟨.refl _, .refl _, .refl _, .refl _, .refl _, .refl _, Ent.wrap (by simp only; omega) (by simp only; omega) (by simp only; omega), trivial⟩ rfl
    · have hi1 : n ≤ i := ge_dec h (by rw [rpRows_len, hn])
      refine R_dropO 3 [boxR a, boxR b, .arr 1 0 (flT n m c1)] (Nat.zero_le _) rfl rfl ?_
      refine R_next (k + 1, c1) ⟨hk1, fun a ha b hb => ?_⟩ (by simp only; omega) ⟨.refl _, .refl _, .refl _, .refl _, Ent.wrap (by simp only; omega) (by simp only; omega) (by simp only; omega), trivial⟩ rfl
      by_cases e : b = k
      · subst e; exact hd1 a (by omega)
      · exact hc1 a ha b (by simp only at hb; omega)
  · have hk1 : m ≤ k := ge_dec h (by rw [rpRows_len, hm])
    have hlt := flT_lt (n := n) (m := m) (i := n - 1) (j := m - 1) (by omega) (by omega)
    have hnm1 : n * m - 1 = (n - 1) * m + (m - 1) := by
      have e : n * m = (n - 1) * m + m := by rw [← Nat.succ_mul]; congr 1; omega
      omega
    rw [rpRows_len, ← hn, show (n : Int) * (m : Int) = ((n * m : Nat) : Int) from (Int.natCast_mul n m).symm, w64n (k := n * m) (by omega), w64 (n := ((n * m : Nat) : Int) - 1) (by omega) (by omega), show ((n * m : Nat) : Int) - 1 = (((n - 1) * m + (m - 1) : Nat) : Int) by omega]
    refine R_indexO hg.ok rfl rfl rfl rfl rfl rfl rfl rfl rfl (Int.natCast_nonneg ((n - 1) * m + (m - 1))) (by rw [flT_len]; exact hlt) ?_
    refine R_run hg.ok 1000 rfl rfl ?_
    refine R_loadE hg.ok rfl rfl rfl rfl rfl rfl (flT_get (i := n - 1) (j := m - 1) (by omega) (by omega)) rfl ?_
    refine R_run hg.ok 1000 rfl rfl ?_
    refine R_ret hg 5 rfl rfl ?_
    show bV (c (n - 1) (m - 1)) = _
    rw [hc (n - 1) (by omega) (m - 1) (by omega), hn, hm, last]
end Go.Proofs.Ytppghekipbnjhaa
