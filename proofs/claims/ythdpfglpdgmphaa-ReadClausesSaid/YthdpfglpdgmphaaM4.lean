import Derived.Test.YthdpfglpdgmphaaM3
namespace Go.Proofs.Ythdpfglpdgmphaa
open Go PSL Go.Proofs
theorem refO_beg (S0 : Bs) (L : List Tk) (st : RSt) : refO S0 L (begS L st) = refO S0 L st := by unfold begS; split <;> rfl

theorem infZ_none {s : Bs} : (infT s).isNone = decide ((infZ s).1 = 0) := by
  unfold infZ
  cases h : infT s with
  | none => rfl
  | some z => have := infT_pos h; simp; omega
def pfNm9 : Nat → Cls := fun f => bif Nat.beq f 26 then .turn 3 else bif Nat.beq f 4000100163 then .look 4 else .eff

set_option maxRecDepth 100000 in
theorem eName (Y : YP) (S0 : Bs) (L : List Tk) (hL : L.length ≤ 9000) (hS : S0.length ≤ 9000) {T : TF} (hT : ECtr Y S0 L T) (hG : TGood L T) (deep : Nat) (hd : deep + 1 ≤ 1000) (st : RSt) (hi : RInv L st) (he : st.e = 0) (hl : st.at_ < L.length) (hpl : ∀ t ∈ L, 0 ≤ t.at_ ∧ t.at_ < S0.length ∧ 0 ≤ t.n ∧ t.n ≤ 9223372036854775807) (p : Int) (t : Tk) (ht : t ∈ L) (x : Tm × Int × RSt) (h : namedR S0 L T (deep + 1) p t st = some x) :
    SCtr Try.prog Y 53 [.lo 0 0, tkA t, iV p, iV deep] (refO S0 L st) (.tup [x.1.av, iV x.2.1]) (refO S0 L x.2.2) := by
  refine SCtr.of_R (pf := pfNm9) tyOk mixed Try.func53 rfl (by kernel_rfl) (by kernel_rfl) (by simp [Try.ntmps53]) (by simp [refO]) fun w S φ hg => ?_
  have hφ : φ.length = 1 := hg.hs0.len
  have hn := hi.nx hl
  have ht1 := hpl t ht
  obtain ⟨M, hM⟩ : ∃ M, M = ((t.text == [45]) && decide (S0[t.at_.toNat]? = some 45)) := ⟨_, rfl⟩
  first
  | (refine R_run hg.ok 1 rfl rfl ?_; refine R_refAt (st := st) (st.at_ + 1) (rfl) (by omega) rfl ?_)
  | (refine R_run hg.ok 2 rfl rfl ?_; refine R_refAt (st := st) (st.at_ + 1) (rfl) (by omega) rfl ?_)
  | (refine R_run hg.ok 3 rfl rfl ?_; refine R_refAt (st := st) (st.at_ + 1) (rfl) (by omega) rfl ?_)
  | (refine R_run hg.ok 4 rfl rfl ?_; refine R_refAt (st := st) (st.at_ + 1) (rfl) (by omega) rfl ?_)
  | (refine R_run hg.ok 5 rfl rfl ?_; refine R_refAt (st := st) (st.at_ + 1) (rfl) (by omega) rfl ?_)
  | (refine R_run hg.ok 6 rfl rfl ?_; refine R_refAt (st := st) (st.at_ + 1) (rfl) (by omega) rfl ?_)
  | (refine R_run hg.ok 7 rfl rfl ?_; refine R_refAt (st := st) (st.at_ + 1) (rfl) (by omega) rfl ?_)
  | (refine R_run hg.ok 8 rfl rfl ?_; refine R_refAt (st := st) (st.at_ + 1) (rfl) (by omega) rfl ?_)
  refine R_run hg.ok 1000 rfl rfl ?_
  unfold namedR at h
  have hpk := peek_lt (L := L) (st := nxR st)
  have hum : (peekR L (nxR st)).kind ≠ 0 → peekR L (nxR st) ∈ L := fun h => by
    have := hpk h
    unfold peekR
    rw [if_neg (by simpa using this.1), List.getElem?_eq_getElem this.2]
    exact List.getElem_mem _
  have hpe : peekR L (nxR st) = (L[st.at_ + 1]?).getD zeroTk := by unfold peekR; rw [if_neg (by simpa [nxR] using he)]; rfl
  have hbg : begR L (nxR st) = (decide ((peekR L (nxR st)).kind = 3) || decide ((peekR L (nxR st)).kind = 2) || (decide ((peekR L (nxR st)).kind = 4) && ((peekR L (nxR st)).text == [40] || (peekR L (nxR st)).text == [91])) || (decide ((peekR L (nxR st)).kind = 1) && decide ((infZ (peekR L (nxR st)).text).1 = 0))) := by unfold begR; simp only [infZ_none]
  rw [show minR S0 t (peekR L (nxR st)) = (M && decide ((peekR L (nxR st)).kind = 3) && decide ((peekR L (nxR st)).at_ = t.at_ + 1)) by rw [hM]; rfl] at h
  obtain ⟨u, hu⟩ : ∃ u, u = peekR L (nxR st) := ⟨_, rfl⟩
  rw [← hu] at h hpk hum hpe hbg
  refine R_cut1 (fun _ : Unit => ([(0, .lo 0 0), (2, iV p), (3, iV deep), (5, .lo 1 0), (8, .lo 2 0), (11, .lo 3 0)], refO S0 L (nxR st) ++ [tkO t, boxZ, tkO u])) (fun _ => True) rfl ?_ ?_
  · by_cases hl2 : st.at_ + 1 < L.length
    · have e1 : L[st.at_ + 1]? = some L[st.at_ + 1] := List.getElem?_eq_getElem hl2
      rw [e1] at hpe
      have hpe : L[st.at_ + 1] = u := hpe.symm
      rw [hpe] at e1
      refine R_if rfl rfl (fun _ => ?_) (fun h => absurd h (by simp [tkRows_len]; omega)) <;> refine R_run hg.ok 1000 rfl rfl ?_
      refine R_index hg.ok rfl rfl rfl rfl rfl rfl (Int.natCast_nonneg _) (tkRows_get e1) rfl ?_
      refine R_run hg.ok 1000 rfl rfl ?_
      exact R_to () trivial ⟨.refl _, .refl _, .refl _, .refl _, .refl _, .refl _, trivial⟩ rfl
    · rw [List.getElem?_eq_none (by omega)] at hpe
      have hpe : u = zeroTk := hpe
      refine R_if rfl rfl (fun h => absurd h (by simp [tkRows_len]; omega)) (fun _ => ?_) <;> refine R_run hg.ok 1000 rfl rfl ?_
      rw [hpe]
      exact R_to () trivial ⟨.refl _, .refl _, .refl _, .refl _, .refl _, .refl _, trivial⟩ rfl
  rintro _ _
  refine R_run hg.ok 1000 rfl rfl ?_
  obtain ⟨mr, hmr⟩ : ∃ mr, mr = (M && decide (u.kind = 3) && decide (u.at_ = t.at_ + 1)) := ⟨_, rfl⟩
  have hw : IntKind.i64.wrap (t.at_ + 1) = t.at_ + 1 := wrap_id (by omega) (by omega)
  have e45 : strEq (Tx t.text) ⟨#[45]⟩ = (t.text == [45]) := Tx_eq _ _
  refine R_cut1 (fun _ : Unit => ([(0, .lo 0 0), (2, iV p), (3, iV deep), (5, .lo 1 0), (8, .lo 2 0), (11, .lo 3 0), (71, bV mr)], refO S0 L (nxR st) ++ [tkO t, boxZ, tkO u])) (fun _ => True) rfl ?_ ?_
  · by_cases h45 : t.text = [45]
    · refine R_if rfl rfl (fun _ => ?_) (fun h => absurd h (by rw [e45, h45]; simp)) <;> refine R_run hg.ok 1000 rfl rfl ?_
      have hlt : t.at_.toNat < S0.length := by omega
      have e1 : S0[t.at_.toNat]? = some S0[t.at_.toNat] := List.getElem?_eq_getElem hlt
      generalize S0[t.at_.toNat] = c at e1
      rw [e1] at hM
      refine R_indexS hg.ok rfl rfl rfl rfl rfl ht1.1 (b := c) (by rw [Tx_get]; exact e1) ?_
      have hc : decide ((c.toNat : Int) = 45) = M := by
        rw [hM, h45]
        by_cases hc : c = 45
        · subst hc; rfl
        · have : ¬ (c.toNat : Int) = 45 := fun h => hc (UInt8.toNat_inj.1 (Int.ofNat_inj.1 (show ((c.toNat : Nat) : Int) = (((45 : UInt8).toNat : Nat) : Int) from h)))
          simp [hc, this]
      refine R_run hg.ok 1000 rfl rfl ?_
      cases M with
      | false =>
        have hmr : mr = false := by rw [hmr]; rfl
        subst hmr
        refine R_if rfl rfl (fun h => absurd (h.symm.trans hc) (by simp)) (fun _ => ?_) <;> refine R_run hg.ok 1000 rfl rfl ?_
        exact R_to () trivial ⟨.refl _, .refl _, .refl _, .refl _, .refl _, .refl _, by first | exact .refl _ | exact Ent.ff | exact Ent.tt, trivial⟩ rfl
      | true =>
        refine R_if rfl rfl (fun _ => ?_) (fun h => absurd (h.symm.trans hc) (by simp)) <;> refine R_run hg.ok 1000 rfl rfl ?_
        by_cases h3 : u.kind = 3
        · refine R_if rfl rfl (fun _ => ?_) (fun h => absurd h (by simp [h3])) <;> refine R_run hg.ok 1000 rfl rfl ?_
          have hmr : decide (u.at_ = IntKind.i64.wrap (t.at_ + 1)) = mr := by rw [hmr, hw]; simp [h3]
          exact R_to () trivial ⟨.refl _, .refl _, .refl _, .refl _, .refl _, .refl _, by rw [← hmr]; exact .refl _, trivial⟩ rfl
        · refine R_if rfl rfl (fun h => absurd h (by simp [h3])) (fun _ => ?_) <;> refine R_run hg.ok 1000 rfl rfl ?_
          have hmr : mr = false := by rw [hmr]; simp [h3]
          subst hmr
          exact R_to () trivial ⟨.refl _, .refl _, .refl _, .refl _, .refl _, .refl _, by first | exact .refl _ | exact Ent.ff | exact Ent.tt, trivial⟩ rfl
    · refine R_if rfl rfl (fun h => absurd h (by rw [e45]; simpa using h45)) (fun _ => ?_) <;> refine R_run hg.ok 1000 rfl rfl ?_
      have hM : M = false := by rw [hM]; simp [h45]
      have hmr : mr = false := by rw [hmr, hM]; rfl
      subst hmr
      first
      | exact R_to () trivial ⟨.refl _, .refl _, .refl _, .refl _, .refl _, .refl _, by first | exact .refl _ | exact Ent.ff | exact Ent.tt, trivial⟩ rfl
      | (refine R_if rfl rfl (fun h => absurd h (by simp)) (fun _ => ?_); refine R_run hg.ok 1000 rfl rfl ?_; exact R_to () trivial ⟨.refl _, .refl _, .refl _, .refl _, .refl _, .refl _, by first | exact .refl _ | exact Ent.ff | exact Ent.tt, trivial⟩ rfl)
  rintro _ _
  rw [← hmr] at h
  refine R_run hg.ok 1000 rfl rfl ?_
  cases mr with
  | true =>
    have hk3 : u.kind = 3 := by
      have := hmr.symm
      simp only [Bool.and_eq_true, decide_eq_true_eq] at this
      exact this.1.2
    have hul := (hpk (by rw [hk3]; decide)).2
    have hu1 := hpl u (hum (by rw [hk3]; decide))
    simp only [if_true, Option.some.injEq] at h
    subst h
    simp only
    refine R_if rfl rfl (fun _ => ?_) (fun h => absurd h (by simp))
    first
    | (refine R_run hg.ok 1 rfl rfl ?_; refine R_refAt (st := nxR st) (st.at_ + 1 + 1) (rfl) (by omega) rfl ?_)
    | (refine R_run hg.ok 2 rfl rfl ?_; refine R_refAt (st := nxR st) (st.at_ + 1 + 1) (rfl) (by omega) rfl ?_)
    | (refine R_run hg.ok 3 rfl rfl ?_; refine R_refAt (st := nxR st) (st.at_ + 1 + 1) (rfl) (by omega) rfl ?_)
    | (refine R_run hg.ok 4 rfl rfl ?_; refine R_refAt (st := nxR st) (st.at_ + 1 + 1) (rfl) (by omega) rfl ?_)
    | (refine R_run hg.ok 5 rfl rfl ?_; refine R_refAt (st := nxR st) (st.at_ + 1 + 1) (rfl) (by omega) rfl ?_)
    | (refine R_run hg.ok 6 rfl rfl ?_; refine R_refAt (st := nxR st) (st.at_ + 1 + 1) (rfl) (by omega) rfl ?_)
    | (refine R_run hg.ok 7 rfl rfl ?_; refine R_refAt (st := nxR st) (st.at_ + 1 + 1) (rfl) (by omega) rfl ?_)
    | (refine R_run hg.ok 8 rfl rfl ?_; refine R_refAt (st := nxR st) (st.at_ + 1 + 1) (rfl) (by omega) rfl ?_)
    first
    | (refine R_run hg.ok 1 rfl rfl ?_; refine R_obs (refO S0 L (nxR (nxR st)) ++ [tkO t, .box [.d (.v (.int .i64 2)), .d (.v (.string ByteArray.empty)), iV (-u.n), .d (.v (.slice none 0 0))], tkO u]) ⟨.refl _, .refl _, ⟨.refl _, .refl _, Ent.wrap (by omega) (by omega) (by omega), .refl _, trivial⟩, .refl _, trivial⟩ rfl ?_)
    | (refine R_run hg.ok 2 rfl rfl ?_; refine R_obs (refO S0 L (nxR (nxR st)) ++ [tkO t, .box [.d (.v (.int .i64 2)), .d (.v (.string ByteArray.empty)), iV (-u.n), .d (.v (.slice none 0 0))], tkO u]) ⟨.refl _, .refl _, ⟨.refl _, .refl _, Ent.wrap (by omega) (by omega) (by omega), .refl _, trivial⟩, .refl _, trivial⟩ rfl ?_)
    | (refine R_run hg.ok 3 rfl rfl ?_; refine R_obs (refO S0 L (nxR (nxR st)) ++ [tkO t, .box [.d (.v (.int .i64 2)), .d (.v (.string ByteArray.empty)), iV (-u.n), .d (.v (.slice none 0 0))], tkO u]) ⟨.refl _, .refl _, ⟨.refl _, .refl _, Ent.wrap (by omega) (by omega) (by omega), .refl _, trivial⟩, .refl _, trivial⟩ rfl ?_)
    | (refine R_run hg.ok 4 rfl rfl ?_; refine R_obs (refO S0 L (nxR (nxR st)) ++ [tkO t, .box [.d (.v (.int .i64 2)), .d (.v (.string ByteArray.empty)), iV (-u.n), .d (.v (.slice none 0 0))], tkO u]) ⟨.refl _, .refl _, ⟨.refl _, .refl _, Ent.wrap (by omega) (by omega) (by omega), .refl _, trivial⟩, .refl _, trivial⟩ rfl ?_)
    | (refine R_run hg.ok 5 rfl rfl ?_; refine R_obs (refO S0 L (nxR (nxR st)) ++ [tkO t, .box [.d (.v (.int .i64 2)), .d (.v (.string ByteArray.empty)), iV (-u.n), .d (.v (.slice none 0 0))], tkO u]) ⟨.refl _, .refl _, ⟨.refl _, .refl _, Ent.wrap (by omega) (by omega) (by omega), .refl _, trivial⟩, .refl _, trivial⟩ rfl ?_)
    refine R_run hg.ok 1000 rfl rfl ?_
    exact R_retS hg 1 5 (Nat.le_refl _) rfl rfl rfl
  | false =>
    simp only [Bool.false_eq_true, if_false] at h
    refine R_if rfl rfl (fun h => absurd h (by simp)) (fun _ => ?_) <;> refine R_run hg.ok 1000 rfl rfl ?_
    by_cases ho : t.opn = true
    · rw [if_pos ho] at h
      obtain ⟨⟨l, st1⟩, h1, h⟩ := Option.map_eq_some_iff.1 h
      subst h
      simp only
      refine R_if rfl rfl (fun _ => ?_) (fun h => absurd h (by simp [ho])) <;> refine R_run hg.ok 1000 rfl rfl ?_
      refine R_callSO hg.ok hg.gup hg.wide hg.Y [0] (refO S0 L (mustR L S0.length (nxR st) [40]) ++ [tkO t, boxZ, tkO u]) (eNeed Y S0 L hL (nxR st) [40]) (fun _ => rfl) rfl rfl rfl rfl rfl rfl rfl rfl ?_
      refine R_run hg.ok 1000 rfl rfl ?_
      refine R_callSO hg.ok hg.gup hg.wide hg.Y [0] (refO S0 L st1 ++ [tkO t, boxZ, tkO u]) (eRow Y S0 L hL hT hG deep hd _ hn.must l st1 h1) (fun _ => rfl) rfl rfl rfl rfl rfl rfl rfl rfl ?_
      refine R_run hg.ok 1000 rfl rfl ?_
      refine R_callSO hg.ok hg.gup hg.wide hg.Y [0] (refO S0 L (mustR L S0.length st1 [41]) ++ [tkO t, boxZ, tkO u]) (eNeed Y S0 L hL st1 [41]) (fun _ => rfl) rfl rfl rfl rfl rfl rfl rfl rfl ?_
      refine R_run hg.ok 1000 rfl rfl ?_
      exact R_retS hg 1 5 (Nat.le_refl _) rfl rfl rfl
    rw [if_neg ho] at h
    refine R_if rfl rfl (fun h => absurd h (by simp [ho])) (fun _ => ?_) <;> refine R_run hg.ok 1000 rfl rfl ?_
    have e92 : strEq (Tx t.text) ⟨#[92, 43]⟩ = (t.text == [92, 43]) := Tx_eq _ _
    refine R_cut1 (fun _ : Unit => ([(0, .lo 0 0), (2, iV p), (3, iV deep), (5, .lo 1 0), (8, .lo 2 0), (11, .lo 3 0), (13, iV (if t.text = [45] then 200 else 0))], refO S0 L (nxR st) ++ [tkO t, boxZ, tkO u])) (fun _ => True) rfl ?_ ?_
    · by_cases h45 : t.text = [45]
      · refine R_if rfl rfl (fun _ => ?_) (fun h => absurd h (by rw [e45, h45]; simp)) <;> refine R_run hg.ok 1000 rfl rfl ?_
        rw [if_pos h45]
        exact R_to () trivial ⟨.refl _, .refl _, .refl _, .refl _, .refl _, .refl _, .refl _, trivial⟩ rfl
      · refine R_if rfl rfl (fun h => absurd h (by rw [e45]; simpa using h45)) (fun _ => ?_) <;> refine R_run hg.ok 1000 rfl rfl ?_
        rw [if_neg h45]
        exact R_to () trivial ⟨.refl _, .refl _, .refl _, .refl _, .refl _, .refl _, .refl _, trivial⟩ rfl
    rintro _ _
    refine R_run hg.ok 1000 rfl rfl ?_
    refine R_cut1 (fun _ : Unit => ([(0, .lo 0 0), (2, iV p), (3, iV deep), (5, .lo 1 0), (8, .lo 2 0), (11, .lo 3 0), (13, iV (preT t.text))], refO S0 L (nxR st) ++ [tkO t, boxZ, tkO u])) (fun _ => True) rfl ?_ ?_
    · by_cases h92 : t.text = [92, 43]
      · refine R_if rfl rfl (fun _ => ?_) (fun h => absurd h (by rw [e92, h92]; simp)) <;> refine R_run hg.ok 1000 rfl rfl ?_
        rw [show preT t.text = 900 by unfold preT; rw [if_pos h92]]
        exact R_to () trivial ⟨.refl _, .refl _, .refl _, .refl _, .refl _, .refl _, .refl _, trivial⟩ rfl
      · refine R_if rfl rfl (fun h => absurd h (by rw [e92]; simpa using h92)) (fun _ => ?_) <;> refine R_run hg.ok 1000 rfl rfl ?_
        rw [show preT t.text = (if t.text = [45] then 200 else 0) by unfold preT; rw [if_neg h92]]
        exact R_to () trivial ⟨.refl _, .refl _, .refl _, .refl _, .refl _, .refl _, .refl _, trivial⟩ rfl
    rintro _ _
    refine R_run hg.ok 1000 rfl rfl ?_
    refine R_call hg.ok (infR_ok u.text) rfl rfl rfl rfl rfl rfl ?_
    refine R_run hg.ok 1000 rfl rfl ?_
    obtain ⟨bg, hbg2⟩ : ∃ bg, bg = begR L (nxR st) := ⟨_, rfl⟩
    rw [← hbg2] at h hbg
    have e40 : strEq (Tx u.text) ⟨#[40]⟩ = (u.text == [40]) := Tx_eq _ _
    have e91 : strEq (Tx u.text) ⟨#[91]⟩ = (u.text == [91]) := Tx_eq _ _
    refine R_cut1 (fun _ : Unit => ([(0, .lo 0 0), (2, iV p), (3, iV deep), (5, .lo 1 0), (8, .lo 2 0), (11, .lo 3 0), (13, iV (preT t.text)), (17, bV bg)], refO S0 L (nxR st) ++ [tkO t, boxZ, tkO u])) (fun _ => True) rfl ?_ ?_
    · by_cases h2 : u.kind = 2
      · have hb : bg = true := by rw [hbg]; simp [h2]
        subst hb
        repeat
          first
          | (refine R_if rfl rfl (fun _ => ?_) (fun h => absurd h (by first | (simp [h2]; done) | (simp [h2]; omega))); refine R_run hg.ok 1000 rfl rfl ?_)
          | (refine R_if rfl rfl (fun h => absurd h (by first | (simp [h2]; done) | (simp [h2]; omega))) (fun _ => ?_); refine R_run hg.ok 1000 rfl rfl ?_)
        exact R_to () trivial ⟨.refl _, .refl _, .refl _, .refl _, .refl _, .refl _, .refl _, by first | exact .refl _ | exact Ent.ff | exact Ent.tt, trivial⟩ rfl
      by_cases h3 : u.kind = 3
      · have hb : bg = true := by rw [hbg]; simp [h3]
        subst hb
        repeat
          first
          | (refine R_if rfl rfl (fun _ => ?_) (fun h => absurd h (by first | (simp [h3]; done) | (simp [h3]; omega))); refine R_run hg.ok 1000 rfl rfl ?_)
          | (refine R_if rfl rfl (fun h => absurd h (by first | (simp [h3]; done) | (simp [h3]; omega))) (fun _ => ?_); refine R_run hg.ok 1000 rfl rfl ?_)
        exact R_to () trivial ⟨.refl _, .refl _, .refl _, .refl _, .refl _, .refl _, .refl _, by first | exact .refl _ | exact Ent.ff | exact Ent.tt, trivial⟩ rfl
      by_cases h1 : u.kind = 1
      · have hb : bg = decide ((infZ u.text).1 = 0) := by rw [hbg]; simp [h1]
        repeat
          first
          | (refine R_if rfl rfl (fun _ => ?_) (fun h => absurd h (by first | (simp [h1]; done) | (simp [h1]; omega))); refine R_run hg.ok 1000 rfl rfl ?_)
          | (refine R_if rfl rfl (fun h => absurd h (by first | (simp [h1]; done) | (simp [h1]; omega))) (fun _ => ?_); refine R_run hg.ok 1000 rfl rfl ?_)
        by_cases hz : (infZ u.text).1 = 0
        · have hb : bg = true := by rw [hb]; simp [hz]
          subst hb
          repeat
            first
            | (refine R_if rfl rfl (fun _ => ?_) (fun h => absurd h (by first | (simp [h1, hz]; done) | (simp [h1, hz]; omega))); refine R_run hg.ok 1000 rfl rfl ?_)
            | (refine R_if rfl rfl (fun h => absurd h (by first | (simp [h1, hz]; done) | (simp [h1, hz]; omega))) (fun _ => ?_); refine R_run hg.ok 1000 rfl rfl ?_)
          exact R_to () trivial ⟨.refl _, .refl _, .refl _, .refl _, .refl _, .refl _, .refl _, by first | exact .refl _ | exact Ent.ff | exact Ent.tt, trivial⟩ rfl
        · have hb : bg = false := by rw [hb]; simp [hz]
          subst hb
          repeat
            first
            | (refine R_if rfl rfl (fun _ => ?_) (fun h => absurd h (by first | (simp [h1, hz]; done) | (simp [h1, hz]; omega))); refine R_run hg.ok 1000 rfl rfl ?_)
            | (refine R_if rfl rfl (fun h => absurd h (by first | (simp [h1, hz]; done) | (simp [h1, hz]; omega))) (fun _ => ?_); refine R_run hg.ok 1000 rfl rfl ?_)
          exact R_to () trivial ⟨.refl _, .refl _, .refl _, .refl _, .refl _, .refl _, .refl _, by first | exact .refl _ | exact Ent.ff | exact Ent.tt, trivial⟩ rfl
      by_cases h4 : u.kind = 4
      · have hb : bg = (u.text == [40] || u.text == [91]) := by rw [hbg]; simp [h4]
        repeat
          first
          | (refine R_if rfl rfl (fun _ => ?_) (fun h => absurd h (by first | (simp [h4]; done) | (simp [h4]; omega))); refine R_run hg.ok 1000 rfl rfl ?_)
          | (refine R_if rfl rfl (fun h => absurd h (by first | (simp [h4]; done) | (simp [h4]; omega))) (fun _ => ?_); refine R_run hg.ok 1000 rfl rfl ?_)
        by_cases h40 : u.text = [40]
        · have hb : bg = true := by rw [hb]; simp [h40]
          subst hb
          refine R_if rfl rfl (fun _ => ?_) (fun h => absurd h (by rw [e40, h40]; simp)) <;> refine R_run hg.ok 1000 rfl rfl ?_
          exact R_to () trivial ⟨.refl _, .refl _, .refl _, .refl _, .refl _, .refl _, .refl _, by first | exact .refl _ | exact Ent.ff | exact Ent.tt, trivial⟩ rfl
        · have hb : bg = strEq (Tx u.text) ⟨#[91]⟩ := by rw [hb, e91]; simp [h40]
          refine R_if rfl rfl (fun h => absurd h (by rw [e40]; simpa using h40)) (fun _ => ?_) <;> refine R_run hg.ok 1000 rfl rfl ?_
          rw [hb]
          exact R_to () trivial ⟨.refl _, .refl _, .refl _, .refl _, .refl _, .refl _, .refl _, by first | exact .refl _ | exact Ent.ff | exact Ent.tt, trivial⟩ rfl
      · have hb : bg = false := by rw [hbg]; simp [h1, h2, h3, h4]
        subst hb
        repeat
          first
          | (refine R_if rfl rfl (fun _ => ?_) (fun h => absurd h (by first | (simp [h1, h2, h3, h4]; done) | (simp [h1, h2, h3, h4]; omega))); refine R_run hg.ok 1000 rfl rfl ?_)
          | (refine R_if rfl rfl (fun h => absurd h (by first | (simp [h1, h2, h3, h4]; done) | (simp [h1, h2, h3, h4]; omega))) (fun _ => ?_); refine R_run hg.ok 1000 rfl rfl ?_)
        exact R_to () trivial ⟨.refl _, .refl _, .refl _, .refl _, .refl _, .refl _, .refl _, by first | exact .refl _ | exact Ent.ff | exact Ent.tt, trivial⟩ rfl
    rintro _ _
    refine R_run hg.ok 1000 rfl rfl ?_
    by_cases hp : 0 < preT t.text
    · rw [if_pos hp] at h
      refine R_if rfl rfl (fun h => absurd h (by simp; omega)) (fun _ => ?_) <;> refine R_run hg.ok 1000 rfl rfl ?_
      cases bg with
      | true =>
        simp only [if_true] at h
        refine R_if rfl rfl (fun h => absurd h (by simp)) (fun _ => ?_) <;> refine R_run hg.ok 1000 rfl rfl ?_
        by_cases hq : preT t.text > p
        · rw [if_pos hq] at h
          cases h
          refine R_if rfl rfl (fun _ => ?_) (fun h => absurd h (by simp [hq]))
          first
          | (refine R_run hg.ok 1 rfl rfl ?_; refine R_refAt (st := nxR st) (st.at_) (by simp only [nxR]; omega) (by omega) rfl ?_)
          | (refine R_run hg.ok 2 rfl rfl ?_; refine R_refAt (st := nxR st) (st.at_) (by simp only [nxR]; omega) (by omega) rfl ?_)
          | (refine R_run hg.ok 3 rfl rfl ?_; refine R_refAt (st := nxR st) (st.at_) (by simp only [nxR]; omega) (by omega) rfl ?_)
          | (refine R_run hg.ok 4 rfl rfl ?_; refine R_refAt (st := nxR st) (st.at_) (by simp only [nxR]; omega) (by omega) rfl ?_)
          | (refine R_run hg.ok 5 rfl rfl ?_; refine R_refAt (st := nxR st) (st.at_) (by simp only [nxR]; omega) (by omega) rfl ?_)
          | (refine R_run hg.ok 6 rfl rfl ?_; refine R_refAt (st := nxR st) (st.at_) (by simp only [nxR]; omega) (by omega) rfl ?_)
          | (refine R_run hg.ok 7 rfl rfl ?_; refine R_refAt (st := nxR st) (st.at_) (by simp only [nxR]; omega) (by omega) rfl ?_)
          | (refine R_run hg.ok 8 rfl rfl ?_; refine R_refAt (st := nxR st) (st.at_) (by simp only [nxR]; omega) (by omega) rfl ?_)
          | (refine R_run hg.ok 9 rfl rfl ?_; refine R_refAt (st := nxR st) (st.at_) (by simp only [nxR]; omega) (by omega) rfl ?_)
          | (refine R_run hg.ok 10 rfl rfl ?_; refine R_refAt (st := nxR st) (st.at_) (by simp only [nxR]; omega) (by omega) rfl ?_)
          | (refine R_run hg.ok 11 rfl rfl ?_; refine R_refAt (st := nxR st) (st.at_) (by simp only [nxR]; omega) (by omega) rfl ?_)
          refine R_run hg.ok 1000 rfl rfl ?_
          refine R_callSO hg.ok hg.gup hg.wide hg.Y [0] (refO S0 L (failR L S0.length st 2) ++ [tkO t, boxZ, tkO u]) (eFail Y S0 L st 2) (fun _ => rfl) rfl rfl rfl rfl rfl rfl rfl rfl ?_
          refine R_run hg.ok 1000 rfl rfl ?_
          rw [show refO S0 L (failR L S0.length { begS L (nxR st) with at_ := st.at_ } 2) = refO S0 L (failR L S0.length st 2) by unfold failR; rw [if_pos he, if_pos (show ({ begS L (nxR st) with at_ := st.at_ } : RSt).e = 0 by simp only; unfold begS; split <;> exact he)]; unfold begS; split <;> rfl]
          exact R_retS hg 1 5 (Nat.le_refl _) rfl rfl rfl
        · rw [if_neg hq] at h
          obtain ⟨⟨y, st2⟩, h1, h⟩ := Option.map_eq_some_iff.1 h
          subst h
          simp only
          refine R_if rfl rfl (fun h => absurd h (by simp [hq])) (fun _ => ?_) <;> refine R_run hg.ok 1000 rfl rfl ?_
          refine R_load4 hg.ok (by show φ.length ≤ 1; omega) rfl rfl rfl rfl rfl rfl rfl ?_
          refine R_run hg.ok 1000 rfl rfl ?_
          refine R_see 168 rfl (v' := iV ((deep + 1 : Nat) : Int)) (Ent.wrap rfl (by omega) (by omega)) ?_
          have hc := hT (deep + 1) _ _ y st2 h1 hd hn.beg
          rw [refO_beg] at hc
          refine R_callS3 hg.ok hg.gup hg.wide hg.Y [0] (refO S0 L st2 ++ [tkO t, boxZ, tkO u]) hc (fun _ => rfl) (fun i hi => by show i < φ.length; simp at hi; omega) rfl rfl rfl rfl rfl rfl rfl rfl ?_
          refine R_run hg.ok 1000 rfl rfl ?_
          rw [show Tm.av (fnT t.text [y]) = AV.agg [.d (.v (.int .i64 3)), .d (.v (.string (Tx t.text))), .d (.v (.int .i64 0)), .d (.sl [rwT y])] by rw [show [rwT y] = Tm.rows [y] from rwT_rows [y]]; rfl]
          exact R_retS hg 1 5 (Nat.le_refl _) rfl rfl rfl
      | false =>
        simp only [Bool.false_eq_true, if_false] at h
        cases h
        refine R_if rfl rfl (fun _ => ?_) (fun h => absurd h (by simp)) <;> refine R_run hg.ok 1000 rfl rfl ?_
        rw [refO_beg]
        exact R_retS hg 1 5 (Nat.le_refl _) rfl rfl rfl
    · rw [if_neg hp] at h
      cases h
      have hp0 : preT t.text = 0 := by unfold preT at hp ⊢; split at hp; omega; split at hp; omega; rename_i h1 h2; rw [if_neg h1, if_neg h2]
      refine R_if rfl rfl (fun _ => ?_) (fun h => absurd h (by simp [hp0])) <;> refine R_run hg.ok 1000 rfl rfl ?_
      exact R_retS hg 1 5 (Nat.le_refl _) rfl rfl rfl
end Go.Proofs.Ythdpfglpdgmphaa

namespace Go.Proofs.Ythdpfglpdgmphaa
open Go PSL Go.Proofs
theorem failR_err {L : List Tk} {n : Nat} {st : RSt} {c : Int} (h : st.e ≠ 0) : failR L n st c = st := by unfold failR; rw [if_neg h]
theorem failR_e {L : List Tk} {n : Nat} {st : RSt} {c : Int} (hc : c ≠ 0) : (failR L n st c).e ≠ 0 := by unfold failR; split; exact hc; assumption

theorem opnd_err {sw : Bool} {S : Bs} {L : List Tk} {T : TF} {deep : Nat} {p : Int} {st : RSt} (h : st.e ≠ 0) : opndR sw S L T deep p st = some (zeroT, 0, st) := by
  have hp : peekR L st = zeroTk := by unfold peekR; rw [if_pos h]
  unfold opndR
  rw [hp, failR_err h, failR_err h]
  split
  · rfl
  · rfl
theorem rest_err {L : List Tk} {T : TF} {f deep : Nat} {p now : Int} {out : Tm} {st : RSt} (h : st.e ≠ 0) : restR L T (f + 1) deep p out now st = some (out, st) := by simp only [restR]; rw [if_pos h]

theorem many_len {L : List Tk} {T : TF} : ∀ (f deep : Nat) (st : RSt) (acc l : List Tm) (st' : RSt), manyR L T f deep st acc = some (l, st') → l.length ≤ acc.length + f
  | 0, _, _, _, _, _, h => by cases h
  | f + 1, deep, st, acc, l, st', h => by
    simp only [manyR] at h
    split at h
    · obtain ⟨x, _, h⟩ := Option.bind_eq_some_iff.1 h
      have := many_len f deep _ _ _ _ h
      simp at this; omega
    · cases h; omega

theorem row_len {L : List Tk} {T : TF} {deep : Nat} {st : RSt} {l : List Tm} {st' : RSt} (h : rowR L T deep st = some (l, st')) : l.length ≤ L.length + 3 := by
  obtain ⟨x, _, h⟩ := Option.bind_eq_some_iff.1 h
  have := many_len _ _ _ _ _ _ h
  simp at this; omega

set_option maxRecDepth 100000 in
theorem eStep (Y : YP) (S0 : Bs) (L : List Tk) (hL : L.length ≤ 9000) (hS : S0.length ≤ 9000) {T : TF} (hT : ECtr Y S0 L T) (hG : TGood L T) (hpl : ∀ t ∈ L, 0 ≤ t.at_ ∧ t.at_ < S0.length ∧ 0 ≤ t.n ∧ t.n ≤ 9223372036854775807) (hvt : ∀ t ∈ L, t.kind = 2 → t.text ≠ []) :
    ECtr Y S0 L (fun deep p st => (opndR true S0 L T deep p st).bind fun x => restR L T (L.length + 2) deep p x.1 x.2.1 x.2.2) := by
  intro deep p st t st' h hd hi
  obtain ⟨x, hx, h⟩ := Option.bind_eq_some_iff.1 h
  refine SCtr.of_R (pf := fun _ => .eff) tyOk mixed Try.func26 rfl (by kernel_rfl) (by kernel_rfl) (by simp [Try.ntmps26]) (by simp [refO]) fun w S φ hg => ?_
  refine R_run hg.ok 1000 rfl rfl ?_
  by_cases he : st.e ≠ 0
  · rw [opnd_err he] at hx
    cases hx
    rw [rest_err he] at h
    cases h
    refine R_if rfl rfl (fun _ => ?_) (fun h => absurd h (by simp [he])) <;> refine R_run hg.ok 1000 rfl rfl ?_
    exact R_retS hg 1 5 (Nat.le_refl _) rfl rfl rfl
  have he : st.e = 0 := by simpa using he
  refine R_if rfl rfl (fun h => absurd h (by simp [he])) (fun _ => ?_) <;> refine R_run hg.ok 1000 rfl rfl ?_
  unfold opndR at hx
  by_cases hd0 : 1000 ≤ deep
  · rw [if_pos hd0] at hx
    cases hx
    rw [rest_err (failR_e (by decide))] at h
    cases h
    refine R_if rfl rfl (fun _ => ?_) (fun h => absurd h (by simp; omega)) <;> refine R_run hg.ok 1000 rfl rfl ?_
    refine R_callSO hg.ok hg.gup hg.wide hg.Y [0] (refO S0 L (failR L S0.length st 3) ++ [boxZ, boxZ]) (eFail Y S0 L st 3) (fun _ => rfl) rfl rfl rfl rfl rfl rfl rfl rfl ?_
    refine R_run hg.ok 1000 rfl rfl ?_
    exact R_retS hg 1 5 (Nat.le_refl _) rfl rfl rfl
  rw [if_neg hd0] at hx
  refine R_if rfl rfl (fun h => absurd h (by simp; omega)) (fun _ => ?_) <;> refine R_run hg.ok 1000 rfl rfl ?_
  by_cases hl : st.at_ < L.length
  · have e1 : L[st.at_]? = some L[st.at_] := List.getElem?_eq_getElem hl
    have hpk : peekR L st = L[st.at_] := by unfold peekR; rw [if_neg (by simp [he]), e1]; rfl
    have hmem : L[st.at_] ∈ L := List.getElem_mem _
    have hS1 := eSee Y S0 L st [40]
    have hS2 := eSee Y S0 L st [91]
    rw [hpk] at hx hS1 hS2
    generalize L[st.at_] = u at e1 hx hmem hS1 hS2
    refine R_if rfl rfl (fun h => absurd h (by simp [tkRows_len]; omega)) (fun _ => ?_) <;> refine R_run hg.ok 1000 rfl rfl ?_
    refine R_index hg.ok rfl rfl rfl rfl rfl rfl (Int.natCast_nonneg _) (tkRows_get e1) rfl ?_
    refine R_run hg.ok 1000 rfl rfl ?_
    have hnl := hi.1
    by_cases h3 : u.kind = 3
    · rw [if_pos h3] at hx
      cases hx
      refine R_if rfl rfl (fun _ => ?_) (fun h => absurd h (by simp [h3]))
      first
      | (refine R_run hg.ok 1 rfl rfl ?_; refine R_refAt (st := st) (st.at_ + 1) (rfl) (by omega) rfl ?_)
      | (refine R_run hg.ok 2 rfl rfl ?_; refine R_refAt (st := st) (st.at_ + 1) (rfl) (by omega) rfl ?_)
      | (refine R_run hg.ok 3 rfl rfl ?_; refine R_refAt (st := st) (st.at_ + 1) (rfl) (by omega) rfl ?_)
      | (refine R_run hg.ok 4 rfl rfl ?_; refine R_refAt (st := st) (st.at_ + 1) (rfl) (by omega) rfl ?_)
      | (refine R_run hg.ok 5 rfl rfl ?_; refine R_refAt (st := st) (st.at_ + 1) (rfl) (by omega) rfl ?_)
      | (refine R_run hg.ok 6 rfl rfl ?_; refine R_refAt (st := st) (st.at_ + 1) (rfl) (by omega) rfl ?_)
      | (refine R_run hg.ok 7 rfl rfl ?_; refine R_refAt (st := st) (st.at_ + 1) (rfl) (by omega) rfl ?_)
      | (refine R_run hg.ok 8 rfl rfl ?_; refine R_refAt (st := st) (st.at_ + 1) (rfl) (by omega) rfl ?_)
      refine R_run hg.ok 1000 rfl rfl ?_
      refine R_callSO hg.ok hg.gup hg.wide hg.Y [0] (refO S0 L st' ++ [boxZ, boxZ, tkO u]) (eRest Y S0 L hL hT hG deep hd p 0 (nxR st) (hi.nx hl) (nmT u.n) (L.length + 2) t st' h) (fun _ => rfl) rfl rfl rfl rfl rfl rfl rfl rfl ?_
      refine R_run hg.ok 1000 rfl rfl ?_
      exact R_retS hg 1 5 (Nat.le_refl _) rfl rfl rfl
    rw [if_neg h3] at hx
    refine R_if rfl rfl (fun h => absurd h (by simp [h3])) (fun _ => ?_) <;> refine R_run hg.ok 1000 rfl rfl ?_
    by_cases h2 : u.kind = 2
    · rw [if_pos h2] at hx
      cases hx
      refine R_if rfl rfl (fun _ => ?_) (fun h => absurd h (by simp [h2]))
      first
      | (refine R_run hg.ok 1 rfl rfl ?_; refine R_refAt (st := st) (st.at_ + 1) (rfl) (by omega) rfl ?_)
      | (refine R_run hg.ok 2 rfl rfl ?_; refine R_refAt (st := st) (st.at_ + 1) (rfl) (by omega) rfl ?_)
      | (refine R_run hg.ok 3 rfl rfl ?_; refine R_refAt (st := st) (st.at_ + 1) (rfl) (by omega) rfl ?_)
      | (refine R_run hg.ok 4 rfl rfl ?_; refine R_refAt (st := st) (st.at_ + 1) (rfl) (by omega) rfl ?_)
      | (refine R_run hg.ok 5 rfl rfl ?_; refine R_refAt (st := st) (st.at_ + 1) (rfl) (by omega) rfl ?_)
      | (refine R_run hg.ok 6 rfl rfl ?_; refine R_refAt (st := st) (st.at_ + 1) (rfl) (by omega) rfl ?_)
      | (refine R_run hg.ok 7 rfl rfl ?_; refine R_refAt (st := st) (st.at_ + 1) (rfl) (by omega) rfl ?_)
      | (refine R_run hg.ok 8 rfl rfl ?_; refine R_refAt (st := st) (st.at_ + 1) (rfl) (by omega) rfl ?_)
      refine R_run hg.ok 1000 rfl rfl ?_
      refine R_callSO hg.ok hg.gup hg.wide hg.Y [0] (refO S0 L (varR (nxR st) u.text).2 ++ [boxZ, boxZ, tkO u]) (eVar Y S0 L (nxR st) (by simp only [nxR]; omega) u.text (hvt u hmem h2)) (fun _ => rfl) rfl rfl rfl rfl rfl rfl rfl rfl ?_
      refine R_run hg.ok 1000 rfl rfl ?_
      refine R_callSO hg.ok hg.gup hg.wide hg.Y [0] (refO S0 L st' ++ [boxZ, boxZ, tkO u]) (eRest Y S0 L hL hT hG deep hd p 0 ((varR (nxR st) u.text).2) (hi.var hl) (Tm.vT (varR (nxR st) u.text).1) (L.length + 2) t st' h) (fun _ => rfl) rfl rfl rfl rfl rfl rfl rfl rfl ?_
      refine R_run hg.ok 1000 rfl rfl ?_
      exact R_retS hg 1 5 (Nat.le_refl _) rfl rfl rfl
    rw [if_neg h2] at hx
    refine R_if rfl rfl (fun h => absurd h (by simp [h2])) (fun _ => ?_) <;> refine R_run hg.ok 1000 rfl rfl ?_
    by_cases h1 : u.kind = 1
    · rw [if_pos h1] at hx
      obtain ⟨y, hy, hx⟩ := Option.map_eq_some_iff.1 hx
      refine R_if rfl rfl (fun _ => ?_) (fun h => absurd h (by simp [h1])) <;> refine R_run hg.ok 1000 rfl rfl ?_
      refine R_callSO hg.ok hg.gup hg.wide hg.Y [0] (refO S0 L y.2.2 ++ [boxZ, boxZ, tkO u]) (eName Y S0 L hL hS hT hG deep (by omega) st hi he hl hpl p u hmem y hy) (fun _ => rfl) rfl rfl rfl rfl rfl rfl rfl rfl ?_
      refine R_run hg.ok 1000 rfl rfl ?_
      by_cases hye : y.2.2.e ≠ 0
      · rw [if_pos (by simp [hye])] at hx
        subst hx
        simp only at h
        rw [rest_err hye] at h
        cases h
        refine R_if rfl rfl (fun _ => ?_) (fun h => absurd h (by simp [hye])) <;> refine R_run hg.ok 1000 rfl rfl ?_
        exact R_retS hg 1 5 (Nat.le_refl _) rfl rfl rfl
      · rw [if_neg (by simp at hye; simp [hye])] at hx
        subst hx
        refine R_if rfl rfl (fun h => absurd h (by simp at hye; simp [hye])) (fun _ => ?_) <;> refine R_run hg.ok 1000 rfl rfl ?_
        refine R_callSO hg.ok hg.gup hg.wide hg.Y [0] (refO S0 L st' ++ [boxZ, boxZ, tkO u, bxT y.1]) (eRest Y S0 L hL hT hG deep hd p y.2.1 (y.2.2) (named_inv hG hy hi hl) (y.1) (L.length + 2) t st' h) (fun _ => rfl) rfl rfl rfl rfl rfl rfl rfl rfl ?_
        refine R_run hg.ok 1000 rfl rfl ?_
        exact R_retS hg 1 5 (Nat.le_refl _) rfl rfl rfl
    rw [if_neg h1] at hx
    refine R_if rfl rfl (fun h => absurd h (by simp [h1])) (fun _ => ?_) <;> refine R_run hg.ok 1000 rfl rfl ?_
    cases hm1 : isMk u [40] with
    | true =>
      rw [hm1] at hx hS1
      simp only [if_true] at hx
      obtain ⟨⟨y, st2⟩, hy, hx⟩ := Option.map_eq_some_iff.1 hx
      subst hx
      simp only at h
      refine R_callSO hg.ok hg.gup hg.wide hg.Y [0] (refO S0 L st ++ [boxZ, boxZ, tkO u]) (hS1) (fun _ => rfl) rfl rfl rfl rfl rfl rfl rfl rfl ?_
      refine R_run hg.ok 1000 rfl rfl ?_
      refine R_if rfl rfl (fun _ => ?_) (fun h => absurd h (by simp))
      first
      | (refine R_run hg.ok 1 rfl rfl ?_; refine R_refAt (st := st) (st.at_ + 1) (rfl) (by omega) rfl ?_)
      | (refine R_run hg.ok 2 rfl rfl ?_; refine R_refAt (st := st) (st.at_ + 1) (rfl) (by omega) rfl ?_)
      | (refine R_run hg.ok 3 rfl rfl ?_; refine R_refAt (st := st) (st.at_ + 1) (rfl) (by omega) rfl ?_)
      | (refine R_run hg.ok 4 rfl rfl ?_; refine R_refAt (st := st) (st.at_ + 1) (rfl) (by omega) rfl ?_)
      | (refine R_run hg.ok 5 rfl rfl ?_; refine R_refAt (st := st) (st.at_ + 1) (rfl) (by omega) rfl ?_)
      | (refine R_run hg.ok 6 rfl rfl ?_; refine R_refAt (st := st) (st.at_ + 1) (rfl) (by omega) rfl ?_)
      | (refine R_run hg.ok 7 rfl rfl ?_; refine R_refAt (st := st) (st.at_ + 1) (rfl) (by omega) rfl ?_)
      | (refine R_run hg.ok 8 rfl rfl ?_; refine R_refAt (st := st) (st.at_ + 1) (rfl) (by omega) rfl ?_)
      refine R_run hg.ok 1000 rfl rfl ?_
      refine R_see 119 rfl (v' := iV ((deep + 1 : Nat) : Int)) (Ent.wrap rfl (by omega) (by omega)) ?_
      refine R_callSO hg.ok hg.gup hg.wide hg.Y [0] (refO S0 L st2 ++ [boxZ, boxZ, tkO u]) (hT (deep + 1) 1200 (nxR st) y st2 hy (by omega) (hi.nx hl)) (fun _ => rfl) rfl rfl rfl rfl rfl rfl rfl rfl ?_
      refine R_run hg.ok 1000 rfl rfl ?_
      refine R_callSO hg.ok hg.gup hg.wide hg.Y [0] (refO S0 L (mustR L S0.length st2 [41]) ++ [boxZ, boxZ, tkO u, bxT y]) (eNeed Y S0 L hL st2 [41]) (fun _ => rfl) rfl rfl rfl rfl rfl rfl rfl rfl ?_
      refine R_run hg.ok 1000 rfl rfl ?_
      refine R_callSO hg.ok hg.gup hg.wide hg.Y [0] (refO S0 L st' ++ [boxZ, boxZ, tkO u, bxT y]) (eRest Y S0 L hL hT hG deep hd p 0 (mustR L S0.length st2 [41]) ((hG _ _ _ _ _ hy (hi.nx hl)).must) (y) (L.length + 2) t st' h) (fun _ => rfl) rfl rfl rfl rfl rfl rfl rfl rfl ?_
      refine R_run hg.ok 1000 rfl rfl ?_
      exact R_retS hg 1 5 (Nat.le_refl _) rfl rfl rfl
    | false =>
      rw [hm1] at hx hS1
      simp only [Bool.false_eq_true, if_false] at hx
      refine R_callSO hg.ok hg.gup hg.wide hg.Y [0] (refO S0 L st ++ [boxZ, boxZ, tkO u]) (hS1) (fun _ => rfl) rfl rfl rfl rfl rfl rfl rfl rfl ?_
      refine R_run hg.ok 1000 rfl rfl ?_
      refine R_if rfl rfl (fun h => absurd h (by simp)) (fun _ => ?_) <;> refine R_run hg.ok 1000 rfl rfl ?_
      cases hm2 : isMk u [91] with
      | true =>
        rw [hm2] at hx hS2
        simp only [if_true] at hx
        obtain ⟨y, hlst, hx⟩ := Option.map_eq_some_iff.1 hx
        subst hx
        simp only at h
        have hlst0 := hlst
        obtain ⟨⟨l, st1⟩, h0, hlst⟩ := Option.bind_eq_some_iff.1 hlst
        have hi1 := row_inv hG h0 (hi.nx hl)
        have hll := row_len h0
        refine R_callSO hg.ok hg.gup hg.wide hg.Y [0] (refO S0 L st ++ [boxZ, boxZ, tkO u]) (hS2) (fun _ => rfl) rfl rfl rfl rfl rfl rfl rfl rfl ?_
        refine R_run hg.ok 1000 rfl rfl ?_
        refine R_if rfl rfl (fun _ => ?_) (fun h => absurd h (by simp))
        first
        | (refine R_run hg.ok 1 rfl rfl ?_; refine R_refAt (st := st) (st.at_ + 1) (rfl) (by omega) rfl ?_)
        | (refine R_run hg.ok 2 rfl rfl ?_; refine R_refAt (st := st) (st.at_ + 1) (rfl) (by omega) rfl ?_)
        | (refine R_run hg.ok 3 rfl rfl ?_; refine R_refAt (st := st) (st.at_ + 1) (rfl) (by omega) rfl ?_)
        | (refine R_run hg.ok 4 rfl rfl ?_; refine R_refAt (st := st) (st.at_ + 1) (rfl) (by omega) rfl ?_)
        | (refine R_run hg.ok 5 rfl rfl ?_; refine R_refAt (st := st) (st.at_ + 1) (rfl) (by omega) rfl ?_)
        | (refine R_run hg.ok 6 rfl rfl ?_; refine R_refAt (st := st) (st.at_ + 1) (rfl) (by omega) rfl ?_)
        | (refine R_run hg.ok 7 rfl rfl ?_; refine R_refAt (st := st) (st.at_ + 1) (rfl) (by omega) rfl ?_)
        | (refine R_run hg.ok 8 rfl rfl ?_; refine R_refAt (st := st) (st.at_ + 1) (rfl) (by omega) rfl ?_)
        refine R_run hg.ok 1000 rfl rfl ?_
        refine R_callSO hg.ok hg.gup hg.wide hg.Y [0] (refO S0 L st1 ++ [boxZ, boxZ, tkO u]) (eRow Y S0 L hL hT hG deep (by omega) (nxR st) (hi.nx hl) l st1 h0) (fun _ => rfl) rfl rfl rfl rfl rfl rfl rfl rfl ?_
        refine R_run hg.ok 1000 rfl rfl ?_
        have hS3 := eSee Y S0 L st1 [124]
        cases hmk : isMk (peekR L st1) [124] with
        | true =>
          rw [hmk] at hlst hS3
          simp only [if_true] at hlst
          obtain ⟨⟨z, st2⟩, hz, hlst⟩ := Option.map_eq_some_iff.1 hlst
          subst hlst
          simp only at h
          have hl1 := (isMk_lt hmk).2
          have hi2 := hi1.nx hl1
          refine R_callSO hg.ok hg.gup hg.wide hg.Y [0] (refO S0 L st1 ++ [boxZ, boxZ, tkO u, bxN]) (hS3) (fun _ => rfl) rfl rfl rfl rfl rfl rfl rfl rfl ?_
          refine R_run hg.ok 1000 rfl rfl ?_
          refine R_if rfl rfl (fun _ => ?_) (fun h => absurd h (by simp))
          first
          | (refine R_run hg.ok 1 rfl rfl ?_; refine R_refAt (st := st1) (st1.at_ + 1) (rfl) (by omega) rfl ?_)
          | (refine R_run hg.ok 2 rfl rfl ?_; refine R_refAt (st := st1) (st1.at_ + 1) (rfl) (by omega) rfl ?_)
          | (refine R_run hg.ok 3 rfl rfl ?_; refine R_refAt (st := st1) (st1.at_ + 1) (rfl) (by omega) rfl ?_)
          | (refine R_run hg.ok 4 rfl rfl ?_; refine R_refAt (st := st1) (st1.at_ + 1) (rfl) (by omega) rfl ?_)
          | (refine R_run hg.ok 5 rfl rfl ?_; refine R_refAt (st := st1) (st1.at_ + 1) (rfl) (by omega) rfl ?_)
          | (refine R_run hg.ok 6 rfl rfl ?_; refine R_refAt (st := st1) (st1.at_ + 1) (rfl) (by omega) rfl ?_)
          | (refine R_run hg.ok 7 rfl rfl ?_; refine R_refAt (st := st1) (st1.at_ + 1) (rfl) (by omega) rfl ?_)
          | (refine R_run hg.ok 8 rfl rfl ?_; refine R_refAt (st := st1) (st1.at_ + 1) (rfl) (by omega) rfl ?_)
          refine R_run hg.ok 1000 rfl rfl ?_
          refine R_see 152 rfl (v' := iV ((deep + 1 : Nat) : Int)) (Ent.wrap rfl (by omega) (by omega)) ?_
          refine R_callSO hg.ok hg.gup hg.wide hg.Y [0] (refO S0 L st2 ++ [boxZ, boxZ, tkO u, bxN]) (hT (deep + 1) 999 (nxR st1) z st2 hz (by omega) hi2) (fun _ => rfl) rfl rfl rfl rfl rfl rfl rfl rfl ?_
          refine R_run hg.ok 1000 rfl rfl ?_
          refine R_callSO hg.ok hg.gup hg.wide hg.Y [0] (refO S0 L (mustR L S0.length st2 [93]) ++ [boxZ, boxZ, tkO u, bxT z]) (eNeed Y S0 L hL st2 [93]) (fun _ => rfl) rfl rfl rfl rfl rfl rfl rfl rfl ?_
          refine R_run hg.ok 1000 rfl rfl ?_
          refine R_see 14 rfl (v' := iV ((l.length : Int) - 1)) (Ent.wrap (by rw [Tm.rows_length]) (by omega) (by omega)) ?_
          refine R_cut2 (fun _ : Unit => ([(0, .lo 0 0), (1, iV p), (2, iV deep), (6, .lo 1 0), (13, .lo 4 0)], refO S0 L (mustR L S0.length st2 [93]) ++ [boxZ, boxZ, tkO u, bxT (consT l (z))])) (fun _ => True) rfl ?_ ?_
          · refine R_loop (fun n : Nat => ([(0, .lo 0 0), (1, iV p), (2, iV deep), (6, .lo 1 0), (12, .d (.sl (Tm.rows l))), (13, .lo 4 0), (14, iV ((n : Int) - 1))], refO S0 L (mustR L S0.length st2 [93]) ++ [boxZ, boxZ, tkO u, bxT (consT (l.drop n) (z))])) (fun n => n ≤ l.length) (fun n => n) l.length (Nat.le_refl _) ⟨.refl _, .refl _, .refl _, .refl _, .refl _, .refl _, .refl _, trivial⟩ (by rw [List.drop_length]; rfl) ?_
            intro n hn
            refine R_run hg.ok 1000 rfl rfl ?_
            refine R_if rfl rfl (fun h => ?_) (fun h => ?_) <;> refine R_run hg.ok 1000 rfl rfl ?_
            · have hn0 : 0 < n := by have := of_decide_eq_true h; omega
              obtain ⟨n, rfl⟩ : ∃ m, n = m + 1 := ⟨n - 1, by omega⟩
              have hlt : n < l.length := hn
              have hdr : l.drop n = l[n] :: l.drop (n + 1) := List.drop_eq_getElem_cons hlt
              have hix : (Tm.rows l)[n]? = some (rwT l[n]) := by rw [← rwT_rows]; simp [hlt]
              generalize l[n] = a at hdr hix
              refine R_index hg.ok rfl rfl rfl rfl rfl rfl (by omega) (by rw [show (((n + 1 : Nat) : Int) - 1).toNat = n by omega]; exact hix) rfl ?_
              have hcons : consT (a :: l.drop (n + 1)) (z) = fnT [46] [a, consT (l.drop (n + 1)) (z)] := rfl
              have ha : Ob.box [.d (.v (.int .i64 3)), .d (.v (.string ⟨#[46]⟩)), .d (.v (.int .i64 0)), .d (.sl [rwT a, rwT (consT (l.drop (n + 1)) (z))])] = bxT (consT (l.drop n) (z)) := by rw [hdr, hcons, bxT_fn, ← rwT_rows]; rfl
              refine R_run hg.ok 1000 rfl rfl ?_
              refine R_obs (refO S0 L (mustR L S0.length st2 [93]) ++ [boxZ, boxZ, tkO u, .box [.d (.v (.int .i64 3)), .d (.v (.string ⟨#[46]⟩)), .d (.v (.int .i64 0)), .d (.sl [rwT a, rwT (consT (l.drop (n + 1)) (z))])]]) ⟨.refl _, .refl _, .refl _, .refl _, ⟨.refl _, .refl _, .refl _, Ent.fs _, trivial⟩, trivial⟩ rfl ?_
              rw [ha]
              exact R_next n (by omega) (by omega) ⟨.refl _, .refl _, .refl _, .refl _, .refl _, .refl _, Ent.wrap (by omega) (by omega) (by omega), trivial⟩ rfl
            · have hn0 : n = 0 := by have := of_decide_eq_false h; omega
              subst hn0
              exact R_to () trivial ⟨.refl _, .refl _, .refl _, .refl _, .refl _, trivial⟩ rfl
          rintro _ _
          refine R_run hg.ok 1000 rfl rfl ?_
          refine R_callSO hg.ok hg.gup hg.wide hg.Y [0] (refO S0 L st' ++ [boxZ, boxZ, tkO u, bxT (consT l (z))]) (eRest Y S0 L hL hT hG deep hd p 0 (mustR L S0.length st2 [93]) (list_inv hG hlst0 (hi.nx hl)) (consT l (z)) (L.length + 2) t st' h) (fun _ => rfl) rfl rfl rfl rfl rfl rfl rfl rfl ?_
          refine R_run hg.ok 1000 rfl rfl ?_
          exact R_retS hg 1 5 (Nat.le_refl _) rfl rfl rfl
        | false =>
          rw [hmk] at hlst hS3
          simp only [Bool.false_eq_true, if_false] at hlst
          have hlst := Option.some.inj hlst
          subst hlst
          simp only at h
          refine R_callSO hg.ok hg.gup hg.wide hg.Y [0] (refO S0 L st1 ++ [boxZ, boxZ, tkO u, bxN]) (hS3) (fun _ => rfl) rfl rfl rfl rfl rfl rfl rfl rfl ?_
          refine R_run hg.ok 1000 rfl rfl ?_
          refine R_if rfl rfl (fun h => absurd h (by simp)) (fun _ => ?_) <;> refine R_run hg.ok 1000 rfl rfl ?_
          refine R_callSO hg.ok hg.gup hg.wide hg.Y [0] (refO S0 L (mustR L S0.length st1 [93]) ++ [boxZ, boxZ, tkO u, bxN]) (eNeed Y S0 L hL st1 [93]) (fun _ => rfl) rfl rfl rfl rfl rfl rfl rfl rfl ?_
          refine R_run hg.ok 1000 rfl rfl ?_
          refine R_obs (refO S0 L (mustR L S0.length st1 [93]) ++ [boxZ, boxZ, tkO u, bxT (fnT [91, 93] [])]) ⟨.refl _, .refl _, .refl _, .refl _, ⟨.refl _, .refl _, .refl _, Ent.nil, trivial⟩, trivial⟩ rfl ?_
          refine R_see 14 rfl (v' := iV ((l.length : Int) - 1)) (Ent.wrap (by rw [Tm.rows_length]) (by omega) (by omega)) ?_
          refine R_cut2 (fun _ : Unit => ([(0, .lo 0 0), (1, iV p), (2, iV deep), (6, .lo 1 0), (13, .lo 4 0)], refO S0 L (mustR L S0.length st1 [93]) ++ [boxZ, boxZ, tkO u, bxT (consT l (fnT [91, 93] []))])) (fun _ => True) rfl ?_ ?_
          · refine R_loop (fun n : Nat => ([(0, .lo 0 0), (1, iV p), (2, iV deep), (6, .lo 1 0), (12, .d (.sl (Tm.rows l))), (13, .lo 4 0), (14, iV ((n : Int) - 1))], refO S0 L (mustR L S0.length st1 [93]) ++ [boxZ, boxZ, tkO u, bxT (consT (l.drop n) (fnT [91, 93] []))])) (fun n => n ≤ l.length) (fun n => n) l.length (Nat.le_refl _) ⟨.refl _, .refl _, .refl _, .refl _, .refl _, .refl _, .refl _, trivial⟩ (by rw [List.drop_length]; rfl) ?_
            intro n hn
            refine R_run hg.ok 1000 rfl rfl ?_
            refine R_if rfl rfl (fun h => ?_) (fun h => ?_) <;> refine R_run hg.ok 1000 rfl rfl ?_
            · have hn0 : 0 < n := by have := of_decide_eq_true h; omega
              obtain ⟨n, rfl⟩ : ∃ m, n = m + 1 := ⟨n - 1, by omega⟩
              have hlt : n < l.length := hn
              have hdr : l.drop n = l[n] :: l.drop (n + 1) := List.drop_eq_getElem_cons hlt
              have hix : (Tm.rows l)[n]? = some (rwT l[n]) := by rw [← rwT_rows]; simp [hlt]
              generalize l[n] = a at hdr hix
              refine R_index hg.ok rfl rfl rfl rfl rfl rfl (by omega) (by rw [show (((n + 1 : Nat) : Int) - 1).toNat = n by omega]; exact hix) rfl ?_
              have hcons : consT (a :: l.drop (n + 1)) (fnT [91, 93] []) = fnT [46] [a, consT (l.drop (n + 1)) (fnT [91, 93] [])] := rfl
              have ha : Ob.box [.d (.v (.int .i64 3)), .d (.v (.string ⟨#[46]⟩)), .d (.v (.int .i64 0)), .d (.sl [rwT a, rwT (consT (l.drop (n + 1)) (fnT [91, 93] []))])] = bxT (consT (l.drop n) (fnT [91, 93] [])) := by rw [hdr, hcons, bxT_fn, ← rwT_rows]; rfl
              refine R_run hg.ok 1000 rfl rfl ?_
              refine R_obs (refO S0 L (mustR L S0.length st1 [93]) ++ [boxZ, boxZ, tkO u, .box [.d (.v (.int .i64 3)), .d (.v (.string ⟨#[46]⟩)), .d (.v (.int .i64 0)), .d (.sl [rwT a, rwT (consT (l.drop (n + 1)) (fnT [91, 93] []))])]]) ⟨.refl _, .refl _, .refl _, .refl _, ⟨.refl _, .refl _, .refl _, Ent.fs _, trivial⟩, trivial⟩ rfl ?_
              rw [ha]
              exact R_next n (by omega) (by omega) ⟨.refl _, .refl _, .refl _, .refl _, .refl _, .refl _, Ent.wrap (by omega) (by omega) (by omega), trivial⟩ rfl
            · have hn0 : n = 0 := by have := of_decide_eq_false h; omega
              subst hn0
              exact R_to () trivial ⟨.refl _, .refl _, .refl _, .refl _, .refl _, trivial⟩ rfl
          rintro _ _
          refine R_run hg.ok 1000 rfl rfl ?_
          refine R_callSO hg.ok hg.gup hg.wide hg.Y [0] (refO S0 L st' ++ [boxZ, boxZ, tkO u, bxT (consT l (fnT [91, 93] []))]) (eRest Y S0 L hL hT hG deep hd p 0 (mustR L S0.length st1 [93]) (list_inv hG hlst0 (hi.nx hl)) (consT l (fnT [91, 93] [])) (L.length + 2) t st' h) (fun _ => rfl) rfl rfl rfl rfl rfl rfl rfl rfl ?_
          refine R_run hg.ok 1000 rfl rfl ?_
          exact R_retS hg 1 5 (Nat.le_refl _) rfl rfl rfl
      | false =>
        rw [hm2] at hx hS2
        simp only [Bool.false_eq_true, if_false] at hx
        cases hx
        rw [rest_err (failR_e (by decide))] at h
        cases h
        refine R_callSO hg.ok hg.gup hg.wide hg.Y [0] (refO S0 L st ++ [boxZ, boxZ, tkO u]) (hS2) (fun _ => rfl) rfl rfl rfl rfl rfl rfl rfl rfl ?_
        refine R_run hg.ok 1000 rfl rfl ?_
        refine R_if rfl rfl (fun h => absurd h (by simp)) (fun _ => ?_) <;> refine R_run hg.ok 1000 rfl rfl ?_
        refine R_callSO hg.ok hg.gup hg.wide hg.Y [0] (refO S0 L (failR L S0.length st 2) ++ [boxZ, boxZ, tkO u]) (eFail Y S0 L st 2) (fun _ => rfl) rfl rfl rfl rfl rfl rfl rfl rfl ?_
        refine R_run hg.ok 1000 rfl rfl ?_
        exact R_retS hg 1 5 (Nat.le_refl _) rfl rfl rfl
  · have hpk : peekR L st = zeroTk := by unfold peekR; rw [if_neg (by simp [he]), List.getElem?_eq_none (by omega)]; rfl
    rw [hpk] at hx
    rw [if_neg (by decide), if_neg (by decide), if_neg (by decide), if_neg (by decide), if_neg (by decide)] at hx
    cases hx
    rw [rest_err (failR_e (by decide))] at h
    cases h
    refine R_if rfl rfl (fun _ => ?_) (fun h => absurd h (by simp [tkRows_len]; omega)) <;> refine R_run hg.ok 1000 rfl rfl ?_
    refine R_callSO hg.ok hg.gup hg.wide hg.Y [0] (refO S0 L (failR L S0.length st 2) ++ [boxZ, boxZ]) (eFail Y S0 L st 2) (fun _ => rfl) rfl rfl rfl rfl rfl rfl rfl rfl ?_
    refine R_run hg.ok 1000 rfl rfl ?_
    exact R_retS hg 1 5 (Nat.le_refl _) rfl rfl rfl

theorem eTerm (Y : YP) (S0 : Bs) (L : List Tk) (hL : L.length ≤ 9000) (hS : S0.length ≤ 9000) (hpl : ∀ t ∈ L, 0 ≤ t.at_ ∧ t.at_ < S0.length ∧ 0 ≤ t.n ∧ t.n ≤ 9223372036854775807) (hvt : ∀ t ∈ L, t.kind = 2 → t.text ≠ []) : ∀ n, ECtr Y S0 L (termR true S0 L n)
  | 0 => fun _ _ _ _ _ h => by cases h
  | n + 1 => fun deep p st t st' h hd hi => eStep Y S0 L hL hS (eTerm Y S0 L hL hS hpl hvt n) (term_inv true S0 L n) hpl hvt deep p st t st' h hd hi
end Go.Proofs.Ythdpfglpdgmphaa

namespace Go.Proofs.Ythdpfglpdgmphaa
open Go PSL Go.Proofs

def clE9 (S0 : Bs) (L : List Tk) : (Nat × RSt × List Clau × Nat) → Env × List Ob
  | (_, st, out, j) => ([(5, .d (.sl (tkRows L))), (8, .lo 0 0), (9, .ow 1 j)], refO S0 L st ++ [.arr 5 j (clRows out)])

set_option maxRecDepth 100000 in
theorem eClauses (S0 : Bs) (hS : S0.length ≤ 9000) (L : List Tk) (hL : L.length ≤ 9000) (hpl : ∀ t ∈ L, 0 ≤ t.at_ ∧ t.at_ < S0.length ∧ 0 ≤ t.n ∧ t.n ≤ 9223372036854775807) (hvt : ∀ t ∈ L, t.kind = 2 → t.text ≠ []) (htk : PCtr Try.prog 25 [txA S0] (.tup [.d (.sl (tkRows L)), iV 0, iV 0]))
    (n : Nat) (right : Tm → Bool) (hb : ∀ st t st', RInv L st → termR true S0 L n 0 1200 st = some (t, st') → st'.e = 0 → PCtr Try.prog 15 [t.av] (bV (right t))) (c : List Clau) (a e : Int) (h : clsR right L S0.length (termR true S0 L n) (L.length + 1) ⟨0, [], 0, 0, false⟩ [] = some (c, a, e)) :
    PCtr Try.prog 10 [txA S0] (.tup [.d (.sl (clRows c)), iV a, iV e]) := by
  have hT := eTerm ⟨[], fun _ => true⟩ S0 L hL hS hpl hvt n
  have hG := term_inv true S0 L n
  refine PCtr.of_R (pf := fun _ => .eff) tyOk mixed Try.func10 rfl (by kernel_rfl) (by kernel_rfl) (by simp [Try.ntmps10]) fun w S hg => ?_
  refine R_run hg.ok 1000 rfl rfl ?_
  refine R_call hg.ok (htk) rfl rfl rfl rfl rfl rfl ?_
  refine R_run hg.ok 1000 rfl rfl ?_
  refine R_if rfl rfl (fun h => absurd h (by simp)) (fun _ => ?_)
  first
  | (refine R_run hg.ok 1 rfl rfl ?_; refine R_own 9 5 rfl rfl ?_)
  | (refine R_run hg.ok 2 rfl rfl ?_; refine R_own 9 5 rfl rfl ?_)
  | (refine R_run hg.ok 3 rfl rfl ?_; refine R_own 9 5 rfl rfl ?_)
  | (refine R_run hg.ok 4 rfl rfl ?_; refine R_own 9 5 rfl rfl ?_)
  | (refine R_run hg.ok 5 rfl rfl ?_; refine R_own 9 5 rfl rfl ?_)
  | (refine R_run hg.ok 6 rfl rfl ?_; refine R_own 9 5 rfl rfl ?_)
  | (refine R_run hg.ok 7 rfl rfl ?_; refine R_own 9 5 rfl rfl ?_)
  | (refine R_run hg.ok 8 rfl rfl ?_; refine R_own 9 5 rfl rfl ?_)
  | (refine R_run hg.ok 9 rfl rfl ?_; refine R_own 9 5 rfl rfl ?_)
  refine R_obs (refO S0 L ⟨0, [], 0, 0, false⟩ ++ [Ob.arr 5 0 []]) ⟨⟨.refl _, .refl _, .refl _, Ent.nil, .refl _, .refl _, trivial⟩, .refl _, trivial⟩ rfl ?_
  refine R_run hg.ok 1000 rfl rfl ?_
  refine R_loop (clE9 S0 L) (fun x => clsR right L S0.length (termR true S0 L n) x.1 x.2.1 x.2.2.1 = some (c, a, e) ∧ x.2.1.e = 0 ∧ x.2.2.1.length + x.1 ≤ L.length + 1 ∧ x.2.1.at_ ≤ L.length) (fun x => x.1) (L.length + 1, ⟨0, [], 0, 0, false⟩, [], 0) ⟨h, rfl, by simp, Nat.zero_le _⟩ ⟨.refl _, .refl _, .refl _, trivial⟩ rfl ?_
  rintro ⟨f, st, out, j⟩ ⟨hm, he0, hlo, hat⟩
  simp only at hm he0 hlo hat
  cases f with
  | zero => cases hm
  | succ f =>
  simp only [clsR] at hm
  refine R_run hg.ok 1000 rfl rfl ?_
  by_cases hat2 : st.at_ < L.length
  · rw [if_pos hat2] at hm
    have e1 : L[st.at_]? = some L[st.at_] := List.getElem?_eq_getElem hat2
    have hplc : plcR L S0.length st.at_ = L[st.at_].at_ := by unfold plcR; rw [e1]
    rw [hplc] at hm
    generalize L[st.at_] = u0 at e1 hm
    refine R_if rfl rfl (fun _ => ?_) (fun h => absurd h (by simp [tkRows_len]; omega)) <;> refine R_run hg.ok 1000 rfl rfl ?_
    refine R_index hg.ok rfl rfl rfl rfl rfl rfl (Int.natCast_nonneg _) (tkRows_get e1) rfl ?_
    first
    | (refine R_run hg.ok 1 rfl rfl ?_; refine R_obs (refO S0 L { st with names := [] } ++ [Ob.arr 5 j (clRows out)]) ⟨⟨.refl _, .refl _, .refl _, Ent.nil, .refl _, .refl _, trivial⟩, .refl _, trivial⟩ rfl ?_)
    | (refine R_run hg.ok 2 rfl rfl ?_; refine R_obs (refO S0 L { st with names := [] } ++ [Ob.arr 5 j (clRows out)]) ⟨⟨.refl _, .refl _, .refl _, Ent.nil, .refl _, .refl _, trivial⟩, .refl _, trivial⟩ rfl ?_)
    | (refine R_run hg.ok 3 rfl rfl ?_; refine R_obs (refO S0 L { st with names := [] } ++ [Ob.arr 5 j (clRows out)]) ⟨⟨.refl _, .refl _, .refl _, Ent.nil, .refl _, .refl _, trivial⟩, .refl _, trivial⟩ rfl ?_)
    | (refine R_run hg.ok 4 rfl rfl ?_; refine R_obs (refO S0 L { st with names := [] } ++ [Ob.arr 5 j (clRows out)]) ⟨⟨.refl _, .refl _, .refl _, Ent.nil, .refl _, .refl _, trivial⟩, .refl _, trivial⟩ rfl ?_)
    | (refine R_run hg.ok 5 rfl rfl ?_; refine R_obs (refO S0 L { st with names := [] } ++ [Ob.arr 5 j (clRows out)]) ⟨⟨.refl _, .refl _, .refl _, Ent.nil, .refl _, .refl _, trivial⟩, .refl _, trivial⟩ rfl ?_)
    | (refine R_run hg.ok 6 rfl rfl ?_; refine R_obs (refO S0 L { st with names := [] } ++ [Ob.arr 5 j (clRows out)]) ⟨⟨.refl _, .refl _, .refl _, Ent.nil, .refl _, .refl _, trivial⟩, .refl _, trivial⟩ rfl ?_)
    | (refine R_run hg.ok 7 rfl rfl ?_; refine R_obs (refO S0 L { st with names := [] } ++ [Ob.arr 5 j (clRows out)]) ⟨⟨.refl _, .refl _, .refl _, Ent.nil, .refl _, .refl _, trivial⟩, .refl _, trivial⟩ rfl ?_)
    | (refine R_run hg.ok 8 rfl rfl ?_; refine R_obs (refO S0 L { st with names := [] } ++ [Ob.arr 5 j (clRows out)]) ⟨⟨.refl _, .refl _, .refl _, Ent.nil, .refl _, .refl _, trivial⟩, .refl _, trivial⟩ rfl ?_)
    | (refine R_run hg.ok 9 rfl rfl ?_; refine R_obs (refO S0 L { st with names := [] } ++ [Ob.arr 5 j (clRows out)]) ⟨⟨.refl _, .refl _, .refl _, Ent.nil, .refl _, .refl _, trivial⟩, .refl _, trivial⟩ rfl ?_)
    obtain ⟨⟨t, st1⟩, ht, hm⟩ := Option.bind_eq_some_iff.1 hm
    have hi0 : RInv L { st with names := [] } := ⟨Nat.zero_le _, hat⟩
    have hi1 := hG _ _ _ _ _ ht hi0
    have hc1 : SCtr Try.prog ⟨[], fun _ => true⟩ 26 [.lo 0 0, iV 1200, iV 0] (refO S0 L { st with names := [] }) t.av (refO S0 L st1) := hT 0 1200 { st with names := [] } t st1 ht (by decide) hi0
    refine R_run hg.ok 1000 rfl rfl ?_
    refine R_callSO hg.ok hg.gup ⟨rfl, rfl⟩ (fun _ _ _ _ h => by cases h) [0] (refO S0 L st1 ++ [.arr 5 j (clRows out)]) (hc1) (fun _ => rfl) rfl rfl rfl rfl rfl rfl rfl rfl ?_
    refine R_run hg.ok 1000 rfl rfl ?_
    simp only at hm
    obtain ⟨st2, hst2⟩ : ∃ st2, st2 = (if (peekR L st1).kind ≠ 5 then failR L S0.length st1 2 else st1) := ⟨_, rfl⟩
    rw [← hst2] at hm
    have h2 : st2.e = 0 → st1.e = 0 ∧ st1.at_ < L.length ∧ st2 = st1 := fun h => by
      by_cases hk5 : (peekR L st1).kind ≠ 5
      · rw [if_pos hk5] at hst2; subst hst2
        unfold failR at h; split at h
        · cases h
        · rename_i hne; exact absurd h hne
      · rw [if_neg hk5] at hst2
        have := peek_lt (L := L) (st := st1) (by rw [Decidable.not_not.1 hk5]; decide)
        exact ⟨this.1, this.2, hst2⟩
    obtain ⟨go, hgo⟩ : ∃ go, go = (decide (st1.e = 0) && decide ((peekR L st1).kind ≠ 5)) := ⟨_, rfl⟩
    refine R_cut1 (fun _ : Unit => ([(5, .d (.sl (tkRows L))), (8, .lo 0 0), (9, .ow 1 j), (10, iV u0.at_), (11, .lo 2 0), (70, bV go)], refO S0 L st1 ++ [.arr 5 j (clRows out), bxT t])) (fun _ => True) rfl ?_ ?_
    · by_cases h0 : st1.e = 0
      · refine R_if rfl rfl (fun _ => ?_) (fun h => absurd h (by simp [h0])) <;> refine R_run hg.ok 1000 rfl rfl ?_
        by_cases hl1 : st1.at_ < L.length
        · have e2 : L[st1.at_]? = some L[st1.at_] := List.getElem?_eq_getElem hl1
          have hpk : peekR L st1 = L[st1.at_] := by unfold peekR; rw [if_neg (by simp [h0]), e2]; rfl
          rw [hpk] at hgo
          generalize L[st1.at_] = u at e2 hgo
          refine R_if rfl rfl (fun h => absurd h (by simp [tkRows_len]; omega)) (fun _ => ?_) <;> refine R_run hg.ok 1000 rfl rfl ?_
          refine R_index hg.ok rfl rfl rfl rfl rfl rfl (Int.natCast_nonneg _) (tkRows_get e2) rfl ?_
          refine R_run hg.ok 1000 rfl rfl ?_
          rw [show go = decide (¬ u.kind = 5) by rw [hgo]; simp [h0]]
          exact R_to () trivial ⟨.refl _, .refl _, .refl _, .refl _, .refl _, by first | exact .refl _ | (simp; exact .refl _), trivial⟩ rfl
        · have hpk : peekR L st1 = zeroTk := by unfold peekR; rw [if_neg (by simp [h0]), List.getElem?_eq_none (by omega)]; rfl
          have hgo : go = true := by rw [hgo, hpk]; simp [h0, zeroTk]
          subst hgo
          refine R_if rfl rfl (fun _ => ?_) (fun h => absurd h (by simp [tkRows_len]; omega)) <;> refine R_run hg.ok 1000 rfl rfl ?_
          exact R_to () trivial ⟨.refl _, .refl _, .refl _, .refl _, .refl _, by first | exact .refl _ | exact Ent.tt | exact Ent.ff, trivial⟩ rfl
      · have hgo : go = false := by rw [hgo]; simp [h0]
        subst hgo
        refine R_if rfl rfl (fun h => absurd h (by simp [h0])) (fun _ => ?_) <;> refine R_run hg.ok 1000 rfl rfl ?_
        exact R_to () trivial ⟨.refl _, .refl _, .refl _, .refl _, .refl _, by first | exact .refl _ | exact Ent.tt | exact Ent.ff, trivial⟩ rfl
    rintro _ _
    refine R_run hg.ok 1000 rfl rfl ?_
    refine R_cut1 (fun _ : Unit => ([(5, .d (.sl (tkRows L))), (8, .lo 0 0), (9, .ow 1 j), (10, iV u0.at_), (11, .lo 2 0)], refO S0 L st2 ++ [.arr 5 j (clRows out), bxT t])) (fun _ => True) rfl ?_ ?_
    · cases go with
      | true =>
        have hk5 : (peekR L st1).kind ≠ 5 := by have := hgo.symm; simp only [Bool.and_eq_true, decide_eq_true_eq] at this; exact this.2
        rw [if_pos hk5] at hst2
        refine R_if rfl rfl (fun _ => ?_) (fun h => absurd h (by simp)) <;> refine R_run hg.ok 1000 rfl rfl ?_
        refine R_callSO hg.ok hg.gup ⟨rfl, rfl⟩ (fun _ _ _ _ h => by cases h) [0] (refO S0 L (failR L S0.length st1 2) ++ [.arr 5 j (clRows out), bxT t]) (eFail ⟨[], fun _ => true⟩ S0 L st1 2) (fun _ => rfl) rfl rfl rfl rfl rfl rfl rfl rfl ?_
        refine R_run hg.ok 1000 rfl rfl ?_
        rw [hst2]
        exact R_to () trivial ⟨.refl _, .refl _, .refl _, .refl _, .refl _, trivial⟩ rfl
      | false =>
        have hs : st2 = st1 := by
          rw [hst2]
          split
          · rename_i hk5
            by_cases h0 : st1.e = 0
            · rw [h0] at hgo; simp [hk5] at hgo
            · exact failR_err h0
          · rfl
        refine R_if rfl rfl (fun h => absurd h (by simp)) (fun _ => ?_) <;> refine R_run hg.ok 1000 rfl rfl ?_
        rw [hs]
        exact R_to () trivial ⟨.refl _, .refl _, .refl _, .refl _, .refl _, trivial⟩ rfl
    rintro _ _
    obtain ⟨st3, hst3⟩ : ∃ st3, st3 = (if st2.e = 0 ∧ right t = false then { st2 with e := 3, bad := u0.at_ } else st2) := ⟨_, rfl⟩
    rw [← hst3] at hm
    refine R_run hg.ok 1000 rfl rfl ?_
    by_cases h0 : st2.e = 0
    · obtain ⟨h3, h4, h5⟩ := h2 h0
      have hR := hb _ _ _ hi0 ht h3
      refine R_if rfl rfl (fun h => absurd h (by simp [h0])) (fun _ => ?_) <;> refine R_run hg.ok 1000 rfl rfl ?_
      cases hr : right t with
      | false =>
        have hst3 : st3 = { st2 with e := 3, bad := u0.at_ } := by rw [hst3, hr]; exact if_pos ⟨h0, rfl⟩
        subst hst3
        rw [hr] at hR
        rw [if_pos (show ((3 : Int) ≠ 0) by decide)] at hm
        cases hm
        refine R_call hg.ok (hR) rfl rfl rfl rfl rfl rfl ?_
        refine R_run hg.ok 1000 rfl rfl ?_
        refine R_if rfl rfl (fun _ => ?_) (fun h => absurd h (by simp)) <;> refine R_run hg.ok 1000 rfl rfl ?_
        refine R_ret hg 5 rfl rfl ?_
        rfl
      | true =>
        have hst3 : st3 = st2 := by rw [hst3, hr]; exact if_neg (by simp)
        rw [hst3] at hm
        rw [hr] at hR
        rw [if_neg (by simp [h0])] at hm
        refine R_call hg.ok (hR) rfl rfl rfl rfl rfl rfl ?_
        refine R_run hg.ok 1000 rfl rfl ?_
        refine R_if rfl rfl (fun h => absurd h (by simp)) (fun _ => ?_)
        have hnat : (nxR st2).at_ = st1.at_ + 1 := by rw [h5]; rfl
        first
        | (refine R_run hg.ok 1 rfl rfl ?_; refine R_refAt (st := st2) (st2.at_ + 1) rfl (by rw [h5]; omega) rfl ?_)
        | (refine R_run hg.ok 2 rfl rfl ?_; refine R_refAt (st := st2) (st2.at_ + 1) rfl (by rw [h5]; omega) rfl ?_)
        | (refine R_run hg.ok 3 rfl rfl ?_; refine R_refAt (st := st2) (st2.at_ + 1) rfl (by rw [h5]; omega) rfl ?_)
        | (refine R_run hg.ok 4 rfl rfl ?_; refine R_refAt (st := st2) (st2.at_ + 1) rfl (by rw [h5]; omega) rfl ?_)
        | (refine R_run hg.ok 5 rfl rfl ?_; refine R_refAt (st := st2) (st2.at_ + 1) rfl (by rw [h5]; omega) rfl ?_)
        | (refine R_run hg.ok 6 rfl rfl ?_; refine R_refAt (st := st2) (st2.at_ + 1) rfl (by rw [h5]; omega) rfl ?_)
        | (refine R_run hg.ok 7 rfl rfl ?_; refine R_refAt (st := st2) (st2.at_ + 1) rfl (by rw [h5]; omega) rfl ?_)
        | (refine R_run hg.ok 8 rfl rfl ?_; refine R_refAt (st := st2) (st2.at_ + 1) rfl (by rw [h5]; omega) rfl ?_)
        refine R_run hg.ok 1000 rfl rfl ?_
        refine R_appendO hg.ok (clRows (out ++ [(t, st2.names)])) rfl rfl rfl rfl rfl rfl rfl rfl rfl (by simp) (by simp [one1]) (by rw [clRows, clRows, List.map_append]; rfl) (by rw [clRows_len]; simp; omega) (by rw [clRows_len]; simp; omega) ?_
        refine R_run hg.ok 1000 rfl rfl ?_
        refine R_dropO 2 (refO S0 L (nxR st2) ++ [Ob.arr 5 (j + 1) (clRows (out ++ [(t, st2.names)]))]) (Nat.zero_le _) rfl rfl ?_
        exact R_next (f, nxR st2, out ++ [(t, st2.names)], j + 1) ⟨hm, h0, by simp; omega, by rw [h5]; exact h4⟩ (by simp only; omega) ⟨.refl _, .refl _, .refl _, trivial⟩ rfl
    · have hst3 : st3 = st2 := by rw [hst3]; exact if_neg (fun h => h0 h.1)
      rw [hst3, if_pos h0] at hm
      cases hm
      refine R_if rfl rfl (fun _ => ?_) (fun h => absurd h (by simp [h0])) <;> refine R_run hg.ok 1000 rfl rfl ?_
      refine R_ret hg 5 rfl rfl ?_
      rfl
  · rw [if_neg hat2] at hm
    cases hm
    refine R_if rfl rfl (fun h => absurd h (by simp [tkRows_len]; omega)) (fun _ => ?_) <;> refine R_run hg.ok 1000 rfl rfl ?_
    exact R_ret hg 5 rfl (sealA_tup (mapO_cons (sealA_ow rfl) rfl)) rfl
end Go.Proofs.Ythdpfglpdgmphaa

namespace Go.Proofs.Ythdpfglpdgmphaa
open Go PSL Go.Proofs

set_option maxRecDepth 100000 in
theorem words_ok (a b : List Bs) (ha : a.length ≤ 100000) : PCtr Try.prog 12 [.d (.sl (strRows a)), .d (.sl (strRows b))] (bV (a == b)) := by
  refine PCtr.of_R (pf := fun _ => .still) tyOk mixed Try.func12 rfl (by kernel_rfl) (by kernel_rfl) (by simp [Try.ntmps12]) fun w S hg => ?_
  refine R_run hg.ok 1000 rfl rfl ?_
  by_cases hl : a.length = b.length
  · refine R_if rfl rfl (fun h => absurd h (by simp [strRows_len, hl])) (fun _ => ?_) <;> refine R_run hg.ok 1000 rfl rfl ?_
    refine R_loop (fun k : Nat => ([(0, .d (.sl (strRows a))), (1, .d (.sl (strRows b))), (5, iV k)], [])) (fun k => k ≤ a.length ∧ (a == b) = (a.drop k == b.drop k)) (fun k => a.length - k) 0 ⟨Nat.zero_le _, rfl⟩ ⟨.refl _, .refl _, .refl _, trivial⟩ rfl ?_
    rintro k ⟨hk, hm⟩
    refine R_run hg.ok 1000 rfl rfl ?_
    refine R_if rfl rfl (fun h => ?_) (fun h => ?_) <;> refine R_run hg.ok 1000 rfl rfl ?_
    · have hk1 : k < a.length := by have := of_decide_eq_true h; rw [strRows_len] at this; omega
      have hk2 : k < b.length := by omega
      have e1 : a[k]? = some a[k] := List.getElem?_eq_getElem hk1
      have e2 : b[k]? = some b[k] := List.getElem?_eq_getElem hk2
      rw [List.drop_eq_getElem_cons hk1, List.drop_eq_getElem_cons hk2, List.cons_beq_cons] at hm
      generalize a[k] = x at e1 hm
      generalize b[k] = y at e2 hm
      refine R_index hg.ok rfl rfl rfl rfl rfl rfl (Int.natCast_nonneg _) (strRows_get e1) rfl ?_
      refine R_run hg.ok 1000 rfl rfl ?_
      refine R_index hg.ok rfl rfl rfl rfl rfl rfl (Int.natCast_nonneg _) (strRows_get e2) rfl ?_
      refine R_run hg.ok 1000 rfl rfl ?_
      have he : strEq (Tx x) (Tx y) = (x == y) := Tx_eq _ _
      by_cases hx : x = y
      · refine R_if rfl rfl (fun h => absurd h (by rw [he, hx]; simp)) (fun _ => ?_) <;> refine R_run hg.ok 1000 rfl rfl ?_
        exact R_next (k + 1) ⟨hk1, by rw [hm, hx]; simp⟩ (by omega) ⟨.refl _, .refl _, Ent.wrap (by omega) (by omega) (by omega), trivial⟩ rfl
      · refine R_if rfl rfl (fun _ => ?_) (fun h => absurd h (by rw [he]; simpa using hx)) <;> refine R_run hg.ok 1000 rfl rfl ?_
        refine R_ret hg 5 rfl rfl ?_
        rw [hm, show (x == y) = false by simpa using hx]; rfl
    · have hk1 : a.length ≤ k := by have := of_decide_eq_false h; rw [strRows_len] at this; omega
      refine R_ret hg 5 rfl rfl ?_
      rw [hm, List.drop_eq_nil_of_le hk1, List.drop_eq_nil_of_le (by omega)]; rfl
  · refine R_if rfl rfl (fun _ => ?_) (fun h => absurd h (by simp [strRows_len]; omega)) <;> refine R_run hg.ok 1000 rfl rfl ?_
    refine R_ret hg 5 rfl rfl ?_
    rw [show (a == b) = false by simp; exact fun h => hl (by rw [h])]; rfl
end Go.Proofs.Ythdpfglpdgmphaa

namespace Go.Proofs.Ythdpfglpdgmphaa
open Go PSL Go.Proofs

/-- A clause by itself. -/
def clA (x : Clau) : AV := .agg [.d (.v (.int .i64 x.1.k)), .d (.v (.string x.1.s)), .d (.v (.int .i64 x.1.n)), .d (.sl (Tm.rows x.1.l)), .d (.sl (strRows x.2))]

def oneR (n : Nat) : List Clau × Int × Int → Clau × Int × Int
  | (c, a, e) => if e ≠ 0 then ((zeroT, []), a, e) else match c with
    | [x] => (x, 0, 0)
    | _ => ((zeroT, []), n, 2)

set_option maxRecDepth 100000 in
theorem one_ok (S0 : Bs) (c : List Clau) (a e : Int) (h : PCtr Try.prog 9 [txA S0] (.tup [.d (.sl (clRows c)), iV a, iV e])) : PCtr Try.prog 13 [txA S0] (.tup [clA (oneR S0.length (c, a, e)).1, iV (oneR S0.length (c, a, e)).2.1, iV (oneR S0.length (c, a, e)).2.2]) := by
  unfold oneR
  simp only
  refine PCtr.of_R (pf := fun _ => .eff) tyOk mixed Try.func13 rfl (by kernel_rfl) (by kernel_rfl) (by simp [Try.ntmps13]) fun w S hg => ?_
  refine R_run hg.ok 1000 rfl rfl ?_
  refine R_call hg.ok (h) rfl rfl rfl rfl rfl rfl ?_
  refine R_run hg.ok 1000 rfl rfl ?_
  by_cases he : e ≠ 0
  · rw [if_pos he]
    refine R_if rfl rfl (fun _ => ?_) (fun h => absurd h (by simp [he])) <;> refine R_run hg.ok 1000 rfl rfl ?_
    refine R_ret hg 5 rfl rfl ?_
    rfl
  rw [if_neg he]
  refine R_if rfl rfl (fun h => absurd h (by simpa using he)) (fun _ => ?_) <;> refine R_run hg.ok 1000 rfl rfl ?_
  match c with
  | [x] =>
    refine R_if rfl rfl (fun h => absurd h (by simp [clRows])) (fun _ => ?_) <;> refine R_run hg.ok 1000 rfl rfl ?_
    refine R_index hg.ok rfl rfl rfl rfl rfl rfl (by decide) (show (clRows [x])[Int.toNat 0]? = some (clRow x) from rfl) rfl ?_
    refine R_run hg.ok 1000 rfl rfl ?_
    refine R_ret hg 5 rfl rfl ?_
    rfl
  | [] =>
    refine R_if rfl rfl (fun _ => ?_) (fun h => absurd h (by simp [clRows])) <;> refine R_run hg.ok 1000 rfl rfl ?_
    refine R_ret hg 5 rfl rfl ?_
    rw [Tx_size]; rfl
  | x :: y :: l =>
    refine R_if rfl rfl (fun _ => ?_) (fun h => absurd h (by simp [clRows]; omega)) <;> refine R_run hg.ok 1000 rfl rfl ?_
    refine R_ret hg 5 rfl rfl ?_
    rw [Tx_size]; rfl
end Go.Proofs.Ythdpfglpdgmphaa

namespace PSL
open Go
def TMono (T : TF) : Prop := ∀ deep p st t st', T deep p st = some (t, st') → st.at_ ≤ st'.at_
section
variable {S : Bs} {L : List Tk} {T : TF} {st : RSt}
theorem fail_at {n : Nat} {c : Int} : (failR L n st c).at_ = st.at_ := by unfold failR; split <;> rfl

theorem must_at {n : Nat} {s : Bs} : st.at_ ≤ (mustR L n st s).at_ := by
  unfold mustR; split
  · simp [nxR]
  · rw [fail_at]; exact Nat.le_refl _
theorem begS_at : (begS L st).at_ = st.at_ := by unfold begS; split <;> rfl
theorem nx_at : (nxR st).at_ = st.at_ + 1 := rfl

theorem many_mono (hT : TMono T) : ∀ (f deep : Nat) (st : RSt) (acc : List Tm) (l : List Tm) (st' : RSt), manyR L T f deep st acc = some (l, st') → st.at_ ≤ st'.at_
  | 0, _, _, _, _, _, h => by cases h
  | f + 1, deep, st, acc, l, st', h => by
    simp only [manyR] at h
    split at h
    · obtain ⟨x, hx, h⟩ := Option.bind_eq_some_iff.1 h
      have h1 := hT _ _ _ _ _ hx
      have h2 := many_mono hT f deep _ _ _ _ h
      rw [nx_at] at h1; omega
    · cases h; exact Nat.le_refl _

theorem row_mono (hT : TMono T) {deep : Nat} {l : List Tm} {st' : RSt} (h : rowR L T deep st = some (l, st')) : st.at_ ≤ st'.at_ := by
  obtain ⟨x, hx, h⟩ := Option.bind_eq_some_iff.1 h
  exact Nat.le_trans (hT _ _ _ _ _ hx) (many_mono hT _ _ _ _ _ _ h)

theorem named_mono (hT : TMono T) {deep : Nat} {p : Int} {t : Tk} {x : Tm × Int × RSt} (h : namedR S L T deep p t st = some x) : st.at_ ≤ x.2.2.at_ := by
  unfold namedR at h
  split at h
  · cases h; simp [nxR]; omega
  · split at h
    · obtain ⟨y, hy, rfl⟩ := Option.map_eq_some_iff.1 h
      have h1 := row_mono hT hy
      have h2 := must_at (L := L) (st := nxR st) (n := S.length) (s := [40])
      have h3 := must_at (L := L) (st := y.2) (n := S.length) (s := [41])
      rw [nx_at] at h2; simp only; omega
    · split at h
      · split at h
        · split at h
          · cases h; simp only; rw [fail_at]; exact Nat.le_refl _
          · obtain ⟨y, hy, rfl⟩ := Option.map_eq_some_iff.1 h
            have := hT _ _ _ _ _ hy
            rw [begS_at, nx_at] at this; simp only; omega
        · cases h; simp only; rw [begS_at, nx_at]; omega
      · cases h; simp [nxR]

theorem list_mono (hT : TMono T) {deep : Nat} {x : Tm × RSt} (h : listR S L T deep st = some x) : st.at_ ≤ x.2.at_ := by
  obtain ⟨y, hy, h⟩ := Option.bind_eq_some_iff.1 h
  have h1 := row_mono hT hy
  split at h
  · obtain ⟨z, hz, rfl⟩ := Option.map_eq_some_iff.1 h
    have h2 := hT _ _ _ _ _ hz
    have h3 := must_at (L := L) (st := z.2) (n := S.length) (s := [93])
    rw [nx_at] at h2; simp only; omega
  · cases h; exact Nat.le_trans h1 must_at

theorem opnd_mono (hT : TMono T) {sw : Bool} {deep : Nat} {p : Int} {x : Tm × Int × RSt} (h : opndR sw S L T deep p st = some x) : st.at_ ≤ x.2.2.at_ := by
  unfold opndR at h
  split at h
  · cases h; simp only; rw [fail_at]; exact Nat.le_refl _
  split at h
  · cases h; simp [nxR]
  split at h
  · cases h; simp only; rw [(var_at _).1]; simp [nxR]
  split at h
  · obtain ⟨y, hy, rfl⟩ := Option.map_eq_some_iff.1 h
    have := named_mono hT hy
    split <;> exact this
  split at h
  · obtain ⟨y, hy, rfl⟩ := Option.map_eq_some_iff.1 h
    have h2 := hT _ _ _ _ _ hy
    have h3 := must_at (L := L) (st := y.2) (n := S.length) (s := [41])
    rw [nx_at] at h2; simp only; omega
  split at h
  · obtain ⟨y, hy, rfl⟩ := Option.map_eq_some_iff.1 h
    have := list_mono hT hy
    rw [nx_at] at this; simp only; omega
  · cases h; simp only; rw [fail_at]; exact Nat.le_refl _

theorem rest_mono (hT : TMono T) : ∀ (f deep : Nat) (p : Int) (out : Tm) (now : Int) (st : RSt) (t : Tm) (st' : RSt), restR L T f deep p out now st = some (t, st') → st.at_ ≤ st'.at_
  | 0, _, _, _, _, _, _, _, h => by cases h
  | f + 1, deep, p, out, now, st, t, st', h => by
    simp only [restR] at h
    split at h
    · cases h; exact Nat.le_refl _
    split at h
    · cases h; rw [inS_at]; exact Nat.le_refl _
    · split at h
      · cases h; rw [inS_at]; exact Nat.le_refl _
      · obtain ⟨x, hx, h⟩ := Option.bind_eq_some_iff.1 h
        have h1 := hT _ _ _ _ _ hx
        have h2 := rest_mono hT f deep p _ _ _ _ _ h
        rw [nx_at, inS_at] at h1; omega
end

theorem term_mono (sw : Bool) (S : Bs) (L : List Tk) : ∀ n, TMono (termR sw S L n)
  | 0 => fun _ _ _ _ _ h => by cases h
  | n + 1 => fun deep p st t st' h => by
    simp only [termR] at h
    obtain ⟨x, hx, h⟩ := Option.bind_eq_some_iff.1 h
    exact Nat.le_trans (opnd_mono (term_mono sw S L n) hx) (rest_mono (term_mono sw S L n) _ _ _ _ _ _ _ _ h)
end PSL

namespace PSL
open Go

/-- Steps enough for a state. -/
def Enuf (L : List Tk) (m : Nat) (st : RSt) : Prop := st.e ≠ 0 ∨ L.length + 1 ≤ st.at_ + m
def TOk (L : List Tk) (m : Nat) (T : TF) : Prop := ∀ deep p st, RInv L st → Enuf L m st → ∃ r, T deep p st = some r
def TStick (T : TF) : Prop := ∀ deep p st t st', T deep p st = some (t, st') → st.e ≠ 0 → st' = st
section
variable {S : Bs} {L : List Tk} {T : TF} {st : RSt} {m : Nat}
theorem flE {n : Nat} {c : Int} (h : st.e ≠ 0) : failR L n st c = st := by unfold failR; rw [if_neg h]
theorem flN {n : Nat} {c : Int} (hc : c ≠ 0) : (failR L n st c).e ≠ 0 := by unfold failR; split; exact hc; assumption
theorem pkE (h : st.e ≠ 0) : peekR L st = zeroTk := by unfold peekR; rw [if_pos h]

theorem opE {sw : Bool} {deep : Nat} {p : Int} (h : st.e ≠ 0) : opndR sw S L T deep p st = some (zeroT, 0, st) := by
  unfold opndR
  rw [pkE h, flE h, flE h]
  split
  · rfl
  · rfl
theorem reE {f deep : Nat} {p now : Int} {out : Tm} (h : st.e ≠ 0) : restR L T (f + 1) deep p out now st = some (out, st) := by simp only [restR]; rw [if_pos h]
theorem mkE {s : Bs} (h : st.e ≠ 0) : isMk (peekR L st) s = false := by rw [pkE h]; rfl

theorem term_stick (sw : Bool) (S : Bs) (L : List Tk) : ∀ n, TStick (termR sw S L n)
  | 0 => fun _ _ _ _ _ h _ => by cases h
  | n + 1 => fun deep p st t st' h he => by
    simp only [termR] at h
    rw [opE he] at h
    simp only [Option.bind_some] at h
    rw [reE he] at h
    cases h; rfl

theorem Enuf.grow {st' : RSt} (hT : TStick T) (hM : TMono T) {deep : Nat} {p : Int} {t : Tm} (hx : T deep p st = some (t, st')) (h : Enuf L m st) : Enuf L m st' := by
  rcases h with h | h
  · exact .inl (by rw [hT _ _ _ _ _ hx h]; exact h)
  · exact .inr (by have := hM _ _ _ _ _ hx; omega)

theorem Enuf.must {n : Nat} {s : Bs} (h : Enuf L m st) : Enuf L m (mustR L n st s) := by
  rcases h with h | h
  · exact .inl (by unfold mustR; rw [mkE h]; simp only [Bool.false_eq_true, if_false]; rw [flE h]; exact h)
  · exact .inr (by have := must_at (L := L) (st := st) (n := n) (s := s); omega)

theorem many_ok (hT : TOk L m T) (hG : TGood L T) (hS : TStick T) (hM : TMono T) : ∀ (f deep : Nat) (st : RSt) (acc : List Tm), RInv L st → Enuf L m st → L.length + 1 ≤ st.at_ + f → 1 ≤ f → ∃ r, manyR L T f deep st acc = some r
  | 0, _, _, _, _, _, _, h => by omega
  | f + 1, deep, st, acc, hi, he, hf, _ => by
    simp only [manyR]
    cases hmk : isMk (peekR L st) [44] with
    | false => exact ⟨_, rfl⟩
    | true =>
      have hl := isMk_lt hmk
      have hi2 := hi.nx hl.2
      have he2 : Enuf L m (nxR st) := he.imp id fun h => by rw [nx_at]; omega
      obtain ⟨⟨x, st2⟩, hx⟩ := hT deep 999 (nxR st) hi2 he2
      have h1 := hM _ _ _ _ _ hx
      rw [nx_at] at h1
      simp only [if_true]
      rw [hx]
      exact many_ok hT hG hS hM f deep st2 _ (hG _ _ _ _ _ hx hi2) (he2.grow hS hM hx) (by omega) (by omega)

theorem row_ok (hT : TOk L m T) (hG : TGood L T) (hS : TStick T) (hM : TMono T) (deep : Nat) (hi : RInv L st) (he : Enuf L m st) : ∃ r, rowR L T deep st = some r := by
  obtain ⟨⟨x, st2⟩, hx⟩ := hT deep 999 st hi he
  unfold rowR
  rw [hx]
  exact many_ok hT hG hS hM _ deep st2 _ (hG _ _ _ _ _ hx hi) (he.grow hS hM hx) (by omega) (by omega)

theorem row_enuf (hS : TStick T) (hM : TMono T) {deep : Nat} {l : List Tm} {st' : RSt} (h : rowR L T deep st = some (l, st')) (he : Enuf L m st) : Enuf L m st' := by
  rcases he with h0 | h0
  · obtain ⟨⟨x, st2⟩, hx, h2⟩ := Option.bind_eq_some_iff.1 h
    have h2 : manyR L T (L.length + 1 + 1) deep st2 [x] = some (l, st') := h2
    rw [hS _ _ _ _ _ hx h0] at h2
    simp only [manyR] at h2
    rw [mkE h0] at h2
    cases h2
    exact .inl h0
  · exact .inr (by have := row_mono hM h; omega)

theorem named_ok (hT : TOk L m T) (hG : TGood L T) (hS : TStick T) (hM : TMono T) (deep : Nat) (p : Int) (t : Tk) (hi : RInv L st) (hl : st.at_ < L.length) (he : Enuf L m (nxR st)) : ∃ r, namedR S L T deep p t st = some r := by
  have hn := hi.nx hl
  unfold namedR
  split
  · exact ⟨_, rfl⟩
  split
  · obtain ⟨r, hr⟩ := row_ok hT hG hS hM deep hn.must he.must
    rw [hr]; exact ⟨_, rfl⟩
  split
  · split
    · split
      · exact ⟨_, rfl⟩
      · have hb : Enuf L m (begS L (nxR st)) := by
          rcases he with h | h
          · exact .inl (by unfold begS; split <;> exact h)
          · exact .inr (by rw [begS_at]; exact h)
        obtain ⟨r, hr⟩ := hT deep (preT t.text) _ hn.beg hb
        rw [hr]; exact ⟨_, rfl⟩
    · exact ⟨_, rfl⟩
  · exact ⟨_, rfl⟩

theorem list_ok (hT : TOk L m T) (hG : TGood L T) (hS : TStick T) (hM : TMono T) (deep : Nat) (hi : RInv L st) (he : Enuf L m st) : ∃ r, listR S L T deep st = some r := by
  obtain ⟨⟨l, st1⟩, hr⟩ := row_ok hT hG hS hM deep hi he
  unfold listR
  rw [hr]
  simp only [Option.bind_some]
  cases hmk : isMk (peekR L st1) [124] with
  | false => exact ⟨_, rfl⟩
  | true =>
    have hl := isMk_lt hmk
    have hi1 := row_inv hG hr hi
    have he1 : Enuf L m (nxR st1) := (row_enuf hS hM hr he).imp id fun h => by rw [nx_at]; omega
    obtain ⟨r, hr⟩ := hT deep 999 _ (hi1.nx hl.2) he1
    simp only [if_true]
    rw [hr]; exact ⟨_, rfl⟩
end
end PSL

namespace PSL
open Go
section
variable {S : Bs} {L : List Tk} {T : TF} {st : RSt} {m : Nat}

theorem opnd_ok (hT : TOk L m T) (hG : TGood L T) (hS : TStick T) (hM : TMono T) (sw : Bool) (deep : Nat) (p : Int) (hi : RInv L st) (hl : st.at_ < L.length) (he : Enuf L m (nxR st)) : ∃ r, opndR sw S L T deep p st = some r := by
  have hn := hi.nx hl
  unfold opndR
  split
  · exact ⟨_, rfl⟩
  split
  · exact ⟨_, rfl⟩
  split
  · exact ⟨_, rfl⟩
  split
  · obtain ⟨r, hr⟩ := named_ok (S := S) hT hG hS hM (deep + 1) p (peekR L st) hi hl he
    rw [hr]; exact ⟨_, rfl⟩
  split
  · obtain ⟨r, hr⟩ := hT (deep + 1) 1200 _ hn he
    rw [hr]; exact ⟨_, rfl⟩
  split
  · obtain ⟨r, hr⟩ := list_ok (S := S) hT hG hS hM (deep + 1) hn he
    rw [hr]; exact ⟨_, rfl⟩
  · exact ⟨_, rfl⟩

theorem rest_ok (hT : TOk L m T) (hG : TGood L T) (hM : TMono T) : ∀ (f deep : Nat) (p : Int) (out : Tm) (now : Int) (st : RSt), RInv L st → L.length ≤ st.at_ + m → L.length + 1 ≤ st.at_ + f → 1 ≤ f → ∃ r, restR L T f deep p out now st = some r
  | 0, _, _, _, _, _, _, _, _, h => by omega
  | f + 1, deep, p, out, now, st, hi, hm, hf, _ => by
    simp only [restR]
    split
    · exact ⟨_, rfl⟩
    split
    · exact ⟨_, rfl⟩
    · rename_i q l r hin
      split
      · exact ⟨_, rfl⟩
      · have hl := (ins_lt hin).2
        have hi2 : RInv L (nxR (inS L st)) := hi.ins.nx (by rw [inS_at]; exact hl)
        have hat : (nxR (inS L st)).at_ = st.at_ + 1 := by rw [nx_at, inS_at]
        obtain ⟨⟨x, st2⟩, hx⟩ := hT deep r _ hi2 (.inr (by rw [hat]; omega))
        have h1 := hM _ _ _ _ _ hx
        rw [hx]
        exact rest_ok hT hG hM f deep p _ _ st2 (hG _ _ _ _ _ hx hi2) (by omega) (by omega) (by omega)
end

/-- So many steps as there are tokens left, and one, are enough. -/
theorem term_ok (sw : Bool) (S : Bs) (L : List Tk) : ∀ n, 1 ≤ n → TOk L n (termR sw S L n)
  | 0, h => by omega
  | n + 1, _ => fun deep p st hi he => by
    simp only [termR]
    by_cases h0 : st.e ≠ 0
    · rw [opE h0]
      exact ⟨_, reE h0⟩
    have he : L.length + 1 ≤ st.at_ + (n + 1) := he.resolve_left h0
    have h0 : st.e = 0 := by simpa using h0
    by_cases hl : st.at_ < L.length
    · have hT := term_ok sw S L n (by omega)
      have hG := term_inv sw S L n
      have hM := term_mono sw S L n
      obtain ⟨x, hx⟩ := opnd_ok (S := S) hT hG (term_stick sw S L n) hM sw deep p hi hl (.inr (by rw [nx_at]; omega))
      have h1 := opnd_mono hM hx
      rw [hx]
      exact rest_ok hT hG hM _ deep p _ _ _ (opnd_inv hG hx hi) (by omega) (by omega) (by omega)
    · have hpk : peekR L st = zeroTk := by unfold peekR; rw [if_neg (by simp [h0]), List.getElem?_eq_none (by omega)]; rfl
      have hx : ∃ c, c ≠ 0 ∧ opndR sw S L (termR sw S L n) deep p st = some (zeroT, 0, failR L S.length st c) := by
        unfold opndR
        rw [hpk]
        split
        · exact ⟨3, by decide, rfl⟩
        · exact ⟨2, by decide, rfl⟩
      obtain ⟨c, hc, hx⟩ := hx
      rw [hx]
      exact ⟨_, reE (flN hc)⟩
end PSL

namespace PSL
open Go

/-- The same state, and the same value unless something is amiss. -/
def Agr {α : Type} (a b : Option (α × RSt)) : Prop := match a, b with
  | some x, some y => x.2 = y.2 ∧ (x.2.e = 0 → x.1 = y.1)
  | none, none => True
  | _, _ => False

def Agr3 (a b : Option (Tm × Int × RSt)) : Prop := match a, b with
  | some x, some y => x.2.2 = y.2.2 ∧ (x.2.2.e = 0 → x = y)
  | none, none => True
  | _, _ => False
theorem Agr.rfl' {α : Type} (a : Option (α × RSt)) : Agr a a := by cases a <;> simp [Agr]
theorem Agr3.rfl' (a : Option (Tm × Int × RSt)) : Agr3 a a := by cases a <;> simp [Agr3]

theorem Agr.bind {α β : Type} {a b : Option (α × RSt)} {f g : α × RSt → Option (β × RSt)} (h : Agr a b) (hf : ∀ x y s, (s.e = 0 → x = y) → Agr (f (x, s)) (g (y, s))) : Agr (a.bind f) (b.bind g) := by
  cases a with
  | none => cases b with
    | none => trivial
    | some y => exact h.elim
  | some x => cases b with
    | none => exact h.elim
    | some y =>
      obtain ⟨x, s⟩ := x
      obtain ⟨y, s'⟩ := y
      obtain ⟨h1, h2⟩ := h
      simp only at h1 h2
      subst h1
      exact hf x y s h2

theorem Agr.map3 {α : Type} {a b : Option (α × RSt)} {f g : α × RSt → Tm × Int × RSt} (h : Agr a b) (hf : ∀ x y s, (s.e = 0 → x = y) → Agr3 (some (f (x, s))) (some (g (y, s)))) : Agr3 (a.map f) (b.map g) := by
  cases a with
  | none => cases b with
    | none => trivial
    | some y => exact h.elim
  | some x => cases b with
    | none => exact h.elim
    | some y =>
      obtain ⟨x, s⟩ := x
      obtain ⟨y, s'⟩ := y
      obtain ⟨h1, h2⟩ := h
      simp only at h1 h2
      subst h1
      exact hf x y s h2
def AgrT (T T' : TF) : Prop := ∀ deep p st, Agr (T deep p st) (T' deep p st)
section
variable {S : Bs} {L : List Tk} {T T' : TF} {st : RSt}

theorem must_e {n : Nat} {s : Bs} (h : (mustR L n st s).e = 0) : st.e = 0 := by
  by_cases he : st.e = 0
  · exact he
  · unfold mustR at h
    rw [mkE he] at h
    simp only [Bool.false_eq_true, if_false] at h
    rw [flE he] at h
    exact h

theorem many_agr (h : AgrT T T') : ∀ (f deep : Nat) (st : RSt) (acc acc' : List Tm), (st.e = 0 → acc = acc') → Agr (manyR L T f deep st acc) (manyR L T' f deep st acc')
  | 0, _, _, _, _, _ => trivial
  | f + 1, deep, st, acc, acc', ha => by
    simp only [manyR]
    cases hmk : isMk (peekR L st) [44] with
    | false => exact ⟨rfl, ha⟩
    | true =>
      have := ha (isMk_lt hmk).1
      subst this
      simp only [if_true]
      exact (h deep 999 (nxR st)).bind fun x y s hs => many_agr h f deep s _ _ fun he => by rw [hs he]

theorem row_agr (h : AgrT T T') (deep : Nat) : Agr (rowR L T deep st) (rowR L T' deep st) :=
  (h deep 999 st).bind fun x y s hs => many_agr h _ deep s _ _ fun he => by rw [hs he]

theorem named_agr (h : AgrT T T') (deep : Nat) (p : Int) (t : Tk) : Agr3 (namedR S L T deep p t st) (namedR S L T' deep p t st) := by
  unfold namedR
  split
  · exact Agr3.rfl' _
  split
  · exact (row_agr h deep).map3 fun x y s hs => ⟨rfl, fun he => by rw [hs (must_e he)]⟩
  split
  · split
    · split
      · exact Agr3.rfl' _
      · exact (h deep (preT t.text) _).map3 fun x y s hs => ⟨rfl, fun he => by rw [hs he]⟩
    · exact Agr3.rfl' _
  · exact Agr3.rfl' _
end
end PSL

namespace PSL
open Go
section
variable {S : Bs} {L : List Tk} {T T' : TF} {st : RSt}

theorem Agr.map {α β : Type} {a b : Option (α × RSt)} {f g : α × RSt → β × RSt} (h : Agr a b) (hf : ∀ x y s, (s.e = 0 → x = y) → Agr (some (f (x, s))) (some (g (y, s)))) : Agr (a.map f) (b.map g) := by
  cases a with
  | none => cases b with
    | none => trivial
    | some y => exact h.elim
  | some x => cases b with
    | none => exact h.elim
    | some y =>
      obtain ⟨x, s⟩ := x
      obtain ⟨y, s'⟩ := y
      obtain ⟨h1, h2⟩ := h
      simp only at h1 h2
      subst h1
      exact hf x y s h2

theorem list_agr (h : AgrT T T') (hS : TStick T) (deep : Nat) : Agr (listR S L T deep st) (listR S L T' deep st) := by
  refine (row_agr h deep).bind fun x y s hs => ?_
  simp only
  cases hmk : isMk (peekR L s) [124] with
  | true =>
    have := hs (isMk_lt hmk).1
    subst this
    simp only [if_true]
    exact (h deep 999 (nxR s)).map fun x' y' s' hs' => ⟨rfl, fun he => by rw [hs' (must_e he)]⟩
  | false => exact ⟨rfl, fun he => by simp only at he; rw [hs (must_e he)]⟩

theorem opnd_agr (h : AgrT T T') (hS : TStick T) (sw sw' : Bool) (deep : Nat) (p : Int) : Agr3 (opndR sw S L T deep p st) (opndR sw' S L T' deep p st) := by
  unfold opndR
  split
  · exact Agr3.rfl' _
  split
  · exact Agr3.rfl' _
  split
  · exact Agr3.rfl' _
  split
  · have hn := named_agr (S := S) (L := L) h (deep + 1) p (peekR L st) (st := st)
    cases h1 : namedR S L T (deep + 1) p (peekR L st) st with
    | none => cases h2 : namedR S L T' (deep + 1) p (peekR L st) st with
      | none => trivial
      | some y => rw [h1, h2] at hn; exact hn.elim
    | some x => cases h2 : namedR S L T' (deep + 1) p (peekR L st) st with
      | none => rw [h1, h2] at hn; exact hn.elim
      | some y =>
        rw [h1, h2] at hn
        obtain ⟨a1, a2⟩ := hn
        simp only [Option.map_some, Agr3]
        by_cases he : x.2.2.e = 0
        · rw [← a2 he]
          simp [he]
        · have he2 : ¬ y.2.2.e = 0 := by rw [← a1]; exact he
          cases sw <;> cases sw' <;> simp [he, he2, a1]
  split
  · exact (h (deep + 1) 1200 (nxR st)).map3 fun x y s hs => ⟨rfl, fun he => by rw [hs (must_e he)]⟩
  split
  · exact (list_agr h hS (deep + 1)).map3 fun x y s hs => ⟨rfl, fun he => by rw [hs he]⟩
  · exact Agr3.rfl' _

theorem rest_agr (h : AgrT T T') : ∀ (f deep : Nat) (p : Int) (out out' : Tm) (now now' : Int) (st : RSt), (st.e = 0 → out = out' ∧ now = now') → Agr (restR L T f deep p out now st) (restR L T' f deep p out' now' st)
  | 0, _, _, _, _, _, _, _, _ => trivial
  | f + 1, deep, p, out, out', now, now', st, ha => by
    simp only [restR]
    by_cases he : st.e = 0
    · obtain ⟨rfl, rfl⟩ := ha he
      rw [if_neg (by simp [he]), if_neg (by simp [he])]
      split
      · exact Agr.rfl' _
      · split
        · exact Agr.rfl' _
        · exact (h deep _ _).bind fun x y s hs => rest_agr h f deep p _ _ _ _ s fun he => ⟨by rw [hs he], rfl⟩
    · rw [if_pos he, if_pos he]
      exact ⟨rfl, fun h => absurd h he⟩
end

theorem term_agr (sw sw' : Bool) (S : Bs) (L : List Tk) : ∀ n, AgrT (termR sw S L n) (termR sw' S L n)
  | 0 => fun _ _ _ => trivial
  | n + 1 => fun deep p st => by
    simp only [termR]
    have ih := term_agr sw sw' S L n
    have ho := opnd_agr (S := S) (L := L) ih (term_stick sw S L n) sw sw' deep p (st := st)
    cases h1 : opndR sw S L (termR sw S L n) deep p st with
    | none => cases h2 : opndR sw' S L (termR sw' S L n) deep p st with
      | none => trivial
      | some y => rw [h1, h2] at ho; exact ho.elim
    | some x => cases h2 : opndR sw' S L (termR sw' S L n) deep p st with
      | none => rw [h1, h2] at ho; exact ho.elim
      | some y =>
        rw [h1, h2] at ho
        obtain ⟨a1, a2⟩ := ho
        simp only [Option.bind_some]
        rw [← a1]
        exact rest_agr ih _ deep p _ _ _ _ _ fun he => by rw [a2 he]; exact ⟨rfl, rfl⟩
end PSL

namespace PSL
open Go

theorem cls_agr (right : Tm → Bool) (L : List Tk) (n : Nat) {T T' : TF} (h : AgrT T T') : ∀ (f : Nat) (st : RSt) (out : List Clau), clsR right L n T f st out = clsR right L n T' f st out
  | 0, _, _ => rfl
  | f + 1, st, out => by
    simp only [clsR]
    by_cases hl : st.at_ < L.length
    · rw [if_pos hl, if_pos hl]
      have ha := h 0 1200 { st with names := [] }
      cases h1 : T 0 1200 { st with names := [] } with
      | none => cases h2 : T' 0 1200 { st with names := [] } with
        | none => rfl
        | some y => rw [h1, h2] at ha; exact ha.elim
      | some x => cases h2 : T' 0 1200 { st with names := [] } with
        | none => rw [h1, h2] at ha; exact ha.elim
        | some y =>
          rw [h1, h2] at ha
          obtain ⟨x, s⟩ := x
          obtain ⟨y, s'⟩ := y
          obtain ⟨a1, a2⟩ := ha
          simp only at a1 a2
          subst a1
          simp only [Option.bind_some]
          by_cases he : s.e = 0
          · have := a2 he
            subst this
            have ih := fun st out => cls_agr right L n h f st out
            simp only [ih]
          · have hs : (if (peekR L s).kind ≠ 5 then failR L n s 2 else s) = s := by split; exact flE he; rfl
            rw [hs]
            simp only [he, false_and, if_false, ne_eq, not_false_eq_true, if_true]
    · rw [if_neg hl, if_neg hl]

/-- The document's clauses and the program's are the same. -/
theorem clau_agr (right : Tm → Bool) (sw sw' : Bool) (S : Bs) : clauR right sw S = clauR right sw' S := by
  unfold clauR
  split
  · rfl
  · exact cls_agr right _ _ (term_agr sw sw' S _ _) _ _ _
end PSL

namespace PSL
open Go

theorem cls_ok (right : Tm → Bool) (L : List Tk) (n m : Nat) {T : TF} (hT : TOk L m T) (hG : TGood L T) (hM : TMono T) (hm : L.length + 1 ≤ m) : ∀ (f : Nat) (st : RSt) (out : List Clau), st.at_ ≤ L.length → L.length + 1 ≤ st.at_ + f → 1 ≤ f → ∃ r, clsR right L n T f st out = some r
  | 0, _, _, _, _, h => by omega
  | f + 1, st, out, hi, hf, _ => by
    simp only [clsR]
    by_cases hl : st.at_ < L.length
    · rw [if_pos hl]
      have hi0 : RInv L { st with names := [] } := ⟨Nat.zero_le _, hi⟩
      obtain ⟨⟨x, s⟩, hx⟩ := hT 0 1200 { st with names := [] } hi0 (.inr (by simp only; omega))
      have h1 := hM _ _ _ _ _ hx
      simp only at h1
      rw [hx]
      simp only [Option.bind_some]
      by_cases hk : (peekR L s).kind ≠ 5
      · have he : (failR L n s 2).e ≠ 0 := flN (by decide)
        rw [if_pos hk]
        simp only [he, false_and, if_false, ne_eq, not_false_eq_true, if_true]
        exact ⟨_, rfl⟩
      · rw [if_neg hk]
        have hp := peek_lt (L := L) (st := s) (by rw [Decidable.not_not.1 hk]; decide)
        by_cases hr : s.e = 0 ∧ right x = false
        · simp only [if_pos hr]
          rw [if_pos (show ((3 : Int) ≠ 0) by decide)]
          exact ⟨_, rfl⟩
        · simp only [if_neg hr]
          rw [if_neg (by simp [hp.1])]
          exact cls_ok right L n m hT hG hM hm f (nxR s) _ (by rw [nx_at]; omega) (by rw [nx_at]; omega) (by omega)
    · rw [if_neg hl]; exact ⟨_, rfl⟩

theorem clau_ok (right : Tm → Bool) (sw : Bool) (S : Bs) : ∃ r, clauR right sw S = some r := by
  unfold clauR
  split
  · exact ⟨_, rfl⟩
  · exact cls_ok right _ _ _ (term_ok sw S _ _ (by omega)) (term_inv sw S _ _) (term_mono sw S _ _) (by omega) _ _ _ (Nat.zero_le _) (by simp) (by omega)
end PSL

namespace PSL
open Go

/-- What is read without error has no more nodes than tokens gone through. -/
def TSz (T : TF) : Prop := ∀ deep p st t st', T deep p st = some (t, st') → st'.e = 0 → st.e = 0 ∧ st.at_ + t.size ≤ st'.at_
section
variable {S : Bs} {L : List Tk} {T : TF} {st : RSt}
theorem fail_sz {n : Nat} {c : Int} (hc : c ≠ 0) (h : (failR L n st c).e = 0) : False := flN hc h

theorem must_sz {n : Nat} {s : Bs} (h : (mustR L n st s).e = 0) : st.e = 0 ∧ (mustR L n st s).at_ = st.at_ + 1 := by
  refine ⟨must_e h, ?_⟩
  unfold mustR at h ⊢
  split
  · rfl
  · rename_i hm; rw [if_neg hm] at h; exact (fail_sz (by decide) h).elim

theorem sizeL_snoc (l : List Tm) (t : Tm) : Tm.sizeL (l ++ [t]) = Tm.sizeL l + t.size := by
  induction l with
  | nil => simp [Tm.sizeL]
  | cons x l ih => simp only [List.cons_append, Tm.sizeL, ih]; omega

theorem many_sz (hT : TSz T) : ∀ (f deep : Nat) (st : RSt) (acc l : List Tm) (st' : RSt), manyR L T f deep st acc = some (l, st') → st'.e = 0 → st.e = 0 ∧ acc.length ≤ l.length ∧ st.at_ + Tm.sizeL l + l.length ≤ st'.at_ + Tm.sizeL acc + acc.length
  | 0, _, _, _, _, _, h, _ => by cases h
  | f + 1, deep, st, acc, l, st', h, he => by
    simp only [manyR] at h
    split at h
    · rename_i hm
      obtain ⟨⟨x, s⟩, hx, h⟩ := Option.bind_eq_some_iff.1 h
      obtain ⟨h1, h2, h3⟩ := many_sz hT f deep _ _ _ _ h he
      obtain ⟨h4, h5⟩ := hT _ _ _ _ _ hx h1
      rw [sizeL_snoc] at h3
      rw [nx_at] at h5
      simp only [List.length_append, List.length_singleton] at h2 h3
      exact ⟨(isMk_lt hm).1, by omega, by omega⟩
    · cases h; exact ⟨he, Nat.le_refl _, by omega⟩

theorem row_sz (hT : TSz T) {deep : Nat} {l : List Tm} {st' : RSt} (h : rowR L T deep st = some (l, st')) (he : st'.e = 0) : st.e = 0 ∧ st.at_ + Tm.sizeL l + l.length ≤ st'.at_ + 1 := by
  obtain ⟨⟨x, s⟩, hx, h⟩ := Option.bind_eq_some_iff.1 h
  obtain ⟨h1, h2, h3⟩ := many_sz hT _ deep _ _ _ _ h he
  obtain ⟨h4, h5⟩ := hT _ _ _ _ _ hx h1
  simp only [Tm.sizeL, List.length_singleton] at h3
  exact ⟨h4, by omega⟩
end
end PSL

namespace PSL
open Go
section
variable {S : Bs} {L : List Tk} {T : TF} {st : RSt}
theorem fnT_size (s : Bs) (l : List Tm) : (fnT s l).size = 1 + Tm.sizeL l := by simp [fnT, Tm.size]

theorem consT_size (l : List Tm) (t : Tm) : (consT l t).size = Tm.sizeL l + l.length + t.size := by
  induction l with
  | nil => simp [consT, Tm.sizeL]
  | cons x l ih =>
    have : consT (x :: l) t = fnT [46] [x, consT l t] := rfl
    rw [this, fnT_size]
    simp only [Tm.sizeL, List.length_cons, ih]; omega

theorem named_sz (hT : TSz T) {deep : Nat} {p : Int} {t : Tk} {x : Tm × Int × RSt} (h : namedR S L T deep p t st = some x) (he : x.2.2.e = 0) : st.e = 0 ∧ st.at_ + x.1.size ≤ x.2.2.at_ := by
  unfold namedR at h
  split at h
  · cases h; exact ⟨he, by simp [nmT, nxR, Tm.size, Tm.sizeL]⟩
  split at h
  · obtain ⟨⟨l, s⟩, hy, rfl⟩ := Option.map_eq_some_iff.1 h
    simp only at he ⊢
    obtain ⟨h1, h2⟩ := must_sz he
    obtain ⟨h3, h4⟩ := row_sz hT hy h1
    obtain ⟨h5, h6⟩ := must_sz h3
    rw [h6, nx_at] at h4
    rw [fnT_size, h2]
    exact ⟨h5, by omega⟩
  split at h
  · split at h
    · split at h
      · cases h; exact (fail_sz (by decide) he).elim
      · obtain ⟨⟨y, s⟩, hy, rfl⟩ := Option.map_eq_some_iff.1 h
        simp only at he ⊢
        obtain ⟨h1, h2⟩ := hT _ _ _ _ _ hy he
        rw [begS_at, nx_at] at h2
        rw [fnT_size]
        refine ⟨?_, by simp only [Tm.sizeL]; omega⟩
        unfold begS at h1; split at h1 <;> exact h1
    · cases h
      simp only at he ⊢
      rw [fnT_size, begS_at, nx_at]
      refine ⟨?_, by simp only [Tm.sizeL]; omega⟩
      unfold begS at he; split at he <;> exact he
  · cases h; exact ⟨he, by rw [fnT_size, nx_at]; simp only [Tm.sizeL]; omega⟩

theorem list_sz (hT : TSz T) {deep : Nat} {x : Tm × RSt} (h : listR S L T deep st = some x) (he : x.2.e = 0) : st.e = 0 ∧ st.at_ + x.1.size ≤ x.2.at_ + 1 := by
  obtain ⟨⟨l, s⟩, hy, h⟩ := Option.bind_eq_some_iff.1 h
  simp only at h
  split at h
  · obtain ⟨⟨z, s2⟩, hz, rfl⟩ := Option.map_eq_some_iff.1 h
    simp only at he ⊢
    obtain ⟨h1, h2⟩ := must_sz he
    obtain ⟨h3, h4⟩ := hT _ _ _ _ _ hz h1
    obtain ⟨h5, h6⟩ := row_sz hT hy h3
    rw [nx_at] at h4
    rw [consT_size, h2]
    exact ⟨h5, by omega⟩
  · cases h
    simp only at he ⊢
    obtain ⟨h1, h2⟩ := must_sz he
    obtain ⟨h5, h6⟩ := row_sz hT hy h1
    rw [consT_size, h2, fnT_size]
    exact ⟨h5, by simp only [Tm.sizeL]; omega⟩
end
end PSL

namespace PSL
open Go
section
variable {S : Bs} {L : List Tk} {T : TF} {st : RSt}

theorem opnd_sz (hT : TSz T) {sw : Bool} {deep : Nat} {p : Int} {x : Tm × Int × RSt} (h : opndR sw S L T deep p st = some x) (he : x.2.2.e = 0) : st.e = 0 ∧ st.at_ + x.1.size ≤ x.2.2.at_ := by
  unfold opndR at h
  split at h
  · cases h; exact (fail_sz (by decide) he).elim
  split at h
  · cases h; exact ⟨he, by simp [nmT, nxR, Tm.size, Tm.sizeL]⟩
  split at h
  · cases h
    simp only at he ⊢
    obtain ⟨h1, _, _, h4, _⟩ := var_at (st := nxR st) (peekR L st).text
    rw [h4] at he
    exact ⟨he, by rw [h1, nx_at]; simp [Tm.vT, Tm.size, Tm.sizeL]⟩
  split at h
  · obtain ⟨y, hy, rfl⟩ := Option.map_eq_some_iff.1 h
    split at he
    · rename_i hc
      simp only [Bool.and_eq_true, decide_eq_true_eq] at hc
      exact absurd he hc.2
    · rename_i hc
      rw [if_neg hc]
      exact named_sz hT hy he
  split at h
  · obtain ⟨⟨y, s⟩, hy, rfl⟩ := Option.map_eq_some_iff.1 h
    simp only at he ⊢
    obtain ⟨h1, h2⟩ := must_sz he
    obtain ⟨h3, h4⟩ := hT _ _ _ _ _ hy h1
    rw [nx_at] at h4
    rw [h2]
    exact ⟨h3, by omega⟩
  split at h
  · obtain ⟨⟨y, s⟩, hy, rfl⟩ := Option.map_eq_some_iff.1 h
    simp only at he ⊢
    obtain ⟨h3, h4⟩ := list_sz hT hy he
    rw [nx_at] at h4
    simp only at h4
    exact ⟨h3, by omega⟩
  · cases h; exact (fail_sz (by decide) he).elim

theorem rest_sz (hT : TSz T) : ∀ (f deep : Nat) (p : Int) (out : Tm) (now : Int) (st : RSt) (t : Tm) (st' : RSt), restR L T f deep p out now st = some (t, st') → st'.e = 0 → st.e = 0 ∧ st.at_ + t.size ≤ st'.at_ + out.size
  | 0, _, _, _, _, _, _, _, h, _ => by cases h
  | f + 1, deep, p, out, now, st, t, st', h, he => by
    have hi : (inS L st).e = st.e := by unfold inS; split <;> rfl
    simp only [restR] at h
    split at h
    · rename_i h0; cases h; exact absurd he h0
    rename_i h0
    have h0 : st.e = 0 := by simpa using h0
    split at h
    · cases h; exact ⟨h0, by rw [inS_at]; omega⟩
    · split at h
      · cases h; exact ⟨h0, by rw [inS_at]; omega⟩
      · obtain ⟨⟨x, s⟩, hx, h⟩ := Option.bind_eq_some_iff.1 h
        obtain ⟨h1, h2⟩ := rest_sz hT f deep p _ _ _ _ _ h he
        obtain ⟨h3, h4⟩ := hT _ _ _ _ _ hx h1
        rw [nx_at, inS_at] at h4
        rw [fnT_size] at h2
        simp only [Tm.sizeL] at h2
        exact ⟨h0, by omega⟩
end

theorem term_sz (sw : Bool) (S : Bs) (L : List Tk) : ∀ n, TSz (termR sw S L n)
  | 0 => fun _ _ _ _ _ h _ => by cases h
  | n + 1 => fun deep p st t st' h he => by
    simp only [termR] at h
    obtain ⟨x, hx, h⟩ := Option.bind_eq_some_iff.1 h
    obtain ⟨h1, h2⟩ := rest_sz (term_sz sw S L n) _ _ _ _ _ _ _ _ h he
    obtain ⟨h3, h4⟩ := opnd_sz (term_sz sw S L n) hx h1
    exact ⟨h3, by omega⟩
end PSL

namespace PSL
open Go

/-- No text in a term is longer. -/
def SB (B : Nat) (t : Tm) : Prop := ∀ d e, e ∈ Tm.els t d → e.2.s.size ≤ B

theorem mem_elsL : ∀ {l : List Tm} {d : Int} {e : Int × Tm}, e ∈ Tm.elsL l d → ∃ x ∈ l, e ∈ Tm.els x d
  | [], _, _, h => by simp [Tm.elsL] at h
  | x :: l, d, e, h => by
    simp only [Tm.elsL, List.mem_append] at h
    rcases h with h | h
    · exact ⟨x, by simp, h⟩
    · obtain ⟨y, hy, h⟩ := mem_elsL h
      exact ⟨y, by simp [hy], h⟩

theorem SB.mk' {B : Nat} {t : Tm} (h : t.s.size ≤ B) (hl : ∀ x ∈ t.l, SB B x) : SB B t := fun d e he => by
  rw [Tm.els_eq] at he
  rcases List.mem_cons.1 he with rfl | he
  · exact h
  · obtain ⟨x, hx, he⟩ := mem_elsL he
    exact hl x hx _ _ he
theorem SB.fn {B : Nat} {s : Bs} {l : List Tm} (h : s.length ≤ B) (hl : ∀ x ∈ l, SB B x) : SB B (fnT s l) := .mk' (by show (Tx s).size ≤ B; rw [Tx_size]; exact h) hl
def TSB (B : Nat) (T : TF) : Prop := ∀ deep p st t st', T deep p st = some (t, st') → SB B t
section
variable {S : Bs} {L : List Tk} {T : TF} {st : RSt} {B : Nat}

theorem many_sb (hT : TSB B T) : ∀ (f deep : Nat) (st : RSt) (acc l : List Tm) (st' : RSt), manyR L T f deep st acc = some (l, st') → (∀ x ∈ acc, SB B x) → ∀ x ∈ l, SB B x
  | 0, _, _, _, _, _, h, _ => by cases h
  | f + 1, deep, st, acc, l, st', h, ha => by
    simp only [manyR] at h
    split at h
    · obtain ⟨⟨x, s⟩, hx, h⟩ := Option.bind_eq_some_iff.1 h
      refine many_sb hT f deep _ _ _ _ h fun y hy => ?_
      rcases List.mem_append.1 hy with hy | hy
      · exact ha y hy
      · rw [List.mem_singleton.1 hy]; exact hT _ _ _ _ _ hx
    · cases h; exact ha

theorem row_sb (hT : TSB B T) {deep : Nat} {l : List Tm} {st' : RSt} (h : rowR L T deep st = some (l, st')) : ∀ x ∈ l, SB B x := by
  obtain ⟨⟨x, s⟩, hx, h⟩ := Option.bind_eq_some_iff.1 h
  exact many_sb hT _ deep _ _ _ _ h fun y hy => by rw [List.mem_singleton.1 hy]; exact hT _ _ _ _ _ hx
theorem nm_sb (n : Int) : SB B (nmT n) := .mk' (Nat.zero_le _) (by simp [nmT, Tm.l])
theorem zero_sb : SB B zeroT := .mk' (Nat.zero_le _) (by simp [zeroT, Tm.l])

theorem consT_sb (hB : 2 ≤ B) {l : List Tm} {t : Tm} (hl : ∀ x ∈ l, SB B x) (ht : SB B t) : SB B (consT l t) := by
  induction l with
  | nil => exact ht
  | cons x l ih =>
    exact .fn (by simp; omega) fun y hy => by
      simp only [List.mem_cons, List.not_mem_nil, or_false] at hy
      rcases hy with rfl | rfl
      · exact hl _ (by simp)
      · exact ih fun z hz => hl z (by simp [hz])

theorem named_sb (hT : TSB B T) {deep : Nat} {p : Int} {t : Tk} (ht : t.text.length ≤ B) {x : Tm × Int × RSt} (h : namedR S L T deep p t st = some x) : SB B x.1 := by
  unfold namedR at h
  split at h
  · cases h; exact nm_sb _
  split at h
  · obtain ⟨⟨l, s⟩, hy, rfl⟩ := Option.map_eq_some_iff.1 h
    exact .fn ht (row_sb hT hy)
  split at h
  · split at h
    · split at h
      · cases h; exact zero_sb
      · obtain ⟨⟨y, s⟩, hy, rfl⟩ := Option.map_eq_some_iff.1 h
        exact .fn ht fun z hz => by rw [List.mem_singleton.1 hz]; exact hT _ _ _ _ _ hy
    · cases h; exact .fn ht (by simp)
  · cases h; exact .fn ht (by simp)
end
end PSL

namespace PSL
open Go
section
variable {S : Bs} {L : List Tk} {T : TF} {st : RSt} {B : Nat}

theorem peek_sb (hL : ∀ t ∈ L, t.text.length ≤ B) : (peekR L st).text.length ≤ B := by
  unfold peekR
  split
  · exact Nat.zero_le _
  · cases h : L[st.at_]? with
    | none => exact Nat.zero_le _
    | some t => exact hL t (List.mem_of_getElem? h)

theorem list_sb (hB : 2 ≤ B) (hT : TSB B T) {deep : Nat} {x : Tm × RSt} (h : listR S L T deep st = some x) : SB B x.1 := by
  obtain ⟨⟨l, s⟩, hy, h⟩ := Option.bind_eq_some_iff.1 h
  simp only at h
  split at h
  · obtain ⟨⟨z, s2⟩, hz, rfl⟩ := Option.map_eq_some_iff.1 h
    exact consT_sb hB (row_sb hT hy) (hT _ _ _ _ _ hz)
  · cases h
    exact consT_sb hB (row_sb hT hy) (.fn (by simp; omega) (by simp))

theorem opnd_sb (hB : 2 ≤ B) (hL : ∀ t ∈ L, t.text.length ≤ B) (hT : TSB B T) {sw : Bool} {deep : Nat} {p : Int} {x : Tm × Int × RSt} (h : opndR sw S L T deep p st = some x) : SB B x.1 := by
  unfold opndR at h
  split at h
  · cases h; exact zero_sb
  split at h
  · cases h; exact nm_sb _
  split at h
  · cases h; exact .mk' (Nat.zero_le _) (by simp [Tm.vT, Tm.l])
  split at h
  · obtain ⟨y, hy, rfl⟩ := Option.map_eq_some_iff.1 h
    split
    · exact zero_sb
    · exact named_sb hT (peek_sb hL) hy
  split at h
  · obtain ⟨⟨y, s⟩, hy, rfl⟩ := Option.map_eq_some_iff.1 h
    exact hT _ _ _ _ _ hy
  split at h
  · obtain ⟨⟨y, s⟩, hy, rfl⟩ := Option.map_eq_some_iff.1 h
    exact list_sb hB hT hy
  · cases h; exact zero_sb

theorem rest_sb (hL : ∀ t ∈ L, t.text.length ≤ B) (hT : TSB B T) : ∀ (f deep : Nat) (p : Int) (out : Tm) (now : Int) (st : RSt) (t : Tm) (st' : RSt), restR L T f deep p out now st = some (t, st') → SB B out → SB B t
  | 0, _, _, _, _, _, _, _, h, _ => by cases h
  | f + 1, deep, p, out, now, st, t, st', h, ho => by
    simp only [restR] at h
    split at h
    · cases h; exact ho
    split at h
    · cases h; exact ho
    · split at h
      · cases h; exact ho
      · obtain ⟨⟨x, s⟩, hx, h⟩ := Option.bind_eq_some_iff.1 h
        refine rest_sb hL hT f deep p _ _ _ _ _ h (.fn (peek_sb hL) fun y hy => ?_)
        simp only [List.mem_cons, List.not_mem_nil, or_false] at hy
        rcases hy with rfl | rfl
        · exact ho
        · exact hT _ _ _ _ _ hx
end

theorem term_sb {B : Nat} (hB : 2 ≤ B) (sw : Bool) (S : Bs) (L : List Tk) (hL : ∀ t ∈ L, t.text.length ≤ B) : ∀ n, TSB B (termR sw S L n)
  | 0 => fun _ _ _ _ _ h => by cases h
  | n + 1 => fun deep p st t st' h => by
    simp only [termR] at h
    obtain ⟨x, hx, h⟩ := Option.bind_eq_some_iff.1 h
    exact rest_sb hL (term_sb hB sw S L hL n) _ _ _ _ _ _ _ _ h (opnd_sb hB hL (term_sb hB sw S L hL n) hx)
end PSL

namespace PSL
open Go

/-- What is known of the tokens of a text. -/
structure TkG (L : Bs) (t : Tk) : Prop where
  lo : 0 ≤ t.n
  hi : t.n ≤ 9223372036854775807
  len : t.text.length ≤ L.length + 20
  var : t.kind = 2 → t.text ≠ []

theorem TkG.name {L : Bs} {kind : Int} {text : Bs} {i to : Nat} {t : Tk} {j : Nat} (h : nameT L kind text i to = some (t, j)) : TkG L t := by
  obtain ⟨_, rfl, l1, l2⟩ := nameT_to h
  exact ⟨by simp, by simp, by simp only; omega, fun _ h => by simp only at h; rw [h] at l1; simp at l1⟩
theorem cutB_le (L : Bs) (i j : Nat) : (cutB L i j).length ≤ L.length := by unfold cutB; simp only [List.length_take, List.length_drop]; omega

theorem numT_le {D : Bs} {n : Nat} (h : numT D = some n) : n ≤ 9223372036854775807 := by
  unfold numT at h; split at h
  · cases h
  · rename_i hc; cases h; omega

theorem oneT_good {L : Bs} {i : Nat} {t : Tk} {j : Nat} (h : oneT L i = some (t, j)) : TkG L t := by
  unfold oneT at h
  split at h
  · cases h
  split at h; · exact .name h
  split at h; · exact .name h
  split at h
  · cases hn : numT (cutB L i (runB dgC L i)) with
    | none => rw [hn] at h; cases h
    | some n =>
    rw [hn] at h
    cases h
    exact ⟨by simp, by have := numT_le hn; simp only; omega, by have := cutB_le L i (runB dgC L i); simp only; omega, fun h => by cases h⟩
  split at h
  · split at h
    · exact .name h
    · cases h
  split at h; · exact .name h
  split at h; · exact .name h
  split at h
  · cases h
    exact ⟨by simp, by simp, by simp, fun h => by cases h⟩
  split at h
  · cases h
    exact ⟨by simp, by simp, by simp, fun h => by cases h⟩
  exact .name h

theorem toks_good : ∀ (f : Nat) (L : Bs) (i : Nat) (l : List Tk), toks f L i = .ok l → ∀ t ∈ l, TkG L t
  | 0, L, i, l, h => by simp only [toks, Except.ok.injEq] at h; subst h; simp
  | f + 1, L, i, l, h => by
    simp only [toks] at h
    split at h
    · split at h
      · cases h
      · rename_i t to ho
        split at h
        · rename_i l' hl
          cases h
          intro u hu
          rcases List.mem_cons.1 hu with rfl | hu
          · exact oneT_good ho
          · exact toks_good f L to l' hl u hu
        · cases h
    · cases h; simp

/-- What is read of the tokens of a text is small. -/
theorem read_small {S : Bs} {L : List Tk} (hL : L.length ≤ 9000) (hS : S.length ≤ 9000) (hg : ∀ t ∈ L, TkG S t) {sw : Bool} {n deep : Nat} {p : Int} {st st' : RSt} {t : Tm} (hi : RInv L st) (h : termR sw S L n deep p st = some (t, st')) (he : st'.e = 0) : t.size ≤ 9000 ∧ ∀ d e, e ∈ t.els d → e.2.s.size ≤ 9020 := by
  have h1 := (term_sz sw S L n _ _ _ _ _ h he).2
  have h2 := (term_inv sw S L n _ _ _ _ _ h hi).2
  have h3 := term_sb (B := 9020) (by omega) sw S L (fun t ht => by have := (hg t ht).len; omega) n
  exact ⟨by omega, h3 _ _ _ _ _ h⟩
end PSL

namespace PSL
open Go

def TokRel (ex : Bool) (d : Int) (a b : Tk) : Prop :=
  (b.kind = a.kind ∧ b.text = a.text ∧ b.n = a.n ∧ b.opn = a.opn ∧ (a.kind ≠ 0 → b.at_ = a.at_ + d)) ∨ (ex = false ∧ a.kind = 5 ∧ b.kind = 4 ∧ b.text = [41])

structure Sim (ex : Bool) (m k δ : Nat) (d : Int) (S1 : Bs) (L1 : List Tk) (S2 : Bs) (L2 : List Tk) : Prop where
  tok : ∀ i, (ex = true ∨ i ≤ m) → TokRel ex d ((L1[i]?).getD zeroTk) ((L2[i + k]?).getD zeroTk)
  plc : ex = true → ∀ i, plcR L2 S2.length (i + k) = plcR L1 S1.length i + d
  byte : ∀ i t, L1[i]? = some t → (ex = true ∨ i ≤ m) → t.kind = 1 → decide (S2[(t.at_ + d).toNat]? = some 45) = decide (S1[t.at_.toNat]? = some 45)
  deep : δ = 0 ∨ (ex = false ∧ m + δ ≤ 999)
  len : L1.length ≤ L2.length

structure StR (k : Nat) (d : Int) (a b : RSt) : Prop where
  at_ : b.at_ = a.at_ + k
  names : b.names = a.names
  e : b.e = a.e
  bad : a.e ≠ 0 → b.bad = a.bad + d
def Fini (ex : Bool) (m : Nat) (st : RSt) : Prop := ex = true ∨ (st.e = 0 ∧ st.at_ ≤ m)
section
variable {ex : Bool} {m k δ : Nat} {d : Int} {S1 S2 : Bs} {L1 L2 : List Tk} {T1 T2 : TF} {a b : RSt} {S : Bs} {L : List Tk} {T : TF}
theorem Fini.no {n : Nat} {c : Int} (hc : c ≠ 0) (h : Fini ex m (failR L n a c)) : ex = true := h.resolve_right fun h => flN hc h.1
theorem StR.nx (r : StR k d a b) : StR k d (nxR a) (nxR b) := ⟨by simp only [nxR, r.at_]; omega, r.names, r.e, r.bad⟩

theorem StR.var (r : StR k d a b) (s : Bs) : (varR b s).1 = (varR a s).1 ∧ StR k d (varR a s).2 (varR b s).2 := by
  unfold varR
  rw [r.names]
  split
  · exact ⟨rfl, r⟩
  · exact ⟨rfl, r.at_, by simp only, r.e, r.bad⟩
theorem begS_eq (L : List Tk) (st : RSt) : ∃ y, begS L st = { st with lay := y } := by unfold begS; split; exact ⟨_, rfl⟩; exact ⟨_, rfl⟩
theorem inS_eq (L : List Tk) (st : RSt) : ∃ y, inS L st = { st with lay := y } := by unfold inS; split; exact ⟨_, rfl⟩; exact ⟨_, rfl⟩

theorem StR.beg (r : StR k d a b) : StR k d (begS L1 a) (begS L2 b) := by
  obtain ⟨y, hy⟩ := begS_eq L1 a
  obtain ⟨z, hz⟩ := begS_eq L2 b
  rw [hy, hz]; exact ⟨r.at_, r.names, r.e, r.bad⟩

theorem StR.ins (r : StR k d a b) : StR k d (inS L1 a) (inS L2 b) := by
  obtain ⟨y, hy⟩ := inS_eq L1 a
  obtain ⟨z, hz⟩ := inS_eq L2 b
  rw [hy, hz]; exact ⟨r.at_, r.names, r.e, r.bad⟩
variable (H : Sim ex m k δ d S1 L1 S2 L2) (r : StR k d a b)
include H r
end
end PSL

namespace PSL
open Go
section
variable {ex : Bool} {m k δ : Nat} {d : Int} {S1 S2 : Bs} {L1 L2 : List Tk} {T1 T2 : TF} {a b : RSt} (H : Sim ex m k δ d S1 L1 S2 L2)
include H
end
end PSL

namespace PSL
open Go

/-- What is made of a term that was read, ahead of the next clause. -/
def endR (right : Tm → Bool) (L : List Tk) (n : Nat) (from_ : Nat) (x : Tm) (s : RSt) : RSt :=
  let st2 := if (peekR L s).kind ≠ 5 then failR L n s 2 else s
  if st2.e = 0 ∧ right x = false then { st2 with e := 3, bad := plcR L n from_ } else st2
theorem cls_step (right : Tm → Bool) (L : List Tk) (n : Nat) (T : TF) (f : Nat) (st : RSt) (out : List Clau) : clsR right L n T (f + 1) st out = if st.at_ < L.length then (T 0 1200 { st with names := [] }).bind fun x => if (endR right L n st.at_ x.1 x.2).e ≠ 0 then some ([], (endR right L n st.at_ x.1 x.2).bad, (endR right L n st.at_ x.1 x.2).e) else clsR right L n T f (nxR (endR right L n st.at_ x.1 x.2)) (out ++ [(x.1, (endR right L n st.at_ x.1 x.2).names)]) else some (out, 0, 0) := rfl

theorem end_ok {right : Tm → Bool} {L : List Tk} {n : Nat} {i : Nat} {x : Tm} {s : RSt} (h : (endR right L n i x s).e = 0) : s.e = 0 ∧ (peekR L s).kind = 5 ∧ s.at_ < L.length ∧ right x = true ∧ endR right L n i x s = s := by
  unfold endR at h ⊢
  by_cases hk : (peekR L s).kind ≠ 5
  · simp only [if_pos hk] at h
    split at h
    · cases h
    · exact absurd h (flN (by decide))
  · simp only [if_neg hk] at h ⊢
    have hk := Decidable.not_not.1 hk
    have hl := peek_lt (L := L) (st := s) (by rw [hk]; decide)
    split at h
    · cases h
    · rename_i hr
      rw [if_neg hr]
      refine ⟨hl.1, hk, hl.2, ?_, rfl⟩
      cases hx : right x with
      | true => rfl
      | false => exact absurd ⟨hl.1, hx⟩ hr

theorem cls_facts {right : Tm → Bool} {L : List Tk} {n : Nat} {T : TF} {P : Clau → Prop} (hP : ∀ st t s, RInv L st → st.names = [] → T 0 1200 st = some (t, s) → s.e = 0 → right t = true → P (t, s.names)) (hG : TGood L T) (hpl : ∀ t ∈ L, 0 ≤ t.at_ ∧ t.at_ ≤ n) (hB : ∀ st t s, T 0 1200 st = some (t, s) → 0 ≤ st.bad ∧ st.bad ≤ n → 0 ≤ s.bad ∧ s.bad ≤ n) : ∀ (f : Nat) (st : RSt) (out c : List Clau) (q e : Int), st.at_ ≤ L.length → 0 ≤ st.bad ∧ st.bad ≤ n → clsR right L n T f st out = some (c, q, e) → (e ≠ 0 → c = []) ∧ (e = 0 → q = 0 ∧ ∃ l, c = out ++ l ∧ (∀ x ∈ l, P x) ∧ (st.at_ < L.length → l ≠ [])) ∧ 0 ≤ q ∧ q ≤ n
  | 0, _, _, _, _, _, _, _, h => by cases h
  | f + 1, st, out, c, q, e, hat, hbad, h => by
    rw [cls_step] at h
    by_cases hl : st.at_ < L.length
    · rw [if_pos hl] at h
      obtain ⟨⟨x, s⟩, hx, h⟩ := Option.bind_eq_some_iff.1 h
      simp only at h
      have hpc : ∀ i, 0 ≤ plcR L n i ∧ plcR L n i ≤ n := by
        intro i; unfold plcR
        split
        · rename_i t ht; exact hpl t (List.mem_of_getElem? ht)
        · exact ⟨Int.natCast_nonneg _, Int.le_refl _⟩
      have hbs := hB _ _ _ hx hbad
      by_cases he : (endR right L n st.at_ x s).e ≠ 0
      · rw [if_pos he] at h
        have hb : 0 ≤ (endR right L n st.at_ x s).bad ∧ (endR right L n st.at_ x s).bad ≤ n := by
          have h2 : 0 ≤ (if (peekR L s).kind ≠ 5 then failR L n s 2 else s).bad ∧ (if (peekR L s).kind ≠ 5 then failR L n s 2 else s).bad ≤ n := by
            split
            · unfold failR; split
              · exact hpc _
              · exact hbs
            · exact hbs
          unfold endR
          simp only
          generalize (if (peekR L s).kind ≠ 5 then failR L n s 2 else s) = u at h2
          split
          · exact hpc _
          · exact h2
        cases h
        exact ⟨fun _ => rfl, fun h => absurd h he, hb⟩
      · rw [if_neg he] at h
        obtain ⟨e1, e2, e3, e4, e5⟩ := end_ok (Decidable.not_not.1 he)
        rw [e5] at h
        obtain ⟨h1, h2, h3⟩ := cls_facts hP hG hpl hB f (nxR s) _ _ _ _ (by rw [nx_at]; omega) hbs h
        refine ⟨h1, fun he => ?_, h3⟩
        obtain ⟨g1, l, g2, g3, _⟩ := h2 he
        exact ⟨g1, (x, s.names) :: l, by rw [g2, List.append_assoc]; rfl, fun y hy => by
          rcases List.mem_cons.1 hy with rfl | hy
          · exact hP _ _ _ (⟨Nat.zero_le _, hat⟩ : RInv L { st with names := [] }) rfl hx e1 e4
          · exact g3 y hy, fun _ => by simp⟩
    · rw [if_neg hl] at h
      cases h
      exact ⟨fun h => absurd rfl h, fun _ => ⟨rfl, [], by simp, by simp, fun h => absurd h hl⟩, Int.le_refl _, Int.natCast_nonneg _⟩
end PSL

namespace PSL
open Go
def TBd (B : Int → Prop) (T : TF) : Prop := ∀ deep p st t st', T deep p st = some (t, st') → B st.bad → B st'.bad
section
variable {B : Int → Prop} {S : Bs} {L : List Tk} {T : TF} {st : RSt}

theorem fail_bd (hB : ∀ i, B (plcR L S.length i)) {c : Int} (h : B st.bad) : B (failR L S.length st c).bad := by
  unfold failR; split
  · exact hB _
  · exact h

theorem must_bd (hB : ∀ i, B (plcR L S.length i)) {s : Bs} (h : B st.bad) : B (mustR L S.length st s).bad := by
  unfold mustR; split
  · exact h
  · exact fail_bd hB h
theorem beg_bd : (begS L st).bad = st.bad := by unfold begS; split <;> rfl
theorem ins_bd : (inS L st).bad = st.bad := by unfold inS; split <;> rfl

theorem many_bd (hT : TBd B T) : ∀ (f deep : Nat) (st : RSt) (acc : List Tm) (l : List Tm) (st' : RSt), manyR L T f deep st acc = some (l, st') → B st.bad → B st'.bad
  | 0, _, _, _, _, _, h, _ => by cases h
  | f + 1, deep, st, acc, l, st', h, hb => by
    simp only [manyR] at h
    split at h
    · obtain ⟨x, hx, h⟩ := Option.bind_eq_some_iff.1 h
      exact many_bd hT f deep _ _ _ _ h (hT _ _ _ _ _ hx hb)
    · cases h; exact hb

theorem row_bd (hT : TBd B T) {deep : Nat} {l : List Tm} {st' : RSt} (h : rowR L T deep st = some (l, st')) (hb : B st.bad) : B st'.bad := by
  obtain ⟨x, hx, h⟩ := Option.bind_eq_some_iff.1 h
  exact many_bd hT _ _ _ _ _ _ h (hT _ _ _ _ _ hx hb)

theorem named_bd (hB : ∀ i, B (plcR L S.length i)) (hT : TBd B T) {deep : Nat} {p : Int} {t : Tk} {x : Tm × Int × RSt} (h : namedR S L T deep p t st = some x) (hb : B st.bad) : B x.2.2.bad := by
  unfold namedR at h
  split at h
  · cases h; exact hb
  split at h
  · obtain ⟨y, hy, rfl⟩ := Option.map_eq_some_iff.1 h
    exact must_bd hB (row_bd hT hy (must_bd hB hb))
  split at h
  · split at h
    · split at h
      · cases h
        exact fail_bd hB (by simp only; rw [beg_bd]; exact hb)
      · obtain ⟨y, hy, rfl⟩ := Option.map_eq_some_iff.1 h
        exact hT _ _ _ _ _ hy (by rw [beg_bd]; exact hb)
    · cases h; simp only; rw [beg_bd]; exact hb
  · cases h; exact hb

theorem list_bd (hB : ∀ i, B (plcR L S.length i)) (hT : TBd B T) {deep : Nat} {x : Tm × RSt} (h : listR S L T deep st = some x) (hb : B st.bad) : B x.2.bad := by
  obtain ⟨y, hy, h⟩ := Option.bind_eq_some_iff.1 h
  have h1 := row_bd hT hy hb
  split at h
  · obtain ⟨z, hz, rfl⟩ := Option.map_eq_some_iff.1 h
    exact must_bd hB (hT _ _ _ _ _ hz h1)
  · cases h; exact must_bd hB h1

theorem opnd_bd (hB : ∀ i, B (plcR L S.length i)) (hT : TBd B T) {sw : Bool} {deep : Nat} {p : Int} {x : Tm × Int × RSt} (h : opndR sw S L T deep p st = some x) (hb : B st.bad) : B x.2.2.bad := by
  unfold opndR at h
  split at h
  · cases h; exact fail_bd hB hb
  split at h
  · cases h; exact hb
  split at h
  · cases h; simp only; rw [(var_at _).2.2.2.2]; exact hb
  split at h
  · obtain ⟨y, hy, rfl⟩ := Option.map_eq_some_iff.1 h
    have := named_bd hB hT hy hb
    split <;> exact this
  split at h
  · obtain ⟨y, hy, rfl⟩ := Option.map_eq_some_iff.1 h
    exact must_bd hB (hT _ _ _ _ _ hy hb)
  split at h
  · obtain ⟨y, hy, rfl⟩ := Option.map_eq_some_iff.1 h
    exact list_bd hB hT hy hb
  · cases h; exact fail_bd hB hb

theorem rest_bd (hT : TBd B T) : ∀ (f deep : Nat) (p : Int) (out : Tm) (now : Int) (st : RSt) (t : Tm) (st' : RSt), restR L T f deep p out now st = some (t, st') → B st.bad → B st'.bad
  | 0, _, _, _, _, _, _, _, h, _ => by cases h
  | f + 1, deep, p, out, now, st, t, st', h, hb => by
    simp only [restR] at h
    split at h
    · cases h; exact hb
    split at h
    · cases h; rw [ins_bd]; exact hb
    · split at h
      · cases h; rw [ins_bd]; exact hb
      · obtain ⟨x, hx, h⟩ := Option.bind_eq_some_iff.1 h
        exact rest_bd hT f deep p _ _ _ _ _ h (hT _ _ _ _ _ hx (by show B (inS L st).bad; rw [ins_bd]; exact hb))

theorem term_bd (hB : ∀ i, B (plcR L S.length i)) (sw : Bool) : ∀ n, TBd B (termR sw S L n)
  | 0 => fun _ _ _ _ _ h => by cases h
  | n + 1 => fun deep p st t st' h hb => by
    simp only [termR] at h
    obtain ⟨x, hx, h⟩ := Option.bind_eq_some_iff.1 h
    exact rest_bd (term_bd hB sw n) _ _ _ _ _ _ _ _ h (opnd_bd hB (term_bd hB sw n) hx hb)
end

/-- From so many variables known, all in order, to so many. -/
def extV : Nat → List Int → Option Nat
  | m, [] => some m
  | m, v :: r => if 0 ≤ v ∧ v < m then extV m r else if v = m then extV (m + 1) r else none

theorem extV_app : ∀ (a b : List Int) (m : Nat), extV m (a ++ b) = (extV m a).bind fun k => extV k b
  | [], _, _ => rfl
  | v :: r, b, m => by
    simp only [List.cons_append, extV]
    split
    · exact extV_app r b m
    · split
      · exact extV_app r b _
      · rfl
theorem extV_app' {a b : List Int} {m k j : Nat} (h : extV m a = some k) (h2 : extV k b = some j) : extV m (a ++ b) = some j := by rw [extV_app, h]; exact h2
def TNum (T : TF) : Prop := ∀ deep p st t st', T deep p st = some (t, st') → st'.e = 0 → extV st.names.length (Tm.occ t) = some st'.names.length
section
variable {S : Bs} {L : List Tk} {T : TF} {st : RSt}
theorem fail_nm {n : Nat} {c : Int} : (failR L n st c).names = st.names := by unfold failR; split <;> rfl

theorem must_nm {n : Nat} {s : Bs} : (mustR L n st s).names = st.names := by
  unfold mustR; split
  · rfl
  · exact fail_nm
theorem beg_nm : (begS L st).names = st.names := by unfold begS; split <;> rfl
theorem ins_nm : (inS L st).names = st.names := by unfold inS; split <;> rfl

theorem occL_app : ∀ (a b : List Tm), Tm.occL (a ++ b) = Tm.occL a ++ Tm.occL b
  | [], _ => rfl
  | x :: a, b => by simp only [List.cons_append, Tm.occL, occL_app a b, List.append_assoc]
theorem occ_fn (s : Bs) (l : List Tm) : Tm.occ (fnT s l) = Tm.occL l := by simp [fnT, Tm.occ]

theorem occ_cons (l : List Tm) (t : Tm) : Tm.occ (consT l t) = Tm.occL l ++ Tm.occ t := by
  induction l with
  | nil => rfl
  | cons x l ih =>
    show Tm.occ (fnT [46] [x, consT l t]) = _
    rw [occ_fn]
    simp only [Tm.occL, ih, List.append_nil, List.append_assoc]
theorem occ_nm (n : Int) : Tm.occ (nmT n) = [] := by simp [nmT, Tm.occ, Tm.occL]
theorem occ_one (x : Tm) : Tm.occL [x] = Tm.occ x := by simp [Tm.occL]

theorem many_num (hT : TNum T) (hZ : TSz T) : ∀ (f deep : Nat) (st : RSt) (acc : List Tm) (l : List Tm) (st' : RSt) (m : Nat), manyR L T f deep st acc = some (l, st') → st'.e = 0 → extV m (Tm.occL acc) = some st.names.length → extV m (Tm.occL l) = some st'.names.length
  | 0, _, _, _, _, _, _, h, _, _ => by cases h
  | f + 1, deep, st, acc, l, st', m, h, he, hm => by
    simp only [manyR] at h
    split at h
    · obtain ⟨⟨x, s⟩, hx, h⟩ := Option.bind_eq_some_iff.1 h
      have hs := (many_sz hZ f deep _ _ _ _ h he).1
      refine many_num hT hZ f deep _ _ _ _ m h he ?_
      rw [occL_app, occ_one]
      exact extV_app' hm (show extV st.names.length _ = _ from hT _ _ (nxR st) _ _ hx hs)
    · cases h; exact hm

theorem row_num (hT : TNum T) (hZ : TSz T) {deep : Nat} {l : List Tm} {st' : RSt} (h : rowR L T deep st = some (l, st')) (he : st'.e = 0) : extV st.names.length (Tm.occL l) = some st'.names.length := by
  obtain ⟨⟨x, s⟩, hx, h⟩ := Option.bind_eq_some_iff.1 h
  have hs := (many_sz hZ _ deep _ _ _ _ h he).1
  exact many_num hT hZ _ _ _ _ _ _ _ h he (by rw [occ_one]; exact hT _ _ _ _ _ hx hs)

theorem named_num (hT : TNum T) (hZ : TSz T) {deep : Nat} {p : Int} {t : Tk} {x : Tm × Int × RSt} (h : namedR S L T deep p t st = some x) (he : x.2.2.e = 0) : extV st.names.length (Tm.occ x.1) = some x.2.2.names.length := by
  unfold namedR at h
  split at h
  · cases h; simp only; rw [occ_nm]; rfl
  split at h
  · obtain ⟨⟨l, s⟩, hy, rfl⟩ := Option.map_eq_some_iff.1 h
    have := row_num hT hZ hy (must_e he)
    rw [must_nm] at this
    simp only
    rw [occ_fn, must_nm]
    exact this
  split at h
  · split at h
    · split at h
      · cases h; exact absurd he (flN (by decide))
      · obtain ⟨⟨u, s⟩, hy, rfl⟩ := Option.map_eq_some_iff.1 h
        have := hT _ _ _ _ _ hy he
        rw [beg_nm] at this
        simp only
        rw [occ_fn, occ_one]
        exact this
    · cases h; simp only; rw [occ_fn, beg_nm]; rfl
  · cases h; simp only; rw [occ_fn]; rfl

theorem list_num (hT : TNum T) (hZ : TSz T) {deep : Nat} {x : Tm × RSt} (h : listR S L T deep st = some x) (he : x.2.e = 0) : extV st.names.length (Tm.occ x.1) = some x.2.names.length := by
  obtain ⟨⟨l, s⟩, hy, h⟩ := Option.bind_eq_some_iff.1 h
  simp only at h
  split at h
  · obtain ⟨⟨u, v⟩, hz, rfl⟩ := Option.map_eq_some_iff.1 h
    have e1 := must_e he
    have h2 := hT _ _ _ _ _ hz e1
    have e2 := (hZ _ _ _ _ _ hz e1).1
    have h1 := row_num hT hZ hy e2
    simp only
    rw [occ_cons, must_nm]
    exact extV_app' h1 h2
  · cases h
    have h1 := row_num hT hZ hy (must_e he)
    simp only
    rw [occ_cons, must_nm, occ_fn]
    exact extV_app' h1 rfl

theorem idxV_lt : ∀ {l : List Bs} {s : Bs} {i k : Nat}, idxV l s i = some k → i ≤ k ∧ k < i + l.length
  | [], _, _, _, h => by cases h
  | x :: l, s, i, k, h => by
    simp only [idxV] at h
    split at h
    · cases h; simp
    · have := idxV_lt h; simp only [List.length_cons]; omega

theorem var_num (s : Bs) : extV st.names.length [(varR st s).1] = some (varR st s).2.names.length := by
  unfold varR
  split
  · rename_i i hi
    split at hi
    · cases hi
    · have := idxV_lt hi
      simp only [extV]
      rw [if_pos (by omega)]
  · simp only [extV]
    rw [if_neg (by omega)]
    simp
theorem occ_v (v : Int) : Tm.occ (Tm.vT v) = [v] := by simp [Tm.vT, Tm.occ]

theorem opnd_num (hT : TNum T) (hZ : TSz T) {sw : Bool} {deep : Nat} {p : Int} {x : Tm × Int × RSt} (h : opndR sw S L T deep p st = some x) (he : x.2.2.e = 0) : extV st.names.length (Tm.occ x.1) = some x.2.2.names.length := by
  unfold opndR at h
  split at h
  · cases h; exact absurd he (flN (by decide))
  split at h
  · cases h; simp only; rw [occ_nm]; rfl
  split at h
  · cases h; simp only; rw [occ_v]
    exact var_num (st := nxR st) _
  split at h
  · obtain ⟨y, hy, rfl⟩ := Option.map_eq_some_iff.1 h
    have e1 : y.2.2.e = 0 := by revert he; split <;> exact id
    have := named_num hT hZ hy e1
    rw [if_neg (by simp [e1])]
    exact this
  split at h
  · obtain ⟨⟨u, s⟩, hy, rfl⟩ := Option.map_eq_some_iff.1 h
    simp only
    rw [must_nm]
    exact hT _ _ (nxR st) _ _ hy (must_e he)
  split at h
  · obtain ⟨⟨u, s⟩, hy, rfl⟩ := Option.map_eq_some_iff.1 h
    exact list_num hT hZ hy he
  · cases h; exact absurd he (flN (by decide))

theorem rest_num (hT : TNum T) (hZ : TSz T) : ∀ (f deep : Nat) (p : Int) (out : Tm) (now : Int) (st : RSt) (t : Tm) (st' : RSt) (m : Nat), restR L T f deep p out now st = some (t, st') → st'.e = 0 → extV m (Tm.occ out) = some st.names.length → extV m (Tm.occ t) = some st'.names.length
  | 0, _, _, _, _, _, _, _, _, h, _, _ => by cases h
  | f + 1, deep, p, out, now, st, t, st', m, h, he, hm => by
    simp only [restR] at h
    split at h
    · cases h; exact hm
    split at h
    · cases h; rw [ins_nm]; exact hm
    · split at h
      · cases h; rw [ins_nm]; exact hm
      · obtain ⟨⟨x, s⟩, hx, h⟩ := Option.bind_eq_some_iff.1 h
        have hs := (rest_sz hZ _ _ _ _ _ _ _ _ h he).1
        refine rest_num hT hZ f deep p _ _ _ _ _ m h he ?_
        rw [occ_fn]
        have h2 := hT _ _ _ _ _ hx hs
        rw [show (nxR (inS L st)).names = st.names from ins_nm] at h2
        show extV m (Tm.occ out ++ (Tm.occ x ++ [])) = _
        rw [List.append_nil]
        exact extV_app' hm h2

theorem term_num (sw : Bool) (S : Bs) (L : List Tk) : ∀ n, TNum (termR sw S L n)
  | 0 => fun _ _ _ _ _ h => by cases h
  | n + 1 => fun deep p st t st' h he => by
    simp only [termR] at h
    obtain ⟨⟨x, q, s⟩, hx, h⟩ := Option.bind_eq_some_iff.1 h
    have hZ := term_sz sw S L n
    have hs := (rest_sz hZ _ _ _ _ _ _ _ _ h he).1
    exact rest_num (term_num sw S L n) hZ _ _ _ _ _ _ _ _ _ h he (opnd_num (term_num sw S L n) hZ hx hs)
end
end PSL

namespace PSL
open Go
def idn (m : Nat) : List Int := (List.range m).map Int.ofNat

theorem idn_mem {m : Nat} {v : Int} : v ∈ idn m ↔ 0 ≤ v ∧ v < m := by
  unfold idn
  simp only [List.mem_map, List.mem_range]
  exact ⟨fun ⟨a, h, e⟩ => by rw [← e]; exact ⟨Int.natCast_nonneg _, by show (a : Int) < m; omega⟩, fun h => ⟨v.toNat, by omega, by show ((v.toNat : Nat) : Int) = v; omega⟩⟩
theorem idn_len (m : Nat) : (idn m).length = m := by simp [idn]
theorem idn_snoc (m : Nat) : idn m ++ [(m : Int)] = idn (m + 1) := by unfold idn; rw [List.range_succ, List.map_append]; rfl

theorem idn_at (m : Nat) {v : Int} (h : 0 ≤ v ∧ v < m) : atI (idn m) v 0 = v := by
  have key : ∀ (k s : Nat) (v : Int), (s : Int) ≤ v → v < ((s + k : Nat) : Int) → atI ((List.range' s k).map Int.ofNat) v s = v := by
    intro k
    induction k with
    | zero => intro s v h1 h2; omega
    | succ k ih =>
      intro s v h1 h2
      simp only [List.range'_succ, List.map_cons, atI]
      split
      · rename_i e; exact e
      · rename_i e
        have e : ¬ (s : Int) = v := e
        have := ih (s + 1) v (by omega) (by omega)
        rw [show ((s + 1 : Nat) : Int) = (s : Int) + 1 by omega] at this
        exact this
  have := key m 0 v (by simpa using h.1) (by simpa using h.2)
  unfold idn
  rw [List.range_eq_range']
  exact this

theorem ext_once : ∀ (l : List Int) (k m : Nat), extV k l = some m → l.foldl addV (idn k) = idn m ∧ k ≤ m ∧ ∀ v ∈ l, 0 ≤ v ∧ v < m
  | [], k, m, h => by cases h; exact ⟨rfl, Nat.le_refl _, by simp⟩
  | v :: l, k, m, h => by
    simp only [extV] at h
    simp only [List.foldl_cons]
    split at h
    · rename_i hv
      obtain ⟨h1, h2, h3⟩ := ext_once l k m h
      have : addV (idn k) v = idn k := by unfold addV; rw [if_pos (by simpa using idn_mem.2 hv)]
      rw [this]
      exact ⟨h1, h2, fun w hw => by
        rcases List.mem_cons.1 hw with rfl | hw
        · exact ⟨hv.1, by omega⟩
        · exact h3 w hw⟩
    · rename_i hv
      split at h
      · rename_i he
        obtain ⟨h1, h2, h3⟩ := ext_once l (k + 1) m h
        have : addV (idn k) v = idn (k + 1) := by
          unfold addV
          rw [if_neg (by simpa using fun h => hv (idn_mem.1 h)), he, idn_snoc]
        rw [this]
        exact ⟨h1, by omega, fun w hw => by
          rcases List.mem_cons.1 hw with rfl | hw
          · exact ⟨by omega, by omega⟩
          · exact h3 w hw⟩
      · cases h

theorem num_read {t : Tm} {m : Nat} (hr : t.rightB = true) (h : extV 0 (Tm.occ t) = some m) : numberT [t] = ([t], (m : Int), 0) := by
  obtain ⟨h1, _, h3⟩ := ext_once _ _ _ h
  have hf : Tm.fairRL [t] = true := fairL_of (by simpa using hr)
  have hv : varsT [t] = idn m := by
    rw [varsT_once hf]
    show (Tm.occL [t]).foldl addV [] = _
    rw [show Tm.occL [t] = Tm.occ t by simp [Tm.occL]]
    exact h1
  unfold numberT
  rw [if_pos (by simp [rightT_eq, hr]), hv, idn_len]
  have : Tm.turnTL (placeG (idn m)) [t] = [t] := by
    show [Tm.turnT (placeG (idn m)) t] = [t]
    have h2 := Tm.turn_congr (g := placeG (idn m)) (g' := fun n => n) t (right_fair hr) fun v hv => by
      have := idn_at m (h3 v hv)
      unfold placeG
      rw [this, if_neg (by have := (h3 v hv).1; omega)]
    rw [h2, Tm.turn_self]
  rw [this]

theorem tok_ok {S : Bs} (h : (tokT S).2.2 = 0) : S.length ≤ 8000 ∧ toks (S.length + 1) S 0 = .ok (tokT S).1 ∧ tokT S = ((tokT S).1, 0, 0) := by
  unfold tokT at h ⊢
  split at h
  · cases h
  · rename_i hl
    rw [if_neg hl]
    cases ht : toks (S.length + 1) S 0 with
    | ok l => exact ⟨by omega, rfl, rfl⟩
    | error j => rw [ht] at h; cases h

theorem tok_bad {S : Bs} (h : (tokT S).2.2 ≠ 0) : (tokT S).1 = [] ∧ 0 ≤ (tokT S).2.1 ∧ (tokT S).2.1 ≤ S.length := by
  unfold tokT at h ⊢
  split at h
  · rename_i hl
    rw [if_pos hl]; exact ⟨rfl, by simp, by simp⟩
  · rename_i hl
    rw [if_neg hl]
    cases ht : toks (S.length + 1) S 0 with
    | ok l => rw [ht] at h; exact absurd rfl h
    | error j =>
      have := toks_bad _ _ _ _ ht
      exact ⟨rfl, by simp only; omega, by simp only; omega⟩

theorem toks_plc {S : Bs} {l : List Tk} (h : toks (S.length + 1) S 0 = .ok l) : ∀ t ∈ l, 0 ≤ t.at_ ∧ t.at_ < S.length := fun t ht => by
  have := ((toks_place _ _ _ _ h).1 t ht).lo
  have := ((toks_place _ _ _ _ h).1 t ht).hi
  omega

theorem cls_count {right : Tm → Bool} {L : List Tk} {n : Nat} {T : TF} : ∀ (f : Nat) (st : RSt) (out c : List Clau) (q e : Int), clsR right L n T f st out = some (c, q, e) → c.length ≤ out.length + f
  | 0, _, _, _, _, _, h => by cases h
  | f + 1, st, out, c, q, e, h => by
    rw [cls_step] at h
    split at h
    · obtain ⟨⟨x, s⟩, hx, h⟩ := Option.bind_eq_some_iff.1 h
      simp only at h
      split at h
      · cases h; simp
      · have := cls_count f _ _ _ _ _ h
        simp only [List.length_append, List.length_singleton] at this
        omega
    · cases h; omega

theorem clau_count {right : Tm → Bool} {sw : Bool} {S : Bs} {c : List Clau} {q e : Int} (h : clauR right sw S = some (c, q, e)) : c.length ≤ 9000 := by
  unfold clauR at h
  by_cases he : (tokT S).2.2 ≠ 0
  · rw [if_pos he] at h; cases h; simp
  · rw [if_neg he] at h
    obtain ⟨h8, ht, _⟩ := tok_ok (Decidable.not_not.1 he)
    have := toks_len _ S 0 _ ht
    have := cls_count _ _ _ _ _ _ h
    simp only [List.length_nil] at this
    omega

/-- What is known of a clause that was read. -/
structure ClG (x : Clau) : Prop where
  right : x.1.rightB = true
  num : numberT [x.1] = ([x.1], (x.2.length : Int), 0)
  few : x.2.length ≤ 9000

theorem clau_facts {sw : Bool} {S : Bs} (hS : S.length ≤ 9000) {c : List Clau} {q e : Int} (h : clauR rightT sw S = some (c, q, e)) : (e ≠ 0 → c = []) ∧ (e = 0 → q = 0 ∧ ∀ x ∈ c, ClG x) ∧ 0 ≤ q ∧ q ≤ S.length := by
  unfold clauR at h
  by_cases he : (tokT S).2.2 ≠ 0
  · rw [if_pos he] at h
    have hb := tok_bad he
    cases h
    exact ⟨fun _ => rfl, fun h => absurd h he, hb.2⟩
  · rw [if_neg he] at h
    obtain ⟨h8, ht, _⟩ := tok_ok (Decidable.not_not.1 he)
    have hpl := toks_plc ht
    have hlen := toks_len _ S 0 _ ht
    obtain ⟨h1, h2, h3⟩ := cls_facts (P := ClG) (fun st t s hi hn hx he hr => by
      have h1 := (term_inv sw S _ _ _ _ _ _ _ hx hi)
      have h2 := term_num sw S _ _ _ _ _ _ _ hx he
      rw [hn] at h2
      rw [rightT_eq] at hr
      exact ⟨hr, num_read hr h2, by have := h1.1; have := h1.2; simp only; omega⟩) (term_inv sw S _ _) (n := S.length) (fun t ht => by have := hpl t ht; omega)
      (fun st t s hx hb => term_bd (B := fun b => 0 ≤ b ∧ b ≤ (S.length : Int)) (fun i => by
        unfold plcR; split
        · rename_i t ht'; have := hpl t (List.mem_of_getElem? ht'); exact ⟨this.1, by omega⟩
        · exact ⟨Int.natCast_nonneg _, Int.le_refl _⟩) sw _ _ _ _ _ _ hx hb) _ _ _ _ _ _ (Nat.zero_le _) ⟨Int.le_refl _, Int.natCast_nonneg _⟩ h
    exact ⟨h1, fun he => by
      obtain ⟨g1, l, g2, g3, _⟩ := h2 he
      refine ⟨g1, ?_⟩
      rw [g2]
      simpa using g3, h3⟩
end PSL

namespace PSL
open Go
end PSL

namespace PSL
open Go
def st0 : RSt := ⟨0, [], 0, 0, false⟩
end PSL

namespace Go.Proofs.Ythdpfglpdgmphaa
open Go PSL Go.Proofs

theorem sgn_two (c : UInt8) : sgnC c = (sgnL2.contains c || decide (c.toNat = 92)) := by
  have := byte_all (p := fun c => sgnC c == (sgnL2.contains c || decide (c.toNat = 92))) (by decide +kernel) c
  simpa using this

set_option maxRecDepth 100000 in
theorem sort8_ok (c : UInt8) : PCtr Try.prog 49 [u8A c] (iV (sortC c)) := by
  have hc := c.toNat_lt
  have r1 : lowC c = true → sortC c = 1 := fun h => by rw [sortC, if_pos h]
  have r2 : grtC c = true → sortC c = 2 := fun h => by have := sort_grt c; rw [h] at this; exact of_decide_eq_true this
  have r3 : dgC c = true → sortC c = 3 := fun h => by have := sort_dig c; rw [h] at this; exact of_decide_eq_true this
  have r5 : blkC c = true → sortC c = 5 := fun h => by have := sort_blk c; rw [h] at this; exact of_decide_eq_true this
  have r4 : sgnC c = true → sortC c = 4 := fun h => by have := sort_sgn c; rw [h] at this; exact of_decide_eq_true this
  have r0 : lowC c = false → grtC c = false → dgC c = false → blkC c = false → sgnC c = false → sortC c = 0 := fun h1 h2 h3 h4 h5 => by simp [sortC, h1, h2, h3, h4, h5]
  have hs := sgn_two c
  refine PCtr.of_R (pf := fun _ => .still) tyOk mixed Try.func49 rfl (by kernel_rfl) (by kernel_rfl) (by simp [Try.ntmps49]) fun w S hg => ?_
  refine R_run hg.ok 1000 rfl rfl ?_
  rcases (by omega : (97 ≤ c.toNat ∧ c.toNat ≤ 122) ∨ (65 ≤ c.toNat ∧ c.toNat ≤ 90) ∨ c.toNat = 95 ∨ (48 ≤ c.toNat ∧ c.toNat ≤ 57) ∨ c.toNat = 32 ∨ c.toNat = 9 ∨ c.toNat = 10 ∨ (c.toNat < 48 ∧ c.toNat ≠ 32 ∧ c.toNat ≠ 9 ∧ c.toNat ≠ 10) ∨ (57 < c.toNat ∧ c.toNat < 65) ∨ (90 < c.toNat ∧ c.toNat < 95) ∨ c.toNat = 96 ∨ 122 < c.toNat) with h | h | h | h | h | h | h | h | h | h | h | h
  · repeat
      first
      | (refine R_if rfl rfl (fun _ => ?_) (fun h => absurd h (by first | (simp; done) | (simp; omega))); refine R_run hg.ok 1000 rfl rfl ?_)
      | (refine R_if rfl rfl (fun h => absurd h (by first | (simp; done) | (simp; omega))) (fun _ => ?_); refine R_run hg.ok 1000 rfl rfl ?_)
    refine R_ret hg 5 rfl rfl ?_
    rw [r1 (by simp [lowC]; omega)]; rfl
  · repeat
      first
      | (refine R_if rfl rfl (fun _ => ?_) (fun h => absurd h (by first | (simp; done) | (simp; omega))); refine R_run hg.ok 1000 rfl rfl ?_)
      | (refine R_if rfl rfl (fun h => absurd h (by first | (simp; done) | (simp; omega))) (fun _ => ?_); refine R_run hg.ok 1000 rfl rfl ?_)
    refine R_ret hg 5 rfl rfl ?_
    rw [r2 (by simp [grtC]; omega)]; rfl
  · repeat
      first
      | (refine R_if rfl rfl (fun _ => ?_) (fun h => absurd h (by first | (simp; done) | (simp; omega))); refine R_run hg.ok 1000 rfl rfl ?_)
      | (refine R_if rfl rfl (fun h => absurd h (by first | (simp; done) | (simp; omega))) (fun _ => ?_); refine R_run hg.ok 1000 rfl rfl ?_)
    refine R_ret hg 5 rfl rfl ?_
    rw [r2 (by simp [grtC]; omega)]; rfl
  · repeat
      first
      | (refine R_if rfl rfl (fun _ => ?_) (fun h => absurd h (by first | (simp; done) | (simp; omega))); refine R_run hg.ok 1000 rfl rfl ?_)
      | (refine R_if rfl rfl (fun h => absurd h (by first | (simp; done) | (simp; omega))) (fun _ => ?_); refine R_run hg.ok 1000 rfl rfl ?_)
    refine R_ret hg 5 rfl rfl ?_
    rw [r3 (by simp [dgC]; omega)]; rfl
  · repeat
      first
      | (refine R_if rfl rfl (fun _ => ?_) (fun h => absurd h (by first | (simp; done) | (simp; omega))); refine R_run hg.ok 1000 rfl rfl ?_)
      | (refine R_if rfl rfl (fun h => absurd h (by first | (simp; done) | (simp; omega))) (fun _ => ?_); refine R_run hg.ok 1000 rfl rfl ?_)
    refine R_ret hg 5 rfl rfl ?_
    rw [r5 (by simp [blkC]; omega)]; rfl
  · repeat
      first
      | (refine R_if rfl rfl (fun _ => ?_) (fun h => absurd h (by first | (simp; done) | (simp; omega))); refine R_run hg.ok 1000 rfl rfl ?_)
      | (refine R_if rfl rfl (fun h => absurd h (by first | (simp; done) | (simp; omega))) (fun _ => ?_); refine R_run hg.ok 1000 rfl rfl ?_)
    refine R_ret hg 5 rfl rfl ?_
    rw [r5 (by simp [blkC]; omega)]; rfl
  · repeat
      first
      | (refine R_if rfl rfl (fun _ => ?_) (fun h => absurd h (by first | (simp; done) | (simp; omega))); refine R_run hg.ok 1000 rfl rfl ?_)
      | (refine R_if rfl rfl (fun h => absurd h (by first | (simp; done) | (simp; omega))) (fun _ => ?_); refine R_run hg.ok 1000 rfl rfl ?_)
    refine R_ret hg 5 rfl rfl ?_
    rw [r5 (by simp [blkC]; omega)]; rfl
  all_goals
    repeat
      first
      | (refine R_if rfl rfl (fun _ => ?_) (fun h => absurd h (by first | (simp; done) | (simp; omega))); refine R_run hg.ok 1000 rfl rfl ?_)
      | (refine R_if rfl rfl (fun h => absurd h (by first | (simp; done) | (simp; omega))) (fun _ => ?_); refine R_run hg.ok 1000 rfl rfl ?_)
    refine R_loop (fun k : Nat => ([(0, u8A c), (3, txA sgnL2), (4, iV k)], [])) (fun k => k ≤ 16 ∧ sgnL2.contains c = (sgnL2.drop k).contains c) (fun k => 16 - k) 0 ⟨Nat.zero_le _, rfl⟩ ⟨.refl _, .refl _, .refl _, trivial⟩ rfl ?_
    rintro k ⟨hk, hm⟩
    refine R_run hg.ok 1000 rfl rfl ?_
    refine R_if rfl rfl (fun h1 => ?_) (fun h1 => ?_) <;> refine R_run hg.ok 1000 rfl rfl ?_
    · have hk1 : k < sgnL2.length := lt_dec h1 (by rw [Tx_size])
      have hk2 : k < 16 := hk1
      have e1 : sgnL2[k]? = some sgnL2[k] := List.getElem?_eq_getElem hk1
      rw [List.drop_eq_getElem_cons hk1, List.contains_cons] at hm
      generalize sgnL2[k] = d at e1 hm
      refine R_indexS hg.ok rfl rfl rfl rfl rfl (Int.natCast_nonneg k) (b := d) (by rw [Tx_get]; exact e1) ?_
      refine R_run hg.ok 1000 rfl rfl ?_
      refine R_if rfl rfl (fun h2 => ?_) (fun h2 => ?_) <;> refine R_run hg.ok 1000 rfl rfl ?_
      · have h2 : d = c := UInt8.toNat_inj.1 (by simp at h2; omega)
        refine R_ret hg 5 rfl rfl ?_
        rw [r4 (by rw [hs, hm, h2]; simp)]; rfl
      · have h2 : ¬ d = c := fun e => by rw [e] at h2; simp at h2
        refine R_next (k + 1) ⟨hk2, ?_⟩ (by omega) ⟨.refl _, .refl _, Ent.wrap (by omega) (by omega) (by omega), trivial⟩ rfl
        rw [hm, show (c == d) = false by simp; exact fun e => h2 e.symm, Bool.false_or]
    · have hk1 : sgnL2.length ≤ k := ge_dec h1 (by rw [Tx_size])
      have hf : sgnL2.contains c = false := by rw [hm, List.drop_eq_nil_of_le hk1]; rfl
      rw [hf, Bool.false_or] at hs
      refine R_if rfl rfl (fun h2 => ?_) (fun h2 => ?_) <;> refine R_run hg.ok 1000 rfl rfl ?_
      · have h2 : c.toNat = 92 := by simp at h2; omega
        refine R_ret hg 5 rfl rfl ?_
        rw [r4 (by rw [hs, h2]; simp)]; rfl
      · have h2 : ¬ c.toNat = 92 := by simp at h2; omega
        refine R_ret hg 5 rfl rfl ?_
        rw [r0 (by simp [lowC]; omega) (by simp [grtC]; omega) (by simp [dgC]; omega) (by simp [blkC]; omega) (by rw [hs]; simp [h2])]; rfl
end Go.Proofs.Ythdpfglpdgmphaa

namespace Go.Proofs.Ythdpfglpdgmphaa
open Go PSL Go.Proofs

set_option maxRecDepth 100000 in
theorem word8_ok (L : Bs) (i : Nat) (hi : i ≤ L.length) (hL : L.length ≤ 9000) : PCtr Try.prog 87 [txA L, iV i] (iV (runB folC L i)) := by
  refine PCtr.of_R (pf := fun _ => .still) tyOk mixed Try.func87 rfl (by kernel_rfl) (by kernel_rfl) (by simp [Try.ntmps87]) fun w S hg => ?_
  refine R_run hg.ok 1000 rfl rfl ?_
  refine R_loop (fun k : Nat => ([(0, txA L), (1, iV k)], [])) (fun k => k ≤ L.length ∧ runB folC L i = runB folC L k) (fun k => L.length - k) i ⟨hi, rfl⟩ ⟨.refl _, .refl _, trivial⟩ rfl ?_
  rintro k ⟨hk, hm⟩
  refine R_run hg.ok 1000 rfl rfl ?_
  refine R_if rfl rfl (fun h => ?_) (fun h => ?_) <;> refine R_run hg.ok 1000 rfl rfl ?_
  · have hk1 : k < L.length := lt_dec h (by rw [Tx_size])
    have e1 : L[k]? = some L[k] := List.getElem?_eq_getElem hk1
    have hs := sort_fol L[k]
    generalize L[k] = c at e1 hs
    refine R_indexS hg.ok rfl rfl rfl rfl rfl (Int.natCast_nonneg k) (b := c) (by rw [Tx_get]; exact e1) ?_
    refine R_run hg.ok 1000 rfl rfl ?_
    refine R_call hg.ok (sort8_ok c) rfl rfl rfl rfl rfl rfl ?_
    refine R_run hg.ok 1000 rfl rfl ?_
    refine R_if rfl rfl (fun h1 => ?_) (fun h1 => ?_) <;> refine R_run hg.ok 1000 rfl rfl ?_
    · have h1 : 1 ≤ sortC c := by have := of_decide_eq_true h1; omega
      refine R_indexS hg.ok rfl rfl rfl rfl rfl (Int.natCast_nonneg k) (b := c) (by rw [Tx_get]; exact e1) ?_
      refine R_run hg.ok 1000 rfl rfl ?_
      refine R_call hg.ok (sort8_ok c) rfl rfl rfl rfl rfl rfl ?_
      refine R_run hg.ok 1000 rfl rfl ?_
      refine R_if rfl rfl (fun h2 => ?_) (fun h2 => ?_) <;> refine R_run hg.ok 1000 rfl rfl ?_
      · have h2 : sortC c ≤ 3 := by have := of_decide_eq_true h2; omega
        exact R_next (k + 1) ⟨hk1, by rw [hm, runB_step e1 (by rw [← hs]; simp; omega)]⟩ (by omega) ⟨.refl _, Ent.wrap (by omega) (by omega) (by omega), trivial⟩ rfl
      · have h2 : ¬ sortC c ≤ 3 := by have := of_decide_eq_false h2; omega
        refine R_ret hg 5 rfl rfl ?_
        rw [hm, runB_stop e1 (by rw [← hs]; simp; omega)]; rfl
    · have h1 : ¬ 1 ≤ sortC c := by have := of_decide_eq_false h1; omega
      refine R_ret hg 5 rfl rfl ?_
      rw [hm, runB_stop e1 (by rw [← hs]; simp; omega)]; rfl
  · have hk1 : L.length ≤ k := ge_dec h (by rw [Tx_size])
    refine R_ret hg 5 rfl rfl ?_
    rw [hm, runB_end hk1]; rfl

set_option maxRecDepth 100000 in
theorem digits8_ok (L : Bs) (i : Nat) (hi : i ≤ L.length) (hL : L.length ≤ 9000) : PCtr Try.prog 88 [txA L, iV i] (iV (runB dgC L i)) := by
  refine PCtr.of_R (pf := fun _ => .still) tyOk mixed Try.func88 rfl (by kernel_rfl) (by kernel_rfl) (by simp [Try.ntmps88]) fun w S hg => ?_
  refine R_run hg.ok 1000 rfl rfl ?_
  refine R_loop (fun k : Nat => ([(0, txA L), (1, iV k)], [])) (fun k => k ≤ L.length ∧ runB dgC L i = runB dgC L k) (fun k => L.length - k) i ⟨hi, rfl⟩ ⟨.refl _, .refl _, trivial⟩ rfl ?_
  rintro k ⟨hk, hm⟩
  refine R_run hg.ok 1000 rfl rfl ?_
  refine R_if rfl rfl (fun h => ?_) (fun h => ?_) <;> refine R_run hg.ok 1000 rfl rfl ?_
  · have hk1 : k < L.length := lt_dec h (by rw [Tx_size])
    have e1 : L[k]? = some L[k] := List.getElem?_eq_getElem hk1
    have hs := sort_dig L[k]
    generalize L[k] = c at e1 hs
    refine R_indexS hg.ok rfl rfl rfl rfl rfl (Int.natCast_nonneg k) (b := c) (by rw [Tx_get]; exact e1) ?_
    refine R_run hg.ok 1000 rfl rfl ?_
    refine R_call hg.ok (sort8_ok c) rfl rfl rfl rfl rfl rfl ?_
    refine R_run hg.ok 1000 rfl rfl ?_
    refine R_if rfl rfl (fun h1 => ?_) (fun h1 => ?_) <;> refine R_run hg.ok 1000 rfl rfl ?_
    · have h1 : sortC c = 3 := by simpa using h1
      exact R_next (k + 1) ⟨hk1, by rw [hm, runB_step e1 (by rw [← hs]; simp [h1])]⟩ (by omega) ⟨.refl _, Ent.wrap (by omega) (by omega) (by omega), trivial⟩ rfl
    · have h1 : ¬ sortC c = 3 := by simpa using h1
      refine R_ret hg 5 rfl rfl ?_
      rw [hm, runB_stop e1 (by rw [← hs]; simp [h1])]; rfl
  · have hk1 : L.length ≤ k := ge_dec h (by rw [Tx_size])
    refine R_ret hg 5 rfl rfl ?_
    rw [hm, runB_end hk1]; rfl

set_option maxRecDepth 100000 in
theorem signs8_ok (L : Bs) (i : Nat) (hi : i ≤ L.length) (hL : L.length ≤ 9000) : PCtr Try.prog 91 [txA L, iV i] (iV (runB sgnC L i)) := by
  refine PCtr.of_R (pf := fun _ => .still) tyOk mixed Try.func91 rfl (by kernel_rfl) (by kernel_rfl) (by simp [Try.ntmps91]) fun w S hg => ?_
  refine R_run hg.ok 1000 rfl rfl ?_
  refine R_loop (fun k : Nat => ([(0, txA L), (1, iV k)], [])) (fun k => k ≤ L.length ∧ runB sgnC L i = runB sgnC L k) (fun k => L.length - k) i ⟨hi, rfl⟩ ⟨.refl _, .refl _, trivial⟩ rfl ?_
  rintro k ⟨hk, hm⟩
  refine R_run hg.ok 1000 rfl rfl ?_
  refine R_if rfl rfl (fun h => ?_) (fun h => ?_) <;> refine R_run hg.ok 1000 rfl rfl ?_
  · have hk1 : k < L.length := lt_dec h (by rw [Tx_size])
    have e1 : L[k]? = some L[k] := List.getElem?_eq_getElem hk1
    have hs := sort_sgn L[k]
    generalize L[k] = c at e1 hs
    refine R_indexS hg.ok rfl rfl rfl rfl rfl (Int.natCast_nonneg k) (b := c) (by rw [Tx_get]; exact e1) ?_
    refine R_run hg.ok 1000 rfl rfl ?_
    refine R_call hg.ok (sort8_ok c) rfl rfl rfl rfl rfl rfl ?_
    refine R_run hg.ok 1000 rfl rfl ?_
    refine R_if rfl rfl (fun h1 => ?_) (fun h1 => ?_) <;> refine R_run hg.ok 1000 rfl rfl ?_
    · have h1 : sortC c = 4 := by simpa using h1
      exact R_next (k + 1) ⟨hk1, by rw [hm, runB_step e1 (by rw [← hs]; simp [h1])]⟩ (by omega) ⟨.refl _, Ent.wrap (by omega) (by omega) (by omega), trivial⟩ rfl
    · have h1 : ¬ sortC c = 4 := by simpa using h1
      refine R_ret hg 5 rfl rfl ?_
      rw [hm, runB_stop e1 (by rw [← hs]; simp [h1])]; rfl
  · have hk1 : L.length ≤ k := ge_dec h (by rw [Tx_size])
    refine R_ret hg 5 rfl rfl ?_
    rw [hm, runB_end hk1]; rfl

def quo2 (L : Bs) (at_ : Nat) : Bs × Nat × Bool := match quo (L.drop at_) with
  | some (t, k) => (t, at_ + k, true)
  | none => ([], 0, false)

set_option maxRecDepth 100000 in
theorem quoted8_ok (L : Bs) (i : Nat) (hi : i ≤ L.length) (hL : L.length ≤ 9000) : PCtr Try.prog 90 [txA L, iV i] (.tup [txA (quo2 L i).1, iV (quo2 L i).2.1, bV (quo2 L i).2.2]) := by
  have bad : quo (L.drop i) = none → AV.tup [.d (.v (.string ByteArray.empty)), iV 0, .d (.v (.bool false))] = .tup [txA (quo2 L i).1, iV (quo2 L i).2.1, bV (quo2 L i).2.2] := fun h => by
    unfold quo2; rw [h]; rfl
  refine PCtr.of_R (pf := fun _ => .still) tyOk mixed Try.func90 rfl (by kernel_rfl) (by kernel_rfl) (by simp [Try.ntmps90]) fun w S hg => ?_
  refine R_run hg.ok 1000 rfl rfl ?_
  refine R_loop (fun x : Nat × Bs => ([(0, txA L), (1, iV x.1), (7, txA x.2)], [])) (fun x => i ≤ x.1 ∧ x.1 ≤ L.length ∧ x.2.length ≤ x.1 ∧ quo (L.drop i) = (quo (L.drop x.1)).map fun y => (x.2 ++ y.1, y.2 + (x.1 - i))) (fun x => L.length - x.1) (i, []) ⟨Nat.le_refl _, hi, Nat.zero_le _, by simp⟩ ⟨.refl _, .refl _, .refl _, trivial⟩ rfl ?_
  rintro ⟨k, out⟩ ⟨hk0, hk, ho, hm⟩
  simp only at hk0 hk ho hm
  refine R_run hg.ok 1000 rfl rfl ?_
  refine R_if rfl rfl (fun h => ?_) (fun h => ?_) <;> refine R_run hg.ok 1000 rfl rfl ?_
  · have hk1 : k < L.length := lt_dec h (by rw [Tx_size])
    have e1 : L[k]? = some L[k] := List.getElem?_eq_getElem hk1
    have hd : L.drop k = L[k] :: L.drop (k + 1) := List.drop_eq_getElem_cons hk1
    generalize L[k] = c at e1 hd
    refine R_indexS hg.ok rfl rfl rfl rfl rfl (Int.natCast_nonneg k) (b := c) (by rw [Tx_get]; exact e1) ?_
    refine R_run hg.ok 1000 rfl rfl ?_
    rw [hd] at hm
    refine R_if rfl rfl (fun h1 => ?_) (fun h1 => ?_) <;> refine R_run hg.ok 1000 rfl rfl ?_
    · have h1 : c.toNat < 32 := by simp at h1; omega
      refine R_ret hg 5 rfl rfl ?_
      exact bad (by rw [hm, quo_bad (.inl h1)]; rfl)
    have h1 : ¬ c.toNat < 32 := by simp at h1; omega
    refine R_indexS hg.ok rfl rfl rfl rfl rfl (Int.natCast_nonneg k) (b := c) (by rw [Tx_get]; exact e1) ?_
    refine R_run hg.ok 1000 rfl rfl ?_
    refine R_if rfl rfl (fun h2 => ?_) (fun h2 => ?_) <;> refine R_run hg.ok 1000 rfl rfl ?_
    · have h2 : 126 < c.toNat := by simp at h2; omega
      refine R_ret hg 5 rfl rfl ?_
      exact bad (by rw [hm, quo_bad (.inr h2)]; rfl)
    have h2 : ¬ 126 < c.toNat := by simp at h2; omega
    refine R_indexS hg.ok rfl rfl rfl rfl rfl (Int.natCast_nonneg k) (b := c) (by rw [Tx_get]; exact e1) ?_
    refine R_run hg.ok 1000 rfl rfl ?_
    refine R_if rfl rfl (fun h3 => ?_) (fun h3 => ?_) <;> refine R_run hg.ok 1000 rfl rfl ?_
    · have h3 : c.toNat = 39 := by simp at h3; omega
      rw [w64 (n := (k : Int) + 1) (by omega) (by omega), show (k : Int) + 1 = ((k + 1 : Nat) : Int) by omega]
      refine R_if rfl rfl (fun h4 => ?_) (fun h4 => ?_) <;> refine R_run hg.ok 1000 rfl rfl ?_
      · have hk2 : k + 1 < L.length := lt_dec h4 (by rw [Tx_size])
        rw [w64 (n := (k : Int) + 1) (by omega) (by omega), show (k : Int) + 1 = ((k + 1 : Nat) : Int) by omega]
        have e2 : L[k + 1]? = some L[k + 1] := List.getElem?_eq_getElem hk2
        have hd2 : L.drop (k + 1) = L[k + 1] :: L.drop (k + 1 + 1) := List.drop_eq_getElem_cons hk2
        generalize L[k + 1] = d at e2 hd2
        refine R_indexS hg.ok rfl rfl rfl rfl rfl (Int.natCast_nonneg (k + 1)) (b := d) (by rw [Tx_get]; exact e2) ?_
        refine R_run hg.ok 1000 rfl rfl ?_
        refine R_if rfl rfl (fun h5 => ?_) (fun h5 => ?_) <;> refine R_run hg.ok 1000 rfl rfl ?_
        · have h5 : d.toNat = 39 := by simp at h5; omega
          rw [hd2, quo_two h3 h5] at hm
          rw [w64 (n := (k : Int) + 1) (by omega) (by omega), show (k : Int) + 1 = ((k + 1 : Nat) : Int) by omega]
          rw [w64 (n := ((k + 1 : Nat) : Int) + 1) (by omega) (by omega)]
          refine R_sliceS hg.ok rfl rfl rfl (l := ((k + 1 : Nat) : Int)) (h := ((k + 1 : Nat) : Int) + 1) rfl rfl rfl (by omega) (by omega) (by rw [Tx_size]; omega) ?_
          rw [Tx_cut, show ((((k + 1 : Nat) : Int) + 1).toNat - (((k + 1 : Nat) : Int)).toNat) = 1 by omega, show (((k + 1 : Nat) : Int)).toNat = k + 1 by omega, hd2, List.take_succ_cons, List.take_zero, show d = 39 from UInt8.toNat_inj.1 h5]
          refine R_run hg.ok 1000 rfl rfl ?_
          refine R_concat hg.ok (Tx (out ++ [39])) rfl rfl rfl rfl (by rw [Tx_size, Tx_size]; simp; omega) (Tx_app _ _) ?_
          refine R_run hg.ok 1000 rfl rfl ?_
          refine R_next (k + 2, out ++ [39]) ⟨by simp only; omega, hk2, by simp; omega, ?_⟩ (by simp only; omega) ⟨.refl _, Ent.wrap (by simp only; omega) (by simp only; omega) (by simp only; omega), .refl _, trivial⟩ rfl
          simp only
          rw [hm, Option.map_map]
          congr 1
          funext y
          simp; omega
        · have h5 : ¬ d.toNat = 39 := by simp at h5; omega
          have last : quo2 L i = (out, k + 1, true) := by
            unfold quo2
            rw [hm, quo_one h3 (fun x hx => by rw [hd2] at hx; cases hx; exact h5)]
            simp; omega
          refine R_indexS hg.ok rfl rfl rfl rfl rfl (Int.natCast_nonneg k) (b := c) (by rw [Tx_get]; exact e1) ?_
          refine R_run hg.ok 1000 rfl rfl ?_
          refine R_if rfl rfl (fun _ => ?_) (fun h => absurd h (by simp; omega)) <;> refine R_run hg.ok 1000 rfl rfl ?_
          rw [w64 (n := (k : Int) + 1) (by omega) (by omega), show (k : Int) + 1 = ((k + 1 : Nat) : Int) by omega]
          refine R_ret hg 5 rfl rfl ?_
          rw [last]; rfl
      · have hk2 : L.length ≤ k + 1 := ge_dec h4 (by rw [Tx_size])
        have last : quo2 L i = (out, k + 1, true) := by
          unfold quo2
          rw [hm, quo_one h3 (fun x hx => by rw [List.drop_eq_nil_of_le hk2] at hx; cases hx)]
          simp; omega
        refine R_indexS hg.ok rfl rfl rfl rfl rfl (Int.natCast_nonneg k) (b := c) (by rw [Tx_get]; exact e1) ?_
        refine R_run hg.ok 1000 rfl rfl ?_
        refine R_if rfl rfl (fun _ => ?_) (fun h => absurd h (by simp; omega)) <;> refine R_run hg.ok 1000 rfl rfl ?_
        rw [w64 (n := (k : Int) + 1) (by omega) (by omega), show (k : Int) + 1 = ((k + 1 : Nat) : Int) by omega]
        refine R_ret hg 5 rfl rfl ?_
        rw [last]; rfl
    · have h3 : ¬ c.toNat = 39 := by simp at h3; omega
      refine R_indexS hg.ok rfl rfl rfl rfl rfl (Int.natCast_nonneg k) (b := c) (by rw [Tx_get]; exact e1) ?_
      refine R_run hg.ok 1000 rfl rfl ?_
      refine R_if rfl rfl (fun h => absurd h (by simp; omega)) (fun _ => ?_) <;> refine R_run hg.ok 1000 rfl rfl ?_
      rw [quo_any (by omega) h3] at hm
      rw [w64 (n := (k : Int) + 1) (by omega) (by omega), show (k : Int) + 1 = ((k + 1 : Nat) : Int) by omega]
      refine R_sliceS hg.ok rfl rfl rfl (l := (k : Int)) (h := ((k + 1 : Nat) : Int)) rfl rfl rfl (by omega) (by omega) (by rw [Tx_size]; omega) ?_
      rw [Tx_cut, show ((((k + 1 : Nat) : Int)).toNat - ((k : Int)).toNat) = 1 by omega, show ((k : Int)).toNat = k by omega, hd, List.take_succ_cons, List.take_zero]
      refine R_run hg.ok 1000 rfl rfl ?_
      refine R_concat hg.ok (Tx (out ++ [c])) rfl rfl rfl rfl (by rw [Tx_size, Tx_size]; simp; omega) (Tx_app _ _) ?_
      refine R_run hg.ok 1000 rfl rfl ?_
      refine R_next (k + 1, out ++ [c]) ⟨by simp only; omega, hk1, by simp; omega, ?_⟩ (by simp only; omega) ⟨.refl _, Ent.wrap (by simp only; omega) (by simp only; omega) (by simp only; omega), .refl _, trivial⟩ rfl
      simp only
      rw [hm, Option.map_map]
      congr 1
      funext y
      simp; omega
  · have hk1 : L.length ≤ k := ge_dec h (by rw [Tx_size])
    rw [List.drop_eq_nil_of_le hk1] at hm
    refine R_ret hg 5 rfl rfl ?_
    exact bad (by rw [hm]; rfl)
end Go.Proofs.Ythdpfglpdgmphaa

namespace Go.Proofs.Ythdpfglpdgmphaa
open Go PSL Go.Proofs

theorem wrap_sub48 (a : Int) : IntKind.i64.wrap (IntKind.i64.wrap a - 48) = IntKind.i64.wrap (a - 48) := by
  simp [IntKind.wrap, IntKind.signed, IntKind.bits]; omega

set_option maxRecDepth 100000 in
theorem number8_ok (D : Bs) (hd : D.all dgC = true) (hl : D.length ≤ 9000) (hne : D ≠ []) : PCtr Try.prog 89 [txA D] (.tup [iV (numP D).1, bV (numP D).2]) := by
  have bad : numT D = none → AV.tup [iV 0, .d (.v (.bool false))] = .tup [iV (numP D).1, bV (numP D).2] := fun h => by unfold numP; rw [h]; rfl
  have ok : ∀ n : Nat, numT D = some n → AV.tup [iV n, .d (.v (.bool true))] = .tup [iV (numP D).1, bV (numP D).2] := fun n h => by unfold numP; rw [h]; rfl
  have hpos : 0 < D.length := by cases D with | nil => exact absurd rfl hne | cons a b => simp
  have e0 : D[0]? = some D[0] := List.getElem?_eq_getElem hpos
  refine PCtr.of_R (pf := fun _ => .still) tyOk mixed Try.func89 rfl (by kernel_rfl) (by kernel_rfl) (by simp [Try.ntmps89]) fun w S hg => ?_
  refine R_run hg.ok 1000 rfl rfl ?_
  refine R_indexS hg.ok rfl rfl rfl rfl rfl (by decide) (b := D[0]) (by rw [Tx_get]; exact e0) ?_
  refine R_run hg.ok 1000 rfl rfl ?_
  by_cases h0 : 1 < D.length ∧ (D[0]?.map UInt8.toNat) = some 48
  · have hb := bad (by unfold numT; rw [if_pos (.inl h0)])
    have h48 : D[0].toNat = 48 := by have := h0.2; rw [e0] at this; simpa using this
    refine R_if rfl rfl (fun _ => ?_) (fun h => absurd h (by simp; omega)) <;> refine R_run hg.ok 1000 rfl rfl ?_
    refine R_if rfl rfl (fun _ => ?_) (fun h => absurd h (by simp [Tx_size]; omega)) <;> refine R_run hg.ok 1000 rfl rfl ?_
    refine R_ret hg 5 rfl rfl ?_
    exact hb
  have h0' : ¬ (1 < D.length ∧ (D[0]?.map UInt8.toNat) = some 48) := h0
  have hv : numT D = none ∨ (numT D = some (valN 0 D) ∧ valN 0 D ≤ 9223372036854775807) := by
    unfold numT
    by_cases hb : 9223372036854775807 < valN 0 D
    · rw [if_pos (.inr hb)]; exact .inl rfl
    · rw [if_neg (by rintro (g | g); exact h0 g; exact hb g)]; exact .inr ⟨rfl, by omega⟩
  have href := num_ref hd h0 hne
  have hbig : 9223372036854775807 < valN 0 D → numT D = none := fun hb => by unfold numT; rw [if_pos (.inr hb)]
  have hsmall : ¬ 9223372036854775807 < valN 0 D → numT D = some (valN 0 D) := fun hb => by
    unfold numT; rw [if_neg (by rintro (g | g); exact h0 g; exact hb g)]
  refine R_if rfl rfl (fun h1 => ?_) (fun h1 => ?_) <;> refine R_run hg.ok 1000 rfl rfl ?_
  · have h1 : D[0].toNat = 48 := by simp at h1; omega
    have h2 : D.length = 1 := Classical.byContradiction fun h2 => h0 ⟨by omega, by rw [e0]; simp [h1]⟩
    refine R_if rfl rfl (fun h => absurd h (by simp [Tx_size]; omega)) (fun _ => ?_) <;> refine R_run hg.ok 1000 rfl rfl ?_
    refine R_if rfl rfl (fun h => absurd h (by simp [Tx_size]; omega)) (fun _ => ?_) <;> refine R_run hg.ok 1000 rfl rfl ?_
    refine R_if rfl rfl (fun h => absurd h (by simp [Tx_size]; omega)) (fun _ => ?_) <;> refine R_run hg.ok 1000 rfl rfl ?_
    have hno : ¬ 9223372036854775807 < valN 0 D := fun g => by rcases href.1 g with h | h <;> omega
    refine R_loop (fun k : Nat => ([(0, txA D), (4, iV (valN 0 (D.take k))), (5, iV k)], [])) (fun k => k ≤ D.length) (fun k => D.length - k) 0 (Nat.zero_le _) ⟨.refl _, .refl _, .refl _, trivial⟩ rfl ?_
    rintro k hk
    refine R_run hg.ok 1000 rfl rfl ?_
    refine R_if rfl rfl (fun h => ?_) (fun h => ?_) <;> refine R_run hg.ok 1000 rfl rfl ?_
    · have hk1 : k < D.length := lt_dec h (by rw [Tx_size])
      have e1 : D[k]? = some D[k] := List.getElem?_eq_getElem hk1
      have hdk : dgC D[k] = true := List.all_eq_true.1 hd _ (List.getElem_mem hk1)
      have htk : D.take (k + 1) = D.take k ++ [D[k]] := by rw [List.take_add_one, e1]; rfl
      have hv : valN 0 (D.take (k + 1)) = 10 * valN 0 (D.take k) + (D[k].toNat - 48) := by rw [htk, valN_snoc]
      have hmono : valN 0 (D.take (k + 1)) ≤ valN 0 D := by
        have := valN_mono (D.take (k + 1)) (D.drop (k + 1))
        rwa [List.take_append_drop] at this
      have hd9 : 48 ≤ D[k].toNat ∧ D[k].toNat ≤ 57 := by simp only [dgC, Bool.and_eq_true, decide_eq_true_eq] at hdk; exact hdk
      generalize D[k] = c at e1 hv hd9
      refine R_indexS hg.ok rfl rfl rfl rfl rfl (Int.natCast_nonneg k) (b := c) (by rw [Tx_get]; exact e1) ?_
      refine R_run hg.ok 1000 rfl rfl ?_
      refine R_next (k + 1) hk1 (by omega) ⟨.refl _, ?_, Ent.wrap (by omega) (by omega) (by omega), trivial⟩ rfl
      refine Ent.int ?_
      rw [w64 (n := 10 * (valN 0 (D.take k) : Int)) (by omega) (by omega), w64 (n := (c.toNat : Int)) (by omega) (by omega), wrap_sub48, w64 (by omega) (by omega)]
      omega
    · have hk1 : D.length ≤ k := ge_dec h (by rw [Tx_size])
      refine R_ret hg 5 rfl rfl ?_
      rw [List.take_of_length_le hk1]
      exact ok _ (hsmall hno)
  refine R_if rfl rfl (fun h2 => ?_) (fun h2 => ?_) <;> refine R_run hg.ok 1000 rfl rfl ?_
  · have h2 : 19 < D.length := by have := of_decide_eq_true h2; rw [Tx_size] at this; omega
    refine R_ret hg 5 rfl rfl ?_
    exact bad (hbig (href.2 (.inl h2)))
  have h2 : ¬ 19 < D.length := by have := of_decide_eq_false h2; rw [Tx_size] at this; omega
  refine R_if rfl rfl (fun h3 => ?_) (fun h3 => ?_) <;> refine R_run hg.ok 1000 rfl rfl ?_
  · have h3 : D.length = 19 := by simp [Tx_size] at h3; omega
    have hgt : (Op.bytesLess (Tx D).toList (Tx maxD).toList || strEq (Tx D) (Tx maxD)) = (Op.bytesLess D maxD || D == maxD) := by rw [Tx_list, Tx_list, Tx_eq]
    refine R_if rfl rfl (fun h4 => ?_) (fun h4 => ?_) <;> refine R_run hg.ok 1000 rfl rfl ?_
    · have h4 : (!(Op.bytesLess (Tx D).toList (Tx maxD).toList || strEq (Tx D) (Tx maxD))) = true := h4
      rw [hgt] at h4
      refine R_ret hg 5 rfl rfl ?_
      exact bad (hbig (href.2 (.inr ⟨h3, by simpa using h4⟩)))
    · have h4 : (!(Op.bytesLess (Tx D).toList (Tx maxD).toList || strEq (Tx D) (Tx maxD))) = false := h4
      rw [hgt] at h4
      have hno : ¬ 9223372036854775807 < valN 0 D := fun g => by
        rcases href.1 g with h | ⟨_, h⟩
        · omega
        · rw [h] at h4; cases h4
      refine R_loop (fun k : Nat => ([(0, txA D), (4, iV (valN 0 (D.take k))), (5, iV k)], [])) (fun k => k ≤ D.length) (fun k => D.length - k) 0 (Nat.zero_le _) ⟨.refl _, .refl _, .refl _, trivial⟩ rfl ?_
      rintro k hk
      refine R_run hg.ok 1000 rfl rfl ?_
      refine R_if rfl rfl (fun h => ?_) (fun h => ?_) <;> refine R_run hg.ok 1000 rfl rfl ?_
      · have hk1 : k < D.length := lt_dec h (by rw [Tx_size])
        have e1 : D[k]? = some D[k] := List.getElem?_eq_getElem hk1
        have hdk : dgC D[k] = true := List.all_eq_true.1 hd _ (List.getElem_mem hk1)
        have htk : D.take (k + 1) = D.take k ++ [D[k]] := by rw [List.take_add_one, e1]; rfl
        have hv : valN 0 (D.take (k + 1)) = 10 * valN 0 (D.take k) + (D[k].toNat - 48) := by rw [htk, valN_snoc]
        have hmono : valN 0 (D.take (k + 1)) ≤ valN 0 D := by
          have := valN_mono (D.take (k + 1)) (D.drop (k + 1))
          rwa [List.take_append_drop] at this
        have hd9 : 48 ≤ D[k].toNat ∧ D[k].toNat ≤ 57 := by simp only [dgC, Bool.and_eq_true, decide_eq_true_eq] at hdk; exact hdk
        generalize D[k] = c at e1 hv hd9
        refine R_indexS hg.ok rfl rfl rfl rfl rfl (Int.natCast_nonneg k) (b := c) (by rw [Tx_get]; exact e1) ?_
        refine R_run hg.ok 1000 rfl rfl ?_
        refine R_next (k + 1) hk1 (by omega) ⟨.refl _, ?_, Ent.wrap (by omega) (by omega) (by omega), trivial⟩ rfl
        refine Ent.int ?_
        rw [w64 (n := 10 * (valN 0 (D.take k) : Int)) (by omega) (by omega), w64 (n := (c.toNat : Int)) (by omega) (by omega), wrap_sub48, w64 (by omega) (by omega)]
        omega
      · have hk1 : D.length ≤ k := ge_dec h (by rw [Tx_size])
        refine R_ret hg 5 rfl rfl ?_
        rw [List.take_of_length_le hk1]
        exact ok _ (hsmall hno)
  have h3 : ¬ D.length = 19 := by simp [Tx_size] at h3; omega
  have hno : ¬ 9223372036854775807 < valN 0 D := fun g => by rcases href.1 g with h | h <;> omega
  refine R_loop (fun k : Nat => ([(0, txA D), (4, iV (valN 0 (D.take k))), (5, iV k)], [])) (fun k => k ≤ D.length) (fun k => D.length - k) 0 (Nat.zero_le _) ⟨.refl _, .refl _, .refl _, trivial⟩ rfl ?_
  rintro k hk
  refine R_run hg.ok 1000 rfl rfl ?_
  refine R_if rfl rfl (fun h => ?_) (fun h => ?_) <;> refine R_run hg.ok 1000 rfl rfl ?_
  · have hk1 : k < D.length := lt_dec h (by rw [Tx_size])
    have e1 : D[k]? = some D[k] := List.getElem?_eq_getElem hk1
    have hdk : dgC D[k] = true := List.all_eq_true.1 hd _ (List.getElem_mem hk1)
    have htk : D.take (k + 1) = D.take k ++ [D[k]] := by rw [List.take_add_one, e1]; rfl
    have hv : valN 0 (D.take (k + 1)) = 10 * valN 0 (D.take k) + (D[k].toNat - 48) := by rw [htk, valN_snoc]
    have hmono : valN 0 (D.take (k + 1)) ≤ valN 0 D := by
      have := valN_mono (D.take (k + 1)) (D.drop (k + 1))
      rwa [List.take_append_drop] at this
    have hd9 : 48 ≤ D[k].toNat ∧ D[k].toNat ≤ 57 := by simp only [dgC, Bool.and_eq_true, decide_eq_true_eq] at hdk; exact hdk
    generalize D[k] = c at e1 hv hd9
    refine R_indexS hg.ok rfl rfl rfl rfl rfl (Int.natCast_nonneg k) (b := c) (by rw [Tx_get]; exact e1) ?_
    refine R_run hg.ok 1000 rfl rfl ?_
    refine R_next (k + 1) hk1 (by omega) ⟨.refl _, ?_, Ent.wrap (by omega) (by omega) (by omega), trivial⟩ rfl
    refine Ent.int ?_
    rw [w64 (n := 10 * (valN 0 (D.take k) : Int)) (by omega) (by omega), w64 (n := (c.toNat : Int)) (by omega) (by omega), wrap_sub48, w64 (by omega) (by omega)]
    omega
  · have hk1 : D.length ≤ k := ge_dec h (by rw [Tx_size])
    refine R_ret hg 5 rfl rfl ?_
    rw [List.take_of_length_le hk1]
    exact ok _ (hsmall hno)

def oneK (o : Option (Tk × Nat)) : Tk := match o with
  | some x => x.1
  | none => ⟨0, [], 0, 0, false⟩

def oneI (o : Option (Tk × Nat)) : Int := match o with
  | some x => x.2
  | none => -1
def oneA (o : Option (Tk × Nat)) : AV := .tup [tkA (oneK o), .d (.v (.int .i64 (oneI o)))]

set_option maxRecDepth 100000 in
theorem name8_ok (L : Bs) (kind : Int) (text : Bs) (i to : Nat) (hto : to ≤ L.length) (hL : L.length ≤ 9000) : PCtr Try.prog 86 [txA L, iV kind, txA text, iV i, iV to] (oneA (nameT L kind text i to)) := by
  refine PCtr.of_R (pf := fun _ => .eff) tyOk mixed Try.func86 rfl (by kernel_rfl) (by kernel_rfl) (by simp [Try.ntmps86]) fun w S hg => ?_
  refine R_run hg.ok 1000 rfl rfl ?_
  refine R_if rfl rfl (fun h1 => ?_) (fun h1 => ?_) <;> refine R_run hg.ok 1000 rfl rfl ?_
  · have h1 : ¬ 1 ≤ text.length := by have := of_decide_eq_true h1; rw [Tx_size] at this; omega
    refine R_ret hg 5 rfl rfl ?_
    rw [nameT, if_neg (by omega)]; rfl
  have h1 : 1 ≤ text.length := by have := of_decide_eq_false h1; rw [Tx_size] at this; omega
  refine R_if rfl rfl (fun h2 => ?_) (fun h2 => ?_) <;> refine R_run hg.ok 1000 rfl rfl ?_
  · have h2 : ¬ text.length ≤ 20 := by have := of_decide_eq_true h2; rw [Tx_size] at this; omega
    refine R_ret hg 5 rfl rfl ?_
    rw [nameT, if_neg (by omega)]; rfl
  have h2 : text.length ≤ 20 := by have := of_decide_eq_false h2; rw [Tx_size] at this; omega
  refine R_if rfl rfl (fun h3 => ?_) (fun h3 => ?_) <;> refine R_run hg.ok 1000 rfl rfl ?_
  · have h3 : to < L.length := lt_dec h3 (by rw [Tx_size])
    have e1 : L[to]? = some L[to] := List.getElem?_eq_getElem h3
    have ho : (((L[to].toNat : Int)) == 40) = opnB L to := by
      rw [opnB, e1, Bool.eq_iff_iff, beq_iff_eq, decide_eq_true_eq]; omega
    refine R_indexS hg.ok rfl rfl rfl rfl rfl (Int.natCast_nonneg to) (b := L[to]) (by rw [Tx_get]; exact e1) ?_
    refine R_run hg.ok 1000 rfl rfl ?_
    rw [ho]
    refine R_ret hg 5 rfl rfl ?_
    rw [nameT, if_pos ⟨h1, h2⟩]; rfl
  · have h3 : L.length ≤ to := ge_dec h3 (by rw [Tx_size])
    have ho : opnB L to = false := by rw [opnB, List.getElem?_eq_none h3]
    refine R_ret hg 5 rfl rfl ?_
    rw [nameT, if_pos ⟨h1, h2⟩, ho]; rfl
end Go.Proofs.Ythdpfglpdgmphaa

namespace Go.Proofs.Ythdpfglpdgmphaa
open Go PSL Go.Proofs

theorem take_run8 (p : UInt8 → Bool) : ∀ l : Bs, l.take (l.takeWhile p).length = l.takeWhile p ∧ (l.takeWhile p).all p = true
  | [] => by simp
  | c :: l => by
    by_cases h : p c = true
    · obtain ⟨h1, h2⟩ := take_run8 p l
      rw [List.takeWhile_cons_of_pos h, List.length_cons, List.take_succ_cons, h1, List.all_cons, h, h2]
      exact ⟨rfl, rfl⟩
    · rw [List.takeWhile_cons_of_neg h]; exact ⟨rfl, rfl⟩

theorem run_all8 {p : UInt8 → Bool} {L : Bs} {i : Nat} : (cutB L i (runB p L i)).all p = true := by
  unfold cutB runB
  rw [Nat.add_sub_cancel_left, (take_run8 p (L.drop i)).1]
  exact (take_run8 p (L.drop i)).2

set_option maxHeartbeats 1600000 in
set_option maxRecDepth 100000 in
theorem one8_ok (L : Bs) (i : Nat) (c : UInt8) (hc : L[i]? = some c) (hL : L.length ≤ 9000) : PCtr Try.prog 50 [txA L, iV i] (oneA (oneT L i)) := by
  have hi := (List.getElem?_eq_some_iff.1 hc).1
  have fin : ∀ {x : Option (Tk × Nat)}, oneT L i = x → oneA x = oneA (oneT L i) := fun h => by rw [h]
  have hrun := fun (p : UInt8 → Bool) => runB_le (p := p) (L := L) (i := i) (by omega)
  have s1 := sort_low c
  have s2 := sort_grt c
  have s3 := sort_dig c
  refine PCtr.of_R (pf := fun f => bif Nat.beq f 87 then .still else .eff) tyOk mixed Try.func50 rfl (by kernel_rfl) (by kernel_rfl) (by simp [Try.ntmps50]) fun w S hg => ?_
  refine R_run hg.ok 1000 rfl rfl ?_
  refine R_indexS hg.ok rfl rfl rfl rfl rfl (Int.natCast_nonneg i) (b := c) (by rw [Tx_get]; exact hc) ?_
  refine R_run hg.ok 1000 rfl rfl ?_
  refine R_call hg.ok (sort8_ok c) rfl rfl rfl rfl rfl rfl ?_
  refine R_run hg.ok 1000 rfl rfl ?_
  refine R_if rfl rfl (fun h1 => ?_) (fun h1 => ?_) <;> refine R_run hg.ok 1000 rfl rfl ?_
  · have h1 : lowC c = true := by rw [← s1]; simpa using h1
    have hr := hrun folC
    refine R_call hg.ok (word8_ok L i (by omega) hL) rfl rfl rfl rfl rfl rfl ?_
    refine R_run hg.ok 1000 rfl rfl ?_
    generalize hto : runB folC L i = to at hr
    refine R_sliceS hg.ok rfl rfl rfl (l := (i : Int)) (h := ((to : Nat) : Int)) rfl rfl rfl (Int.natCast_nonneg i) (by omega) (by rw [Tx_size]; omega) ?_
    rw [Tx_cut, show (L.drop ((i : Int)).toNat).take ((((to : Nat) : Int)).toNat - ((i : Int)).toNat) = cutB L i (to) from rfl]
    refine R_run hg.ok 1000 rfl rfl ?_
    refine R_call hg.ok (word8_ok L i (by omega) hL) rfl rfl rfl rfl rfl rfl ?_
    refine R_run hg.ok 1000 rfl rfl ?_
    rw [hto]
    refine R_call hg.ok (name8_ok L 1 (cutB L i to) i to hr.2 hL) rfl rfl rfl rfl rfl rfl ?_
    refine R_run hg.ok 1000 rfl rfl ?_
    refine R_ret hg 5 rfl rfl ?_
    rw [← fin (x := nameT L 1 (cutB L i to) i to) (by unfold oneT; rw [hc]; simp only; rw [if_pos h1, hto])]; rfl
  have n1 : ¬ lowC c = true := by rw [← s1]; simpa using h1
  refine R_if rfl rfl (fun h2 => ?_) (fun h2 => ?_) <;> refine R_run hg.ok 1000 rfl rfl ?_
  · have h2 : grtC c = true := by rw [← s2]; simpa using h2
    have hr := hrun folC
    refine R_call hg.ok (word8_ok L i (by omega) hL) rfl rfl rfl rfl rfl rfl ?_
    refine R_run hg.ok 1000 rfl rfl ?_
    generalize hto : runB folC L i = to at hr
    refine R_sliceS hg.ok rfl rfl rfl (l := (i : Int)) (h := ((to : Nat) : Int)) rfl rfl rfl (Int.natCast_nonneg i) (by omega) (by rw [Tx_size]; omega) ?_
    rw [Tx_cut, show (L.drop ((i : Int)).toNat).take ((((to : Nat) : Int)).toNat - ((i : Int)).toNat) = cutB L i (to) from rfl]
    refine R_run hg.ok 1000 rfl rfl ?_
    refine R_call hg.ok (word8_ok L i (by omega) hL) rfl rfl rfl rfl rfl rfl ?_
    refine R_run hg.ok 1000 rfl rfl ?_
    rw [hto]
    refine R_call hg.ok (name8_ok L 2 (cutB L i to) i to hr.2 hL) rfl rfl rfl rfl rfl rfl ?_
    refine R_run hg.ok 1000 rfl rfl ?_
    refine R_ret hg 5 rfl rfl ?_
    rw [← fin (x := nameT L 2 (cutB L i to) i to) (by unfold oneT; rw [hc]; simp only; rw [if_neg n1, if_pos h2, hto])]; rfl
  have n2 : ¬ grtC c = true := by rw [← s2]; simpa using h2
  refine R_if rfl rfl (fun h3 => ?_) (fun h3 => ?_) <;> refine R_run hg.ok 1000 rfl rfl ?_
  · have h3 : dgC c = true := by rw [← s3]; simpa using h3
    have hr := hrun dgC
    have hall := run_all8 (p := dgC) (L := L) (i := i)
    have hne : cutB L i (runB dgC L i) ≠ [] := by
      have hl := cutB_len (L := L) hr.1 hr.2
      have h4 := (runB_le (p := dgC) (L := L) (i := i + 1) (by omega)).1
      intro e
      rw [e, runB_step hc h3] at hl
      simp at hl; omega
    refine R_call hg.ok (digits8_ok L i (by omega) hL) rfl rfl rfl rfl rfl rfl ?_
    refine R_run hg.ok 1000 rfl rfl ?_
    generalize hto : runB dgC L i = to at hr hall hne
    have hcl := cutB_len (L := L) hr.1 hr.2
    refine R_sliceS hg.ok rfl rfl rfl (l := (i : Int)) (h := ((to : Nat) : Int)) rfl rfl rfl (Int.natCast_nonneg i) (by omega) (by rw [Tx_size]; omega) ?_
    rw [Tx_cut, show (L.drop ((i : Int)).toNat).take ((((to : Nat) : Int)).toNat - ((i : Int)).toNat) = cutB L i (to) from rfl]
    refine R_run hg.ok 1000 rfl rfl ?_
    refine R_call hg.ok (number8_ok (cutB L i to) hall (by omega) hne) rfl rfl rfl rfl rfl rfl ?_
    refine R_run hg.ok 1000 rfl rfl ?_
    have hT : oneT L i = (numT (cutB L i to)).map fun n => (⟨3, cutB L i to, n, i, false⟩, to) := by
      unfold oneT; rw [hc]; simp only; rw [if_neg n1, if_neg n2, if_pos h3, hto]; cases numT (cutB L i to) <;> rfl
    unfold numP
    cases hn : numT (cutB L i to) with
    | none =>
      rw [hn] at hT
      refine R_run hg.ok 1000 rfl rfl ?_
      refine R_if rfl rfl (fun _ => ?_) (fun h => absurd h (by simp)) <;> refine R_run hg.ok 1000 rfl rfl ?_
      refine R_ret hg 5 rfl rfl ?_
      rw [← fin hT]; rfl
    | some n =>
      rw [hn] at hT
      refine R_run hg.ok 1000 rfl rfl ?_
      refine R_if rfl rfl (fun h => absurd h (by simp)) (fun _ => ?_) <;> refine R_run hg.ok 1000 rfl rfl ?_
      refine R_sliceS hg.ok rfl rfl rfl (l := (i : Int)) (h := ((to : Nat) : Int)) rfl rfl rfl (Int.natCast_nonneg i) (by omega) (by rw [Tx_size]; omega) ?_
      rw [Tx_cut, show (L.drop ((i : Int)).toNat).take ((((to : Nat) : Int)).toNat - ((i : Int)).toNat) = cutB L i (to) from rfl]
      refine R_run hg.ok 1000 rfl rfl ?_
      refine R_ret hg 5 rfl rfl ?_
      rw [← fin hT]; rfl
  have n3 : ¬ dgC c = true := by rw [← s3]; simpa using h3
  refine R_if rfl rfl (fun h4 => ?_) (fun h4 => ?_) <;> refine R_run hg.ok 1000 rfl rfl ?_
  · have h4 : c.toNat = 39 := by simp at h4; omega
    rw [w64 (n := (i : Int) + 1) (by omega) (by omega), show (i : Int) + 1 = ((i + 1 : Nat) : Int) by omega]
    have hT : oneT L i = match quo (L.drop (i + 1)) with | some (t, k) => nameT L 1 t i (i + 1 + k) | none => none := by
      unfold oneT; rw [hc]; simp only; rw [if_neg n1, if_neg n2, if_neg n3, if_pos h4]; cases quo (L.drop (i + 1)) <;> rfl
    refine R_call hg.ok (quoted8_ok L (i + 1) (by omega) hL) rfl rfl rfl rfl rfl rfl ?_
    refine R_run hg.ok 1000 rfl rfl ?_
    unfold quo2
    cases hq : quo (L.drop (i + 1)) with
    | none =>
      rw [hq] at hT
      refine R_run hg.ok 1000 rfl rfl ?_
      refine R_if rfl rfl (fun _ => ?_) (fun h => absurd h (by simp)) <;> refine R_run hg.ok 1000 rfl rfl ?_
      refine R_ret hg 5 rfl rfl ?_
      rw [← fin hT]; rfl
    | some x =>
      obtain ⟨t, k⟩ := x
      rw [hq] at hT
      have hk := quo_len _ _ (Nat.le_refl _) _ _ hq
      rw [List.length_drop] at hk
      refine R_run hg.ok 1000 rfl rfl ?_
      refine R_if rfl rfl (fun h => absurd h (by simp)) (fun _ => ?_) <;> refine R_run hg.ok 1000 rfl rfl ?_
      refine R_call hg.ok (name8_ok L 1 t i (i + 1 + k) (by omega) hL) rfl rfl rfl rfl rfl rfl ?_
      refine R_run hg.ok 1000 rfl rfl ?_
      refine R_ret hg 5 rfl rfl ?_
      rw [← fin hT]; rfl
  have n4 : ¬ c.toNat = 39 := by simp at h4; omega
  by_cases h5 : c.toNat = 91 ∧ (L[i + 1]?.map UInt8.toNat) = some 93
  · obtain ⟨d, hd, hd93⟩ : ∃ d, L[i + 1]? = some d ∧ d.toNat = 93 := by
      have := h5.2
      cases hx : L[i + 1]? with
      | none => rw [hx] at this; simp at this
      | some d => rw [hx] at this; exact ⟨d, rfl, by simpa using this⟩
    have hi1 := (List.getElem?_eq_some_iff.1 hd).1
    refine R_if rfl rfl (fun _ => ?_) (fun h => absurd h (by simp; omega)) <;> refine R_run hg.ok 1000 rfl rfl ?_
    rw [w64 (n := (i : Int) + 1) (by omega) (by omega), show (i : Int) + 1 = ((i + 1 : Nat) : Int) by omega]
    refine R_if rfl rfl (fun _ => ?_) (fun h => absurd h (by simp [Tx_size]; omega)) <;> refine R_run hg.ok 1000 rfl rfl ?_
    rw [w64 (n := (i : Int) + 1) (by omega) (by omega), show (i : Int) + 1 = ((i + 1 : Nat) : Int) by omega]
    refine R_indexS hg.ok rfl rfl rfl rfl rfl (Int.natCast_nonneg (i + 1)) (b := d) (by rw [Tx_get]; exact hd) ?_
    refine R_run hg.ok 1000 rfl rfl ?_
    refine R_if rfl rfl (fun _ => ?_) (fun h => absurd h (by simp; omega)) <;> refine R_run hg.ok 1000 rfl rfl ?_
    rw [w64 (n := (i : Int) + 2) (by omega) (by omega), show (i : Int) + 2 = ((i + 2 : Nat) : Int) by omega]
    refine R_call hg.ok (name8_ok L 1 [91, 93] i (i + 2) (by omega) hL) rfl rfl rfl rfl rfl rfl ?_
    refine R_run hg.ok 1000 rfl rfl ?_
    refine R_ret hg 5 rfl rfl ?_
    rw [← fin (x := nameT L 1 [91, 93] i (i + 2)) (by unfold oneT; rw [hc]; simp only; rw [if_neg n1, if_neg n2, if_neg n3, if_neg n4, if_pos h5])]; rfl
  have n5 := h5
  have hd0 : L.drop i = c :: L.drop (i + 1) := by rw [List.drop_eq_getElem_cons hi, (List.getElem?_eq_some_iff.1 hc).2]
  have hcut1 : cutB L i (i + 1) = [c] := by rw [cutB, hd0, Nat.add_sub_cancel_left]; rfl
  refine R_if rfl rfl (fun h6 => ?_) (fun h6 => ?_) <;> refine R_run hg.ok 1000 rfl rfl ?_
  · have h6 : c.toNat = 91 := by simp at h6; omega
    have tail : mrkC c = true := by have e : c = 91 := UInt8.toNat_inj.1 h6; rw [e]; decide
    rw [w64 (n := (i : Int) + 1) (by omega) (by omega), show (i : Int) + 1 = ((i + 1 : Nat) : Int) by omega]
    refine R_if rfl rfl (fun h7 => ?_) (fun h7 => ?_) <;> refine R_run hg.ok 1000 rfl rfl ?_
    · have hi1 : i + 1 < L.length := lt_dec h7 (by rw [Tx_size])
      rw [w64 (n := (i : Int) + 1) (by omega) (by omega), show (i : Int) + 1 = ((i + 1 : Nat) : Int) by omega]
      refine R_indexS hg.ok rfl rfl rfl rfl rfl (Int.natCast_nonneg (i + 1)) (b := L[i + 1]) (by rw [Tx_get]; exact List.getElem?_eq_getElem hi1) ?_
      refine R_run hg.ok 1000 rfl rfl ?_
      refine R_if rfl rfl (fun h => absurd h (by have h9 : ¬ L[i + 1].toNat = 93 := fun g => n5 ⟨h6, by rw [List.getElem?_eq_getElem hi1]; simpa using g⟩; simp; omega)) (fun _ => ?_) <;> refine R_run hg.ok 1000 rfl rfl ?_
      repeat
        first
        | (refine R_if rfl rfl (fun _ => ?_) (fun h => absurd h (by first | (simp; done) | (simp; omega))); refine R_run hg.ok 1000 rfl rfl ?_)
        | (refine R_if rfl rfl (fun h => absurd h (by first | (simp; done) | (simp; omega))) (fun _ => ?_); refine R_run hg.ok 1000 rfl rfl ?_)
      rw [w64 (n := (i : Int) + 1) (by omega) (by omega), show (i : Int) + 1 = ((i + 1 : Nat) : Int) by omega]
      refine R_sliceS hg.ok rfl rfl rfl (l := (i : Int)) (h := ((i + 1 : Nat) : Int)) rfl rfl rfl (Int.natCast_nonneg i) (by omega) (by rw [Tx_size]; omega) ?_
      rw [Tx_cut, show (L.drop ((i : Int)).toNat).take ((((i + 1 : Nat) : Int)).toNat - ((i : Int)).toNat) = cutB L i (i + 1) from rfl]
      refine R_run hg.ok 1000 rfl rfl ?_
      refine R_ret hg 5 rfl rfl ?_
      rw [w64 (n := (i : Int) + 1) (by omega) (by omega), show (i : Int) + 1 = ((i + 1 : Nat) : Int) by omega]
      rw [hcut1, ← fin (x := some (⟨4, [c], 0, i, false⟩, i + 1)) (by unfold oneT; rw [hc]; simp only; rw [if_neg n1, if_neg n2, if_neg n3, if_neg n4, if_neg n5, if_neg (by omega), if_pos tail])]; rfl
    · have h7 := h7
      repeat
        first
        | (refine R_if rfl rfl (fun _ => ?_) (fun h => absurd h (by first | (simp; done) | (simp; omega))); refine R_run hg.ok 1000 rfl rfl ?_)
        | (refine R_if rfl rfl (fun h => absurd h (by first | (simp; done) | (simp; omega))) (fun _ => ?_); refine R_run hg.ok 1000 rfl rfl ?_)
      rw [w64 (n := (i : Int) + 1) (by omega) (by omega), show (i : Int) + 1 = ((i + 1 : Nat) : Int) by omega]
      refine R_sliceS hg.ok rfl rfl rfl (l := (i : Int)) (h := ((i + 1 : Nat) : Int)) rfl rfl rfl (Int.natCast_nonneg i) (by omega) (by rw [Tx_size]; omega) ?_
      rw [Tx_cut, show (L.drop ((i : Int)).toNat).take ((((i + 1 : Nat) : Int)).toNat - ((i : Int)).toNat) = cutB L i (i + 1) from rfl]
      refine R_run hg.ok 1000 rfl rfl ?_
      refine R_ret hg 5 rfl rfl ?_
      rw [w64 (n := (i : Int) + 1) (by omega) (by omega), show (i : Int) + 1 = ((i + 1 : Nat) : Int) by omega]
      rw [hcut1, ← fin (x := some (⟨4, [c], 0, i, false⟩, i + 1)) (by unfold oneT; rw [hc]; simp only; rw [if_neg n1, if_neg n2, if_neg n3, if_neg n4, if_neg n5, if_neg (by omega), if_pos tail])]; rfl
  refine R_if rfl rfl (fun h8 => ?_) (fun h8 => ?_) <;> refine R_run hg.ok 1000 rfl rfl ?_
  · have h8 : c.toNat = 33 := by simp at h8; omega
    rw [w64 (n := (i : Int) + 1) (by omega) (by omega), show (i : Int) + 1 = ((i + 1 : Nat) : Int) by omega]
    refine R_sliceS hg.ok rfl rfl rfl (l := (i : Int)) (h := ((i + 1 : Nat) : Int)) rfl rfl rfl (Int.natCast_nonneg i) (by omega) (by rw [Tx_size]; omega) ?_
    rw [Tx_cut, show (L.drop ((i : Int)).toNat).take ((((i + 1 : Nat) : Int)).toNat - ((i : Int)).toNat) = cutB L i (i + 1) from rfl]
    refine R_run hg.ok 1000 rfl rfl ?_
    rw [w64 (n := (i : Int) + 1) (by omega) (by omega), show (i : Int) + 1 = ((i + 1 : Nat) : Int) by omega]
    refine R_call hg.ok (name8_ok L 1 (cutB L i (i + 1)) i (i + 1) (by omega) hL) rfl rfl rfl rfl rfl rfl ?_
    refine R_run hg.ok 1000 rfl rfl ?_
    refine R_ret hg 5 rfl rfl ?_
    rw [hcut1, ← fin (x := nameT L 1 [c] i (i + 1)) (by unfold oneT; rw [hc]; simp only; rw [if_neg n1, if_neg n2, if_neg n3, if_neg n4, if_neg n5, if_pos (.inl h8)])]; rfl
  refine R_if rfl rfl (fun h9 => ?_) (fun h9 => ?_) <;> refine R_run hg.ok 1000 rfl rfl ?_
  · have h9 : c.toNat = 59 := by simp at h9; omega
    rw [w64 (n := (i : Int) + 1) (by omega) (by omega), show (i : Int) + 1 = ((i + 1 : Nat) : Int) by omega]
    refine R_sliceS hg.ok rfl rfl rfl (l := (i : Int)) (h := ((i + 1 : Nat) : Int)) rfl rfl rfl (Int.natCast_nonneg i) (by omega) (by rw [Tx_size]; omega) ?_
    rw [Tx_cut, show (L.drop ((i : Int)).toNat).take ((((i + 1 : Nat) : Int)).toNat - ((i : Int)).toNat) = cutB L i (i + 1) from rfl]
    refine R_run hg.ok 1000 rfl rfl ?_
    rw [w64 (n := (i : Int) + 1) (by omega) (by omega), show (i : Int) + 1 = ((i + 1 : Nat) : Int) by omega]
    refine R_call hg.ok (name8_ok L 1 (cutB L i (i + 1)) i (i + 1) (by omega) hL) rfl rfl rfl rfl rfl rfl ?_
    refine R_run hg.ok 1000 rfl rfl ?_
    refine R_ret hg 5 rfl rfl ?_
    rw [hcut1, ← fin (x := nameT L 1 [c] i (i + 1)) (by unfold oneT; rw [hc]; simp only; rw [if_neg n1, if_neg n2, if_neg n3, if_neg n4, if_neg n5, if_pos (.inr h9)])]; rfl
  have n6 : ¬ (c.toNat = 33 ∨ c.toNat = 59) := by simp at h8 h9; omega
  have m6 : ¬ c.toNat = 91 := by simp at h6; omega
  by_cases tail : mrkC c = true
  · have hm : c.toNat = 40 ∨ c.toNat = 41 ∨ c.toNat = 91 ∨ c.toNat = 93 ∨ c.toNat = 124 ∨ c.toNat = 44 := by
      have := byte_all (p := fun c => !mrkC c || (decide (c.toNat = 40) || decide (c.toNat = 41) || decide (c.toNat = 91) || decide (c.toNat = 93) || decide (c.toNat = 124) || decide (c.toNat = 44))) (by decide +kernel) c
      simp only [tail, Bool.not_true, Bool.false_or, Bool.or_eq_true, decide_eq_true_eq] at this
      omega
    rcases hm with hm | hm | hm | hm | hm | hm
    all_goals
      repeat
        first
        | (refine R_if rfl rfl (fun _ => ?_) (fun h => absurd h (by first | (simp; done) | (simp; omega))); refine R_run hg.ok 1000 rfl rfl ?_)
        | (refine R_if rfl rfl (fun h => absurd h (by first | (simp; done) | (simp; omega))) (fun _ => ?_); refine R_run hg.ok 1000 rfl rfl ?_)
      rw [w64 (n := (i : Int) + 1) (by omega) (by omega), show (i : Int) + 1 = ((i + 1 : Nat) : Int) by omega]
      refine R_sliceS hg.ok rfl rfl rfl (l := (i : Int)) (h := ((i + 1 : Nat) : Int)) rfl rfl rfl (Int.natCast_nonneg i) (by omega) (by rw [Tx_size]; omega) ?_
      rw [Tx_cut, show (L.drop ((i : Int)).toNat).take ((((i + 1 : Nat) : Int)).toNat - ((i : Int)).toNat) = cutB L i (i + 1) from rfl]
      refine R_run hg.ok 1000 rfl rfl ?_
      refine R_ret hg 5 rfl rfl ?_
      rw [w64 (n := (i : Int) + 1) (by omega) (by omega), show (i : Int) + 1 = ((i + 1 : Nat) : Int) by omega]
      rw [hcut1, ← fin (x := some (⟨4, [c], 0, i, false⟩, i + 1)) (by unfold oneT; rw [hc]; simp only; rw [if_neg n1, if_neg n2, if_neg n3, if_neg n4, if_neg n5, if_neg (by omega), if_pos tail])]; rfl
  have n7 := tail
  have hm : ¬ (c.toNat = 40 ∨ c.toNat = 41 ∨ c.toNat = 91 ∨ c.toNat = 93 ∨ c.toNat = 124 ∨ c.toNat = 44) := by
    have := byte_all (p := fun c => mrkC c || !(decide (c.toNat = 40) || decide (c.toNat = 41) || decide (c.toNat = 91) || decide (c.toNat = 93) || decide (c.toNat = 124) || decide (c.toNat = 44))) (by decide +kernel) c
    rw [Bool.eq_false_iff.2 n7] at this
    simp only [Bool.false_or, Bool.not_eq_true', Bool.or_eq_false_iff, decide_eq_false_iff_not] at this
    omega
  repeat
    first
    | (refine R_if rfl rfl (fun h => absurd h (by simp; omega)) (fun _ => ?_); refine R_run hg.ok 1000 rfl rfl ?_)
  have hr := hrun sgnC
  refine R_call hg.ok (signs8_ok L i (by omega) hL) rfl rfl rfl rfl rfl rfl ?_
  refine R_run hg.ok 1000 rfl rfl ?_
  generalize hto : runB sgnC L i = to at hr
  rw [w64 (n := (i : Int) + 1) (by omega) (by omega), show (i : Int) + 1 = ((i + 1 : Nat) : Int) by omega]
  refine R_if rfl rfl (fun a1 => ?_) (fun a1 => ?_) <;> refine R_run hg.ok 1000 rfl rfl ?_
  · have a1 : to = i + 1 := by simp at a1; omega
    refine R_if rfl rfl (fun a2 => ?_) (fun a2 => ?_) <;> refine R_run hg.ok 1000 rfl rfl ?_
    · have a2 : c.toNat = 46 := by simp at a2; omega
      refine R_if rfl rfl (fun a3 => ?_) (fun a3 => ?_) <;> refine R_run hg.ok 1000 rfl rfl ?_
      · have a3 : L.length = to := by simp [Tx_size] at a3; omega
        have ea : endAft L to = true := by unfold endAft; rw [List.getElem?_eq_none (by omega)]
        refine R_ret hg 5 rfl rfl ?_
        rw [← fin (x := some (⟨5, [46], 0, i, false⟩, to)) (by unfold oneT; rw [hc]; simp only; rw [if_neg n1, if_neg n2, if_neg n3, if_neg n4, if_neg n5, if_neg n6, if_neg n7, if_pos ⟨hto.trans a1, a2, by rw [← a1]; first | exact ea | (rw [ea]; simp [*])⟩, a1])]; rfl
      · have a3 : to < L.length := by simp [Tx_size] at a3; omega
        have e1 : L[to]? = some L[to] := List.getElem?_eq_getElem a3
        have ea : endAft L to = (blkC L[to] || decide (L[to].toNat = 37)) := by unfold endAft; rw [e1]
        generalize L[to] = d at e1 ea
        have s5 := sort_blk d
        refine R_indexS hg.ok rfl rfl rfl rfl rfl (Int.natCast_nonneg to) (b := d) (by rw [Tx_get]; exact e1) ?_
        refine R_run hg.ok 1000 rfl rfl ?_
        refine R_call hg.ok (sort8_ok d) rfl rfl rfl rfl rfl rfl ?_
        refine R_run hg.ok 1000 rfl rfl ?_
        refine R_if rfl rfl (fun a4 => ?_) (fun a4 => ?_) <;> refine R_run hg.ok 1000 rfl rfl ?_
        · have a4 : blkC d = true := by rw [← s5]; simpa using a4
          refine R_ret hg 5 rfl rfl ?_
          rw [← fin (x := some (⟨5, [46], 0, i, false⟩, to)) (by unfold oneT; rw [hc]; simp only; rw [if_neg n1, if_neg n2, if_neg n3, if_neg n4, if_neg n5, if_neg n6, if_neg n7, if_pos ⟨hto.trans a1, a2, by rw [← a1]; first | exact ea | (rw [ea]; simp [*])⟩, a1])]; rfl
        · have a4 : blkC d = false := by rw [← s5]; simpa using a4
          refine R_indexS hg.ok rfl rfl rfl rfl rfl (Int.natCast_nonneg to) (b := d) (by rw [Tx_get]; exact e1) ?_
          refine R_run hg.ok 1000 rfl rfl ?_
          refine R_if rfl rfl (fun a5 => ?_) (fun a5 => ?_) <;> refine R_run hg.ok 1000 rfl rfl ?_
          · have a5 : d.toNat = 37 := by simp at a5; omega
            refine R_ret hg 5 rfl rfl ?_
            rw [← fin (x := some (⟨5, [46], 0, i, false⟩, to)) (by unfold oneT; rw [hc]; simp only; rw [if_neg n1, if_neg n2, if_neg n3, if_neg n4, if_neg n5, if_neg n6, if_neg n7, if_pos ⟨hto.trans a1, a2, by rw [← a1]; first | exact ea | (rw [ea]; simp [*])⟩, a1])]; rfl
          · have a5 : ¬ d.toNat = 37 := by simp at a5; omega
            refine R_sliceS hg.ok rfl rfl rfl (l := (i : Int)) (h := ((to : Nat) : Int)) rfl rfl rfl (Int.natCast_nonneg i) (by omega) (by rw [Tx_size]; omega) ?_
            rw [Tx_cut, show (L.drop ((i : Int)).toNat).take ((((to : Nat) : Int)).toNat - ((i : Int)).toNat) = cutB L i (to) from rfl]
            refine R_run hg.ok 1000 rfl rfl ?_
            refine R_call hg.ok (name8_ok L 1 (cutB L i to) i to hr.2 hL) rfl rfl rfl rfl rfl rfl ?_
            refine R_run hg.ok 1000 rfl rfl ?_
            refine R_ret hg 5 rfl rfl ?_
            rw [← fin (x := nameT L 1 (cutB L i to) i to) (by unfold oneT; rw [hc]; simp only; rw [if_neg n1, if_neg n2, if_neg n3, if_neg n4, if_neg n5, if_neg n6, if_neg n7, if_neg (by rw [hto]; rintro ⟨_, _, h⟩; rw [← a1, ea, a4] at h; simp [a5] at h), hto])]; rfl
    · have a2 : ¬ c.toNat = 46 := by simp at a2; omega
      refine R_sliceS hg.ok rfl rfl rfl (l := (i : Int)) (h := ((to : Nat) : Int)) rfl rfl rfl (Int.natCast_nonneg i) (by omega) (by rw [Tx_size]; omega) ?_
      rw [Tx_cut, show (L.drop ((i : Int)).toNat).take ((((to : Nat) : Int)).toNat - ((i : Int)).toNat) = cutB L i (to) from rfl]
      refine R_run hg.ok 1000 rfl rfl ?_
      refine R_call hg.ok (name8_ok L 1 (cutB L i to) i to hr.2 hL) rfl rfl rfl rfl rfl rfl ?_
      refine R_run hg.ok 1000 rfl rfl ?_
      refine R_ret hg 5 rfl rfl ?_
      rw [← fin (x := nameT L 1 (cutB L i to) i to) (by unfold oneT; rw [hc]; simp only; rw [if_neg n1, if_neg n2, if_neg n3, if_neg n4, if_neg n5, if_neg n6, if_neg n7, if_neg (by rintro ⟨_, h, _⟩; exact a2 h), hto])]; rfl
  · have a1 : ¬ to = i + 1 := by simp at a1; omega
    refine R_sliceS hg.ok rfl rfl rfl (l := (i : Int)) (h := ((to : Nat) : Int)) rfl rfl rfl (Int.natCast_nonneg i) (by omega) (by rw [Tx_size]; omega) ?_
    rw [Tx_cut, show (L.drop ((i : Int)).toNat).take ((((to : Nat) : Int)).toNat - ((i : Int)).toNat) = cutB L i (to) from rfl]
    refine R_run hg.ok 1000 rfl rfl ?_
    refine R_call hg.ok (name8_ok L 1 (cutB L i to) i to hr.2 hL) rfl rfl rfl rfl rfl rfl ?_
    refine R_run hg.ok 1000 rfl rfl ?_
    refine R_ret hg 5 rfl rfl ?_
    rw [← fin (x := nameT L 1 (cutB L i to) i to) (by unfold oneT; rw [hc]; simp only; rw [if_neg n1, if_neg n2, if_neg n3, if_neg n4, if_neg n5, if_neg n6, if_neg n7, if_neg (by rw [hto]; rintro ⟨h, _, _⟩; exact a1 h), hto])]; rfl
end Go.Proofs.Ythdpfglpdgmphaa

namespace Go.Proofs.Ythdpfglpdgmphaa
open Go PSL Go.Proofs

theorem skip_cons {L : Bs} {i : Nat} {c : UInt8} (hc : L[i]? = some c) (b : Bool) : i + skipL b (L.drop i) = if b = true then i + 1 + skipL (!decide (c.toNat = 10)) (L.drop (i + 1)) else if c.toNat = 37 then i + 1 + skipL true (L.drop (i + 1)) else if blkC c = true then i + 1 + skipL false (L.drop (i + 1)) else i := by
  have hi := (List.getElem?_eq_some_iff.1 hc).1
  have he := (List.getElem?_eq_some_iff.1 hc).2
  rw [List.drop_eq_getElem_cons hi, he]
  cases b with
  | true => rw [if_pos rfl]; simp only [skipL]; omega
  | false =>
    rw [if_neg (by simp)]
    simp only [skipL]
    split
    · omega
    · split <;> omega

set_option maxRecDepth 100000 in
theorem tokens8_ok (L : Bs) (hL : L.length ≤ 9000) : PCtr Try.prog 25 [txA L] (tokR L) := by
  refine PCtr.of_R (pf := fun _ => .eff) tyOk mixed Try.func25 rfl (by kernel_rfl) (by kernel_rfl) (by simp [Try.ntmps25]) fun w S hg => ?_
  refine R_run hg.ok 1000 rfl rfl ?_
  refine R_if rfl rfl (fun h => ?_) (fun h => ?_)
  · refine R_run hg.ok 1000 rfl rfl ?_
    have h : 8000 < L.length := by have := of_decide_eq_true h; rw [Tx_size] at this; omega
    refine R_ret hg 5 rfl rfl ?_
    unfold tokR tokT
    rw [if_pos h]; rfl
  have hbig : ¬ 8000 < L.length := by have := of_decide_eq_false h; rw [Tx_size] at this; omega
  first
  | (refine R_run hg.ok 1 rfl rfl ?_; refine R_own 5 5 rfl rfl ?_)
  | (refine R_run hg.ok 2 rfl rfl ?_; refine R_own 5 5 rfl rfl ?_)
  | (refine R_run hg.ok 3 rfl rfl ?_; refine R_own 5 5 rfl rfl ?_)
  | (refine R_run hg.ok 4 rfl rfl ?_; refine R_own 5 5 rfl rfl ?_)
  | (refine R_run hg.ok 5 rfl rfl ?_; refine R_own 5 5 rfl rfl ?_)
  | (refine R_run hg.ok 6 rfl rfl ?_; refine R_own 5 5 rfl rfl ?_)
  | (refine R_run hg.ok 7 rfl rfl ?_; refine R_own 5 5 rfl rfl ?_)
  | (refine R_run hg.ok 8 rfl rfl ?_; refine R_own 5 5 rfl rfl ?_)
  | (refine R_run hg.ok 9 rfl rfl ?_; refine R_own 5 5 rfl rfl ?_)
  refine R_run hg.ok 1000 rfl rfl ?_
  have h0 : toks (L.length + 1) L 0 = preE [] (toksP L.length L (0 + skipL false (L.drop 0))) := by
    rw [toks_P]
    show toksP L.length L (passN L 0) = preE [] (toksP L.length L (passN L 0))
    cases toksP L.length L (passN L 0) <;> rfl
  refine R_loop (fun x : Nat × Nat × Bool × List Tk => ([(0, txA L), (5, .ow 0 x.2.2.2.length), (6, iV x.2.1), (7, bV x.2.2.1)], [.arr 5 x.2.2.2.length (tkRows x.2.2.2)])) (fun x => x.2.1 ≤ L.length ∧ L.length - x.2.1 ≤ x.1 ∧ x.2.2.2.length ≤ x.2.1 ∧ toks (L.length + 1) L 0 = preE x.2.2.2 (toksP x.1 L (x.2.1 + skipL x.2.2.1 (L.drop x.2.1)))) (fun x => L.length - x.2.1) (L.length, 0, false, []) ⟨Nat.zero_le _, by simp only; omega, Nat.zero_le _, h0⟩ ⟨.refl _, .refl _, .refl _, .ff, trivial⟩ rfl ?_
  rintro ⟨f, i, b, out⟩ ⟨hi, hf, ho, hm⟩
  simp only at hi hf ho hm
  refine R_run hg.ok 1000 rfl rfl ?_
  refine R_if rfl rfl (fun h1 => ?_) (fun h1 => ?_) <;> refine R_run hg.ok 1000 rfl rfl ?_
  · have h1 : i < L.length := lt_dec h1 (by rw [Tx_size])
    have hc : L[i]? = some L[i] := List.getElem?_eq_getElem h1
    generalize L[i] = c at hc
    rw [skip_cons hc] at hm
    have nxt : ∀ b', toks (L.length + 1) L 0 = preE out (toksP f L (i + 1 + skipL b' (L.drop (i + 1)))) → i + 1 ≤ L.length ∧ L.length - (i + 1) ≤ f ∧ out.length ≤ i + 1 ∧ toks (L.length + 1) L 0 = preE out (toksP f L (i + 1 + skipL b' (L.drop (i + 1)))) := fun b' h => ⟨h1, by omega, by omega, h⟩
    refine R_if rfl rfl (fun h2 => ?_) (fun h2 => ?_) <;> refine R_run hg.ok 1000 rfl rfl ?_
    · have h2 : b = true := h2
      rw [if_pos h2] at hm
      refine R_indexS hg.ok rfl rfl rfl rfl rfl (Int.natCast_nonneg i) (b := c) (by rw [Tx_get]; exact hc) ?_
      refine R_run hg.ok 1000 rfl rfl ?_
      exact R_next (f, i + 1, !decide (c.toNat = 10), out) (nxt _ hm) (by simp only; omega) ⟨.refl _, .refl _, Ent.wrap (by simp only; omega) (by simp only; omega) (by simp only; omega), Ent.bool (by rw [Bool.eq_iff_iff]; simp; omega), trivial⟩ rfl
    have h2' : b = false := h2
    have h2 : ¬ b = true := by rw [h2']; simp
    rw [if_neg h2] at hm
    refine R_indexS hg.ok rfl rfl rfl rfl rfl (Int.natCast_nonneg i) (b := c) (by rw [Tx_get]; exact hc) ?_
    refine R_run hg.ok 1000 rfl rfl ?_
    refine R_if rfl rfl (fun h3 => ?_) (fun h3 => ?_) <;> refine R_run hg.ok 1000 rfl rfl ?_
    · have h3 : c.toNat = 37 := by simp at h3; omega
      rw [if_pos h3] at hm
      refine R_indexS hg.ok rfl rfl rfl rfl rfl (Int.natCast_nonneg i) (b := c) (by rw [Tx_get]; exact hc) ?_
      refine R_run hg.ok 1000 rfl rfl ?_
      exact R_next (f, i + 1, true, out) (nxt _ hm) (by simp only; omega) ⟨.refl _, .refl _, Ent.wrap (by simp only; omega) (by simp only; omega) (by simp only; omega), Ent.bool (by simp; omega), trivial⟩ rfl
    have h3 : ¬ c.toNat = 37 := by simp at h3; omega
    rw [if_neg h3] at hm
    have s5 := sort_blk c
    refine R_indexS hg.ok rfl rfl rfl rfl rfl (Int.natCast_nonneg i) (b := c) (by rw [Tx_get]; exact hc) ?_
    refine R_run hg.ok 1000 rfl rfl ?_
    refine R_call hg.ok (sort8_ok c) rfl rfl rfl rfl rfl rfl ?_
    refine R_run hg.ok 1000 rfl rfl ?_
    refine R_if rfl rfl (fun h4 => ?_) (fun h4 => ?_) <;> refine R_run hg.ok 1000 rfl rfl ?_
    · have h4 : blkC c = true := by rw [← s5]; simpa using h4
      rw [if_pos h4] at hm
      exact R_next (f, i + 1, false, out) (nxt _ hm) (by simp only; omega) ⟨.refl _, .refl _, Ent.wrap (by simp only; omega) (by simp only; omega) (by simp only; omega), Ent.bool h2', trivial⟩ rfl
    have h4 : ¬ blkC c = true := by rw [← s5]; simpa using h4
    rw [if_neg h4] at hm
    refine R_call hg.ok (one8_ok L i c hc hL) rfl rfl rfl rfl rfl rfl ?_
    refine R_run hg.ok 1000 rfl rfl ?_
    have hP : toksP f L i = match oneT L i with
      | none => .error i
      | some (t, to) => match toks f L to with
        | .ok l => .ok (t :: l)
        | .error j => .error j := by unfold toksP; rw [if_pos h1]; rfl
    cases hone : oneT L i with
    | none =>
      rw [hone] at hP
      refine R_if rfl rfl (fun _ => ?_) (fun h => absurd h (by simp [oneI])) <;> refine R_run hg.ok 1000 rfl rfl ?_
      refine R_ret hg 5 rfl rfl ?_
      rw [tokR_bad hbig (j := i) (by rw [hm, hP]; rfl)]
      rfl
    | some x =>
      obtain ⟨t, to⟩ := x
      rw [hone] at hP
      have hto := oneT_to hone
      simp only at hP
      refine R_if rfl rfl (fun h => absurd h (by simp [oneI]; exact decide_eq_false (by omega))) (fun _ => ?_) <;> refine R_run hg.ok 1000 rfl rfl ?_
      have hf1 : f = (f - 1) + 1 := by omega
      rw [hf1, toks_P] at hP
      refine R_appendO hg.ok (tkRows (out ++ [t])) rfl rfl rfl rfl rfl rfl rfl rfl rfl (by simp) (by simp [one1]) (by simp [tkRows, tkD, oneK]) (by rw [tkRows_len]; simp; omega) (by rw [tkRows_len]; simp; omega) ?_
      refine R_run hg.ok 1000 rfl rfl ?_
      refine R_dropO 1 [.arr 5 (out.length + 1) (tkRows (out ++ [t]))] (Nat.zero_le _) rfl rfl ?_
      refine R_next (f - 1, to, false, out ++ [t]) ⟨hto.2, by simp only; omega, by simp; omega, ?_⟩ (by simp only; omega) ⟨.refl _, by simp only [List.length_append, List.length_singleton]; exact .refl _, .refl _, Ent.bool h2', trivial⟩ (by simp only [List.length_append, List.length_singleton])
      simp only
      rw [hm, preE_snoc]
      show preE out (toksP f L i) = preE out (match toksP (f - 1) L (passN L to) with
        | .ok l => .ok (t :: l)
        | .error j => .error j)
      rw [← hP, ← hf1]
  · have h1 : L.length ≤ i := ge_dec h1 (by rw [Tx_size])
    rw [List.drop_eq_nil_of_le h1] at hm
    refine R_ret hg 5 rfl (sealA_tup (mapO_cons (sealA_ow rfl) rfl)) ?_
    rw [tokR_ok hbig (l := out) (by rw [hm]; unfold toksP; rw [if_neg (by omega)]; simp [preE])]
    rfl
end Go.Proofs.Ythdpfglpdgmphaa

namespace Go.Proofs.Ythdpfglpdgmphaa
open Go PSL Go.Proofs
end Go.Proofs.Ythdpfglpdgmphaa

namespace Go.Proofs.Ythdpfglpdgmphaa
open Go PSL Go.Proofs
def boxR (t : Tm) : Ob := .box [.d (.v (.int .i64 t.k)), .d (.v (.string t.s)), .d (.v (.int .i64 t.n)), .d (.sl (Tm.rows t.l))]
end Go.Proofs.Ythdpfglpdgmphaa

namespace Go.Proofs.Ythdpfglpdgmphaa
open Go PSL Go.Proofs

set_option maxRecDepth 100000 in
theorem refSize_ok (t : Tm) : t.size < 1000000000 → PCtr Try.prog 32 [t.av] (iV t.size) := by
  induction t using Tm.ind with
  | _ t ih =>
  intro hsz
  refine PCtr.of_R (pf := fun _ => .still) tyOk mixed Try.func32 rfl (by kernel_rfl) (by kernel_rfl) (by simp [Try.ntmps32]) fun w S hg => ?_
  refine R_run hg.ok 1000 rfl rfl ?_
  refine R_loop (fun x : Nat × Nat => ([(1, .lo 0 0), (3, iV x.2), (4, iV x.1)], [boxR t])) (fun x => x.1 ≤ t.l.length ∧ t.size = x.2 + Tm.sizeL (t.l.drop x.1)) (fun x => t.l.length - x.1) (0, 1) ⟨Nat.zero_le _, Tm.size_eq t⟩ ⟨.refl _, .refl _, .refl _, trivial⟩ rfl ?_
  rintro ⟨k, m⟩ ⟨hk, hm⟩
  simp only at hk hm
  have hl := Tm.len_le_sizeL t.l
  have hs := Tm.size_eq t
  refine R_run hg.ok 1000 rfl rfl ?_
  refine R_if rfl rfl (fun h => ?_) (fun h => ?_) <;> refine R_run hg.ok 1000 rfl rfl ?_
  · have hk1 : k < t.l.length := lt_dec h (by rw [Tm.rows_length])
    have e1 : t.l[k]? = some t.l[k] := List.getElem?_eq_getElem hk1
    rw [List.drop_eq_getElem_cons hk1, Tm.sizeL] at hm
    refine R_index hg.ok rfl rfl rfl rfl rfl rfl (Int.natCast_nonneg k) (Tm.rows_get e1) rfl ?_
    refine R_run hg.ok 1000 rfl rfl ?_
    refine R_call hg.ok (ih _ (List.getElem_mem hk1) (by omega)) rfl rfl rfl rfl rfl rfl ?_
    refine R_run hg.ok 1000 rfl rfl ?_
    exact R_next (k + 1, m + t.l[k].size) ⟨hk1, by simp only; omega⟩ (by simp only; omega) ⟨.refl _, Ent.wrap (by omega) (by omega) (by omega), Ent.wrap (by omega) (by omega) (by omega), trivial⟩ rfl
  · have hk1 : t.l.length ≤ k := ge_dec h (by rw [Tm.rows_length])
    refine R_ret hg 5 rfl rfl ?_
    rw [List.drop_eq_nil_of_le hk1, Tm.sizeL] at hm
    simp only [hm, Nat.add_zero]; rfl

set_option maxRecDepth 100000 in
theorem refDeep_ok (t : Tm) : t.size < 1000000000 → PCtr Try.prog 33 [t.av] (iV t.depth) := by
  induction t using Tm.ind with
  | _ t ih =>
  intro hsz
  refine PCtr.of_R (pf := fun _ => .still) tyOk mixed Try.func33 rfl (by kernel_rfl) (by kernel_rfl) (by simp [Try.ntmps33]) fun w S hg => ?_
  refine R_run hg.ok 1000 rfl rfl ?_
  refine R_loop (fun x : Nat × Nat => ([(1, .lo 0 0), (3, iV x.2), (4, iV x.1)], [boxR t])) (fun x => x.1 ≤ t.l.length ∧ Tm.depthL t.l = max x.2 (Tm.depthL (t.l.drop x.1))) (fun x => t.l.length - x.1) (0, 0) ⟨Nat.zero_le _, by simp⟩ ⟨.refl _, .refl _, .refl _, trivial⟩ rfl ?_
  rintro ⟨k, m⟩ ⟨hk, hm⟩
  simp only at hk hm
  have hl := Tm.len_le_sizeL t.l
  have hs := Tm.size_eq t
  have hd := Tm.depth_eq t
  have hds := Tm.depth_le_size t
  refine R_run hg.ok 1000 rfl rfl ?_
  refine R_if rfl rfl (fun h => ?_) (fun h => ?_) <;> refine R_run hg.ok 1000 rfl rfl ?_
  · have hk1 : k < t.l.length := lt_dec h (by rw [Tm.rows_length])
    have e1 : t.l[k]? = some t.l[k] := List.getElem?_eq_getElem hk1
    have hsm := Tm.size_mem (List.getElem_mem hk1)
    rw [List.drop_eq_getElem_cons hk1, Tm.depthL] at hm
    refine R_index hg.ok rfl rfl rfl rfl rfl rfl (Int.natCast_nonneg k) (Tm.rows_get e1) rfl ?_
    refine R_run hg.ok 1000 rfl rfl ?_
    refine R_call hg.ok (ih _ (List.getElem_mem hk1) (by omega)) rfl rfl rfl rfl rfl rfl ?_
    refine R_run hg.ok 1000 rfl rfl ?_
    refine R_if rfl rfl (fun h => ?_) (fun h => ?_) <;> refine R_run hg.ok 1000 rfl rfl ?_
    · have h := of_decide_eq_true h
      exact R_next (k + 1, t.l[k].depth) ⟨hk1, by simp only; omega⟩ (by simp only; omega) ⟨.refl _, .refl _, Ent.wrap (by omega) (by omega) (by omega), trivial⟩ rfl
    · have h := of_decide_eq_false h
      exact R_next (k + 1, m) ⟨hk1, by simp only; omega⟩ (by simp only; omega) ⟨.refl _, .refl _, Ent.wrap (by omega) (by omega) (by omega), trivial⟩ rfl
  · have hk1 : t.l.length ≤ k := ge_dec h (by rw [Tm.rows_length])
    refine R_ret hg 5 rfl rfl ?_
    rw [List.drop_eq_nil_of_le hk1, Tm.depthL] at hm
    rw [w64 (by omega) (by omega), hd, hm]; simp [iV]

set_option maxRecDepth 100000 in
theorem refSame_ok (a : Tm) : ∀ b, a.size < 1000000000 → PCtr Try.prog 11 [a.av, b.av] (bV (a.same b)) := by
  induction a using Tm.ind with
  | _ a ih =>
  intro b hsz
  refine PCtr.of_R (pf := fun _ => .still) tyOk mixed Try.func11 rfl (by kernel_rfl) (by kernel_rfl) (by simp [Try.ntmps11]) fun w S hg => ?_
  refine R_run hg.ok 1000 rfl rfl ?_
  iterate 4
    refine R_if rfl rfl (fun _ => ?_) (fun _ => ?_) <;> refine R_run hg.ok 1000 rfl rfl ?_
    · refine R_ret hg 5 rfl rfl ?_
      simp_all [Tm.same_eq, bV, Tm.rows_length]
      try exact Tm.sameL_len (by omega)
  refine R_loop (fun k : Nat => ([(2, .lo 0 0), (3, .lo 1 0), (5, iV k)], [boxR a, boxR b])) (fun k => k ≤ a.l.length ∧ a.l.length = b.l.length ∧ a.same b = Tm.sameL (a.l.drop k) (b.l.drop k)) (fun k => a.l.length - k) 0 ?_ ⟨.refl _, .refl _, .refl _, trivial⟩ rfl ?_
  · simp_all [Tm.same_eq, Tm.rows_length]
    omega
  rintro k ⟨hk0, hl, hk⟩
  have hszl := Tm.len_le_sizeL a.l
  have hsz2 := Tm.size_eq a
  refine R_run hg.ok 1000 rfl rfl ?_
  refine R_if rfl rfl (fun h => ?_) (fun h => ?_) <;> refine R_run hg.ok 1000 rfl rfl ?_
  · have hk1 := lt_dec (n := a.l.length) h (by rw [Tm.rows_length])
    have hk2 : k < b.l.length := by omega
    have e1 : a.l[k]? = some a.l[k] := List.getElem?_eq_getElem hk1
    have e2 : b.l[k]? = some b.l[k] := List.getElem?_eq_getElem hk2
    rw [List.drop_eq_getElem_cons hk1, List.drop_eq_getElem_cons hk2, Tm.sameL] at hk
    have hm := Tm.size_mem (List.getElem_mem hk1)
    refine R_index hg.ok rfl rfl rfl rfl rfl rfl (Int.natCast_nonneg k) (Tm.rows_get e1) rfl ?_
    refine R_run hg.ok 1000 rfl rfl ?_
    refine R_index hg.ok rfl rfl rfl rfl rfl rfl (Int.natCast_nonneg k) (Tm.rows_get e2) rfl ?_
    refine R_run hg.ok 1000 rfl rfl ?_
    refine R_call hg.ok (ih _ (List.getElem_mem hk1) b.l[k] (by omega)) rfl rfl rfl rfl rfl rfl ?_
    refine R_run hg.ok 1000 rfl rfl ?_
    refine R_if rfl rfl (fun h => ?_) (fun h => ?_) <;> refine R_run hg.ok 1000 rfl rfl ?_
    · refine R_ret hg 5 rfl rfl ?_
      rw [hk]; simp_all [bV]
    · refine R_next (k + 1) ⟨hk1, hl, ?_⟩ (by omega) ⟨.refl _, .refl _, Ent.wrap (by omega) (by omega) (by omega), trivial⟩ rfl
      rw [hk]; simp_all
  · refine R_ret hg 5 rfl rfl ?_
    have hk1 := ge_dec (n := a.l.length) h (by rw [Tm.rows_length])
    rw [hk, List.drop_eq_nil_of_le (by omega), List.drop_eq_nil_of_le (by omega)]; rfl

set_option maxRecDepth 100000 in
theorem fair_ok (t : Tm) : t.size < 1000000000 → (∀ x e, e ∈ t.els x → e.2.s.size < 1000000000) → PCtr Try.prog 31 [t.av] (bV t.fairR) := by
  induction t using Tm.ind with
  | _ t ih =>
  intro hsz hns
  have hn0 : t.s.size < 1000000000 := hns 0 (0, t) (by rw [Tm.els_eq]; simp)
  have hl := Tm.len_le_sizeL t.l
  have hs := Tm.size_eq t
  refine PCtr.of_R (pf := fun _ => .still) tyOk mixed Try.func31 rfl (by kernel_rfl) (by kernel_rfl) (by simp [Try.ntmps31]) fun w S hg => ?_
  refine R_run hg.ok 1000 rfl rfl ?_
  refine R_loop (fun k : Nat => ([(1, .lo 0 0), (3, iV k)], [boxR t])) (fun k => k ≤ t.s.size ∧ ∀ i (hi : i < t.s.size), i < k → byteOk t.s[i] = true) (fun k => t.s.size - k) 0 ⟨Nat.zero_le _, fun i _ h => absurd h (Nat.not_lt_zero _)⟩ ⟨.refl _, .refl _, trivial⟩ rfl ?_
  intro k hk
  refine R_run hg.ok 1000 rfl rfl ?_
  refine R_if rfl rfl (fun h => ?_) (fun h => ?_) <;> refine R_run hg.ok 1000 rfl rfl ?_
  · have hk1 := lt_dec (n := t.s.size) h rfl
    refine R_indexS hg.ok rfl rfl rfl rfl rfl (Int.natCast_nonneg k) (byte_at hk1) ?_
    refine R_run hg.ok 1000 rfl rfl ?_
    have bad : byteOk t.s[k] = false → t.fairR = false := fun h => by rw [Tm.fairR_eq, not_all_bytes hk1 h]; rfl
    refine R_if rfl rfl (fun h2 => ?_) (fun h2 => ?_) <;> refine R_run hg.ok 1000 rfl rfl ?_
    · refine R_ret hg 5 rfl rfl ?_
      rw [bad (by unfold byteOk; rw [h2]; rfl)]; rfl
    refine R_indexS hg.ok rfl rfl rfl rfl rfl (Int.natCast_nonneg k) (byte_at hk1) ?_
    refine R_run hg.ok 1000 rfl rfl ?_
    refine R_if rfl rfl (fun h3 => ?_) (fun h3 => ?_) <;> refine R_run hg.ok 1000 rfl rfl ?_
    · refine R_ret hg 5 rfl rfl ?_
      rw [bad (by unfold byteOk; rw [h3]; simp)]; rfl
    refine R_next (k + 1) ⟨hk1, fun i hi hik => ?_⟩ (by omega) ⟨.refl _, Ent.wrap (by omega) (by omega) (by omega), trivial⟩ rfl
    rcases Nat.lt_or_ge i k with h | h
    · exact hk.2 i hi h
    · have : i = k := by omega
      subst this
      unfold byteOk; rw [h2, h3]; rfl
  have hk1 := ge_dec (n := t.s.size) h rfl
  have hall : t.s.data.toList.all byteOk = true := all_bytes fun i hi => hk.2 i hi (by omega)
  refine R_loop (fun k : Nat => ([(1, .lo 0 0), (4, iV k)], [boxR t])) (fun k => k ≤ t.l.length ∧ Tm.fairRL t.l = Tm.fairRL (t.l.drop k)) (fun k => t.l.length - k) 0 ⟨Nat.zero_le _, rfl⟩ ⟨.refl _, .refl _, trivial⟩ rfl ?_
  rintro k ⟨hk, hm⟩
  refine R_run hg.ok 1000 rfl rfl ?_
  refine R_if rfl rfl (fun h => ?_) (fun h => ?_) <;> refine R_run hg.ok 1000 rfl rfl ?_
  · have hk1 : k < t.l.length := lt_dec h (by rw [Tm.rows_length])
    have e1 : t.l[k]? = some t.l[k] := List.getElem?_eq_getElem hk1
    have hsm := Tm.size_mem (List.getElem_mem hk1)
    rw [List.drop_eq_getElem_cons hk1, Tm.fairRL] at hm
    refine R_index hg.ok rfl rfl rfl rfl rfl rfl (Int.natCast_nonneg k) (Tm.rows_get e1) rfl ?_
    refine R_run hg.ok 1000 rfl rfl ?_
    refine R_call hg.ok (ih _ (List.getElem_mem hk1) (by omega) (fun x e he => hns (x - 1) e (by rw [Tm.els_eq]; exact List.mem_cons_of_mem _ (Tm.els_memL (List.getElem_mem hk1) (by rw [Int.sub_add_cancel]; exact he))))) rfl rfl rfl rfl rfl rfl ?_
    refine R_run hg.ok 1000 rfl rfl ?_
    refine R_if rfl rfl (fun h => ?_) (fun h => ?_) <;> refine R_run hg.ok 1000 rfl rfl ?_
    · refine R_ret hg 5 rfl rfl ?_
      rw [Tm.fairR_eq, hm]; simp_all [bV]
    · refine R_next (k + 1) ⟨hk1, ?_⟩ (by omega) ⟨.refl _, Ent.wrap (by omega) (by omega) (by omega), trivial⟩ rfl
      rw [hm]; simp_all
  have hk1 : t.l.length ≤ k := ge_dec h (by rw [Tm.rows_length])
  rw [List.drop_eq_nil_of_le hk1, Tm.fairRL] at hm
  iterate 12
    all_goals try (refine R_if rfl rfl (fun _ => ?_) (fun _ => ?_) <;> refine R_run hg.ok 1000 rfl rfl ?_)
  all_goals refine R_ret hg 5 rfl rfl ?_
  all_goals (rw [Tm.fairR_eq, hall, hm]; unfold Tm.kindR)
  all_goals (simp only [Tm.rows_length, beq_iff_eq, beq_eq_false_iff_ne, ne_eq, decide_eq_true_eq, decide_eq_false_iff_not] at *)
  all_goals (simp_all [bV])
  all_goals (intros; omega)

set_option maxRecDepth 100000 in
theorem refRight_ok (t : Tm) (hsz : t.size < 1000000000) (hns : ∀ x e, e ∈ t.els x → e.2.s.size < 1000000000) : PCtr Try.prog 15 [t.av] (bV t.rightB) := by
  refine PCtr.of_R (pf := fun _ => .still) tyOk mixed Try.func15 rfl (by kernel_rfl) (by kernel_rfl) (by simp [Try.ntmps15]) fun w S hg => ?_
  refine R_run hg.ok 1000 rfl rfl ?_
  refine R_call hg.ok (fair_ok t hsz hns) rfl rfl rfl rfl rfl rfl ?_
  refine R_run hg.ok 1000 rfl rfl ?_
  refine R_if rfl rfl (fun _ => ?_) (fun _ => ?_) <;> refine R_run hg.ok 1000 rfl rfl ?_
  · refine R_call hg.ok (refSize_ok t hsz) rfl rfl rfl rfl rfl rfl ?_
    refine R_run hg.ok 1000 rfl rfl ?_
    refine R_if rfl rfl (fun _ => ?_) (fun _ => ?_) <;> refine R_run hg.ok 1000 rfl rfl ?_
    · refine R_call hg.ok (refDeep_ok t hsz) rfl rfl rfl rfl rfl rfl ?_
      refine R_run hg.ok 1000 rfl rfl ?_
      refine R_ret hg 5 rfl rfl ?_
      simp only [decide_eq_true_eq] at *
      unfold Tm.rightB
      show bV _ = bV _
      congr 1
      rw [Bool.eq_iff_iff]
      simp_all
      omega
    · refine R_ret hg 5 rfl rfl ?_
      simp only [decide_eq_false_iff_not] at *
      unfold Tm.rightB
      simp_all [bV]
      intros; omega
  · refine R_ret hg 5 rfl rfl ?_
    unfold Tm.rightB
    simp_all [bV]
end Go.Proofs.Ythdpfglpdgmphaa

namespace Go.Proofs.Ythdpfglpdgmphaa
open Go PSL Go.Proofs
theorem rightT_fun : rightT = Tm.rightB := funext rightT_eq

set_option maxRecDepth 100000 in
theorem clausesBad_ok (S0 : Bs) (a e : Int) (he : e ≠ 0) (h : PCtr Try.prog 19 [txA S0] (.tup [.d (.sl (tkRows [])), iV a, iV e])) : PCtr Try.prog 9 [txA S0] (.tup [.d (.sl (clRows [])), iV a, iV e]) := by
  refine PCtr.of_R (pf := fun _ => .eff) tyOk mixed Try.func9 rfl (by kernel_rfl) (by kernel_rfl) (by simp [Try.ntmps9]) fun w S hg => ?_
  refine R_run hg.ok 1000 rfl rfl ?_
  refine R_call hg.ok (h) rfl rfl rfl rfl rfl rfl ?_
  refine R_run hg.ok 1000 rfl rfl ?_
  refine R_if rfl rfl (fun _ => ?_) (fun h => absurd h (by simp [he])) <;> refine R_run hg.ok 1000 rfl rfl ?_
  refine R_ret hg 5 rfl rfl ?_
  rfl

set_option maxRecDepth 100000 in
theorem eClausesBad_ok (S0 : Bs) (a e : Int) (he : e ≠ 0) (h : PCtr Try.prog 25 [txA S0] (.tup [.d (.sl (tkRows [])), iV a, iV e])) : PCtr Try.prog 10 [txA S0] (.tup [.d (.sl (clRows [])), iV a, iV e]) := by
  refine PCtr.of_R (pf := fun _ => .eff) tyOk mixed Try.func10 rfl (by kernel_rfl) (by kernel_rfl) (by simp [Try.ntmps10]) fun w S hg => ?_
  refine R_run hg.ok 1000 rfl rfl ?_
  refine R_call hg.ok (h) rfl rfl rfl rfl rfl rfl ?_
  refine R_run hg.ok 1000 rfl rfl ?_
  refine R_if rfl rfl (fun _ => ?_) (fun h => absurd h (by simp [he])) <;> refine R_run hg.ok 1000 rfl rfl ?_
  refine R_ret hg 5 rfl rfl ?_
  rfl

/-- The clauses of a text. -/
theorem clausesT_ok (S0 : Bs) (hS : S0.length ≤ 9000) {c : List Clau} {a e : Int} (h : clauR rightT false S0 = some (c, a, e)) : PCtr Try.prog 9 [txA S0] (.tup [.d (.sl (clRows c)), iV a, iV e]) := by
  unfold clauR at h
  by_cases he : (tokT S0).2.2 ≠ 0
  · rw [if_pos he] at h
    have ht := tokens_ok S0 hS
    unfold tokR at ht
    rw [(tok_bad he).1] at ht
    cases h
    exact clausesBad_ok S0 _ _ he ht
  · rw [if_neg he] at h
    obtain ⟨h8, ht, _⟩ := tok_ok (Decidable.not_not.1 he)
    have hpl := toks_plc ht
    have hgd := toks_good _ _ _ _ ht
    have hlen := toks_len _ S0 0 _ ht
    refine clauses_ok S0 hS _ (by omega) (fun t ht => ⟨(hpl t ht).1, (hpl t ht).2, (hgd t ht).lo, (hgd t ht).hi⟩) (tokR_ok (by omega) ht) _ (fun st t st' hi hx he => ?_) c a e h
    have := read_small (by omega) hS hgd hi hx he
    exact ⟨by have := this.1; omega, fun e he => by have := this.2 1 e he; omega⟩

/-- The clauses of a text, as the document has it. -/
theorem eClausesT_ok (S0 : Bs) (hS : S0.length ≤ 9000) {c : List Clau} {a e : Int} (h : clauR rightT false S0 = some (c, a, e)) : PCtr Try.prog 10 [txA S0] (.tup [.d (.sl (clRows c)), iV a, iV e]) := by
  rw [clau_agr rightT false true] at h
  unfold clauR at h
  by_cases he : (tokT S0).2.2 ≠ 0
  · rw [if_pos he] at h
    have ht := tokens8_ok S0 hS
    unfold tokR at ht
    rw [(tok_bad he).1] at ht
    cases h
    exact eClausesBad_ok S0 _ _ he ht
  · rw [if_neg he] at h
    obtain ⟨h8, ht, _⟩ := tok_ok (Decidable.not_not.1 he)
    have hpl := toks_plc ht
    have hgd := toks_good _ _ _ _ ht
    have hlen := toks_len _ S0 0 _ ht
    have htk := tokens8_ok S0 hS
    rw [tokR_ok (by omega) ht] at htk
    refine eClauses S0 hS _ (by omega) (fun t ht => ⟨(hpl t ht).1, (hpl t ht).2, (hgd t ht).lo, (hgd t ht).hi⟩) (fun t ht => (hgd t ht).var) htk _ rightT (fun st t st' hi hx he => ?_) c a e h
    have := read_small (by omega) hS hgd hi hx he
    rw [rightT_fun]
    exact refRight_ok t (by have := this.1; omega) (fun x e he => by have := this.2 x e he; omega)
theorem oneT_ok9 (S0 : Bs) (hS : S0.length ≤ 9000) {c : List Clau} {a e : Int} (h : clauR rightT false S0 = some (c, a, e)) : PCtr Try.prog 13 [txA S0] (.tup [clA (oneR S0.length (c, a, e)).1, iV (oneR S0.length (c, a, e)).2.1, iV (oneR S0.length (c, a, e)).2.2]) := one_ok S0 c a e (clausesT_ok S0 hS h)
end Go.Proofs.Ythdpfglpdgmphaa

namespace Go.Proofs.Ythdpfglpdgmphaa
open Go PSL Go.Proofs
def know9a : Bs := [97, 32, 58, 45, 32, 98, 44, 32, 92, 43, 32, 88, 32, 61, 32, 45, 49, 46]
def know9b : Bs := [97, 32, 98, 46]
def kn9c : Clau := (fnT [58, 45] [fnT [97] [], fnT [44] [fnT [98] [], fnT [92, 43] [fnT [61] [Tm.vT 0, nmT (-1)]]]], [[88]])
theorem know9a_read : clauR rightT false know9a = some ([kn9c], 0, 0) := by rw [rightT_fun]; kernel_rfl
theorem know9b_read : clauR rightT false know9b = some ([], 2, 2) := by rw [rightT_fun]; kernel_rfl

set_option maxRecDepth 100000 in
theorem knows9_ok : PCtr Try.prog 8 [] (bV true) := by
  have h1 : PCtr Try.prog 13 [txA know9a] (.tup [clA kn9c, iV 0, iV 0]) := oneT_ok9 know9a (by decide) know9a_read
  have h2 : PCtr Try.prog 13 [txA know9b] (.tup [clA (zeroT, []), iV 2, iV 2]) := oneT_ok9 know9b (by decide) know9b_read
  refine PCtr.of_R (pf := fun _ => .eff) tyOk mixed Try.func8 rfl (by kernel_rfl) (by kernel_rfl) (by simp [Try.ntmps8]) fun w S hg => ?_
  refine R_run hg.ok 1000 rfl rfl ?_
  refine R_call hg.ok (h1) rfl rfl rfl rfl rfl rfl ?_
  refine R_run hg.ok 1000 rfl rfl ?_
  refine R_call hg.ok (h2) rfl rfl rfl rfl rfl rfl ?_
  refine R_run hg.ok 1000 rfl rfl ?_
  repeat
    first
    | (refine R_if rfl rfl (fun _ => ?_) (fun h => absurd h (by decide +kernel)); refine R_run hg.ok 1000 rfl rfl ?_)
    | (refine R_index hg.ok rfl rfl rfl rfl rfl rfl (by decide) rfl rfl ?_; refine R_run hg.ok 1000 rfl rfl ?_)
  refine R_ret hg 5 rfl rfl ?_
  rfl
end Go.Proofs.Ythdpfglpdgmphaa

namespace Go.Proofs.Ythdpfglpdgmphaa
open Go PSL Go.Proofs
theorem clRows_get {c : List Clau} {i : Nat} {x : Clau} (h : c[i]? = some x) : (clRows c)[i]? = some (clRow x) := by simp [clRows, h]

theorem same_clau {c : List Clau} (hc : ∀ x ∈ c, ClG x) {x : Clau} (h : x ∈ c) : PCtr Try.prog 11 [x.1.av, x.1.av] (bV true) := by
  have := refSame_ok x.1 x.1 (right_small (hc x h).right)
  rw [(Tm.same_iff x.1 x.1).2 rfl] at this
  exact this

theorem words_clau {c : List Clau} (hc : ∀ x ∈ c, ClG x) {x : Clau} (h : x ∈ c) : PCtr Try.prog 12 [.d (.sl (strRows x.2)), .d (.sl (strRows x.2))] (bV true) := by
  have := words_ok x.2 x.2 (by have := (hc x h).few; omega)
  rw [show (x.2 == x.2) = true by simp] at this
  exact this

theorem same_zero : PCtr Try.prog 11 [zeroT.av, zeroT.av] (bV true) := by
  have := refSame_ok zeroT zeroT (by simp [zeroT, Tm.size, Tm.sizeL])
  rw [(Tm.same_iff zeroT zeroT).2 rfl] at this
  exact this

set_option maxHeartbeats 1600000 in
set_option maxRecDepth 100000 in
theorem readClauses_ok (s : ByteArray) : PCtr Try.prog 3 [.d (.v (.string s))] (bV true) := by
  rw [← Tx_data s]
  generalize s.data.toList = L
  refine PCtr.of_R (pf := fun _ => .eff) tyOk mixed Try.func3 rfl (by kernel_rfl) (by kernel_rfl) (by simp [Try.ntmps3]) fun w S hg => ?_
  refine R_run hg.ok 1000 rfl rfl ?_
  refine R_if rfl rfl (fun h => ?_) (fun h => ?_) <;> refine R_run hg.ok 1000 rfl rfl ?_
  · refine R_call hg.ok (knows9_ok) rfl rfl rfl rfl rfl rfl ?_
    refine R_run hg.ok 1000 rfl rfl ?_
    refine R_ret hg 5 rfl rfl ?_
    rfl
  have hL : L.length ≤ 9000 := by have := of_decide_eq_false h; rw [Tx_size] at this; omega
  obtain ⟨⟨c, a, e⟩, hr⟩ := clau_ok rightT false L
  obtain ⟨f1, f2, f3, f4⟩ := clau_facts hL hr
  have hct := clau_count hr
  have hcn : ∀ x ∈ c, ClG x := fun x hx => by
    by_cases he : e = 0
    · exact (f2 he).2 x hx
    · rw [f1 he] at hx; cases hx
  refine R_call hg.ok (clausesT_ok L hL hr) rfl rfl rfl rfl rfl rfl ?_
  refine R_run hg.ok 1000 rfl rfl ?_
  refine R_call hg.ok (eClausesT_ok L hL hr) rfl rfl rfl rfl rfl rfl ?_
  refine R_run hg.ok 1000 rfl rfl ?_
  refine R_if rfl rfl (fun h => absurd h (by simp)) (fun _ => ?_) <;> refine R_run hg.ok 1000 rfl rfl ?_
  refine R_if rfl rfl (fun h => absurd h (by simp)) (fun _ => ?_) <;> refine R_run hg.ok 1000 rfl rfl ?_
  refine R_if rfl rfl (fun h => absurd h (by simp)) (fun _ => ?_) <;> refine R_run hg.ok 1000 rfl rfl ?_
  refine R_loop (fun k : Nat => ([(0, txA L), (3, .d (.sl (clRows c))), (5, iV e), (6, .d (.sl (clRows c))), (7, iV a), (8, iV e), (9, iV k)], [])) (fun k => k ≤ c.length) (fun k => c.length - k) 0 (Nat.zero_le _) ⟨.refl _, .refl _, .refl _, .refl _, .refl _, .refl _, .refl _, trivial⟩ rfl ?_
  rintro k hk
  refine R_run hg.ok 1000 rfl rfl ?_
  refine R_if rfl rfl (fun h => ?_) (fun h => ?_) <;> refine R_run hg.ok 1000 rfl rfl ?_
  · have hk1 : k < c.length := lt_dec h (by rw [clRows_len])
    have e1 : c[k]? = some c[k] := List.getElem?_eq_getElem hk1
    have hm : c[k] ∈ c := List.getElem_mem hk1
    generalize c[k] = x at e1 hm
    refine R_index hg.ok rfl rfl rfl rfl rfl rfl (Int.natCast_nonneg _) (clRows_get e1) rfl ?_
    refine R_run hg.ok 1000 rfl rfl ?_
    refine R_index hg.ok rfl rfl rfl rfl rfl rfl (Int.natCast_nonneg _) (clRows_get e1) rfl ?_
    refine R_run hg.ok 1000 rfl rfl ?_
    refine R_call hg.ok (same_clau hcn hm) rfl rfl rfl rfl rfl rfl ?_
    refine R_run hg.ok 1000 rfl rfl ?_
    refine R_if rfl rfl (fun h => absurd h (by simp)) (fun _ => ?_) <;> refine R_run hg.ok 1000 rfl rfl ?_
    refine R_index hg.ok rfl rfl rfl rfl rfl rfl (Int.natCast_nonneg _) (clRows_get e1) rfl ?_
    refine R_run hg.ok 1000 rfl rfl ?_
    refine R_index hg.ok rfl rfl rfl rfl rfl rfl (Int.natCast_nonneg _) (clRows_get e1) rfl ?_
    refine R_run hg.ok 1000 rfl rfl ?_
    refine R_call hg.ok (words_clau hcn hm) rfl rfl rfl rfl rfl rfl ?_
    refine R_run hg.ok 1000 rfl rfl ?_
    refine R_if rfl rfl (fun h => absurd h (by simp)) (fun _ => ?_) <;> refine R_run hg.ok 1000 rfl rfl ?_
    exact R_next (k + 1) hk1 (by omega) ⟨.refl _, .refl _, .refl _, .refl _, .refl _, .refl _, Ent.wrap (by omega) (by omega) (by omega), trivial⟩ rfl
  · have h1 := oneT_ok9 L hL hr
    by_cases he : e ≠ 0
    · rw [show oneR L.length (c, a, e) = ((zeroT, []), a, e) by unfold oneR; simp only; rw [if_pos he]] at h1
      refine R_call hg.ok (h1) rfl rfl rfl rfl rfl rfl ?_
      refine R_run hg.ok 1000 rfl rfl ?_
      refine R_if rfl rfl (fun _ => ?_) (fun h => absurd h (by simp [he])) <;> refine R_run hg.ok 1000 rfl rfl ?_
      refine R_if rfl rfl (fun _ => ?_) (fun h => absurd h (by simp)) <;> refine R_run hg.ok 1000 rfl rfl ?_
      refine R_if rfl rfl (fun _ => ?_) (fun h => absurd h (by simp)) <;> refine R_run hg.ok 1000 rfl rfl ?_
      refine R_call hg.ok (same_zero) rfl rfl rfl rfl rfl rfl ?_
      refine R_run hg.ok 1000 rfl rfl ?_
      refine R_if rfl rfl (fun _ => ?_) (fun h => absurd h (by simp)) <;> refine R_run hg.ok 1000 rfl rfl ?_
      refine R_if rfl rfl (fun _ => ?_) (fun h => absurd h (by simp [strRows])) <;> refine R_run hg.ok 1000 rfl rfl ?_
      refine R_call hg.ok (knows9_ok) rfl rfl rfl rfl rfl rfl ?_
      refine R_run hg.ok 1000 rfl rfl ?_
      refine R_ret hg 5 rfl rfl ?_
      rfl
    have he : e = 0 := Decidable.not_not.1 he
    subst he
    obtain ⟨rfl, _⟩ := f2 rfl
    match c with
    | [] =>
      rw [show oneR L.length ([], 0, 0) = ((zeroT, []), (L.length : Int), 2) from rfl] at h1
      refine R_call hg.ok (h1) rfl rfl rfl rfl rfl rfl ?_
      refine R_run hg.ok 1000 rfl rfl ?_
      refine R_if rfl rfl (fun h => absurd h (by simp)) (fun _ => ?_) <;> refine R_run hg.ok 1000 rfl rfl ?_
      refine R_if rfl rfl (fun _ => ?_) (fun h => absurd h (by simp [clRows])) <;> refine R_run hg.ok 1000 rfl rfl ?_
      refine R_if rfl rfl (fun _ => ?_) (fun h => absurd h (by simp)) <;> refine R_run hg.ok 1000 rfl rfl ?_
      refine R_if rfl rfl (fun _ => ?_) (fun h => absurd h (by simp [Tx_size])) <;> refine R_run hg.ok 1000 rfl rfl ?_
      refine R_call hg.ok (same_zero) rfl rfl rfl rfl rfl rfl ?_
      refine R_run hg.ok 1000 rfl rfl ?_
      refine R_if rfl rfl (fun _ => ?_) (fun h => absurd h (by simp)) <;> refine R_run hg.ok 1000 rfl rfl ?_
      refine R_call hg.ok (knows9_ok) rfl rfl rfl rfl rfl rfl ?_
      refine R_run hg.ok 1000 rfl rfl ?_
      refine R_ret hg 5 rfl rfl ?_
      rfl
    | x :: y :: l =>
      rw [show oneR L.length (x :: y :: l, 0, 0) = ((zeroT, []), (L.length : Int), 2) from rfl] at h1
      refine R_call hg.ok (h1) rfl rfl rfl rfl rfl rfl ?_
      refine R_run hg.ok 1000 rfl rfl ?_
      refine R_if rfl rfl (fun h => absurd h (by simp)) (fun _ => ?_) <;> refine R_run hg.ok 1000 rfl rfl ?_
      refine R_if rfl rfl (fun _ => ?_) (fun h => absurd h (by simp [clRows]; omega)) <;> refine R_run hg.ok 1000 rfl rfl ?_
      refine R_if rfl rfl (fun _ => ?_) (fun h => absurd h (by simp)) <;> refine R_run hg.ok 1000 rfl rfl ?_
      refine R_if rfl rfl (fun _ => ?_) (fun h => absurd h (by simp [Tx_size])) <;> refine R_run hg.ok 1000 rfl rfl ?_
      refine R_call hg.ok (same_zero) rfl rfl rfl rfl rfl rfl ?_
      refine R_run hg.ok 1000 rfl rfl ?_
      refine R_if rfl rfl (fun _ => ?_) (fun h => absurd h (by simp)) <;> refine R_run hg.ok 1000 rfl rfl ?_
      refine R_call hg.ok (knows9_ok) rfl rfl rfl rfl rfl rfl ?_
      refine R_run hg.ok 1000 rfl rfl ?_
      refine R_ret hg 5 rfl rfl ?_
      rfl
    | [x] =>
      have hm : x ∈ [x] := by simp
      rw [show oneR L.length ([x], 0, 0) = (x, 0, 0) from rfl] at h1
      refine R_call hg.ok (h1) rfl rfl rfl rfl rfl rfl ?_
      refine R_run hg.ok 1000 rfl rfl ?_
      refine R_if rfl rfl (fun h => absurd h (by simp)) (fun _ => ?_) <;> refine R_run hg.ok 1000 rfl rfl ?_
      refine R_if rfl rfl (fun h => absurd h (by simp [clRows])) (fun _ => ?_) <;> refine R_run hg.ok 1000 rfl rfl ?_
      refine R_if rfl rfl (fun _ => ?_) (fun h => absurd h (by simp)) <;> refine R_run hg.ok 1000 rfl rfl ?_
      refine R_if rfl rfl (fun _ => ?_) (fun h => absurd h (by simp)) <;> refine R_run hg.ok 1000 rfl rfl ?_
      refine R_index hg.ok rfl rfl rfl rfl rfl rfl (by decide) (show (clRows [x])[Int.toNat 0]? = some (clRow x) from rfl) rfl ?_
      refine R_run hg.ok 1000 rfl rfl ?_
      refine R_call hg.ok (same_clau hcn hm) rfl rfl rfl rfl rfl rfl ?_
      refine R_run hg.ok 1000 rfl rfl ?_
      refine R_if rfl rfl (fun _ => ?_) (fun h => absurd h (by simp)) <;> refine R_run hg.ok 1000 rfl rfl ?_
      refine R_index hg.ok rfl rfl rfl rfl rfl rfl (by decide) (show (clRows [x])[Int.toNat 0]? = some (clRow x) from rfl) rfl ?_
      refine R_run hg.ok 1000 rfl rfl ?_
      refine R_call hg.ok (words_clau hcn hm) rfl rfl rfl rfl rfl rfl ?_
      refine R_run hg.ok 1000 rfl rfl ?_
      refine R_if rfl rfl (fun _ => ?_) (fun h => absurd h (by simp)) <;> refine R_run hg.ok 1000 rfl rfl ?_
      refine R_call hg.ok (knows9_ok) rfl rfl rfl rfl rfl rfl ?_
      refine R_run hg.ok 1000 rfl rfl ?_
      refine R_ret hg 5 rfl rfl ?_
      rfl
end Go.Proofs.Ythdpfglpdgmphaa
