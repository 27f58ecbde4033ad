import Derived.Test.YtppghekipbnjhaaM3
namespace Go.Proofs.Ytppghekipbnjhaa
open Go PSL Go.Proofs

/-- What lies there between one round and the next. -/
def urObd (d : Nat) (a b : Tm) (B : Binds) (s : Nat) (T : List (Tm × Tm)) (met : List (Int × Int)) : List Ob := uobd d B ++ [boxR a, boxR b, .arr 8 s (prsRows T), .map (pmap (metP met))]

theorem uobd_ren (d : Nat) (B : Binds) (n : Nat) : (uobd d B).map (renOb (rn [0, 1, 2] n)) = uobd d B := by
  have e : (renOb (rn [0, 1, 2] n)) = mapOb (renA (rn [0, 1, 2] n)) := by funext o; cases o <;> simp [renOb, mapOb, renL_map]
  rw [e]
  simp only [uobd, List.map_cons, List.map_nil]
  rw [tmM_mapOb (fun t => rfl)]; rfl

theorem urObd_trim (d : Nat) (a b : Tm) (B : Binds) (s : Nat) (T : List (Tm × Tm)) (met : List (Int × Int)) (l : List Ob) : ((urObd d a b B s T met ++ l).take 7).map (mapOb (trimA 7)) = urObd d a b B s T met := by
  have e : (urObd d a b B s T met ++ l).take 7 = urObd d a b B s T met := by simp [urObd, uobd]
  rw [e]
  simp only [urObd, uobd, List.map_append, List.map_cons, List.map_nil, List.cons_append, List.nil_append]
  rw [tmM_mapOb (f := trimA 7) (fun t => rfl), metP_mapOb (f := trimA 7) rfl]; rfl

theorem urObd_trim3 (d : Nat) (a b : Tm) (B : Binds) (s : Nat) (T : List (Tm × Tm)) (met : List (Int × Int)) (u v : Tm) (c e : Int) (l : List Ob) : ((urObd d a b B s T met ++ [boxR u, boxR v, .box [iV c, iV e]] ++ l).take 10).map (mapOb (trimA 10)) = urObd d a b B s T met ++ [boxR u, boxR v, .box [iV c, iV e]] := by
  have e' : (urObd d a b B s T met ++ [boxR u, boxR v, .box [iV c, iV e]] ++ l).take 10 = urObd d a b B s T met ++ [boxR u, boxR v, .box [iV c, iV e]] := by simp [urObd, uobd]
  rw [e']
  simp only [urObd, uobd, List.map_append, List.map_cons, List.map_nil, List.cons_append, List.nil_append]
  rw [tmM_mapOb (f := trimA 10) (fun t => rfl), metP_mapOb (f := trimA 10) rfl]; rfl

set_option maxHeartbeats 3200000 in
set_option maxRecDepth 100000 in
theorem unjLoop_ok (Y : YP) (d : Nat) {S : List Int} {N : Nat} (hS : S.length ≤ 100) (hN : N ≤ 100) (B0 B' : Binds) (ok : Bool) (a b : Tm) (n0 : Nat) (h0 : Tm.UState S N a n0 [(a, b)] B0 [] B' ok) : SCtr Try.prog Y 80 [.lo 0 0, a.av, b.av] (uobd d B0) (bV ok) (uobd d B') := by
  refine SCtr.of_R (pf := pfUni) tyOk mixed Try.func80 rfl (by kernel_rfl) (by kernel_rfl) (by simp [Try.ntmps80]) (by simp [uobd]) fun w S0 φ hg => ?_
  have hφ : φ.length = 3 := hg.hs0.len
  have keep : ∀ (B : Binds) (o : List Ob), (uobd d B).map (mapOb (sealT false 3 o 5)) = uobd d B := fun B o => by
    simp only [uobd, List.map_cons, List.map_nil]
    rw [tmM_mapOb (fun t => rfl)]; rfl
  refine R_run hg.ok 1000 rfl rfl ?_
  refine R_buildA hg.ok _ rfl rfl rfl rfl rfl rfl rfl rfl ?_
  refine R_run hg.ok 1000 rfl rfl ?_
  refine R_buildO hg.ok (prsRows [(a, b)]) rfl rfl rfl rfl rfl rfl rfl rfl (by simp [prsRows]) (by simp [prsRows]) ?_
  refine R_run hg.ok 1000 rfl rfl ?_
  refine R_makeMap hg.ok rfl rfl ?_
  refine R_run hg.ok 1000 rfl rfl ?_
  refine R_loop (fun x : Nat × List (Tm × Tm) × Binds × List (Int × Int) × Nat => ([(0, .lo 0 0), (7, .ow 5 x.2.2.2.2), (8, .mp 6)], urObd d a b x.2.2.1 x.2.2.2.2 x.2.1 x.2.2.2.1)) (fun x => Tm.UState S N a x.1 x.2.1 x.2.2.1 x.2.2.2.1 B' ok) (fun x => x.1) (n0, [(a, b)], B0, [], 0) h0 ⟨.refl _, .refl _, .refl _, trivial⟩ rfl ?_
  rintro ⟨n, T, B, met, s⟩ hU
  simp only at hU
  have hlenU : ∀ {n : Nat} {T : List (Tm × Tm)} {B : Binds} {met : List (Int × Int)}, Tm.UState S N a n T B met B' ok → T.length ≤ 1010001 := fun h => by
    have h1 := h.len
    have h2 : S.length * N ≤ 100 * 100 := Nat.mul_le_mul hS hN
    have h3 : N * (N + S.length * N) ≤ 100 * (100 + 100 * 100) := Nat.mul_le_mul hN (by omega)
    omega
  have hTl := hlenU hU
  have hBl := hU.ug.blen
  refine R_run hg.ok 1000 rfl rfl ?_
  refine R_lenO hg.ok rfl rfl rfl rfl rfl (n := (T.length : Int)) (by rw [prsRows_len]) ?_
  refine R_run hg.ok 1000 rfl rfl ?_
  rcases List.eq_nil_or_concat T with rfl | ⟨R, p, rfl⟩
  · refine R_if rfl rfl (fun h => absurd h (by simp)) (fun _ => ?_) <;> refine R_run hg.ok 1000 rfl rfl ?_
    obtain ⟨e1, e2⟩ := hU.nil
    rw [e1, e2]
    exact R_retS hg 3 5 (Nat.le_refl _) rfl rfl (keep B _)
  obtain ⟨x, y⟩ := p
  rw [List.concat_eq_append] at hU hTl ⊢
  obtain ⟨n, rfl⟩ := hU.pos
  refine R_if rfl rfl (fun _ => ?_) (fun h => absurd h (by simp)) <;> refine R_run hg.ok 1000 rfl rfl ?_
  have hRl : (R ++ [(x, y)]).length = R.length + 1 := by simp
  have hget : (prsRows (R ++ [(x, y)]))[((R.length : Nat) : Int).toNat]? = some (prsRow (x, y)) := prsRows_get (by simp)
  refine R_pair hg.ok 14 (by kernel_rfl) (by kernel_rfl) ?_ ?_
  · refine R_run hg.ok 1000 rfl rfl ?_
    refine R_lenJ hg.ok 10000 (by simp [mayO, Ob.lvl, Ob.isBox]) rfl rfl rfl rfl rfl rfl (n := ((R ++ [(x, y)]).length : Int)) (by rw [prsRows_len]) ?_
    refine R_run hg.ok 1000 rfl rfl ?_
    rw [w64 (n := ((R ++ [(x, y)]).length : Int) - 1) (by omega) (by omega), show ((R ++ [(x, y)]).length : Int) - 1 = ((R.length : Nat) : Int) by omega]
    refine R_indexOJ hg.ok 10000 rfl rfl rfl (by simp [mayO, Ob.lvl, Ob.isBox]) rfl rfl rfl rfl rfl rfl (Int.natCast_nonneg _) (by rw [prsRows_len]; simp) ?_
    refine R_run hg.ok 1000 rfl rfl ?_
    refine R_indexEA hg.ok 0 rfl rfl rfl rfl rfl rfl (by decide) (by decide) rfl ?_
    refine R_run hg.ok 1000 rfl rfl ?_
    refine R_loadEJ hg.ok 10000 rfl rfl rfl (by simp [mayO, Ob.lvl, Ob.isBox]) rfl rfl rfl hget rfl ?_
    refine R_run hg.ok 1000 rfl rfl ?_
    refine R_lenJ hg.ok 10000 (by simp [mayO, Ob.lvl, Ob.isBox]) rfl rfl rfl rfl rfl rfl (n := ((R ++ [(x, y)]).length : Int)) (by rw [prsRows_len]) ?_
    refine R_run hg.ok 1000 rfl rfl ?_
    rw [w64 (n := ((R ++ [(x, y)]).length : Int) - 1) (by omega) (by omega), show ((R ++ [(x, y)]).length : Int) - 1 = ((R.length : Nat) : Int) by omega]
    refine R_indexOJ hg.ok 10000 rfl rfl rfl (by simp [mayO, Ob.lvl, Ob.isBox]) rfl rfl rfl rfl rfl rfl (Int.natCast_nonneg _) (by rw [prsRows_len]; simp) ?_
    refine R_run hg.ok 1000 rfl rfl ?_
    refine R_indexEA hg.ok 4 rfl rfl rfl rfl rfl rfl (by decide) (by decide) rfl ?_
    refine R_run hg.ok 1000 rfl rfl ?_
    refine R_loadEJ hg.ok 10000 rfl rfl rfl (by simp [mayO, Ob.lvl, Ob.isBox]) rfl rfl rfl hget rfl ?_
    refine R_run hg.ok 1000 rfl rfl ?_
    refine R_storeB hg.ok rfl rfl rfl rfl rfl rfl rfl rfl rfl ?_
    refine R_run hg.ok 1000 rfl rfl ?_
    refine R_storeB hg.ok rfl rfl rfl rfl rfl rfl rfl rfl rfl ?_
    refine R_run hg.ok 1000 rfl rfl ?_
    refine R_lenO hg.ok rfl rfl rfl rfl rfl (n := ((R ++ [(x, y)]).length : Int)) (by rw [prsRows_len]) ?_
    refine R_run hg.ok 1000 rfl rfl ?_
    rw [w64 (n := ((R ++ [(x, y)]).length : Int) - 1) (by omega) (by omega), show ((R ++ [(x, y)]).length : Int) - 1 = ((R.length : Nat) : Int) by omega]
    refine R_shrinkO hg.ok (prsRows R) rfl rfl rfl rfl rfl rfl rfl rfl rfl rfl (Int.natCast_nonneg _) (by rw [prsRows_len]; simp; omega) (by simp [prsRows]) ?_
    refine R_run hg.ok 1000 rfl rfl ?_
    refine R_buildA hg.ok _ rfl rfl rfl rfl rfl rfl rfl rfl ?_
    refine R_run hg.ok 1000 rfl rfl ?_
    cases hs : Tm.skipU x y met with
    | true =>
      have hs' := hs
      simp only [Tm.skipU, Bool.and_eq_true, decide_eq_true_eq] at hs'
      refine R_if rfl rfl (fun _ => ?_) (fun h => absurd h (by simp [hs'.1.1])) <;> refine R_run hg.ok 1000 rfl rfl ?_
      refine R_if rfl rfl (fun _ => ?_) (fun h => absurd h (by simp [hs'.1.2])) <;> refine R_run hg.ok 1000 rfl rfl ?_
      refine R_lookupP hg.ok (metP met) uniKey rfl rfl rfl rfl rfl rfl (zv := .bool false) (by kernel_rfl) (v := .tt) (by rw [metP_get, if_pos hs'.2]; rfl) ?_
      refine R_run hg.ok 1000 rfl rfl ?_
      refine R_dropO 7 (urObd d a b B (s + 1) R met) (by show φ.length ≤ _; omega) rfl ?_ ?_
      · exact urObd_trim d a b B (s + 1) R met _
      exact R_next (n, R, B, met, s + 1) (hU.skip hs) (by simp only; omega) ⟨.refl _, .refl _, .refl _, trivial⟩ rfl
    | false =>
      have hstep := hU.step hs
      by_cases hb2 : x.k = 1 ∧ y.k = 1
      · refine R_if rfl rfl (fun _ => ?_) (fun h => absurd h (by simp [hb2.1])) <;> refine R_run hg.ok 1000 rfl rfl ?_
        refine R_if rfl rfl (fun _ => ?_) (fun h => absurd h (by simp [hb2.2])) <;> refine R_run hg.ok 1000 rfl rfl ?_
        have hmc : met.contains (x.n, y.n) = false := by
          have := hs; simp only [Tm.skipU, hb2.1, hb2.2, decide_true, Bool.true_and] at this; exact this
        have hmU : metP met ++ [((x.n, y.n), AV.tt)] = metP (Tm.metU x y met) := by simp [Tm.metU, hb2.1, hb2.2, metP]
        refine R_lookupP hg.ok (metP met) uniKey rfl rfl rfl rfl rfl rfl (zv := .bool false) (by kernel_rfl) (v := .ff) (by rw [metP_get, hmc]; rfl) ?_
        refine R_run hg.ok 1000 rfl rfl ?_
        refine R_mapAddPO hg.ok (metP met) (metP (Tm.metU x y met)) uniKey rfl rfl rfl rfl rfl rfl (by rw [metP_get, hmc]; rfl) rfl hmU ?_
        refine R_run hg.ok 1000 rfl rfl ?_
        generalize Tm.metU x y met = met' at hstep ⊢
        obtain ⟨ex, ey, zx, zy, hsame, hrest⟩ := hstep
        have cx := unjWalk_ok Y d B hU.ug.chain x
        have cy := unjWalk_ok Y d B hU.ug.chain y
        have hsb : ∀ c ∈ B, c.2.size < 400000000 := fun c hc => by have := hU.ug.sb c hc; omega
        generalize Tm.walkB B x = x' at *
        generalize Tm.walkB B y = y' at *
        refine R_load4 hg.ok (by show φ.length ≤ 7; omega) rfl rfl rfl rfl rfl rfl rfl ?_
        refine R_run hg.ok 1000 rfl rfl ?_
        refine R_callS3 hg.ok hg.gup hg.wide hg.Y [0, 1, 2] (urObd d a b B (s + 1) R met' ++ [boxR x, boxR y, .box [iV x.n, iV y.n]]) cx (fun _ => rfl) (fun i hi => by show i < φ.length; simp at hi; omega) rfl rfl rfl rfl rfl (by rw [uobd_ren]; rfl) rfl (by rw [uobd_ren]; rfl) ?_
        refine R_run hg.ok 1000 rfl rfl ?_
        refine R_load4 hg.ok (by show φ.length ≤ 8; omega) rfl rfl rfl rfl rfl rfl rfl ?_
        refine R_run hg.ok 1000 rfl rfl ?_
        refine R_callS3 hg.ok hg.gup hg.wide hg.Y [0, 1, 2] (urObd d a b B (s + 1) R met' ++ [boxR x, boxR y, .box [iV x.n, iV y.n]]) cy (fun _ => rfl) (fun i hi => by show i < φ.length; simp at hi; omega) rfl rfl rfl rfl rfl (by rw [uobd_ren]; rfl) rfl (by rw [uobd_ren]; rfl) ?_
        refine R_run hg.ok 1000 rfl rfl ?_
        refine R_storeB hg.ok rfl rfl rfl rfl rfl rfl rfl rfl rfl ?_
        refine R_run hg.ok 1000 rfl rfl ?_
        refine R_storeB hg.ok rfl rfl rfl rfl rfl rfl rfl rfl rfl ?_
        refine R_run hg.ok 1000 rfl rfl ?_
        by_cases hc : x'.k = 1 ∧ y'.k = 1 ∧ x'.n = y'.n
        · refine R_if rfl rfl (fun _ => ?_) (fun h => absurd h (by simp [hc.1])) <;> refine R_run hg.ok 1000 rfl rfl ?_
          refine R_if rfl rfl (fun _ => ?_) (fun h => absurd h (by simp [hc.2.1])) <;> refine R_run hg.ok 1000 rfl rfl ?_
          refine R_if rfl rfl (fun _ => ?_) (fun h => absurd h (by simp [hc.2.2])) <;> refine R_run hg.ok 1000 rfl rfl ?_
          refine R_dropO 7 (urObd d a b B (s + 1) R met') (by show φ.length ≤ _; omega) rfl ?_ ?_
          · exact urObd_trim d a b B (s + 1) R met' _
          exact R_next (n, R, B, met', s + 1) (hsame hc) (by simp only; omega) ⟨.refl _, .refl _, .refl _, trivial⟩ rfl
        obtain ⟨hleft, hnot⟩ := hrest hc
        by_cases hkx : x'.k = 1
        · obtain ⟨hbad, hgood⟩ := hleft hkx
          have cw := unjWithin_ok Y d B hsb (by omega) x'.n y' (by omega)
          have cb := unjBind_ok Y d B x'.n y' (ex hkx) (by omega)
          generalize Tm.withB B x'.n y' = wb at cw hbad hgood
          by_cases hky : y'.k = 1
          · refine R_if rfl rfl (fun _ => ?_) (fun h => absurd h (by simp [hkx])) <;> refine R_run hg.ok 1000 rfl rfl ?_
            refine R_if rfl rfl (fun _ => ?_) (fun h => absurd h (by simp [hky])) <;> refine R_run hg.ok 1000 rfl rfl ?_
            refine R_if rfl rfl (fun h => absurd h (by have : ¬ x'.n = y'.n := fun e => hc ⟨hkx, hky, e⟩; simp [this])) (fun _ => ?_) <;> refine R_run hg.ok 1000 rfl rfl ?_
            refine R_if rfl rfl (fun _ => ?_) (fun h => absurd h (by simp [hkx])) <;> refine R_run hg.ok 1000 rfl rfl ?_
            refine R_load4 hg.ok (by show φ.length ≤ 8; omega) rfl rfl rfl rfl rfl rfl rfl ?_
            refine R_run hg.ok 1000 rfl rfl ?_
            refine R_callSO hg.ok hg.gup hg.wide hg.Y [0, 1, 2] (urObd d a b B (s + 1) R met' ++ [boxR x', boxR y', .box [iV x.n, iV y.n]]) cw (fun _ => rfl) rfl rfl rfl rfl rfl (by rw [uobd_ren]; rfl) rfl (by rw [uobd_ren]; rfl) ?_
            refine R_run hg.ok 1000 rfl rfl ?_
            cases wb with
            | true =>
              refine R_if rfl rfl (fun _ => ?_) (fun h => absurd h (by simp)) <;> refine R_run hg.ok 1000 rfl rfl ?_
              obtain ⟨e1, e2⟩ := hbad rfl
              rw [e1, e2]
              exact R_retS hg 3 5 (Nat.le_refl _) rfl rfl (keep B _)
            | false =>
            have hN := hgood rfl
            refine R_if rfl rfl (fun h => absurd h (by simp)) (fun _ => ?_) <;> refine R_run hg.ok 1000 rfl rfl ?_
            refine R_load4 hg.ok (by show φ.length ≤ 8; omega) rfl rfl rfl rfl rfl rfl rfl ?_
            refine R_run hg.ok 1000 rfl rfl ?_
            refine R_callSO hg.ok hg.gup hg.wide hg.Y [0, 1, 2] (urObd d a b (B ++ [(x'.n, y')]) (s + 1) R met' ++ [boxR x', boxR y', .box [iV x.n, iV y.n]]) cb (fun _ => rfl) rfl rfl rfl rfl rfl (by rw [uobd_ren]; rfl) rfl (by rw [uobd_ren]; rfl) ?_
            refine R_run hg.ok 1000 rfl rfl ?_
            refine R_dropO 7 (urObd d a b (B ++ [(x'.n, y')]) (s + 1) R met') (by show φ.length ≤ _; omega) rfl ?_ ?_
            · exact urObd_trim d a b (B ++ [(x'.n, y')]) (s + 1) R met' _
            exact R_next (n, R, B ++ [(x'.n, y')], met', s + 1) hN (by simp only; omega) ⟨.refl _, .refl _, .refl _, trivial⟩ rfl
          · refine R_if rfl rfl (fun _ => ?_) (fun h => absurd h (by simp [hkx])) <;> refine R_run hg.ok 1000 rfl rfl ?_
            refine R_if rfl rfl (fun h => absurd h (by simp [hky])) (fun _ => ?_) <;> refine R_run hg.ok 1000 rfl rfl ?_
            refine R_if rfl rfl (fun _ => ?_) (fun h => absurd h (by simp [hkx])) <;> refine R_run hg.ok 1000 rfl rfl ?_
            refine R_load4 hg.ok (by show φ.length ≤ 8; omega) rfl rfl rfl rfl rfl rfl rfl ?_
            refine R_run hg.ok 1000 rfl rfl ?_
            refine R_callSO hg.ok hg.gup hg.wide hg.Y [0, 1, 2] (urObd d a b B (s + 1) R met' ++ [boxR x', boxR y', .box [iV x.n, iV y.n]]) cw (fun _ => rfl) rfl rfl rfl rfl rfl (by rw [uobd_ren]; rfl) rfl (by rw [uobd_ren]; rfl) ?_
            refine R_run hg.ok 1000 rfl rfl ?_
            cases wb with
            | true =>
              refine R_if rfl rfl (fun _ => ?_) (fun h => absurd h (by simp)) <;> refine R_run hg.ok 1000 rfl rfl ?_
              obtain ⟨e1, e2⟩ := hbad rfl
              rw [e1, e2]
              exact R_retS hg 3 5 (Nat.le_refl _) rfl rfl (keep B _)
            | false =>
            have hN := hgood rfl
            refine R_if rfl rfl (fun h => absurd h (by simp)) (fun _ => ?_) <;> refine R_run hg.ok 1000 rfl rfl ?_
            refine R_load4 hg.ok (by show φ.length ≤ 8; omega) rfl rfl rfl rfl rfl rfl rfl ?_
            refine R_run hg.ok 1000 rfl rfl ?_
            refine R_callSO hg.ok hg.gup hg.wide hg.Y [0, 1, 2] (urObd d a b (B ++ [(x'.n, y')]) (s + 1) R met' ++ [boxR x', boxR y', .box [iV x.n, iV y.n]]) cb (fun _ => rfl) rfl rfl rfl rfl rfl (by rw [uobd_ren]; rfl) rfl (by rw [uobd_ren]; rfl) ?_
            refine R_run hg.ok 1000 rfl rfl ?_
            refine R_dropO 7 (urObd d a b (B ++ [(x'.n, y')]) (s + 1) R met') (by show φ.length ≤ _; omega) rfl ?_ ?_
            · exact urObd_trim d a b (B ++ [(x'.n, y')]) (s + 1) R met' _
            exact R_next (n, R, B ++ [(x'.n, y')], met', s + 1) hN (by simp only; omega) ⟨.refl _, .refl _, .refl _, trivial⟩ rfl
        · refine R_if rfl rfl (fun h => absurd h (by simp [hkx])) (fun _ => ?_) <;> refine R_run hg.ok 1000 rfl rfl ?_
          refine R_if rfl rfl (fun h => absurd h (by simp [hkx])) (fun _ => ?_) <;> refine R_run hg.ok 1000 rfl rfl ?_
          obtain ⟨hright, hdeep⟩ := hnot hkx
          by_cases hky : y'.k = 1
          · obtain ⟨hbad, hgood⟩ := hright hky
            have cw := unjWithin_ok Y d B hsb (by omega) y'.n x' (by omega)
            have cb := unjBind_ok Y d B y'.n x' (ey hky) (by omega)
            generalize Tm.withB B y'.n x' = wb at cw hbad hgood
            refine R_if rfl rfl (fun _ => ?_) (fun h => absurd h (by simp [hky])) <;> refine R_run hg.ok 1000 rfl rfl ?_
            refine R_load4 hg.ok (by show φ.length ≤ 7; omega) rfl rfl rfl rfl rfl rfl rfl ?_
            refine R_run hg.ok 1000 rfl rfl ?_
            refine R_callSO hg.ok hg.gup hg.wide hg.Y [0, 1, 2] (urObd d a b B (s + 1) R met' ++ [boxR x', boxR y', .box [iV x.n, iV y.n]]) cw (fun _ => rfl) rfl rfl rfl rfl rfl (by rw [uobd_ren]; rfl) rfl (by rw [uobd_ren]; rfl) ?_
            refine R_run hg.ok 1000 rfl rfl ?_
            cases wb with
            | true =>
              refine R_if rfl rfl (fun _ => ?_) (fun h => absurd h (by simp)) <;> refine R_run hg.ok 1000 rfl rfl ?_
              obtain ⟨e1, e2⟩ := hbad rfl
              rw [e1, e2]
              exact R_retS hg 3 5 (Nat.le_refl _) rfl rfl (keep B _)
            | false =>
            have hN := hgood rfl
            refine R_if rfl rfl (fun h => absurd h (by simp)) (fun _ => ?_) <;> refine R_run hg.ok 1000 rfl rfl ?_
            refine R_load4 hg.ok (by show φ.length ≤ 7; omega) rfl rfl rfl rfl rfl rfl rfl ?_
            refine R_run hg.ok 1000 rfl rfl ?_
            refine R_callSO hg.ok hg.gup hg.wide hg.Y [0, 1, 2] (urObd d a b (B ++ [(y'.n, x')]) (s + 1) R met' ++ [boxR x', boxR y', .box [iV x.n, iV y.n]]) cb (fun _ => rfl) rfl rfl rfl rfl rfl (by rw [uobd_ren]; rfl) rfl (by rw [uobd_ren]; rfl) ?_
            refine R_run hg.ok 1000 rfl rfl ?_
            refine R_dropO 7 (urObd d a b (B ++ [(y'.n, x')]) (s + 1) R met') (by show φ.length ≤ _; omega) rfl ?_ ?_
            · exact urObd_trim d a b (B ++ [(y'.n, x')]) (s + 1) R met' _
            exact R_next (n, R, B ++ [(y'.n, x')], met', s + 1) hN (by simp only; omega) ⟨.refl _, .refl _, .refl _, trivial⟩ rfl
          · obtain ⟨hbad, hgood⟩ := hdeep hky
            refine R_if rfl rfl (fun h => absurd h (by simp [hky])) (fun _ => ?_) <;> refine R_run hg.ok 1000 rfl rfl ?_
            refine R_if rfl rfl (fun c1 => ?_) (fun c1 => ?_) <;> refine R_run hg.ok 1000 rfl rfl ?_
            · have c1 : ¬ x'.k = y'.k := by simpa using c1
              obtain ⟨e1, e2⟩ := hbad (by simp [Tm.clashB, c1])
              rw [e1, e2]
              exact R_retS hg 3 5 (Nat.le_refl _) rfl rfl (keep B _)
            have c1 : x'.k = y'.k := by simpa using c1
            refine R_if rfl rfl (fun c2 => ?_) (fun c2 => ?_) <;> refine R_run hg.ok 1000 rfl rfl ?_
            · have c2 : ¬ x'.n = y'.n := by simpa using c2
              obtain ⟨e1, e2⟩ := hbad (by simp [Tm.clashB, c2])
              rw [e1, e2]
              exact R_retS hg 3 5 (Nat.le_refl _) rfl rfl (keep B _)
            have c2 : x'.n = y'.n := by simpa using c2
            refine R_if rfl rfl (fun c3 => ?_) (fun c3 => ?_) <;> refine R_run hg.ok 1000 rfl rfl ?_
            · have c3 : strEq x'.s y'.s = false := by simpa using c3
              obtain ⟨e1, e2⟩ := hbad (by simp [Tm.clashB, c3])
              rw [e1, e2]
              exact R_retS hg 3 5 (Nat.le_refl _) rfl rfl (keep B _)
            have c3 : strEq x'.s y'.s = true := by simpa using c3
            refine R_if rfl rfl (fun c4 => ?_) (fun c4 => ?_) <;> refine R_run hg.ok 1000 rfl rfl ?_
            · have c4 : ¬ x'.l.length = y'.l.length := by simp [Tm.rows_length] at c4; omega
              obtain ⟨e1, e2⟩ := hbad (by simp [Tm.clashB, c4])
              rw [e1, e2]
              exact R_retS hg 3 5 (Nat.le_refl _) rfl rfl (keep B _)
            have g4 : x'.l.length = y'.l.length := by simp [Tm.rows_length] at c4; omega
            have hN := hgood (by simp [Tm.clashB, c1, c2, c3, g4])
            have hN2 := hlenU hN
            have hzl : (x'.l.zip y'.l).length = x'.l.length := by rw [List.length_zip]; omega
            have hRz : (R ++ x'.l.zip y'.l).length = R.length + x'.l.length := by rw [List.length_append, hzl]
            refine R_loop (fun k : Nat => ([(0, .lo 0 0), (7, .ow 5 (s + 1 + k)), (8, .mp 6), (10, .lo 8 0), (66, .d (.sl (Tm.rows x'.l))), (67, iV x'.l.length), (68, iV k)], urObd d a b B (s + 1 + k) (R ++ (x'.l.zip y'.l).take k) met' ++ [boxR x', boxR y', .box [iV x.n, iV y.n]])) (fun k => k ≤ x'.l.length) (fun k => x'.l.length - k) 0 (Nat.zero_le _) ⟨.refl _, .refl _, .refl _, .refl _, .refl _, Ent.int (by rw [Tm.rows_length]), .refl _, trivial⟩ (by simp only [List.take_zero, List.append_nil]; rfl) ?_
            rintro k hk
            refine R_run hg.ok 1000 rfl rfl ?_
            refine R_if rfl rfl (fun h => ?_) (fun h => ?_) <;> refine R_run hg.ok 1000 rfl rfl ?_
            · have hk1 : k < x'.l.length := lt_dec h rfl
              have e1 : x'.l[k]? = some x'.l[k] := List.getElem?_eq_getElem hk1
              have e2 : y'.l[k]? = some (y'.l[k]'(by omega)) := List.getElem?_eq_getElem (by omega)
              have e3 : (x'.l.zip y'.l)[k]? = some (x'.l[k], y'.l[k]'(by omega)) := by rw [List.getElem?_zip_eq_some]; exact ⟨e1, e2⟩
              generalize x'.l[k] = xk at e1 e3
              generalize (y'.l[k]'(by omega)) = yk at e2 e3
              have hz1 : R ++ (x'.l.zip y'.l).take (k + 1) = (R ++ (x'.l.zip y'.l).take k) ++ [(xk, yk)] := by rw [List.take_add_one, e3, List.append_assoc]; rfl
              have hz2 : (R ++ (x'.l.zip y'.l).take k).length = R.length + k := by rw [List.length_append, List.length_take]; omega
              refine R_index hg.ok rfl rfl rfl rfl rfl rfl (Int.natCast_nonneg _) (Tm.rows_get e1) rfl ?_
              refine R_run hg.ok 1000 rfl rfl ?_
              refine R_index hg.ok rfl rfl rfl rfl rfl rfl (Int.natCast_nonneg _) (Tm.rows_get e2) rfl ?_
              refine R_run hg.ok 1000 rfl rfl ?_
              refine R_buildA hg.ok _ rfl rfl rfl rfl rfl rfl rfl rfl ?_
              refine R_run hg.ok 1000 rfl rfl ?_
              refine R_buildF hg.ok (.fs [[.v (.int .i64 xk.k), .v (.string xk.s), .v (.int .i64 xk.n), .sl (Tm.rows xk.l), .v (.int .i64 yk.k), .v (.string yk.s), .v (.int .i64 yk.n), .sl (Tm.rows yk.l)]]) rfl rfl (buildS_one rfl rfl rfl rfl (by decide)) ?_
              refine R_run hg.ok 1000 rfl rfl ?_
              refine R_appendO hg.ok (prsRows (R ++ (x'.l.zip y'.l).take (k + 1))) rfl rfl rfl rfl rfl rfl rfl rfl rfl (by simp) (by simp [one1]) (by rw [hz1]; exact prs_snoc2 _ xk yk) (by rw [prsRows_len, hz2]; simp; omega) (by rw [prsRows_len, hz2]; simp; omega) ?_
              refine R_run hg.ok 1000 rfl rfl ?_
              refine R_dropO 10 (urObd d a b B (s + 1 + (k + 1)) (R ++ (x'.l.zip y'.l).take (k + 1)) met' ++ [boxR x', boxR y', .box [iV x.n, iV y.n]]) (by show φ.length ≤ _; omega) rfl ?_ ?_
              · exact urObd_trim3 d a b B (s + 1 + (k + 1)) (R ++ (x'.l.zip y'.l).take (k + 1)) met' _ _ x.n y.n _
              exact R_next (k + 1) hk1 (by omega) ⟨.refl _, .refl _, .refl _, .refl _, .refl _, .refl _, Ent.wrap (by omega) (by omega) (by omega), trivial⟩ rfl
            · have hk1 : x'.l.length ≤ k := ge_dec h rfl
              rw [List.take_of_length_le (by omega : (x'.l.zip y'.l).length ≤ k)]
              refine R_dropO 7 (urObd d a b B (s + 1 + k) (R ++ x'.l.zip y'.l) met') (by show φ.length ≤ _; omega) rfl ?_ ?_
              · exact urObd_trim d a b B (s + 1 + k) (R ++ x'.l.zip y'.l) met' _
              exact R_next (n, R ++ x'.l.zip y'.l, B, met', s + 1 + k) hN (by simp only; omega) ⟨.refl _, .refl _, .refl _, trivial⟩ rfl
      · have hmU : Tm.metU x y met = met := by
          unfold Tm.metU
          rw [if_neg]
          simp only [Bool.and_eq_true, decide_eq_true_eq]; exact hb2
        rw [hmU] at hstep
        obtain ⟨met', rfl⟩ : ∃ m, met = m := ⟨met, rfl⟩
        by_cases hx1 : x.k = 1
        · refine R_if rfl rfl (fun _ => ?_) (fun h => absurd h (by simp [hx1])) <;> refine R_run hg.ok 1000 rfl rfl ?_
          refine R_if rfl rfl (fun h => absurd h (by have : ¬ y.k = 1 := fun h => hb2 ⟨hx1, h⟩; simp [this])) (fun _ => ?_) <;> refine R_run hg.ok 1000 rfl rfl ?_
          obtain ⟨ex, ey, zx, zy, hsame, hrest⟩ := hstep
          have cx := unjWalk_ok Y d B hU.ug.chain x
          have cy := unjWalk_ok Y d B hU.ug.chain y
          have hsb : ∀ c ∈ B, c.2.size < 400000000 := fun c hc => by have := hU.ug.sb c hc; omega
          generalize Tm.walkB B x = x' at *
          generalize Tm.walkB B y = y' at *
          refine R_load4 hg.ok (by show φ.length ≤ 7; omega) rfl rfl rfl rfl rfl rfl rfl ?_
          refine R_run hg.ok 1000 rfl rfl ?_
          refine R_callS3 hg.ok hg.gup hg.wide hg.Y [0, 1, 2] (urObd d a b B (s + 1) R met ++ [boxR x, boxR y, .box [iV x.n, iV y.n]]) cx (fun _ => rfl) (fun i hi => by show i < φ.length; simp at hi; omega) rfl rfl rfl rfl rfl (by rw [uobd_ren]; rfl) rfl (by rw [uobd_ren]; rfl) ?_
          refine R_run hg.ok 1000 rfl rfl ?_
          refine R_load4 hg.ok (by show φ.length ≤ 8; omega) rfl rfl rfl rfl rfl rfl rfl ?_
          refine R_run hg.ok 1000 rfl rfl ?_
          refine R_callS3 hg.ok hg.gup hg.wide hg.Y [0, 1, 2] (urObd d a b B (s + 1) R met ++ [boxR x, boxR y, .box [iV x.n, iV y.n]]) cy (fun _ => rfl) (fun i hi => by show i < φ.length; simp at hi; omega) rfl rfl rfl rfl rfl (by rw [uobd_ren]; rfl) rfl (by rw [uobd_ren]; rfl) ?_
          refine R_run hg.ok 1000 rfl rfl ?_
          refine R_storeB hg.ok rfl rfl rfl rfl rfl rfl rfl rfl rfl ?_
          refine R_run hg.ok 1000 rfl rfl ?_
          refine R_storeB hg.ok rfl rfl rfl rfl rfl rfl rfl rfl rfl ?_
          refine R_run hg.ok 1000 rfl rfl ?_
          by_cases hc : x'.k = 1 ∧ y'.k = 1 ∧ x'.n = y'.n
          · refine R_if rfl rfl (fun _ => ?_) (fun h => absurd h (by simp [hc.1])) <;> refine R_run hg.ok 1000 rfl rfl ?_
            refine R_if rfl rfl (fun _ => ?_) (fun h => absurd h (by simp [hc.2.1])) <;> refine R_run hg.ok 1000 rfl rfl ?_
            refine R_if rfl rfl (fun _ => ?_) (fun h => absurd h (by simp [hc.2.2])) <;> refine R_run hg.ok 1000 rfl rfl ?_
            refine R_dropO 7 (urObd d a b B (s + 1) R met) (by show φ.length ≤ _; omega) rfl ?_ ?_
            · exact urObd_trim d a b B (s + 1) R met _
            exact R_next (n, R, B, met, s + 1) (hsame hc) (by simp only; omega) ⟨.refl _, .refl _, .refl _, trivial⟩ rfl
          obtain ⟨hleft, hnot⟩ := hrest hc
          by_cases hkx : x'.k = 1
          · obtain ⟨hbad, hgood⟩ := hleft hkx
            have cw := unjWithin_ok Y d B hsb (by omega) x'.n y' (by omega)
            have cb := unjBind_ok Y d B x'.n y' (ex hkx) (by omega)
            generalize Tm.withB B x'.n y' = wb at cw hbad hgood
            by_cases hky : y'.k = 1
            · refine R_if rfl rfl (fun _ => ?_) (fun h => absurd h (by simp [hkx])) <;> refine R_run hg.ok 1000 rfl rfl ?_
              refine R_if rfl rfl (fun _ => ?_) (fun h => absurd h (by simp [hky])) <;> refine R_run hg.ok 1000 rfl rfl ?_
              refine R_if rfl rfl (fun h => absurd h (by have : ¬ x'.n = y'.n := fun e => hc ⟨hkx, hky, e⟩; simp [this])) (fun _ => ?_) <;> refine R_run hg.ok 1000 rfl rfl ?_
              refine R_if rfl rfl (fun _ => ?_) (fun h => absurd h (by simp [hkx])) <;> refine R_run hg.ok 1000 rfl rfl ?_
              refine R_load4 hg.ok (by show φ.length ≤ 8; omega) rfl rfl rfl rfl rfl rfl rfl ?_
              refine R_run hg.ok 1000 rfl rfl ?_
              refine R_callSO hg.ok hg.gup hg.wide hg.Y [0, 1, 2] (urObd d a b B (s + 1) R met ++ [boxR x', boxR y', .box [iV x.n, iV y.n]]) cw (fun _ => rfl) rfl rfl rfl rfl rfl (by rw [uobd_ren]; rfl) rfl (by rw [uobd_ren]; rfl) ?_
              refine R_run hg.ok 1000 rfl rfl ?_
              cases wb with
              | true =>
                refine R_if rfl rfl (fun _ => ?_) (fun h => absurd h (by simp)) <;> refine R_run hg.ok 1000 rfl rfl ?_
                obtain ⟨e1, e2⟩ := hbad rfl
                rw [e1, e2]
                exact R_retS hg 3 5 (Nat.le_refl _) rfl rfl (keep B _)
              | false =>
              have hN := hgood rfl
              refine R_if rfl rfl (fun h => absurd h (by simp)) (fun _ => ?_) <;> refine R_run hg.ok 1000 rfl rfl ?_
              refine R_load4 hg.ok (by show φ.length ≤ 8; omega) rfl rfl rfl rfl rfl rfl rfl ?_
              refine R_run hg.ok 1000 rfl rfl ?_
              refine R_callSO hg.ok hg.gup hg.wide hg.Y [0, 1, 2] (urObd d a b (B ++ [(x'.n, y')]) (s + 1) R met ++ [boxR x', boxR y', .box [iV x.n, iV y.n]]) cb (fun _ => rfl) rfl rfl rfl rfl rfl (by rw [uobd_ren]; rfl) rfl (by rw [uobd_ren]; rfl) ?_
              refine R_run hg.ok 1000 rfl rfl ?_
              refine R_dropO 7 (urObd d a b (B ++ [(x'.n, y')]) (s + 1) R met) (by show φ.length ≤ _; omega) rfl ?_ ?_
              · exact urObd_trim d a b (B ++ [(x'.n, y')]) (s + 1) R met _
              exact R_next (n, R, B ++ [(x'.n, y')], met, s + 1) hN (by simp only; omega) ⟨.refl _, .refl _, .refl _, trivial⟩ rfl
            · refine R_if rfl rfl (fun _ => ?_) (fun h => absurd h (by simp [hkx])) <;> refine R_run hg.ok 1000 rfl rfl ?_
              refine R_if rfl rfl (fun h => absurd h (by simp [hky])) (fun _ => ?_) <;> refine R_run hg.ok 1000 rfl rfl ?_
              refine R_if rfl rfl (fun _ => ?_) (fun h => absurd h (by simp [hkx])) <;> refine R_run hg.ok 1000 rfl rfl ?_
              refine R_load4 hg.ok (by show φ.length ≤ 8; omega) rfl rfl rfl rfl rfl rfl rfl ?_
              refine R_run hg.ok 1000 rfl rfl ?_
              refine R_callSO hg.ok hg.gup hg.wide hg.Y [0, 1, 2] (urObd d a b B (s + 1) R met ++ [boxR x', boxR y', .box [iV x.n, iV y.n]]) cw (fun _ => rfl) rfl rfl rfl rfl rfl (by rw [uobd_ren]; rfl) rfl (by rw [uobd_ren]; rfl) ?_
              refine R_run hg.ok 1000 rfl rfl ?_
              cases wb with
              | true =>
                refine R_if rfl rfl (fun _ => ?_) (fun h => absurd h (by simp)) <;> refine R_run hg.ok 1000 rfl rfl ?_
                obtain ⟨e1, e2⟩ := hbad rfl
                rw [e1, e2]
                exact R_retS hg 3 5 (Nat.le_refl _) rfl rfl (keep B _)
              | false =>
              have hN := hgood rfl
              refine R_if rfl rfl (fun h => absurd h (by simp)) (fun _ => ?_) <;> refine R_run hg.ok 1000 rfl rfl ?_
              refine R_load4 hg.ok (by show φ.length ≤ 8; omega) rfl rfl rfl rfl rfl rfl rfl ?_
              refine R_run hg.ok 1000 rfl rfl ?_
              refine R_callSO hg.ok hg.gup hg.wide hg.Y [0, 1, 2] (urObd d a b (B ++ [(x'.n, y')]) (s + 1) R met ++ [boxR x', boxR y', .box [iV x.n, iV y.n]]) cb (fun _ => rfl) rfl rfl rfl rfl rfl (by rw [uobd_ren]; rfl) rfl (by rw [uobd_ren]; rfl) ?_
              refine R_run hg.ok 1000 rfl rfl ?_
              refine R_dropO 7 (urObd d a b (B ++ [(x'.n, y')]) (s + 1) R met) (by show φ.length ≤ _; omega) rfl ?_ ?_
              · exact urObd_trim d a b (B ++ [(x'.n, y')]) (s + 1) R met _
              exact R_next (n, R, B ++ [(x'.n, y')], met, s + 1) hN (by simp only; omega) ⟨.refl _, .refl _, .refl _, trivial⟩ rfl
          · refine R_if rfl rfl (fun h => absurd h (by simp [hkx])) (fun _ => ?_) <;> refine R_run hg.ok 1000 rfl rfl ?_
            refine R_if rfl rfl (fun h => absurd h (by simp [hkx])) (fun _ => ?_) <;> refine R_run hg.ok 1000 rfl rfl ?_
            obtain ⟨hright, hdeep⟩ := hnot hkx
            by_cases hky : y'.k = 1
            · obtain ⟨hbad, hgood⟩ := hright hky
              have cw := unjWithin_ok Y d B hsb (by omega) y'.n x' (by omega)
              have cb := unjBind_ok Y d B y'.n x' (ey hky) (by omega)
              generalize Tm.withB B y'.n x' = wb at cw hbad hgood
              refine R_if rfl rfl (fun _ => ?_) (fun h => absurd h (by simp [hky])) <;> refine R_run hg.ok 1000 rfl rfl ?_
              refine R_load4 hg.ok (by show φ.length ≤ 7; omega) rfl rfl rfl rfl rfl rfl rfl ?_
              refine R_run hg.ok 1000 rfl rfl ?_
              refine R_callSO hg.ok hg.gup hg.wide hg.Y [0, 1, 2] (urObd d a b B (s + 1) R met ++ [boxR x', boxR y', .box [iV x.n, iV y.n]]) cw (fun _ => rfl) rfl rfl rfl rfl rfl (by rw [uobd_ren]; rfl) rfl (by rw [uobd_ren]; rfl) ?_
              refine R_run hg.ok 1000 rfl rfl ?_
              cases wb with
              | true =>
                refine R_if rfl rfl (fun _ => ?_) (fun h => absurd h (by simp)) <;> refine R_run hg.ok 1000 rfl rfl ?_
                obtain ⟨e1, e2⟩ := hbad rfl
                rw [e1, e2]
                exact R_retS hg 3 5 (Nat.le_refl _) rfl rfl (keep B _)
              | false =>
              have hN := hgood rfl
              refine R_if rfl rfl (fun h => absurd h (by simp)) (fun _ => ?_) <;> refine R_run hg.ok 1000 rfl rfl ?_
              refine R_load4 hg.ok (by show φ.length ≤ 7; omega) rfl rfl rfl rfl rfl rfl rfl ?_
              refine R_run hg.ok 1000 rfl rfl ?_
              refine R_callSO hg.ok hg.gup hg.wide hg.Y [0, 1, 2] (urObd d a b (B ++ [(y'.n, x')]) (s + 1) R met ++ [boxR x', boxR y', .box [iV x.n, iV y.n]]) cb (fun _ => rfl) rfl rfl rfl rfl rfl (by rw [uobd_ren]; rfl) rfl (by rw [uobd_ren]; rfl) ?_
              refine R_run hg.ok 1000 rfl rfl ?_
              refine R_dropO 7 (urObd d a b (B ++ [(y'.n, x')]) (s + 1) R met) (by show φ.length ≤ _; omega) rfl ?_ ?_
              · exact urObd_trim d a b (B ++ [(y'.n, x')]) (s + 1) R met _
              exact R_next (n, R, B ++ [(y'.n, x')], met, s + 1) hN (by simp only; omega) ⟨.refl _, .refl _, .refl _, trivial⟩ rfl
            · obtain ⟨hbad, hgood⟩ := hdeep hky
              refine R_if rfl rfl (fun h => absurd h (by simp [hky])) (fun _ => ?_) <;> refine R_run hg.ok 1000 rfl rfl ?_
              refine R_if rfl rfl (fun c1 => ?_) (fun c1 => ?_) <;> refine R_run hg.ok 1000 rfl rfl ?_
              · have c1 : ¬ x'.k = y'.k := by simpa using c1
                obtain ⟨e1, e2⟩ := hbad (by simp [Tm.clashB, c1])
                rw [e1, e2]
                exact R_retS hg 3 5 (Nat.le_refl _) rfl rfl (keep B _)
              have c1 : x'.k = y'.k := by simpa using c1
              refine R_if rfl rfl (fun c2 => ?_) (fun c2 => ?_) <;> refine R_run hg.ok 1000 rfl rfl ?_
              · have c2 : ¬ x'.n = y'.n := by simpa using c2
                obtain ⟨e1, e2⟩ := hbad (by simp [Tm.clashB, c2])
                rw [e1, e2]
                exact R_retS hg 3 5 (Nat.le_refl _) rfl rfl (keep B _)
              have c2 : x'.n = y'.n := by simpa using c2
              refine R_if rfl rfl (fun c3 => ?_) (fun c3 => ?_) <;> refine R_run hg.ok 1000 rfl rfl ?_
              · have c3 : strEq x'.s y'.s = false := by simpa using c3
                obtain ⟨e1, e2⟩ := hbad (by simp [Tm.clashB, c3])
                rw [e1, e2]
                exact R_retS hg 3 5 (Nat.le_refl _) rfl rfl (keep B _)
              have c3 : strEq x'.s y'.s = true := by simpa using c3
              refine R_if rfl rfl (fun c4 => ?_) (fun c4 => ?_) <;> refine R_run hg.ok 1000 rfl rfl ?_
              · have c4 : ¬ x'.l.length = y'.l.length := by simp [Tm.rows_length] at c4; omega
                obtain ⟨e1, e2⟩ := hbad (by simp [Tm.clashB, c4])
                rw [e1, e2]
                exact R_retS hg 3 5 (Nat.le_refl _) rfl rfl (keep B _)
              have g4 : x'.l.length = y'.l.length := by simp [Tm.rows_length] at c4; omega
              have hN := hgood (by simp [Tm.clashB, c1, c2, c3, g4])
              have hN2 := hlenU hN
              have hzl : (x'.l.zip y'.l).length = x'.l.length := by rw [List.length_zip]; omega
              have hRz : (R ++ x'.l.zip y'.l).length = R.length + x'.l.length := by rw [List.length_append, hzl]
              refine R_loop (fun k : Nat => ([(0, .lo 0 0), (7, .ow 5 (s + 1 + k)), (8, .mp 6), (10, .lo 8 0), (66, .d (.sl (Tm.rows x'.l))), (67, iV x'.l.length), (68, iV k)], urObd d a b B (s + 1 + k) (R ++ (x'.l.zip y'.l).take k) met ++ [boxR x', boxR y', .box [iV x.n, iV y.n]])) (fun k => k ≤ x'.l.length) (fun k => x'.l.length - k) 0 (Nat.zero_le _) ⟨.refl _, .refl _, .refl _, .refl _, .refl _, Ent.int (by rw [Tm.rows_length]), .refl _, trivial⟩ (by simp only [List.take_zero, List.append_nil]; rfl) ?_
              rintro k hk
              refine R_run hg.ok 1000 rfl rfl ?_
              refine R_if rfl rfl (fun h => ?_) (fun h => ?_) <;> refine R_run hg.ok 1000 rfl rfl ?_
              · have hk1 : k < x'.l.length := lt_dec h rfl
                have e1 : x'.l[k]? = some x'.l[k] := List.getElem?_eq_getElem hk1
                have e2 : y'.l[k]? = some (y'.l[k]'(by omega)) := List.getElem?_eq_getElem (by omega)
                have e3 : (x'.l.zip y'.l)[k]? = some (x'.l[k], y'.l[k]'(by omega)) := by rw [List.getElem?_zip_eq_some]; exact ⟨e1, e2⟩
                generalize x'.l[k] = xk at e1 e3
                generalize (y'.l[k]'(by omega)) = yk at e2 e3
                have hz1 : R ++ (x'.l.zip y'.l).take (k + 1) = (R ++ (x'.l.zip y'.l).take k) ++ [(xk, yk)] := by rw [List.take_add_one, e3, List.append_assoc]; rfl
                have hz2 : (R ++ (x'.l.zip y'.l).take k).length = R.length + k := by rw [List.length_append, List.length_take]; omega
                refine R_index hg.ok rfl rfl rfl rfl rfl rfl (Int.natCast_nonneg _) (Tm.rows_get e1) rfl ?_
                refine R_run hg.ok 1000 rfl rfl ?_
                refine R_index hg.ok rfl rfl rfl rfl rfl rfl (Int.natCast_nonneg _) (Tm.rows_get e2) rfl ?_
                refine R_run hg.ok 1000 rfl rfl ?_
                refine R_buildA hg.ok _ rfl rfl rfl rfl rfl rfl rfl rfl ?_
                refine R_run hg.ok 1000 rfl rfl ?_
                refine R_buildF hg.ok (.fs [[.v (.int .i64 xk.k), .v (.string xk.s), .v (.int .i64 xk.n), .sl (Tm.rows xk.l), .v (.int .i64 yk.k), .v (.string yk.s), .v (.int .i64 yk.n), .sl (Tm.rows yk.l)]]) rfl rfl (buildS_one rfl rfl rfl rfl (by decide)) ?_
                refine R_run hg.ok 1000 rfl rfl ?_
                refine R_appendO hg.ok (prsRows (R ++ (x'.l.zip y'.l).take (k + 1))) rfl rfl rfl rfl rfl rfl rfl rfl rfl (by simp) (by simp [one1]) (by rw [hz1]; exact prs_snoc2 _ xk yk) (by rw [prsRows_len, hz2]; simp; omega) (by rw [prsRows_len, hz2]; simp; omega) ?_
                refine R_run hg.ok 1000 rfl rfl ?_
                refine R_dropO 10 (urObd d a b B (s + 1 + (k + 1)) (R ++ (x'.l.zip y'.l).take (k + 1)) met ++ [boxR x', boxR y', .box [iV x.n, iV y.n]]) (by show φ.length ≤ _; omega) rfl ?_ ?_
                · exact urObd_trim3 d a b B (s + 1 + (k + 1)) (R ++ (x'.l.zip y'.l).take (k + 1)) met _ _ x.n y.n _
                exact R_next (k + 1) hk1 (by omega) ⟨.refl _, .refl _, .refl _, .refl _, .refl _, .refl _, Ent.wrap (by omega) (by omega) (by omega), trivial⟩ rfl
              · have hk1 : x'.l.length ≤ k := ge_dec h rfl
                rw [List.take_of_length_le (by omega : (x'.l.zip y'.l).length ≤ k)]
                refine R_dropO 7 (urObd d a b B (s + 1 + k) (R ++ x'.l.zip y'.l) met) (by show φ.length ≤ _; omega) rfl ?_ ?_
                · exact urObd_trim d a b B (s + 1 + k) (R ++ x'.l.zip y'.l) met _
                exact R_next (n, R ++ x'.l.zip y'.l, B, met, s + 1 + k) hN (by simp only; omega) ⟨.refl _, .refl _, .refl _, trivial⟩ rfl
        · refine R_if rfl rfl (fun h => absurd h (by simp [hx1])) (fun _ => ?_) <;> refine R_run hg.ok 1000 rfl rfl ?_
          obtain ⟨ex, ey, zx, zy, hsame, hrest⟩ := hstep
          have cx := unjWalk_ok Y d B hU.ug.chain x
          have cy := unjWalk_ok Y d B hU.ug.chain y
          have hsb : ∀ c ∈ B, c.2.size < 400000000 := fun c hc => by have := hU.ug.sb c hc; omega
          generalize Tm.walkB B x = x' at *
          generalize Tm.walkB B y = y' at *
          refine R_load4 hg.ok (by show φ.length ≤ 7; omega) rfl rfl rfl rfl rfl rfl rfl ?_
          refine R_run hg.ok 1000 rfl rfl ?_
          refine R_callS3 hg.ok hg.gup hg.wide hg.Y [0, 1, 2] (urObd d a b B (s + 1) R met ++ [boxR x, boxR y, .box [iV x.n, iV y.n]]) cx (fun _ => rfl) (fun i hi => by show i < φ.length; simp at hi; omega) rfl rfl rfl rfl rfl (by rw [uobd_ren]; rfl) rfl (by rw [uobd_ren]; rfl) ?_
          refine R_run hg.ok 1000 rfl rfl ?_
          refine R_load4 hg.ok (by show φ.length ≤ 8; omega) rfl rfl rfl rfl rfl rfl rfl ?_
          refine R_run hg.ok 1000 rfl rfl ?_
          refine R_callS3 hg.ok hg.gup hg.wide hg.Y [0, 1, 2] (urObd d a b B (s + 1) R met ++ [boxR x, boxR y, .box [iV x.n, iV y.n]]) cy (fun _ => rfl) (fun i hi => by show i < φ.length; simp at hi; omega) rfl rfl rfl rfl rfl (by rw [uobd_ren]; rfl) rfl (by rw [uobd_ren]; rfl) ?_
          refine R_run hg.ok 1000 rfl rfl ?_
          refine R_storeB hg.ok rfl rfl rfl rfl rfl rfl rfl rfl rfl ?_
          refine R_run hg.ok 1000 rfl rfl ?_
          refine R_storeB hg.ok rfl rfl rfl rfl rfl rfl rfl rfl rfl ?_
          refine R_run hg.ok 1000 rfl rfl ?_
          by_cases hc : x'.k = 1 ∧ y'.k = 1 ∧ x'.n = y'.n
          · refine R_if rfl rfl (fun _ => ?_) (fun h => absurd h (by simp [hc.1])) <;> refine R_run hg.ok 1000 rfl rfl ?_
            refine R_if rfl rfl (fun _ => ?_) (fun h => absurd h (by simp [hc.2.1])) <;> refine R_run hg.ok 1000 rfl rfl ?_
            refine R_if rfl rfl (fun _ => ?_) (fun h => absurd h (by simp [hc.2.2])) <;> refine R_run hg.ok 1000 rfl rfl ?_
            refine R_dropO 7 (urObd d a b B (s + 1) R met) (by show φ.length ≤ _; omega) rfl ?_ ?_
            · exact urObd_trim d a b B (s + 1) R met _
            exact R_next (n, R, B, met, s + 1) (hsame hc) (by simp only; omega) ⟨.refl _, .refl _, .refl _, trivial⟩ rfl
          obtain ⟨hleft, hnot⟩ := hrest hc
          by_cases hkx : x'.k = 1
          · obtain ⟨hbad, hgood⟩ := hleft hkx
            have cw := unjWithin_ok Y d B hsb (by omega) x'.n y' (by omega)
            have cb := unjBind_ok Y d B x'.n y' (ex hkx) (by omega)
            generalize Tm.withB B x'.n y' = wb at cw hbad hgood
            by_cases hky : y'.k = 1
            · refine R_if rfl rfl (fun _ => ?_) (fun h => absurd h (by simp [hkx])) <;> refine R_run hg.ok 1000 rfl rfl ?_
              refine R_if rfl rfl (fun _ => ?_) (fun h => absurd h (by simp [hky])) <;> refine R_run hg.ok 1000 rfl rfl ?_
              refine R_if rfl rfl (fun h => absurd h (by have : ¬ x'.n = y'.n := fun e => hc ⟨hkx, hky, e⟩; simp [this])) (fun _ => ?_) <;> refine R_run hg.ok 1000 rfl rfl ?_
              refine R_if rfl rfl (fun _ => ?_) (fun h => absurd h (by simp [hkx])) <;> refine R_run hg.ok 1000 rfl rfl ?_
              refine R_load4 hg.ok (by show φ.length ≤ 8; omega) rfl rfl rfl rfl rfl rfl rfl ?_
              refine R_run hg.ok 1000 rfl rfl ?_
              refine R_callSO hg.ok hg.gup hg.wide hg.Y [0, 1, 2] (urObd d a b B (s + 1) R met ++ [boxR x', boxR y', .box [iV x.n, iV y.n]]) cw (fun _ => rfl) rfl rfl rfl rfl rfl (by rw [uobd_ren]; rfl) rfl (by rw [uobd_ren]; rfl) ?_
              refine R_run hg.ok 1000 rfl rfl ?_
              cases wb with
              | true =>
                refine R_if rfl rfl (fun _ => ?_) (fun h => absurd h (by simp)) <;> refine R_run hg.ok 1000 rfl rfl ?_
                obtain ⟨e1, e2⟩ := hbad rfl
                rw [e1, e2]
                exact R_retS hg 3 5 (Nat.le_refl _) rfl rfl (keep B _)
              | false =>
              have hN := hgood rfl
              refine R_if rfl rfl (fun h => absurd h (by simp)) (fun _ => ?_) <;> refine R_run hg.ok 1000 rfl rfl ?_
              refine R_load4 hg.ok (by show φ.length ≤ 8; omega) rfl rfl rfl rfl rfl rfl rfl ?_
              refine R_run hg.ok 1000 rfl rfl ?_
              refine R_callSO hg.ok hg.gup hg.wide hg.Y [0, 1, 2] (urObd d a b (B ++ [(x'.n, y')]) (s + 1) R met ++ [boxR x', boxR y', .box [iV x.n, iV y.n]]) cb (fun _ => rfl) rfl rfl rfl rfl rfl (by rw [uobd_ren]; rfl) rfl (by rw [uobd_ren]; rfl) ?_
              refine R_run hg.ok 1000 rfl rfl ?_
              refine R_dropO 7 (urObd d a b (B ++ [(x'.n, y')]) (s + 1) R met) (by show φ.length ≤ _; omega) rfl ?_ ?_
              · exact urObd_trim d a b (B ++ [(x'.n, y')]) (s + 1) R met _
              exact R_next (n, R, B ++ [(x'.n, y')], met, s + 1) hN (by simp only; omega) ⟨.refl _, .refl _, .refl _, trivial⟩ rfl
            · refine R_if rfl rfl (fun _ => ?_) (fun h => absurd h (by simp [hkx])) <;> refine R_run hg.ok 1000 rfl rfl ?_
              refine R_if rfl rfl (fun h => absurd h (by simp [hky])) (fun _ => ?_) <;> refine R_run hg.ok 1000 rfl rfl ?_
              refine R_if rfl rfl (fun _ => ?_) (fun h => absurd h (by simp [hkx])) <;> refine R_run hg.ok 1000 rfl rfl ?_
              refine R_load4 hg.ok (by show φ.length ≤ 8; omega) rfl rfl rfl rfl rfl rfl rfl ?_
              refine R_run hg.ok 1000 rfl rfl ?_
              refine R_callSO hg.ok hg.gup hg.wide hg.Y [0, 1, 2] (urObd d a b B (s + 1) R met ++ [boxR x', boxR y', .box [iV x.n, iV y.n]]) cw (fun _ => rfl) rfl rfl rfl rfl rfl (by rw [uobd_ren]; rfl) rfl (by rw [uobd_ren]; rfl) ?_
              refine R_run hg.ok 1000 rfl rfl ?_
              cases wb with
              | true =>
                refine R_if rfl rfl (fun _ => ?_) (fun h => absurd h (by simp)) <;> refine R_run hg.ok 1000 rfl rfl ?_
                obtain ⟨e1, e2⟩ := hbad rfl
                rw [e1, e2]
                exact R_retS hg 3 5 (Nat.le_refl _) rfl rfl (keep B _)
              | false =>
              have hN := hgood rfl
              refine R_if rfl rfl (fun h => absurd h (by simp)) (fun _ => ?_) <;> refine R_run hg.ok 1000 rfl rfl ?_
              refine R_load4 hg.ok (by show φ.length ≤ 8; omega) rfl rfl rfl rfl rfl rfl rfl ?_
              refine R_run hg.ok 1000 rfl rfl ?_
              refine R_callSO hg.ok hg.gup hg.wide hg.Y [0, 1, 2] (urObd d a b (B ++ [(x'.n, y')]) (s + 1) R met ++ [boxR x', boxR y', .box [iV x.n, iV y.n]]) cb (fun _ => rfl) rfl rfl rfl rfl rfl (by rw [uobd_ren]; rfl) rfl (by rw [uobd_ren]; rfl) ?_
              refine R_run hg.ok 1000 rfl rfl ?_
              refine R_dropO 7 (urObd d a b (B ++ [(x'.n, y')]) (s + 1) R met) (by show φ.length ≤ _; omega) rfl ?_ ?_
              · exact urObd_trim d a b (B ++ [(x'.n, y')]) (s + 1) R met _
              exact R_next (n, R, B ++ [(x'.n, y')], met, s + 1) hN (by simp only; omega) ⟨.refl _, .refl _, .refl _, trivial⟩ rfl
          · refine R_if rfl rfl (fun h => absurd h (by simp [hkx])) (fun _ => ?_) <;> refine R_run hg.ok 1000 rfl rfl ?_
            refine R_if rfl rfl (fun h => absurd h (by simp [hkx])) (fun _ => ?_) <;> refine R_run hg.ok 1000 rfl rfl ?_
            obtain ⟨hright, hdeep⟩ := hnot hkx
            by_cases hky : y'.k = 1
            · obtain ⟨hbad, hgood⟩ := hright hky
              have cw := unjWithin_ok Y d B hsb (by omega) y'.n x' (by omega)
              have cb := unjBind_ok Y d B y'.n x' (ey hky) (by omega)
              generalize Tm.withB B y'.n x' = wb at cw hbad hgood
              refine R_if rfl rfl (fun _ => ?_) (fun h => absurd h (by simp [hky])) <;> refine R_run hg.ok 1000 rfl rfl ?_
              refine R_load4 hg.ok (by show φ.length ≤ 7; omega) rfl rfl rfl rfl rfl rfl rfl ?_
              refine R_run hg.ok 1000 rfl rfl ?_
              refine R_callSO hg.ok hg.gup hg.wide hg.Y [0, 1, 2] (urObd d a b B (s + 1) R met ++ [boxR x', boxR y', .box [iV x.n, iV y.n]]) cw (fun _ => rfl) rfl rfl rfl rfl rfl (by rw [uobd_ren]; rfl) rfl (by rw [uobd_ren]; rfl) ?_
              refine R_run hg.ok 1000 rfl rfl ?_
              cases wb with
              | true =>
                refine R_if rfl rfl (fun _ => ?_) (fun h => absurd h (by simp)) <;> refine R_run hg.ok 1000 rfl rfl ?_
                obtain ⟨e1, e2⟩ := hbad rfl
                rw [e1, e2]
                exact R_retS hg 3 5 (Nat.le_refl _) rfl rfl (keep B _)
              | false =>
              have hN := hgood rfl
              refine R_if rfl rfl (fun h => absurd h (by simp)) (fun _ => ?_) <;> refine R_run hg.ok 1000 rfl rfl ?_
              refine R_load4 hg.ok (by show φ.length ≤ 7; omega) rfl rfl rfl rfl rfl rfl rfl ?_
              refine R_run hg.ok 1000 rfl rfl ?_
              refine R_callSO hg.ok hg.gup hg.wide hg.Y [0, 1, 2] (urObd d a b (B ++ [(y'.n, x')]) (s + 1) R met ++ [boxR x', boxR y', .box [iV x.n, iV y.n]]) cb (fun _ => rfl) rfl rfl rfl rfl rfl (by rw [uobd_ren]; rfl) rfl (by rw [uobd_ren]; rfl) ?_
              refine R_run hg.ok 1000 rfl rfl ?_
              refine R_dropO 7 (urObd d a b (B ++ [(y'.n, x')]) (s + 1) R met) (by show φ.length ≤ _; omega) rfl ?_ ?_
              · exact urObd_trim d a b (B ++ [(y'.n, x')]) (s + 1) R met _
              exact R_next (n, R, B ++ [(y'.n, x')], met, s + 1) hN (by simp only; omega) ⟨.refl _, .refl _, .refl _, trivial⟩ rfl
            · obtain ⟨hbad, hgood⟩ := hdeep hky
              refine R_if rfl rfl (fun h => absurd h (by simp [hky])) (fun _ => ?_) <;> refine R_run hg.ok 1000 rfl rfl ?_
              refine R_if rfl rfl (fun c1 => ?_) (fun c1 => ?_) <;> refine R_run hg.ok 1000 rfl rfl ?_
              · have c1 : ¬ x'.k = y'.k := by simpa using c1
                obtain ⟨e1, e2⟩ := hbad (by simp [Tm.clashB, c1])
                rw [e1, e2]
                exact R_retS hg 3 5 (Nat.le_refl _) rfl rfl (keep B _)
              have c1 : x'.k = y'.k := by simpa using c1
              refine R_if rfl rfl (fun c2 => ?_) (fun c2 => ?_) <;> refine R_run hg.ok 1000 rfl rfl ?_
              · have c2 : ¬ x'.n = y'.n := by simpa using c2
                obtain ⟨e1, e2⟩ := hbad (by simp [Tm.clashB, c2])
                rw [e1, e2]
                exact R_retS hg 3 5 (Nat.le_refl _) rfl rfl (keep B _)
              have c2 : x'.n = y'.n := by simpa using c2
              refine R_if rfl rfl (fun c3 => ?_) (fun c3 => ?_) <;> refine R_run hg.ok 1000 rfl rfl ?_
              · have c3 : strEq x'.s y'.s = false := by simpa using c3
                obtain ⟨e1, e2⟩ := hbad (by simp [Tm.clashB, c3])
                rw [e1, e2]
                exact R_retS hg 3 5 (Nat.le_refl _) rfl rfl (keep B _)
              have c3 : strEq x'.s y'.s = true := by simpa using c3
              refine R_if rfl rfl (fun c4 => ?_) (fun c4 => ?_) <;> refine R_run hg.ok 1000 rfl rfl ?_
              · have c4 : ¬ x'.l.length = y'.l.length := by simp [Tm.rows_length] at c4; omega
                obtain ⟨e1, e2⟩ := hbad (by simp [Tm.clashB, c4])
                rw [e1, e2]
                exact R_retS hg 3 5 (Nat.le_refl _) rfl rfl (keep B _)
              have g4 : x'.l.length = y'.l.length := by simp [Tm.rows_length] at c4; omega
              have hN := hgood (by simp [Tm.clashB, c1, c2, c3, g4])
              have hN2 := hlenU hN
              have hzl : (x'.l.zip y'.l).length = x'.l.length := by rw [List.length_zip]; omega
              have hRz : (R ++ x'.l.zip y'.l).length = R.length + x'.l.length := by rw [List.length_append, hzl]
              refine R_loop (fun k : Nat => ([(0, .lo 0 0), (7, .ow 5 (s + 1 + k)), (8, .mp 6), (10, .lo 8 0), (66, .d (.sl (Tm.rows x'.l))), (67, iV x'.l.length), (68, iV k)], urObd d a b B (s + 1 + k) (R ++ (x'.l.zip y'.l).take k) met ++ [boxR x', boxR y', .box [iV x.n, iV y.n]])) (fun k => k ≤ x'.l.length) (fun k => x'.l.length - k) 0 (Nat.zero_le _) ⟨.refl _, .refl _, .refl _, .refl _, .refl _, Ent.int (by rw [Tm.rows_length]), .refl _, trivial⟩ (by simp only [List.take_zero, List.append_nil]; rfl) ?_
              rintro k hk
              refine R_run hg.ok 1000 rfl rfl ?_
              refine R_if rfl rfl (fun h => ?_) (fun h => ?_) <;> refine R_run hg.ok 1000 rfl rfl ?_
              · have hk1 : k < x'.l.length := lt_dec h rfl
                have e1 : x'.l[k]? = some x'.l[k] := List.getElem?_eq_getElem hk1
                have e2 : y'.l[k]? = some (y'.l[k]'(by omega)) := List.getElem?_eq_getElem (by omega)
                have e3 : (x'.l.zip y'.l)[k]? = some (x'.l[k], y'.l[k]'(by omega)) := by rw [List.getElem?_zip_eq_some]; exact ⟨e1, e2⟩
                generalize x'.l[k] = xk at e1 e3
                generalize (y'.l[k]'(by omega)) = yk at e2 e3
                have hz1 : R ++ (x'.l.zip y'.l).take (k + 1) = (R ++ (x'.l.zip y'.l).take k) ++ [(xk, yk)] := by rw [List.take_add_one, e3, List.append_assoc]; rfl
                have hz2 : (R ++ (x'.l.zip y'.l).take k).length = R.length + k := by rw [List.length_append, List.length_take]; omega
                refine R_index hg.ok rfl rfl rfl rfl rfl rfl (Int.natCast_nonneg _) (Tm.rows_get e1) rfl ?_
                refine R_run hg.ok 1000 rfl rfl ?_
                refine R_index hg.ok rfl rfl rfl rfl rfl rfl (Int.natCast_nonneg _) (Tm.rows_get e2) rfl ?_
                refine R_run hg.ok 1000 rfl rfl ?_
                refine R_buildA hg.ok _ rfl rfl rfl rfl rfl rfl rfl rfl ?_
                refine R_run hg.ok 1000 rfl rfl ?_
                refine R_buildF hg.ok (.fs [[.v (.int .i64 xk.k), .v (.string xk.s), .v (.int .i64 xk.n), .sl (Tm.rows xk.l), .v (.int .i64 yk.k), .v (.string yk.s), .v (.int .i64 yk.n), .sl (Tm.rows yk.l)]]) rfl rfl (buildS_one rfl rfl rfl rfl (by decide)) ?_
                refine R_run hg.ok 1000 rfl rfl ?_
                refine R_appendO hg.ok (prsRows (R ++ (x'.l.zip y'.l).take (k + 1))) rfl rfl rfl rfl rfl rfl rfl rfl rfl (by simp) (by simp [one1]) (by rw [hz1]; exact prs_snoc2 _ xk yk) (by rw [prsRows_len, hz2]; simp; omega) (by rw [prsRows_len, hz2]; simp; omega) ?_
                refine R_run hg.ok 1000 rfl rfl ?_
                refine R_dropO 10 (urObd d a b B (s + 1 + (k + 1)) (R ++ (x'.l.zip y'.l).take (k + 1)) met ++ [boxR x', boxR y', .box [iV x.n, iV y.n]]) (by show φ.length ≤ _; omega) rfl ?_ ?_
                · exact urObd_trim3 d a b B (s + 1 + (k + 1)) (R ++ (x'.l.zip y'.l).take (k + 1)) met _ _ x.n y.n _
                exact R_next (k + 1) hk1 (by omega) ⟨.refl _, .refl _, .refl _, .refl _, .refl _, .refl _, Ent.wrap (by omega) (by omega) (by omega), trivial⟩ rfl
              · have hk1 : x'.l.length ≤ k := ge_dec h rfl
                rw [List.take_of_length_le (by omega : (x'.l.zip y'.l).length ≤ k)]
                refine R_dropO 7 (urObd d a b B (s + 1 + k) (R ++ x'.l.zip y'.l) met) (by show φ.length ≤ _; omega) rfl ?_ ?_
                · exact urObd_trim d a b B (s + 1 + k) (R ++ x'.l.zip y'.l) met _
                exact R_next (n, R ++ x'.l.zip y'.l, B, met, s + 1 + k) hN (by simp only; omega) ⟨.refl _, .refl _, .refl _, trivial⟩ rfl
  · refine R_run hg.ok 1000 rfl rfl ?_
    refine R_lenJ hg.ok 10000 (by simp [mayO, Ob.lvl, Ob.isBox]) rfl rfl rfl rfl rfl rfl (n := ((R ++ [(x, y)]).length : Int)) (by rw [prsRows_len]) ?_
    refine R_run hg.ok 1000 rfl rfl ?_
    rw [w64 (n := ((R ++ [(x, y)]).length : Int) - 1) (by omega) (by omega), show ((R ++ [(x, y)]).length : Int) - 1 = ((R.length : Nat) : Int) by omega]
    refine R_indexOJ hg.ok 10000 rfl rfl rfl (by simp [mayO, Ob.lvl, Ob.isBox]) rfl rfl rfl rfl rfl rfl (Int.natCast_nonneg _) (by rw [prsRows_len]; simp) ?_
    refine R_run hg.ok 1000 rfl rfl ?_
    refine R_indexEA hg.ok 0 rfl rfl rfl rfl rfl rfl (by decide) (by decide) rfl ?_
    refine R_run hg.ok 1000 rfl rfl ?_
    refine R_loadEJ hg.ok 10000 rfl rfl rfl (by simp [mayO, Ob.lvl, Ob.isBox]) rfl rfl rfl hget rfl ?_
    refine R_run hg.ok 1000 rfl rfl ?_
    refine R_lenJ hg.ok 10000 (by simp [mayO, Ob.lvl, Ob.isBox]) rfl rfl rfl rfl rfl rfl (n := ((R ++ [(x, y)]).length : Int)) (by rw [prsRows_len]) ?_
    refine R_run hg.ok 1000 rfl rfl ?_
    rw [w64 (n := ((R ++ [(x, y)]).length : Int) - 1) (by omega) (by omega), show ((R ++ [(x, y)]).length : Int) - 1 = ((R.length : Nat) : Int) by omega]
    refine R_indexOJ hg.ok 10000 rfl rfl rfl (by simp [mayO, Ob.lvl, Ob.isBox]) rfl rfl rfl rfl rfl rfl (Int.natCast_nonneg _) (by rw [prsRows_len]; simp) ?_
    refine R_run hg.ok 1000 rfl rfl ?_
    refine R_indexEA hg.ok 4 rfl rfl rfl rfl rfl rfl (by decide) (by decide) rfl ?_
    refine R_run hg.ok 1000 rfl rfl ?_
    refine R_loadEJ hg.ok 10000 rfl rfl rfl (by simp [mayO, Ob.lvl, Ob.isBox]) rfl rfl rfl hget rfl ?_
    refine R_run hg.ok 1000 rfl rfl ?_
    refine R_storeB hg.ok rfl rfl rfl rfl rfl rfl rfl rfl rfl ?_
    refine R_run hg.ok 1000 rfl rfl ?_
    refine R_storeB hg.ok rfl rfl rfl rfl rfl rfl rfl rfl rfl ?_
    refine R_run hg.ok 1000 rfl rfl ?_
    refine R_lenO hg.ok rfl rfl rfl rfl rfl (n := ((R ++ [(x, y)]).length : Int)) (by rw [prsRows_len]) ?_
    refine R_run hg.ok 1000 rfl rfl ?_
    rw [w64 (n := ((R ++ [(x, y)]).length : Int) - 1) (by omega) (by omega), show ((R ++ [(x, y)]).length : Int) - 1 = ((R.length : Nat) : Int) by omega]
    refine R_shrinkO hg.ok (prsRows R) rfl rfl rfl rfl rfl rfl rfl rfl rfl rfl (Int.natCast_nonneg _) (by rw [prsRows_len]; simp; omega) (by simp [prsRows]) ?_
    refine R_run hg.ok 1000 rfl rfl ?_
    refine R_buildA hg.ok _ rfl rfl rfl rfl rfl rfl rfl rfl ?_
    refine R_run hg.ok 1000 rfl rfl ?_
    cases hs : Tm.skipU x y met with
    | true =>
      have hs' := hs
      simp only [Tm.skipU, Bool.and_eq_true, decide_eq_true_eq] at hs'
      refine R_if rfl rfl (fun _ => ?_) (fun h => absurd h (by simp [hs'.1.1])) <;> refine R_run hg.ok 1000 rfl rfl ?_
      refine R_if rfl rfl (fun _ => ?_) (fun h => absurd h (by simp [hs'.1.2])) <;> refine R_run hg.ok 1000 rfl rfl ?_
      refine R_lookupP hg.ok (metP met) uniKey rfl rfl rfl rfl rfl rfl (zv := .bool false) (by kernel_rfl) (v := .tt) (by rw [metP_get, if_pos hs'.2]; rfl) ?_
      refine R_run hg.ok 1000 rfl rfl ?_
      refine R_dropO 7 (urObd d a b B (s + 1) R met) (by show φ.length ≤ _; omega) rfl ?_ ?_
      · exact urObd_trim d a b B (s + 1) R met _
      exact R_next (n, R, B, met, s + 1) (hU.skip hs) (by simp only; omega) ⟨.refl _, .refl _, .refl _, trivial⟩ rfl
    | false =>
      have hstep := hU.step hs
      by_cases hb2 : x.k = 1 ∧ y.k = 1
      · refine R_if rfl rfl (fun _ => ?_) (fun h => absurd h (by simp [hb2.1])) <;> refine R_run hg.ok 1000 rfl rfl ?_
        refine R_if rfl rfl (fun _ => ?_) (fun h => absurd h (by simp [hb2.2])) <;> refine R_run hg.ok 1000 rfl rfl ?_
        have hmc : met.contains (x.n, y.n) = false := by
          have := hs; simp only [Tm.skipU, hb2.1, hb2.2, decide_true, Bool.true_and] at this; exact this
        have hmU : metP met ++ [((x.n, y.n), AV.tt)] = metP (Tm.metU x y met) := by simp [Tm.metU, hb2.1, hb2.2, metP]
        refine R_lookupP hg.ok (metP met) uniKey rfl rfl rfl rfl rfl rfl (zv := .bool false) (by kernel_rfl) (v := .ff) (by rw [metP_get, hmc]; rfl) ?_
        refine R_run hg.ok 1000 rfl rfl ?_
        refine R_mapAddPO hg.ok (metP met) (metP (Tm.metU x y met)) uniKey rfl rfl rfl rfl rfl rfl (by rw [metP_get, hmc]; rfl) rfl hmU ?_
        refine R_run hg.ok 1000 rfl rfl ?_
        generalize Tm.metU x y met = met' at hstep ⊢
        obtain ⟨ex, ey, zx, zy, hsame, hrest⟩ := hstep
        have cx := unjWalk_ok Y d B hU.ug.chain x
        have cy := unjWalk_ok Y d B hU.ug.chain y
        have hsb : ∀ c ∈ B, c.2.size < 400000000 := fun c hc => by have := hU.ug.sb c hc; omega
        generalize Tm.walkB B x = x' at *
        generalize Tm.walkB B y = y' at *
        refine R_load4 hg.ok (by show φ.length ≤ 8; omega) rfl rfl rfl rfl rfl rfl rfl ?_
        refine R_run hg.ok 1000 rfl rfl ?_
        refine R_callS3 hg.ok hg.gup hg.wide hg.Y [0, 1, 2] (urObd d a b B (s + 1) R met' ++ [boxR y, boxR x, .box [iV x.n, iV y.n]]) cx (fun _ => rfl) (fun i hi => by show i < φ.length; simp at hi; omega) rfl rfl rfl rfl rfl (by rw [uobd_ren]; rfl) rfl (by rw [uobd_ren]; rfl) ?_
        refine R_run hg.ok 1000 rfl rfl ?_
        refine R_load4 hg.ok (by show φ.length ≤ 7; omega) rfl rfl rfl rfl rfl rfl rfl ?_
        refine R_run hg.ok 1000 rfl rfl ?_
        refine R_callS3 hg.ok hg.gup hg.wide hg.Y [0, 1, 2] (urObd d a b B (s + 1) R met' ++ [boxR y, boxR x, .box [iV x.n, iV y.n]]) cy (fun _ => rfl) (fun i hi => by show i < φ.length; simp at hi; omega) rfl rfl rfl rfl rfl (by rw [uobd_ren]; rfl) rfl (by rw [uobd_ren]; rfl) ?_
        refine R_run hg.ok 1000 rfl rfl ?_
        refine R_storeB hg.ok rfl rfl rfl rfl rfl rfl rfl rfl rfl ?_
        refine R_run hg.ok 1000 rfl rfl ?_
        refine R_storeB hg.ok rfl rfl rfl rfl rfl rfl rfl rfl rfl ?_
        refine R_run hg.ok 1000 rfl rfl ?_
        by_cases hc : x'.k = 1 ∧ y'.k = 1 ∧ x'.n = y'.n
        · refine R_if rfl rfl (fun _ => ?_) (fun h => absurd h (by simp [hc.1])) <;> refine R_run hg.ok 1000 rfl rfl ?_
          refine R_if rfl rfl (fun _ => ?_) (fun h => absurd h (by simp [hc.2.1])) <;> refine R_run hg.ok 1000 rfl rfl ?_
          refine R_if rfl rfl (fun _ => ?_) (fun h => absurd h (by simp [hc.2.2])) <;> refine R_run hg.ok 1000 rfl rfl ?_
          refine R_dropO 7 (urObd d a b B (s + 1) R met') (by show φ.length ≤ _; omega) rfl ?_ ?_
          · exact urObd_trim d a b B (s + 1) R met' _
          exact R_next (n, R, B, met', s + 1) (hsame hc) (by simp only; omega) ⟨.refl _, .refl _, .refl _, trivial⟩ rfl
        obtain ⟨hleft, hnot⟩ := hrest hc
        by_cases hkx : x'.k = 1
        · obtain ⟨hbad, hgood⟩ := hleft hkx
          have cw := unjWithin_ok Y d B hsb (by omega) x'.n y' (by omega)
          have cb := unjBind_ok Y d B x'.n y' (ex hkx) (by omega)
          generalize Tm.withB B x'.n y' = wb at cw hbad hgood
          by_cases hky : y'.k = 1
          · refine R_if rfl rfl (fun _ => ?_) (fun h => absurd h (by simp [hkx])) <;> refine R_run hg.ok 1000 rfl rfl ?_
            refine R_if rfl rfl (fun _ => ?_) (fun h => absurd h (by simp [hky])) <;> refine R_run hg.ok 1000 rfl rfl ?_
            refine R_if rfl rfl (fun h => absurd h (by have : ¬ x'.n = y'.n := fun e => hc ⟨hkx, hky, e⟩; simp [this])) (fun _ => ?_) <;> refine R_run hg.ok 1000 rfl rfl ?_
            refine R_if rfl rfl (fun _ => ?_) (fun h => absurd h (by simp [hkx])) <;> refine R_run hg.ok 1000 rfl rfl ?_
            refine R_load4 hg.ok (by show φ.length ≤ 7; omega) rfl rfl rfl rfl rfl rfl rfl ?_
            refine R_run hg.ok 1000 rfl rfl ?_
            refine R_callSO hg.ok hg.gup hg.wide hg.Y [0, 1, 2] (urObd d a b B (s + 1) R met' ++ [boxR y', boxR x', .box [iV x.n, iV y.n]]) cw (fun _ => rfl) rfl rfl rfl rfl rfl (by rw [uobd_ren]; rfl) rfl (by rw [uobd_ren]; rfl) ?_
            refine R_run hg.ok 1000 rfl rfl ?_
            cases wb with
            | true =>
              refine R_if rfl rfl (fun _ => ?_) (fun h => absurd h (by simp)) <;> refine R_run hg.ok 1000 rfl rfl ?_
              obtain ⟨e1, e2⟩ := hbad rfl
              rw [e1, e2]
              exact R_retS hg 3 5 (Nat.le_refl _) rfl rfl (keep B _)
            | false =>
            have hN := hgood rfl
            refine R_if rfl rfl (fun h => absurd h (by simp)) (fun _ => ?_) <;> refine R_run hg.ok 1000 rfl rfl ?_
            refine R_load4 hg.ok (by show φ.length ≤ 7; omega) rfl rfl rfl rfl rfl rfl rfl ?_
            refine R_run hg.ok 1000 rfl rfl ?_
            refine R_callSO hg.ok hg.gup hg.wide hg.Y [0, 1, 2] (urObd d a b (B ++ [(x'.n, y')]) (s + 1) R met' ++ [boxR y', boxR x', .box [iV x.n, iV y.n]]) cb (fun _ => rfl) rfl rfl rfl rfl rfl (by rw [uobd_ren]; rfl) rfl (by rw [uobd_ren]; rfl) ?_
            refine R_run hg.ok 1000 rfl rfl ?_
            refine R_dropO 7 (urObd d a b (B ++ [(x'.n, y')]) (s + 1) R met') (by show φ.length ≤ _; omega) rfl ?_ ?_
            · exact urObd_trim d a b (B ++ [(x'.n, y')]) (s + 1) R met' _
            exact R_next (n, R, B ++ [(x'.n, y')], met', s + 1) hN (by simp only; omega) ⟨.refl _, .refl _, .refl _, trivial⟩ rfl
          · refine R_if rfl rfl (fun _ => ?_) (fun h => absurd h (by simp [hkx])) <;> refine R_run hg.ok 1000 rfl rfl ?_
            refine R_if rfl rfl (fun h => absurd h (by simp [hky])) (fun _ => ?_) <;> refine R_run hg.ok 1000 rfl rfl ?_
            refine R_if rfl rfl (fun _ => ?_) (fun h => absurd h (by simp [hkx])) <;> refine R_run hg.ok 1000 rfl rfl ?_
            refine R_load4 hg.ok (by show φ.length ≤ 7; omega) rfl rfl rfl rfl rfl rfl rfl ?_
            refine R_run hg.ok 1000 rfl rfl ?_
            refine R_callSO hg.ok hg.gup hg.wide hg.Y [0, 1, 2] (urObd d a b B (s + 1) R met' ++ [boxR y', boxR x', .box [iV x.n, iV y.n]]) cw (fun _ => rfl) rfl rfl rfl rfl rfl (by rw [uobd_ren]; rfl) rfl (by rw [uobd_ren]; rfl) ?_
            refine R_run hg.ok 1000 rfl rfl ?_
            cases wb with
            | true =>
              refine R_if rfl rfl (fun _ => ?_) (fun h => absurd h (by simp)) <;> refine R_run hg.ok 1000 rfl rfl ?_
              obtain ⟨e1, e2⟩ := hbad rfl
              rw [e1, e2]
              exact R_retS hg 3 5 (Nat.le_refl _) rfl rfl (keep B _)
            | false =>
            have hN := hgood rfl
            refine R_if rfl rfl (fun h => absurd h (by simp)) (fun _ => ?_) <;> refine R_run hg.ok 1000 rfl rfl ?_
            refine R_load4 hg.ok (by show φ.length ≤ 7; omega) rfl rfl rfl rfl rfl rfl rfl ?_
            refine R_run hg.ok 1000 rfl rfl ?_
            refine R_callSO hg.ok hg.gup hg.wide hg.Y [0, 1, 2] (urObd d a b (B ++ [(x'.n, y')]) (s + 1) R met' ++ [boxR y', boxR x', .box [iV x.n, iV y.n]]) cb (fun _ => rfl) rfl rfl rfl rfl rfl (by rw [uobd_ren]; rfl) rfl (by rw [uobd_ren]; rfl) ?_
            refine R_run hg.ok 1000 rfl rfl ?_
            refine R_dropO 7 (urObd d a b (B ++ [(x'.n, y')]) (s + 1) R met') (by show φ.length ≤ _; omega) rfl ?_ ?_
            · exact urObd_trim d a b (B ++ [(x'.n, y')]) (s + 1) R met' _
            exact R_next (n, R, B ++ [(x'.n, y')], met', s + 1) hN (by simp only; omega) ⟨.refl _, .refl _, .refl _, trivial⟩ rfl
        · refine R_if rfl rfl (fun h => absurd h (by simp [hkx])) (fun _ => ?_) <;> refine R_run hg.ok 1000 rfl rfl ?_
          refine R_if rfl rfl (fun h => absurd h (by simp [hkx])) (fun _ => ?_) <;> refine R_run hg.ok 1000 rfl rfl ?_
          obtain ⟨hright, hdeep⟩ := hnot hkx
          by_cases hky : y'.k = 1
          · obtain ⟨hbad, hgood⟩ := hright hky
            have cw := unjWithin_ok Y d B hsb (by omega) y'.n x' (by omega)
            have cb := unjBind_ok Y d B y'.n x' (ey hky) (by omega)
            generalize Tm.withB B y'.n x' = wb at cw hbad hgood
            refine R_if rfl rfl (fun _ => ?_) (fun h => absurd h (by simp [hky])) <;> refine R_run hg.ok 1000 rfl rfl ?_
            refine R_load4 hg.ok (by show φ.length ≤ 8; omega) rfl rfl rfl rfl rfl rfl rfl ?_
            refine R_run hg.ok 1000 rfl rfl ?_
            refine R_callSO hg.ok hg.gup hg.wide hg.Y [0, 1, 2] (urObd d a b B (s + 1) R met' ++ [boxR y', boxR x', .box [iV x.n, iV y.n]]) cw (fun _ => rfl) rfl rfl rfl rfl rfl (by rw [uobd_ren]; rfl) rfl (by rw [uobd_ren]; rfl) ?_
            refine R_run hg.ok 1000 rfl rfl ?_
            cases wb with
            | true =>
              refine R_if rfl rfl (fun _ => ?_) (fun h => absurd h (by simp)) <;> refine R_run hg.ok 1000 rfl rfl ?_
              obtain ⟨e1, e2⟩ := hbad rfl
              rw [e1, e2]
              exact R_retS hg 3 5 (Nat.le_refl _) rfl rfl (keep B _)
            | false =>
            have hN := hgood rfl
            refine R_if rfl rfl (fun h => absurd h (by simp)) (fun _ => ?_) <;> refine R_run hg.ok 1000 rfl rfl ?_
            refine R_load4 hg.ok (by show φ.length ≤ 8; omega) rfl rfl rfl rfl rfl rfl rfl ?_
            refine R_run hg.ok 1000 rfl rfl ?_
            refine R_callSO hg.ok hg.gup hg.wide hg.Y [0, 1, 2] (urObd d a b (B ++ [(y'.n, x')]) (s + 1) R met' ++ [boxR y', boxR x', .box [iV x.n, iV y.n]]) cb (fun _ => rfl) rfl rfl rfl rfl rfl (by rw [uobd_ren]; rfl) rfl (by rw [uobd_ren]; rfl) ?_
            refine R_run hg.ok 1000 rfl rfl ?_
            refine R_dropO 7 (urObd d a b (B ++ [(y'.n, x')]) (s + 1) R met') (by show φ.length ≤ _; omega) rfl ?_ ?_
            · exact urObd_trim d a b (B ++ [(y'.n, x')]) (s + 1) R met' _
            exact R_next (n, R, B ++ [(y'.n, x')], met', s + 1) hN (by simp only; omega) ⟨.refl _, .refl _, .refl _, trivial⟩ rfl
          · obtain ⟨hbad, hgood⟩ := hdeep hky
            refine R_if rfl rfl (fun h => absurd h (by simp [hky])) (fun _ => ?_) <;> refine R_run hg.ok 1000 rfl rfl ?_
            refine R_if rfl rfl (fun c1 => ?_) (fun c1 => ?_) <;> refine R_run hg.ok 1000 rfl rfl ?_
            · have c1 : ¬ x'.k = y'.k := by simpa using c1
              obtain ⟨e1, e2⟩ := hbad (by simp [Tm.clashB, c1])
              rw [e1, e2]
              exact R_retS hg 3 5 (Nat.le_refl _) rfl rfl (keep B _)
            have c1 : x'.k = y'.k := by simpa using c1
            refine R_if rfl rfl (fun c2 => ?_) (fun c2 => ?_) <;> refine R_run hg.ok 1000 rfl rfl ?_
            · have c2 : ¬ x'.n = y'.n := by simpa using c2
              obtain ⟨e1, e2⟩ := hbad (by simp [Tm.clashB, c2])
              rw [e1, e2]
              exact R_retS hg 3 5 (Nat.le_refl _) rfl rfl (keep B _)
            have c2 : x'.n = y'.n := by simpa using c2
            refine R_if rfl rfl (fun c3 => ?_) (fun c3 => ?_) <;> refine R_run hg.ok 1000 rfl rfl ?_
            · have c3 : strEq x'.s y'.s = false := by simpa using c3
              obtain ⟨e1, e2⟩ := hbad (by simp [Tm.clashB, c3])
              rw [e1, e2]
              exact R_retS hg 3 5 (Nat.le_refl _) rfl rfl (keep B _)
            have c3 : strEq x'.s y'.s = true := by simpa using c3
            refine R_if rfl rfl (fun c4 => ?_) (fun c4 => ?_) <;> refine R_run hg.ok 1000 rfl rfl ?_
            · have c4 : ¬ x'.l.length = y'.l.length := by simp [Tm.rows_length] at c4; omega
              obtain ⟨e1, e2⟩ := hbad (by simp [Tm.clashB, c4])
              rw [e1, e2]
              exact R_retS hg 3 5 (Nat.le_refl _) rfl rfl (keep B _)
            have g4 : x'.l.length = y'.l.length := by simp [Tm.rows_length] at c4; omega
            have hN := hgood (by simp [Tm.clashB, c1, c2, c3, g4])
            have hN2 := hlenU hN
            have hzl : (x'.l.zip y'.l).length = x'.l.length := by rw [List.length_zip]; omega
            have hRz : (R ++ x'.l.zip y'.l).length = R.length + x'.l.length := by rw [List.length_append, hzl]
            refine R_loop (fun k : Nat => ([(0, .lo 0 0), (7, .ow 5 (s + 1 + k)), (8, .mp 6), (10, .lo 7 0), (66, .d (.sl (Tm.rows x'.l))), (67, iV x'.l.length), (68, iV k)], urObd d a b B (s + 1 + k) (R ++ (x'.l.zip y'.l).take k) met' ++ [boxR y', boxR x', .box [iV x.n, iV y.n]])) (fun k => k ≤ x'.l.length) (fun k => x'.l.length - k) 0 (Nat.zero_le _) ⟨.refl _, .refl _, .refl _, .refl _, .refl _, Ent.int (by rw [Tm.rows_length]), .refl _, trivial⟩ (by simp only [List.take_zero, List.append_nil]; rfl) ?_
            rintro k hk
            refine R_run hg.ok 1000 rfl rfl ?_
            refine R_if rfl rfl (fun h => ?_) (fun h => ?_) <;> refine R_run hg.ok 1000 rfl rfl ?_
            · have hk1 : k < x'.l.length := lt_dec h rfl
              have e1 : x'.l[k]? = some x'.l[k] := List.getElem?_eq_getElem hk1
              have e2 : y'.l[k]? = some (y'.l[k]'(by omega)) := List.getElem?_eq_getElem (by omega)
              have e3 : (x'.l.zip y'.l)[k]? = some (x'.l[k], y'.l[k]'(by omega)) := by rw [List.getElem?_zip_eq_some]; exact ⟨e1, e2⟩
              generalize x'.l[k] = xk at e1 e3
              generalize (y'.l[k]'(by omega)) = yk at e2 e3
              have hz1 : R ++ (x'.l.zip y'.l).take (k + 1) = (R ++ (x'.l.zip y'.l).take k) ++ [(xk, yk)] := by rw [List.take_add_one, e3, List.append_assoc]; rfl
              have hz2 : (R ++ (x'.l.zip y'.l).take k).length = R.length + k := by rw [List.length_append, List.length_take]; omega
              refine R_index hg.ok rfl rfl rfl rfl rfl rfl (Int.natCast_nonneg _) (Tm.rows_get e1) rfl ?_
              refine R_run hg.ok 1000 rfl rfl ?_
              refine R_index hg.ok rfl rfl rfl rfl rfl rfl (Int.natCast_nonneg _) (Tm.rows_get e2) rfl ?_
              refine R_run hg.ok 1000 rfl rfl ?_
              refine R_buildA hg.ok _ rfl rfl rfl rfl rfl rfl rfl rfl ?_
              refine R_run hg.ok 1000 rfl rfl ?_
              refine R_buildF hg.ok (.fs [[.v (.int .i64 xk.k), .v (.string xk.s), .v (.int .i64 xk.n), .sl (Tm.rows xk.l), .v (.int .i64 yk.k), .v (.string yk.s), .v (.int .i64 yk.n), .sl (Tm.rows yk.l)]]) rfl rfl (buildS_one rfl rfl rfl rfl (by decide)) ?_
              refine R_run hg.ok 1000 rfl rfl ?_
              refine R_appendO hg.ok (prsRows (R ++ (x'.l.zip y'.l).take (k + 1))) rfl rfl rfl rfl rfl rfl rfl rfl rfl (by simp) (by simp [one1]) (by rw [hz1]; exact prs_snoc2 _ xk yk) (by rw [prsRows_len, hz2]; simp; omega) (by rw [prsRows_len, hz2]; simp; omega) ?_
              refine R_run hg.ok 1000 rfl rfl ?_
              refine R_dropO 10 (urObd d a b B (s + 1 + (k + 1)) (R ++ (x'.l.zip y'.l).take (k + 1)) met' ++ [boxR y', boxR x', .box [iV x.n, iV y.n]]) (by show φ.length ≤ _; omega) rfl ?_ ?_
              · exact urObd_trim3 d a b B (s + 1 + (k + 1)) (R ++ (x'.l.zip y'.l).take (k + 1)) met' _ _ x.n y.n _
              exact R_next (k + 1) hk1 (by omega) ⟨.refl _, .refl _, .refl _, .refl _, .refl _, .refl _, Ent.wrap (by omega) (by omega) (by omega), trivial⟩ rfl
            · have hk1 : x'.l.length ≤ k := ge_dec h rfl
              rw [List.take_of_length_le (by omega : (x'.l.zip y'.l).length ≤ k)]
              refine R_dropO 7 (urObd d a b B (s + 1 + k) (R ++ x'.l.zip y'.l) met') (by show φ.length ≤ _; omega) rfl ?_ ?_
              · exact urObd_trim d a b B (s + 1 + k) (R ++ x'.l.zip y'.l) met' _
              exact R_next (n, R ++ x'.l.zip y'.l, B, met', s + 1 + k) hN (by simp only; omega) ⟨.refl _, .refl _, .refl _, trivial⟩ rfl
      · have hmU : Tm.metU x y met = met := by
          unfold Tm.metU
          rw [if_neg]
          simp only [Bool.and_eq_true, decide_eq_true_eq]; exact hb2
        rw [hmU] at hstep
        obtain ⟨met', rfl⟩ : ∃ m, met = m := ⟨met, rfl⟩
        by_cases hx1 : x.k = 1
        · refine R_if rfl rfl (fun _ => ?_) (fun h => absurd h (by simp [hx1])) <;> refine R_run hg.ok 1000 rfl rfl ?_
          refine R_if rfl rfl (fun h => absurd h (by have : ¬ y.k = 1 := fun h => hb2 ⟨hx1, h⟩; simp [this])) (fun _ => ?_) <;> refine R_run hg.ok 1000 rfl rfl ?_
          obtain ⟨ex, ey, zx, zy, hsame, hrest⟩ := hstep
          have cx := unjWalk_ok Y d B hU.ug.chain x
          have cy := unjWalk_ok Y d B hU.ug.chain y
          have hsb : ∀ c ∈ B, c.2.size < 400000000 := fun c hc => by have := hU.ug.sb c hc; omega
          generalize Tm.walkB B x = x' at *
          generalize Tm.walkB B y = y' at *
          refine R_load4 hg.ok (by show φ.length ≤ 8; omega) rfl rfl rfl rfl rfl rfl rfl ?_
          refine R_run hg.ok 1000 rfl rfl ?_
          refine R_callS3 hg.ok hg.gup hg.wide hg.Y [0, 1, 2] (urObd d a b B (s + 1) R met ++ [boxR y, boxR x, .box [iV x.n, iV y.n]]) cx (fun _ => rfl) (fun i hi => by show i < φ.length; simp at hi; omega) rfl rfl rfl rfl rfl (by rw [uobd_ren]; rfl) rfl (by rw [uobd_ren]; rfl) ?_
          refine R_run hg.ok 1000 rfl rfl ?_
          refine R_load4 hg.ok (by show φ.length ≤ 7; omega) rfl rfl rfl rfl rfl rfl rfl ?_
          refine R_run hg.ok 1000 rfl rfl ?_
          refine R_callS3 hg.ok hg.gup hg.wide hg.Y [0, 1, 2] (urObd d a b B (s + 1) R met ++ [boxR y, boxR x, .box [iV x.n, iV y.n]]) cy (fun _ => rfl) (fun i hi => by show i < φ.length; simp at hi; omega) rfl rfl rfl rfl rfl (by rw [uobd_ren]; rfl) rfl (by rw [uobd_ren]; rfl) ?_
          refine R_run hg.ok 1000 rfl rfl ?_
          refine R_storeB hg.ok rfl rfl rfl rfl rfl rfl rfl rfl rfl ?_
          refine R_run hg.ok 1000 rfl rfl ?_
          refine R_storeB hg.ok rfl rfl rfl rfl rfl rfl rfl rfl rfl ?_
          refine R_run hg.ok 1000 rfl rfl ?_
          by_cases hc : x'.k = 1 ∧ y'.k = 1 ∧ x'.n = y'.n
          · refine R_if rfl rfl (fun _ => ?_) (fun h => absurd h (by simp [hc.1])) <;> refine R_run hg.ok 1000 rfl rfl ?_
            refine R_if rfl rfl (fun _ => ?_) (fun h => absurd h (by simp [hc.2.1])) <;> refine R_run hg.ok 1000 rfl rfl ?_
            refine R_if rfl rfl (fun _ => ?_) (fun h => absurd h (by simp [hc.2.2])) <;> refine R_run hg.ok 1000 rfl rfl ?_
            refine R_dropO 7 (urObd d a b B (s + 1) R met) (by show φ.length ≤ _; omega) rfl ?_ ?_
            · exact urObd_trim d a b B (s + 1) R met _
            exact R_next (n, R, B, met, s + 1) (hsame hc) (by simp only; omega) ⟨.refl _, .refl _, .refl _, trivial⟩ rfl
          obtain ⟨hleft, hnot⟩ := hrest hc
          by_cases hkx : x'.k = 1
          · obtain ⟨hbad, hgood⟩ := hleft hkx
            have cw := unjWithin_ok Y d B hsb (by omega) x'.n y' (by omega)
            have cb := unjBind_ok Y d B x'.n y' (ex hkx) (by omega)
            generalize Tm.withB B x'.n y' = wb at cw hbad hgood
            by_cases hky : y'.k = 1
            · refine R_if rfl rfl (fun _ => ?_) (fun h => absurd h (by simp [hkx])) <;> refine R_run hg.ok 1000 rfl rfl ?_
              refine R_if rfl rfl (fun _ => ?_) (fun h => absurd h (by simp [hky])) <;> refine R_run hg.ok 1000 rfl rfl ?_
              refine R_if rfl rfl (fun h => absurd h (by have : ¬ x'.n = y'.n := fun e => hc ⟨hkx, hky, e⟩; simp [this])) (fun _ => ?_) <;> refine R_run hg.ok 1000 rfl rfl ?_
              refine R_if rfl rfl (fun _ => ?_) (fun h => absurd h (by simp [hkx])) <;> refine R_run hg.ok 1000 rfl rfl ?_
              refine R_load4 hg.ok (by show φ.length ≤ 7; omega) rfl rfl rfl rfl rfl rfl rfl ?_
              refine R_run hg.ok 1000 rfl rfl ?_
              refine R_callSO hg.ok hg.gup hg.wide hg.Y [0, 1, 2] (urObd d a b B (s + 1) R met ++ [boxR y', boxR x', .box [iV x.n, iV y.n]]) cw (fun _ => rfl) rfl rfl rfl rfl rfl (by rw [uobd_ren]; rfl) rfl (by rw [uobd_ren]; rfl) ?_
              refine R_run hg.ok 1000 rfl rfl ?_
              cases wb with
              | true =>
                refine R_if rfl rfl (fun _ => ?_) (fun h => absurd h (by simp)) <;> refine R_run hg.ok 1000 rfl rfl ?_
                obtain ⟨e1, e2⟩ := hbad rfl
                rw [e1, e2]
                exact R_retS hg 3 5 (Nat.le_refl _) rfl rfl (keep B _)
              | false =>
              have hN := hgood rfl
              refine R_if rfl rfl (fun h => absurd h (by simp)) (fun _ => ?_) <;> refine R_run hg.ok 1000 rfl rfl ?_
              refine R_load4 hg.ok (by show φ.length ≤ 7; omega) rfl rfl rfl rfl rfl rfl rfl ?_
              refine R_run hg.ok 1000 rfl rfl ?_
              refine R_callSO hg.ok hg.gup hg.wide hg.Y [0, 1, 2] (urObd d a b (B ++ [(x'.n, y')]) (s + 1) R met ++ [boxR y', boxR x', .box [iV x.n, iV y.n]]) cb (fun _ => rfl) rfl rfl rfl rfl rfl (by rw [uobd_ren]; rfl) rfl (by rw [uobd_ren]; rfl) ?_
              refine R_run hg.ok 1000 rfl rfl ?_
              refine R_dropO 7 (urObd d a b (B ++ [(x'.n, y')]) (s + 1) R met) (by show φ.length ≤ _; omega) rfl ?_ ?_
              · exact urObd_trim d a b (B ++ [(x'.n, y')]) (s + 1) R met _
              exact R_next (n, R, B ++ [(x'.n, y')], met, s + 1) hN (by simp only; omega) ⟨.refl _, .refl _, .refl _, trivial⟩ rfl
            · refine R_if rfl rfl (fun _ => ?_) (fun h => absurd h (by simp [hkx])) <;> refine R_run hg.ok 1000 rfl rfl ?_
              refine R_if rfl rfl (fun h => absurd h (by simp [hky])) (fun _ => ?_) <;> refine R_run hg.ok 1000 rfl rfl ?_
              refine R_if rfl rfl (fun _ => ?_) (fun h => absurd h (by simp [hkx])) <;> refine R_run hg.ok 1000 rfl rfl ?_
              refine R_load4 hg.ok (by show φ.length ≤ 7; omega) rfl rfl rfl rfl rfl rfl rfl ?_
              refine R_run hg.ok 1000 rfl rfl ?_
              refine R_callSO hg.ok hg.gup hg.wide hg.Y [0, 1, 2] (urObd d a b B (s + 1) R met ++ [boxR y', boxR x', .box [iV x.n, iV y.n]]) cw (fun _ => rfl) rfl rfl rfl rfl rfl (by rw [uobd_ren]; rfl) rfl (by rw [uobd_ren]; rfl) ?_
              refine R_run hg.ok 1000 rfl rfl ?_
              cases wb with
              | true =>
                refine R_if rfl rfl (fun _ => ?_) (fun h => absurd h (by simp)) <;> refine R_run hg.ok 1000 rfl rfl ?_
                obtain ⟨e1, e2⟩ := hbad rfl
                rw [e1, e2]
                exact R_retS hg 3 5 (Nat.le_refl _) rfl rfl (keep B _)
              | false =>
              have hN := hgood rfl
              refine R_if rfl rfl (fun h => absurd h (by simp)) (fun _ => ?_) <;> refine R_run hg.ok 1000 rfl rfl ?_
              refine R_load4 hg.ok (by show φ.length ≤ 7; omega) rfl rfl rfl rfl rfl rfl rfl ?_
              refine R_run hg.ok 1000 rfl rfl ?_
              refine R_callSO hg.ok hg.gup hg.wide hg.Y [0, 1, 2] (urObd d a b (B ++ [(x'.n, y')]) (s + 1) R met ++ [boxR y', boxR x', .box [iV x.n, iV y.n]]) cb (fun _ => rfl) rfl rfl rfl rfl rfl (by rw [uobd_ren]; rfl) rfl (by rw [uobd_ren]; rfl) ?_
              refine R_run hg.ok 1000 rfl rfl ?_
              refine R_dropO 7 (urObd d a b (B ++ [(x'.n, y')]) (s + 1) R met) (by show φ.length ≤ _; omega) rfl ?_ ?_
              · exact urObd_trim d a b (B ++ [(x'.n, y')]) (s + 1) R met _
              exact R_next (n, R, B ++ [(x'.n, y')], met, s + 1) hN (by simp only; omega) ⟨.refl _, .refl _, .refl _, trivial⟩ rfl
          · refine R_if rfl rfl (fun h => absurd h (by simp [hkx])) (fun _ => ?_) <;> refine R_run hg.ok 1000 rfl rfl ?_
            refine R_if rfl rfl (fun h => absurd h (by simp [hkx])) (fun _ => ?_) <;> refine R_run hg.ok 1000 rfl rfl ?_
            obtain ⟨hright, hdeep⟩ := hnot hkx
            by_cases hky : y'.k = 1
            · obtain ⟨hbad, hgood⟩ := hright hky
              have cw := unjWithin_ok Y d B hsb (by omega) y'.n x' (by omega)
              have cb := unjBind_ok Y d B y'.n x' (ey hky) (by omega)
              generalize Tm.withB B y'.n x' = wb at cw hbad hgood
              refine R_if rfl rfl (fun _ => ?_) (fun h => absurd h (by simp [hky])) <;> refine R_run hg.ok 1000 rfl rfl ?_
              refine R_load4 hg.ok (by show φ.length ≤ 8; omega) rfl rfl rfl rfl rfl rfl rfl ?_
              refine R_run hg.ok 1000 rfl rfl ?_
              refine R_callSO hg.ok hg.gup hg.wide hg.Y [0, 1, 2] (urObd d a b B (s + 1) R met ++ [boxR y', boxR x', .box [iV x.n, iV y.n]]) cw (fun _ => rfl) rfl rfl rfl rfl rfl (by rw [uobd_ren]; rfl) rfl (by rw [uobd_ren]; rfl) ?_
              refine R_run hg.ok 1000 rfl rfl ?_
              cases wb with
              | true =>
                refine R_if rfl rfl (fun _ => ?_) (fun h => absurd h (by simp)) <;> refine R_run hg.ok 1000 rfl rfl ?_
                obtain ⟨e1, e2⟩ := hbad rfl
                rw [e1, e2]
                exact R_retS hg 3 5 (Nat.le_refl _) rfl rfl (keep B _)
              | false =>
              have hN := hgood rfl
              refine R_if rfl rfl (fun h => absurd h (by simp)) (fun _ => ?_) <;> refine R_run hg.ok 1000 rfl rfl ?_
              refine R_load4 hg.ok (by show φ.length ≤ 8; omega) rfl rfl rfl rfl rfl rfl rfl ?_
              refine R_run hg.ok 1000 rfl rfl ?_
              refine R_callSO hg.ok hg.gup hg.wide hg.Y [0, 1, 2] (urObd d a b (B ++ [(y'.n, x')]) (s + 1) R met ++ [boxR y', boxR x', .box [iV x.n, iV y.n]]) cb (fun _ => rfl) rfl rfl rfl rfl rfl (by rw [uobd_ren]; rfl) rfl (by rw [uobd_ren]; rfl) ?_
              refine R_run hg.ok 1000 rfl rfl ?_
              refine R_dropO 7 (urObd d a b (B ++ [(y'.n, x')]) (s + 1) R met) (by show φ.length ≤ _; omega) rfl ?_ ?_
              · exact urObd_trim d a b (B ++ [(y'.n, x')]) (s + 1) R met _
              exact R_next (n, R, B ++ [(y'.n, x')], met, s + 1) hN (by simp only; omega) ⟨.refl _, .refl _, .refl _, trivial⟩ rfl
            · obtain ⟨hbad, hgood⟩ := hdeep hky
              refine R_if rfl rfl (fun h => absurd h (by simp [hky])) (fun _ => ?_) <;> refine R_run hg.ok 1000 rfl rfl ?_
              refine R_if rfl rfl (fun c1 => ?_) (fun c1 => ?_) <;> refine R_run hg.ok 1000 rfl rfl ?_
              · have c1 : ¬ x'.k = y'.k := by simpa using c1
                obtain ⟨e1, e2⟩ := hbad (by simp [Tm.clashB, c1])
                rw [e1, e2]
                exact R_retS hg 3 5 (Nat.le_refl _) rfl rfl (keep B _)
              have c1 : x'.k = y'.k := by simpa using c1
              refine R_if rfl rfl (fun c2 => ?_) (fun c2 => ?_) <;> refine R_run hg.ok 1000 rfl rfl ?_
              · have c2 : ¬ x'.n = y'.n := by simpa using c2
                obtain ⟨e1, e2⟩ := hbad (by simp [Tm.clashB, c2])
                rw [e1, e2]
                exact R_retS hg 3 5 (Nat.le_refl _) rfl rfl (keep B _)
              have c2 : x'.n = y'.n := by simpa using c2
              refine R_if rfl rfl (fun c3 => ?_) (fun c3 => ?_) <;> refine R_run hg.ok 1000 rfl rfl ?_
              · have c3 : strEq x'.s y'.s = false := by simpa using c3
                obtain ⟨e1, e2⟩ := hbad (by simp [Tm.clashB, c3])
                rw [e1, e2]
                exact R_retS hg 3 5 (Nat.le_refl _) rfl rfl (keep B _)
              have c3 : strEq x'.s y'.s = true := by simpa using c3
              refine R_if rfl rfl (fun c4 => ?_) (fun c4 => ?_) <;> refine R_run hg.ok 1000 rfl rfl ?_
              · have c4 : ¬ x'.l.length = y'.l.length := by simp [Tm.rows_length] at c4; omega
                obtain ⟨e1, e2⟩ := hbad (by simp [Tm.clashB, c4])
                rw [e1, e2]
                exact R_retS hg 3 5 (Nat.le_refl _) rfl rfl (keep B _)
              have g4 : x'.l.length = y'.l.length := by simp [Tm.rows_length] at c4; omega
              have hN := hgood (by simp [Tm.clashB, c1, c2, c3, g4])
              have hN2 := hlenU hN
              have hzl : (x'.l.zip y'.l).length = x'.l.length := by rw [List.length_zip]; omega
              have hRz : (R ++ x'.l.zip y'.l).length = R.length + x'.l.length := by rw [List.length_append, hzl]
              refine R_loop (fun k : Nat => ([(0, .lo 0 0), (7, .ow 5 (s + 1 + k)), (8, .mp 6), (10, .lo 7 0), (66, .d (.sl (Tm.rows x'.l))), (67, iV x'.l.length), (68, iV k)], urObd d a b B (s + 1 + k) (R ++ (x'.l.zip y'.l).take k) met ++ [boxR y', boxR x', .box [iV x.n, iV y.n]])) (fun k => k ≤ x'.l.length) (fun k => x'.l.length - k) 0 (Nat.zero_le _) ⟨.refl _, .refl _, .refl _, .refl _, .refl _, Ent.int (by rw [Tm.rows_length]), .refl _, trivial⟩ (by simp only [List.take_zero, List.append_nil]; rfl) ?_
              rintro k hk
              refine R_run hg.ok 1000 rfl rfl ?_
              refine R_if rfl rfl (fun h => ?_) (fun h => ?_) <;> refine R_run hg.ok 1000 rfl rfl ?_
              · have hk1 : k < x'.l.length := lt_dec h rfl
                have e1 : x'.l[k]? = some x'.l[k] := List.getElem?_eq_getElem hk1
                have e2 : y'.l[k]? = some (y'.l[k]'(by omega)) := List.getElem?_eq_getElem (by omega)
                have e3 : (x'.l.zip y'.l)[k]? = some (x'.l[k], y'.l[k]'(by omega)) := by rw [List.getElem?_zip_eq_some]; exact ⟨e1, e2⟩
                generalize x'.l[k] = xk at e1 e3
                generalize (y'.l[k]'(by omega)) = yk at e2 e3
                have hz1 : R ++ (x'.l.zip y'.l).take (k + 1) = (R ++ (x'.l.zip y'.l).take k) ++ [(xk, yk)] := by rw [List.take_add_one, e3, List.append_assoc]; rfl
                have hz2 : (R ++ (x'.l.zip y'.l).take k).length = R.length + k := by rw [List.length_append, List.length_take]; omega
                refine R_index hg.ok rfl rfl rfl rfl rfl rfl (Int.natCast_nonneg _) (Tm.rows_get e1) rfl ?_
                refine R_run hg.ok 1000 rfl rfl ?_
                refine R_index hg.ok rfl rfl rfl rfl rfl rfl (Int.natCast_nonneg _) (Tm.rows_get e2) rfl ?_
                refine R_run hg.ok 1000 rfl rfl ?_
                refine R_buildA hg.ok _ rfl rfl rfl rfl rfl rfl rfl rfl ?_
                refine R_run hg.ok 1000 rfl rfl ?_
                refine R_buildF hg.ok (.fs [[.v (.int .i64 xk.k), .v (.string xk.s), .v (.int .i64 xk.n), .sl (Tm.rows xk.l), .v (.int .i64 yk.k), .v (.string yk.s), .v (.int .i64 yk.n), .sl (Tm.rows yk.l)]]) rfl rfl (buildS_one rfl rfl rfl rfl (by decide)) ?_
                refine R_run hg.ok 1000 rfl rfl ?_
                refine R_appendO hg.ok (prsRows (R ++ (x'.l.zip y'.l).take (k + 1))) rfl rfl rfl rfl rfl rfl rfl rfl rfl (by simp) (by simp [one1]) (by rw [hz1]; exact prs_snoc2 _ xk yk) (by rw [prsRows_len, hz2]; simp; omega) (by rw [prsRows_len, hz2]; simp; omega) ?_
                refine R_run hg.ok 1000 rfl rfl ?_
                refine R_dropO 10 (urObd d a b B (s + 1 + (k + 1)) (R ++ (x'.l.zip y'.l).take (k + 1)) met ++ [boxR y', boxR x', .box [iV x.n, iV y.n]]) (by show φ.length ≤ _; omega) rfl ?_ ?_
                · exact urObd_trim3 d a b B (s + 1 + (k + 1)) (R ++ (x'.l.zip y'.l).take (k + 1)) met _ _ x.n y.n _
                exact R_next (k + 1) hk1 (by omega) ⟨.refl _, .refl _, .refl _, .refl _, .refl _, .refl _, Ent.wrap (by omega) (by omega) (by omega), trivial⟩ rfl
              · have hk1 : x'.l.length ≤ k := ge_dec h rfl
                rw [List.take_of_length_le (by omega : (x'.l.zip y'.l).length ≤ k)]
                refine R_dropO 7 (urObd d a b B (s + 1 + k) (R ++ x'.l.zip y'.l) met) (by show φ.length ≤ _; omega) rfl ?_ ?_
                · exact urObd_trim d a b B (s + 1 + k) (R ++ x'.l.zip y'.l) met _
                exact R_next (n, R ++ x'.l.zip y'.l, B, met, s + 1 + k) hN (by simp only; omega) ⟨.refl _, .refl _, .refl _, trivial⟩ rfl
        · refine R_if rfl rfl (fun h => absurd h (by simp [hx1])) (fun _ => ?_) <;> refine R_run hg.ok 1000 rfl rfl ?_
          obtain ⟨ex, ey, zx, zy, hsame, hrest⟩ := hstep
          have cx := unjWalk_ok Y d B hU.ug.chain x
          have cy := unjWalk_ok Y d B hU.ug.chain y
          have hsb : ∀ c ∈ B, c.2.size < 400000000 := fun c hc => by have := hU.ug.sb c hc; omega
          generalize Tm.walkB B x = x' at *
          generalize Tm.walkB B y = y' at *
          refine R_load4 hg.ok (by show φ.length ≤ 8; omega) rfl rfl rfl rfl rfl rfl rfl ?_
          refine R_run hg.ok 1000 rfl rfl ?_
          refine R_callS3 hg.ok hg.gup hg.wide hg.Y [0, 1, 2] (urObd d a b B (s + 1) R met ++ [boxR y, boxR x, .box [iV x.n, iV y.n]]) cx (fun _ => rfl) (fun i hi => by show i < φ.length; simp at hi; omega) rfl rfl rfl rfl rfl (by rw [uobd_ren]; rfl) rfl (by rw [uobd_ren]; rfl) ?_
          refine R_run hg.ok 1000 rfl rfl ?_
          refine R_load4 hg.ok (by show φ.length ≤ 7; omega) rfl rfl rfl rfl rfl rfl rfl ?_
          refine R_run hg.ok 1000 rfl rfl ?_
          refine R_callS3 hg.ok hg.gup hg.wide hg.Y [0, 1, 2] (urObd d a b B (s + 1) R met ++ [boxR y, boxR x, .box [iV x.n, iV y.n]]) cy (fun _ => rfl) (fun i hi => by show i < φ.length; simp at hi; omega) rfl rfl rfl rfl rfl (by rw [uobd_ren]; rfl) rfl (by rw [uobd_ren]; rfl) ?_
          refine R_run hg.ok 1000 rfl rfl ?_
          refine R_storeB hg.ok rfl rfl rfl rfl rfl rfl rfl rfl rfl ?_
          refine R_run hg.ok 1000 rfl rfl ?_
          refine R_storeB hg.ok rfl rfl rfl rfl rfl rfl rfl rfl rfl ?_
          refine R_run hg.ok 1000 rfl rfl ?_
          by_cases hc : x'.k = 1 ∧ y'.k = 1 ∧ x'.n = y'.n
          · refine R_if rfl rfl (fun _ => ?_) (fun h => absurd h (by simp [hc.1])) <;> refine R_run hg.ok 1000 rfl rfl ?_
            refine R_if rfl rfl (fun _ => ?_) (fun h => absurd h (by simp [hc.2.1])) <;> refine R_run hg.ok 1000 rfl rfl ?_
            refine R_if rfl rfl (fun _ => ?_) (fun h => absurd h (by simp [hc.2.2])) <;> refine R_run hg.ok 1000 rfl rfl ?_
            refine R_dropO 7 (urObd d a b B (s + 1) R met) (by show φ.length ≤ _; omega) rfl ?_ ?_
            · exact urObd_trim d a b B (s + 1) R met _
            exact R_next (n, R, B, met, s + 1) (hsame hc) (by simp only; omega) ⟨.refl _, .refl _, .refl _, trivial⟩ rfl
          obtain ⟨hleft, hnot⟩ := hrest hc
          by_cases hkx : x'.k = 1
          · obtain ⟨hbad, hgood⟩ := hleft hkx
            have cw := unjWithin_ok Y d B hsb (by omega) x'.n y' (by omega)
            have cb := unjBind_ok Y d B x'.n y' (ex hkx) (by omega)
            generalize Tm.withB B x'.n y' = wb at cw hbad hgood
            by_cases hky : y'.k = 1
            · refine R_if rfl rfl (fun _ => ?_) (fun h => absurd h (by simp [hkx])) <;> refine R_run hg.ok 1000 rfl rfl ?_
              refine R_if rfl rfl (fun _ => ?_) (fun h => absurd h (by simp [hky])) <;> refine R_run hg.ok 1000 rfl rfl ?_
              refine R_if rfl rfl (fun h => absurd h (by have : ¬ x'.n = y'.n := fun e => hc ⟨hkx, hky, e⟩; simp [this])) (fun _ => ?_) <;> refine R_run hg.ok 1000 rfl rfl ?_
              refine R_if rfl rfl (fun _ => ?_) (fun h => absurd h (by simp [hkx])) <;> refine R_run hg.ok 1000 rfl rfl ?_
              refine R_load4 hg.ok (by show φ.length ≤ 7; omega) rfl rfl rfl rfl rfl rfl rfl ?_
              refine R_run hg.ok 1000 rfl rfl ?_
              refine R_callSO hg.ok hg.gup hg.wide hg.Y [0, 1, 2] (urObd d a b B (s + 1) R met ++ [boxR y', boxR x', .box [iV x.n, iV y.n]]) cw (fun _ => rfl) rfl rfl rfl rfl rfl (by rw [uobd_ren]; rfl) rfl (by rw [uobd_ren]; rfl) ?_
              refine R_run hg.ok 1000 rfl rfl ?_
              cases wb with
              | true =>
                refine R_if rfl rfl (fun _ => ?_) (fun h => absurd h (by simp)) <;> refine R_run hg.ok 1000 rfl rfl ?_
                obtain ⟨e1, e2⟩ := hbad rfl
                rw [e1, e2]
                exact R_retS hg 3 5 (Nat.le_refl _) rfl rfl (keep B _)
              | false =>
              have hN := hgood rfl
              refine R_if rfl rfl (fun h => absurd h (by simp)) (fun _ => ?_) <;> refine R_run hg.ok 1000 rfl rfl ?_
              refine R_load4 hg.ok (by show φ.length ≤ 7; omega) rfl rfl rfl rfl rfl rfl rfl ?_
              refine R_run hg.ok 1000 rfl rfl ?_
              refine R_callSO hg.ok hg.gup hg.wide hg.Y [0, 1, 2] (urObd d a b (B ++ [(x'.n, y')]) (s + 1) R met ++ [boxR y', boxR x', .box [iV x.n, iV y.n]]) cb (fun _ => rfl) rfl rfl rfl rfl rfl (by rw [uobd_ren]; rfl) rfl (by rw [uobd_ren]; rfl) ?_
              refine R_run hg.ok 1000 rfl rfl ?_
              refine R_dropO 7 (urObd d a b (B ++ [(x'.n, y')]) (s + 1) R met) (by show φ.length ≤ _; omega) rfl ?_ ?_
              · exact urObd_trim d a b (B ++ [(x'.n, y')]) (s + 1) R met _
              exact R_next (n, R, B ++ [(x'.n, y')], met, s + 1) hN (by simp only; omega) ⟨.refl _, .refl _, .refl _, trivial⟩ rfl
            · refine R_if rfl rfl (fun _ => ?_) (fun h => absurd h (by simp [hkx])) <;> refine R_run hg.ok 1000 rfl rfl ?_
              refine R_if rfl rfl (fun h => absurd h (by simp [hky])) (fun _ => ?_) <;> refine R_run hg.ok 1000 rfl rfl ?_
              refine R_if rfl rfl (fun _ => ?_) (fun h => absurd h (by simp [hkx])) <;> refine R_run hg.ok 1000 rfl rfl ?_
              refine R_load4 hg.ok (by show φ.length ≤ 7; omega) rfl rfl rfl rfl rfl rfl rfl ?_
              refine R_run hg.ok 1000 rfl rfl ?_
              refine R_callSO hg.ok hg.gup hg.wide hg.Y [0, 1, 2] (urObd d a b B (s + 1) R met ++ [boxR y', boxR x', .box [iV x.n, iV y.n]]) cw (fun _ => rfl) rfl rfl rfl rfl rfl (by rw [uobd_ren]; rfl) rfl (by rw [uobd_ren]; rfl) ?_
              refine R_run hg.ok 1000 rfl rfl ?_
              cases wb with
              | true =>
                refine R_if rfl rfl (fun _ => ?_) (fun h => absurd h (by simp)) <;> refine R_run hg.ok 1000 rfl rfl ?_
                obtain ⟨e1, e2⟩ := hbad rfl
                rw [e1, e2]
                exact R_retS hg 3 5 (Nat.le_refl _) rfl rfl (keep B _)
              | false =>
              have hN := hgood rfl
              refine R_if rfl rfl (fun h => absurd h (by simp)) (fun _ => ?_) <;> refine R_run hg.ok 1000 rfl rfl ?_
              refine R_load4 hg.ok (by show φ.length ≤ 7; omega) rfl rfl rfl rfl rfl rfl rfl ?_
              refine R_run hg.ok 1000 rfl rfl ?_
              refine R_callSO hg.ok hg.gup hg.wide hg.Y [0, 1, 2] (urObd d a b (B ++ [(x'.n, y')]) (s + 1) R met ++ [boxR y', boxR x', .box [iV x.n, iV y.n]]) cb (fun _ => rfl) rfl rfl rfl rfl rfl (by rw [uobd_ren]; rfl) rfl (by rw [uobd_ren]; rfl) ?_
              refine R_run hg.ok 1000 rfl rfl ?_
              refine R_dropO 7 (urObd d a b (B ++ [(x'.n, y')]) (s + 1) R met) (by show φ.length ≤ _; omega) rfl ?_ ?_
              · exact urObd_trim d a b (B ++ [(x'.n, y')]) (s + 1) R met _
              exact R_next (n, R, B ++ [(x'.n, y')], met, s + 1) hN (by simp only; omega) ⟨.refl _, .refl _, .refl _, trivial⟩ rfl
          · refine R_if rfl rfl (fun h => absurd h (by simp [hkx])) (fun _ => ?_) <;> refine R_run hg.ok 1000 rfl rfl ?_
            refine R_if rfl rfl (fun h => absurd h (by simp [hkx])) (fun _ => ?_) <;> refine R_run hg.ok 1000 rfl rfl ?_
            obtain ⟨hright, hdeep⟩ := hnot hkx
            by_cases hky : y'.k = 1
            · obtain ⟨hbad, hgood⟩ := hright hky
              have cw := unjWithin_ok Y d B hsb (by omega) y'.n x' (by omega)
              have cb := unjBind_ok Y d B y'.n x' (ey hky) (by omega)
              generalize Tm.withB B y'.n x' = wb at cw hbad hgood
              refine R_if rfl rfl (fun _ => ?_) (fun h => absurd h (by simp [hky])) <;> refine R_run hg.ok 1000 rfl rfl ?_
              refine R_load4 hg.ok (by show φ.length ≤ 8; omega) rfl rfl rfl rfl rfl rfl rfl ?_
              refine R_run hg.ok 1000 rfl rfl ?_
              refine R_callSO hg.ok hg.gup hg.wide hg.Y [0, 1, 2] (urObd d a b B (s + 1) R met ++ [boxR y', boxR x', .box [iV x.n, iV y.n]]) cw (fun _ => rfl) rfl rfl rfl rfl rfl (by rw [uobd_ren]; rfl) rfl (by rw [uobd_ren]; rfl) ?_
              refine R_run hg.ok 1000 rfl rfl ?_
              cases wb with
              | true =>
                refine R_if rfl rfl (fun _ => ?_) (fun h => absurd h (by simp)) <;> refine R_run hg.ok 1000 rfl rfl ?_
                obtain ⟨e1, e2⟩ := hbad rfl
                rw [e1, e2]
                exact R_retS hg 3 5 (Nat.le_refl _) rfl rfl (keep B _)
              | false =>
              have hN := hgood rfl
              refine R_if rfl rfl (fun h => absurd h (by simp)) (fun _ => ?_) <;> refine R_run hg.ok 1000 rfl rfl ?_
              refine R_load4 hg.ok (by show φ.length ≤ 8; omega) rfl rfl rfl rfl rfl rfl rfl ?_
              refine R_run hg.ok 1000 rfl rfl ?_
              refine R_callSO hg.ok hg.gup hg.wide hg.Y [0, 1, 2] (urObd d a b (B ++ [(y'.n, x')]) (s + 1) R met ++ [boxR y', boxR x', .box [iV x.n, iV y.n]]) cb (fun _ => rfl) rfl rfl rfl rfl rfl (by rw [uobd_ren]; rfl) rfl (by rw [uobd_ren]; rfl) ?_
              refine R_run hg.ok 1000 rfl rfl ?_
              refine R_dropO 7 (urObd d a b (B ++ [(y'.n, x')]) (s + 1) R met) (by show φ.length ≤ _; omega) rfl ?_ ?_
              · exact urObd_trim d a b (B ++ [(y'.n, x')]) (s + 1) R met _
              exact R_next (n, R, B ++ [(y'.n, x')], met, s + 1) hN (by simp only; omega) ⟨.refl _, .refl _, .refl _, trivial⟩ rfl
            · obtain ⟨hbad, hgood⟩ := hdeep hky
              refine R_if rfl rfl (fun h => absurd h (by simp [hky])) (fun _ => ?_) <;> refine R_run hg.ok 1000 rfl rfl ?_
              refine R_if rfl rfl (fun c1 => ?_) (fun c1 => ?_) <;> refine R_run hg.ok 1000 rfl rfl ?_
              · have c1 : ¬ x'.k = y'.k := by simpa using c1
                obtain ⟨e1, e2⟩ := hbad (by simp [Tm.clashB, c1])
                rw [e1, e2]
                exact R_retS hg 3 5 (Nat.le_refl _) rfl rfl (keep B _)
              have c1 : x'.k = y'.k := by simpa using c1
              refine R_if rfl rfl (fun c2 => ?_) (fun c2 => ?_) <;> refine R_run hg.ok 1000 rfl rfl ?_
              · have c2 : ¬ x'.n = y'.n := by simpa using c2
                obtain ⟨e1, e2⟩ := hbad (by simp [Tm.clashB, c2])
                rw [e1, e2]
                exact R_retS hg 3 5 (Nat.le_refl _) rfl rfl (keep B _)
              have c2 : x'.n = y'.n := by simpa using c2
              refine R_if rfl rfl (fun c3 => ?_) (fun c3 => ?_) <;> refine R_run hg.ok 1000 rfl rfl ?_
              · have c3 : strEq x'.s y'.s = false := by simpa using c3
                obtain ⟨e1, e2⟩ := hbad (by simp [Tm.clashB, c3])
                rw [e1, e2]
                exact R_retS hg 3 5 (Nat.le_refl _) rfl rfl (keep B _)
              have c3 : strEq x'.s y'.s = true := by simpa using c3
              refine R_if rfl rfl (fun c4 => ?_) (fun c4 => ?_) <;> refine R_run hg.ok 1000 rfl rfl ?_
              · have c4 : ¬ x'.l.length = y'.l.length := by simp [Tm.rows_length] at c4; omega
                obtain ⟨e1, e2⟩ := hbad (by simp [Tm.clashB, c4])
                rw [e1, e2]
                exact R_retS hg 3 5 (Nat.le_refl _) rfl rfl (keep B _)
              have g4 : x'.l.length = y'.l.length := by simp [Tm.rows_length] at c4; omega
              have hN := hgood (by simp [Tm.clashB, c1, c2, c3, g4])
              have hN2 := hlenU hN
              have hzl : (x'.l.zip y'.l).length = x'.l.length := by rw [List.length_zip]; omega
              have hRz : (R ++ x'.l.zip y'.l).length = R.length + x'.l.length := by rw [List.length_append, hzl]
              refine R_loop (fun k : Nat => ([(0, .lo 0 0), (7, .ow 5 (s + 1 + k)), (8, .mp 6), (10, .lo 7 0), (66, .d (.sl (Tm.rows x'.l))), (67, iV x'.l.length), (68, iV k)], urObd d a b B (s + 1 + k) (R ++ (x'.l.zip y'.l).take k) met ++ [boxR y', boxR x', .box [iV x.n, iV y.n]])) (fun k => k ≤ x'.l.length) (fun k => x'.l.length - k) 0 (Nat.zero_le _) ⟨.refl _, .refl _, .refl _, .refl _, .refl _, Ent.int (by rw [Tm.rows_length]), .refl _, trivial⟩ (by simp only [List.take_zero, List.append_nil]; rfl) ?_
              rintro k hk
              refine R_run hg.ok 1000 rfl rfl ?_
              refine R_if rfl rfl (fun h => ?_) (fun h => ?_) <;> refine R_run hg.ok 1000 rfl rfl ?_
              · have hk1 : k < x'.l.length := lt_dec h rfl
                have e1 : x'.l[k]? = some x'.l[k] := List.getElem?_eq_getElem hk1
                have e2 : y'.l[k]? = some (y'.l[k]'(by omega)) := List.getElem?_eq_getElem (by omega)
                have e3 : (x'.l.zip y'.l)[k]? = some (x'.l[k], y'.l[k]'(by omega)) := by rw [List.getElem?_zip_eq_some]; exact ⟨e1, e2⟩
                generalize x'.l[k] = xk at e1 e3
                generalize (y'.l[k]'(by omega)) = yk at e2 e3
                have hz1 : R ++ (x'.l.zip y'.l).take (k + 1) = (R ++ (x'.l.zip y'.l).take k) ++ [(xk, yk)] := by rw [List.take_add_one, e3, List.append_assoc]; rfl
                have hz2 : (R ++ (x'.l.zip y'.l).take k).length = R.length + k := by rw [List.length_append, List.length_take]; omega
                refine R_index hg.ok rfl rfl rfl rfl rfl rfl (Int.natCast_nonneg _) (Tm.rows_get e1) rfl ?_
                refine R_run hg.ok 1000 rfl rfl ?_
                refine R_index hg.ok rfl rfl rfl rfl rfl rfl (Int.natCast_nonneg _) (Tm.rows_get e2) rfl ?_
                refine R_run hg.ok 1000 rfl rfl ?_
                refine R_buildA hg.ok _ rfl rfl rfl rfl rfl rfl rfl rfl ?_
                refine R_run hg.ok 1000 rfl rfl ?_
                refine R_buildF hg.ok (.fs [[.v (.int .i64 xk.k), .v (.string xk.s), .v (.int .i64 xk.n), .sl (Tm.rows xk.l), .v (.int .i64 yk.k), .v (.string yk.s), .v (.int .i64 yk.n), .sl (Tm.rows yk.l)]]) rfl rfl (buildS_one rfl rfl rfl rfl (by decide)) ?_
                refine R_run hg.ok 1000 rfl rfl ?_
                refine R_appendO hg.ok (prsRows (R ++ (x'.l.zip y'.l).take (k + 1))) rfl rfl rfl rfl rfl rfl rfl rfl rfl (by simp) (by simp [one1]) (by rw [hz1]; exact prs_snoc2 _ xk yk) (by rw [prsRows_len, hz2]; simp; omega) (by rw [prsRows_len, hz2]; simp; omega) ?_
                refine R_run hg.ok 1000 rfl rfl ?_
                refine R_dropO 10 (urObd d a b B (s + 1 + (k + 1)) (R ++ (x'.l.zip y'.l).take (k + 1)) met ++ [boxR y', boxR x', .box [iV x.n, iV y.n]]) (by show φ.length ≤ _; omega) rfl ?_ ?_
                · exact urObd_trim3 d a b B (s + 1 + (k + 1)) (R ++ (x'.l.zip y'.l).take (k + 1)) met _ _ x.n y.n _
                exact R_next (k + 1) hk1 (by omega) ⟨.refl _, .refl _, .refl _, .refl _, .refl _, .refl _, Ent.wrap (by omega) (by omega) (by omega), trivial⟩ rfl
              · have hk1 : x'.l.length ≤ k := ge_dec h rfl
                rw [List.take_of_length_le (by omega : (x'.l.zip y'.l).length ≤ k)]
                refine R_dropO 7 (urObd d a b B (s + 1 + k) (R ++ x'.l.zip y'.l) met) (by show φ.length ≤ _; omega) rfl ?_ ?_
                · exact urObd_trim d a b B (s + 1 + k) (R ++ x'.l.zip y'.l) met _
                exact R_next (n, R ++ x'.l.zip y'.l, B, met, s + 1 + k) hN (by simp only; omega) ⟨.refl _, .refl _, .refl _, trivial⟩ rfl
end Go.Proofs.Ytppghekipbnjhaa

namespace PSL
open Go Go.RowKit
section
variable {g : G} {pf : Nat → Cls} {ops : Array Oper} {Fin : Exit → Act → World → Prop}

/-- A view of a slice of the call's own, from some element on: the slice is still used after. -/
theorem R_sliceV (hg : GOk g) {dst : Option Nat} {T : Nat} {x : Operand} {lo : Option Operand} {ty : Nat} {pos : String} {after : Array Edge} {gd : Option (Nat × Bool)} {rest : List Oper} {k : List It} {E : Env} {objs : List Ob}
    {i s sz q by_ e : Nat} {z : List Value} {τ : Ty} {rows : List (List D)} {h : Int}
    (hgd : guardA ops.toList E gd = some true) (hd : dstOk ⟨g.ty, g.N⟩ dst = true) (hcl : slCls pf = .turn 1) (hx : ev E x = .ow i s) (ho : nth objs i = some (.arr sz s rows)) (hl : bndA E lo 0 = some h) (hT : g.ty T = some ⟨q, by_, z, .slice e⟩) (he : g.ty e = some τ) (hsz : τ.size = sz)
    (h0 : 0 ≤ h) (h2 : h ≤ rows.length)
    (hr : R g pf Fin (.dr ops rest :: k) (putO E dst (.vw i s h.toNat)) objs) : R g pf Fin (.dr ops (⟨dst, .slice T x lo none none, ty, pos, after, gd⟩ :: rest) :: k) E objs := by
  refine R_op ?_ hr
  simp only [clsOf, hcl]
  refine LocOp.turning hg (.refl _) hgd hd (by simp) fun φ a w hρ hs => ?_
  simp only [Op.operands] at hρ
  have hxv := hρ x (by simp)
  rw [hx] at hxv
  simp only [RV] at hxv
  obtain ⟨_, ph, hph, hxv⟩ := hxv
  have hk := obj_at hs hph ho
  cases ph <;> try (simp only [ObOk] at hk; done)
  rename_i sz2 s2 v2 ob2
  simp only [ObOk] at hk
  obtain ⟨e1, e2, _, hk⟩ := hk
  subst e1; subst e2
  have hv := (hxv _ _ _ _ rfl).2 rfl
  have hτ := hg.ty _ _ he
  have hs2 : ∃ (p : Option Addr) (c : Nat), v2 = .slice p rows.length c ∧ rows.length ≤ c ∧ (0 < rows.length → ∃ b o, p = some ⟨b, o, none⟩) := by
    rcases hk with ⟨a2, h1, rfl, _⟩ | ⟨b, o, cap, cs, T', h1, _, _, hc, _⟩
    · exact ⟨_, _, h1, by simp, fun h => absurd h (by simp)⟩
    · exact ⟨_, _, h1, hc, fun _ => ⟨b, o, rfl⟩⟩
  obtain ⟨p, cap, hs2, hcap, hp⟩ := hs2
  have hb := run_bounds (P := g.P) (w := w) (sl := true) (a := a) (len := rows.length) (cap := cap) (lo := lo) (hi := none) (h := rows.length) hl rfl (fun y hy n he => by
    have := hρ y (by simp [hy]); rw [he] at this; simp only [RV] at this; generalize a.eval y = u at this; cases this; rfl) (fun y hy => by cases hy) h0 h2 (by omega)
  refine out_val hs (vv := .slice (if cap = h.toNat then p else p.map (·.add (h.toNat * τ.size))) (rows.length - h.toNat) (cap - h.toNat)) ?_ ?_
  · simp only [Option.map_none, Int.toNat_natCast] at hb
    simp [execOp, Instr.sliceAt, Instr.slice, hv, hs2, underlying, und_slice hg hT, hb, run_sizeOf hτ]
  · simp only [RV]
    refine ⟨⟨_, _, _, rfl⟩, _, hph, fun sz s x ob h => ?_⟩
    cases h
    refine ⟨Nat.le_refl _, fun _ => ⟨_, _, _, _, _, hs2, rfl, fun hlt => ?_⟩⟩
    obtain ⟨b, o, rfl⟩ := hp (by omega)
    exact ⟨b, o, rfl, by rw [if_neg (by omega)]; simp [add_none, hsz]⟩

/-- How long a view is. -/
theorem R_lenV (hg : GOk g) {dst : Option Nat} {T : Nat} {x : Operand} {ty : Nat} {pos : String} {after : Array Edge} {gd : Option (Nat × Bool)} {rest : List Oper} {k : List It} {E : Env} {objs : List Ob}
    {id s r sz q by_ e : Nat} {z : List Value} {rows : List (List D)} {n : Int}
    (hgd : guardA ops.toList E gd = some true) (hd : dstOk ⟨g.ty, g.N⟩ dst = true) (hx : ev E x = .vw id s r) (ho : nth objs id = some (.arr sz s rows)) (hT : g.ty T = some ⟨q, by_, z, .slice e⟩) (hn : (↑(rows.length - r) : Int) = n)
    (hr : R g pf Fin (.dr ops rest :: k) (putO E dst (iV n)) objs) (hcl : lenCls pf #[x] = .load := by rfl) : R g pf Fin (.dr ops (⟨dst, .call { callee := .builtin .len, args := #[x], argTypes := #[T] }, ty, pos, after, gd⟩ :: rest) :: k) E objs := by
  subst hn
  refine R_op ?_ hr
  simp only [clsOf, hcl]
  refine LocOp.lookingM hg 0 hgd hd (by simp) fun φ a w objs₁ hgr hρ hs => ?_
  simp only [Op.operands, Call.operands] at hρ
  have hxv := hρ x (by simp)
  rw [hx] at hxv
  simp only [RV] at hxv
  obtain ⟨_, ph, hph, hxv⟩ := hxv
  have ho : nth objs₁ id = some (.arr sz s rows) := by
    rw [nth_eq] at ho ⊢
    exact Gr.same hgr ho (by rw [← hs.len]; exact (List.getElem?_eq_some_iff.1 hph).1) (by simp [Ob.lvl])
  have hk := obj_at hs hph ho
  cases ph <;> try (simp only [ObOk] at hk; done)
  simp only [ObOk] at hk
  obtain ⟨rfl, rfl, hlen, hk⟩ := hk
  obtain ⟨a1, n1, c1, p, c, hv1, hv, _⟩ := (hxv _ _ _ _ rfl).2 rfl
  have hs2 : n1 = rows.length := by
    rcases hk with ⟨a2, h1, rfl, _⟩ | ⟨b, o, cap, cs, T', h1, _⟩
    · rw [h1] at hv1; cases hv1; rfl
    · rw [h1] at hv1; cases hv1; rfl
  subst hs2
  refine out_val hs (vv := .int .i64 ↑(rows.length - r)) ?_ (by simp only [RV, iV]; exact .v _)
  have hu := und_slice hg hT
  simp only [execOp, resolve, Sem.run_bind, Sem.run_pure, Result.andThen_ok, invoke, builtin, List.map_toArray, List.map_cons, List.map_nil, hv]
  simp [run_lenArr hu (.inr ⟨⟨_, rfl⟩, _, _, _, rfl, rfl⟩)]

/-- The address of an element of a view. -/
theorem R_indexV (hg : GOk g) {dst : Option Nat} {T : Nat} {x i : Operand} {ty : Nat} {pos : String} {after : Array Edge} {gd : Option (Nat × Bool)} {rest : List Oper} {k : List It} {E : Env} {objs : List Ob}
    {id s r sz q by_ e : Nat} {z : List Value} {τ : Ty} {rows : List (List D)} {n : Int} (m : Nat)
    (hgd : guardA ops.toList E gd = some true) (hd : dstOk ⟨g.ty, g.N⟩ dst = true) (hcl : ixCls pf = .load) (hx : ev E x = .vw id s r) (ho : nth objs id = some (.arr sz s rows)) (hi : ev E i = .d (.v (.int .i64 n))) (hT : g.ty T = some ⟨q, by_, z, .slice e⟩) (he : g.ty e = some τ) (hsz : τ.size = sz)
    (h0 : 0 ≤ n) (hlt : r + n.toNat < rows.length) (hm : r + n.toNat = m)
    (hr : R g pf Fin (.dr ops rest :: k) (putO E dst (.el id s m 0)) objs) : R g pf Fin (.dr ops (⟨dst, .indexAddr T x i, ty, pos, after, gd⟩ :: rest) :: k) E objs := by
  subst hm
  refine R_op ?_ hr
  simp only [clsOf, hcl]
  refine LocOp.lookingM hg 0 hgd hd (by simp) fun φ a w objs₁ hgr hρ hs => ?_
  simp only [Op.operands] at hρ
  have hxv := hρ x (by simp)
  rw [hx] at hxv
  have hiv := hρ i (by simp)
  rw [hi] at hiv
  simp only [RV] at hiv
  generalize hvi : a.eval i = vi at hiv
  cases hiv
  simp only [RV] at hxv
  obtain ⟨_, ph, hph, hxv⟩ := hxv
  have ho : nth objs₁ id = some (.arr sz s rows) := by
    rw [nth_eq] at ho ⊢
    exact Gr.same hgr ho (by rw [← hs.len]; exact (List.getElem?_eq_some_iff.1 hph).1) (by simp [Ob.lvl])
  have hk := obj_at hs hph ho
  cases ph <;> try (simp only [ObOk] at hk; done)
  simp only [ObOk] at hk
  obtain ⟨rfl, rfl, hlen, hk⟩ := hk
  obtain ⟨a1, n1, c1, p, c, hv1, hv, hp⟩ := (hxv _ _ _ _ rfl).2 rfl
  rcases hk with ⟨a2, _, rfl, _⟩ | ⟨b, o, cap, cs, T', h1, rfl, h3, _⟩
  · simp at hlt
  rw [h1] at hv1
  cases hv1
  obtain ⟨b', o', h4, rfl⟩ := hp (by omega)
  cases h4
  refine out_val hs (vv := .pointer (some ⟨b, o + (r + n.toNat) * τ.size, none⟩)) ?_ ?_
  · have hrun : (Instr.indexAt T (a.eval x) (a.eval i)).run g.P w = .ok (.pointer (some ⟨b, o + (r + n.toNat) * τ.size, none⟩)) w := by
      simp only [Instr.indexAt, hv, hvi, asIntOf, underlying, Sem.run_bind, Sem.run_pure, run_program, Result.andThen_ok, und_slice hg hT]
      rw [Sem.run_ite, if_pos ⟨h0, by omega⟩]
      simp only [Sem.run_bind, run_sizeOf (hg.ty _ _ he), Result.andThen_ok, Sem.run_pure, add_none, ← hsz]
      rw [Nat.add_mul, Nat.add_assoc]
    simp only [execOp, Sem.run_bind, hrun, Result.andThen_ok, Sem.run_pure]
  · simp only [RV]
    refine ⟨⟨_, _, rfl⟩, _, hph, fun sz' s' x' ob' h => ?_⟩
    cases h
    exact ⟨Nat.le_refl _, fun _ => ⟨b, o, _, _, h1, by rw [hsz]; rfl⟩⟩
end
theorem SCtr.one {P : Program} {Y : YP} {f : Nat} {t : Tm} {r : AV} {o o' : List Ob} (h : SCtr P Y f [.d (.sl (Tm.rows [t]))] o r o') : SCtr P Y f [.d (.sl [Tm.row t])] o r o' := by rwa [Tm.rows_eq] at h
end PSL

namespace Go.Proofs.Ytppghekipbnjhaa
open Go PSL Go.Proofs
theorem tmM_app (A B : Binds) : tmM (A ++ B) = tmM A ++ tmM B := by simp [tmM]
theorem irows_take (l : List Int) (n : Nat) : (irows l).take n = irows (l.take n) := by simp [irows, List.map_take]

set_option maxRecDepth 100000 in
theorem unjUndo_ok (Y : YP) (d : Nat) (B X : Binds) (hn : ((B ++ X).map (·.1)).Nodup) (hl : (B ++ X).length ≤ 1000000) : SCtr Try.prog Y 81 [.lo 0 0, iV B.length] (uobd d (B ++ X)) (.tup []) (uobd (X.length + d + 1) B) := by
  refine SCtr.of_R (pf := fun f => bif Nat.beq f 4000000004 then .turn 1 else .eff) tyOk mixed Try.func81 rfl (by kernel_rfl) (by kernel_rfl) (by simp [Try.ntmps81]) (by simp [uobd]) fun w S φ hg => ?_
  have hφ : φ.length = 3 := hg.hs0.len
  have hk0 : ((B.length : Nat) : Int).toNat = B.length := Int.toNat_natCast _
  have hlen : ((B ++ X).map (·.1)).length = B.length + X.length := by simp
  have hXl : X.length ≤ 1000000 := by rw [List.length_append] at hl; omega
  refine R_run hg.ok 1000 rfl rfl ?_
  refine R_sliceV hg.ok rfl rfl rfl rfl rfl rfl rfl rfl rfl (Int.natCast_nonneg _) (by rw [irows_length, hlen]; omega) ?_
  rw [hk0]
  refine R_run hg.ok 1000 rfl rfl ?_
  refine R_lenV hg.ok rfl rfl rfl rfl rfl (n := (X.length : Int)) (by rw [irows_length, hlen]; simp) ?_
  refine R_run hg.ok 1000 rfl rfl ?_
  refine R_loop (fun k : Nat => ([(0, .lo 0 0), (1, iV B.length), (11, .vw 2 ((B ++ X).length + d) B.length), (12, iV X.length), (13, iV k)], [.box [.mp 1, .ow 2 ((B ++ X).length + d)], .map (imap (tmM (B ++ X.drop k))), .arr 1 ((B ++ X).length + d) (irows ((B ++ X).map (·.1)))])) (fun k => k ≤ X.length) (fun k => X.length - k) 0 (Nat.zero_le _) ⟨.refl _, .refl _, .refl _, .refl _, .refl _, trivial⟩ rfl ?_
  intro k hk
  refine R_run hg.ok 1000 rfl rfl ?_
  refine R_if rfl rfl (fun h => ?_) (fun h => ?_) <;> refine R_run hg.ok 1000 rfl rfl ?_
  · have hk1 : k < X.length := lt_dec h rfl
    have e1 : X[k]? = some X[k] := List.getElem?_eq_getElem hk1
    have e2 := List.drop_eq_getElem_cons hk1
    generalize X[k] = c at e1 e2
    have hrow : (irows ((B ++ X).map (·.1)))[B.length + k]? = some [.v (.int .i64 c.1)] := by
      refine irows_get ?_
      rw [List.getElem?_map, List.getElem?_append_right (by omega), Nat.add_sub_cancel_left, e1]; rfl
    refine R_indexV hg.ok (B.length + k) rfl rfl rfl rfl rfl rfl rfl rfl rfl (Int.natCast_nonneg k) (by rw [irows_length, hlen, Int.toNat_natCast]; omega) (by rw [Int.toNat_natCast]) ?_
    refine R_run hg.ok 1000 rfl rfl ?_
    refine R_loadE hg.ok rfl rfl rfl rfl rfl rfl hrow rfl ?_
    refine R_run hg.ok 1000 rfl rfl ?_
    have hne : ∀ p ∈ tmM B, p.1 ≠ c.1 := fun p hp => by
      obtain ⟨b, hb, rfl⟩ := List.mem_map.1 hp
      intro he
      rw [List.map_append, List.nodup_append] at hn
      exact hn.2.2 b.1 (List.mem_map.2 ⟨b, hb, rfl⟩) c.1 (List.mem_map.2 ⟨c, List.mem_of_getElem? e1, rfl⟩) he
    refine R_deleteI hg.ok (l := tmM (B ++ X.drop k)) (n := c.1) (v := c.2.av) (tmM B) (tmM (X.drop (k + 1))) (tmM (B ++ X.drop (k + 1))) rfl rfl rfl rfl rfl rfl rfl (by rw [tmM_app, e2]; rfl) hne (tmM_app _ _).symm ?_
    refine R_run hg.ok 1000 rfl rfl ?_
    exact R_next (k + 1) hk1 (by omega) ⟨.refl _, .refl _, .refl _, .refl _, Ent.wrap (by omega) (by omega) (by omega), trivial⟩ rfl
  · have hk1 : X.length ≤ k := ge_dec h rfl
    rw [List.drop_eq_nil_of_le hk1, List.append_nil]
    refine R_shrinkO hg.ok (irows (B.map (·.1))) rfl rfl rfl rfl rfl rfl rfl rfl rfl rfl (Int.natCast_nonneg _) (by rw [irows_length, hlen]; omega) (by rw [hk0, irows_take, List.map_append, List.take_left' (by simp)]) ?_
    refine R_run hg.ok 1000 rfl rfl ?_
    have hs : Nat.succ ((B ++ X).length + d) = B.length + (X.length + d + 1) := by rw [List.length_append]; omega
    rw [hs]
    refine R_endS hg 3 5 (Nat.le_refl _) rfl rfl ?_
    show [_, mapOb _ (.map (imap (tmM B))), _] = _
    rw [tmM_mapOb (fun t => rfl)]; rfl
end Go.Proofs.Ytppghekipbnjhaa

namespace PSL
open Go Go.RowKit Go.MapKept
def inR (x : Int) : Bool := decide (-9223372036854775808 ≤ x) && decide (x ≤ 9223372036854775807)
def chk (x : Int) : Int × Bool := if inR x then (x, true) else (0, false)
namespace Tm
theorem Fit.sub {t x : Tm} (h : t.Fit) (hx : x ∈ t.l) : x.Fit := fun d e he => h (d - 1) e (by rw [els_eq]; exact List.mem_cons_of_mem _ (els_memL hx (by rw [Int.sub_add_cancel]; exact he)))
end Tm
end PSL
namespace PSL
open Go
end PSL
namespace PSL
open Go Go.RowKit

/-- A call that makes objects of its own. -/
theorem R_callNew {g : G} {pf : Nat → Cls} {ops : Array Oper} {Fin : Exit → Act → World → Prop} (hg : GOk g) (hu : GUp g) (hF : g.F = Fence.wide ∧ g.dep = 0) (hY : ∀ (i l : Nat) (I : Nat → (Nat → Prop) → (Nat → Prop) → World → Prop) (B : Nat → Prop), g.φ0[i]? = some (Phy.ext l I B) → YStep g.P Fence.wide 0 g.Y l I g.S0) (objs' : List Ob) {Y : YP} {f : Nat} {axs : List AV} {objs1 : List Ob} {r : AV} (hc : SCtr g.P Y f axs [] r objs1) (hcc : (∃ (i l : Nat) (I : Nat → (Nat → Prop) → (Nat → Prop) → World → Prop) (B : Nat → Prop), g.φ0[i]? = some (Phy.ext l I B)) → Y = g.Y) {dst : Option Nat} {x : Operand} {args : Array Operand} {ts : Array Nat} {ty : Nat} {pos : String} {after : Array Edge} {gd : Option (Nat × Bool)}
    {rest : List Oper} {k : List It} {E : Env} {objs : List Ob} {fs cs : List AV}
    (hgd : guardA ops.toList E gd = some true) (hd : dstOk ⟨g.ty, g.N⟩ dst = true) (hcl : clsOf pf (.call { callee := .value x, args := args, argTypes := ts }) = .turn 0) (hx : ev E x = .clo f fs cs)
    (has : (fs ++ args.toList.map (ev E) ++ cs).map nrm = renL (rn [] (len objs)) axs) (ho : objs ++ objs1.map (renOb (rn [] (len objs))) = objs')
    (hr : R g pf Fin (.dr ops rest :: k) (putO E dst (renA (rn [] (len objs)) r)) objs') :
    R g pf Fin (.dr ops (⟨dst, .call { callee := .value x, args := args, argTypes := ts }, ty, pos, after, gd⟩ :: rest) :: k) E objs := by
  subst ho
  refine R_op ?_ hr
  show LocOp g ops _ E objs (clsOf pf (.call { callee := .value x, args := args, argTypes := ts })) _ _
  rw [hcl]
  have h := loc_callS (ops := ops) (after := after) (pos := pos) (ty := ty) (ts := ts) (dst := dst) hg hu hF hY [] hc hcc hgd hd hx rfl rfl has
  refine ⟨fun hn => absurd rfl (hn 0), fun b hb _ => ?_, fun E₁ o₁ o₁' a w h1 h2 h3 => h.step E₁ o₁ o₁' a w h1 (by
    rcases h2 with ⟨h2, _⟩ | ⟨m, h2, _⟩ | h2
    · cases h2
    · cases h2
    · exact .inr (.inr h2)) h3⟩
  cases hb
  exact .add _ _
end PSL
namespace PSL
open Go Go.RowKit
end PSL

namespace Go.Proofs.Ytppghekipbnjhaa
open Go PSL Go.Proofs

theorem uobd_keep (d : Nat) (B : Binds) (o : List Ob) : (uobd d B).map (mapOb (sealT false 3 o 5)) = uobd d B := by
  simp only [uobd, List.map_cons, List.map_nil]
  rw [tmM_mapOb (fun t => rfl)]; rfl

theorem bind_snoc4 {B : Binds} {k : Nat} {b : Int × Tm} (h : B[k]? = some b) : bindRows (B.take k) ++ [[.v (.int .i64 b.1), .v (.int .i64 b.2.k), .v (.string b.2.s), .v (.int .i64 b.2.n), .sl (Tm.rows b.2.l)]] = bindRows (B.take (k + 1)) := by
  rw [List.take_add_one, h]; simp [bindRows, bindRow, Tm.row]
def uaft (ok : Bool) (d : Nat) (B X : Binds) : List Ob := if ok then uobd d (B ++ X) else uobd (X.length + d + 1) B

set_option maxRecDepth 100000 in
theorem unjDo_ok (Y : YP) (d : Nat) {S : List Int} {N : Nat} (hS : S.length ≤ 100) (hN : N ≤ 100) (B X : Binds) (ok : Bool) (a b : Tm) (n0 : Nat) (h0 : Tm.UState S N a n0 [(a, b)] B [] (B ++ X) ok) (hn : ((B ++ X).map (·.1)).Nodup) (hl : (B ++ X).length ≤ 1000000) (ha : a.rightB = true) (hb : b.rightB = true) (na : ∀ e ∈ a.els 1, e.2.s.size < 1000000000) (nb : ∀ e ∈ b.els 1, e.2.s.size < 1000000000) : SCtr Try.prog Y 46 [.lo 0 0, a.av, b.av] (uobd d B) (.tup [bV ok, iV 0]) (uaft ok d B X) := by
  have sa : a.size ≤ 3000 := (Tm.rightB_iff.1 ha).2.1
  have sb : b.size ≤ 3000 := (Tm.rightB_iff.1 hb).2.1
  refine SCtr.of_R (pf := fun _ => .eff) tyOk mixed Try.func46 rfl (by kernel_rfl) (by kernel_rfl) (by simp [Try.ntmps46]) (by unfold uaft; cases ok <;> simp [uobd]) fun w S φ hg => ?_
  have hφ : φ.length = 3 := hg.hs0.len
  refine R_run hg.ok 1000 rfl rfl ?_
  refine R_eqNil hg.ok Try.underlying66 rfl rfl rfl ?_
  refine R_run hg.ok 1000 rfl rfl ?_
  refine R_if rfl rfl (fun h => absurd h (by simp)) (fun _ => ?_) <;> refine R_run hg.ok 1000 rfl rfl ?_
  refine R_call hg.ok (right_ok a (by omega) na) rfl rfl rfl rfl rfl rfl ?_
  refine R_run hg.ok 1000 rfl rfl ?_
  rw [rightT_eq, ha]
  refine R_if rfl rfl (fun h => absurd h (by simp)) (fun _ => ?_) <;> refine R_run hg.ok 1000 rfl rfl ?_
  refine R_call hg.ok (right_ok b (by omega) nb) rfl rfl rfl rfl rfl rfl ?_
  refine R_run hg.ok 1000 rfl rfl ?_
  rw [rightT_eq, hb]
  refine R_if rfl rfl (fun h => absurd h (by simp)) (fun _ => ?_) <;> refine R_run hg.ok 1000 rfl rfl ?_
  refine R_lenO hg.ok rfl rfl rfl rfl rfl (n := (B.length : Int)) (by rw [irows_length]; simp) ?_
  refine R_run hg.ok 1000 rfl rfl ?_
  refine R_callSO hg.ok hg.gup hg.wide hg.Y [0, 1, 2] (uobd d (B ++ X) ++ [boxR a, boxR b]) (unjLoop_ok Y d hS hN B (B ++ X) ok a b n0 h0) (fun _ => rfl) rfl rfl rfl rfl rfl (by rw [uobd_ren]; rfl) rfl (by rw [uobd_ren]; rfl) ?_
  refine R_run hg.ok 1000 rfl rfl ?_
  cases ok with
  | true =>
    refine R_if rfl rfl (fun _ => ?_) (fun h => absurd h (by simp)) <;> refine R_run hg.ok 1000 rfl rfl ?_
    exact R_retS hg 3 5 (Nat.le_refl _) rfl rfl (uobd_keep d (B ++ X) _)
  | false =>
    refine R_if rfl rfl (fun h => absurd h (by simp)) (fun _ => ?_) <;> refine R_run hg.ok 1000 rfl rfl ?_
    refine R_callSO hg.ok hg.gup hg.wide hg.Y [0, 1, 2] (uobd (X.length + d + 1) B ++ [boxR a, boxR b]) (unjUndo_ok Y d B X hn hl) (fun _ => rfl) rfl rfl rfl rfl rfl (by rw [uobd_ren]; rfl) rfl (by rw [uobd_ren]; rfl) ?_
    refine R_run hg.ok 1000 rfl rfl ?_
    exact R_retS hg 3 5 (Nat.le_refl _) rfl rfl (uobd_keep (X.length + d + 1) B _)

set_option maxRecDepth 100000 in
theorem unjNot_ok (Y : YP) (d : Nat) (B : Binds) (a b : Tm) (hr : (a.rightB && b.rightB) = false) (sa : a.size < 1000000000) (sb : b.size < 1000000000) (na : ∀ e ∈ a.els 1, e.2.s.size < 1000000000) (nb : ∀ e ∈ b.els 1, e.2.s.size < 1000000000) : SCtr Try.prog Y 46 [.lo 0 0, a.av, b.av] (uobd d B) (.tup [bV false, iV 1]) (uobd d B) := by
  refine SCtr.of_R (pf := fun _ => .eff) tyOk mixed Try.func46 rfl (by kernel_rfl) (by kernel_rfl) (by simp [Try.ntmps46]) (by simp [uobd]) fun w S φ hg => ?_
  have hφ : φ.length = 3 := hg.hs0.len
  refine R_run hg.ok 1000 rfl rfl ?_
  refine R_eqNil hg.ok Try.underlying66 rfl rfl rfl ?_
  refine R_run hg.ok 1000 rfl rfl ?_
  refine R_if rfl rfl (fun h => absurd h (by simp)) (fun _ => ?_) <;> refine R_run hg.ok 1000 rfl rfl ?_
  refine R_call hg.ok (right_ok a sa na) rfl rfl rfl rfl rfl rfl ?_
  refine R_run hg.ok 1000 rfl rfl ?_
  rw [rightT_eq]
  cases ha : a.rightB with
  | false =>
    refine R_if rfl rfl (fun _ => ?_) (fun h => absurd h (by simp)) <;> refine R_run hg.ok 1000 rfl rfl ?_
    exact R_retS hg 3 5 (Nat.le_refl _) rfl rfl (uobd_keep d B _)
  | true =>
    rw [ha, Bool.true_and] at hr
    refine R_if rfl rfl (fun h => absurd h (by simp)) (fun _ => ?_) <;> refine R_run hg.ok 1000 rfl rfl ?_
    refine R_call hg.ok (right_ok b sb nb) rfl rfl rfl rfl rfl rfl ?_
    refine R_run hg.ok 1000 rfl rfl ?_
    rw [rightT_eq, hr]
    refine R_if rfl rfl (fun _ => ?_) (fun h => absurd h (by simp)) <;> refine R_run hg.ok 1000 rfl rfl ?_
    exact R_retS hg 3 5 (Nat.le_refl _) rfl rfl (uobd_keep d B _)

set_option maxRecDepth 100000 in
theorem unjBinds_ok (Y : YP) (d : Nat) (B : Binds) (hc : (B.map (·.1)).Nodup) (hl : B.length < 1000000) : SCtr Try.prog Y 73 [.lo 0 0] (uobd d B) (.d (.sl (bindRows B))) (uobd d B) := by
  refine SCtr.of_R (pf := fun _ => .eff) tyOk mixed Try.func73 rfl (by kernel_rfl) (by kernel_rfl) (by simp [Try.ntmps73]) (by simp [uobd]) fun w S φ hg => ?_
  have hφ : φ.length = 3 := hg.hs0.len
  first
  | (refine R_run hg.ok 1 rfl rfl ?_; refine R_own 3 5 rfl rfl ?_)
  | (refine R_run hg.ok 2 rfl rfl ?_; refine R_own 3 5 rfl rfl ?_)
  | (refine R_run hg.ok 3 rfl rfl ?_; refine R_own 3 5 rfl rfl ?_)
  | (refine R_run hg.ok 4 rfl rfl ?_; refine R_own 3 5 rfl rfl ?_)
  | (refine R_run hg.ok 5 rfl rfl ?_; refine R_own 3 5 rfl rfl ?_)
  | (refine R_run hg.ok 6 rfl rfl ?_; refine R_own 3 5 rfl rfl ?_)
  refine R_run hg.ok 1000 rfl rfl ?_
  refine R_lenO hg.ok rfl rfl rfl rfl rfl (n := (B.length : Int)) (by rw [irows_length]; simp) ?_
  refine R_run hg.ok 1000 rfl rfl ?_
  refine R_loop (fun k : Nat => ([(0, .lo 0 0), (3, .ow 3 k), (9, .ow 2 (B.length + d)), (10, iV B.length), (11, iV k)], uobd d B ++ [.arr 5 k (bindRows (B.take k))])) (fun k => k ≤ B.length) (fun k => B.length - k) 0 (Nat.zero_le _) ⟨.refl _, .refl _, .refl _, .refl _, .refl _, trivial⟩ rfl ?_
  rintro k hk
  refine R_run hg.ok 1000 rfl rfl ?_
  refine R_if rfl rfl (fun h => ?_) (fun h => ?_) <;> refine R_run hg.ok 1000 rfl rfl ?_
  · have hk1 : k < B.length := lt_dec h rfl
    have e1 : B[k]? = some B[k] := List.getElem?_eq_getElem hk1
    generalize B[k] = c at e1
    have hrow : (irows (B.map (·.1)))[((k : Nat) : Int).toNat]? = some [.v (.int .i64 c.1)] := by
      rw [Int.toNat_natCast]; exact irows_get (by rw [List.getElem?_map, e1]; rfl)
    refine R_indexO hg.ok rfl rfl rfl rfl rfl rfl rfl rfl rfl (Int.natCast_nonneg k) (by rw [irows_length]; simpa using hk1) ?_
    refine R_run hg.ok 1000 rfl rfl ?_
    refine R_loadE hg.ok rfl rfl rfl rfl rfl rfl hrow rfl ?_
    refine R_run hg.ok 1000 rfl rfl ?_
    refine R_lookupI hg.ok (tmM B) rfl rfl rfl rfl rfl rfl rfl (zv := zTmV) (by kernel_rfl) (v := c.2.av) (by rw [getI_tm, Tm.find_nodup hc (List.mem_of_getElem? e1)]; rfl) ?_
    refine R_run hg.ok 1000 rfl rfl ?_
    refine R_appendO hg.ok (bindRows (B.take (k + 1))) rfl rfl rfl rfl rfl rfl rfl rfl rfl (by simp) (by simp [one1]) (bind_snoc4 e1) (by rw [bindRows_len]; simp; omega) (by rw [bindRows_len]; simp; omega) ?_
    refine R_run hg.ok 1000 rfl rfl ?_
    exact R_next (k + 1) hk1 (by omega) ⟨.refl _, .refl _, .refl _, .refl _, Ent.wrap (by omega) (by omega) (by omega), trivial⟩ rfl
  · have hk1 : B.length ≤ k := ge_dec h rfl
    rw [List.take_of_length_le hk1]
    exact R_retS hg 3 5 (Nat.le_refl _) rfl (sealT_ow rfl rfl) (uobd_keep d B _)

theorem uobd_ren2 (d : Nat) (B : Binds) (n : Nat) : (uobd d B).map (renOb (rn [3, 2, 4] n)) = [.box [.mp 2, .ow 4 (B.length + d)], .map (imap (tmM B)), .arr 1 (B.length + d) (irows (B.map (·.1)))] := by
  have e : (renOb (rn [3, 2, 4] n)) = mapOb (renA (rn [3, 2, 4] n)) := by funext o; cases o <;> simp [renOb, mapOb, renL_map]
  rw [e]
  simp only [uobd, List.map_cons, List.map_nil]
  rw [tmM_mapOb (fun t => rfl)]; rfl
def pfMgj : Nat → Cls := fun f => bif Nat.beq f 44 then .turn 0 else .eff

set_option maxRecDepth 100000 in
theorem mgj_ok {S : List Int} {N : Nat} (hS : S.length ≤ 100) (hN : N ≤ 100) (B' : Binds) (ok : Bool) (a b : Tm) (n0 : Nat) (h0 : Tm.UState S N a n0 [(a, b)] [] [] B' ok) (hn : (B'.map (·.1)).Nodup) (hl : B'.length < 1000000) (ha : a.rightB = true) (hb : b.rightB = true) (na : ∀ e ∈ a.els 1, e.2.s.size < 1000000000) (nb : ∀ e ∈ b.els 1, e.2.s.size < 1000000000) : PCtr Try.prog 34 [a.av, b.av] (.tup [.d (.sl (if ok then bindRows B' else [])), bV ok, iV 0]) := by
  refine PCtr.of_R (pf := pfMgj) tyOk mixed Try.func34 rfl (by kernel_rfl) (by kernel_rfl) (by simp [Try.ntmps34]) fun w S hg => ?_
  refine R_run hg.ok 1000 rfl rfl ?_
  refine R_callNew hg.ok hg.gup ⟨rfl, rfl⟩ (fun _ _ _ _ h => by cases h) [boxR a, boxR b, .map [], .box [.mp 2, .d (.v (.slice none 0 0))]] (uniNew_ok ⟨[], fun _ => true⟩) (fun _ => rfl) rfl rfl rfl rfl rfl rfl ?_
  first
  | (refine R_run hg.ok 1 rfl rfl ?_; refine R_ownB 3 1 1 rfl rfl rfl ?_)
  | (refine R_run hg.ok 2 rfl rfl ?_; refine R_ownB 3 1 1 rfl rfl rfl ?_)
  | (refine R_run hg.ok 3 rfl rfl ?_; refine R_ownB 3 1 1 rfl rfl rfl ?_)
  | (refine R_run hg.ok 4 rfl rfl ?_; refine R_ownB 3 1 1 rfl rfl rfl ?_)
  | (refine R_run hg.ok 5 rfl rfl ?_; refine R_ownB 3 1 1 rfl rfl rfl ?_)
  | (refine R_run hg.ok 6 rfl rfl ?_; refine R_ownB 3 1 1 rfl rfl rfl ?_)
  refine R_run hg.ok 1000 rfl rfl ?_
  have hcall := unjDo_ok ⟨[], fun _ => true⟩ 0 hS hN [] B' ok a b n0 h0 hn (by simp; omega) ha hb na nb
  cases ok with
  | true =>
    refine R_callSO hg.ok hg.gup ⟨rfl, rfl⟩ (fun _ _ _ _ h => by cases h) [3, 2, 4] [boxR a, boxR b, .map (imap (tmM B')), .box [.mp 2, .ow 4 (B'.length + 0)], .arr 1 (B'.length + 0) (irows (B'.map (·.1)))] hcall (fun _ => rfl) rfl rfl rfl rfl rfl (by rw [uobd_ren2]; rfl) rfl (by rw [show uaft true 0 [] B' = uobd 0 B' from rfl, uobd_ren2]; rfl) ?_
    refine R_run hg.ok 1000 rfl rfl ?_
    refine R_if rfl rfl (fun h => absurd h (by simp)) (fun _ => ?_) <;> refine R_run hg.ok 1000 rfl rfl ?_
    refine R_if rfl rfl (fun h => absurd h (by simp)) (fun _ => ?_) <;> refine R_run hg.ok 1000 rfl rfl ?_
    refine R_callSO hg.ok hg.gup ⟨rfl, rfl⟩ (fun _ _ _ _ h => by cases h) [3, 2, 4] [boxR a, boxR b, .map (imap (tmM B')), .box [.mp 2, .ow 4 (B'.length + 0)], .arr 1 (B'.length + 0) (irows (B'.map (·.1)))] (unjBinds_ok ⟨[], fun _ => true⟩ 0 B' hn hl) (fun _ => rfl) rfl rfl rfl rfl rfl (by rw [uobd_ren2]; rfl) rfl (by rw [uobd_ren2]; rfl) ?_
    refine R_run hg.ok 1000 rfl rfl ?_
    refine R_ret hg 5 rfl rfl ?_
    rfl
  | false =>
    refine R_callSO hg.ok hg.gup ⟨rfl, rfl⟩ (fun _ _ _ _ h => by cases h) [3, 2, 4] [boxR a, boxR b, .map (imap (tmM [])), .box [.mp 2, .ow 4 (B'.length + 0 + 1)], .arr 1 (B'.length + 0 + 1) []] hcall (fun _ => rfl) rfl rfl rfl rfl rfl (by rw [uobd_ren2]; rfl) rfl (by rw [show uaft false 0 [] B' = uobd (B'.length + 0 + 1) [] from rfl, uobd_ren2, List.length_nil, Nat.zero_add]; rfl) ?_
    refine R_run hg.ok 1000 rfl rfl ?_
    refine R_if rfl rfl (fun h => absurd h (by simp)) (fun _ => ?_) <;> refine R_run hg.ok 1000 rfl rfl ?_
    refine R_if rfl rfl (fun _ => ?_) (fun h => absurd h (by simp)) <;> refine R_run hg.ok 1000 rfl rfl ?_
    refine R_ret hg 5 rfl rfl ?_
    rfl

set_option maxRecDepth 100000 in
theorem mgjNot_ok (a b : Tm) (hr : (a.rightB && b.rightB) = false) (sa : a.size < 1000000000) (sb : b.size < 1000000000) (na : ∀ e ∈ a.els 1, e.2.s.size < 1000000000) (nb : ∀ e ∈ b.els 1, e.2.s.size < 1000000000) : PCtr Try.prog 34 [a.av, b.av] (.tup [.d (.sl []), bV false, iV 1]) := by
  refine PCtr.of_R (pf := pfMgj) tyOk mixed Try.func34 rfl (by kernel_rfl) (by kernel_rfl) (by simp [Try.ntmps34]) fun w S hg => ?_
  refine R_run hg.ok 1000 rfl rfl ?_
  refine R_callNew hg.ok hg.gup ⟨rfl, rfl⟩ (fun _ _ _ _ h => by cases h) [boxR a, boxR b, .map [], .box [.mp 2, .d (.v (.slice none 0 0))]] (uniNew_ok ⟨[], fun _ => true⟩) (fun _ => rfl) rfl rfl rfl rfl rfl rfl ?_
  first
  | (refine R_run hg.ok 1 rfl rfl ?_; refine R_ownB 3 1 1 rfl rfl rfl ?_)
  | (refine R_run hg.ok 2 rfl rfl ?_; refine R_ownB 3 1 1 rfl rfl rfl ?_)
  | (refine R_run hg.ok 3 rfl rfl ?_; refine R_ownB 3 1 1 rfl rfl rfl ?_)
  | (refine R_run hg.ok 4 rfl rfl ?_; refine R_ownB 3 1 1 rfl rfl rfl ?_)
  | (refine R_run hg.ok 5 rfl rfl ?_; refine R_ownB 3 1 1 rfl rfl rfl ?_)
  | (refine R_run hg.ok 6 rfl rfl ?_; refine R_ownB 3 1 1 rfl rfl rfl ?_)
  refine R_run hg.ok 1000 rfl rfl ?_
  refine R_callSO hg.ok hg.gup ⟨rfl, rfl⟩ (fun _ _ _ _ h => by cases h) [3, 2, 4] [boxR a, boxR b, .map (imap (tmM [])), .box [.mp 2, .ow 4 0], .arr 1 0 []] (unjNot_ok ⟨[], fun _ => true⟩ 0 [] a b hr sa sb na nb) (fun _ => rfl) rfl rfl rfl rfl rfl (by rw [uobd_ren2]; rfl) rfl rfl ?_
  refine R_run hg.ok 1000 rfl rfl ?_
  refine R_if rfl rfl (fun _ => ?_) (fun h => absurd h (by simp)) <;> refine R_run hg.ok 1000 rfl rfl ?_
  refine R_ret hg 5 rfl rfl ?_
  rfl
end Go.Proofs.Ytppghekipbnjhaa

namespace PSL
open Go
namespace Tm

/-- What holds on the way. -/
structure NeedI (B : Binds) (W : List Int) (R : List Int) (Q : Binds) : Prop where
  nodup : (Q.map (·.1)).Nodup
  look : ∀ b ∈ Q, findB B b.1 = some b.2
  all : ∀ v, (v ∈ W ∨ ∃ b ∈ Q, v ∈ occ b.2) → findB B v = none ∨ v ∈ Q.map (·.1) ∨ v ∈ R

theorem NeedI.first (B : Binds) (W : List Int) : NeedI B W W [] := ⟨by simp, by simp, fun v h => by
  rcases h with h | ⟨b, hb, _⟩
  · exact .inr (.inr h)
  · cases hb⟩

theorem NeedI.skip {B : Binds} {W R : List Int} {Q : Binds} {v : Int} (h : NeedI B W (v :: R) Q) (hv : findB B v = none ∨ v ∈ Q.map (·.1)) : NeedI B W R Q := ⟨h.nodup, h.look, fun u hu => by
  rcases h.all u hu with h1 | h1 | h1
  · exact .inl h1
  · exact .inr (.inl h1)
  · rcases List.mem_cons.1 h1 with rfl | h1
    · rcases hv with hv | hv
      · exact .inl hv
      · exact .inr (.inl hv)
    · exact .inr (.inr h1)⟩

theorem NeedI.more {B : Binds} (hB : ∀ b ∈ B, b.2.fairR = true) {W R : List Int} {Q : Binds} {v : Int} {x : Tm} (h : NeedI B W (v :: R) Q) (hx : findB B v = some x) (hv : v ∉ Q.map (·.1)) : NeedI B W (R ++ varsT [x]) (Q ++ [(v, x)]) := by
  have hf : fairRL [x] = true := fairRL_iff.2 fun t ht => by
    rw [List.mem_singleton] at ht; subst ht; exact hB _ (findB_mem hx)
  refine ⟨?_, fun b hb => ?_, fun u hu => ?_⟩
  · rw [List.map_append, List.nodup_append]
    refine ⟨h.nodup, by simp, fun a ha b hb => ?_⟩
    simp only [List.map_cons, List.map_nil, List.mem_singleton] at hb
    subst hb
    exact fun e => hv (e ▸ ha)
  · rcases List.mem_append.1 hb with hb | hb
    · exact h.look b hb
    · rw [List.mem_singleton] at hb; subst hb; exact hx
  · have key : (u ∈ W ∨ ∃ b ∈ Q, u ∈ occ b.2) ∨ u ∈ occ x := by
      rcases hu with hu | ⟨b, hb, hu⟩
      · exact .inl (.inl hu)
      · rcases List.mem_append.1 hb with hb | hb
        · exact .inl (.inr ⟨b, hb, hu⟩)
        · rw [List.mem_singleton] at hb; subst hb; exact .inr hu
    rcases key with hu | hu
    · rcases h.all u hu with h1 | h1 | h1
      · exact .inl h1
      · exact .inr (.inl (by rw [List.map_append]; exact List.mem_append.2 (.inl h1)))
      · rcases List.mem_cons.1 h1 with rfl | h1
        · exact .inr (.inl (by rw [List.map_append]; exact List.mem_append.2 (.inr (by simp))))
        · exact .inr (.inr (List.mem_append.2 (.inl h1)))
    · refine .inr (.inr (List.mem_append.2 (.inr ((varsT_mem hf).2 ?_))))
      simpa [occL] using hu
theorem UG.sub_ {S : List Int} {N : Nat} {T : List (Tm × Tm)} {B : Binds} (h : UG S N T B) : Sub B B.length := h.sol.elim fun _ hs => sub_sol hs h.chain h.fairb

theorem UG.right {S : List Int} {N : Nat} (hN : N ≤ 100) {T : List (Tm × Tm)} {B : Binds} (h : UG S N T B) : rightS B = true := by
  refine rightS_of h.sub_ h.chain.nodup fun b hb => ?_
  obtain ⟨h1, h2, h3⟩ := h.fairb b hb
  have h4 := h.sb b hb
  have h5 := Tm.depth_le_size b.2
  exact ⟨h2, h3, Tm.rightB_iff.2 ⟨h1, by omega, by omega⟩⟩
end Tm
end PSL

namespace Go.Proofs.Ytppghekipbnjhaa
open Go PSL Go.Proofs

set_option maxRecDepth 100000 in
theorem place_ok (l : Binds) (v : Int) (hl : l.length < 1000000000) : PCtr Try.prog 76 [.d (.sl (bindRows l)), iV v] (iV (placeB l v)) := by
  refine PCtr.of_R (pf := fun _ => .still) tyOk mixed Try.func76 rfl (by kernel_rfl) (by kernel_rfl) (by simp [Try.ntmps76]) fun w S hg => ?_
  refine R_run hg.ok 1000 rfl rfl ?_
  refine R_loop (fun k : Nat => ([(0, .d (.sl (bindRows l))), (1, iV v), (5, iV k)], [])) (fun k => k ≤ l.length ∧ placeB l v = atI ((l.drop k).map (·.1)) v k) (fun k => l.length - k) 0 ⟨Nat.zero_le _, rfl⟩ ⟨.refl _, .refl _, .refl _, trivial⟩ rfl ?_
  rintro k ⟨hk, hm⟩
  refine R_run hg.ok 1000 rfl rfl ?_
  refine R_if rfl rfl (fun h => ?_) (fun h => ?_) <;> refine R_run hg.ok 1000 rfl rfl ?_
  · have hk1 : k < l.length := lt_dec h (by rw [bindRows_len])
    have e1 : l[k]? = some l[k] := List.getElem?_eq_getElem hk1
    rw [List.drop_eq_getElem_cons hk1, List.map_cons, atI] at hm
    refine R_index hg.ok rfl rfl rfl rfl rfl rfl (Int.natCast_nonneg k) (bindRows_get e1) rfl ?_
    refine R_run hg.ok 1000 rfl rfl ?_
    refine R_if rfl rfl (fun h => ?_) (fun h => ?_) <;> refine R_run hg.ok 1000 rfl rfl ?_
    · refine R_ret hg 5 rfl rfl ?_
      rw [hm, if_pos (by simpa using h)]; rfl
    · rw [if_neg (by simpa using h)] at hm
      exact R_next (k + 1) ⟨hk1, hm⟩ (by omega) ⟨.refl _, .refl _, Ent.wrap (by omega) (by omega) (by omega), trivial⟩ rfl
  · have hk1 : l.length ≤ k := ge_dec h (by rw [bindRows_len])
    refine R_ret hg 5 rfl rfl ?_
    rw [hm, List.drop_eq_nil_of_le hk1]; rfl
end Go.Proofs.Ytppghekipbnjhaa

namespace Go.Proofs.Ytppghekipbnjhaa
open Go PSL Go.Proofs

set_option maxRecDepth 100000 in
theorem index_ok (B : Binds) (hl : B.length < 1000000000) : PCtr Try.prog 78 [.d (.sl (bindRows B))] (.d (.map (dmI (ixM (B.map (·.1)))))) := by
  refine PCtr.of_R (pf := fun _ => .eff) tyOk mixed Try.func78 rfl (by kernel_rfl) (by kernel_rfl) (by simp [Try.ntmps78]) fun w S hg => ?_
  refine R_run hg.ok 1000 rfl rfl ?_
  refine R_makeMap hg.ok rfl rfl ?_
  refine R_run hg.ok 1000 rfl rfl ?_
  refine R_loop (fun x : Nat × List (Int × AV) => ([(3, .mp 0), (9, .d (.sl (bindRows B))), (10, iV B.length), (11, iV x.1)], [.map (imap x.2)])) (fun x => x.1 ≤ B.length ∧ ixM (B.map (·.1)) = ixGo ((B.map (·.1)).drop x.1) x.1 x.2 ∧ ∀ p ∈ x.2, ∃ n, p.2 = iV n) (fun x => B.length - x.1) (0, []) ⟨Nat.zero_le _, rfl, by simp⟩ ⟨.refl _, .refl _, Ent.int (by rw [bindRows_len]), .refl _, trivial⟩ rfl ?_
  rintro ⟨k, A⟩ ⟨hk, hm, hA⟩
  simp only at hk hm hA
  refine R_run hg.ok 1000 rfl rfl ?_
  refine R_if rfl rfl (fun h => ?_) (fun h => ?_)
  rotate_left
  · have hk1 : B.length ≤ k := ge_dec h rfl
    rw [List.drop_eq_nil_of_le (by simpa using hk1), ixGo] at hm
    rw [hm]
    refine R_freezeM hg.gup 0 (dmI A) (Nat.zero_le _) (by rw [dmI_map hA]; rfl) rfl ?_
    refine R_run hg.ok 1000 rfl rfl ?_
    refine R_ret hg 5 rfl rfl ?_
    rfl
  refine R_run hg.ok 1000 rfl rfl ?_
  have hk1 : k < B.length := lt_dec h rfl
  have e1 : B[k]? = some B[k] := List.getElem?_eq_getElem hk1
  rw [List.drop_eq_getElem_cons (by simpa using hk1), List.getElem_map, ixGo] at hm
  refine R_index hg.ok rfl rfl rfl rfl rfl rfl (Int.natCast_nonneg _) (bindRows_get e1) rfl ?_
  refine R_run hg.ok 1000 rfl rfl ?_
  cases hf : getI A B[k].1 with
  | some x =>
    rw [hf] at hm
    refine R_lookupI hg.ok A rfl rfl rfl rfl rfl rfl rfl (zv := .int .i64 0) (by kernel_rfl) (v := .tup [x, bV true]) (by rw [hf]; rfl) ?_
    obtain ⟨n, rfl⟩ := getI_iv hA hf
    refine R_run hg.ok 1000 rfl rfl ?_
    refine R_if rfl rfl (fun h => absurd h (by simp)) (fun _ => ?_) <;> refine R_run hg.ok 1000 rfl rfl ?_
    refine R_dropO 1 [.map (imap A)] (Nat.zero_le _) rfl (by show [mapOb _ (.map (imap A))] = _; rw [mapOb_iv (fun _ => rfl) hA]) ?_
    exact R_next (k + 1, A) ⟨hk1, hm, hA⟩ (by simp only; omega) ⟨.refl _, .refl _, .refl _, Ent.wrap (by simp only; omega) (by simp only; omega) (by simp only; omega), trivial⟩ rfl
  | none =>
    rw [hf] at hm
    refine R_lookupI hg.ok A rfl rfl rfl rfl rfl rfl rfl (zv := .int .i64 0) (by kernel_rfl) (v := .tup [iV 0, bV false]) (by rw [hf]; rfl) ?_
    refine R_run hg.ok 1000 rfl rfl ?_
    refine R_if rfl rfl (fun _ => ?_) (fun h => absurd h (by simp)) <;> refine R_run hg.ok 1000 rfl rfl ?_
    refine R_mapAddO hg.ok A (A ++ [(B[k].1, iV k)]) rfl rfl rfl rfl rfl rfl rfl hf rfl rfl ?_
    refine R_run hg.ok 1000 rfl rfl ?_
    have hA' : ∀ p ∈ A ++ [(B[k].1, iV (k : Int))], ∃ n, p.2 = iV n := fun p hp => by
      rcases List.mem_append.1 hp with hp | hp
      · exact hA p hp
      · simp at hp; exact ⟨k, by rw [hp]⟩
    refine R_dropO 1 [.map (imap (A ++ [(B[k].1, iV k)]))] (Nat.zero_le _) rfl (by show [mapOb _ (.map (imap (A ++ [(B[k].1, iV k)])))] = _; rw [mapOb_iv (fun _ => rfl) hA']) ?_
    exact R_next (k + 1, A ++ [(B[k].1, iV k)]) ⟨hk1, hm, hA'⟩ (by simp only; omega) ⟨.refl _, .refl _, .refl _, Ent.wrap (by simp only; omega) (by simp only; omega) (by simp only; omega), trivial⟩ rfl

/-- What a walk through the binds turns: which were looked through. -/
def eobjs (B : Binds) (st : List Int) : List Ob := [.box [.ow 4 0], .box [.d (.sl (bindRows B))], .box [.d (.map (dmI (ixM (B.map (·.1)))))], .box [.clo 95 [] [.lo 0 0, .lo 1 0, .lo 2 0, .lo 3 0]], .arr 1 0 (irows st)]

theorem eobjs_map {B : Binds} {f : AV → AV} (h2 : f (.ow 4 0) = .ow 4 0) (h3 : f (.d (.sl (bindRows B))) = .d (.sl (bindRows B))) (h4 : f (.d (.map (dmI (ixM (B.map (·.1)))))) = .d (.map (dmI (ixM (B.map (·.1)))))) (h5 : f (.clo 95 [] [.lo 0 0, .lo 1 0, .lo 2 0, .lo 3 0]) = .clo 95 [] [.lo 0 0, .lo 1 0, .lo 2 0, .lo 3 0]) (st : List Int) : (eobjs B st).map (mapOb f) = eobjs B st := by
  simp only [eobjs, mapOb, List.map_cons, List.map_nil, h2, h3, h4, h5]

theorem getD_get {st : List Int} {i : Nat} (h : i < st.length) : st[i]? = some (st.getD i 0) := by
  rw [List.getElem?_eq_getElem h, List.getD_eq_getElem?_getD, List.getElem?_eq_getElem h]; rfl

set_option maxRecDepth 100000 in
theorem ends_walk (Y : YP) (B : Binds) (hB : ∀ b ∈ B, b.2.size < 400000000) (hBl : B.length < 1000000) : ∀ (f i : Nat) (st : List Int), i < B.length → st.length = B.length → zeros st < f → SCtr Try.prog Y 95 [iV i, .lo 0 0, .lo 1 0, .lo 2 0, .lo 3 0] (eobjs B st) (bV (dfsF (adjB B) f i st).1) (eobjs B (dfsF (adjB B) f i st).2) := by
  intro f
  induction f with
  | zero => intro i st _ _ h; omega
  | succ f ih =>
  intro i st hi hst hz
  have e1 : B[i]? = some B[i] := List.getElem?_eq_getElem hi
  have hsz := hB _ (List.getElem_mem hi)
  refine SCtr.of_R (pf := fun _ => .eff) tyOk mixed Try.func95 rfl (by kernel_rfl) (by kernel_rfl) (by simp [Try.ntmps95]) (by simp [eobjs]) fun w S φ hg => ?_
  have hφ : φ.length = 5 := hg.hs0.len
  have ret : ∀ {r : Bool} {Q : List Int}, dfsF (adjB B) (f + 1) i st = (r, Q) → bV r = bV (dfsF (adjB B) (f + 1) i st).1 ∧ eobjs B Q = eobjs B (dfsF (adjB B) (f + 1) i st).2 := fun e => by rw [e]; exact ⟨rfl, rfl⟩
  have keep : ∀ (Q : List Int) (o : List Ob), (eobjs B Q).map (mapOb (sealT false 5 o 5)) = eobjs B Q := fun Q o => eobjs_map rfl rfl rfl rfl Q
  have hget : ∀ {Q : List Int}, Q.length = B.length → (irows Q)[((i : Nat) : Int).toNat]? = some [.v (.int .i64 (Q.getD i 0))] := fun h => irows_get (getD_get (by omega))
  refine R_run hg.ok 1000 rfl rfl ?_
  refine R_indexO hg.ok rfl rfl rfl rfl rfl rfl rfl rfl rfl (Int.natCast_nonneg i) (by rw [irows_length]; simpa [hst] using hi) ?_
  refine R_run hg.ok 1000 rfl rfl ?_
  refine R_loadE hg.ok rfl rfl rfl rfl rfl rfl (hget hst) rfl ?_
  refine R_run hg.ok 1000 rfl rfl ?_
  refine R_if rfl rfl (fun h0 => ?_) (fun h0 => ?_) <;> refine R_run hg.ok 1000 rfl rfl ?_
  · have h0 : ¬ st.getD i 0 = 0 := by simpa using h0
    refine R_indexO hg.ok rfl rfl rfl rfl rfl rfl rfl rfl rfl (Int.natCast_nonneg i) (by rw [irows_length]; simpa [hst] using hi) ?_
    refine R_run hg.ok 1000 rfl rfl ?_
    refine R_loadE hg.ok rfl rfl rfl rfl rfl rfl (hget hst) rfl ?_
    refine R_run hg.ok 1000 rfl rfl ?_
    have e := ret (r := st.getD i 0 == 2) (Q := st) (by simp only [dfsF, if_pos h0]; congr 1)
    rw [← e.1, ← e.2]
    exact R_retS hg 5 5 (Nat.le_refl _) rfl rfl (keep st _)
  have h0 : st.getD i 0 = 0 := by simpa using h0
  have hdf : dfsF (adjB B) (f + 1) i st = if (dfsL (dfsF (adjB B) f) (adjB B i) (st.set i 1)).1 then (true, (dfsL (dfsF (adjB B) f) (adjB B i) (st.set i 1)).2.set i 2) else (false, (dfsL (dfsF (adjB B) f) (adjB B i) (st.set i 1)).2) := by
    simp only [dfsF]; rw [if_neg (by simpa using h0)]
  have hz1 := (zeros_set st i 1 (by omega)).2 (by omega) h0
  refine R_indexO hg.ok rfl rfl rfl rfl rfl rfl rfl rfl rfl (Int.natCast_nonneg i) (by rw [irows_length]; simpa [hst] using hi) ?_
  refine R_run hg.ok 1000 rfl rfl ?_
  refine R_storeEO hg.ok (irows (st.set i 1)) rfl rfl rfl rfl rfl (hget hst) rfl rfl rfl (by decide) irows_set ?_
  refine R_run hg.ok 1000 rfl rfl ?_
  refine R_index hg.ok rfl rfl rfl rfl rfl rfl (Int.natCast_nonneg i) (bindRows_get e1) rfl ?_
  refine R_run hg.ok 1000 rfl rfl ?_
  refine R_call hg.ok ((vars_ok [B[i].2] (by simp [Tm.sizeL]; omega)).one) rfl rfl rfl rfl rfl rfl ?_
  refine R_run hg.ok 1000 rfl rfl ?_
  have hvl : (varsT [B[i].2]).length ≤ Tm.sizeL [B[i].2] := by have := varsF_len [B[i].2] []; simpa [varsF, varsT] using this
  simp only [Tm.sizeL] at hvl
  rw [placesOf e1] at hdf
  generalize varsT [B[i].2] = V at hdf hvl ⊢
  refine R_loop (fun x : Nat × List Int => ([(0, iV i), (1, .lo 0 0), (3, .lo 2 0), (4, .lo 3 0), (30, .d (.sl (irows V))), (31, iV V.length), (32, iV x.1)], eobjs B x.2))
    (fun x => x.1 ≤ V.length ∧ dfsL (dfsF (adjB B) f) (V.filterMap fun v => if placeB B v < 0 then none else some (placeB B v).toNat) (st.set i 1) = dfsL (dfsF (adjB B) f) ((V.drop x.1).filterMap fun v => if placeB B v < 0 then none else some (placeB B v).toNat) x.2 ∧ x.2.length = B.length ∧ zeros x.2 ≤ zeros (st.set i 1)) (fun x => V.length - x.1) (0, st.set i 1)
    ⟨Nat.zero_le _, rfl, by simp [hst], Nat.le_refl _⟩ ⟨.refl _, .refl _, .refl _, .refl _, .refl _, Ent.int (by rw [irows_length]), .refl _, trivial⟩ rfl ?_
  rintro ⟨k, Q⟩ ⟨hk, hm, hQ, hzQ⟩
  simp only at hk hm hQ hzQ
  refine R_run hg.ok 1000 rfl rfl ?_
  refine R_if rfl rfl (fun h => ?_) (fun h => ?_) <;> refine R_run hg.ok 1000 rfl rfl ?_
  · have hk1 : k < V.length := lt_dec h rfl
    have e2 : V[k]? = some V[k] := List.getElem?_eq_getElem hk1
    rw [List.drop_eq_getElem_cons hk1, List.filterMap_cons] at hm
    refine R_index hg.ok rfl rfl rfl rfl rfl rfl (Int.natCast_nonneg _) (irows_get e2) rfl ?_
    refine R_run hg.ok 1000 rfl rfl ?_
    have hgi := getI_ix (B.map (·.1)) V[k]
    by_cases hp : placeB B V[k] < 0
    · rw [show atI (B.map (·.1)) V[k] 0 = placeB B V[k] from rfl, if_pos hp] at hgi
      rw [if_pos hp] at hm
      refine R_lookupDI hg.ok (ixM (B.map (·.1))) (ixM_iv _) rfl rfl rfl rfl rfl rfl (zv := .int .i64 0) (by kernel_rfl) (v := .tup [iV 0, bV false]) (by rw [hgi]; rfl) ?_
      refine R_run hg.ok 1000 rfl rfl ?_
      refine R_if rfl rfl (fun h => absurd h (by simp)) (fun _ => ?_) <;> refine R_run hg.ok 1000 rfl rfl ?_
      exact R_next (k + 1, Q) ⟨hk1, hm, hQ, hzQ⟩ (by simp only; omega) ⟨.refl _, .refl _, .refl _, .refl _, .refl _, .refl _, Ent.wrap (by simp only; omega) (by simp only; omega) (by simp only; omega), trivial⟩ rfl
    · rw [show atI (B.map (·.1)) V[k] 0 = placeB B V[k] from rfl, if_neg hp] at hgi
      rw [if_neg hp] at hm
      obtain ⟨j, hj, hjl⟩ : ∃ j : Nat, placeB B V[k] = j ∧ j < B.length := by
        rcases placeB_find B V[k] with ⟨h1, _⟩ | ⟨j, t, h1, h2, _⟩
        · exact absurd h1 hp
        · exact ⟨j, h1, (List.getElem?_eq_some_iff.1 h2).1⟩
      rw [hj] at hgi hm
      simp only [Int.toNat_natCast, dfsL] at hm
      refine R_lookupDI hg.ok (ixM (B.map (·.1))) (ixM_iv _) rfl rfl rfl rfl rfl rfl (zv := .int .i64 0) (by kernel_rfl) (v := .tup [iV j, bV true]) (by rw [hgi]; rfl) ?_
      refine R_run hg.ok 1000 rfl rfl ?_
      refine R_if rfl rfl (fun _ => ?_) (fun h => absurd h (by simp)) <;> refine R_run hg.ok 1000 rfl rfl ?_
      have hcall := ih j Q hjl hQ (by omega)
      have hsh := dfs_shape (adjB B) f j Q
      generalize hr : dfsF (adjB B) f j Q = rq at hcall hm hsh
      obtain ⟨r, Q'⟩ := rq
      have hren : ∀ (n : Nat) (Z : List Int), (eobjs B Z).map (renOb (rn [0, 1, 2, 3, 4] n)) = eobjs B Z := fun n Z => by
        have e : (renOb (rn [0, 1, 2, 3, 4] n)) = mapOb (renA (rn [0, 1, 2, 3, 4] n)) := by funext o; cases o <;> simp [renOb, mapOb, renL_map]
        rw [e]; exact eobjs_map rfl rfl rfl rfl Z
      refine R_callSO hg.ok hg.gup hg.wide hg.Y [0, 1, 2, 3, 4] (eobjs B Q') hcall (fun _ => rfl) rfl rfl rfl rfl rfl (by rw [hren]; rfl) rfl (by rw [hren]; rfl) ?_
      refine R_run hg.ok 1000 rfl rfl ?_
      refine R_if rfl rfl (fun h => ?_) (fun h => ?_) <;> refine R_run hg.ok 1000 rfl rfl ?_
      · have hr0 : r = false := by simpa using h
        subst hr0
        have e := ret (r := false) (Q := Q') (by rw [hdf, hm]; simp)
        rw [← e.1, ← e.2]
        exact R_retS hg 5 5 (Nat.le_refl _) rfl rfl (keep Q' _)
      · have hr0 : r = true := by simpa using h
        subst hr0
        refine R_next (k + 1, Q') ⟨hk1, by rw [hm]; simp, by rw [← hQ]; exact hsh.1, by have := hsh.2; simp only at this ⊢; omega⟩ (by simp only; omega) ⟨.refl _, .refl _, .refl _, .refl _, .refl _, .refl _, Ent.wrap (by simp only; omega) (by simp only; omega) (by simp only; omega), trivial⟩ rfl
  · have hk1 : V.length ≤ k := ge_dec h rfl
    rw [List.drop_eq_nil_of_le hk1] at hm
    refine R_indexO hg.ok rfl rfl rfl rfl rfl rfl rfl rfl rfl (Int.natCast_nonneg i) (by rw [irows_length]; simpa [hQ] using hi) ?_
    refine R_run hg.ok 1000 rfl rfl ?_
    refine R_storeEO hg.ok (irows (Q.set i 2)) rfl rfl rfl rfl rfl (hget hQ) rfl rfl rfl (by decide) irows_set ?_
    refine R_run hg.ok 1000 rfl rfl ?_
    have e := ret (r := true) (Q := Q.set i 2) (by rw [hdf, hm]; rfl)
    rw [← e.1, ← e.2]
    exact R_retS hg 5 5 (Nat.le_refl _) rfl rfl (keep (Q.set i 2) _)
end Go.Proofs.Ytppghekipbnjhaa

namespace Go.Proofs.Ytppghekipbnjhaa
open Go PSL Go.Proofs

/-- What binds must be to be gone through. -/
structure Small (B : Binds) : Prop where
  len : B.length ≤ 4000
  size : ∀ b ∈ B, b.2.size < 400000000
  name : ∀ b ∈ B, ∀ x e, e ∈ b.2.els x → e.2.s.size < 1000000000

theorem dfsAll_drop {adj : Nat → List Nat} {n i : Nat} (h : i < n) (st : List Int) : dfsAll adj n ((List.range n).drop i) st = if (dfsF adj (n + 1) i st).1 then dfsAll adj n ((List.range n).drop (i + 1)) (dfsF adj (n + 1) i st).2 else false := by
  rw [List.drop_eq_getElem_cons (by simpa using h), List.getElem_range, dfsAll]
theorem irows_zero (n : Nat) : List.replicate n [D.v (.int .i64 0)] = irows (List.replicate n 0) := by simp [irows, irow]

set_option maxRecDepth 100000 in
theorem subRight_ok (B : Binds) (hB : Small B) : PCtr Try.prog 77 [.d (.sl (bindRows B))] (bV (rightS B)) := by
  have hl := hB.len
  refine PCtr.of_R (pf := fun _ => .still) tyOk mixed Try.func77 rfl (by kernel_rfl) (by kernel_rfl) (by simp [Try.ntmps77]) fun w S hg => ?_
  refine R_run hg.ok 1000 rfl rfl ?_
  refine R_call hg.ok (index_ok B (by omega)) rfl rfl rfl rfl rfl rfl ?_
  refine R_run hg.ok 1000 rfl rfl ?_
  refine R_lenM hg.ok rfl rfl rfl rfl (n := ((ixM (B.map (·.1))).length : Int)) (by rw [dmI_len]) ?_
  refine R_run hg.ok 1000 rfl rfl ?_
  refine R_if rfl rfl (fun h => ?_) (fun h => ?_) <;> refine R_run hg.ok 1000 rfl rfl ?_
  · have h := of_decide_eq_true h
    refine R_ret hg 5 rfl rfl ?_
    rw [bindRows_len] at h
    have : (ixM (B.map (·.1))).length < B.length := by omega
    simp only [rightS]; rw [decide_eq_true this]; rfl
  have h := of_decide_eq_false h
  rw [bindRows_len] at h
  have hr1 : rightS B = (fineB B && dfsAll (adjB B) B.length (List.range B.length) (List.replicate B.length 0)) := by
    unfold rightS; rw [decide_eq_false (by omega)]; simp
  refine R_loop (fun k : Nat => ([(1, .lo 0 0), (3, .lo 1 0), (16, .d (.sl (bindRows B))), (17, iV B.length), (18, iV k)], [.box [.d (.sl (bindRows B))], .box [.d (.map (dmI (ixM (B.map (·.1)))))]])) (fun k => k ≤ B.length ∧ fineB B = fineB (B.drop k)) (fun k => B.length - k) 0 ⟨Nat.zero_le _, rfl⟩ ⟨.refl _, .refl _, .refl _, Ent.int (by rw [bindRows_len]), .refl _, trivial⟩ rfl ?_
  rintro k ⟨hk, hm⟩
  refine R_run hg.ok 1000 rfl rfl ?_
  refine R_if rfl rfl (fun h => ?_) (fun h => ?_) <;> refine R_run hg.ok 1000 rfl rfl ?_
  · have hk1 : k < B.length := lt_dec h rfl
    have e1 : B[k]? = some B[k] := List.getElem?_eq_getElem hk1
    rw [List.drop_eq_getElem_cons hk1] at hm
    simp only [fineB, List.all_cons] at hm
    have bad : fineB B = false → AV.d (.v (.bool false)) = bV (rightS B) := fun h => by rw [hr1, h]; rfl
    refine R_index hg.ok rfl rfl rfl rfl rfl rfl (Int.natCast_nonneg _) (bindRows_get e1) rfl ?_
    refine R_run hg.ok 1000 rfl rfl ?_
    refine R_if rfl rfl (fun h1 => ?_) (fun h1 => ?_) <;> refine R_run hg.ok 1000 rfl rfl ?_
    · have h1 := of_decide_eq_true h1
      refine R_ret hg 5 rfl rfl ?_
      exact bad (by unfold fineB; rw [hm, decide_eq_false (by omega : ¬ 0 ≤ B[k].1)]; simp)
    have h1 := of_decide_eq_false h1
    refine R_if rfl rfl (fun h2 => ?_) (fun h2 => ?_) <;> refine R_run hg.ok 1000 rfl rfl ?_
    · have h2 := of_decide_eq_true h2
      refine R_ret hg 5 rfl rfl ?_
      exact bad (by unfold fineB; rw [hm, decide_eq_false (by omega : ¬ B[k].1 < 1000000)]; simp)
    have h2 := of_decide_eq_false h2
    refine R_call hg.ok (right_ok B[k].2 (by have := hB.size _ (List.getElem_mem hk1); omega) (hB.name _ (List.getElem_mem hk1) 1)) rfl rfl rfl rfl rfl rfl ?_
    refine R_run hg.ok 1000 rfl rfl ?_
    rw [rightT_eq]
    refine R_if rfl rfl (fun h3 => ?_) (fun h3 => ?_) <;> refine R_run hg.ok 1000 rfl rfl ?_
    · refine R_ret hg 5 rfl rfl ?_
      exact bad (by unfold fineB; rw [hm, show B[k].2.rightB = false by simpa using h3]; simp)
    · refine R_dropO 2 [.box [.d (.sl (bindRows B))], .box [.d (.map (dmI (ixM (B.map (·.1)))))]] (Nat.zero_le _) rfl rfl ?_
      refine R_next (k + 1) ⟨hk1, ?_⟩ (by omega) ⟨.refl _, .refl _, .refl _, .refl _, Ent.wrap (by omega) (by omega) (by omega), trivial⟩ rfl
      unfold fineB
      rw [hm, show B[k].2.rightB = true by simpa using h3, decide_eq_true (by omega : 0 ≤ B[k].1), decide_eq_true (by omega : B[k].1 < 1000000)]
      simp
  have hk1 : B.length ≤ k := ge_dec h rfl
  rw [List.drop_eq_nil_of_le hk1] at hm
  have hr2 : rightS B = dfsAll (adjB B) B.length (List.range B.length) (List.replicate B.length 0) := by rw [hr1, hm]; simp [fineB]
  refine R_makeSlice hg.ok (irows (List.replicate B.length 0)) rfl rfl rfl rfl rfl rfl (by rw [bindRows_len]; omega) (by rw [bindRows_len]; omega) (by rw [bindRows_len]; omega) (by rw [bindRows_len]; exact irows_zero B.length) ?_
  refine R_run hg.ok 1000 rfl rfl ?_
  refine R_loop (fun x : Nat × List Int => ([(7, .lo 4 0), (42, iV B.length), (43, iV x.1)], [.box [.d (.sl (bindRows B))], .box [.d (.map (dmI (ixM (B.map (·.1)))))], .arr 1 0 (irows x.2), .box [.ow 2 0], .box [.clo 95 [] [.lo 3 0, .lo 0 0, .lo 1 0, .lo 4 0]]]))
    (fun x => x.1 ≤ B.length ∧ rightS B = dfsAll (adjB B) B.length ((List.range B.length).drop x.1) x.2 ∧ x.2.length = B.length) (fun x => B.length - x.1) (0, List.replicate B.length 0) ⟨Nat.zero_le _, hr2, by simp⟩ ⟨.refl _, Ent.int (by rw [bindRows_len]), .refl _, trivial⟩ rfl ?_
  rintro ⟨k, st⟩ ⟨hk, hm, hst⟩
  simp only at hk hm hst
  refine R_run hg.ok 1000 rfl rfl ?_
  refine R_if rfl rfl (fun h => ?_) (fun h => ?_) <;> refine R_run hg.ok 1000 rfl rfl ?_
  · have hk1 : k < B.length := lt_dec h rfl
    rw [dfsAll_drop hk1] at hm
    have hz : zeros st < B.length + 1 := by
      have : zeros st ≤ st.length := List.countP_le_length
      omega
    have hcall := ends_walk ⟨[], fun _ => true⟩ B hB.size (by omega) (B.length + 1) k st hk1 hst hz
    have hsh := dfs_shape (adjB B) (B.length + 1) k st
    generalize dfsF (adjB B) (B.length + 1) k st = rq at hcall hm hsh
    obtain ⟨r, Q⟩ := rq
    refine R_callSO hg.ok hg.gup ⟨rfl, rfl⟩ (fun _ _ _ _ h => by cases h) [3, 0, 1, 4, 2] [.box [.d (.sl (bindRows B))], .box [.d (.map (dmI (ixM (B.map (·.1)))))], .arr 1 0 (irows Q), .box [.ow 2 0], .box [.clo 95 [] [.lo 3 0, .lo 0 0, .lo 1 0, .lo 4 0]]] hcall (fun _ => rfl) rfl rfl rfl rfl rfl rfl rfl rfl ?_
    refine R_run hg.ok 1000 rfl rfl ?_
    refine R_if rfl rfl (fun h => ?_) (fun h => ?_) <;> refine R_run hg.ok 1000 rfl rfl ?_
    · refine R_ret hg 5 rfl rfl ?_
      have hr0 : r = false := by simpa using h
      rw [hm, hr0]; rfl
    · have hr0 : r = true := by simpa using h
      exact R_next (k + 1, Q) ⟨hk1, by rw [hm, hr0]; rfl, by rw [← hst]; exact hsh.1⟩ (by simp only; omega) ⟨.refl _, .refl _, Ent.wrap (by simp only; omega) (by simp only; omega) (by simp only; omega), trivial⟩ rfl
  · have hk1 : B.length ≤ k := ge_dec h rfl
    refine R_ret hg 5 rfl rfl ?_
    rw [hm, List.drop_eq_nil_of_le (by simpa using hk1)]; rfl

/-- What a copy turns: how much is left. -/
def bobjs (B : Binds) (left : Int) : List Ob := [.box [.d (.map (dmI (ixM (B.map (·.1)))))], .box [.d (.sl (bindRows B))], .box [iV left], .box [.clo 96 [] [.lo 0 0, .lo 1 0, .lo 2 0, .lo 3 0]]]

theorem bobjs_map {B : Binds} {f : AV → AV} (h1 : ∀ n, f (iV n) = iV n) (h3 : f (.d (.sl (bindRows B))) = .d (.sl (bindRows B))) (h4 : f (.d (.map (dmI (ixM (B.map (·.1)))))) = .d (.map (dmI (ixM (B.map (·.1)))))) (h5 : f (.clo 96 [] [.lo 0 0, .lo 1 0, .lo 2 0, .lo 3 0]) = .clo 96 [] [.lo 0 0, .lo 1 0, .lo 2 0, .lo 3 0]) (left : Int) : (bobjs B left).map (mapOb f) = bobjs B left := by
  simp only [bobjs, mapOb, List.map_cons, List.map_nil, h1, h3, h4, h5]
def zBxS : Ob := .box [.d (.v (.int .i64 0)), .d (.v (.string ByteArray.empty)), .d (.v (.int .i64 0)), .d (.v (.slice none 0 0))]

theorem rowsMap_snoc (F : Tm → Tm) {l : List Tm} {k : Nat} {x : Tm} (h : l[k]? = some x) : Tm.rows ((l.take k).map F) ++ [[.v (.int .i64 (F x).k), .v (.string (F x).s), .v (.int .i64 (F x).n), .sl (Tm.rows (F x).l)]] = Tm.rows ((l.take (k + 1)).map F) := by
  rw [List.take_add_one, h]; simp [Tm.rows_eq, Tm.row]

set_option maxRecDepth 100000 in
theorem build_walk (Y : YP) (B : Binds) (M : Nat) (hS : Sub B M) (hBl : B.length ≤ 4000) : ∀ (N : Nat) (t : Tm) (left deep : Int), (fullS B M t).size ≤ N → t.fairR = true → 0 ≤ left → left ≤ 3000 → 1 ≤ deep → deep ≤ 200 →
    SCtr Try.prog Y 96 [t.av, iV deep, .lo 0 0, .lo 1 0, .lo 2 0, .lo 3 0] (bobjs B left) (.tup [(if (Tm.bldN (fullS B M t) left deep).1 then fullS B M t else zeroT).av, bV (Tm.bldN (fullS B M t) left deep).1]) (bobjs B (Tm.bldN (fullS B M t) left deep).2) := by
  intro N
  induction N with
  | zero => intro t _ _ h; have := Tm.size_eq (fullS B M t); omega
  | succ N ih =>
  intro t left deep hN hf hl0 hl1 hd0 hd1
  refine SCtr.of_R (pf := fun _ => .eff) tyOk mixed Try.func96 rfl (by kernel_rfl) (by kernel_rfl) (by simp [Try.ntmps96]) (by simp [bobjs]) fun w S φ hg => ?_
  have hφ : φ.length = 4 := hg.hs0.len
  have ret : ∀ {r : Bool} {q : Int}, Tm.bldN (fullS B M t) left deep = (r, q) → AV.tup [(if r then fullS B M t else zeroT).av, bV r] = .tup [(if (Tm.bldN (fullS B M t) left deep).1 then fullS B M t else zeroT).av, bV (Tm.bldN (fullS B M t) left deep).1] ∧ bobjs B q = bobjs B (Tm.bldN (fullS B M t) left deep).2 := fun e => by rw [e]; exact ⟨rfl, rfl⟩
  have keep : ∀ (q : Int) (o : List Ob), (bobjs B q).map (mapOb (sealT false 4 o 5)) = bobjs B q := fun q o => bobjs_map (fun _ => rfl) rfl rfl rfl q
  refine R_run hg.ok 1000 rfl rfl ?_
  -- the way from bound variable to bound variable
  refine R_cut2 (fun u : Tm => ([(1, iV deep), (2, .lo 0 0), (3, .lo 1 0), (4, .lo 2 0), (5, .lo 3 0), (6, .lo 4 0), (8, .lo 5 0)], bobjs B left ++ [boxR u, zBxS])) (fun u => u.fairR = true ∧ fullS B M t = fullS B M u ∧ (u.k = 1 → findB B u.n = none)) rfl ?_ ?_
  · refine R_loop (fun x : Nat × Tm => ([(1, iV deep), (2, .lo 0 0), (3, .lo 1 0), (4, .lo 2 0), (5, .lo 3 0), (6, .lo 4 0), (8, .lo 5 0)], bobjs B left ++ [boxR x.2, zBxS])) (fun x => x.2.fairR = true ∧ fullS B M t = fullS B M x.2 ∧ levT B x.1 x.2) (fun x => x.1) (M, t) ⟨hf, rfl, hS.lev t⟩ ⟨.refl _, .refl _, .refl _, .refl _, .refl _, .refl _, .refl _, trivial⟩ rfl ?_
    rintro ⟨m, u⟩ ⟨hu, hfu, hlu⟩
    simp only at hu hfu hlu
    refine R_run hg.ok 1000 rfl rfl ?_
    refine R_if rfl rfl (fun hk0 => ?_) (fun hk0 => ?_) <;> refine R_run hg.ok 1000 rfl rfl ?_
    · have hk : u.k = 1 := by simpa using hk0
      have hgi := getI_ix (B.map (·.1)) u.n
      rcases placeB_find B u.n with ⟨h1, h2⟩ | ⟨j, x, h1, h2, h3⟩
      · rw [show atI (B.map (·.1)) u.n 0 = placeB B u.n from rfl, if_pos h1] at hgi
        refine R_lookupDI hg.ok (ixM (B.map (·.1))) (ixM_iv _) rfl rfl rfl rfl rfl rfl (zv := .int .i64 0) (by kernel_rfl) (v := .tup [iV 0, bV false]) (by rw [hgi]; rfl) ?_
        refine R_run hg.ok 1000 rfl rfl ?_
        refine R_if rfl rfl (fun _ => ?_) (fun h => absurd h (by simp)) <;> refine R_run hg.ok 1000 rfl rfl ?_
        exact R_to u ⟨hu, hfu, fun _ => h2⟩ ⟨.refl _, .refl _, .refl _, .refl _, .refl _, .refl _, .refl _, trivial⟩ rfl
      · rw [show atI (B.map (·.1)) u.n 0 = placeB B u.n from rfl, h1, if_neg (by omega)] at hgi
        refine R_lookupDI hg.ok (ixM (B.map (·.1))) (ixM_iv _) rfl rfl rfl rfl rfl rfl (zv := .int .i64 0) (by kernel_rfl) (v := .tup [iV j, bV true]) (by rw [hgi]; rfl) ?_
        refine R_run hg.ok 1000 rfl rfl ?_
        refine R_if rfl rfl (fun h => absurd h (by simp)) (fun _ => ?_) <;> refine R_run hg.ok 1000 rfl rfl ?_
        refine R_index hg.ok rfl rfl rfl rfl rfl rfl (Int.natCast_nonneg _) (bindRows_get h2) rfl ?_
        refine R_run hg.ok 1000 rfl rfl ?_
        obtain ⟨q, rfl, hq⟩ := lev_find hS.fair hlu (occ_var hk) h3
        exact R_next (q, x) ⟨hS.fair _ (List.mem_of_getElem? h2), by rw [hfu]; exact hS.bound hu hk h3, hq⟩ (by simp only; omega) ⟨.refl _, .refl _, .refl _, .refl _, .refl _, .refl _, .refl _, trivial⟩ rfl
    · have hk : ¬ u.k = 1 := by simpa using hk0
      exact R_to u ⟨hu, hfu, fun h => absurd h hk⟩ ⟨.refl _, .refl _, .refl _, .refl _, .refl _, .refl _, .refl _, trivial⟩ rfl
  rintro u ⟨hu, hfu, hnu⟩
  have hhead := hS.head hu hnu
  have hc := Tm.bldN_eq (fullS B M t) left deep
  have hTl : (fullS B M t).l = u.l.map (fullS B M) := by rw [hfu, hhead]; rfl
  rw [hTl] at hc
  refine R_run hg.ok 1000 rfl rfl ?_
  rw [w64 (n := left - 1) (by omega) (by omega)]
  refine R_if rfl rfl (fun h1 => ?_) (fun h1 => ?_) <;> refine R_run hg.ok 1000 rfl rfl ?_
  · have h1 := of_decide_eq_true h1
    have e := ret (r := false) (q := left - 1) (by rw [hc, if_pos (.inl h1)])
    rw [← e.1, ← e.2]
    exact R_retS hg 4 5 (Nat.le_refl _) rfl rfl (keep _ _)
  have h1 := of_decide_eq_false h1
  refine R_if rfl rfl (fun h2 => ?_) (fun h2 => ?_) <;> refine R_run hg.ok 1000 rfl rfl ?_
  · have h2 := of_decide_eq_true h2
    have e := ret (r := false) (q := left - 1) (by rw [hc, if_pos (.inr h2)])
    rw [← e.1, ← e.2]
    exact R_retS hg 4 5 (Nat.le_refl _) rfl rfl (keep _ _)
  have h2 := of_decide_eq_false h2
  rw [if_neg (by omega)] at hc
  have hszT := Tm.size_eq (fullS B M t)
  rw [hTl] at hszT
  have hll := Tm.len_le_sizeL (u.l.map (fullS B M))
  rw [List.length_map] at hll
  refine R_ownB 6 3 4 rfl rfl rfl ?_
  refine R_loop (fun x : Nat × Int => ([(1, iV deep), (5, .lo 3 0), (8, .lo 5 0), (12, .lo 6 0), (46, .d (.sl (Tm.rows u.l))), (47, iV u.l.length), (48, iV x.1)], bobjs B x.2 ++ [boxR u, zBxS, .box [.d (.v (.int .i64 u.k)), .d (.v (.string u.s)), .d (.v (.int .i64 u.n)), .ow 7 x.1], .arr 4 x.1 (Tm.rows ((u.l.take x.1).map (fullS B M)))]))
    (fun x => x.1 ≤ u.l.length ∧ Tm.bldNL (u.l.map (fullS B M)) (left - 1) (deep + 1) = Tm.bldNL ((u.l.drop x.1).map (fullS B M)) x.2 (deep + 1) ∧ 0 ≤ x.2 ∧ x.2 + x.1 ≤ left - 1) (fun x => u.l.length - x.1) (0, left - 1) ⟨Nat.zero_le _, rfl, by simp only; omega, by simp only; omega⟩ ⟨.refl _, .refl _, .refl _, .refl _, .refl _, Ent.int (by rw [Tm.rows_length]), .refl _, trivial⟩ rfl ?_
  rintro ⟨k, q⟩ ⟨hk, hm, hq0, hq1⟩
  simp only at hk hm hq0 hq1
  refine R_run hg.ok 1000 rfl rfl ?_
  refine R_if rfl rfl (fun h => ?_) (fun h => ?_) <;> refine R_run hg.ok 1000 rfl rfl ?_
  · have hk1 : k < u.l.length := lt_dec h rfl
    have e1 : u.l[k]? = some u.l[k] := List.getElem?_eq_getElem hk1
    rw [List.drop_eq_getElem_cons hk1, List.map_cons, Tm.bldNL] at hm
    have hsm : (fullS B M u.l[k]).size ≤ Tm.sizeL (u.l.map (fullS B M)) := Tm.size_mem (List.mem_map_of_mem (List.getElem_mem hk1))
    refine R_index hg.ok rfl rfl rfl rfl rfl rfl (Int.natCast_nonneg _) (Tm.rows_get e1) rfl ?_
    refine R_run hg.ok 1000 rfl rfl ?_
    have hcall := ih u.l[k] q (deep + 1) (by omega) (Sub.kid_fair hu (List.getElem_mem hk1)) hq0 (by omega) (by omega) (by omega)
    have hbd := Tm.bldN_ok (fullS B M u.l[k]) q (deep + 1) hq0 (by omega)
    have hsz1 := Tm.size_eq (fullS B M u.l[k])
    generalize hrr : Tm.bldN (fullS B M u.l[k]) q (deep + 1) = rq at hcall hm hbd
    obtain ⟨r, q'⟩ := rq
    have hren : ∀ (n : Nat) (Z : Int), (bobjs B Z).map (renOb (rn [0, 1, 2, 3] n)) = bobjs B Z := fun n Z => by
      have e : (renOb (rn [0, 1, 2, 3] n)) = mapOb (renA (rn [0, 1, 2, 3] n)) := by funext o; cases o <;> simp [renOb, mapOb, renL_map]
      rw [e]; exact bobjs_map (fun _ => rfl) rfl rfl rfl Z
    rw [w64 (n := deep + 1) (by omega) (by omega)]
    refine R_callSO hg.ok hg.gup hg.wide hg.Y [0, 1, 2, 3] (bobjs B q' ++ [boxR u, zBxS, .box [.d (.v (.int .i64 u.k)), .d (.v (.string u.s)), .d (.v (.int .i64 u.n)), .ow 7 k], .arr 4 k (Tm.rows ((u.l.take k).map (fullS B M))), boxR u.l[k]]) hcall (fun _ => rfl) rfl rfl rfl rfl rfl (by rw [hren]; rfl) rfl (by rw [hren]; rfl) ?_
    cases r with
    | false =>
      refine R_run hg.ok 1000 rfl rfl ?_
      refine R_if rfl rfl (fun _ => ?_) (fun h => absurd h (by simp)) <;> refine R_run hg.ok 1000 rfl rfl ?_
      have e := ret (r := false) (q := q') (by rw [hc, hm]; simp)
      rw [← e.1, ← e.2]
      exact R_retS hg 4 5 (Nat.le_refl _) rfl rfl (keep _ _)
    | true =>
      refine R_run hg.ok 1000 rfl rfl ?_
      refine R_if rfl rfl (fun h => absurd h (by simp)) (fun _ => ?_) <;> refine R_run hg.ok 1000 rfl rfl ?_
      refine R_appendO hg.ok (Tm.rows ((u.l.take (k + 1)).map (fullS B M))) rfl rfl rfl rfl rfl rfl rfl rfl rfl (by simp) (by simp [one1]) (rowsMap_snoc (fullS B M) e1) (by rw [Tm.rows_length]; simp; omega) (by rw [Tm.rows_length]; simp; omega) ?_
      refine R_run hg.ok 1000 rfl rfl ?_
      refine R_dropO 8 (bobjs B q' ++ [boxR u, zBxS, .box [.d (.v (.int .i64 u.k)), .d (.v (.string u.s)), .d (.v (.int .i64 u.n)), .ow 7 (k + 1)], .arr 4 (k + 1) (Tm.rows ((u.l.take (k + 1)).map (fullS B M)))]) (by show φ.length ≤ _; omega) rfl (by show (bobjs B q').map _ ++ _ = _; rw [bobjs_map (fun _ => rfl) rfl rfl rfl]; rfl) ?_
      have hq' := hbd.2.1 rfl
      have hle := hbd.1.1 rfl
      simp only at hq'
      exact R_next (k + 1, q') ⟨hk1, by rw [hm]; simp, by simp only; omega, by simp only; omega⟩ (by simp only; omega) ⟨.refl _, .refl _, .refl _, .refl _, .refl _, .refl _, Ent.wrap (by simp only; omega) (by simp only; omega) (by simp only; omega), trivial⟩ rfl
  · have hk1 : u.l.length ≤ k := ge_dec h rfl
    rw [List.drop_eq_nil_of_le hk1] at hm
    have e := ret (r := true) (q := q) (by rw [hc, hm]; rfl)
    rw [← e.1, ← e.2]
    rw [List.take_of_length_le hk1]
    have hT : (if true = true then fullS B M t else zeroT) = .mk u.k u.s u.n (u.l.map (fullS B M)) := by simp only [if_true]; rw [hfu, hhead]
    rw [hT]
    refine R_retS hg 4 5 (Nat.le_refl _) rfl ?_ (keep q _)
    exact congrArg (fun x => AV.tup [x, bV true]) (sealT_term (a' := .d (.v (.int .i64 u.k))) (b' := .d (.v (.string u.s))) (c' := .d (.v (.int .i64 u.n))) rfl rfl rfl rfl rfl)
end Go.Proofs.Ytppghekipbnjhaa

namespace Go.Proofs.Ytppghekipbnjhaa
open Go PSL Go.Proofs

set_option maxRecDepth 100000 in
theorem become_ok (B : Binds) (M : Nat) (hS : Sub B M) (hBl : B.length ≤ 4000) (t : Tm) (hf : t.fairR = true) : PCtr Try.prog 79 [.d (.sl (bindRows B)), .d (.map (dmI (ixM (B.map (·.1))))), t.av] (.tup [(if (Tm.bldN (fullS B M t) 3000 1).1 then fullS B M t else zeroT).av, bV (Tm.bldN (fullS B M t) 3000 1).1]) := by
  refine PCtr.of_R (pf := fun _ => .eff) tyOk mixed Try.func79 rfl (by kernel_rfl) (by kernel_rfl) (by simp [Try.ntmps79]) fun w S hg => ?_
  refine R_run hg.ok 1000 rfl rfl ?_
  have hcall := build_walk ⟨[], fun _ => true⟩ B M hS hBl _ t 3000 1 (Nat.le_refl _) hf (by omega) (by omega) (by omega) (by omega)
  generalize Tm.bldN (fullS B M t) 3000 1 = rq at hcall ⊢
  obtain ⟨r, q⟩ := rq
  refine R_callSO hg.ok hg.gup ⟨rfl, rfl⟩ (fun _ _ _ _ h => by cases h) [1, 0, 4, 5] [.box [.d (.sl (bindRows B))], .box [.d (.map (dmI (ixM (B.map (·.1)))))], boxR t, zBxS, .box [iV q], .box [.clo 96 [] [.lo 1 0, .lo 0 0, .lo 4 0, .lo 5 0]]] hcall (fun _ => rfl) rfl rfl rfl rfl rfl rfl rfl rfl ?_
  refine R_run hg.ok 1000 rfl rfl ?_
  refine R_ret hg 5 rfl rfl ?_
  rfl

set_option maxRecDepth 100000 in
theorem apply_ok (B : Binds) (M : Nat) (hS : rightS B = true → Sub B M) (hB : Small B) (t : Tm) (ht : t.size < 1000000000) (hn : ∀ x e, e ∈ t.els x → e.2.s.size < 1000000000) : PCtr Try.prog 43 [.d (.sl (bindRows B)), t.av] (.tup [(applyT B M t).1.av, iV (applyT B M t).2]) := by
  have hl := hB.len
  refine PCtr.of_R (pf := fun _ => .still) tyOk mixed Try.func43 rfl (by kernel_rfl) (by kernel_rfl) (by simp [Try.ntmps43]) fun w S hg => ?_
  refine R_run hg.ok 1000 rfl rfl ?_
  refine R_call hg.ok (subRight_ok B hB) rfl rfl rfl rfl rfl rfl ?_
  refine R_run hg.ok 1000 rfl rfl ?_
  refine R_if rfl rfl (fun h1 => ?_) (fun h1 => ?_) <;> refine R_run hg.ok 1000 rfl rfl ?_
  · refine R_ret hg 5 rfl rfl ?_
    unfold applyT; rw [show rightS B = false by simpa using h1]; rfl
  have h1 : rightS B = true := by simpa using h1
  refine R_call hg.ok (right_ok t ht (hn 1)) rfl rfl rfl rfl rfl rfl ?_
  refine R_run hg.ok 1000 rfl rfl ?_
  rw [rightT_eq]
  refine R_if rfl rfl (fun h2 => ?_) (fun h2 => ?_) <;> refine R_run hg.ok 1000 rfl rfl ?_
  · refine R_ret hg 5 rfl rfl ?_
    unfold applyT; rw [show t.rightB = false by simpa using h2, Bool.and_false]; rfl
  have h2 : t.rightB = true := by simpa using h2
  refine R_call hg.ok (index_ok B (by omega)) rfl rfl rfl rfl rfl rfl ?_
  refine R_run hg.ok 1000 rfl rfl ?_
  have hcall := become_ok B M (hS h1) hl t (right_fair h2)
  have hok := (Tm.bldN_ok (fullS B M t) 3000 1 (by omega) (by omega)).1
  have hb : (Tm.bldN (fullS B M t) 3000 1).1 = (decide ((fullS B M t).size ≤ 3000) && decide ((fullS B M t).depth ≤ 100)) := by
    rw [Bool.eq_iff_iff, hok]; simp; omega
  have ha : applyT B M t = if (Tm.bldN (fullS B M t) 3000 1).1 then (fullS B M t, 0) else (zeroT, 3) := by
    unfold applyT; rw [h1, h2, hb]; rfl
  generalize (Tm.bldN (fullS B M t) 3000 1).1 = r at hcall ha
  refine R_call hg.ok (hcall) rfl rfl rfl rfl rfl rfl ?_
  refine R_run hg.ok 1000 rfl rfl ?_
  rw [ha]
  cases r with
  | true =>
    refine R_if rfl rfl (fun h => absurd h (by simp)) (fun _ => ?_) <;> refine R_run hg.ok 1000 rfl rfl ?_
    refine R_ret hg 5 rfl rfl ?_
    rfl
  | false =>
    refine R_if rfl rfl (fun _ => ?_) (fun h => absurd h (by simp)) <;> refine R_run hg.ok 1000 rfl rfl ?_
    refine R_ret hg 5 rfl rfl ?_
    rfl
end Go.Proofs.Ytppghekipbnjhaa

namespace Go.Proofs.Ytppghekipbnjhaa
open Go PSL Go.Proofs
end Go.Proofs.Ytppghekipbnjhaa

namespace Go.Proofs.Ytppghekipbnjhaa
open Go PSL Go.Proofs
end Go.Proofs.Ytppghekipbnjhaa

namespace Go.Proofs.Ytppghekipbnjhaa
open Go PSL Go.Proofs

theorem contains_cons' {l : List Int} {x n : Int} : (x :: l).contains n = (decide (x = n) || l.contains n) := by
  simp only [List.contains_cons]; congr 1; rw [Bool.eq_iff_iff]; simp; exact eq_comm

set_option maxRecDepth 100000 in
theorem with_ok (t : Tm) : ∀ (l : List Int), l.length + t.size < 1000000000 → PCtr Try.prog 75 [.d (.sl (irows l)), t.av] (.d (.sl (irows (Tm.withV l t)))) := by
  induction t using Tm.ind with
  | _ t ih =>
  intro l hsz
  have hl := Tm.len_le_sizeL t.l
  have hs := Tm.size_eq t
  refine PCtr.of_R (pf := pfB) tyOk mixed Try.func75 rfl (by kernel_rfl) (by kernel_rfl) (by simp [Try.ntmps75]) fun w S hg => ?_
  refine R_run hg.ok 1000 rfl rfl ?_
  refine R_if rfl rfl (fun h => ?_) (fun h => ?_) <;> refine R_run hg.ok 1000 rfl rfl ?_
  · have hk : t.k = 1 := by simpa using h
    refine R_loop (fun k : Nat => ([(0, .d (.sl (irows l))), (3, .lo 0 0), (5, iV k)], [boxR t])) (fun k => k ≤ l.length ∧ l.contains t.n = (l.drop k).contains t.n) (fun k => l.length - k) 0 ⟨Nat.zero_le _, rfl⟩ ⟨.refl _, .refl _, .refl _, trivial⟩ rfl ?_
    rintro k ⟨hk0, hm⟩
    refine R_run hg.ok 1000 rfl rfl ?_
    refine R_if rfl rfl (fun h => ?_) (fun h => ?_) <;> refine R_run hg.ok 1000 rfl rfl ?_
    · have hk1 : k < l.length := lt_dec h (by rw [irows_length])
      have e1 : l[k]? = some l[k] := List.getElem?_eq_getElem hk1
      rw [List.drop_eq_getElem_cons hk1, contains_cons'] at hm
      refine R_index hg.ok rfl rfl rfl rfl rfl rfl (Int.natCast_nonneg k) (irows_get e1) rfl ?_
      refine R_run hg.ok 1000 rfl rfl ?_
      refine R_if rfl rfl (fun h => ?_) (fun h => ?_) <;> refine R_run hg.ok 1000 rfl rfl ?_
      · refine R_ret hg 5 rfl rfl ?_
        have he : l[k] = t.n := by simpa using h
        rw [Tm.withV_eq, if_pos hk, addV, if_pos (by rw [hm]; simp [he])]
      · have he : ¬ l[k] = t.n := by simpa using h
        refine R_next (k + 1) ⟨hk1, by rw [hm]; simp [he]⟩ (by omega) ⟨.refl _, .refl _, Ent.wrap (by omega) (by omega) (by omega), trivial⟩ rfl
    · have hk1 : l.length ≤ k := ge_dec h (by rw [irows_length])
      rw [List.drop_eq_nil_of_le hk1] at hm
      refine R_appendF hg.ok (rows := []) rfl rfl (.inl rfl) rfl (.inl rfl) rfl rfl rfl (by simp) (by simp [irows]; intros; subst_vars; rfl) (by simp [irows_length]; omega) (by simp [irows_length]; omega) ?_
      refine R_run hg.ok 1000 rfl rfl ?_
      refine R_appendO hg.ok (irows (l ++ [t.n])) rfl rfl rfl rfl rfl rfl rfl rfl rfl (by simp) (by simp [one1]) (by simp [irows, irow]) (by simp [irows_length]; omega) (by simp [irows_length]; omega) ?_
      refine R_run hg.ok 1000 rfl rfl ?_
      refine R_ret hg 5 rfl (sealA_ow rfl) ?_
      rw [Tm.withV_eq, if_pos hk, addV, if_neg (by rw [hm]; simp)]
  · have hk : ¬ t.k = 1 := by simpa using h
    refine R_loop (fun x : Nat × List Int => ([(0, .d (.sl (irows x.2))), (3, .lo 0 0), (6, iV x.1)], [boxR t])) (fun x => x.1 ≤ t.l.length ∧ Tm.withV l t = Tm.withVL x.2 (t.l.drop x.1) ∧ x.2.length + Tm.sizeL (t.l.drop x.1) ≤ l.length + Tm.sizeL t.l) (fun x => t.l.length - x.1) (0, l) ⟨Nat.zero_le _, by rw [Tm.withV_eq, if_neg hk]; rfl, Nat.le_refl _⟩ ⟨.refl _, .refl _, .refl _, trivial⟩ rfl ?_
    rintro ⟨k, a⟩ ⟨hk0, hm, hal⟩
    simp only at hk0 hm hal
    refine R_run hg.ok 1000 rfl rfl ?_
    refine R_if rfl rfl (fun h => ?_) (fun h => ?_) <;> refine R_run hg.ok 1000 rfl rfl ?_
    · have hk1 : k < t.l.length := lt_dec h (by rw [Tm.rows_length])
      have e1 : t.l[k]? = some t.l[k] := List.getElem?_eq_getElem hk1
      rw [List.drop_eq_getElem_cons hk1] at hm hal
      simp only [Tm.withVL] at hm
      simp only [Tm.sizeL] at hal
      refine R_index hg.ok rfl rfl rfl rfl rfl rfl (Int.natCast_nonneg k) (Tm.rows_get e1) rfl ?_
      refine R_run hg.ok 1000 rfl rfl ?_
      refine R_call hg.ok (ih _ (List.getElem_mem hk1) a (by omega)) rfl rfl rfl rfl rfl rfl ?_
      refine R_run hg.ok 1000 rfl rfl ?_
      have hwl := Tm.withV_len t.l[k] a
      exact R_next (k + 1, Tm.withV a t.l[k]) ⟨hk1, hm, by simp only; omega⟩ (by simp only; omega) ⟨.refl _, .refl _, Ent.wrap (by simp only; omega) (by simp only; omega) (by simp only; omega), trivial⟩ rfl
    · have hk1 : t.l.length ≤ k := ge_dec h (by rw [Tm.rows_length])
      refine R_ret hg 5 rfl rfl ?_
      rw [hm, List.drop_eq_nil_of_le hk1]; rfl

set_option maxRecDepth 100000 in
theorem refVars_ok (l : List Tm) (hsz : Tm.sizeL l < 1000000000) : PCtr Try.prog 36 [.d (.sl (Tm.rows l))] (.d (.sl (irows (Tm.withVL [] l)))) := by
  have hl := Tm.len_le_sizeL l
  refine PCtr.of_R (pf := pfB) tyOk mixed Try.func36 rfl (by kernel_rfl) (by kernel_rfl) (by simp [Try.ntmps36]) fun w S hg => ?_
  refine R_run hg.ok 1000 rfl rfl ?_
  refine R_loop (fun x : Nat × List Int => ([(0, .d (.sl (Tm.rows l))), (3, .d (.sl (irows x.2))), (4, iV x.1)], [])) (fun x => x.1 ≤ l.length ∧ Tm.withVL [] l = Tm.withVL x.2 (l.drop x.1) ∧ x.2.length + Tm.sizeL (l.drop x.1) ≤ Tm.sizeL l) (fun x => l.length - x.1) (0, []) ⟨Nat.zero_le _, rfl, by simp⟩ ⟨.refl _, .nil, .refl _, trivial⟩ rfl ?_
  rintro ⟨k, a⟩ ⟨hk0, hm, hal⟩
  simp only at hk0 hm hal
  refine R_run hg.ok 1000 rfl rfl ?_
  refine R_if rfl rfl (fun h => ?_) (fun h => ?_) <;> refine R_run hg.ok 1000 rfl rfl ?_
  · have hk1 : k < l.length := lt_dec h (by rw [Tm.rows_length])
    have e1 : l[k]? = some l[k] := List.getElem?_eq_getElem hk1
    rw [List.drop_eq_getElem_cons hk1] at hm hal
    simp only [Tm.withVL] at hm
    simp only [Tm.sizeL] at hal
    refine R_index hg.ok rfl rfl rfl rfl rfl rfl (Int.natCast_nonneg k) (Tm.rows_get e1) rfl ?_
    refine R_run hg.ok 1000 rfl rfl ?_
    refine R_call hg.ok (with_ok l[k] a (by omega)) rfl rfl rfl rfl rfl rfl ?_
    refine R_run hg.ok 1000 rfl rfl ?_
    have hwl := Tm.withV_len l[k] a
    exact R_next (k + 1, Tm.withV a l[k]) ⟨hk1, hm, by simp only; omega⟩ (by simp only; omega) ⟨.refl _, .refl _, Ent.wrap (by simp only; omega) (by simp only; omega) (by simp only; omega), trivial⟩ rfl
  · have hk1 : l.length ≤ k := ge_dec h (by rw [Tm.rows_length])
    refine R_ret hg 5 rfl rfl ?_
    rw [hm, List.drop_eq_nil_of_le hk1]; rfl
def toG (frm to : List Int) (n : Int) : Int := (to[(atI frm n 0).toNat]?).getD 0

theorem atI_lt : ∀ (l : List Int) (n i : Int), 0 ≤ i → atI l n i < i + l.length
  | [], _, i, h => by simp [atI]; omega
  | x :: l, n, i, h => by
    have := atI_lt l n (i + 1) (by omega)
    simp only [atI, List.length_cons]
    split
    · omega
    · omega

theorem turnR_snoc {l : List Tm} {k : Nat} {x : Tm} {g : Int → Int} (h : l[k]? = some x) : Tm.rows (Tm.turnRL g (l.take k)) ++ [Tm.row (Tm.turnR g x)] = Tm.rows (Tm.turnRL g (l.take (k + 1))) := by
  rw [List.take_add_one, h]
  simp [Tm.turnRL_map, Tm.rows_eq]

set_option maxRecDepth 100000 in
theorem refTurn_ok (frm to : List Int) (hft : frm.length ≤ to.length) (htl : to.length < 1000000000) (t : Tm) : t.size < 1000000000 → (∀ d e, e ∈ t.els d → e.2.k = 1 → 0 ≤ atI frm e.2.n 0) →
    PCtr Try.prog 84 [t.av, .d (.sl (irows frm)), .d (.sl (irows to))] (Tm.turnR (toG frm to) t).av := by
  induction t using Tm.ind with
  | _ t ih =>
  intro hsz hin
  have hl := Tm.len_le_sizeL t.l
  have hs := Tm.size_eq t
  refine PCtr.of_R (pf := fun _ => .still) tyOk mixed Try.func84 rfl (by kernel_rfl) (by kernel_rfl) (by simp [Try.ntmps84]) fun w S hg => ?_
  refine R_run hg.ok 1000 rfl rfl ?_
  refine R_if rfl rfl (fun h => ?_) (fun h => ?_) <;> refine R_run hg.ok 1000 rfl rfl ?_
  · have hk : t.k = 1 := by simpa using h
    refine R_call hg.ok (at_ok frm t.n (by omega)) rfl rfl rfl rfl rfl rfl ?_
    refine R_run hg.ok 1000 rfl rfl ?_
    have h0 : 0 ≤ atI frm t.n 0 := hin 0 (0, t) (by rw [Tm.els_eq]; simp) hk
    have hlt : (atI frm t.n 0).toNat < to.length := by
      have := atI_lt frm t.n 0 (Int.le_refl _)
      omega
    have e1 : to[(atI frm t.n 0).toNat]? = some to[(atI frm t.n 0).toNat] := List.getElem?_eq_getElem hlt
    refine R_index hg.ok rfl rfl rfl rfl rfl rfl h0 (irows_get e1) rfl ?_
    refine R_run hg.ok 1000 rfl rfl ?_
    refine R_ret hg 5 rfl rfl ?_
    rw [Tm.turnR_eq, if_pos hk]
    simp only [toG, e1, Option.getD_some]; rfl
  · have hk : ¬ t.k = 1 := by simpa using h
    refine R_ownB 2 3 4 rfl rfl rfl ?_
    refine R_loop (fun k : Nat => ([(1, .d (.sl (irows frm))), (2, .d (.sl (irows to))), (3, .lo 0 0), (6, .lo 1 0), (7, .lo 2 0), (8, iV k)], [boxR t, .box [.d (.v (.int .i64 0)), .d (.v (.string ByteArray.empty)), .d (.v (.int .i64 0)), .d (.v (.slice none 0 0))], .box [.d (.v (.int .i64 t.k)), .d (.v (.string t.s)), .d (.v (.int .i64 t.n)), .ow 3 k], .arr 4 k (Tm.rows (Tm.turnRL (toG frm to) (t.l.take k)))]))
      (fun k => k ≤ t.l.length) (fun k => t.l.length - k) 0 (Nat.zero_le _) ⟨.refl _, .refl _, .refl _, .refl _, .refl _, .refl _, trivial⟩ rfl ?_
    intro k hk0
    refine R_run hg.ok 1000 rfl rfl ?_
    refine R_if rfl rfl (fun h => ?_) (fun h => ?_) <;> refine R_run hg.ok 1000 rfl rfl ?_
    · have hk1 : k < t.l.length := lt_dec h (by rw [Tm.rows_length])
      have e1 : t.l[k]? = some t.l[k] := List.getElem?_eq_getElem hk1
      have hm := Tm.size_mem (List.getElem_mem hk1)
      refine R_index hg.ok rfl rfl rfl rfl rfl rfl (Int.natCast_nonneg k) (Tm.rows_get e1) rfl ?_
      refine R_run hg.ok 1000 rfl rfl ?_
      refine R_call hg.ok (ih _ (List.getElem_mem hk1) (by omega) (fun d e he => hin (d - 1) e (by rw [Tm.els_eq]; exact List.mem_cons_of_mem _ (Tm.els_memL (List.getElem_mem hk1) (by rw [Int.sub_add_cancel]; exact he))))) rfl rfl rfl rfl rfl rfl ?_
      refine R_run hg.ok 1000 rfl rfl ?_
      refine R_appendO hg.ok _ rfl rfl rfl rfl rfl rfl rfl rfl rfl (by simp) (by simp [one1]) (turnR_snoc e1) (by rw [Tm.rows_length, Tm.turnRL_map]; simp; omega) (by rw [Tm.rows_length, Tm.turnRL_map]; simp; omega) ?_
      refine R_run hg.ok 1000 rfl rfl ?_
      exact R_next (k + 1) hk1 (by omega) ⟨.refl _, .refl _, .refl _, .refl _, .refl _, Ent.wrap (by omega) (by omega) (by omega), trivial⟩ rfl
    · have hk1 : t.l.length ≤ k := ge_dec h (by rw [Tm.rows_length])
      refine R_ret hg 5 rfl (sealA_term rfl rfl rfl rfl) ?_
      rw [List.take_of_length_le hk1, Tm.turnR_eq, if_neg hk]; rfl
end Go.Proofs.Ytppghekipbnjhaa

namespace Go.Proofs.Ytppghekipbnjhaa
open Go PSL Go.Proofs
def sY : Tm := Tm.vT 1
def sB : Binds := [(0, .mk 3 ⟨#[102]⟩ 0 [sY]), (1, .mk 3 ⟨#[97]⟩ 0 [])]

theorem smallFair {B : Binds} (hl : B.length ≤ 4000) (h : B.all (fun b => b.2.fairR) = true) (hs : B.all (fun b => decide (b.2.size < 400000000)) = true) : Small B :=
  ⟨hl, fun b hb => by simpa using List.all_eq_true.1 hs b hb, fun b hb x e he => fair_names (List.all_eq_true.1 h b hb) x e he⟩
end Go.Proofs.Ytppghekipbnjhaa

namespace Go.Proofs.Ytppghekipbnjhaa
open Go PSL Go.Proofs

/-- Is a place among those? -/
def hasP (B : Binds) (L : List Int) (j : Nat) : Bool := L.any fun v => decide (placeB B v = j)

theorem hasP_take {B : Binds} {L : List Int} {k : Nat} {v : Int} (h : L[k]? = some v) (j : Nat) : hasP B (L.take (k + 1)) j = (hasP B (L.take k) j || decide (placeB B v = j)) := by
  rw [List.take_add_one, h]; simp [hasP]

theorem hasP_edge {B : Binds} {i : Nat} {b : Int × Tm} (hb : B[i]? = some b) (hf : b.2.fairR = true) (j : Nat) : hasP B (Tm.withVL [] [b.2]) j = edge (adjB B) i j := by
  rw [Bool.eq_iff_iff]
  have hm : ∀ v, v ∈ Tm.withVL [] [b.2] ↔ v ∈ varsT [b.2] := fun v => by
    rw [Tm.withVL_occ, Tm.mem_foldl, varsT_once (one_fair hf)]
    simp [Tm.mem_once]
  simp only [hasP, List.any_eq_true, decide_eq_true_eq, edge, List.contains_iff_mem, adjB, hb, List.mem_filterMap]
  constructor
  · rintro ⟨v, h1, h2⟩
    exact ⟨v, (hm v).1 h1, by rw [if_neg (by omega), h2]; rfl⟩
  · rintro ⟨v, h1, h2⟩
    split at h2
    · cases h2
    · simp only [Option.some.injEq] at h2
      exact ⟨v, (hm v).2 h1, by omega⟩

theorem place_lt {B : Binds} {v : Int} (h : 0 ≤ placeB B v) : (placeB B v).toNat < B.length := by
  rcases placeB_find B v with ⟨h3, _⟩ | ⟨j, t, h3, h4, _⟩
  · omega
  · rw [h3]; have := (List.getElem?_eq_some_iff.1 h4).1; simpa using this
theorem okAt_get {B : Binds} {i : Nat} {b : Int × Tm} (hb : B[i]? = some b) : okAt B i = (decide (0 ≤ b.1) && decide (b.1 < 1000000) && decide (placeB B b.1 = i) && b.2.rightB) := by rw [okAt, hb]

theorem warsh_upd {C c : Nat → Nat → Bool} {k n i j : Nat} (hc : ∀ a < n, ∀ b < n, c a b = if a < i ∨ (a = i ∧ b < j) then warsh C (k + 1) a b else warsh C k a b) (v1 : c i j = warsh C k i j) (v2 : c i k = warsh C k i k) (v3 : c k j = warsh C k k j) (b : Bool) (hb : b = (c i j || (c i k && c k j))) :
    ∀ a < n, ∀ d < n, upd2 c i j b a d = if a < i ∨ (a = i ∧ d < j + 1) then warsh C (k + 1) a d else warsh C k a d := fun a ha d hd => by
  unfold upd2
  by_cases ea : a = i
  · rw [if_pos ea]
    unfold upd1
    by_cases ed : d = j
    · rw [if_pos ed, if_pos (by omega), ea, ed, hb, v1, v2, v3]; rfl
    · rw [if_neg ed, hc a ha d hd]
      by_cases hdj : d < j
      · rw [if_pos (by omega), if_pos (by omega)]
      · rw [if_neg (by omega), if_neg (by omega)]
  · rw [if_neg ea, hc a ha d hd]
    by_cases hai : a < i
    · rw [if_pos (by omega), if_pos (by omega)]
    · rw [if_neg (by omega), if_neg (by omega)]
def pfRight : Nat → Cls := fun f => bif Nat.beq f 4000100110 then .turn 100 else bif Nat.beq f 4000100118 then .turn 100 else bif Nat.beq f 4000100126 then .turn 100 else bif Nat.beq f 4000100141 then .turn 100 else .still

set_option maxRecDepth 100000 in
theorem refRight3_ok (B : Binds) (hB : Small B) : PCtr Try.prog 38 [.d (.sl (bindRows B))] (bV (rightR B)) := by
  have hl := hB.len
  refine PCtr.of_R (pf := pfRight) tyOk mixed Try.func38 rfl (by kernel_rfl) (by kernel_rfl) (by simp [Try.ntmps38]) fun w S hg => ?_
  refine R_run hg.ok 1000 rfl rfl ?_
  have bad : ∀ i, i < B.length → okAt B i = false → AV.d (.v (.bool false)) = bV (rightR B) := fun i hi h => by
    have : (List.range B.length).all (okAt B) = false := by
      rw [List.all_eq_false]; exact ⟨i, by simpa using hi, by rw [h]; simp⟩
    unfold rightR; rw [this]; rfl
  refine R_own 4 1 rfl rfl ?_
  refine R_matNew rfl ?_
  refine R_cut2 (fun hds : List (Nat × Nat × Nat) => ([(0, .d (.sl (bindRows B))), (3, iV B.length), (4, .ow 0 B.length)], [.arr 1 B.length (hdN hds B.length), .mat hds (tabD B.length B.length (edge (adjB B)))])) (fun hds => hds.length = B.length ∧ (List.range B.length).all (okAt B) = true) rfl ?_ ?_
  · refine R_loop (fun x : Nat × List (Nat × Nat × Nat) => ([(0, .d (.sl (bindRows B))), (3, iV B.length), (4, .ow 0 x.1), (5, iV x.1)], [.arr 1 x.1 (hdN x.2 B.length), .mat x.2 (tabD B.length x.1 (edge (adjB B)))])) (fun x => x.1 ≤ B.length ∧ x.2.length = x.1 ∧ ∀ i < x.1, okAt B i = true) (fun x => B.length - x.1) (0, []) ⟨Nat.zero_le _, rfl, fun _ h => absurd h (Nat.not_lt_zero _)⟩ ⟨.refl _, Ent.int (by rw [bindRows_len]), .refl _, .refl _, trivial⟩ rfl ?_
    rintro ⟨i, hds⟩ ⟨hi, hh, hm⟩
    simp only at hi hh hm
    refine R_run hg.ok 1000 rfl rfl ?_
    refine R_if rfl rfl (fun h => ?_) (fun h => ?_) <;> refine R_run hg.ok 1000 rfl rfl ?_
    · have hk1 : i < B.length := lt_dec h rfl
      have e1 : B[i]? = some B[i] := List.getElem?_eq_getElem hk1
      have hok := okAt_get e1
      refine R_index hg.ok rfl rfl rfl rfl rfl rfl (Int.natCast_nonneg _) (bindRows_get e1) rfl ?_
      refine R_run hg.ok 1000 rfl rfl ?_
      refine R_if rfl rfl (fun h1 => ?_) (fun h1 => ?_) <;> refine R_run hg.ok 1000 rfl rfl ?_
      · refine R_ret hg 5 rfl rfl ?_
        exact bad i hk1 (by rw [hok, decide_eq_false (by have := of_decide_eq_true h1; omega : ¬ 0 ≤ B[i].1)]; simp)
      have h1 := of_decide_eq_false h1
      refine R_index hg.ok rfl rfl rfl rfl rfl rfl (Int.natCast_nonneg _) (bindRows_get e1) rfl ?_
      refine R_run hg.ok 1000 rfl rfl ?_
      refine R_if rfl rfl (fun h2 => ?_) (fun h2 => ?_) <;> refine R_run hg.ok 1000 rfl rfl ?_
      · refine R_ret hg 5 rfl rfl ?_
        exact bad i hk1 (by rw [hok, decide_eq_false (by have := of_decide_eq_true h2; omega : ¬ B[i].1 < 1000000)]; simp)
      have h2 := of_decide_eq_false h2
      refine R_index hg.ok rfl rfl rfl rfl rfl rfl (Int.natCast_nonneg _) (bindRows_get e1) rfl ?_
      refine R_run hg.ok 1000 rfl rfl ?_
      refine R_call hg.ok (place_ok B B[i].1 (by omega)) rfl rfl rfl rfl rfl rfl ?_
      refine R_run hg.ok 1000 rfl rfl ?_
      refine R_if rfl rfl (fun h3 => ?_) (fun h3 => ?_) <;> refine R_run hg.ok 1000 rfl rfl ?_
      · refine R_ret hg 5 rfl rfl ?_
        exact bad i hk1 (by rw [hok, decide_eq_false (by simpa using h3 : ¬ placeB B B[i].1 = i)]; simp)
      have h3 : placeB B B[i].1 = i := by simpa using h3
      refine R_index hg.ok rfl rfl rfl rfl rfl rfl (Int.natCast_nonneg _) (bindRows_get e1) rfl ?_
      refine R_run hg.ok 1000 rfl rfl ?_
      refine R_call hg.ok (refRight_ok B[i].2 (by have := hB.size _ (List.getElem_mem hk1); omega) (hB.name _ (List.getElem_mem hk1))) rfl rfl rfl rfl rfl rfl ?_
      refine R_run hg.ok 1000 rfl rfl ?_
      refine R_if rfl rfl (fun h4 => ?_) (fun h4 => ?_) <;> refine R_run hg.ok 1000 rfl rfl ?_
      · refine R_ret hg 5 rfl rfl ?_
        exact bad i hk1 (by rw [hok, show B[i].2.rightB = false by simpa using h4]; simp)
      have h4 : B[i].2.rightB = true := by simpa using h4
      have hf := right_fair h4
      have hoki : okAt B i = true := by rw [hok, h3, h4, decide_eq_true (by omega : 0 ≤ B[i].1), decide_eq_true (by omega : B[i].1 < 1000000)]; simp
      refine R_makeSlice hg.ok ((rowD B.length fun _ => false).map fun d => [d]) rfl rfl rfl rfl rfl rfl (Int.natCast_nonneg _) (by omega) (by omega) (rowD_false B.length) ?_
      refine R_run hg.ok 1000 rfl rfl ?_
      refine R_index hg.ok rfl rfl rfl rfl rfl rfl (Int.natCast_nonneg _) (bindRows_get e1) rfl ?_
      refine R_run hg.ok 1000 rfl rfl ?_
      have hsz := hB.size _ (List.getElem_mem hk1)
      have hvt := (refVars_ok [B[i].2] (by simp [Tm.sizeL]; omega)).one
      have hwl := Tm.withVL_len [B[i].2] []
      have hed := hasP_edge e1 hf
      simp only [Tm.sizeL, List.length_nil] at hwl
      generalize Tm.withVL [] [B[i].2] = W at hvt hwl hed
      refine R_call hg.ok (hvt) rfl rfl rfl rfl rfl rfl ?_
      refine R_run hg.ok 1000 rfl rfl ?_
      refine R_cut2 (fun _ : Unit => ([(0, .d (.sl (bindRows B))), (3, iV B.length), (4, .ow 0 i), (5, iV i), (6, .ow 2 0)], [.arr 1 i (hdN hds B.length), .mat hds (tabD B.length i (edge (adjB B))), .arr 1 0 ((rowD B.length (edge (adjB B) i)).map fun d => [d])])) (fun _ => True) rfl ?_ ?_
      · refine R_loop (fun x : Nat × (Nat → Bool) => ([(0, .d (.sl (bindRows B))), (3, iV B.length), (4, .ow 0 i), (5, iV i), (6, .ow 2 0), (7, .d (.sl (irows W))), (8, iV x.1)], [.arr 1 i (hdN hds B.length), .mat hds (tabD B.length i (edge (adjB B))), .arr 1 0 ((rowD B.length x.2).map fun d => [d])])) (fun x => x.1 ≤ W.length ∧ ∀ j, x.2 j = hasP B (W.take x.1) j) (fun x => W.length - x.1) (0, fun _ => false) ⟨Nat.zero_le _, fun _ => rfl⟩ ⟨.refl _, .refl _, .refl _, .refl _, .refl _, .refl _, .refl _, trivial⟩ rfl ?_
        rintro ⟨k, r⟩ ⟨hk, hr⟩
        simp only at hk hr
        refine R_run hg.ok 1000 rfl rfl ?_
        refine R_if rfl rfl (fun h => ?_) (fun h => ?_) <;> refine R_run hg.ok 1000 rfl rfl ?_
        · have hk2 : k < W.length := lt_dec h (by rw [irows_length])
          have e2 : W[k]? = some W[k] := List.getElem?_eq_getElem hk2
          refine R_index hg.ok rfl rfl rfl rfl rfl rfl (Int.natCast_nonneg _) (irows_get e2) rfl ?_
          refine R_run hg.ok 1000 rfl rfl ?_
          refine R_call hg.ok (place_ok B W[k] (by omega)) rfl rfl rfl rfl rfl rfl ?_
          refine R_run hg.ok 1000 rfl rfl ?_
          refine R_if rfl rfl (fun h5 => ?_) (fun h5 => ?_) <;> refine R_run hg.ok 1000 rfl rfl ?_
          · have h5 := of_decide_eq_true h5
            have hpl := place_lt h5
            refine R_indexO hg.ok rfl rfl rfl rfl rfl rfl rfl rfl rfl h5 (by rw [List.length_map, rowD_len]; exact hpl) ?_
            refine R_run hg.ok 1000 rfl rfl ?_
            refine R_storeE hg.ok rfl rfl rfl rfl rfl (row := [.v (.bool (r (placeB B W[k]).toNat))]) (by rw [List.getElem?_map, rowD_get hpl]; rfl) rfl rfl rfl (by decide) ?_
            refine R_run hg.ok 1000 rfl rfl ?_
            refine R_next (k + 1, upd1 r (placeB B W[k]).toNat true) ⟨hk2, fun j => ?_⟩ (by simp only; omega) ⟨.refl _, .refl _, .refl _, .refl _, .refl _, .refl _, Ent.wrap (by simp only; omega) (by simp only; omega) (by simp only; omega), trivial⟩ ?_
            · rw [hasP_take e2, ← hr j]
              simp only [upd1]
              split
              · rename_i e; rw [decide_eq_true (by omega)]; simp
              · rename_i e; rw [decide_eq_false (by omega)]; simp
            · show [Ob.arr 1 i (hdN hds B.length), .mat hds (tabD B.length i (edge (adjB B))), .arr 1 0 (((rowD B.length r).map fun d => [d]).set (placeB B W[k]).toNat [.v (.bool true)])] = _
              rw [rowD_setM]
          · have h5 := of_decide_eq_false h5
            refine R_next (k + 1, r) ⟨hk2, fun j => ?_⟩ (by simp only; omega) ⟨.refl _, .refl _, .refl _, .refl _, .refl _, .refl _, Ent.wrap (by simp only; omega) (by simp only; omega) (by simp only; omega), trivial⟩ rfl
            rw [hasP_take e2, ← hr j, decide_eq_false (by omega)]; simp
        · have hk2 : W.length ≤ k := ge_dec h (by rw [irows_length])
          refine R_to () trivial ⟨.refl _, .refl _, .refl _, .refl _, .refl _, trivial⟩ ?_
          rw [rowD_congr (r' := edge (adjB B) i) fun j _ => by show r j = _; rw [hr j, List.take_of_length_le hk2, hed j]]
      rintro _ _
      refine R_adopt 6 2 1 0 B.length (rowD B.length (edge (adjB B) i)) rfl rfl rfl (fun h => by have := congrArg List.length h; rw [List.length_map, rowD_len, List.length_nil] at this; omega) rfl (rowD_len _ _) rfl fun x => ?_
      refine R_run hg.ok 1000 rfl rfl ?_
      refine R_appendO hg.ok (hdN (hds ++ [x]) B.length) rfl rfl rfl rfl rfl rfl rfl rfl rfl (by simp) (by simp [one1, hdV]) (hdN_snoc hds B.length x) (by rw [hdN_len]; simp; omega) (by rw [hdN_len]; simp; omega) ?_
      refine R_run hg.ok 1000 rfl rfl ?_
      refine R_dropO 2 [.arr 1 (i + 1) (hdN (hds ++ [x]) B.length), .mat (hds ++ [x]) (tabD B.length (i + 1) (edge (adjB B)))] (Nat.zero_le _) rfl (by rw [← tabD_snoc]; rfl) ?_
      exact R_next (i + 1, hds ++ [x]) ⟨hk1, by simp [hh], fun j hj => by
        by_cases e : j = i
        · rw [e]; exact hoki
        · exact hm j (by omega)⟩ (by simp only; omega) ⟨.refl _, .refl _, .refl _, Ent.wrap (by simp only; omega) (by simp only; omega) (by simp only; omega), trivial⟩ rfl
    · have hk1 : B.length ≤ i := ge_dec h rfl
      have e : i = B.length := by omega
      subst e
      exact R_to hds ⟨hh, List.all_eq_true.2 fun i hi => hm i (by simpa using hi)⟩ ⟨.refl _, .refl _, .refl _, trivial⟩ rfl
  rintro hds ⟨hh, hall⟩
  have hrr : rightR B = ((List.range B.length).all fun i => !warsh (edge (adjB B)) B.length i i) := by unfold rightR; rw [hall]; simp
  generalize edge (adjB B) = C at hrr
  generalize B.length = n at *
  have hy : ∀ i, i < n → ∃ y, hds[i]? = some y := fun i hi => ⟨_, List.getElem?_eq_getElem (by omega)⟩
  refine R_run hg.ok 1000 rfl rfl ?_
  refine R_loop (fun x : Nat × (Nat → Nat → Bool) => ([(3, iV n), (4, .ow 0 n), (10, iV x.1)], [.arr 1 n (hdN hds n), .mat hds (tabD n n x.2)])) (fun x => x.1 ≤ n ∧ ∀ i < n, ∀ j < n, x.2 i j = warsh C x.1 i j) (fun x => n - x.1) (0, C) ⟨Nat.zero_le _, fun _ _ _ _ => rfl⟩ ⟨.refl _, .refl _, .refl _, trivial⟩ rfl ?_
  rintro ⟨k, c⟩ ⟨hk, hc⟩
  simp only at hk hc
  refine R_run hg.ok 1000 rfl rfl ?_
  refine R_if rfl rfl (fun h => ?_) (fun h => ?_) <;> refine R_run hg.ok 1000 rfl rfl ?_
  · have hk1 : k < n := lt_dec h rfl
    obtain ⟨yk, hyk⟩ := hy k hk1
    refine R_loop (fun x : Nat × (Nat → Nat → Bool) => ([(3, iV n), (4, .ow 0 n), (10, iV k), (11, iV x.1)], [.arr 1 n (hdN hds n), .mat hds (tabD n n x.2)])) (fun x => x.1 ≤ n ∧ ∀ i < n, ∀ j < n, x.2 i j = if i < x.1 then warsh C (k + 1) i j else warsh C k i j) (fun x => n - x.1) (0, c) ⟨Nat.zero_le _, fun i hi j hj => by rw [if_neg (Nat.not_lt_zero _)]; exact hc i hi j hj⟩ ⟨.refl _, .refl _, .refl _, .refl _, trivial⟩ rfl ?_
    rintro ⟨i, c1⟩ ⟨hi, hc1⟩
    simp only at hi hc1
    refine R_run hg.ok 1000 rfl rfl ?_
    refine R_if rfl rfl (fun h => ?_) (fun h => ?_) <;> refine R_run hg.ok 1000 rfl rfl ?_
    · have hi1 : i < n := lt_dec h rfl
      obtain ⟨yi, hyi⟩ := hy i hi1
      refine R_loop (fun x : Nat × (Nat → Nat → Bool) => ([(3, iV n), (4, .ow 0 n), (10, iV k), (11, iV i), (12, iV x.1)], [.arr 1 n (hdN hds n), .mat hds (tabD n n x.2)])) (fun x => x.1 ≤ n ∧ ∀ a < n, ∀ b < n, x.2 a b = if a < i ∨ (a = i ∧ b < x.1) then warsh C (k + 1) a b else warsh C k a b) (fun x => n - x.1) (0, c1) ⟨Nat.zero_le _, fun a ha b hb => by show c1 a b = _; rw [hc1 a ha b hb]; simp⟩ ⟨.refl _, .refl _, .refl _, .refl _, .refl _, trivial⟩ rfl ?_
      rintro ⟨j, c2⟩ ⟨hj, hc2⟩
      simp only at hj hc2
      refine R_run hg.ok 1000 rfl rfl ?_
      refine R_if rfl rfl (fun h => ?_) (fun h => ?_) <;> refine R_run hg.ok 1000 rfl rfl ?_
      · have hj1 : j < n := lt_dec h rfl
        have v1 : c2 i j = warsh C k i j := by rw [hc2 i hi1 j hj1, if_neg (by omega)]
        have v2 : c2 i k = warsh C k i k := by rw [hc2 i hi1 k hk1]; split <;> simp [warsh_col]
        have v3 : c2 k j = warsh C k k j := by rw [hc2 k hk1 j hj1]; split <;> simp [warsh_row]
        have fin := warsh_upd (C := C) (k := k) (n := n) hc2 (i := i) (j := j) v1 v2 v3
        -- the row that is stored into
        refine R_indexO hg.ok rfl rfl rfl rfl rfl rfl rfl rfl rfl (Int.natCast_nonneg i) (by rw [hdN_len]; simp; omega) ?_
        refine R_run hg.ok 1000 rfl rfl ?_
        refine R_loadE hg.ok rfl rfl rfl rfl rfl rfl (hdN_get hyi) rfl ?_
        refine R_run hg.ok 1000 rfl rfl ?_
        refine R_indexO hg.ok rfl rfl rfl rfl rfl rfl rfl rfl rfl (Int.natCast_nonneg i) (by rw [hdN_len]; simp; omega) ?_
        refine R_run hg.ok 1000 rfl rfl ?_
        refine R_loadE hg.ok rfl rfl rfl rfl rfl rfl (hdN_get hyi) rfl ?_
        refine R_run hg.ok 1000 rfl rfl ?_
        refine R_indexM hg.ok (y := yi) (len := n) rfl rfl rfl rfl rfl rfl rfl (Int.natCast_nonneg j) (by simpa using hj1) ?_
        refine R_run hg.ok 1000 rfl rfl ?_
        refine R_loadM hg.ok 1 i (.v (.bool (c2 i j))) rfl rfl rfl rfl rfl rfl rfl rfl hyi (tabD_get hi1) (rowD_get hj1) ?_
        refine R_run hg.ok 1000 rfl rfl ?_
        refine R_if rfl rfl (fun g1 => ?_) (fun g1 => ?_) <;> refine R_run hg.ok 1000 rfl rfl ?_
        · -- it comes there already
          refine R_indexM hg.ok (y := yi) (len := n) rfl rfl rfl rfl rfl rfl rfl (Int.natCast_nonneg j) (by simpa using hj1) ?_
          refine R_run hg.ok 1000 rfl rfl ?_
          refine R_storeM hg.ok 1 i (.v (.bool true)) rfl rfl rfl rfl rfl rfl hyi (tabD_get hi1) (by rw [rowD_len]; exact hj1) rfl rfl ?_
          refine R_run hg.ok 1000 rfl rfl ?_
          exact R_next (j + 1, upd2 c2 i j true) ⟨hj1, fin true (by rw [g1]; simp)⟩ (by simp only; omega) ⟨.refl _, .refl _, .refl _, .refl _, Ent.wrap (by simp only; omega) (by simp only; omega) (by simp only; omega), trivial⟩ (by rw [← tabD_set]; rfl)
        refine R_indexO hg.ok rfl rfl rfl rfl rfl rfl rfl rfl rfl (Int.natCast_nonneg i) (by rw [hdN_len]; simp; omega) ?_
        refine R_run hg.ok 1000 rfl rfl ?_
        refine R_loadE hg.ok rfl rfl rfl rfl rfl rfl (hdN_get hyi) rfl ?_
        refine R_run hg.ok 1000 rfl rfl ?_
        refine R_indexM hg.ok (y := yi) (len := n) rfl rfl rfl rfl rfl rfl rfl (Int.natCast_nonneg k) (by simpa using hk1) ?_
        refine R_run hg.ok 1000 rfl rfl ?_
        refine R_loadM hg.ok 1 i (.v (.bool (c2 i k))) rfl rfl rfl rfl rfl rfl rfl rfl hyi (tabD_get hi1) (rowD_get hk1) ?_
        refine R_run hg.ok 1000 rfl rfl ?_
        refine R_if rfl rfl (fun g2 => ?_) (fun g2 => ?_) <;> refine R_run hg.ok 1000 rfl rfl ?_
        · refine R_indexO hg.ok rfl rfl rfl rfl rfl rfl rfl rfl rfl (Int.natCast_nonneg k) (by rw [hdN_len]; simp; omega) ?_
          refine R_run hg.ok 1000 rfl rfl ?_
          refine R_loadE hg.ok rfl rfl rfl rfl rfl rfl (hdN_get hyk) rfl ?_
          refine R_run hg.ok 1000 rfl rfl ?_
          refine R_indexM hg.ok (y := yk) (len := n) rfl rfl rfl rfl rfl rfl rfl (Int.natCast_nonneg j) (by simpa using hj1) ?_
          refine R_run hg.ok 1000 rfl rfl ?_
          refine R_loadM hg.ok 1 k (.v (.bool (c2 k j))) rfl rfl rfl rfl rfl rfl rfl rfl hyk (tabD_get hk1) (rowD_get hj1) ?_
          refine R_run hg.ok 1000 rfl rfl ?_
          refine R_indexM hg.ok (y := yi) (len := n) rfl rfl rfl rfl rfl rfl rfl (Int.natCast_nonneg j) (by simpa using hj1) ?_
          refine R_run hg.ok 1000 rfl rfl ?_
          refine R_storeM hg.ok 1 i (.v (.bool (c2 k j))) rfl rfl rfl rfl rfl rfl hyi (tabD_get hi1) (by rw [rowD_len]; exact hj1) rfl rfl ?_
          refine R_run hg.ok 1000 rfl rfl ?_
          exact R_next (j + 1, upd2 c2 i j (c2 k j)) ⟨hj1, fin (c2 k j) (by rw [g1, g2]; simp)⟩ (by simp only; omega) ⟨.refl _, .refl _, .refl _, .refl _, Ent.wrap (by simp only; omega) (by simp only; omega) (by simp only; omega), trivial⟩ (by rw [← tabD_set]; rfl)
        refine R_indexM hg.ok (y := yi) (len := n) rfl rfl rfl rfl rfl rfl rfl (Int.natCast_nonneg j) (by simpa using hj1) ?_
        refine R_run hg.ok 1000 rfl rfl ?_
        refine R_storeM hg.ok 1 i (.v (.bool false)) rfl rfl rfl rfl rfl rfl hyi (tabD_get hi1) (by rw [rowD_len]; exact hj1) rfl rfl ?_
        refine R_run hg.ok 1000 rfl rfl ?_
        exact R_next (j + 1, upd2 c2 i j false) ⟨hj1, fin false (by rw [g1, g2]; simp)⟩ (by simp only; omega) ⟨.refl _, .refl _, .refl _, .refl _, Ent.wrap (by simp only; omega) (by simp only; omega) (by simp only; omega), trivial⟩ (by rw [← tabD_set]; rfl)
      · have hj1 : n ≤ j := ge_dec h rfl
        refine R_next (i + 1, c2) ⟨hi1, fun a ha b hb => ?_⟩ (by simp only; omega) ⟨.refl _, .refl _, .refl _, Ent.wrap (by simp only; omega) (by simp only; omega) (by simp only; omega), trivial⟩ rfl
        show c2 a b = _
        rw [hc2 a ha b hb]
        by_cases e : a < i + 1
        · rw [if_pos e, if_pos (by omega)]
        · rw [if_neg e, if_neg (by omega)]
    · have hi1 : n ≤ i := ge_dec h rfl
      refine R_next (k + 1, c1) ⟨hk1, fun a ha b hb => ?_⟩ (by simp only; omega) ⟨.refl _, .refl _, Ent.wrap (by simp only; omega) (by simp only; omega) (by simp only; omega), trivial⟩ rfl
      show c1 a b = _
      rw [hc1 a ha b hb, if_pos (by omega)]
  · have hk1 : n ≤ k := ge_dec h rfl
    have e : k = n := by omega
    subst e
    refine R_loop (fun i : Nat => ([(3, iV k), (4, .ow 0 k), (13, iV i)], [.arr 1 k (hdN hds k), .mat hds (tabD k k c)])) (fun i => i ≤ k ∧ ∀ a < i, warsh C k a a = false) (fun i => k - i) 0 ⟨Nat.zero_le _, fun _ h => absurd h (Nat.not_lt_zero _)⟩ ⟨.refl _, .refl _, .refl _, trivial⟩ rfl ?_
    rintro i ⟨hi, hd⟩
    refine R_run hg.ok 1000 rfl rfl ?_
    refine R_if rfl rfl (fun h => ?_) (fun h => ?_) <;> refine R_run hg.ok 1000 rfl rfl ?_
    · have hi1 : i < k := lt_dec h rfl
      obtain ⟨yi, hyi⟩ := hy i hi1
      have hcc := hc i hi1 i hi1
      refine R_indexO hg.ok rfl rfl rfl rfl rfl rfl rfl rfl rfl (Int.natCast_nonneg i) (by rw [hdN_len]; simp; omega) ?_
      refine R_run hg.ok 1000 rfl rfl ?_
      refine R_loadE hg.ok rfl rfl rfl rfl rfl rfl (hdN_get hyi) rfl ?_
      refine R_run hg.ok 1000 rfl rfl ?_
      refine R_indexM hg.ok (y := yi) (len := k) rfl rfl rfl rfl rfl rfl rfl (Int.natCast_nonneg i) (by simpa using hi1) ?_
      refine R_run hg.ok 1000 rfl rfl ?_
      refine R_loadM hg.ok 1 i (.v (.bool (c i i))) rfl rfl rfl rfl rfl rfl rfl rfl hyi (tabD_get hi1) (rowD_get hi1) ?_
      refine R_run hg.ok 1000 rfl rfl ?_
      refine R_if rfl rfl (fun g1 => ?_) (fun g1 => ?_) <;> refine R_run hg.ok 1000 rfl rfl ?_
      · refine R_ret hg 5 rfl rfl ?_
        rw [hrr, List.all_eq_false.2 ⟨i, by simpa using hi1, by rw [← hcc, g1]; simp⟩]; rfl
      · exact R_next (i + 1) ⟨hi1, fun a ha => by
          by_cases e : a = i
          · rw [e, ← hcc, g1]
          · exact hd a (by omega)⟩ (by omega) ⟨.refl _, .refl _, Ent.wrap (by omega) (by omega) (by omega), trivial⟩ rfl
    · have hi1 : k ≤ i := ge_dec h rfl
      refine R_ret hg 5 rfl rfl ?_
      rw [hrr, List.all_eq_true.2 fun a ha => by rw [hd a (Nat.lt_of_lt_of_le (by simpa using ha) hi1)]; rfl]; rfl
end Go.Proofs.Ytppghekipbnjhaa

namespace Go.Proofs.Ytppghekipbnjhaa
open Go PSL Go.Proofs

set_option maxRecDepth 100000 in
theorem refBecome_ok (B : Binds) (M : Nat) (hS : Sub B M) (hBl : B.length ≤ 4000) : ∀ (N m : Nat) (t : Tm) (most deep : Int), (fullS B M t).size ≤ N → levT B m t → t.fairR = true → 0 ≤ most → most ≤ 3000 → 0 ≤ deep → deep ≤ 100 →
    PCtr Try.prog 83 [.d (.sl (bindRows B)), t.av, iV most, iV deep] (.tup [(becR (fullS B M t) most deep).1.av, iV (becR (fullS B M t) most deep).2]) := by
  intro N
  induction N with
  | zero => intro m t _ _ h; have := Tm.size_eq (fullS B M t); omega
  | succ N ihN =>
  intro m
  induction m using Nat.strongRecOn with
  | ind m ihm =>
  intro t most deep hN hlev hf hm0 hm1 hd0 hd1
  refine PCtr.of_R (pf := fun _ => .still) tyOk mixed Try.func83 rfl (by kernel_rfl) (by kernel_rfl) (by simp [Try.ntmps83]) fun w S hg => ?_
  refine R_run hg.ok 1000 rfl rfl ?_
  refine R_cut1 (fun _ : Unit => ([(0, .d (.sl (bindRows B))), (2, iV most), (3, iV deep), (5, .lo 0 0), (8, .lo 1 0)], [boxR t, zBxS])) (fun _ => t.k = 1 → findB B t.n = none) rfl ?_ ?_
  · refine R_if rfl rfl (fun hk => ?_) (fun hk => ?_) <;> refine R_run hg.ok 1000 rfl rfl ?_
    · have hk : t.k = 1 := by simpa using hk
      refine R_call hg.ok (place_ok B t.n (by omega)) rfl rfl rfl rfl rfl rfl ?_
      refine R_run hg.ok 1000 rfl rfl ?_
      rcases placeB_find B t.n with ⟨h1, h2⟩ | ⟨j, x, h1, h2, h3⟩
      · refine R_if rfl rfl (fun h => absurd h (by simp; omega)) (fun _ => ?_) <;> refine R_run hg.ok 1000 rfl rfl ?_
        exact R_to () (fun _ => h2) ⟨.refl _, .refl _, .refl _, .refl _, .refl _, trivial⟩ rfl
      · rw [h1]
        refine R_if rfl rfl (fun _ => ?_) (fun h => absurd h (by simp)) <;> refine R_run hg.ok 1000 rfl rfl ?_
        refine R_index hg.ok rfl rfl rfl rfl rfl rfl (Int.natCast_nonneg _) (bindRows_get h2) rfl ?_
        refine R_run hg.ok 1000 rfl rfl ?_
        obtain ⟨q, rfl, hq⟩ := lev_find hS.fair hlev (occ_var hk) h3
        have hb := hS.bound hf hk h3
        have hc := ihm q (by omega) x most deep (by rw [← hb]; exact hN) hq (hS.fair _ (List.mem_of_getElem? h2)) hm0 hm1 hd0 hd1
        rw [← hb] at hc
        refine R_call hg.ok (hc) rfl rfl rfl rfl rfl rfl ?_
        refine R_run hg.ok 1000 rfl rfl ?_
        refine R_ret hg 5 rfl rfl ?_
        rfl
    · have hk : ¬ t.k = 1 := by simpa using hk
      exact R_to () (fun h => absurd h hk) ⟨.refl _, .refl _, .refl _, .refl _, .refl _, trivial⟩ rfl
  rintro _ hx
  have hhead := hS.head hf hx
  have hTs : (fullS B M t).size = Tm.sizeL (t.l.map (fullS B M)) + 1 := by rw [Tm.size_eq, hhead, Nat.add_comm]; rfl
  have hTd : (fullS B M t).depth = Tm.depthL (t.l.map (fullS B M)) + 1 := by rw [Tm.depth_eq, hhead]; rfl
  have hll := Tm.len_le_sizeL (t.l.map (fullS B M))
  rw [List.length_map] at hll
  have bad : ¬ (((fullS B M t).size : Int) ≤ most ∧ ((fullS B M t).depth : Int) ≤ deep) → AV.tup [zeroT.av, iV 0] = .tup [(becR (fullS B M t) most deep).1.av, iV (becR (fullS B M t) most deep).2] := fun h => by rw [becR_no h]
  refine R_run hg.ok 1000 rfl rfl ?_
  refine R_if rfl rfl (fun h1 => ?_) (fun h1 => ?_) <;> refine R_run hg.ok 1000 rfl rfl ?_
  · have h1 := of_decide_eq_true h1
    refine R_ret hg 5 rfl rfl ?_
    exact bad (by omega)
  have h1 := of_decide_eq_false h1
  refine R_if rfl rfl (fun h2 => ?_) (fun h2 => ?_) <;> refine R_run hg.ok 1000 rfl rfl ?_
  · have h2 := of_decide_eq_true h2
    refine R_ret hg 5 rfl rfl ?_
    exact bad (by omega)
  have h2 := of_decide_eq_false h2
  refine R_ownB 2 3 4 rfl rfl rfl ?_
  refine R_loop (fun x : Nat × Int => ([(0, .d (.sl (bindRows B))), (2, iV most), (3, iV deep), (5, .lo 0 0), (8, .lo 1 0), (11, .lo 2 0), (12, iV x.2), (13, iV x.1)], [boxR t, zBxS, .box [.d (.v (.int .i64 t.k)), .d (.v (.string t.s)), .d (.v (.int .i64 t.n)), .ow 3 x.1], .arr 4 x.1 (Tm.rows ((t.l.take x.1).map (fullS B M)))]))
    (fun x => x.1 ≤ t.l.length ∧ x.2 = 1 + Tm.sizeL ((t.l.take x.1).map (fullS B M)) ∧ x.2 ≤ most ∧ ∀ y ∈ t.l.take x.1, ((fullS B M y).depth : Int) ≤ deep - 1) (fun x => t.l.length - x.1) (0, 1) ⟨Nat.zero_le _, by simp [Tm.sizeL], by simp only; omega, by simp⟩ ⟨.refl _, .refl _, .refl _, .refl _, .refl _, .refl _, .refl _, .refl _, trivial⟩ rfl ?_
  rintro ⟨k, n⟩ ⟨hk, hn, hnm, hdp⟩
  simp only at hk hn hnm hdp
  refine R_run hg.ok 1000 rfl rfl ?_
  refine R_if rfl rfl (fun h => ?_) (fun h => ?_) <;> refine R_run hg.ok 1000 rfl rfl ?_
  · have hk1 : k < t.l.length := lt_dec h (by rw [Tm.rows_length])
    have e1 : t.l[k]? = some t.l[k] := List.getElem?_eq_getElem hk1
    have e2 : (t.l.map (fullS B M))[k]? = some (fullS B M t.l[k]) := by rw [List.getElem?_map, e1]; rfl
    have hsm : (fullS B M t.l[k]).size ≤ Tm.sizeL (t.l.map (fullS B M)) := Tm.size_mem (List.mem_of_getElem? e2)
    have hdm : (fullS B M t.l[k]).depth ≤ Tm.depthL (t.l.map (fullS B M)) := Tm.depth_mem (List.mem_of_getElem? e2)
    have hst := Tm.sizeL_take_succ e2
    have hst2 := Tm.sizeL_take (t.l.map (fullS B M)) (k + 1)
    rw [← List.map_take, ← List.map_take] at hst
    rw [← List.map_take] at hst2
    have hz := Tm.size_eq (fullS B M t.l[k])
    have hkl := Tm.len_le_sizeL ((t.l.take k).map (fullS B M))
    rw [List.length_map, List.length_take, Nat.min_eq_left (by omega)] at hkl
    refine R_index hg.ok rfl rfl rfl rfl rfl rfl (Int.natCast_nonneg _) (Tm.rows_get e1) rfl ?_
    refine R_run hg.ok 1000 rfl rfl ?_
    rw [w64 (n := most - n) (by omega) (by omega), w64 (n := deep - 1) (by omega) (by omega)]
    have hc := ihN M t.l[k] (most - n) (deep - 1) (by omega) (hS.lev _) (Sub.kid_fair hf (List.getElem_mem hk1)) (by omega) (by omega) (by omega) (by omega)
    by_cases hfit : ((fullS B M t.l[k]).size : Int) ≤ most - n ∧ ((fullS B M t.l[k]).depth : Int) ≤ deep - 1
    · rw [becR_yes hfit.1 hfit.2] at hc
      refine R_call hg.ok (hc) rfl rfl rfl rfl rfl rfl ?_
      refine R_run hg.ok 1000 rfl rfl ?_
      refine R_if rfl rfl (fun h => absurd h (by simp; omega)) (fun _ => ?_) <;> refine R_run hg.ok 1000 rfl rfl ?_
      refine R_appendO hg.ok (Tm.rows ((t.l.take (k + 1)).map (fullS B M))) rfl rfl rfl rfl rfl rfl rfl rfl rfl (by simp) (by simp [one1]) (rowsMap_snoc (fullS B M) e1) (by rw [Tm.rows_length]; simp; omega) (by rw [Tm.rows_length]; simp; omega) ?_
      refine R_run hg.ok 1000 rfl rfl ?_
      rw [w64 (n := n + ((fullS B M t.l[k]).size : Int)) (by omega) (by omega)]
      refine R_dropO 4 [boxR t, zBxS, .box [.d (.v (.int .i64 t.k)), .d (.v (.string t.s)), .d (.v (.int .i64 t.n)), .ow 3 (k + 1)], .arr 4 (k + 1) (Tm.rows ((t.l.take (k + 1)).map (fullS B M)))] (Nat.zero_le _) rfl rfl ?_
      refine R_next (k + 1, n + (fullS B M t.l[k]).size) ⟨hk1, by simp only; rw [hst]; omega, by simp only; omega, fun y hy => ?_⟩ (by simp only; omega) ⟨.refl _, .refl _, .refl _, .refl _, .refl _, .refl _, .refl _, Ent.wrap (by simp only; omega) (by simp only; omega) (by simp only; omega), trivial⟩ rfl
      rw [List.take_add_one, e1] at hy
      rcases List.mem_append.1 hy with hy | hy
      · exact hdp y hy
      · simp at hy; rw [hy]; exact hfit.2
    · rw [becR_no hfit] at hc
      refine R_call hg.ok (hc) rfl rfl rfl rfl rfl rfl ?_
      refine R_run hg.ok 1000 rfl rfl ?_
      refine R_if rfl rfl (fun _ => ?_) (fun h => absurd h (by simp)) <;> refine R_run hg.ok 1000 rfl rfl ?_
      refine R_ret hg 5 rfl rfl ?_
      exact bad (by omega)
  · have hk1 : t.l.length ≤ k := ge_dec h (by rw [Tm.rows_length])
    rw [List.take_of_length_le hk1] at hn hdp ⊢
    have hd := Tm.depthL_le (l := t.l.map (fullS B M)) (n := deep - 1) (by omega) (fun y hy => by
      obtain ⟨z, hz, rfl⟩ := List.mem_map.1 hy
      exact hdp z hz)
    rw [becR_yes (by omega) (by omega)]
    have hT : fullS B M t = .mk t.k t.s t.n (t.l.map (fullS B M)) := hhead
    rw [show ((fullS B M t).size : Int) = n by omega, hT]
    refine R_ret hg 5 rfl (sealA_tup (mapO_cons (sealA_term rfl rfl rfl rfl) (mapO_cons rfl rfl))) ?_
    rfl

set_option maxRecDepth 100000 in
theorem refApply3_ok (B : Binds) (M : Nat) (hS : Sub B M) (hBl : B.length ≤ 4000) (t : Tm) (hf : t.fairR = true) : PCtr Try.prog 49 [.d (.sl (bindRows B)), t.av] (.tup [(app3 (fullS B M t)).1.av, iV (app3 (fullS B M t)).2]) := by
  have hc := refBecome_ok B M hS hBl _ M t 3000 100 (Nat.le_refl _) (hS.lev t) hf (by omega) (by omega) (by omega) (by omega)
  rw [app3_becR]
  generalize becR (fullS B M t) 3000 100 = q at hc ⊢
  obtain ⟨q1, q2⟩ := q
  refine PCtr.of_R (pf := fun _ => .still) tyOk mixed Try.func49 rfl (by kernel_rfl) (by kernel_rfl) (by simp [Try.ntmps49]) fun w S hg => ?_
  refine R_run hg.ok 1000 rfl rfl ?_
  refine R_call hg.ok (hc) rfl rfl rfl rfl rfl rfl ?_
  refine R_run hg.ok 1000 rfl rfl ?_
  refine R_if rfl rfl (fun h => ?_) (fun h => ?_) <;> refine R_run hg.ok 1000 rfl rfl ?_
  · have h : q2 = 0 := by simpa using h
    rw [if_pos h]
    refine R_ret hg 5 rfl rfl ?_
    rfl
  · have h : ¬ q2 = 0 := by simpa using h
    rw [if_neg h]
    refine R_ret hg 5 rfl rfl ?_
    rfl
end Go.Proofs.Ytppghekipbnjhaa

namespace Go.Proofs.Ytppghekipbnjhaa
open Go PSL Go.Proofs
end Go.Proofs.Ytppghekipbnjhaa

namespace Go.Proofs.Ytppghekipbnjhaa
open Go PSL Go.Proofs
end Go.Proofs.Ytppghekipbnjhaa

namespace PSL
open Go
namespace Tm
end Tm
abbrev Pt := Tm × List Nat
namespace Tm

/-- Each part's Args lie ahead of it. -/
def Good (P : List Pt) : Prop := ∀ (k : Nat) (y : Tm) (at_ : List Nat), P[k]? = some (y, at_) → y.fairR = true ∧ at_.length = y.l.length ∧ ∀ (j : Nat) (z : Tm), y.l[j]? = some z → ∃ (a : Nat) (b : List Nat), at_[j]? = some a ∧ a < k ∧ P[a]? = some (z, b)

/-- One row of parts goes on to another. -/
def Pre (P Q : List Pt) : Prop := ∃ R, Q = P ++ R

theorem Pre.get {P Q : List Pt} (h : Pre P Q) {i : Nat} {x : Pt} (hx : P[i]? = some x) : Q[i]? = some x := by
  obtain ⟨R, rfl⟩ := h
  rw [List.getElem?_append_left (List.getElem?_eq_some_iff.1 hx).1]; exact hx
theorem Pre.refl (P : List Pt) : Pre P P := ⟨[], by simp⟩

theorem Pre.trans {P Q R : List Pt} (h : Pre P Q) (k : Pre Q R) : Pre P R := by
  obtain ⟨A, rfl⟩ := h; obtain ⟨B, rfl⟩ := k
  exact ⟨A ++ B, by simp⟩
theorem Good.nil : Good [] := fun k y b h => by simp at h
end Tm
end PSL

namespace PSL
open Go
def gd (at_ : List Nat) (j : Nat) : Int := ((at_.getD j 0 : Nat) : Int)
end PSL
namespace PSL
open Go
end PSL
namespace PSL
open Go
end PSL
namespace PSL
open Go
end PSL
namespace PSL
open Go
def smallS (l : List Tm) : Bool := decide (Tm.fewL l 60 200 ≥ 0)

theorem smallS_ok {l : List Tm} (h : smallS l = true) : Tm.sizeL l ≤ 60 ∧ ∀ x e, e ∈ Tm.elsL l x → e.2.s.size ≤ 100 := by
  simp only [smallS, decide_eq_true_eq] at h
  rcases Tm.fewL_le l 60 200 (by omega) (by omega) (by omega) with h1 | ⟨h2, _, _, h5⟩
  · omega
  · exact ⟨by omega, h5⟩
end PSL

namespace Go.Proofs.Ytppghekipbnjhaa
open Go PSL Go.Proofs
theorem nm4 {t : Tm} (h : ∀ x e, e ∈ t.els x → e.2.s.size ≤ 100) : ∀ x e, e ∈ t.els x → e.2.s.size < 1000000000 := fun x e he => by have := h x e he; omega

set_option maxRecDepth 100000 in
theorem sm4_ok (l : List Tm) (hl : ∀ t ∈ l, t.Ok) (hlen : l.length < 4611686018427387904) : PCtr Try.prog 27 [.d (.sl (Tm.rows l))] (bV (smallS l)) := by
  refine PCtr.of_R (pf := fun _ => .still) tyOk mixed Try.func27 rfl (by kernel_rfl) (by kernel_rfl) (by simp [Try.ntmps27]) fun w S hg => ?_
  refine R_run hg.ok 1000 rfl rfl ?_
  refine R_loop (fun x : Nat × Int => ([(0, .d (.sl (Tm.rows l))), (3, iV x.2), (4, iV x.1)], [])) (fun x => x.1 ≤ l.length ∧ Tm.fewL l 60 200 = Tm.fewL (l.drop x.1) x.2 200) (fun x => l.length - x.1) (0, 60) ⟨Nat.zero_le _, rfl⟩ ⟨.refl _, .refl _, .refl _, trivial⟩ rfl ?_
  rintro ⟨k, q⟩ ⟨hk, hm⟩
  simp only at hk hm
  refine R_run hg.ok 1000 rfl rfl ?_
  refine R_if rfl rfl (fun h => ?_) (fun h => ?_) <;> refine R_run hg.ok 1000 rfl rfl ?_
  · have hk1 : k < l.length := lt_dec h (by rw [Tm.rows_length])
    have e1 : l[k]? = some l[k] := List.getElem?_eq_getElem hk1
    rw [List.drop_eq_getElem_cons hk1, Tm.fewL] at hm
    refine R_if rfl rfl (fun h2 => ?_) (fun h2 => ?_) <;> refine R_run hg.ok 1000 rfl rfl ?_
    · rw [if_pos (of_decide_eq_true h2)] at hm
      refine R_index hg.ok rfl rfl rfl rfl rfl rfl (Int.natCast_nonneg _) (Tm.rows_get e1) rfl ?_
      refine R_run hg.ok 1000 rfl rfl ?_
      refine R_call hg.ok (few_ok _ (hl _ (List.getElem_mem hk1)) _ _) rfl rfl rfl rfl rfl rfl ?_
      refine R_run hg.ok 1000 rfl rfl ?_
      exact R_next (k + 1, l[k].few q 200) ⟨hk1, hm⟩ (by simp only; omega) ⟨.refl _, .refl _, Ent.wrap (by simp only; omega) (by simp only; omega) (by simp only; omega), trivial⟩ rfl
    · have h2 := of_decide_eq_false h2
      rw [if_neg h2] at hm
      refine R_ret hg 5 rfl rfl ?_
      unfold smallS
      rw [hm]; rfl
  · have hk1 : l.length ≤ k := ge_dec h (by rw [Tm.rows_length])
    rw [List.drop_eq_nil_of_le hk1, Tm.fewL] at hm
    refine R_ret hg 5 rfl rfl ?_
    unfold smallS
    rw [hm]; rfl

theorem fun4_ok (s : ByteArray) (l : List Tm) : PCtr Try.prog 72 [.d (.v (.string s)), .d (.sl (Tm.rows l))] (Tm.mk 3 s 0 l).av := by
  refine PCtr.of_R (pf := fun _ => .still) tyOk mixed Try.func72 rfl (by kernel_rfl) (by kernel_rfl) (by simp [Try.ntmps72]) fun w S hg => ?_
  refine R_run hg.ok 1000 rfl rfl ?_
  refine R_ret hg 5 rfl rfl ?_
  rfl
def u4x : Tm := Tm.vT 0
def u4y : Tm := Tm.vT 1
def u4c : Tm := .mk 3 ⟨#[97]⟩ 0 []
def u4a : Tm := .mk 3 ⟨#[102]⟩ 0 [u4x, .mk 3 ⟨#[103]⟩ 0 [u4y]]
def u4b : Tm := .mk 3 ⟨#[102]⟩ 0 [u4c, .mk 3 ⟨#[103]⟩ 0 [u4x]]
def u4f : Tm := .mk 3 ⟨#[102]⟩ 0 [u4x]
def u4B : Binds := [(1, u4x), (0, u4c)]
end Go.Proofs.Ytppghekipbnjhaa

namespace PSL
open Go
namespace Tm

theorem UG.nil (S : List Int) (N : Nat) : UG S N [] [] :=
  ⟨chainB.nil, fun b hb => (by cases hb), fun p hp => (by cases hp), fun p hp => (by cases hp), fun b hb => (by cases hb), ⟨vT, fun b hb => (by cases hb)⟩, fun b hb => (by cases hb), fun p hp => (by cases hp)⟩

theorem UG.pair {S : List Int} {N : Nat} {B : Binds} (h : UG S N [] B) {a b : Tm} (ha : a.rightB = true) (hb : b.rightB = true) (sa : a.size ≤ N) (sb : b.size ≤ N) (oa : ∀ v ∈ occ a, v ∈ S) (ob : ∀ v ∈ occ b, v ∈ S) : UG S N [(a, b)] B :=
  ⟨h.chain, h.fairb, fun p hp => (by rw [List.mem_singleton] at hp; subst hp; exact ⟨right_fair ha, right_fair hb⟩), fun p hp => (by rw [List.mem_singleton] at hp; subst hp; exact ⟨sa, sb⟩), h.sb, h.sol, h.vb, fun p hp => (by rw [List.mem_singleton] at hp; subst hp; exact ⟨oa, ob⟩)⟩

/-- The program and the document, from binds with the same solutions. -/
theorem both_runs {S : List Int} {N : Nat} {B C B' C' : Binds} {a b : Tm} {ok ok2 : Bool} (hBC : ∀ σ, solB σ B ↔ solB σ C) (hB' : UG S N [] B') (hC' : UG S N [] C')
    (p1 : ok = true → ∀ σ, solB σ B' ↔ solB σ B ∧ putF σ a = putF σ b) (p2 : ok = false → ∀ σ, solB σ B → putF σ a ≠ putF σ b) (q1 : ok2 = true → ∀ σ, solB σ C' ↔ solB σ C ∧ putF σ a = putF σ b) (q2 : ok2 = false → ∀ σ, solB σ C → putF σ a ≠ putF σ b) :
    ok = ok2 ∧ (ok = true → ∀ σ, solB σ B' ↔ solB σ C') := by
  have he : ok = ok2 := by
    cases h1 : ok <;> cases h2 : ok2
    · rfl
    · obtain ⟨σ, hσ⟩ := hC'.sol
      have h3 := (q1 h2 σ).1 hσ
      exact absurd h3.2 (p2 h1 σ ((hBC σ).2 h3.1))
    · obtain ⟨σ, hσ⟩ := hB'.sol
      have h3 := (p1 h1 σ).1 hσ
      exact absurd h3.2 (q2 h2 σ ((hBC σ).1 h3.1))
    · rfl
  refine ⟨he, fun h σ => ?_⟩
  rw [p1 h σ, q1 (he ▸ h) σ, hBC σ]
theorem fitF_turn (g : Int → Int) (t : Tm) : fitF (turnT g t) = fitF t := by unfold fitF; rw [size_turn, depth_turn]

/-- Whether all fits is alike. -/
theorem fits_same {S S' : List Int} {N N' : Nat} {B C : Binds} (hB : UG S N [] B) (hC : UG S' N' [] C) (h : ∀ σ, solB σ B ↔ solB σ C) {l : List Tm} (hf : fairRL l = true) : l.all (fun t => fitF (fullS C C.length t)) = l.all (fun t => fitF (fullS B B.length t)) := by
  obtain ⟨_, g, hg⟩ := same_sols hB hC h hf
  have e : ∀ (f : Tm → Tm), l.all (fun t => fitF (f t)) = (l.map f).all fitF := fun f => by rw [List.all_map]; rfl
  rw [e, e, hg, turnTL_map, List.all_map]
  congr 1
  funext t
  exact fitF_turn g t

theorem full_alike {S : List Int} {N : Nat} {B : Binds} (hB : UG S N [] B) {a b : Tm} (ha : a.fairR = true) (hb : b.fairR = true) (h : ∀ σ, solB σ B → putF σ a = putF σ b) : fullS B B.length a = fullS B B.length b := by
  have hS := hB.sub_
  rw [← sub_putV hS ha, ← sub_putV hS hb]
  exact h _ (sub_solV hS hB.chain)
end Tm
end PSL

namespace Go.Proofs.Ytppghekipbnjhaa
open Go PSL Go.Proofs

set_option maxRecDepth 100000 in
theorem knows4j_ok : PCtr Try.prog 33 [] (bV true) := by
  have hU : Tm.UG [0, 1] 20 [(u4a, u4b)] [] := (Tm.UG.nil _ _).pair (by kernel_rfl) (by kernel_rfl) (by decide) (by decide) (by decide) (by decide)
  have hM := mgj_ok (S := [0, 1]) (N := 20) (by decide) (by decide) u4B true u4a u4b 20 (Tm.UState.first (by kernel_rfl) (by decide) (Tm.ugF_run 20 _ _ _ _ _ (by kernel_rfl)) hU) (by decide) (by decide) (by kernel_rfl) (by kernel_rfl) (fun e he => fair_names (t := u4a) (by kernel_rfl) 1 e he) (fun e he => fair_names (t := u4b) (by kernel_rfl) 1 e he)
  have sb : Small u4B := smallFair (by decide) (by kernel_rfl) (by kernel_rfl)
  have hA := apply_ok u4B 3 (fun _ => Sub.ofB (by kernel_rfl)) sb u4y (by decide) (fun x e he => fair_names (t := u4y) (by kernel_rfl) x e he)
  rw [show applyT u4B 3 u4y = (u4c, 0) by kernel_rfl] at hA
  have hV : Tm.UG [0] 20 [(u4x, u4f)] [] := (Tm.UG.nil _ _).pair (by kernel_rfl) (by kernel_rfl) (by decide) (by decide) (by decide) (by decide)
  have hN := mgj_ok (S := [0]) (N := 20) (by decide) (by decide) [] false u4x u4f 20 (Tm.UState.first (by kernel_rfl) (by decide) (Tm.ugF_run 20 _ _ _ _ _ (by kernel_rfl)) hV) (by decide) (by decide) (by kernel_rfl) (by kernel_rfl) (fun e he => fair_names (t := u4x) (by kernel_rfl) 1 e he) (fun e he => fair_names (t := u4f) (by kernel_rfl) 1 e he)
  refine PCtr.of_R (pf := fun _ => .still) tyOk mixed Try.func33 rfl (by kernel_rfl) (by kernel_rfl) (by simp [Try.ntmps33]) fun w S hg => ?_
  refine R_run hg.ok 1000 rfl rfl ?_
  refine R_callN hg.ok (fun4_ok ⟨#[103]⟩ [u4y]) rfl rfl rfl rfl (by kernel_rfl) rfl rfl ?_
  refine R_run hg.ok 1000 rfl rfl ?_
  refine R_callN hg.ok (fun4_ok ⟨#[102]⟩ [u4x, .mk 3 ⟨#[103]⟩ 0 [u4y]]) rfl rfl rfl rfl (by kernel_rfl) rfl rfl ?_
  refine R_run hg.ok 1000 rfl rfl ?_
  refine R_callN hg.ok (fun4_ok ⟨#[97]⟩ []) rfl rfl rfl rfl (by kernel_rfl) rfl rfl ?_
  refine R_run hg.ok 1000 rfl rfl ?_
  refine R_callN hg.ok (fun4_ok ⟨#[103]⟩ [u4x]) rfl rfl rfl rfl (by kernel_rfl) rfl rfl ?_
  refine R_run hg.ok 1000 rfl rfl ?_
  refine R_callN hg.ok (fun4_ok ⟨#[102]⟩ [u4c, .mk 3 ⟨#[103]⟩ 0 [u4x]]) rfl rfl rfl rfl (by kernel_rfl) rfl rfl ?_
  refine R_run hg.ok 1000 rfl rfl ?_
  refine R_callN hg.ok (hM) rfl rfl rfl rfl (by kernel_rfl) rfl rfl ?_
  refine R_run hg.ok 1000 rfl rfl ?_
  refine R_callN hg.ok (hA) rfl rfl rfl rfl (by kernel_rfl) rfl rfl ?_
  refine R_run hg.ok 1000 rfl rfl ?_
  refine R_callN hg.ok (fun4_ok ⟨#[102]⟩ [u4x]) rfl rfl rfl rfl (by kernel_rfl) rfl rfl ?_
  refine R_run hg.ok 1000 rfl rfl ?_
  refine R_callN hg.ok (hN) rfl rfl rfl rfl (by kernel_rfl) rfl rfl ?_
  refine R_run hg.ok 1000 rfl rfl ?_
  repeat
    first
    | (refine R_if rfl rfl (fun _ => ?_) (fun h => absurd h (by decide)); refine R_run hg.ok 1000 rfl rfl ?_)
    | (refine R_index hg.ok rfl rfl rfl rfl rfl rfl (by decide) rfl rfl ?_; refine R_run hg.ok 1000 rfl rfl ?_)
    | (refine R_if rfl rfl (fun _ => ?_) (fun h => absurd (h.symm.trans (Tm.strEq_iff.2 rfl)) (by simp)); refine R_run hg.ok 1000 rfl rfl ?_)
  refine R_ret hg 5 rfl rfl ?_
  rfl
end Go.Proofs.Ytppghekipbnjhaa

namespace Go.Proofs.Ytppghekipbnjhaa
open Go PSL Go.Proofs
end Go.Proofs.Ytppghekipbnjhaa

namespace Go.Proofs.Ytppghekipbnjhaa
open Go PSL Go.Proofs
end Go.Proofs.Ytppghekipbnjhaa

namespace Go.Proofs.Ytppghekipbnjhaa
open Go PSL Go.Proofs
end Go.Proofs.Ytppghekipbnjhaa

namespace Go.Proofs.Ytppghekipbnjhaa
open Go PSL Go.Proofs
end Go.Proofs.Ytppghekipbnjhaa

namespace Go.Proofs.Ytppghekipbnjhaa
open Go PSL Go.Proofs
end Go.Proofs.Ytppghekipbnjhaa

namespace Go.Proofs.Ytppghekipbnjhaa
open Go PSL Go.Proofs
end Go.Proofs.Ytppghekipbnjhaa
