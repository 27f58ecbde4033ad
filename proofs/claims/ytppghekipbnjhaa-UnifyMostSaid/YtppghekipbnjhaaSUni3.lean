import Derived.Test.YtppghekipbnjhaaSUni2
import Derived.Test.YtppghekipbnjhaaSMsg
namespace Go.Proofs.Ytppghekipbnjhaa
open Go PSL Go.Proofs

theorem pairCk (d : Nat) (b : Bool) (p : Int × Int) (w : World) : (Instr.checkKey b (d + 1 + 1) 133 (pkV p)).run Try.prog w = .ok () w := by
  obtain ⟨i, hi⟩ := info_of_underlying Try.underlying3
  simp [Instr.checkKey, pkV, part, run_sizeOf w hi, Std.Legacy.Range.forIn_eq_forIn_range', Std.Legacy.Range.size, List.range']

theorem pairEq (d : Nat) (p q : Int × Int) (w : World) : (Op.equalIn (d + 1 + 1) 133 (pkV p) (pkV q)).run Try.prog w = .ok (decide (p = q)) w := by
  obtain ⟨i, hi⟩ := info_of_underlying Try.underlying3
  have hc : Try.prog.cellsOf 3 = 1 := by kernel_rfl
  unfold pkV
  rw [run_equalIn_array (w := w) (d + 1) _ _ Try.underlying133 hi, hc]
  simp only [List.range, List.range.loop, Op.eqItems]
  obtain ⟨p1, p2⟩ := p
  obtain ⟨q1, q2⟩ := q
  simp [part, run_equalIn_int _ _ _ _ _ _ _ Try.underlying3]
  by_cases h1 : p1 = q1 <;> by_cases h2 : p2 = q2 <;> simp [h1, h2]

theorem uniKey : PKey Try.prog 133 := ⟨⟨_, _, Try.underlying133⟩, fun p q w => pairEq 9998 p q w, fun b p w => pairCk 9998 b p w⟩

def pfUni : Nat → Cls := fun f => bif Nat.beq f 4800100000 then .turn 100 else bif Nat.beq f 4000000005 then .turn 0 else bif Nat.beq f 4000000004 then .turn 1 else bif Nat.beq f 4900100004 then .turn 100 else bif Nat.beq f 4000000006 then .turn 201 else bif Nat.beq f 4000100027 then .look 10001 else bif Nat.beq f 4000100034 then .look 10001 else bif Nat.beq f 4000300023 then .look 10001 else bif Nat.beq f 4000300030 then .look 10001 else bif Nat.beq f 4000200009 then .turn 10000 else bif Nat.beq f 4000200010 then .turn 10000 else bif Nat.beq f 97 then .turn 3 else bif Nat.beq f 4000100009 then .look 4 else bif Nat.beq f 4000100010 then .look 4 else .eff

def metP (met : List (Int × Int)) : List ((Int × Int) × AV) := met.map fun p => (p, AV.tt)

theorem metP_get : ∀ (met : List (Int × Int)) (p : Int × Int), getP (metP met) p = if met.contains p then some AV.tt else none
  | [], p => rfl
  | m :: met, p => by
    simp only [metP, List.map_cons, getP, List.contains_cons]
    by_cases h : m = p
    · simp [h]
    · rw [if_neg h, show getP (List.map (fun p => (p, AV.tt)) met) p = getP (metP met) p from rfl, metP_get met p]
      have : (p == m) = false := by simp; exact fun e => h e.symm
      rw [this, Bool.false_or]

theorem metP_mapOb {f : AV → AV} (h : f .tt = .tt) (met : List (Int × Int)) : mapOb f (.map (pmap (metP met))) = .map (pmap (metP met)) := by
  simp [mapOb, pmap, metP, h]

/-- What lies there between one round and the next. -/
def urObj (a b : Tm) (B : Binds) (s : Nat) (T : List (Tm × Tm)) (met : List (Int × Int)) : List Ob := uobj B ++ [boxR a, boxR b, .arr 8 s (prsRows T), .map (pmap (metP met))]

theorem uobj_ren (B : Binds) (n : Nat) : (uobj B).map (renOb (rn [0, 1, 2] n)) = uobj B := by
  have e : (renOb (rn [0, 1, 2] n)) = mapOb (renA (rn [0, 1, 2] n)) := by funext o; cases o <;> simp [renOb, mapOb, renL_map]
  rw [e]
  simp only [uobj, List.map_cons, List.map_nil]
  rw [tmM_mapOb (fun t => rfl)]; rfl

theorem urObj_trim (a b : Tm) (B : Binds) (s : Nat) (T : List (Tm × Tm)) (met : List (Int × Int)) (l : List Ob) : ((urObj a b B s T met ++ l).take 7).map (mapOb (trimA 7)) = urObj a b B s T met := by
  have e : (urObj a b B s T met ++ l).take 7 = urObj a b B s T met := by simp [urObj, uobj]
  rw [e]
  simp only [urObj, uobj, List.map_append, List.map_cons, List.map_nil, List.cons_append, List.nil_append]
  rw [tmM_mapOb (f := trimA 7) (fun t => rfl), metP_mapOb (f := trimA 7) rfl]; rfl

theorem urObj_trim3 (a b : Tm) (B : Binds) (s : Nat) (T : List (Tm × Tm)) (met : List (Int × Int)) (u v : Tm) (c d : Int) (l : List Ob) : ((urObj a b B s T met ++ [boxR u, boxR v, .box [iV c, iV d]] ++ l).take 10).map (mapOb (trimA 10)) = urObj a b B s T met ++ [boxR u, boxR v, .box [iV c, iV d]] := by
  have e : (urObj a b B s T met ++ [boxR u, boxR v, .box [iV c, iV d]] ++ l).take 10 = urObj a b B s T met ++ [boxR u, boxR v, .box [iV c, iV d]] := by simp [urObj, uobj]
  rw [e]
  simp only [urObj, uobj, List.map_append, List.map_cons, List.map_nil, List.cons_append, List.nil_append]
  rw [tmM_mapOb (f := trimA 10) (fun t => rfl), metP_mapOb (f := trimA 10) rfl]; rfl

theorem prs_snoc2 (M : List (Tm × Tm)) (a b : Tm) : prsRows M ++ [[.v (.int .i64 a.k), .v (.string a.s), .v (.int .i64 a.n), .sl (Tm.rows a.l), .v (.int .i64 b.k), .v (.string b.s), .v (.int .i64 b.n), .sl (Tm.rows b.l)]] = prsRows (M ++ [(a, b)]) := prs_snoc M a b

set_option maxHeartbeats 3200000 in
set_option maxRecDepth 100000 in
theorem uniLoop_ok (Y : YP) (σ : Int → Tm) (B' : Binds) (a b : Tm) (n0 : Nat) (h0 : Tm.URound σ B' n0 [(a, b)] [] []) : SCtr Try.prog Y 80 [.lo 0 0, a.av, b.av] (uobj []) (bV true) (uobj B') := by
  refine SCtr.of_R (pf := pfUni) tyOk mixed Try.func80 rfl (by kernel_rfl) (by kernel_rfl) (by simp [Try.ntmps80]) (by simp [uobj]) fun w S φ hg => ?_
  have hφ : φ.length = 3 := hg.hs0.len
  have keep : ∀ (B : Binds) (o : List Ob), (uobj B).map (mapOb (sealT false 3 o 5)) = uobj B := fun B o => by
    simp only [uobj, List.map_cons, List.map_nil]
    rw [tmM_mapOb (fun t => rfl)]; rfl
  refine R_run hg.ok 1000 rfl rfl ?_
  refine R_buildA hg.ok _ rfl rfl rfl rfl rfl rfl rfl rfl ?_
  refine R_run hg.ok 1000 rfl rfl ?_
  refine R_buildO hg.ok (prsRows [(a, b)]) rfl rfl rfl rfl rfl rfl rfl rfl (by simp [prsRows]) (by simp [prsRows]) ?_
  refine R_run hg.ok 1000 rfl rfl ?_
  refine R_makeMap hg.ok rfl rfl ?_
  refine R_run hg.ok 1000 rfl rfl ?_
  refine R_loop (fun x : Nat × List (Tm × Tm) × Binds × List (Int × Int) × Nat => ([(0, .lo 0 0), (7, .ow 5 x.2.2.2.2), (8, .mp 6)], urObj a b x.2.2.1 x.2.2.2.2 x.2.1 x.2.2.2.1)) (fun x => Tm.URound σ B' x.1 x.2.1 x.2.2.1 x.2.2.2.1) (fun x => x.1) (n0, [(a, b)], [], [], 0) h0 ⟨.refl _, .refl _, .refl _, trivial⟩ rfl ?_
  rintro ⟨n, T, B, met, s⟩ hU
  simp only at hU
  have hfew := hU.few
  have hsum := hU.sum
  have hTl := Tm.sumS_len σ T
  have hn0 : n ≠ 0 := by omega
  obtain ⟨n, rfl⟩ : ∃ m, n = m + 1 := ⟨n - 1, by omega⟩
  refine R_run hg.ok 1000 rfl rfl ?_
  refine R_lenO hg.ok rfl rfl rfl rfl rfl (n := (T.length : Int)) (by rw [prsRows_len]) ?_
  refine R_run hg.ok 1000 rfl rfl ?_
  rcases List.eq_nil_or_concat T with rfl | ⟨R, p, rfl⟩
  · refine R_if rfl rfl (fun h => absurd h (by simp)) (fun _ => ?_) <;> refine R_run hg.ok 1000 rfl rfl ?_
    have hr := hU.run
    simp only [Tm.uniF, List.getLast?_nil, Option.some.injEq] at hr
    rw [← hr]
    exact R_retS hg 3 5 (Nat.le_refl _) rfl rfl (keep B _)
  obtain ⟨x, y⟩ := p
  rw [List.concat_eq_append] at hU hTl hsum ⊢
  refine R_if rfl rfl (fun _ => ?_) (fun h => absurd h (by simp)) <;> refine R_run hg.ok 1000 rfl rfl ?_
  have hRl : (R ++ [(x, y)]).length = R.length + 1 := by simp
  have hget : (prsRows (R ++ [(x, y)]))[((R.length : Nat) : Int).toNat]? = some (prsRow (x, y)) := prsRows_get (by simp)
  refine R_pair hg.ok 14 (by kernel_rfl) (by kernel_rfl) ?_ ?_
  · refine R_run hg.ok 1000 rfl rfl ?_
    refine R_lenJ hg.ok 10000 (by simp [mayO, Ob.lvl, Ob.isBox]) rfl rfl rfl rfl rfl rfl (n := ((R ++ [(x, y)]).length : Int)) (by rw [prsRows_len]) ?_
    refine R_run hg.ok 1000 rfl rfl ?_
    rw [w64 (n := ((R ++ [(x, y)]).length : Int) - 1) (by omega) (by omega), show ((R ++ [(x, y)]).length : Int) - 1 = ((R.length : Nat) : Int) by omega]
    refine R_indexOJ hg.ok 10000 rfl rfl rfl (by simp [mayO, Ob.lvl, Ob.isBox]) rfl rfl rfl rfl rfl rfl (Int.natCast_nonneg _) (by rw [prsRows_len]; simp) ?_
    refine R_run hg.ok 1000 rfl rfl ?_
    refine R_indexEA hg.ok 0 rfl rfl rfl rfl rfl rfl (by decide) (by decide) rfl ?_
    refine R_run hg.ok 1000 rfl rfl ?_
    refine R_loadEJ hg.ok 10000 rfl rfl rfl (by simp [mayO, Ob.lvl, Ob.isBox]) rfl rfl rfl hget rfl ?_
    refine R_run hg.ok 1000 rfl rfl ?_
    refine R_lenJ hg.ok 10000 (by simp [mayO, Ob.lvl, Ob.isBox]) rfl rfl rfl rfl rfl rfl (n := ((R ++ [(x, y)]).length : Int)) (by rw [prsRows_len]) ?_
    refine R_run hg.ok 1000 rfl rfl ?_
    rw [w64 (n := ((R ++ [(x, y)]).length : Int) - 1) (by omega) (by omega), show ((R ++ [(x, y)]).length : Int) - 1 = ((R.length : Nat) : Int) by omega]
    refine R_indexOJ hg.ok 10000 rfl rfl rfl (by simp [mayO, Ob.lvl, Ob.isBox]) rfl rfl rfl rfl rfl rfl (Int.natCast_nonneg _) (by rw [prsRows_len]; simp) ?_
    refine R_run hg.ok 1000 rfl rfl ?_
    refine R_indexEA hg.ok 4 rfl rfl rfl rfl rfl rfl (by decide) (by decide) rfl ?_
    refine R_run hg.ok 1000 rfl rfl ?_
    refine R_loadEJ hg.ok 10000 rfl rfl rfl (by simp [mayO, Ob.lvl, Ob.isBox]) rfl rfl rfl hget rfl ?_
    refine R_run hg.ok 1000 rfl rfl ?_
    refine R_storeB hg.ok rfl rfl rfl rfl rfl rfl rfl rfl rfl ?_
    refine R_run hg.ok 1000 rfl rfl ?_
    refine R_storeB hg.ok rfl rfl rfl rfl rfl rfl rfl rfl rfl ?_
    refine R_run hg.ok 1000 rfl rfl ?_
    refine R_lenO hg.ok rfl rfl rfl rfl rfl (n := ((R ++ [(x, y)]).length : Int)) (by rw [prsRows_len]) ?_
    refine R_run hg.ok 1000 rfl rfl ?_
    rw [w64 (n := ((R ++ [(x, y)]).length : Int) - 1) (by omega) (by omega), show ((R ++ [(x, y)]).length : Int) - 1 = ((R.length : Nat) : Int) by omega]
    refine R_shrinkO hg.ok (prsRows R) rfl rfl rfl rfl rfl rfl rfl rfl rfl rfl (Int.natCast_nonneg _) (by rw [prsRows_len]; simp; omega) (by simp [prsRows]) ?_
    refine R_run hg.ok 1000 rfl rfl ?_
    refine R_buildA hg.ok _ rfl rfl rfl rfl rfl rfl rfl rfl ?_
    refine R_run hg.ok 1000 rfl rfl ?_
    cases hs : Tm.skipU x y met with
    | true =>
      have hs' := hs
      simp only [Tm.skipU, Bool.and_eq_true, decide_eq_true_eq] at hs'
      refine R_if rfl rfl (fun _ => ?_) (fun h => absurd h (by simp [hs'.1.1])) <;> refine R_run hg.ok 1000 rfl rfl ?_
      refine R_if rfl rfl (fun _ => ?_) (fun h => absurd h (by simp [hs'.1.2])) <;> refine R_run hg.ok 1000 rfl rfl ?_
      refine R_lookupP hg.ok (metP met) uniKey rfl rfl rfl rfl rfl rfl (zv := .bool false) (by kernel_rfl) (v := .tt) (by rw [metP_get, if_pos hs'.2]; rfl) ?_
      refine R_run hg.ok 1000 rfl rfl ?_
      refine R_dropO 7 (urObj a b B (s + 1) R met) (by show φ.length ≤ _; omega) rfl ?_ ?_
      · exact urObj_trim a b B (s + 1) R met _
      exact R_next (n, R, B, met, s + 1) (hU.skip hs) (by simp only; omega) ⟨.refl _, .refl _, .refl _, trivial⟩ rfl
    | false =>
      have hstep := hU.step hs
      by_cases hb2 : x.k = 1 ∧ y.k = 1
      · refine R_if rfl rfl (fun _ => ?_) (fun h => absurd h (by simp [hb2.1])) <;> refine R_run hg.ok 1000 rfl rfl ?_
        refine R_if rfl rfl (fun _ => ?_) (fun h => absurd h (by simp [hb2.2])) <;> refine R_run hg.ok 1000 rfl rfl ?_
        have hmc : met.contains (x.n, y.n) = false := by
          have := hs; simp only [Tm.skipU, hb2.1, hb2.2, decide_true, Bool.true_and] at this; exact this
        have hmU : metP met ++ [((x.n, y.n), AV.tt)] = metP (Tm.metU x y met) := by simp [Tm.metU, hb2.1, hb2.2, metP]
        refine R_lookupP hg.ok (metP met) uniKey rfl rfl rfl rfl rfl rfl (zv := .bool false) (by kernel_rfl) (v := .ff) (by rw [metP_get, hmc]; rfl) ?_
        refine R_run hg.ok 1000 rfl rfl ?_
        refine R_mapAddPO hg.ok (metP met) (metP (Tm.metU x y met)) uniKey rfl rfl rfl rfl rfl rfl (by rw [metP_get, hmc]; rfl) rfl hmU ?_
        refine R_run hg.ok 1000 rfl rfl ?_
        generalize Tm.metU x y met = met' at hstep ⊢
        obtain ⟨ex, ey, zx, zy, hsame, hrest⟩ := hstep
        have cx := uniWalk_ok Y B hU.inv.chain x
        have cy := uniWalk_ok Y B hU.inv.chain y
        have hsb : ∀ c ∈ B, c.2.size < 400000000 := fun c hc => by have := hU.sb c hc; omega
        generalize Tm.walkB B x = x' at *
        generalize Tm.walkB B y = y' at *
        refine R_load4 hg.ok (by show φ.length ≤ 7; omega) rfl rfl rfl rfl rfl rfl rfl ?_
        refine R_run hg.ok 1000 rfl rfl ?_
        refine R_callS3 hg.ok hg.gup hg.wide hg.Y [0, 1, 2] (urObj a b B (s + 1) R met' ++ [boxR x, boxR y, .box [iV x.n, iV y.n]]) cx (fun _ => rfl) (fun i hi => by show i < φ.length; simp at hi; omega) rfl rfl rfl rfl rfl (by rw [uobj_ren]; rfl) rfl (by rw [uobj_ren]; rfl) ?_
        refine R_run hg.ok 1000 rfl rfl ?_
        refine R_load4 hg.ok (by show φ.length ≤ 8; omega) rfl rfl rfl rfl rfl rfl rfl ?_
        refine R_run hg.ok 1000 rfl rfl ?_
        refine R_callS3 hg.ok hg.gup hg.wide hg.Y [0, 1, 2] (urObj a b B (s + 1) R met' ++ [boxR x, boxR y, .box [iV x.n, iV y.n]]) cy (fun _ => rfl) (fun i hi => by show i < φ.length; simp at hi; omega) rfl rfl rfl rfl rfl (by rw [uobj_ren]; rfl) rfl (by rw [uobj_ren]; rfl) ?_
        refine R_run hg.ok 1000 rfl rfl ?_
        refine R_storeB hg.ok rfl rfl rfl rfl rfl rfl rfl rfl rfl ?_
        refine R_run hg.ok 1000 rfl rfl ?_
        refine R_storeB hg.ok rfl rfl rfl rfl rfl rfl rfl rfl rfl ?_
        refine R_run hg.ok 1000 rfl rfl ?_
        by_cases hc : x'.k = 1 ∧ y'.k = 1 ∧ x'.n = y'.n
        · refine R_if rfl rfl (fun _ => ?_) (fun h => absurd h (by simp [hc.1])) <;> refine R_run hg.ok 1000 rfl rfl ?_
          refine R_if rfl rfl (fun _ => ?_) (fun h => absurd h (by simp [hc.2.1])) <;> refine R_run hg.ok 1000 rfl rfl ?_
          refine R_if rfl rfl (fun _ => ?_) (fun h => absurd h (by simp [hc.2.2])) <;> refine R_run hg.ok 1000 rfl rfl ?_
          refine R_dropO 7 (urObj a b B (s + 1) R met') (by show φ.length ≤ _; omega) rfl ?_ ?_
          · exact urObj_trim a b B (s + 1) R met' _
          exact R_next (n, R, B, met', s + 1) (hsame hc) (by simp only; omega) ⟨.refl _, .refl _, .refl _, trivial⟩ rfl
        obtain ⟨hleft, hnot⟩ := hrest hc
        by_cases hkx : x'.k = 1
        · obtain ⟨hw, hN⟩ := hleft hkx
          have cw := uniWithin_ok Y B hsb (by omega) x'.n y' (by omega)
          rw [hw] at cw
          have cb := uniBind_ok Y B x'.n y' (ex hkx) (by omega)
          by_cases hky : y'.k = 1
          · refine R_if rfl rfl (fun _ => ?_) (fun h => absurd h (by simp [hkx])) <;> refine R_run hg.ok 1000 rfl rfl ?_
            refine R_if rfl rfl (fun _ => ?_) (fun h => absurd h (by simp [hky])) <;> refine R_run hg.ok 1000 rfl rfl ?_
            refine R_if rfl rfl (fun h => absurd h (by have : ¬ x'.n = y'.n := fun e => hc ⟨hkx, hky, e⟩; simp [this])) (fun _ => ?_) <;> refine R_run hg.ok 1000 rfl rfl ?_
            refine R_if rfl rfl (fun _ => ?_) (fun h => absurd h (by simp [hkx])) <;> refine R_run hg.ok 1000 rfl rfl ?_
            refine R_load4 hg.ok (by show φ.length ≤ 8; omega) rfl rfl rfl rfl rfl rfl rfl ?_
            refine R_run hg.ok 1000 rfl rfl ?_
            refine R_callSO hg.ok hg.gup hg.wide hg.Y [0, 1, 2] (urObj a b B (s + 1) R met' ++ [boxR x', boxR y', .box [iV x.n, iV y.n]]) cw (fun _ => rfl) rfl rfl rfl rfl rfl (by rw [uobj_ren]; rfl) rfl (by rw [uobj_ren]; rfl) ?_
            refine R_run hg.ok 1000 rfl rfl ?_
            refine R_if rfl rfl (fun h => absurd h (by simp)) (fun _ => ?_) <;> refine R_run hg.ok 1000 rfl rfl ?_
            refine R_load4 hg.ok (by show φ.length ≤ 8; omega) rfl rfl rfl rfl rfl rfl rfl ?_
            refine R_run hg.ok 1000 rfl rfl ?_
            refine R_callSO hg.ok hg.gup hg.wide hg.Y [0, 1, 2] (urObj a b (B ++ [(x'.n, y')]) (s + 1) R met' ++ [boxR x', boxR y', .box [iV x.n, iV y.n]]) cb (fun _ => rfl) rfl rfl rfl rfl rfl (by rw [uobj_ren]; rfl) rfl (by rw [uobj_ren]; rfl) ?_
            refine R_run hg.ok 1000 rfl rfl ?_
            refine R_dropO 7 (urObj a b (B ++ [(x'.n, y')]) (s + 1) R met') (by show φ.length ≤ _; omega) rfl ?_ ?_
            · exact urObj_trim a b (B ++ [(x'.n, y')]) (s + 1) R met' _
            exact R_next (n, R, B ++ [(x'.n, y')], met', s + 1) hN (by simp only; omega) ⟨.refl _, .refl _, .refl _, trivial⟩ rfl
          · refine R_if rfl rfl (fun _ => ?_) (fun h => absurd h (by simp [hkx])) <;> refine R_run hg.ok 1000 rfl rfl ?_
            refine R_if rfl rfl (fun h => absurd h (by simp [hky])) (fun _ => ?_) <;> refine R_run hg.ok 1000 rfl rfl ?_
            refine R_if rfl rfl (fun _ => ?_) (fun h => absurd h (by simp [hkx])) <;> refine R_run hg.ok 1000 rfl rfl ?_
            refine R_load4 hg.ok (by show φ.length ≤ 8; omega) rfl rfl rfl rfl rfl rfl rfl ?_
            refine R_run hg.ok 1000 rfl rfl ?_
            refine R_callSO hg.ok hg.gup hg.wide hg.Y [0, 1, 2] (urObj a b B (s + 1) R met' ++ [boxR x', boxR y', .box [iV x.n, iV y.n]]) cw (fun _ => rfl) rfl rfl rfl rfl rfl (by rw [uobj_ren]; rfl) rfl (by rw [uobj_ren]; rfl) ?_
            refine R_run hg.ok 1000 rfl rfl ?_
            refine R_if rfl rfl (fun h => absurd h (by simp)) (fun _ => ?_) <;> refine R_run hg.ok 1000 rfl rfl ?_
            refine R_load4 hg.ok (by show φ.length ≤ 8; omega) rfl rfl rfl rfl rfl rfl rfl ?_
            refine R_run hg.ok 1000 rfl rfl ?_
            refine R_callSO hg.ok hg.gup hg.wide hg.Y [0, 1, 2] (urObj a b (B ++ [(x'.n, y')]) (s + 1) R met' ++ [boxR x', boxR y', .box [iV x.n, iV y.n]]) cb (fun _ => rfl) rfl rfl rfl rfl rfl (by rw [uobj_ren]; rfl) rfl (by rw [uobj_ren]; rfl) ?_
            refine R_run hg.ok 1000 rfl rfl ?_
            refine R_dropO 7 (urObj a b (B ++ [(x'.n, y')]) (s + 1) R met') (by show φ.length ≤ _; omega) rfl ?_ ?_
            · exact urObj_trim a b (B ++ [(x'.n, y')]) (s + 1) R met' _
            exact R_next (n, R, B ++ [(x'.n, y')], met', s + 1) hN (by simp only; omega) ⟨.refl _, .refl _, .refl _, trivial⟩ rfl
        · refine R_if rfl rfl (fun h => absurd h (by simp [hkx])) (fun _ => ?_) <;> refine R_run hg.ok 1000 rfl rfl ?_
          refine R_if rfl rfl (fun h => absurd h (by simp [hkx])) (fun _ => ?_) <;> refine R_run hg.ok 1000 rfl rfl ?_
          obtain ⟨hright, hdeep⟩ := hnot hkx
          by_cases hky : y'.k = 1
          · obtain ⟨hw, hN⟩ := hright hky
            have cw := uniWithin_ok Y B hsb (by omega) y'.n x' (by omega)
            rw [hw] at cw
            have cb := uniBind_ok Y B y'.n x' (ey hky) (by omega)
            refine R_if rfl rfl (fun _ => ?_) (fun h => absurd h (by simp [hky])) <;> refine R_run hg.ok 1000 rfl rfl ?_
            refine R_load4 hg.ok (by show φ.length ≤ 7; omega) rfl rfl rfl rfl rfl rfl rfl ?_
            refine R_run hg.ok 1000 rfl rfl ?_
            refine R_callSO hg.ok hg.gup hg.wide hg.Y [0, 1, 2] (urObj a b B (s + 1) R met' ++ [boxR x', boxR y', .box [iV x.n, iV y.n]]) cw (fun _ => rfl) rfl rfl rfl rfl rfl (by rw [uobj_ren]; rfl) rfl (by rw [uobj_ren]; rfl) ?_
            refine R_run hg.ok 1000 rfl rfl ?_
            refine R_if rfl rfl (fun h => absurd h (by simp)) (fun _ => ?_) <;> refine R_run hg.ok 1000 rfl rfl ?_
            refine R_load4 hg.ok (by show φ.length ≤ 7; omega) rfl rfl rfl rfl rfl rfl rfl ?_
            refine R_run hg.ok 1000 rfl rfl ?_
            refine R_callSO hg.ok hg.gup hg.wide hg.Y [0, 1, 2] (urObj a b (B ++ [(y'.n, x')]) (s + 1) R met' ++ [boxR x', boxR y', .box [iV x.n, iV y.n]]) cb (fun _ => rfl) rfl rfl rfl rfl rfl (by rw [uobj_ren]; rfl) rfl (by rw [uobj_ren]; rfl) ?_
            refine R_run hg.ok 1000 rfl rfl ?_
            refine R_dropO 7 (urObj a b (B ++ [(y'.n, x')]) (s + 1) R met') (by show φ.length ≤ _; omega) rfl ?_ ?_
            · exact urObj_trim a b (B ++ [(y'.n, x')]) (s + 1) R met' _
            exact R_next (n, R, B ++ [(y'.n, x')], met', s + 1) hN (by simp only; omega) ⟨.refl _, .refl _, .refl _, trivial⟩ rfl
          · obtain ⟨g1, g2, g3, g4, hN⟩ := hdeep hky
            have hzl : (x'.l.zip y'.l).length = x'.l.length := by rw [List.length_zip]; omega
            have hN2 := Tm.sumS_len σ (R ++ x'.l.zip y'.l)
            have hN3 := hN.sum
            have hN4 := hN.few
            have hRz : (R ++ x'.l.zip y'.l).length = R.length + x'.l.length := by rw [List.length_append, hzl]
            refine R_if rfl rfl (fun h => absurd h (by simp [hky])) (fun _ => ?_) <;> refine R_run hg.ok 1000 rfl rfl ?_
            refine R_if rfl rfl (fun h => absurd h (by simp [g1])) (fun _ => ?_) <;> refine R_run hg.ok 1000 rfl rfl ?_
            refine R_if rfl rfl (fun h => absurd h (by simp [g3])) (fun _ => ?_) <;> refine R_run hg.ok 1000 rfl rfl ?_
            refine R_if rfl rfl (fun h => absurd h (by simp [g2, strEq])) (fun _ => ?_) <;> refine R_run hg.ok 1000 rfl rfl ?_
            refine R_if rfl rfl (fun h => absurd h (by simp [Tm.rows_length, g4])) (fun _ => ?_) <;> refine R_run hg.ok 1000 rfl rfl ?_
            refine R_loop (fun k : Nat => ([(0, .lo 0 0), (7, .ow 5 (s + 1 + k)), (8, .mp 6), (10, .lo 8 0), (66, .d (.sl (Tm.rows x'.l))), (67, iV x'.l.length), (68, iV k)], urObj a b B (s + 1 + k) (R ++ (x'.l.zip y'.l).take k) met' ++ [boxR x', boxR y', .box [iV x.n, iV y.n]])) (fun k => k ≤ x'.l.length) (fun k => x'.l.length - k) 0 (Nat.zero_le _) ⟨.refl _, .refl _, .refl _, .refl _, .refl _, Ent.int (by rw [Tm.rows_length]), .refl _, trivial⟩ (by simp only [List.take_zero, List.append_nil]; rfl) ?_
            rintro k hk
            refine R_run hg.ok 1000 rfl rfl ?_
            refine R_if rfl rfl (fun h => ?_) (fun h => ?_) <;> refine R_run hg.ok 1000 rfl rfl ?_
            · have hk1 : k < x'.l.length := lt_dec h rfl
              have e1 : x'.l[k]? = some x'.l[k] := List.getElem?_eq_getElem hk1
              have e2 : y'.l[k]? = some (y'.l[k]'(by omega)) := List.getElem?_eq_getElem (by omega)
              have e3 : (x'.l.zip y'.l)[k]? = some (x'.l[k], y'.l[k]'(by omega)) := by rw [List.getElem?_zip_eq_some]; exact ⟨e1, e2⟩
              generalize x'.l[k] = xk at e1 e3
              generalize (y'.l[k]'(by omega)) = yk at e2 e3
              have hz1 : R ++ (x'.l.zip y'.l).take (k + 1) = (R ++ (x'.l.zip y'.l).take k) ++ [(xk, yk)] := by rw [List.take_add_one, e3, List.append_assoc]; rfl
              have hz2 : (R ++ (x'.l.zip y'.l).take k).length = R.length + k := by rw [List.length_append, List.length_take]; omega
              refine R_index hg.ok rfl rfl rfl rfl rfl rfl (Int.natCast_nonneg _) (Tm.rows_get e1) rfl ?_
              refine R_run hg.ok 1000 rfl rfl ?_
              refine R_index hg.ok rfl rfl rfl rfl rfl rfl (Int.natCast_nonneg _) (Tm.rows_get e2) rfl ?_
              refine R_run hg.ok 1000 rfl rfl ?_
              refine R_buildA hg.ok _ rfl rfl rfl rfl rfl rfl rfl rfl ?_
              refine R_run hg.ok 1000 rfl rfl ?_
              refine R_buildF hg.ok (.fs [[.v (.int .i64 xk.k), .v (.string xk.s), .v (.int .i64 xk.n), .sl (Tm.rows xk.l), .v (.int .i64 yk.k), .v (.string yk.s), .v (.int .i64 yk.n), .sl (Tm.rows yk.l)]]) rfl rfl (buildS_one rfl rfl rfl rfl (by decide)) ?_
              refine R_run hg.ok 1000 rfl rfl ?_
              refine R_appendO hg.ok (prsRows (R ++ (x'.l.zip y'.l).take (k + 1))) rfl rfl rfl rfl rfl rfl rfl rfl rfl (by simp) (by simp [one1]) (by rw [hz1]; exact prs_snoc2 _ xk yk) (by rw [prsRows_len, hz2]; simp; omega) (by rw [prsRows_len, hz2]; simp; omega) ?_
              refine R_run hg.ok 1000 rfl rfl ?_
              refine R_dropO 10 (urObj a b B (s + 1 + (k + 1)) (R ++ (x'.l.zip y'.l).take (k + 1)) met' ++ [boxR x', boxR y', .box [iV x.n, iV y.n]]) (by show φ.length ≤ _; omega) rfl ?_ ?_
              · exact urObj_trim3 a b B (s + 1 + (k + 1)) (R ++ (x'.l.zip y'.l).take (k + 1)) met' _ _ x.n y.n _
              exact R_next (k + 1) hk1 (by omega) ⟨.refl _, .refl _, .refl _, .refl _, .refl _, .refl _, Ent.wrap (by omega) (by omega) (by omega), trivial⟩ rfl
            · have hk1 : x'.l.length ≤ k := ge_dec h rfl
              rw [List.take_of_length_le (by omega : (x'.l.zip y'.l).length ≤ k)]
              refine R_dropO 7 (urObj a b B (s + 1 + k) (R ++ x'.l.zip y'.l) met') (by show φ.length ≤ _; omega) rfl ?_ ?_
              · exact urObj_trim a b B (s + 1 + k) (R ++ x'.l.zip y'.l) met' _
              exact R_next (n, R ++ x'.l.zip y'.l, B, met', s + 1 + k) hN (by simp only; omega) ⟨.refl _, .refl _, .refl _, trivial⟩ rfl
      · have hmU : Tm.metU x y met = met := by
          unfold Tm.metU
          rw [if_neg]
          simp only [Bool.and_eq_true, decide_eq_true_eq]; exact hb2
        rw [hmU] at hstep
        obtain ⟨met', rfl⟩ : ∃ m, met = m := ⟨met, rfl⟩
        by_cases hx1 : x.k = 1
        · refine R_if rfl rfl (fun _ => ?_) (fun h => absurd h (by simp [hx1])) <;> refine R_run hg.ok 1000 rfl rfl ?_
          refine R_if rfl rfl (fun h => absurd h (by have : ¬ y.k = 1 := fun h => hb2 ⟨hx1, h⟩; simp [this])) (fun _ => ?_) <;> refine R_run hg.ok 1000 rfl rfl ?_
          obtain ⟨ex, ey, zx, zy, hsame, hrest⟩ := hstep
          have cx := uniWalk_ok Y B hU.inv.chain x
          have cy := uniWalk_ok Y B hU.inv.chain y
          have hsb : ∀ c ∈ B, c.2.size < 400000000 := fun c hc => by have := hU.sb c hc; omega
          generalize Tm.walkB B x = x' at *
          generalize Tm.walkB B y = y' at *
          refine R_load4 hg.ok (by show φ.length ≤ 7; omega) rfl rfl rfl rfl rfl rfl rfl ?_
          refine R_run hg.ok 1000 rfl rfl ?_
          refine R_callS3 hg.ok hg.gup hg.wide hg.Y [0, 1, 2] (urObj a b B (s + 1) R met ++ [boxR x, boxR y, .box [iV x.n, iV y.n]]) cx (fun _ => rfl) (fun i hi => by show i < φ.length; simp at hi; omega) rfl rfl rfl rfl rfl (by rw [uobj_ren]; rfl) rfl (by rw [uobj_ren]; rfl) ?_
          refine R_run hg.ok 1000 rfl rfl ?_
          refine R_load4 hg.ok (by show φ.length ≤ 8; omega) rfl rfl rfl rfl rfl rfl rfl ?_
          refine R_run hg.ok 1000 rfl rfl ?_
          refine R_callS3 hg.ok hg.gup hg.wide hg.Y [0, 1, 2] (urObj a b B (s + 1) R met ++ [boxR x, boxR y, .box [iV x.n, iV y.n]]) cy (fun _ => rfl) (fun i hi => by show i < φ.length; simp at hi; omega) rfl rfl rfl rfl rfl (by rw [uobj_ren]; rfl) rfl (by rw [uobj_ren]; rfl) ?_
          refine R_run hg.ok 1000 rfl rfl ?_
          refine R_storeB hg.ok rfl rfl rfl rfl rfl rfl rfl rfl rfl ?_
          refine R_run hg.ok 1000 rfl rfl ?_
          refine R_storeB hg.ok rfl rfl rfl rfl rfl rfl rfl rfl rfl ?_
          refine R_run hg.ok 1000 rfl rfl ?_
          by_cases hc : x'.k = 1 ∧ y'.k = 1 ∧ x'.n = y'.n
          · refine R_if rfl rfl (fun _ => ?_) (fun h => absurd h (by simp [hc.1])) <;> refine R_run hg.ok 1000 rfl rfl ?_
            refine R_if rfl rfl (fun _ => ?_) (fun h => absurd h (by simp [hc.2.1])) <;> refine R_run hg.ok 1000 rfl rfl ?_
            refine R_if rfl rfl (fun _ => ?_) (fun h => absurd h (by simp [hc.2.2])) <;> refine R_run hg.ok 1000 rfl rfl ?_
            refine R_dropO 7 (urObj a b B (s + 1) R met) (by show φ.length ≤ _; omega) rfl ?_ ?_
            · exact urObj_trim a b B (s + 1) R met _
            exact R_next (n, R, B, met, s + 1) (hsame hc) (by simp only; omega) ⟨.refl _, .refl _, .refl _, trivial⟩ rfl
          obtain ⟨hleft, hnot⟩ := hrest hc
          by_cases hkx : x'.k = 1
          · obtain ⟨hw, hN⟩ := hleft hkx
            have cw := uniWithin_ok Y B hsb (by omega) x'.n y' (by omega)
            rw [hw] at cw
            have cb := uniBind_ok Y B x'.n y' (ex hkx) (by omega)
            by_cases hky : y'.k = 1
            · refine R_if rfl rfl (fun _ => ?_) (fun h => absurd h (by simp [hkx])) <;> refine R_run hg.ok 1000 rfl rfl ?_
              refine R_if rfl rfl (fun _ => ?_) (fun h => absurd h (by simp [hky])) <;> refine R_run hg.ok 1000 rfl rfl ?_
              refine R_if rfl rfl (fun h => absurd h (by have : ¬ x'.n = y'.n := fun e => hc ⟨hkx, hky, e⟩; simp [this])) (fun _ => ?_) <;> refine R_run hg.ok 1000 rfl rfl ?_
              refine R_if rfl rfl (fun _ => ?_) (fun h => absurd h (by simp [hkx])) <;> refine R_run hg.ok 1000 rfl rfl ?_
              refine R_load4 hg.ok (by show φ.length ≤ 8; omega) rfl rfl rfl rfl rfl rfl rfl ?_
              refine R_run hg.ok 1000 rfl rfl ?_
              refine R_callSO hg.ok hg.gup hg.wide hg.Y [0, 1, 2] (urObj a b B (s + 1) R met ++ [boxR x', boxR y', .box [iV x.n, iV y.n]]) cw (fun _ => rfl) rfl rfl rfl rfl rfl (by rw [uobj_ren]; rfl) rfl (by rw [uobj_ren]; rfl) ?_
              refine R_run hg.ok 1000 rfl rfl ?_
              refine R_if rfl rfl (fun h => absurd h (by simp)) (fun _ => ?_) <;> refine R_run hg.ok 1000 rfl rfl ?_
              refine R_load4 hg.ok (by show φ.length ≤ 8; omega) rfl rfl rfl rfl rfl rfl rfl ?_
              refine R_run hg.ok 1000 rfl rfl ?_
              refine R_callSO hg.ok hg.gup hg.wide hg.Y [0, 1, 2] (urObj a b (B ++ [(x'.n, y')]) (s + 1) R met ++ [boxR x', boxR y', .box [iV x.n, iV y.n]]) cb (fun _ => rfl) rfl rfl rfl rfl rfl (by rw [uobj_ren]; rfl) rfl (by rw [uobj_ren]; rfl) ?_
              refine R_run hg.ok 1000 rfl rfl ?_
              refine R_dropO 7 (urObj a b (B ++ [(x'.n, y')]) (s + 1) R met) (by show φ.length ≤ _; omega) rfl ?_ ?_
              · exact urObj_trim a b (B ++ [(x'.n, y')]) (s + 1) R met _
              exact R_next (n, R, B ++ [(x'.n, y')], met, s + 1) hN (by simp only; omega) ⟨.refl _, .refl _, .refl _, trivial⟩ rfl
            · refine R_if rfl rfl (fun _ => ?_) (fun h => absurd h (by simp [hkx])) <;> refine R_run hg.ok 1000 rfl rfl ?_
              refine R_if rfl rfl (fun h => absurd h (by simp [hky])) (fun _ => ?_) <;> refine R_run hg.ok 1000 rfl rfl ?_
              refine R_if rfl rfl (fun _ => ?_) (fun h => absurd h (by simp [hkx])) <;> refine R_run hg.ok 1000 rfl rfl ?_
              refine R_load4 hg.ok (by show φ.length ≤ 8; omega) rfl rfl rfl rfl rfl rfl rfl ?_
              refine R_run hg.ok 1000 rfl rfl ?_
              refine R_callSO hg.ok hg.gup hg.wide hg.Y [0, 1, 2] (urObj a b B (s + 1) R met ++ [boxR x', boxR y', .box [iV x.n, iV y.n]]) cw (fun _ => rfl) rfl rfl rfl rfl rfl (by rw [uobj_ren]; rfl) rfl (by rw [uobj_ren]; rfl) ?_
              refine R_run hg.ok 1000 rfl rfl ?_
              refine R_if rfl rfl (fun h => absurd h (by simp)) (fun _ => ?_) <;> refine R_run hg.ok 1000 rfl rfl ?_
              refine R_load4 hg.ok (by show φ.length ≤ 8; omega) rfl rfl rfl rfl rfl rfl rfl ?_
              refine R_run hg.ok 1000 rfl rfl ?_
              refine R_callSO hg.ok hg.gup hg.wide hg.Y [0, 1, 2] (urObj a b (B ++ [(x'.n, y')]) (s + 1) R met ++ [boxR x', boxR y', .box [iV x.n, iV y.n]]) cb (fun _ => rfl) rfl rfl rfl rfl rfl (by rw [uobj_ren]; rfl) rfl (by rw [uobj_ren]; rfl) ?_
              refine R_run hg.ok 1000 rfl rfl ?_
              refine R_dropO 7 (urObj a b (B ++ [(x'.n, y')]) (s + 1) R met) (by show φ.length ≤ _; omega) rfl ?_ ?_
              · exact urObj_trim a b (B ++ [(x'.n, y')]) (s + 1) R met _
              exact R_next (n, R, B ++ [(x'.n, y')], met, s + 1) hN (by simp only; omega) ⟨.refl _, .refl _, .refl _, trivial⟩ rfl
          · refine R_if rfl rfl (fun h => absurd h (by simp [hkx])) (fun _ => ?_) <;> refine R_run hg.ok 1000 rfl rfl ?_
            refine R_if rfl rfl (fun h => absurd h (by simp [hkx])) (fun _ => ?_) <;> refine R_run hg.ok 1000 rfl rfl ?_
            obtain ⟨hright, hdeep⟩ := hnot hkx
            by_cases hky : y'.k = 1
            · obtain ⟨hw, hN⟩ := hright hky
              have cw := uniWithin_ok Y B hsb (by omega) y'.n x' (by omega)
              rw [hw] at cw
              have cb := uniBind_ok Y B y'.n x' (ey hky) (by omega)
              refine R_if rfl rfl (fun _ => ?_) (fun h => absurd h (by simp [hky])) <;> refine R_run hg.ok 1000 rfl rfl ?_
              refine R_load4 hg.ok (by show φ.length ≤ 7; omega) rfl rfl rfl rfl rfl rfl rfl ?_
              refine R_run hg.ok 1000 rfl rfl ?_
              refine R_callSO hg.ok hg.gup hg.wide hg.Y [0, 1, 2] (urObj a b B (s + 1) R met ++ [boxR x', boxR y', .box [iV x.n, iV y.n]]) cw (fun _ => rfl) rfl rfl rfl rfl rfl (by rw [uobj_ren]; rfl) rfl (by rw [uobj_ren]; rfl) ?_
              refine R_run hg.ok 1000 rfl rfl ?_
              refine R_if rfl rfl (fun h => absurd h (by simp)) (fun _ => ?_) <;> refine R_run hg.ok 1000 rfl rfl ?_
              refine R_load4 hg.ok (by show φ.length ≤ 7; omega) rfl rfl rfl rfl rfl rfl rfl ?_
              refine R_run hg.ok 1000 rfl rfl ?_
              refine R_callSO hg.ok hg.gup hg.wide hg.Y [0, 1, 2] (urObj a b (B ++ [(y'.n, x')]) (s + 1) R met ++ [boxR x', boxR y', .box [iV x.n, iV y.n]]) cb (fun _ => rfl) rfl rfl rfl rfl rfl (by rw [uobj_ren]; rfl) rfl (by rw [uobj_ren]; rfl) ?_
              refine R_run hg.ok 1000 rfl rfl ?_
              refine R_dropO 7 (urObj a b (B ++ [(y'.n, x')]) (s + 1) R met) (by show φ.length ≤ _; omega) rfl ?_ ?_
              · exact urObj_trim a b (B ++ [(y'.n, x')]) (s + 1) R met _
              exact R_next (n, R, B ++ [(y'.n, x')], met, s + 1) hN (by simp only; omega) ⟨.refl _, .refl _, .refl _, trivial⟩ rfl
            · obtain ⟨g1, g2, g3, g4, hN⟩ := hdeep hky
              have hzl : (x'.l.zip y'.l).length = x'.l.length := by rw [List.length_zip]; omega
              have hN2 := Tm.sumS_len σ (R ++ x'.l.zip y'.l)
              have hN3 := hN.sum
              have hN4 := hN.few
              have hRz : (R ++ x'.l.zip y'.l).length = R.length + x'.l.length := by rw [List.length_append, hzl]
              refine R_if rfl rfl (fun h => absurd h (by simp [hky])) (fun _ => ?_) <;> refine R_run hg.ok 1000 rfl rfl ?_
              refine R_if rfl rfl (fun h => absurd h (by simp [g1])) (fun _ => ?_) <;> refine R_run hg.ok 1000 rfl rfl ?_
              refine R_if rfl rfl (fun h => absurd h (by simp [g3])) (fun _ => ?_) <;> refine R_run hg.ok 1000 rfl rfl ?_
              refine R_if rfl rfl (fun h => absurd h (by simp [g2, strEq])) (fun _ => ?_) <;> refine R_run hg.ok 1000 rfl rfl ?_
              refine R_if rfl rfl (fun h => absurd h (by simp [Tm.rows_length, g4])) (fun _ => ?_) <;> refine R_run hg.ok 1000 rfl rfl ?_
              refine R_loop (fun k : Nat => ([(0, .lo 0 0), (7, .ow 5 (s + 1 + k)), (8, .mp 6), (10, .lo 8 0), (66, .d (.sl (Tm.rows x'.l))), (67, iV x'.l.length), (68, iV k)], urObj a b B (s + 1 + k) (R ++ (x'.l.zip y'.l).take k) met ++ [boxR x', boxR y', .box [iV x.n, iV y.n]])) (fun k => k ≤ x'.l.length) (fun k => x'.l.length - k) 0 (Nat.zero_le _) ⟨.refl _, .refl _, .refl _, .refl _, .refl _, Ent.int (by rw [Tm.rows_length]), .refl _, trivial⟩ (by simp only [List.take_zero, List.append_nil]; rfl) ?_
              rintro k hk
              refine R_run hg.ok 1000 rfl rfl ?_
              refine R_if rfl rfl (fun h => ?_) (fun h => ?_) <;> refine R_run hg.ok 1000 rfl rfl ?_
              · have hk1 : k < x'.l.length := lt_dec h rfl
                have e1 : x'.l[k]? = some x'.l[k] := List.getElem?_eq_getElem hk1
                have e2 : y'.l[k]? = some (y'.l[k]'(by omega)) := List.getElem?_eq_getElem (by omega)
                have e3 : (x'.l.zip y'.l)[k]? = some (x'.l[k], y'.l[k]'(by omega)) := by rw [List.getElem?_zip_eq_some]; exact ⟨e1, e2⟩
                generalize x'.l[k] = xk at e1 e3
                generalize (y'.l[k]'(by omega)) = yk at e2 e3
                have hz1 : R ++ (x'.l.zip y'.l).take (k + 1) = (R ++ (x'.l.zip y'.l).take k) ++ [(xk, yk)] := by rw [List.take_add_one, e3, List.append_assoc]; rfl
                have hz2 : (R ++ (x'.l.zip y'.l).take k).length = R.length + k := by rw [List.length_append, List.length_take]; omega
                refine R_index hg.ok rfl rfl rfl rfl rfl rfl (Int.natCast_nonneg _) (Tm.rows_get e1) rfl ?_
                refine R_run hg.ok 1000 rfl rfl ?_
                refine R_index hg.ok rfl rfl rfl rfl rfl rfl (Int.natCast_nonneg _) (Tm.rows_get e2) rfl ?_
                refine R_run hg.ok 1000 rfl rfl ?_
                refine R_buildA hg.ok _ rfl rfl rfl rfl rfl rfl rfl rfl ?_
                refine R_run hg.ok 1000 rfl rfl ?_
                refine R_buildF hg.ok (.fs [[.v (.int .i64 xk.k), .v (.string xk.s), .v (.int .i64 xk.n), .sl (Tm.rows xk.l), .v (.int .i64 yk.k), .v (.string yk.s), .v (.int .i64 yk.n), .sl (Tm.rows yk.l)]]) rfl rfl (buildS_one rfl rfl rfl rfl (by decide)) ?_
                refine R_run hg.ok 1000 rfl rfl ?_
                refine R_appendO hg.ok (prsRows (R ++ (x'.l.zip y'.l).take (k + 1))) rfl rfl rfl rfl rfl rfl rfl rfl rfl (by simp) (by simp [one1]) (by rw [hz1]; exact prs_snoc2 _ xk yk) (by rw [prsRows_len, hz2]; simp; omega) (by rw [prsRows_len, hz2]; simp; omega) ?_
                refine R_run hg.ok 1000 rfl rfl ?_
                refine R_dropO 10 (urObj a b B (s + 1 + (k + 1)) (R ++ (x'.l.zip y'.l).take (k + 1)) met ++ [boxR x', boxR y', .box [iV x.n, iV y.n]]) (by show φ.length ≤ _; omega) rfl ?_ ?_
                · exact urObj_trim3 a b B (s + 1 + (k + 1)) (R ++ (x'.l.zip y'.l).take (k + 1)) met _ _ x.n y.n _
                exact R_next (k + 1) hk1 (by omega) ⟨.refl _, .refl _, .refl _, .refl _, .refl _, .refl _, Ent.wrap (by omega) (by omega) (by omega), trivial⟩ rfl
              · have hk1 : x'.l.length ≤ k := ge_dec h rfl
                rw [List.take_of_length_le (by omega : (x'.l.zip y'.l).length ≤ k)]
                refine R_dropO 7 (urObj a b B (s + 1 + k) (R ++ x'.l.zip y'.l) met) (by show φ.length ≤ _; omega) rfl ?_ ?_
                · exact urObj_trim a b B (s + 1 + k) (R ++ x'.l.zip y'.l) met _
                exact R_next (n, R ++ x'.l.zip y'.l, B, met, s + 1 + k) hN (by simp only; omega) ⟨.refl _, .refl _, .refl _, trivial⟩ rfl
        · refine R_if rfl rfl (fun h => absurd h (by simp [hx1])) (fun _ => ?_) <;> refine R_run hg.ok 1000 rfl rfl ?_
          obtain ⟨ex, ey, zx, zy, hsame, hrest⟩ := hstep
          have cx := uniWalk_ok Y B hU.inv.chain x
          have cy := uniWalk_ok Y B hU.inv.chain y
          have hsb : ∀ c ∈ B, c.2.size < 400000000 := fun c hc => by have := hU.sb c hc; omega
          generalize Tm.walkB B x = x' at *
          generalize Tm.walkB B y = y' at *
          refine R_load4 hg.ok (by show φ.length ≤ 7; omega) rfl rfl rfl rfl rfl rfl rfl ?_
          refine R_run hg.ok 1000 rfl rfl ?_
          refine R_callS3 hg.ok hg.gup hg.wide hg.Y [0, 1, 2] (urObj a b B (s + 1) R met ++ [boxR x, boxR y, .box [iV x.n, iV y.n]]) cx (fun _ => rfl) (fun i hi => by show i < φ.length; simp at hi; omega) rfl rfl rfl rfl rfl (by rw [uobj_ren]; rfl) rfl (by rw [uobj_ren]; rfl) ?_
          refine R_run hg.ok 1000 rfl rfl ?_
          refine R_load4 hg.ok (by show φ.length ≤ 8; omega) rfl rfl rfl rfl rfl rfl rfl ?_
          refine R_run hg.ok 1000 rfl rfl ?_
          refine R_callS3 hg.ok hg.gup hg.wide hg.Y [0, 1, 2] (urObj a b B (s + 1) R met ++ [boxR x, boxR y, .box [iV x.n, iV y.n]]) cy (fun _ => rfl) (fun i hi => by show i < φ.length; simp at hi; omega) rfl rfl rfl rfl rfl (by rw [uobj_ren]; rfl) rfl (by rw [uobj_ren]; rfl) ?_
          refine R_run hg.ok 1000 rfl rfl ?_
          refine R_storeB hg.ok rfl rfl rfl rfl rfl rfl rfl rfl rfl ?_
          refine R_run hg.ok 1000 rfl rfl ?_
          refine R_storeB hg.ok rfl rfl rfl rfl rfl rfl rfl rfl rfl ?_
          refine R_run hg.ok 1000 rfl rfl ?_
          by_cases hc : x'.k = 1 ∧ y'.k = 1 ∧ x'.n = y'.n
          · refine R_if rfl rfl (fun _ => ?_) (fun h => absurd h (by simp [hc.1])) <;> refine R_run hg.ok 1000 rfl rfl ?_
            refine R_if rfl rfl (fun _ => ?_) (fun h => absurd h (by simp [hc.2.1])) <;> refine R_run hg.ok 1000 rfl rfl ?_
            refine R_if rfl rfl (fun _ => ?_) (fun h => absurd h (by simp [hc.2.2])) <;> refine R_run hg.ok 1000 rfl rfl ?_
            refine R_dropO 7 (urObj a b B (s + 1) R met) (by show φ.length ≤ _; omega) rfl ?_ ?_
            · exact urObj_trim a b B (s + 1) R met _
            exact R_next (n, R, B, met, s + 1) (hsame hc) (by simp only; omega) ⟨.refl _, .refl _, .refl _, trivial⟩ rfl
          obtain ⟨hleft, hnot⟩ := hrest hc
          by_cases hkx : x'.k = 1
          · obtain ⟨hw, hN⟩ := hleft hkx
            have cw := uniWithin_ok Y B hsb (by omega) x'.n y' (by omega)
            rw [hw] at cw
            have cb := uniBind_ok Y B x'.n y' (ex hkx) (by omega)
            by_cases hky : y'.k = 1
            · refine R_if rfl rfl (fun _ => ?_) (fun h => absurd h (by simp [hkx])) <;> refine R_run hg.ok 1000 rfl rfl ?_
              refine R_if rfl rfl (fun _ => ?_) (fun h => absurd h (by simp [hky])) <;> refine R_run hg.ok 1000 rfl rfl ?_
              refine R_if rfl rfl (fun h => absurd h (by have : ¬ x'.n = y'.n := fun e => hc ⟨hkx, hky, e⟩; simp [this])) (fun _ => ?_) <;> refine R_run hg.ok 1000 rfl rfl ?_
              refine R_if rfl rfl (fun _ => ?_) (fun h => absurd h (by simp [hkx])) <;> refine R_run hg.ok 1000 rfl rfl ?_
              refine R_load4 hg.ok (by show φ.length ≤ 8; omega) rfl rfl rfl rfl rfl rfl rfl ?_
              refine R_run hg.ok 1000 rfl rfl ?_
              refine R_callSO hg.ok hg.gup hg.wide hg.Y [0, 1, 2] (urObj a b B (s + 1) R met ++ [boxR x', boxR y', .box [iV x.n, iV y.n]]) cw (fun _ => rfl) rfl rfl rfl rfl rfl (by rw [uobj_ren]; rfl) rfl (by rw [uobj_ren]; rfl) ?_
              refine R_run hg.ok 1000 rfl rfl ?_
              refine R_if rfl rfl (fun h => absurd h (by simp)) (fun _ => ?_) <;> refine R_run hg.ok 1000 rfl rfl ?_
              refine R_load4 hg.ok (by show φ.length ≤ 8; omega) rfl rfl rfl rfl rfl rfl rfl ?_
              refine R_run hg.ok 1000 rfl rfl ?_
              refine R_callSO hg.ok hg.gup hg.wide hg.Y [0, 1, 2] (urObj a b (B ++ [(x'.n, y')]) (s + 1) R met ++ [boxR x', boxR y', .box [iV x.n, iV y.n]]) cb (fun _ => rfl) rfl rfl rfl rfl rfl (by rw [uobj_ren]; rfl) rfl (by rw [uobj_ren]; rfl) ?_
              refine R_run hg.ok 1000 rfl rfl ?_
              refine R_dropO 7 (urObj a b (B ++ [(x'.n, y')]) (s + 1) R met) (by show φ.length ≤ _; omega) rfl ?_ ?_
              · exact urObj_trim a b (B ++ [(x'.n, y')]) (s + 1) R met _
              exact R_next (n, R, B ++ [(x'.n, y')], met, s + 1) hN (by simp only; omega) ⟨.refl _, .refl _, .refl _, trivial⟩ rfl
            · refine R_if rfl rfl (fun _ => ?_) (fun h => absurd h (by simp [hkx])) <;> refine R_run hg.ok 1000 rfl rfl ?_
              refine R_if rfl rfl (fun h => absurd h (by simp [hky])) (fun _ => ?_) <;> refine R_run hg.ok 1000 rfl rfl ?_
              refine R_if rfl rfl (fun _ => ?_) (fun h => absurd h (by simp [hkx])) <;> refine R_run hg.ok 1000 rfl rfl ?_
              refine R_load4 hg.ok (by show φ.length ≤ 8; omega) rfl rfl rfl rfl rfl rfl rfl ?_
              refine R_run hg.ok 1000 rfl rfl ?_
              refine R_callSO hg.ok hg.gup hg.wide hg.Y [0, 1, 2] (urObj a b B (s + 1) R met ++ [boxR x', boxR y', .box [iV x.n, iV y.n]]) cw (fun _ => rfl) rfl rfl rfl rfl rfl (by rw [uobj_ren]; rfl) rfl (by rw [uobj_ren]; rfl) ?_
              refine R_run hg.ok 1000 rfl rfl ?_
              refine R_if rfl rfl (fun h => absurd h (by simp)) (fun _ => ?_) <;> refine R_run hg.ok 1000 rfl rfl ?_
              refine R_load4 hg.ok (by show φ.length ≤ 8; omega) rfl rfl rfl rfl rfl rfl rfl ?_
              refine R_run hg.ok 1000 rfl rfl ?_
              refine R_callSO hg.ok hg.gup hg.wide hg.Y [0, 1, 2] (urObj a b (B ++ [(x'.n, y')]) (s + 1) R met ++ [boxR x', boxR y', .box [iV x.n, iV y.n]]) cb (fun _ => rfl) rfl rfl rfl rfl rfl (by rw [uobj_ren]; rfl) rfl (by rw [uobj_ren]; rfl) ?_
              refine R_run hg.ok 1000 rfl rfl ?_
              refine R_dropO 7 (urObj a b (B ++ [(x'.n, y')]) (s + 1) R met) (by show φ.length ≤ _; omega) rfl ?_ ?_
              · exact urObj_trim a b (B ++ [(x'.n, y')]) (s + 1) R met _
              exact R_next (n, R, B ++ [(x'.n, y')], met, s + 1) hN (by simp only; omega) ⟨.refl _, .refl _, .refl _, trivial⟩ rfl
          · refine R_if rfl rfl (fun h => absurd h (by simp [hkx])) (fun _ => ?_) <;> refine R_run hg.ok 1000 rfl rfl ?_
            refine R_if rfl rfl (fun h => absurd h (by simp [hkx])) (fun _ => ?_) <;> refine R_run hg.ok 1000 rfl rfl ?_
            obtain ⟨hright, hdeep⟩ := hnot hkx
            by_cases hky : y'.k = 1
            · obtain ⟨hw, hN⟩ := hright hky
              have cw := uniWithin_ok Y B hsb (by omega) y'.n x' (by omega)
              rw [hw] at cw
              have cb := uniBind_ok Y B y'.n x' (ey hky) (by omega)
              refine R_if rfl rfl (fun _ => ?_) (fun h => absurd h (by simp [hky])) <;> refine R_run hg.ok 1000 rfl rfl ?_
              refine R_load4 hg.ok (by show φ.length ≤ 7; omega) rfl rfl rfl rfl rfl rfl rfl ?_
              refine R_run hg.ok 1000 rfl rfl ?_
              refine R_callSO hg.ok hg.gup hg.wide hg.Y [0, 1, 2] (urObj a b B (s + 1) R met ++ [boxR x', boxR y', .box [iV x.n, iV y.n]]) cw (fun _ => rfl) rfl rfl rfl rfl rfl (by rw [uobj_ren]; rfl) rfl (by rw [uobj_ren]; rfl) ?_
              refine R_run hg.ok 1000 rfl rfl ?_
              refine R_if rfl rfl (fun h => absurd h (by simp)) (fun _ => ?_) <;> refine R_run hg.ok 1000 rfl rfl ?_
              refine R_load4 hg.ok (by show φ.length ≤ 7; omega) rfl rfl rfl rfl rfl rfl rfl ?_
              refine R_run hg.ok 1000 rfl rfl ?_
              refine R_callSO hg.ok hg.gup hg.wide hg.Y [0, 1, 2] (urObj a b (B ++ [(y'.n, x')]) (s + 1) R met ++ [boxR x', boxR y', .box [iV x.n, iV y.n]]) cb (fun _ => rfl) rfl rfl rfl rfl rfl (by rw [uobj_ren]; rfl) rfl (by rw [uobj_ren]; rfl) ?_
              refine R_run hg.ok 1000 rfl rfl ?_
              refine R_dropO 7 (urObj a b (B ++ [(y'.n, x')]) (s + 1) R met) (by show φ.length ≤ _; omega) rfl ?_ ?_
              · exact urObj_trim a b (B ++ [(y'.n, x')]) (s + 1) R met _
              exact R_next (n, R, B ++ [(y'.n, x')], met, s + 1) hN (by simp only; omega) ⟨.refl _, .refl _, .refl _, trivial⟩ rfl
            · obtain ⟨g1, g2, g3, g4, hN⟩ := hdeep hky
              have hzl : (x'.l.zip y'.l).length = x'.l.length := by rw [List.length_zip]; omega
              have hN2 := Tm.sumS_len σ (R ++ x'.l.zip y'.l)
              have hN3 := hN.sum
              have hN4 := hN.few
              have hRz : (R ++ x'.l.zip y'.l).length = R.length + x'.l.length := by rw [List.length_append, hzl]
              refine R_if rfl rfl (fun h => absurd h (by simp [hky])) (fun _ => ?_) <;> refine R_run hg.ok 1000 rfl rfl ?_
              refine R_if rfl rfl (fun h => absurd h (by simp [g1])) (fun _ => ?_) <;> refine R_run hg.ok 1000 rfl rfl ?_
              refine R_if rfl rfl (fun h => absurd h (by simp [g3])) (fun _ => ?_) <;> refine R_run hg.ok 1000 rfl rfl ?_
              refine R_if rfl rfl (fun h => absurd h (by simp [g2, strEq])) (fun _ => ?_) <;> refine R_run hg.ok 1000 rfl rfl ?_
              refine R_if rfl rfl (fun h => absurd h (by simp [Tm.rows_length, g4])) (fun _ => ?_) <;> refine R_run hg.ok 1000 rfl rfl ?_
              refine R_loop (fun k : Nat => ([(0, .lo 0 0), (7, .ow 5 (s + 1 + k)), (8, .mp 6), (10, .lo 8 0), (66, .d (.sl (Tm.rows x'.l))), (67, iV x'.l.length), (68, iV k)], urObj a b B (s + 1 + k) (R ++ (x'.l.zip y'.l).take k) met ++ [boxR x', boxR y', .box [iV x.n, iV y.n]])) (fun k => k ≤ x'.l.length) (fun k => x'.l.length - k) 0 (Nat.zero_le _) ⟨.refl _, .refl _, .refl _, .refl _, .refl _, Ent.int (by rw [Tm.rows_length]), .refl _, trivial⟩ (by simp only [List.take_zero, List.append_nil]; rfl) ?_
              rintro k hk
              refine R_run hg.ok 1000 rfl rfl ?_
              refine R_if rfl rfl (fun h => ?_) (fun h => ?_) <;> refine R_run hg.ok 1000 rfl rfl ?_
              · have hk1 : k < x'.l.length := lt_dec h rfl
                have e1 : x'.l[k]? = some x'.l[k] := List.getElem?_eq_getElem hk1
                have e2 : y'.l[k]? = some (y'.l[k]'(by omega)) := List.getElem?_eq_getElem (by omega)
                have e3 : (x'.l.zip y'.l)[k]? = some (x'.l[k], y'.l[k]'(by omega)) := by rw [List.getElem?_zip_eq_some]; exact ⟨e1, e2⟩
                generalize x'.l[k] = xk at e1 e3
                generalize (y'.l[k]'(by omega)) = yk at e2 e3
                have hz1 : R ++ (x'.l.zip y'.l).take (k + 1) = (R ++ (x'.l.zip y'.l).take k) ++ [(xk, yk)] := by rw [List.take_add_one, e3, List.append_assoc]; rfl
                have hz2 : (R ++ (x'.l.zip y'.l).take k).length = R.length + k := by rw [List.length_append, List.length_take]; omega
                refine R_index hg.ok rfl rfl rfl rfl rfl rfl (Int.natCast_nonneg _) (Tm.rows_get e1) rfl ?_
                refine R_run hg.ok 1000 rfl rfl ?_
                refine R_index hg.ok rfl rfl rfl rfl rfl rfl (Int.natCast_nonneg _) (Tm.rows_get e2) rfl ?_
                refine R_run hg.ok 1000 rfl rfl ?_
                refine R_buildA hg.ok _ rfl rfl rfl rfl rfl rfl rfl rfl ?_
                refine R_run hg.ok 1000 rfl rfl ?_
                refine R_buildF hg.ok (.fs [[.v (.int .i64 xk.k), .v (.string xk.s), .v (.int .i64 xk.n), .sl (Tm.rows xk.l), .v (.int .i64 yk.k), .v (.string yk.s), .v (.int .i64 yk.n), .sl (Tm.rows yk.l)]]) rfl rfl (buildS_one rfl rfl rfl rfl (by decide)) ?_
                refine R_run hg.ok 1000 rfl rfl ?_
                refine R_appendO hg.ok (prsRows (R ++ (x'.l.zip y'.l).take (k + 1))) rfl rfl rfl rfl rfl rfl rfl rfl rfl (by simp) (by simp [one1]) (by rw [hz1]; exact prs_snoc2 _ xk yk) (by rw [prsRows_len, hz2]; simp; omega) (by rw [prsRows_len, hz2]; simp; omega) ?_
                refine R_run hg.ok 1000 rfl rfl ?_
                refine R_dropO 10 (urObj a b B (s + 1 + (k + 1)) (R ++ (x'.l.zip y'.l).take (k + 1)) met ++ [boxR x', boxR y', .box [iV x.n, iV y.n]]) (by show φ.length ≤ _; omega) rfl ?_ ?_
                · exact urObj_trim3 a b B (s + 1 + (k + 1)) (R ++ (x'.l.zip y'.l).take (k + 1)) met _ _ x.n y.n _
                exact R_next (k + 1) hk1 (by omega) ⟨.refl _, .refl _, .refl _, .refl _, .refl _, .refl _, Ent.wrap (by omega) (by omega) (by omega), trivial⟩ rfl
              · have hk1 : x'.l.length ≤ k := ge_dec h rfl
                rw [List.take_of_length_le (by omega : (x'.l.zip y'.l).length ≤ k)]
                refine R_dropO 7 (urObj a b B (s + 1 + k) (R ++ x'.l.zip y'.l) met) (by show φ.length ≤ _; omega) rfl ?_ ?_
                · exact urObj_trim a b B (s + 1 + k) (R ++ x'.l.zip y'.l) met _
                exact R_next (n, R ++ x'.l.zip y'.l, B, met, s + 1 + k) hN (by simp only; omega) ⟨.refl _, .refl _, .refl _, trivial⟩ rfl
  · refine R_run hg.ok 1000 rfl rfl ?_
    refine R_lenJ hg.ok 10000 (by simp [mayO, Ob.lvl, Ob.isBox]) rfl rfl rfl rfl rfl rfl (n := ((R ++ [(x, y)]).length : Int)) (by rw [prsRows_len]) ?_
    refine R_run hg.ok 1000 rfl rfl ?_
    rw [w64 (n := ((R ++ [(x, y)]).length : Int) - 1) (by omega) (by omega), show ((R ++ [(x, y)]).length : Int) - 1 = ((R.length : Nat) : Int) by omega]
    refine R_indexOJ hg.ok 10000 rfl rfl rfl (by simp [mayO, Ob.lvl, Ob.isBox]) rfl rfl rfl rfl rfl rfl (Int.natCast_nonneg _) (by rw [prsRows_len]; simp) ?_
    refine R_run hg.ok 1000 rfl rfl ?_
    refine R_indexEA hg.ok 0 rfl rfl rfl rfl rfl rfl (by decide) (by decide) rfl ?_
    refine R_run hg.ok 1000 rfl rfl ?_
    refine R_loadEJ hg.ok 10000 rfl rfl rfl (by simp [mayO, Ob.lvl, Ob.isBox]) rfl rfl rfl hget rfl ?_
    refine R_run hg.ok 1000 rfl rfl ?_
    refine R_lenJ hg.ok 10000 (by simp [mayO, Ob.lvl, Ob.isBox]) rfl rfl rfl rfl rfl rfl (n := ((R ++ [(x, y)]).length : Int)) (by rw [prsRows_len]) ?_
    refine R_run hg.ok 1000 rfl rfl ?_
    rw [w64 (n := ((R ++ [(x, y)]).length : Int) - 1) (by omega) (by omega), show ((R ++ [(x, y)]).length : Int) - 1 = ((R.length : Nat) : Int) by omega]
    refine R_indexOJ hg.ok 10000 rfl rfl rfl (by simp [mayO, Ob.lvl, Ob.isBox]) rfl rfl rfl rfl rfl rfl (Int.natCast_nonneg _) (by rw [prsRows_len]; simp) ?_
    refine R_run hg.ok 1000 rfl rfl ?_
    refine R_indexEA hg.ok 4 rfl rfl rfl rfl rfl rfl (by decide) (by decide) rfl ?_
    refine R_run hg.ok 1000 rfl rfl ?_
    refine R_loadEJ hg.ok 10000 rfl rfl rfl (by simp [mayO, Ob.lvl, Ob.isBox]) rfl rfl rfl hget rfl ?_
    refine R_run hg.ok 1000 rfl rfl ?_
    refine R_storeB hg.ok rfl rfl rfl rfl rfl rfl rfl rfl rfl ?_
    refine R_run hg.ok 1000 rfl rfl ?_
    refine R_storeB hg.ok rfl rfl rfl rfl rfl rfl rfl rfl rfl ?_
    refine R_run hg.ok 1000 rfl rfl ?_
    refine R_lenO hg.ok rfl rfl rfl rfl rfl (n := ((R ++ [(x, y)]).length : Int)) (by rw [prsRows_len]) ?_
    refine R_run hg.ok 1000 rfl rfl ?_
    rw [w64 (n := ((R ++ [(x, y)]).length : Int) - 1) (by omega) (by omega), show ((R ++ [(x, y)]).length : Int) - 1 = ((R.length : Nat) : Int) by omega]
    refine R_shrinkO hg.ok (prsRows R) rfl rfl rfl rfl rfl rfl rfl rfl rfl rfl (Int.natCast_nonneg _) (by rw [prsRows_len]; simp; omega) (by simp [prsRows]) ?_
    refine R_run hg.ok 1000 rfl rfl ?_
    refine R_buildA hg.ok _ rfl rfl rfl rfl rfl rfl rfl rfl ?_
    refine R_run hg.ok 1000 rfl rfl ?_
    cases hs : Tm.skipU x y met with
    | true =>
      have hs' := hs
      simp only [Tm.skipU, Bool.and_eq_true, decide_eq_true_eq] at hs'
      refine R_if rfl rfl (fun _ => ?_) (fun h => absurd h (by simp [hs'.1.1])) <;> refine R_run hg.ok 1000 rfl rfl ?_
      refine R_if rfl rfl (fun _ => ?_) (fun h => absurd h (by simp [hs'.1.2])) <;> refine R_run hg.ok 1000 rfl rfl ?_
      refine R_lookupP hg.ok (metP met) uniKey rfl rfl rfl rfl rfl rfl (zv := .bool false) (by kernel_rfl) (v := .tt) (by rw [metP_get, if_pos hs'.2]; rfl) ?_
      refine R_run hg.ok 1000 rfl rfl ?_
      refine R_dropO 7 (urObj a b B (s + 1) R met) (by show φ.length ≤ _; omega) rfl ?_ ?_
      · exact urObj_trim a b B (s + 1) R met _
      exact R_next (n, R, B, met, s + 1) (hU.skip hs) (by simp only; omega) ⟨.refl _, .refl _, .refl _, trivial⟩ rfl
    | false =>
      have hstep := hU.step hs
      by_cases hb2 : x.k = 1 ∧ y.k = 1
      · refine R_if rfl rfl (fun _ => ?_) (fun h => absurd h (by simp [hb2.1])) <;> refine R_run hg.ok 1000 rfl rfl ?_
        refine R_if rfl rfl (fun _ => ?_) (fun h => absurd h (by simp [hb2.2])) <;> refine R_run hg.ok 1000 rfl rfl ?_
        have hmc : met.contains (x.n, y.n) = false := by
          have := hs; simp only [Tm.skipU, hb2.1, hb2.2, decide_true, Bool.true_and] at this; exact this
        have hmU : metP met ++ [((x.n, y.n), AV.tt)] = metP (Tm.metU x y met) := by simp [Tm.metU, hb2.1, hb2.2, metP]
        refine R_lookupP hg.ok (metP met) uniKey rfl rfl rfl rfl rfl rfl (zv := .bool false) (by kernel_rfl) (v := .ff) (by rw [metP_get, hmc]; rfl) ?_
        refine R_run hg.ok 1000 rfl rfl ?_
        refine R_mapAddPO hg.ok (metP met) (metP (Tm.metU x y met)) uniKey rfl rfl rfl rfl rfl rfl (by rw [metP_get, hmc]; rfl) rfl hmU ?_
        refine R_run hg.ok 1000 rfl rfl ?_
        generalize Tm.metU x y met = met' at hstep ⊢
        obtain ⟨ex, ey, zx, zy, hsame, hrest⟩ := hstep
        have cx := uniWalk_ok Y B hU.inv.chain x
        have cy := uniWalk_ok Y B hU.inv.chain y
        have hsb : ∀ c ∈ B, c.2.size < 400000000 := fun c hc => by have := hU.sb c hc; omega
        generalize Tm.walkB B x = x' at *
        generalize Tm.walkB B y = y' at *
        refine R_load4 hg.ok (by show φ.length ≤ 8; omega) rfl rfl rfl rfl rfl rfl rfl ?_
        refine R_run hg.ok 1000 rfl rfl ?_
        refine R_callS3 hg.ok hg.gup hg.wide hg.Y [0, 1, 2] (urObj a b B (s + 1) R met' ++ [boxR y, boxR x, .box [iV x.n, iV y.n]]) cx (fun _ => rfl) (fun i hi => by show i < φ.length; simp at hi; omega) rfl rfl rfl rfl rfl (by rw [uobj_ren]; rfl) rfl (by rw [uobj_ren]; rfl) ?_
        refine R_run hg.ok 1000 rfl rfl ?_
        refine R_load4 hg.ok (by show φ.length ≤ 7; omega) rfl rfl rfl rfl rfl rfl rfl ?_
        refine R_run hg.ok 1000 rfl rfl ?_
        refine R_callS3 hg.ok hg.gup hg.wide hg.Y [0, 1, 2] (urObj a b B (s + 1) R met' ++ [boxR y, boxR x, .box [iV x.n, iV y.n]]) cy (fun _ => rfl) (fun i hi => by show i < φ.length; simp at hi; omega) rfl rfl rfl rfl rfl (by rw [uobj_ren]; rfl) rfl (by rw [uobj_ren]; rfl) ?_
        refine R_run hg.ok 1000 rfl rfl ?_
        refine R_storeB hg.ok rfl rfl rfl rfl rfl rfl rfl rfl rfl ?_
        refine R_run hg.ok 1000 rfl rfl ?_
        refine R_storeB hg.ok rfl rfl rfl rfl rfl rfl rfl rfl rfl ?_
        refine R_run hg.ok 1000 rfl rfl ?_
        by_cases hc : x'.k = 1 ∧ y'.k = 1 ∧ x'.n = y'.n
        · refine R_if rfl rfl (fun _ => ?_) (fun h => absurd h (by simp [hc.1])) <;> refine R_run hg.ok 1000 rfl rfl ?_
          refine R_if rfl rfl (fun _ => ?_) (fun h => absurd h (by simp [hc.2.1])) <;> refine R_run hg.ok 1000 rfl rfl ?_
          refine R_if rfl rfl (fun _ => ?_) (fun h => absurd h (by simp [hc.2.2])) <;> refine R_run hg.ok 1000 rfl rfl ?_
          refine R_dropO 7 (urObj a b B (s + 1) R met') (by show φ.length ≤ _; omega) rfl ?_ ?_
          · exact urObj_trim a b B (s + 1) R met' _
          exact R_next (n, R, B, met', s + 1) (hsame hc) (by simp only; omega) ⟨.refl _, .refl _, .refl _, trivial⟩ rfl
        obtain ⟨hleft, hnot⟩ := hrest hc
        by_cases hkx : x'.k = 1
        · obtain ⟨hw, hN⟩ := hleft hkx
          have cw := uniWithin_ok Y B hsb (by omega) x'.n y' (by omega)
          rw [hw] at cw
          have cb := uniBind_ok Y B x'.n y' (ex hkx) (by omega)
          by_cases hky : y'.k = 1
          · refine R_if rfl rfl (fun _ => ?_) (fun h => absurd h (by simp [hkx])) <;> refine R_run hg.ok 1000 rfl rfl ?_
            refine R_if rfl rfl (fun _ => ?_) (fun h => absurd h (by simp [hky])) <;> refine R_run hg.ok 1000 rfl rfl ?_
            refine R_if rfl rfl (fun h => absurd h (by have : ¬ x'.n = y'.n := fun e => hc ⟨hkx, hky, e⟩; simp [this])) (fun _ => ?_) <;> refine R_run hg.ok 1000 rfl rfl ?_
            refine R_if rfl rfl (fun _ => ?_) (fun h => absurd h (by simp [hkx])) <;> refine R_run hg.ok 1000 rfl rfl ?_
            refine R_load4 hg.ok (by show φ.length ≤ 7; omega) rfl rfl rfl rfl rfl rfl rfl ?_
            refine R_run hg.ok 1000 rfl rfl ?_
            refine R_callSO hg.ok hg.gup hg.wide hg.Y [0, 1, 2] (urObj a b B (s + 1) R met' ++ [boxR y', boxR x', .box [iV x.n, iV y.n]]) cw (fun _ => rfl) rfl rfl rfl rfl rfl (by rw [uobj_ren]; rfl) rfl (by rw [uobj_ren]; rfl) ?_
            refine R_run hg.ok 1000 rfl rfl ?_
            refine R_if rfl rfl (fun h => absurd h (by simp)) (fun _ => ?_) <;> refine R_run hg.ok 1000 rfl rfl ?_
            refine R_load4 hg.ok (by show φ.length ≤ 7; omega) rfl rfl rfl rfl rfl rfl rfl ?_
            refine R_run hg.ok 1000 rfl rfl ?_
            refine R_callSO hg.ok hg.gup hg.wide hg.Y [0, 1, 2] (urObj a b (B ++ [(x'.n, y')]) (s + 1) R met' ++ [boxR y', boxR x', .box [iV x.n, iV y.n]]) cb (fun _ => rfl) rfl rfl rfl rfl rfl (by rw [uobj_ren]; rfl) rfl (by rw [uobj_ren]; rfl) ?_
            refine R_run hg.ok 1000 rfl rfl ?_
            refine R_dropO 7 (urObj a b (B ++ [(x'.n, y')]) (s + 1) R met') (by show φ.length ≤ _; omega) rfl ?_ ?_
            · exact urObj_trim a b (B ++ [(x'.n, y')]) (s + 1) R met' _
            exact R_next (n, R, B ++ [(x'.n, y')], met', s + 1) hN (by simp only; omega) ⟨.refl _, .refl _, .refl _, trivial⟩ rfl
          · refine R_if rfl rfl (fun _ => ?_) (fun h => absurd h (by simp [hkx])) <;> refine R_run hg.ok 1000 rfl rfl ?_
            refine R_if rfl rfl (fun h => absurd h (by simp [hky])) (fun _ => ?_) <;> refine R_run hg.ok 1000 rfl rfl ?_
            refine R_if rfl rfl (fun _ => ?_) (fun h => absurd h (by simp [hkx])) <;> refine R_run hg.ok 1000 rfl rfl ?_
            refine R_load4 hg.ok (by show φ.length ≤ 7; omega) rfl rfl rfl rfl rfl rfl rfl ?_
            refine R_run hg.ok 1000 rfl rfl ?_
            refine R_callSO hg.ok hg.gup hg.wide hg.Y [0, 1, 2] (urObj a b B (s + 1) R met' ++ [boxR y', boxR x', .box [iV x.n, iV y.n]]) cw (fun _ => rfl) rfl rfl rfl rfl rfl (by rw [uobj_ren]; rfl) rfl (by rw [uobj_ren]; rfl) ?_
            refine R_run hg.ok 1000 rfl rfl ?_
            refine R_if rfl rfl (fun h => absurd h (by simp)) (fun _ => ?_) <;> refine R_run hg.ok 1000 rfl rfl ?_
            refine R_load4 hg.ok (by show φ.length ≤ 7; omega) rfl rfl rfl rfl rfl rfl rfl ?_
            refine R_run hg.ok 1000 rfl rfl ?_
            refine R_callSO hg.ok hg.gup hg.wide hg.Y [0, 1, 2] (urObj a b (B ++ [(x'.n, y')]) (s + 1) R met' ++ [boxR y', boxR x', .box [iV x.n, iV y.n]]) cb (fun _ => rfl) rfl rfl rfl rfl rfl (by rw [uobj_ren]; rfl) rfl (by rw [uobj_ren]; rfl) ?_
            refine R_run hg.ok 1000 rfl rfl ?_
            refine R_dropO 7 (urObj a b (B ++ [(x'.n, y')]) (s + 1) R met') (by show φ.length ≤ _; omega) rfl ?_ ?_
            · exact urObj_trim a b (B ++ [(x'.n, y')]) (s + 1) R met' _
            exact R_next (n, R, B ++ [(x'.n, y')], met', s + 1) hN (by simp only; omega) ⟨.refl _, .refl _, .refl _, trivial⟩ rfl
        · refine R_if rfl rfl (fun h => absurd h (by simp [hkx])) (fun _ => ?_) <;> refine R_run hg.ok 1000 rfl rfl ?_
          refine R_if rfl rfl (fun h => absurd h (by simp [hkx])) (fun _ => ?_) <;> refine R_run hg.ok 1000 rfl rfl ?_
          obtain ⟨hright, hdeep⟩ := hnot hkx
          by_cases hky : y'.k = 1
          · obtain ⟨hw, hN⟩ := hright hky
            have cw := uniWithin_ok Y B hsb (by omega) y'.n x' (by omega)
            rw [hw] at cw
            have cb := uniBind_ok Y B y'.n x' (ey hky) (by omega)
            refine R_if rfl rfl (fun _ => ?_) (fun h => absurd h (by simp [hky])) <;> refine R_run hg.ok 1000 rfl rfl ?_
            refine R_load4 hg.ok (by show φ.length ≤ 8; omega) rfl rfl rfl rfl rfl rfl rfl ?_
            refine R_run hg.ok 1000 rfl rfl ?_
            refine R_callSO hg.ok hg.gup hg.wide hg.Y [0, 1, 2] (urObj a b B (s + 1) R met' ++ [boxR y', boxR x', .box [iV x.n, iV y.n]]) cw (fun _ => rfl) rfl rfl rfl rfl rfl (by rw [uobj_ren]; rfl) rfl (by rw [uobj_ren]; rfl) ?_
            refine R_run hg.ok 1000 rfl rfl ?_
            refine R_if rfl rfl (fun h => absurd h (by simp)) (fun _ => ?_) <;> refine R_run hg.ok 1000 rfl rfl ?_
            refine R_load4 hg.ok (by show φ.length ≤ 8; omega) rfl rfl rfl rfl rfl rfl rfl ?_
            refine R_run hg.ok 1000 rfl rfl ?_
            refine R_callSO hg.ok hg.gup hg.wide hg.Y [0, 1, 2] (urObj a b (B ++ [(y'.n, x')]) (s + 1) R met' ++ [boxR y', boxR x', .box [iV x.n, iV y.n]]) cb (fun _ => rfl) rfl rfl rfl rfl rfl (by rw [uobj_ren]; rfl) rfl (by rw [uobj_ren]; rfl) ?_
            refine R_run hg.ok 1000 rfl rfl ?_
            refine R_dropO 7 (urObj a b (B ++ [(y'.n, x')]) (s + 1) R met') (by show φ.length ≤ _; omega) rfl ?_ ?_
            · exact urObj_trim a b (B ++ [(y'.n, x')]) (s + 1) R met' _
            exact R_next (n, R, B ++ [(y'.n, x')], met', s + 1) hN (by simp only; omega) ⟨.refl _, .refl _, .refl _, trivial⟩ rfl
          · obtain ⟨g1, g2, g3, g4, hN⟩ := hdeep hky
            have hzl : (x'.l.zip y'.l).length = x'.l.length := by rw [List.length_zip]; omega
            have hN2 := Tm.sumS_len σ (R ++ x'.l.zip y'.l)
            have hN3 := hN.sum
            have hN4 := hN.few
            have hRz : (R ++ x'.l.zip y'.l).length = R.length + x'.l.length := by rw [List.length_append, hzl]
            refine R_if rfl rfl (fun h => absurd h (by simp [hky])) (fun _ => ?_) <;> refine R_run hg.ok 1000 rfl rfl ?_
            refine R_if rfl rfl (fun h => absurd h (by simp [g1])) (fun _ => ?_) <;> refine R_run hg.ok 1000 rfl rfl ?_
            refine R_if rfl rfl (fun h => absurd h (by simp [g3])) (fun _ => ?_) <;> refine R_run hg.ok 1000 rfl rfl ?_
            refine R_if rfl rfl (fun h => absurd h (by simp [g2, strEq])) (fun _ => ?_) <;> refine R_run hg.ok 1000 rfl rfl ?_
            refine R_if rfl rfl (fun h => absurd h (by simp [Tm.rows_length, g4])) (fun _ => ?_) <;> refine R_run hg.ok 1000 rfl rfl ?_
            refine R_loop (fun k : Nat => ([(0, .lo 0 0), (7, .ow 5 (s + 1 + k)), (8, .mp 6), (10, .lo 7 0), (66, .d (.sl (Tm.rows x'.l))), (67, iV x'.l.length), (68, iV k)], urObj a b B (s + 1 + k) (R ++ (x'.l.zip y'.l).take k) met' ++ [boxR y', boxR x', .box [iV x.n, iV y.n]])) (fun k => k ≤ x'.l.length) (fun k => x'.l.length - k) 0 (Nat.zero_le _) ⟨.refl _, .refl _, .refl _, .refl _, .refl _, Ent.int (by rw [Tm.rows_length]), .refl _, trivial⟩ (by simp only [List.take_zero, List.append_nil]; rfl) ?_
            rintro k hk
            refine R_run hg.ok 1000 rfl rfl ?_
            refine R_if rfl rfl (fun h => ?_) (fun h => ?_) <;> refine R_run hg.ok 1000 rfl rfl ?_
            · have hk1 : k < x'.l.length := lt_dec h rfl
              have e1 : x'.l[k]? = some x'.l[k] := List.getElem?_eq_getElem hk1
              have e2 : y'.l[k]? = some (y'.l[k]'(by omega)) := List.getElem?_eq_getElem (by omega)
              have e3 : (x'.l.zip y'.l)[k]? = some (x'.l[k], y'.l[k]'(by omega)) := by rw [List.getElem?_zip_eq_some]; exact ⟨e1, e2⟩
              generalize x'.l[k] = xk at e1 e3
              generalize (y'.l[k]'(by omega)) = yk at e2 e3
              have hz1 : R ++ (x'.l.zip y'.l).take (k + 1) = (R ++ (x'.l.zip y'.l).take k) ++ [(xk, yk)] := by rw [List.take_add_one, e3, List.append_assoc]; rfl
              have hz2 : (R ++ (x'.l.zip y'.l).take k).length = R.length + k := by rw [List.length_append, List.length_take]; omega
              refine R_index hg.ok rfl rfl rfl rfl rfl rfl (Int.natCast_nonneg _) (Tm.rows_get e1) rfl ?_
              refine R_run hg.ok 1000 rfl rfl ?_
              refine R_index hg.ok rfl rfl rfl rfl rfl rfl (Int.natCast_nonneg _) (Tm.rows_get e2) rfl ?_
              refine R_run hg.ok 1000 rfl rfl ?_
              refine R_buildA hg.ok _ rfl rfl rfl rfl rfl rfl rfl rfl ?_
              refine R_run hg.ok 1000 rfl rfl ?_
              refine R_buildF hg.ok (.fs [[.v (.int .i64 xk.k), .v (.string xk.s), .v (.int .i64 xk.n), .sl (Tm.rows xk.l), .v (.int .i64 yk.k), .v (.string yk.s), .v (.int .i64 yk.n), .sl (Tm.rows yk.l)]]) rfl rfl (buildS_one rfl rfl rfl rfl (by decide)) ?_
              refine R_run hg.ok 1000 rfl rfl ?_
              refine R_appendO hg.ok (prsRows (R ++ (x'.l.zip y'.l).take (k + 1))) rfl rfl rfl rfl rfl rfl rfl rfl rfl (by simp) (by simp [one1]) (by rw [hz1]; exact prs_snoc2 _ xk yk) (by rw [prsRows_len, hz2]; simp; omega) (by rw [prsRows_len, hz2]; simp; omega) ?_
              refine R_run hg.ok 1000 rfl rfl ?_
              refine R_dropO 10 (urObj a b B (s + 1 + (k + 1)) (R ++ (x'.l.zip y'.l).take (k + 1)) met' ++ [boxR y', boxR x', .box [iV x.n, iV y.n]]) (by show φ.length ≤ _; omega) rfl ?_ ?_
              · exact urObj_trim3 a b B (s + 1 + (k + 1)) (R ++ (x'.l.zip y'.l).take (k + 1)) met' _ _ x.n y.n _
              exact R_next (k + 1) hk1 (by omega) ⟨.refl _, .refl _, .refl _, .refl _, .refl _, .refl _, Ent.wrap (by omega) (by omega) (by omega), trivial⟩ rfl
            · have hk1 : x'.l.length ≤ k := ge_dec h rfl
              rw [List.take_of_length_le (by omega : (x'.l.zip y'.l).length ≤ k)]
              refine R_dropO 7 (urObj a b B (s + 1 + k) (R ++ x'.l.zip y'.l) met') (by show φ.length ≤ _; omega) rfl ?_ ?_
              · exact urObj_trim a b B (s + 1 + k) (R ++ x'.l.zip y'.l) met' _
              exact R_next (n, R ++ x'.l.zip y'.l, B, met', s + 1 + k) hN (by simp only; omega) ⟨.refl _, .refl _, .refl _, trivial⟩ rfl
      · have hmU : Tm.metU x y met = met := by
          unfold Tm.metU
          rw [if_neg]
          simp only [Bool.and_eq_true, decide_eq_true_eq]; exact hb2
        rw [hmU] at hstep
        obtain ⟨met', rfl⟩ : ∃ m, met = m := ⟨met, rfl⟩
        by_cases hx1 : x.k = 1
        · refine R_if rfl rfl (fun _ => ?_) (fun h => absurd h (by simp [hx1])) <;> refine R_run hg.ok 1000 rfl rfl ?_
          refine R_if rfl rfl (fun h => absurd h (by have : ¬ y.k = 1 := fun h => hb2 ⟨hx1, h⟩; simp [this])) (fun _ => ?_) <;> refine R_run hg.ok 1000 rfl rfl ?_
          obtain ⟨ex, ey, zx, zy, hsame, hrest⟩ := hstep
          have cx := uniWalk_ok Y B hU.inv.chain x
          have cy := uniWalk_ok Y B hU.inv.chain y
          have hsb : ∀ c ∈ B, c.2.size < 400000000 := fun c hc => by have := hU.sb c hc; omega
          generalize Tm.walkB B x = x' at *
          generalize Tm.walkB B y = y' at *
          refine R_load4 hg.ok (by show φ.length ≤ 8; omega) rfl rfl rfl rfl rfl rfl rfl ?_
          refine R_run hg.ok 1000 rfl rfl ?_
          refine R_callS3 hg.ok hg.gup hg.wide hg.Y [0, 1, 2] (urObj a b B (s + 1) R met ++ [boxR y, boxR x, .box [iV x.n, iV y.n]]) cx (fun _ => rfl) (fun i hi => by show i < φ.length; simp at hi; omega) rfl rfl rfl rfl rfl (by rw [uobj_ren]; rfl) rfl (by rw [uobj_ren]; rfl) ?_
          refine R_run hg.ok 1000 rfl rfl ?_
          refine R_load4 hg.ok (by show φ.length ≤ 7; omega) rfl rfl rfl rfl rfl rfl rfl ?_
          refine R_run hg.ok 1000 rfl rfl ?_
          refine R_callS3 hg.ok hg.gup hg.wide hg.Y [0, 1, 2] (urObj a b B (s + 1) R met ++ [boxR y, boxR x, .box [iV x.n, iV y.n]]) cy (fun _ => rfl) (fun i hi => by show i < φ.length; simp at hi; omega) rfl rfl rfl rfl rfl (by rw [uobj_ren]; rfl) rfl (by rw [uobj_ren]; rfl) ?_
          refine R_run hg.ok 1000 rfl rfl ?_
          refine R_storeB hg.ok rfl rfl rfl rfl rfl rfl rfl rfl rfl ?_
          refine R_run hg.ok 1000 rfl rfl ?_
          refine R_storeB hg.ok rfl rfl rfl rfl rfl rfl rfl rfl rfl ?_
          refine R_run hg.ok 1000 rfl rfl ?_
          by_cases hc : x'.k = 1 ∧ y'.k = 1 ∧ x'.n = y'.n
          · refine R_if rfl rfl (fun _ => ?_) (fun h => absurd h (by simp [hc.1])) <;> refine R_run hg.ok 1000 rfl rfl ?_
            refine R_if rfl rfl (fun _ => ?_) (fun h => absurd h (by simp [hc.2.1])) <;> refine R_run hg.ok 1000 rfl rfl ?_
            refine R_if rfl rfl (fun _ => ?_) (fun h => absurd h (by simp [hc.2.2])) <;> refine R_run hg.ok 1000 rfl rfl ?_
            refine R_dropO 7 (urObj a b B (s + 1) R met) (by show φ.length ≤ _; omega) rfl ?_ ?_
            · exact urObj_trim a b B (s + 1) R met _
            exact R_next (n, R, B, met, s + 1) (hsame hc) (by simp only; omega) ⟨.refl _, .refl _, .refl _, trivial⟩ rfl
          obtain ⟨hleft, hnot⟩ := hrest hc
          by_cases hkx : x'.k = 1
          · obtain ⟨hw, hN⟩ := hleft hkx
            have cw := uniWithin_ok Y B hsb (by omega) x'.n y' (by omega)
            rw [hw] at cw
            have cb := uniBind_ok Y B x'.n y' (ex hkx) (by omega)
            by_cases hky : y'.k = 1
            · refine R_if rfl rfl (fun _ => ?_) (fun h => absurd h (by simp [hkx])) <;> refine R_run hg.ok 1000 rfl rfl ?_
              refine R_if rfl rfl (fun _ => ?_) (fun h => absurd h (by simp [hky])) <;> refine R_run hg.ok 1000 rfl rfl ?_
              refine R_if rfl rfl (fun h => absurd h (by have : ¬ x'.n = y'.n := fun e => hc ⟨hkx, hky, e⟩; simp [this])) (fun _ => ?_) <;> refine R_run hg.ok 1000 rfl rfl ?_
              refine R_if rfl rfl (fun _ => ?_) (fun h => absurd h (by simp [hkx])) <;> refine R_run hg.ok 1000 rfl rfl ?_
              refine R_load4 hg.ok (by show φ.length ≤ 7; omega) rfl rfl rfl rfl rfl rfl rfl ?_
              refine R_run hg.ok 1000 rfl rfl ?_
              refine R_callSO hg.ok hg.gup hg.wide hg.Y [0, 1, 2] (urObj a b B (s + 1) R met ++ [boxR y', boxR x', .box [iV x.n, iV y.n]]) cw (fun _ => rfl) rfl rfl rfl rfl rfl (by rw [uobj_ren]; rfl) rfl (by rw [uobj_ren]; rfl) ?_
              refine R_run hg.ok 1000 rfl rfl ?_
              refine R_if rfl rfl (fun h => absurd h (by simp)) (fun _ => ?_) <;> refine R_run hg.ok 1000 rfl rfl ?_
              refine R_load4 hg.ok (by show φ.length ≤ 7; omega) rfl rfl rfl rfl rfl rfl rfl ?_
              refine R_run hg.ok 1000 rfl rfl ?_
              refine R_callSO hg.ok hg.gup hg.wide hg.Y [0, 1, 2] (urObj a b (B ++ [(x'.n, y')]) (s + 1) R met ++ [boxR y', boxR x', .box [iV x.n, iV y.n]]) cb (fun _ => rfl) rfl rfl rfl rfl rfl (by rw [uobj_ren]; rfl) rfl (by rw [uobj_ren]; rfl) ?_
              refine R_run hg.ok 1000 rfl rfl ?_
              refine R_dropO 7 (urObj a b (B ++ [(x'.n, y')]) (s + 1) R met) (by show φ.length ≤ _; omega) rfl ?_ ?_
              · exact urObj_trim a b (B ++ [(x'.n, y')]) (s + 1) R met _
              exact R_next (n, R, B ++ [(x'.n, y')], met, s + 1) hN (by simp only; omega) ⟨.refl _, .refl _, .refl _, trivial⟩ rfl
            · refine R_if rfl rfl (fun _ => ?_) (fun h => absurd h (by simp [hkx])) <;> refine R_run hg.ok 1000 rfl rfl ?_
              refine R_if rfl rfl (fun h => absurd h (by simp [hky])) (fun _ => ?_) <;> refine R_run hg.ok 1000 rfl rfl ?_
              refine R_if rfl rfl (fun _ => ?_) (fun h => absurd h (by simp [hkx])) <;> refine R_run hg.ok 1000 rfl rfl ?_
              refine R_load4 hg.ok (by show φ.length ≤ 7; omega) rfl rfl rfl rfl rfl rfl rfl ?_
              refine R_run hg.ok 1000 rfl rfl ?_
              refine R_callSO hg.ok hg.gup hg.wide hg.Y [0, 1, 2] (urObj a b B (s + 1) R met ++ [boxR y', boxR x', .box [iV x.n, iV y.n]]) cw (fun _ => rfl) rfl rfl rfl rfl rfl (by rw [uobj_ren]; rfl) rfl (by rw [uobj_ren]; rfl) ?_
              refine R_run hg.ok 1000 rfl rfl ?_
              refine R_if rfl rfl (fun h => absurd h (by simp)) (fun _ => ?_) <;> refine R_run hg.ok 1000 rfl rfl ?_
              refine R_load4 hg.ok (by show φ.length ≤ 7; omega) rfl rfl rfl rfl rfl rfl rfl ?_
              refine R_run hg.ok 1000 rfl rfl ?_
              refine R_callSO hg.ok hg.gup hg.wide hg.Y [0, 1, 2] (urObj a b (B ++ [(x'.n, y')]) (s + 1) R met ++ [boxR y', boxR x', .box [iV x.n, iV y.n]]) cb (fun _ => rfl) rfl rfl rfl rfl rfl (by rw [uobj_ren]; rfl) rfl (by rw [uobj_ren]; rfl) ?_
              refine R_run hg.ok 1000 rfl rfl ?_
              refine R_dropO 7 (urObj a b (B ++ [(x'.n, y')]) (s + 1) R met) (by show φ.length ≤ _; omega) rfl ?_ ?_
              · exact urObj_trim a b (B ++ [(x'.n, y')]) (s + 1) R met _
              exact R_next (n, R, B ++ [(x'.n, y')], met, s + 1) hN (by simp only; omega) ⟨.refl _, .refl _, .refl _, trivial⟩ rfl
          · refine R_if rfl rfl (fun h => absurd h (by simp [hkx])) (fun _ => ?_) <;> refine R_run hg.ok 1000 rfl rfl ?_
            refine R_if rfl rfl (fun h => absurd h (by simp [hkx])) (fun _ => ?_) <;> refine R_run hg.ok 1000 rfl rfl ?_
            obtain ⟨hright, hdeep⟩ := hnot hkx
            by_cases hky : y'.k = 1
            · obtain ⟨hw, hN⟩ := hright hky
              have cw := uniWithin_ok Y B hsb (by omega) y'.n x' (by omega)
              rw [hw] at cw
              have cb := uniBind_ok Y B y'.n x' (ey hky) (by omega)
              refine R_if rfl rfl (fun _ => ?_) (fun h => absurd h (by simp [hky])) <;> refine R_run hg.ok 1000 rfl rfl ?_
              refine R_load4 hg.ok (by show φ.length ≤ 8; omega) rfl rfl rfl rfl rfl rfl rfl ?_
              refine R_run hg.ok 1000 rfl rfl ?_
              refine R_callSO hg.ok hg.gup hg.wide hg.Y [0, 1, 2] (urObj a b B (s + 1) R met ++ [boxR y', boxR x', .box [iV x.n, iV y.n]]) cw (fun _ => rfl) rfl rfl rfl rfl rfl (by rw [uobj_ren]; rfl) rfl (by rw [uobj_ren]; rfl) ?_
              refine R_run hg.ok 1000 rfl rfl ?_
              refine R_if rfl rfl (fun h => absurd h (by simp)) (fun _ => ?_) <;> refine R_run hg.ok 1000 rfl rfl ?_
              refine R_load4 hg.ok (by show φ.length ≤ 8; omega) rfl rfl rfl rfl rfl rfl rfl ?_
              refine R_run hg.ok 1000 rfl rfl ?_
              refine R_callSO hg.ok hg.gup hg.wide hg.Y [0, 1, 2] (urObj a b (B ++ [(y'.n, x')]) (s + 1) R met ++ [boxR y', boxR x', .box [iV x.n, iV y.n]]) cb (fun _ => rfl) rfl rfl rfl rfl rfl (by rw [uobj_ren]; rfl) rfl (by rw [uobj_ren]; rfl) ?_
              refine R_run hg.ok 1000 rfl rfl ?_
              refine R_dropO 7 (urObj a b (B ++ [(y'.n, x')]) (s + 1) R met) (by show φ.length ≤ _; omega) rfl ?_ ?_
              · exact urObj_trim a b (B ++ [(y'.n, x')]) (s + 1) R met _
              exact R_next (n, R, B ++ [(y'.n, x')], met, s + 1) hN (by simp only; omega) ⟨.refl _, .refl _, .refl _, trivial⟩ rfl
            · obtain ⟨g1, g2, g3, g4, hN⟩ := hdeep hky
              have hzl : (x'.l.zip y'.l).length = x'.l.length := by rw [List.length_zip]; omega
              have hN2 := Tm.sumS_len σ (R ++ x'.l.zip y'.l)
              have hN3 := hN.sum
              have hN4 := hN.few
              have hRz : (R ++ x'.l.zip y'.l).length = R.length + x'.l.length := by rw [List.length_append, hzl]
              refine R_if rfl rfl (fun h => absurd h (by simp [hky])) (fun _ => ?_) <;> refine R_run hg.ok 1000 rfl rfl ?_
              refine R_if rfl rfl (fun h => absurd h (by simp [g1])) (fun _ => ?_) <;> refine R_run hg.ok 1000 rfl rfl ?_
              refine R_if rfl rfl (fun h => absurd h (by simp [g3])) (fun _ => ?_) <;> refine R_run hg.ok 1000 rfl rfl ?_
              refine R_if rfl rfl (fun h => absurd h (by simp [g2, strEq])) (fun _ => ?_) <;> refine R_run hg.ok 1000 rfl rfl ?_
              refine R_if rfl rfl (fun h => absurd h (by simp [Tm.rows_length, g4])) (fun _ => ?_) <;> refine R_run hg.ok 1000 rfl rfl ?_
              refine R_loop (fun k : Nat => ([(0, .lo 0 0), (7, .ow 5 (s + 1 + k)), (8, .mp 6), (10, .lo 7 0), (66, .d (.sl (Tm.rows x'.l))), (67, iV x'.l.length), (68, iV k)], urObj a b B (s + 1 + k) (R ++ (x'.l.zip y'.l).take k) met ++ [boxR y', boxR x', .box [iV x.n, iV y.n]])) (fun k => k ≤ x'.l.length) (fun k => x'.l.length - k) 0 (Nat.zero_le _) ⟨.refl _, .refl _, .refl _, .refl _, .refl _, Ent.int (by rw [Tm.rows_length]), .refl _, trivial⟩ (by simp only [List.take_zero, List.append_nil]; rfl) ?_
              rintro k hk
              refine R_run hg.ok 1000 rfl rfl ?_
              refine R_if rfl rfl (fun h => ?_) (fun h => ?_) <;> refine R_run hg.ok 1000 rfl rfl ?_
              · have hk1 : k < x'.l.length := lt_dec h rfl
                have e1 : x'.l[k]? = some x'.l[k] := List.getElem?_eq_getElem hk1
                have e2 : y'.l[k]? = some (y'.l[k]'(by omega)) := List.getElem?_eq_getElem (by omega)
                have e3 : (x'.l.zip y'.l)[k]? = some (x'.l[k], y'.l[k]'(by omega)) := by rw [List.getElem?_zip_eq_some]; exact ⟨e1, e2⟩
                generalize x'.l[k] = xk at e1 e3
                generalize (y'.l[k]'(by omega)) = yk at e2 e3
                have hz1 : R ++ (x'.l.zip y'.l).take (k + 1) = (R ++ (x'.l.zip y'.l).take k) ++ [(xk, yk)] := by rw [List.take_add_one, e3, List.append_assoc]; rfl
                have hz2 : (R ++ (x'.l.zip y'.l).take k).length = R.length + k := by rw [List.length_append, List.length_take]; omega
                refine R_index hg.ok rfl rfl rfl rfl rfl rfl (Int.natCast_nonneg _) (Tm.rows_get e1) rfl ?_
                refine R_run hg.ok 1000 rfl rfl ?_
                refine R_index hg.ok rfl rfl rfl rfl rfl rfl (Int.natCast_nonneg _) (Tm.rows_get e2) rfl ?_
                refine R_run hg.ok 1000 rfl rfl ?_
                refine R_buildA hg.ok _ rfl rfl rfl rfl rfl rfl rfl rfl ?_
                refine R_run hg.ok 1000 rfl rfl ?_
                refine R_buildF hg.ok (.fs [[.v (.int .i64 xk.k), .v (.string xk.s), .v (.int .i64 xk.n), .sl (Tm.rows xk.l), .v (.int .i64 yk.k), .v (.string yk.s), .v (.int .i64 yk.n), .sl (Tm.rows yk.l)]]) rfl rfl (buildS_one rfl rfl rfl rfl (by decide)) ?_
                refine R_run hg.ok 1000 rfl rfl ?_
                refine R_appendO hg.ok (prsRows (R ++ (x'.l.zip y'.l).take (k + 1))) rfl rfl rfl rfl rfl rfl rfl rfl rfl (by simp) (by simp [one1]) (by rw [hz1]; exact prs_snoc2 _ xk yk) (by rw [prsRows_len, hz2]; simp; omega) (by rw [prsRows_len, hz2]; simp; omega) ?_
                refine R_run hg.ok 1000 rfl rfl ?_
                refine R_dropO 10 (urObj a b B (s + 1 + (k + 1)) (R ++ (x'.l.zip y'.l).take (k + 1)) met ++ [boxR y', boxR x', .box [iV x.n, iV y.n]]) (by show φ.length ≤ _; omega) rfl ?_ ?_
                · exact urObj_trim3 a b B (s + 1 + (k + 1)) (R ++ (x'.l.zip y'.l).take (k + 1)) met _ _ x.n y.n _
                exact R_next (k + 1) hk1 (by omega) ⟨.refl _, .refl _, .refl _, .refl _, .refl _, .refl _, Ent.wrap (by omega) (by omega) (by omega), trivial⟩ rfl
              · have hk1 : x'.l.length ≤ k := ge_dec h rfl
                rw [List.take_of_length_le (by omega : (x'.l.zip y'.l).length ≤ k)]
                refine R_dropO 7 (urObj a b B (s + 1 + k) (R ++ x'.l.zip y'.l) met) (by show φ.length ≤ _; omega) rfl ?_ ?_
                · exact urObj_trim a b B (s + 1 + k) (R ++ x'.l.zip y'.l) met _
                exact R_next (n, R ++ x'.l.zip y'.l, B, met, s + 1 + k) hN (by simp only; omega) ⟨.refl _, .refl _, .refl _, trivial⟩ rfl
        · refine R_if rfl rfl (fun h => absurd h (by simp [hx1])) (fun _ => ?_) <;> refine R_run hg.ok 1000 rfl rfl ?_
          obtain ⟨ex, ey, zx, zy, hsame, hrest⟩ := hstep
          have cx := uniWalk_ok Y B hU.inv.chain x
          have cy := uniWalk_ok Y B hU.inv.chain y
          have hsb : ∀ c ∈ B, c.2.size < 400000000 := fun c hc => by have := hU.sb c hc; omega
          generalize Tm.walkB B x = x' at *
          generalize Tm.walkB B y = y' at *
          refine R_load4 hg.ok (by show φ.length ≤ 8; omega) rfl rfl rfl rfl rfl rfl rfl ?_
          refine R_run hg.ok 1000 rfl rfl ?_
          refine R_callS3 hg.ok hg.gup hg.wide hg.Y [0, 1, 2] (urObj a b B (s + 1) R met ++ [boxR y, boxR x, .box [iV x.n, iV y.n]]) cx (fun _ => rfl) (fun i hi => by show i < φ.length; simp at hi; omega) rfl rfl rfl rfl rfl (by rw [uobj_ren]; rfl) rfl (by rw [uobj_ren]; rfl) ?_
          refine R_run hg.ok 1000 rfl rfl ?_
          refine R_load4 hg.ok (by show φ.length ≤ 7; omega) rfl rfl rfl rfl rfl rfl rfl ?_
          refine R_run hg.ok 1000 rfl rfl ?_
          refine R_callS3 hg.ok hg.gup hg.wide hg.Y [0, 1, 2] (urObj a b B (s + 1) R met ++ [boxR y, boxR x, .box [iV x.n, iV y.n]]) cy (fun _ => rfl) (fun i hi => by show i < φ.length; simp at hi; omega) rfl rfl rfl rfl rfl (by rw [uobj_ren]; rfl) rfl (by rw [uobj_ren]; rfl) ?_
          refine R_run hg.ok 1000 rfl rfl ?_
          refine R_storeB hg.ok rfl rfl rfl rfl rfl rfl rfl rfl rfl ?_
          refine R_run hg.ok 1000 rfl rfl ?_
          refine R_storeB hg.ok rfl rfl rfl rfl rfl rfl rfl rfl rfl ?_
          refine R_run hg.ok 1000 rfl rfl ?_
          by_cases hc : x'.k = 1 ∧ y'.k = 1 ∧ x'.n = y'.n
          · refine R_if rfl rfl (fun _ => ?_) (fun h => absurd h (by simp [hc.1])) <;> refine R_run hg.ok 1000 rfl rfl ?_
            refine R_if rfl rfl (fun _ => ?_) (fun h => absurd h (by simp [hc.2.1])) <;> refine R_run hg.ok 1000 rfl rfl ?_
            refine R_if rfl rfl (fun _ => ?_) (fun h => absurd h (by simp [hc.2.2])) <;> refine R_run hg.ok 1000 rfl rfl ?_
            refine R_dropO 7 (urObj a b B (s + 1) R met) (by show φ.length ≤ _; omega) rfl ?_ ?_
            · exact urObj_trim a b B (s + 1) R met _
            exact R_next (n, R, B, met, s + 1) (hsame hc) (by simp only; omega) ⟨.refl _, .refl _, .refl _, trivial⟩ rfl
          obtain ⟨hleft, hnot⟩ := hrest hc
          by_cases hkx : x'.k = 1
          · obtain ⟨hw, hN⟩ := hleft hkx
            have cw := uniWithin_ok Y B hsb (by omega) x'.n y' (by omega)
            rw [hw] at cw
            have cb := uniBind_ok Y B x'.n y' (ex hkx) (by omega)
            by_cases hky : y'.k = 1
            · refine R_if rfl rfl (fun _ => ?_) (fun h => absurd h (by simp [hkx])) <;> refine R_run hg.ok 1000 rfl rfl ?_
              refine R_if rfl rfl (fun _ => ?_) (fun h => absurd h (by simp [hky])) <;> refine R_run hg.ok 1000 rfl rfl ?_
              refine R_if rfl rfl (fun h => absurd h (by have : ¬ x'.n = y'.n := fun e => hc ⟨hkx, hky, e⟩; simp [this])) (fun _ => ?_) <;> refine R_run hg.ok 1000 rfl rfl ?_
              refine R_if rfl rfl (fun _ => ?_) (fun h => absurd h (by simp [hkx])) <;> refine R_run hg.ok 1000 rfl rfl ?_
              refine R_load4 hg.ok (by show φ.length ≤ 7; omega) rfl rfl rfl rfl rfl rfl rfl ?_
              refine R_run hg.ok 1000 rfl rfl ?_
              refine R_callSO hg.ok hg.gup hg.wide hg.Y [0, 1, 2] (urObj a b B (s + 1) R met ++ [boxR y', boxR x', .box [iV x.n, iV y.n]]) cw (fun _ => rfl) rfl rfl rfl rfl rfl (by rw [uobj_ren]; rfl) rfl (by rw [uobj_ren]; rfl) ?_
              refine R_run hg.ok 1000 rfl rfl ?_
              refine R_if rfl rfl (fun h => absurd h (by simp)) (fun _ => ?_) <;> refine R_run hg.ok 1000 rfl rfl ?_
              refine R_load4 hg.ok (by show φ.length ≤ 7; omega) rfl rfl rfl rfl rfl rfl rfl ?_
              refine R_run hg.ok 1000 rfl rfl ?_
              refine R_callSO hg.ok hg.gup hg.wide hg.Y [0, 1, 2] (urObj a b (B ++ [(x'.n, y')]) (s + 1) R met ++ [boxR y', boxR x', .box [iV x.n, iV y.n]]) cb (fun _ => rfl) rfl rfl rfl rfl rfl (by rw [uobj_ren]; rfl) rfl (by rw [uobj_ren]; rfl) ?_
              refine R_run hg.ok 1000 rfl rfl ?_
              refine R_dropO 7 (urObj a b (B ++ [(x'.n, y')]) (s + 1) R met) (by show φ.length ≤ _; omega) rfl ?_ ?_
              · exact urObj_trim a b (B ++ [(x'.n, y')]) (s + 1) R met _
              exact R_next (n, R, B ++ [(x'.n, y')], met, s + 1) hN (by simp only; omega) ⟨.refl _, .refl _, .refl _, trivial⟩ rfl
            · refine R_if rfl rfl (fun _ => ?_) (fun h => absurd h (by simp [hkx])) <;> refine R_run hg.ok 1000 rfl rfl ?_
              refine R_if rfl rfl (fun h => absurd h (by simp [hky])) (fun _ => ?_) <;> refine R_run hg.ok 1000 rfl rfl ?_
              refine R_if rfl rfl (fun _ => ?_) (fun h => absurd h (by simp [hkx])) <;> refine R_run hg.ok 1000 rfl rfl ?_
              refine R_load4 hg.ok (by show φ.length ≤ 7; omega) rfl rfl rfl rfl rfl rfl rfl ?_
              refine R_run hg.ok 1000 rfl rfl ?_
              refine R_callSO hg.ok hg.gup hg.wide hg.Y [0, 1, 2] (urObj a b B (s + 1) R met ++ [boxR y', boxR x', .box [iV x.n, iV y.n]]) cw (fun _ => rfl) rfl rfl rfl rfl rfl (by rw [uobj_ren]; rfl) rfl (by rw [uobj_ren]; rfl) ?_
              refine R_run hg.ok 1000 rfl rfl ?_
              refine R_if rfl rfl (fun h => absurd h (by simp)) (fun _ => ?_) <;> refine R_run hg.ok 1000 rfl rfl ?_
              refine R_load4 hg.ok (by show φ.length ≤ 7; omega) rfl rfl rfl rfl rfl rfl rfl ?_
              refine R_run hg.ok 1000 rfl rfl ?_
              refine R_callSO hg.ok hg.gup hg.wide hg.Y [0, 1, 2] (urObj a b (B ++ [(x'.n, y')]) (s + 1) R met ++ [boxR y', boxR x', .box [iV x.n, iV y.n]]) cb (fun _ => rfl) rfl rfl rfl rfl rfl (by rw [uobj_ren]; rfl) rfl (by rw [uobj_ren]; rfl) ?_
              refine R_run hg.ok 1000 rfl rfl ?_
              refine R_dropO 7 (urObj a b (B ++ [(x'.n, y')]) (s + 1) R met) (by show φ.length ≤ _; omega) rfl ?_ ?_
              · exact urObj_trim a b (B ++ [(x'.n, y')]) (s + 1) R met _
              exact R_next (n, R, B ++ [(x'.n, y')], met, s + 1) hN (by simp only; omega) ⟨.refl _, .refl _, .refl _, trivial⟩ rfl
          · refine R_if rfl rfl (fun h => absurd h (by simp [hkx])) (fun _ => ?_) <;> refine R_run hg.ok 1000 rfl rfl ?_
            refine R_if rfl rfl (fun h => absurd h (by simp [hkx])) (fun _ => ?_) <;> refine R_run hg.ok 1000 rfl rfl ?_
            obtain ⟨hright, hdeep⟩ := hnot hkx
            by_cases hky : y'.k = 1
            · obtain ⟨hw, hN⟩ := hright hky
              have cw := uniWithin_ok Y B hsb (by omega) y'.n x' (by omega)
              rw [hw] at cw
              have cb := uniBind_ok Y B y'.n x' (ey hky) (by omega)
              refine R_if rfl rfl (fun _ => ?_) (fun h => absurd h (by simp [hky])) <;> refine R_run hg.ok 1000 rfl rfl ?_
              refine R_load4 hg.ok (by show φ.length ≤ 8; omega) rfl rfl rfl rfl rfl rfl rfl ?_
              refine R_run hg.ok 1000 rfl rfl ?_
              refine R_callSO hg.ok hg.gup hg.wide hg.Y [0, 1, 2] (urObj a b B (s + 1) R met ++ [boxR y', boxR x', .box [iV x.n, iV y.n]]) cw (fun _ => rfl) rfl rfl rfl rfl rfl (by rw [uobj_ren]; rfl) rfl (by rw [uobj_ren]; rfl) ?_
              refine R_run hg.ok 1000 rfl rfl ?_
              refine R_if rfl rfl (fun h => absurd h (by simp)) (fun _ => ?_) <;> refine R_run hg.ok 1000 rfl rfl ?_
              refine R_load4 hg.ok (by show φ.length ≤ 8; omega) rfl rfl rfl rfl rfl rfl rfl ?_
              refine R_run hg.ok 1000 rfl rfl ?_
              refine R_callSO hg.ok hg.gup hg.wide hg.Y [0, 1, 2] (urObj a b (B ++ [(y'.n, x')]) (s + 1) R met ++ [boxR y', boxR x', .box [iV x.n, iV y.n]]) cb (fun _ => rfl) rfl rfl rfl rfl rfl (by rw [uobj_ren]; rfl) rfl (by rw [uobj_ren]; rfl) ?_
              refine R_run hg.ok 1000 rfl rfl ?_
              refine R_dropO 7 (urObj a b (B ++ [(y'.n, x')]) (s + 1) R met) (by show φ.length ≤ _; omega) rfl ?_ ?_
              · exact urObj_trim a b (B ++ [(y'.n, x')]) (s + 1) R met _
              exact R_next (n, R, B ++ [(y'.n, x')], met, s + 1) hN (by simp only; omega) ⟨.refl _, .refl _, .refl _, trivial⟩ rfl
            · obtain ⟨g1, g2, g3, g4, hN⟩ := hdeep hky
              have hzl : (x'.l.zip y'.l).length = x'.l.length := by rw [List.length_zip]; omega
              have hN2 := Tm.sumS_len σ (R ++ x'.l.zip y'.l)
              have hN3 := hN.sum
              have hN4 := hN.few
              have hRz : (R ++ x'.l.zip y'.l).length = R.length + x'.l.length := by rw [List.length_append, hzl]
              refine R_if rfl rfl (fun h => absurd h (by simp [hky])) (fun _ => ?_) <;> refine R_run hg.ok 1000 rfl rfl ?_
              refine R_if rfl rfl (fun h => absurd h (by simp [g1])) (fun _ => ?_) <;> refine R_run hg.ok 1000 rfl rfl ?_
              refine R_if rfl rfl (fun h => absurd h (by simp [g3])) (fun _ => ?_) <;> refine R_run hg.ok 1000 rfl rfl ?_
              refine R_if rfl rfl (fun h => absurd h (by simp [g2, strEq])) (fun _ => ?_) <;> refine R_run hg.ok 1000 rfl rfl ?_
              refine R_if rfl rfl (fun h => absurd h (by simp [Tm.rows_length, g4])) (fun _ => ?_) <;> refine R_run hg.ok 1000 rfl rfl ?_
              refine R_loop (fun k : Nat => ([(0, .lo 0 0), (7, .ow 5 (s + 1 + k)), (8, .mp 6), (10, .lo 7 0), (66, .d (.sl (Tm.rows x'.l))), (67, iV x'.l.length), (68, iV k)], urObj a b B (s + 1 + k) (R ++ (x'.l.zip y'.l).take k) met ++ [boxR y', boxR x', .box [iV x.n, iV y.n]])) (fun k => k ≤ x'.l.length) (fun k => x'.l.length - k) 0 (Nat.zero_le _) ⟨.refl _, .refl _, .refl _, .refl _, .refl _, Ent.int (by rw [Tm.rows_length]), .refl _, trivial⟩ (by simp only [List.take_zero, List.append_nil]; rfl) ?_
              rintro k hk
              refine R_run hg.ok 1000 rfl rfl ?_
              refine R_if rfl rfl (fun h => ?_) (fun h => ?_) <;> refine R_run hg.ok 1000 rfl rfl ?_
              · have hk1 : k < x'.l.length := lt_dec h rfl
                have e1 : x'.l[k]? = some x'.l[k] := List.getElem?_eq_getElem hk1
                have e2 : y'.l[k]? = some (y'.l[k]'(by omega)) := List.getElem?_eq_getElem (by omega)
                have e3 : (x'.l.zip y'.l)[k]? = some (x'.l[k], y'.l[k]'(by omega)) := by rw [List.getElem?_zip_eq_some]; exact ⟨e1, e2⟩
                generalize x'.l[k] = xk at e1 e3
                generalize (y'.l[k]'(by omega)) = yk at e2 e3
                have hz1 : R ++ (x'.l.zip y'.l).take (k + 1) = (R ++ (x'.l.zip y'.l).take k) ++ [(xk, yk)] := by rw [List.take_add_one, e3, List.append_assoc]; rfl
                have hz2 : (R ++ (x'.l.zip y'.l).take k).length = R.length + k := by rw [List.length_append, List.length_take]; omega
                refine R_index hg.ok rfl rfl rfl rfl rfl rfl (Int.natCast_nonneg _) (Tm.rows_get e1) rfl ?_
                refine R_run hg.ok 1000 rfl rfl ?_
                refine R_index hg.ok rfl rfl rfl rfl rfl rfl (Int.natCast_nonneg _) (Tm.rows_get e2) rfl ?_
                refine R_run hg.ok 1000 rfl rfl ?_
                refine R_buildA hg.ok _ rfl rfl rfl rfl rfl rfl rfl rfl ?_
                refine R_run hg.ok 1000 rfl rfl ?_
                refine R_buildF hg.ok (.fs [[.v (.int .i64 xk.k), .v (.string xk.s), .v (.int .i64 xk.n), .sl (Tm.rows xk.l), .v (.int .i64 yk.k), .v (.string yk.s), .v (.int .i64 yk.n), .sl (Tm.rows yk.l)]]) rfl rfl (buildS_one rfl rfl rfl rfl (by decide)) ?_
                refine R_run hg.ok 1000 rfl rfl ?_
                refine R_appendO hg.ok (prsRows (R ++ (x'.l.zip y'.l).take (k + 1))) rfl rfl rfl rfl rfl rfl rfl rfl rfl (by simp) (by simp [one1]) (by rw [hz1]; exact prs_snoc2 _ xk yk) (by rw [prsRows_len, hz2]; simp; omega) (by rw [prsRows_len, hz2]; simp; omega) ?_
                refine R_run hg.ok 1000 rfl rfl ?_
                refine R_dropO 10 (urObj a b B (s + 1 + (k + 1)) (R ++ (x'.l.zip y'.l).take (k + 1)) met ++ [boxR y', boxR x', .box [iV x.n, iV y.n]]) (by show φ.length ≤ _; omega) rfl ?_ ?_
                · exact urObj_trim3 a b B (s + 1 + (k + 1)) (R ++ (x'.l.zip y'.l).take (k + 1)) met _ _ x.n y.n _
                exact R_next (k + 1) hk1 (by omega) ⟨.refl _, .refl _, .refl _, .refl _, .refl _, .refl _, Ent.wrap (by omega) (by omega) (by omega), trivial⟩ rfl
              · have hk1 : x'.l.length ≤ k := ge_dec h rfl
                rw [List.take_of_length_le (by omega : (x'.l.zip y'.l).length ≤ k)]
                refine R_dropO 7 (urObj a b B (s + 1 + k) (R ++ x'.l.zip y'.l) met) (by show φ.length ≤ _; omega) rfl ?_ ?_
                · exact urObj_trim a b B (s + 1 + k) (R ++ x'.l.zip y'.l) met _
                exact R_next (n, R ++ x'.l.zip y'.l, B, met, s + 1 + k) hN (by simp only; omega) ⟨.refl _, .refl _, .refl _, trivial⟩ rfl
end Go.Proofs.Ytppghekipbnjhaa
