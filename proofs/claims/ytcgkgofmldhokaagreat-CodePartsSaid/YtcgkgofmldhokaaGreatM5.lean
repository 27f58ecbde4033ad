import Derived.Test.YtcgkgofmldhokaaGreatM4
namespace Go.Proofs.YtcgkgofmldhokaaGreat
open Go PSL Go.Proofs

set_option maxRecDepth 100000 in
theorem rdMust_ok (Y : YP) (S0 : Bs) (L : List Tk) (hL : L.length ≤ 9000) (st : RSt) (deep : Int) (mk : Bool) (s : Bs) : SCtr Tryz.prog Y 149 [.lo 0 0, .d (.v (.string (Tx s)))] (rdO S0 L st deep mk) (.tup []) (rdO S0 L (mustR L S0.length st s) deep mk) := by
 refine SCtr.of_R (pf := fun _ => .eff) tyOk mixed Tryz.func149 rfl (by kernel_rfl) (by kernel_rfl) (by simp [Tryz.ntmps149]) (by simp [rdO, robj]) fun w S φ hg => ?_
 have hk : ∀ st (o : List Ob), (rdO S0 L st deep mk).map (mapOb (sealT false 2 o 5)) = rdO S0 L st deep mk := fun st o => rdO_keep _ _ _ _ _ _ _ (Nat.le_refl _)
 have hM := rdMark_ok Y S0 L hL st deep mk s
 unfold mustR
 refine R_run hg.ok 1000 rfl rfl ?_
 cases h : isMk (peekR L st) s with
 | false =>
  rw [h] at hM
  refine R_callSO hg.ok hg.gup hg.wide hg.Y [0, 1] (rdO S0 L st deep mk) hM (fun _ => rfl) rfl rfl rfl rfl rfl (by rw [rdO_ren]; rfl) rfl (by simp only [Bool.false_eq_true, if_false]; rw [rdO_ren]; rfl) ?_
  refine R_run hg.ok 1000 rfl rfl ?_
  refine R_if rfl rfl (fun _ => ?_) (fun h => absurd h (by simp)) <;> refine R_run hg.ok 1000 rfl rfl ?_
  refine R_callSO hg.ok hg.gup hg.wide hg.Y [0, 1] (rdO S0 L (failR L S0.length st 2) deep mk) (rdFail_ok Y S0 L st deep mk 2) (fun _ => rfl) rfl rfl rfl rfl rfl (by rw [rdO_ren]; rfl) rfl (by rw [rdO_ren]; rfl) ?_
  refine R_run hg.ok 1000 rfl rfl ?_
  exact R_endS hg 2 5 (Nat.le_refl _) rfl rfl (hk (failR L S0.length st 2) _)
 | true =>
  rw [h] at hM
  refine R_callSO hg.ok hg.gup hg.wide hg.Y [0, 1] (rdO S0 L (nxR st) deep mk) hM (fun _ => rfl) rfl rfl rfl rfl rfl (by rw [rdO_ren]; rfl) rfl (by simp only [if_true]; rw [rdO_ren]; rfl) ?_
  refine R_run hg.ok 1000 rfl rfl ?_
  refine R_if rfl rfl (fun h => absurd h (by simp)) (fun _ => ?_) <;> refine R_run hg.ok 1000 rfl rfl ?_
  exact R_endS hg 2 5 (Nat.le_refl _) rfl rfl (hk (nxR st) _)
def tkO (t : Tk) : Ob := .box [.d (.v (.int .i64 t.kind)), .d (.v (.string (Tx t.text))), .d (.v (.int .i64 t.n)), .d (.v (.int .i64 t.at_)), .d (.v (.bool t.opn))]

set_option maxRecDepth 100000 in
theorem rdIn_ok (Y : YP) (S0 : Bs) (L : List Tk) (st : RSt) (deep : Int) (mk : Bool) : SCtr Tryz.prog Y 118 [.lo 0 0] (rdO S0 L st deep mk) (infA (inT (peekR L st))) (rdO S0 L st deep (if (peekR L st).kind ≠ 1 ∧ ((peekR L st).kind ≠ 4 ∨ (peekR L st).text ≠ [44]) then mk else true)) := by
 by_cases hc : (peekR L st).kind ≠ 1 ∧ ((peekR L st).kind ≠ 4 ∨ (peekR L st).text ≠ [44])
 ·rw [if_pos hc]
  rw [show inT (peekR L st) = none by unfold inT; rw [if_pos hc]]
  refine SCtr.of_R (pf := fun _ => .eff) tyOk mixed Tryz.func118 rfl (by kernel_rfl) (by kernel_rfl) (by simp [Tryz.ntmps118]) (by simp [rdO, robj]) fun w S φ hg => ?_
  have hk : ∀ (o : List Ob), (rdO S0 L st deep mk).map (mapOb (sealT false 2 o 5)) = rdO S0 L st deep mk := fun o => rdO_keep _ _ _ _ _ _ _ (Nat.le_refl _)
  refine R_run hg.ok 1000 rfl rfl ?_
  refine R_callSO hg.ok hg.gup hg.wide hg.Y [0, 1] (rdO S0 L st deep mk ++ [.box [iV 0, iV 0, iV 0]]) (rdPeek_ok Y S0 L st deep mk) (fun _ => rfl) rfl rfl rfl rfl rfl (by rw [rdO_ren]; rfl) rfl (by rw [rdO_ren]; rfl) ?_
  refine R_run hg.ok 1000 rfl rfl ?_
  refine R_if rfl rfl (fun _ => ?_) (fun h => absurd h (by simp [hc.1])) <;> refine R_run hg.ok 1000 rfl rfl ?_
  refine R_if rfl rfl (fun h => ?_) (fun h => ?_) <;> refine R_run hg.ok 1000 rfl rfl ?_
  ·exact R_retS hg 2 5 (Nat.le_refl _) rfl rfl (hk _)
  ·have h4 : (peekR L st).kind = 4 := by simpa using h
   have h5 : (peekR L st).text ≠ [44] := hc.2.resolve_left (fun e => e h4)
   refine R_if rfl rfl (fun _ => ?_) (fun h => absurd h (by rw [show (⟨#[44]⟩ : ByteArray) = Tx [44] from rfl, Tx_eq]; simpa using h5)) <;> refine R_run hg.ok 1000 rfl rfl ?_
   exact R_retS hg 2 5 (Nat.le_refl _) rfl rfl (hk _)
 ·rw [if_neg hc]
  rw [show inT (peekR L st) = infT (peekR L st).text by unfold inT; rw [if_neg hc]]
  have hI := infix_ok Y S0 L st deep mk (peekR L st).text
  refine SCtr.of_R (pf := fun _ => .eff) tyOk mixed Tryz.func118 rfl (by kernel_rfl) (by kernel_rfl) (by simp [Tryz.ntmps118]) (by simp [rdO, robj]) fun w S φ hg => ?_
  have hk : ∀ (o : List Ob), (rdO S0 L st deep true).map (mapOb (sealT false 2 o 5)) = rdO S0 L st deep true := fun o => rdO_keep _ _ _ _ _ _ _ (Nat.le_refl _)
  refine R_run hg.ok 1000 rfl rfl ?_
  refine R_callSO hg.ok hg.gup hg.wide hg.Y [0, 1] (rdO S0 L st deep mk ++ [.box [iV 0, iV 0, iV 0]]) (rdPeek_ok Y S0 L st deep mk) (fun _ => rfl) rfl rfl rfl rfl rfl (by rw [rdO_ren]; rfl) rfl (by rw [rdO_ren]; rfl) ?_
  refine R_run hg.ok 1000 rfl rfl ?_
  generalize peekR L st = t at hc hI
  by_cases h1 : t.kind = 1
  ·refine R_if rfl rfl (fun h => absurd h (by simp [h1])) (fun _ => ?_) <;> refine R_run hg.ok 1000 rfl rfl ?_
   refine R_callSO hg.ok hg.gup hg.wide hg.Y [0, 1] (rdO S0 L st deep true ++ [.box [iV 0, iV 0, iV 0], tkO t]) hI (fun _ => rfl) rfl rfl rfl rfl rfl (by rw [rdO_ren]; rfl) rfl (by rw [rdO_ren]; rfl) ?_
   cases infT t.text with
   | none => refine R_run hg.ok 1000 rfl rfl ?_; exact R_retS hg 2 5 (Nat.le_refl _) rfl rfl (hk _)
   | some x => refine R_run hg.ok 1000 rfl rfl ?_; exact R_retS hg 2 5 (Nat.le_refl _) rfl rfl (hk _)
  ·have h4 : t.kind = 4 := Classical.byContradiction fun h4 => hc ⟨h1, .inl h4⟩
   have h5 : t.text = [44] := Classical.byContradiction fun h5 => hc ⟨h1, .inr h5⟩
   refine R_if rfl rfl (fun _ => ?_) (fun h => absurd h (by simp [h1])) <;> refine R_run hg.ok 1000 rfl rfl ?_
   refine R_if rfl rfl (fun h => absurd h (by simp [h4])) (fun _ => ?_) <;> refine R_run hg.ok 1000 rfl rfl ?_
   refine R_if rfl rfl (fun h => absurd h (by rw [show (⟨#[44]⟩ : ByteArray) = Tx [44] from rfl, Tx_eq, h5]; simp)) (fun _ => ?_) <;> refine R_run hg.ok 1000 rfl rfl ?_
   refine R_callSO hg.ok hg.gup hg.wide hg.Y [0, 1] (rdO S0 L st deep true ++ [.box [iV 0, iV 0, iV 0], tkO t]) hI (fun _ => rfl) rfl rfl rfl rfl rfl (by rw [rdO_ren]; rfl) rfl (by rw [rdO_ren]; rfl) ?_
   cases infT t.text with
   | none => refine R_run hg.ok 1000 rfl rfl ?_; exact R_retS hg 2 5 (Nat.le_refl _) rfl rfl (hk _)
   | some x => refine R_run hg.ok 1000 rfl rfl ?_; exact R_retS hg 2 5 (Nat.le_refl _) rfl rfl (hk _)
end Go.Proofs.YtcgkgofmldhokaaGreat

namespace Go.Proofs.YtcgkgofmldhokaaGreat
open Go PSL Go.Proofs
def pfBeg : Nat → Cls := fun f => bif Nat.beq f 4900100009 then .turn 100 else .eff

set_option maxRecDepth 100000 in
theorem rdBegins_ok (Y : YP) (S0 : Bs) (L : List Tk) (st : RSt) (deep : Int) (mk : Bool) : SCtr Tryz.prog Y 155 [.lo 0 0] (rdO S0 L st deep mk) (bV (begR L st)) (rdO S0 L st deep (if (peekR L st).kind = 1 then true else mk)) := by
 have hP := rdPeek_ok Y S0 L st deep mk
 have hI := infix_ok Y S0 L st deep mk (peekR L st).text
 unfold begR
 generalize peekR L st = t at hP hI
 simp only
 by_cases h1 : t.kind = 1
 ·rw [if_pos h1]
  rw [show (decide (t.kind = 3) || decide (t.kind = 2) || (decide (t.kind = 4) && (t.text == [40] || t.text == [91])) || (decide (t.kind = 1) && (infT t.text).isNone)) = (infT t.text).isNone by simp [h1]]
  refine SCtr.of_R (pf := pfBeg) tyOk mixed Tryz.func155 rfl (by kernel_rfl) (by kernel_rfl) (by simp [Tryz.ntmps155]) (by simp [rdO, robj]) fun w S φ hg => ?_
  have hk : ∀ (o : List Ob), (rdO S0 L st deep true).map (mapOb (sealT false 2 o 5)) = rdO S0 L st deep true := fun o => rdO_keep _ _ _ _ _ _ _ (Nat.le_refl _)
  refine R_run hg.ok 1000 rfl rfl ?_
  refine R_callSO hg.ok hg.gup hg.wide hg.Y [0, 1] (rdO S0 L st deep mk) hP (fun _ => rfl) rfl rfl rfl rfl rfl (by rw [rdO_ren]; rfl) rfl (by rw [rdO_ren]; rfl) ?_
  refine R_run hg.ok 1000 rfl rfl ?_
  refine R_if rfl rfl (fun h => absurd h (by simp [h1])) (fun _ => ?_) <;> refine R_run hg.ok 1000 rfl rfl ?_
  refine R_if rfl rfl (fun h => absurd h (by simp [h1])) (fun _ => ?_) <;> refine R_run hg.ok 1000 rfl rfl ?_
  refine R_if rfl rfl (fun h => absurd h (by simp [h1])) (fun _ => ?_) <;> refine R_run hg.ok 1000 rfl rfl ?_
  refine R_if rfl rfl (fun _ => ?_) (fun h => absurd h (by simp [h1])) <;> refine R_run hg.ok 1000 rfl rfl ?_
  refine R_pair3 hg.ok 5 9 (by kernel_rfl) (by kernel_rfl) ?_ ?_
  ·refine R_run hg.ok 1000 rfl rfl ?_
   refine R_callSO hg.ok hg.gup hg.wide hg.Y [0, 1] (rdO S0 L st deep true ++ [tkO t]) hI (fun _ => rfl) rfl rfl rfl rfl rfl (by rw [rdO_ren]; rfl) rfl (by rw [rdO_ren]; rfl) ?_
   cases infT t.text with
   | none => refine R_run hg.ok 1000 rfl rfl ?_; exact R_retS hg 2 5 (Nat.le_refl _) rfl rfl (hk _)
   | some x => refine R_run hg.ok 1000 rfl rfl ?_; exact R_retS hg 2 5 (Nat.le_refl _) rfl rfl (hk _)
  ·refine R_run hg.ok 1000 rfl rfl ?_
   refine R_callSO hg.ok hg.gup hg.wide hg.Y [0, 1] (rdO S0 L st deep true ++ [tkO t, .box [iV 0, iV 0, iV 0]]) hI (fun _ => rfl) rfl rfl rfl rfl rfl (by rw [rdO_ren]; rfl) rfl (by rw [rdO_ren]; rfl) ?_
   cases infT t.text with
   | none => refine R_run hg.ok 1000 rfl rfl ?_; exact R_retS hg 2 5 (Nat.le_refl _) rfl rfl (hk _)
   | some x => refine R_run hg.ok 1000 rfl rfl ?_; exact R_retS hg 2 5 (Nat.le_refl _) rfl rfl (hk _)
 ·rw [if_neg h1]
  refine SCtr.of_R (pf := pfBeg) tyOk mixed Tryz.func155 rfl (by kernel_rfl) (by kernel_rfl) (by simp [Tryz.ntmps155]) (by simp [rdO, robj]) fun w S φ hg => ?_
  have hk : ∀ (o : List Ob), (rdO S0 L st deep mk).map (mapOb (sealT false 2 o 5)) = rdO S0 L st deep mk := fun o => rdO_keep _ _ _ _ _ _ _ (Nat.le_refl _)
  refine R_run hg.ok 1000 rfl rfl ?_
  refine R_callSO hg.ok hg.gup hg.wide hg.Y [0, 1] (rdO S0 L st deep mk) hP (fun _ => rfl) rfl rfl rfl rfl rfl (by rw [rdO_ren]; rfl) rfl (by rw [rdO_ren]; rfl) ?_
  refine R_run hg.ok 1000 rfl rfl ?_
  by_cases h3 : t.kind = 3
  ·rw [show (decide (t.kind = 3) || decide (t.kind = 2) || (decide (t.kind = 4) && (t.text == [40] || t.text == [91])) || (decide (t.kind = 1) && (infT t.text).isNone)) = true by simp [h3]]
   refine R_if rfl rfl (fun _ => ?_) (fun h => absurd h (by simp [h3])) <;> refine R_run hg.ok 1000 rfl rfl ?_
   exact R_retS hg 2 5 (Nat.le_refl _) rfl rfl (hk _)
  by_cases h2 : t.kind = 2
  ·rw [show (decide (t.kind = 3) || decide (t.kind = 2) || (decide (t.kind = 4) && (t.text == [40] || t.text == [91])) || (decide (t.kind = 1) && (infT t.text).isNone)) = true by simp [h2]]
   refine R_if rfl rfl (fun h => absurd h (by simp [h3])) (fun _ => ?_) <;> refine R_run hg.ok 1000 rfl rfl ?_
   refine R_if rfl rfl (fun _ => ?_) (fun h => absurd h (by simp [h2])) <;> refine R_run hg.ok 1000 rfl rfl ?_
   exact R_retS hg 2 5 (Nat.le_refl _) rfl rfl (hk _)
  refine R_if rfl rfl (fun h => absurd h (by simp [h3])) (fun _ => ?_) <;> refine R_run hg.ok 1000 rfl rfl ?_
  refine R_if rfl rfl (fun h => absurd h (by simp [h2])) (fun _ => ?_) <;> refine R_run hg.ok 1000 rfl rfl ?_
  by_cases h4 : t.kind = 4
  ·rw [show (decide (t.kind = 3) || decide (t.kind = 2) || (decide (t.kind = 4) && (t.text == [40] || t.text == [91])) || (decide (t.kind = 1) && (infT t.text).isNone)) = (t.text == [40] || t.text == [91]) by simp [h4]]
   refine R_if rfl rfl (fun _ => ?_) (fun h => absurd h (by simp [h4])) <;> refine R_run hg.ok 1000 rfl rfl ?_
   have e40 : strEq (Tx t.text) ⟨#[40]⟩ = (t.text == [40]) := Tx_eq _ _
   have e91 : strEq (Tx t.text) ⟨#[91]⟩ = (t.text == [91]) := Tx_eq _ _
   cases h40 : (t.text == [40]) with
   | true =>
    refine R_if rfl rfl (fun _ => ?_) (fun h => absurd h (by rw [e40, h40]; simp)) <;> refine R_run hg.ok 1000 rfl rfl ?_
    exact R_retS hg 2 5 (Nat.le_refl _) rfl rfl (hk _)
   | false =>
    refine R_if rfl rfl (fun h => absurd h (by rw [e40, h40]; simp)) (fun _ => ?_) <;> refine R_run hg.ok 1000 rfl rfl ?_
    rw [e91]
    exact R_retS hg 2 5 (Nat.le_refl _) rfl rfl (hk _)
  ·rw [show (decide (t.kind = 3) || decide (t.kind = 2) || (decide (t.kind = 4) && (t.text == [40] || t.text == [91])) || (decide (t.kind = 1) && (infT t.text).isNone)) = false by simp [h1, h2, h3, h4]]
   refine R_if rfl rfl (fun h => absurd h (by simp [h4])) (fun _ => ?_) <;> refine R_run hg.ok 1000 rfl rfl ?_
   refine R_if rfl rfl (fun h => absurd h (by simp [h1])) (fun _ => ?_) <;> refine R_run hg.ok 1000 rfl rfl ?_
   exact R_retS hg 2 5 (Nat.le_refl _) rfl rfl (hk _)

set_option maxRecDepth 100000 in
theorem rdPrefix_ok (s : Bs) : PCtr Tryz.prog 153 [.d (.v (.string (Tx s)))] (iV (preT s)) := by
 have e1 : strEq (Tx s) ⟨#[92, 43]⟩ = (s == [92, 43]) := Tx_eq _ _
 have e2 : strEq (Tx s) ⟨#[45]⟩ = (s == [45]) := Tx_eq _ _
 unfold preT
 refine PCtr.of_R (pf := fun _ => .still) tyOk mixed Tryz.func153 rfl (by kernel_rfl) (by kernel_rfl) (by simp [Tryz.ntmps153]) fun w S hg => ?_
 refine R_run hg.ok 1000 rfl rfl ?_
 by_cases h1 : s = [92, 43]
 ·rw [if_pos h1]
  refine R_if rfl rfl (fun _ => ?_) (fun h => absurd h (by rw [e1, h1]; simp)) <;> refine R_run hg.ok 1000 rfl rfl ?_
  refine R_ret hg 5 rfl rfl ?_
  rfl
 rw [if_neg h1]
 refine R_if rfl rfl (fun h => absurd h (by rw [e1]; simpa using h1)) (fun _ => ?_) <;> refine R_run hg.ok 1000 rfl rfl ?_
 by_cases h2 : s = [45]
 ·rw [if_pos h2]
  refine R_if rfl rfl (fun _ => ?_) (fun h => absurd h (by rw [e2, h2]; simp)) <;> refine R_run hg.ok 1000 rfl rfl ?_
  refine R_ret hg 5 rfl rfl ?_
  rfl
 rw [if_neg h2]
 refine R_if rfl rfl (fun h => absurd h (by rw [e2]; simpa using h2)) (fun _ => ?_) <;> refine R_run hg.ok 1000 rfl rfl ?_
 refine R_ret hg 5 rfl rfl ?_
 rfl
end Go.Proofs.YtcgkgofmldhokaaGreat

namespace Go.Proofs.YtcgkgofmldhokaaGreat
open Go PSL Go.Proofs

theorem rdO_snoc (S0 : Bs) (L : List Tk) (st : RSt) (deep : Int) (mk : Bool) (x : Bs) : rdO S0 L { st with names := st.names ++ [x] } deep mk = [.box [.d (.v (.string (Tx S0))), .d (.sl (tkRows L)), iV st.at_, .ow 1 (st.names.length + 1), iV deep, iV st.bad, iV st.e, .d (.v (.int .u32 (if mk then 1 else 0))), .d (.v (.int .i32 0)), .d (.v (.int .u32 0)), tblV mk], .arr 1 (st.names.length + 1) (strRows (st.names ++ [x]))] := by
 simp only [rdO, robj, List.length_append, List.length_singleton]

set_option maxRecDepth 100000 in
theorem rdVar_ok (Y : YP) (S0 : Bs) (L : List Tk) (st : RSt) (hn : st.names.length ≤ 20000) (deep : Int) (mk : Bool) (s : Bs) : SCtr Tryz.prog Y 146 [.lo 0 0, .d (.v (.string (Tx s)))] (rdO S0 L st deep mk) (iV (varR st s).1) (rdO S0 L (varR st s).2 deep mk) := by
 refine SCtr.of_R (pf := fun _ => .eff) tyOk mixed Tryz.func146 rfl (by kernel_rfl) (by kernel_rfl) (by simp [Tryz.ntmps146]) (by simp [rdO, robj]) fun w S φ hg => ?_
 have hk : ∀ (st : RSt) (o : List Ob), (rdO S0 L st deep mk).map (mapOb (sealT false 2 o 5)) = rdO S0 L st deep mk := fun st o => rdO_keep _ _ _ _ _ _ _ (Nat.le_refl _)
 have hk2 : ∀ (x : Bs) (o : List Ob), ([.box [.d (.v (.string (Tx S0))), .d (.sl (tkRows L)), iV st.at_, .ow 1 (st.names.length + 1), iV deep, iV st.bad, iV st.e, .d (.v (.int .u32 (if mk then 1 else 0))), .d (.v (.int .i32 0)), .d (.v (.int .u32 0)), tblV mk], .arr 1 (st.names.length + 1) (strRows (st.names ++ [x]))] : List Ob).map (mapOb (sealT false 2 o 5)) = [.box [.d (.v (.string (Tx S0))), .d (.sl (tkRows L)), iV st.at_, .ow 1 (st.names.length + 1), iV deep, iV st.bad, iV st.e, .d (.v (.int .u32 (if mk then 1 else 0))), .d (.v (.int .i32 0)), .d (.v (.int .u32 0)), tblV mk], .arr 1 (st.names.length + 1) (strRows (st.names ++ [x]))] := fun x o => by
  have := hk { st with names := st.names ++ [x] } o
  rwa [rdO_snoc] at this
 have e95 : strEq (Tx s) ⟨#[95]⟩ = (s == [95]) := Tx_eq _ _
 refine R_run hg.ok 1000 rfl rfl ?_
 refine R_lenO hg.ok rfl rfl rfl rfl rfl (n := (st.names.length : Int)) (by rw [strRows_len]) ?_
 refine R_run hg.ok 1000 rfl rfl ?_
 refine R_cut2 (fun _ : Unit => ([(0, .lo 0 0), (1, .d (.v (.string (Tx s))))], rdO S0 L st deep mk)) (fun _ => (if s = [95] then none else idxV st.names s 0) = none) rfl ?_ ?_
 ·refine R_loop (fun k : Nat => ([(0, .lo 0 0), (1, .d (.v (.string (Tx s)))), (10, .ow 1 st.names.length), (11, iV st.names.length), (12, iV k)], rdO S0 L st deep mk)) (fun k => k ≤ st.names.length ∧ (s ≠ [95] → idxV st.names s 0 = idxV (st.names.drop k) s k)) (fun k => st.names.length - k) 0 ⟨Nat.zero_le _, fun _ => rfl⟩ ⟨.refl _, .refl _, .refl _, .refl _, .refl _, trivial⟩ rfl ?_
  rintro k ⟨hk1, hm⟩
  refine R_run hg.ok 1000 rfl rfl ?_
  refine R_if rfl rfl (fun h => ?_) (fun h => ?_) <;> refine R_run hg.ok 1000 rfl rfl ?_
  ·have hk2 : k < st.names.length := lt_dec h rfl
   have e1 : st.names[k]? = some st.names[k] := List.getElem?_eq_getElem hk2
   rw [List.drop_eq_getElem_cons hk2] at hm
   generalize st.names[k] = x at e1 hm
   refine R_indexO hg.ok rfl rfl rfl rfl rfl rfl rfl rfl rfl (Int.natCast_nonneg k) (by rw [strRows_len]; simpa using hk2) ?_
   refine R_run hg.ok 1000 rfl rfl ?_
   refine R_loadE hg.ok rfl rfl rfl rfl rfl rfl (by rw [Int.toNat_natCast]; exact strRows_get e1) rfl ?_
   refine R_run hg.ok 1000 rfl rfl ?_
   have hx : strEq (Tx x) (Tx s) = (x == s) := Tx_eq _ _
   by_cases hxs : x = s
   ·refine R_if rfl rfl (fun _ => ?_) (fun h => absurd h (by rw [hx, hxs]; simp)) <;> refine R_run hg.ok 1000 rfl rfl ?_
    by_cases h95 : s = [95]
    ·refine R_if rfl rfl (fun h => absurd h (by rw [e95, h95]; simp)) (fun _ => ?_) <;> refine R_run hg.ok 1000 rfl rfl ?_
     exact R_next (k + 1) ⟨hk2, fun h => absurd h95 h⟩ (by omega) ⟨.refl _, .refl _, .refl _, .refl _, Ent.wrap (by omega) (by omega) (by omega), trivial⟩ rfl
    ·refine R_if rfl rfl (fun _ => ?_) (fun h => absurd h (by rw [e95]; simpa using h95)) <;> refine R_run hg.ok 1000 rfl rfl ?_
     have hv : varR st s = ((k : Int), st) := by
      unfold varR
      rw [if_neg h95, hm h95, idxV, if_pos hxs]
     rw [hv]
     exact R_retS hg 2 5 (Nat.le_refl _) rfl rfl (hk st _)
   ·refine R_if rfl rfl (fun h => absurd h (by rw [hx]; simpa using hxs)) (fun _ => ?_) <;> refine R_run hg.ok 1000 rfl rfl ?_
    exact R_next (k + 1) ⟨hk2, fun h => by rw [hm h, idxV, if_neg hxs]⟩ (by omega) ⟨.refl _, .refl _, .refl _, .refl _, Ent.wrap (by omega) (by omega) (by omega), trivial⟩ rfl
  ·have hk2 : st.names.length ≤ k := ge_dec h rfl
   refine R_to () ?_ ⟨.refl _, .refl _, trivial⟩ rfl
   split
   ·rfl
   ·rename_i hs
    rw [hm hs, List.drop_eq_nil_of_le hk2]; rfl
 rintro _ hno
 refine R_run hg.ok 1000 rfl rfl ?_
 have hv : varR st s = ((st.names.length : Int), { st with names := st.names ++ [if s = [95] then [] else s] }) := by
  unfold varR
  rw [hno]
 rw [hv]
 by_cases h95 : s = [95]
 ·refine R_if rfl rfl (fun _ => ?_) (fun h => absurd h (by rw [e95, h95]; simp)) <;> refine R_run hg.ok 1000 rfl rfl ?_
  rw [if_pos h95, rdO_snoc]
  refine R_appendO hg.ok (strRows (st.names ++ [[]])) rfl rfl rfl rfl rfl rfl rfl rfl rfl (by simp) (by simp [one1]) (strRows_snoc st.names []) (by rw [strRows_len]; simp; omega) (by rw [strRows_len]; simp; omega) ?_
  refine R_run hg.ok 1000 rfl rfl ?_
  refine R_lenO hg.ok rfl rfl rfl rfl rfl (n := ((st.names.length + 1 : Nat) : Int)) (by rw [strRows_len]; simp) ?_
  refine R_run hg.ok 1000 rfl rfl ?_
  refine R_see 4 rfl (Ent.wrap (n := (st.names.length : Int)) (by omega) (by omega) (by omega)) ?_
  exact R_retS hg 2 5 (Nat.le_refl _) rfl rfl (hk2 [] _)
 ·refine R_if rfl rfl (fun h => absurd h (by rw [e95]; simpa using h95)) (fun _ => ?_) <;> refine R_run hg.ok 1000 rfl rfl ?_
  rw [if_neg h95, rdO_snoc]
  refine R_appendO hg.ok (strRows (st.names ++ [s])) rfl rfl rfl rfl rfl rfl rfl rfl rfl (by simp) (by simp [one1]) (strRows_snoc st.names s) (by rw [strRows_len]; simp; omega) (by rw [strRows_len]; simp; omega) ?_
  refine R_run hg.ok 1000 rfl rfl ?_
  refine R_lenO hg.ok rfl rfl rfl rfl rfl (n := ((st.names.length + 1 : Nat) : Int)) (by rw [strRows_len]; simp) ?_
  refine R_run hg.ok 1000 rfl rfl ?_
  refine R_see 4 rfl (Ent.wrap (n := (st.names.length : Int)) (by omega) (by omega) (by omega)) ?_
  exact R_retS hg 2 5 (Nat.le_refl _) rfl rfl (hk2 s _)
end Go.Proofs.YtcgkgofmldhokaaGreat

namespace Go.Proofs.YtcgkgofmldhokaaGreat
open Go PSL Go.Proofs

def rdX (S : Bs) (L : List Tk) (st : RSt) (deep : Int) : List Ob := rdO S L st deep st.lay
theorem rdX_keep (S : Bs) (L : List Tk) (st : RSt) (deep : Int) (n0 : Nat) (o : List Ob) (hn : 2 ≤ n0) : (rdX S L st deep).map (mapOb (sealT false n0 o 5)) = rdX S L st deep := rdO_keep _ _ _ _ _ _ _ hn
theorem rdX_ren (S : Bs) (L : List Tk) (st : RSt) (deep : Int) (n : Nat) (l : List Nat) : (rdX S L st deep).map (renOb (rn (0 :: 1 :: l) n)) = rdX S L st deep := rdO_ren _ _ _ _ _ _ _
theorem xPeek (Y : YP) (S0 : Bs) (L : List Tk) (st : RSt) (deep : Int) : SCtr Tryz.prog Y 96 [.lo 0 0] (rdX S0 L st deep) (tkA (peekR L st)) (rdX S0 L st deep) := rdPeek_ok Y S0 L st deep st.lay

theorem xFail (Y : YP) (S0 : Bs) (L : List Tk) (st : RSt) (deep c : Int) : SCtr Tryz.prog Y 97 [.lo 0 0, iV c] (rdX S0 L st deep) (.tup []) (rdX S0 L (failR L S0.length st c) deep) := by
 have := rdFail_ok Y S0 L st deep st.lay c
 unfold rdX
 rwa [show (failR L S0.length st c).lay = st.lay by unfold failR; split <;> rfl]

theorem xMark (Y : YP) (S0 : Bs) (L : List Tk) (hL : L.length ≤ 9000) (st : RSt) (deep : Int) (s : Bs) : SCtr Tryz.prog Y 148 [.lo 0 0, .d (.v (.string (Tx s)))] (rdX S0 L st deep) (bV (isMk (peekR L st) s)) (rdX S0 L (if isMk (peekR L st) s then nxR st else st) deep) := by
 have := rdMark_ok Y S0 L hL st deep st.lay s
 unfold rdX
 rwa [show (if isMk (peekR L st) s then nxR st else st).lay = st.lay by split <;> rfl]

theorem xMust (Y : YP) (S0 : Bs) (L : List Tk) (hL : L.length ≤ 9000) (st : RSt) (deep : Int) (s : Bs) : SCtr Tryz.prog Y 149 [.lo 0 0, .d (.v (.string (Tx s)))] (rdX S0 L st deep) (.tup []) (rdX S0 L (mustR L S0.length st s) deep) := by
 have := rdMust_ok Y S0 L hL st deep st.lay s
 unfold rdX
 rwa [show (mustR L S0.length st s).lay = st.lay by unfold mustR failR; split <;> first | rfl | (split <;> rfl)]

theorem xIn (Y : YP) (S0 : Bs) (L : List Tk) (st : RSt) (deep : Int) : SCtr Tryz.prog Y 118 [.lo 0 0] (rdX S0 L st deep) (infA (inT (peekR L st))) (rdX S0 L (inS L st) deep) := by
 have := rdIn_ok Y S0 L st deep st.lay
 unfold rdX inS
 split at this
 ·rename_i h; rw [if_pos h]; exact this
 ·rename_i h; rw [if_neg h]; exact this

theorem xBegins (Y : YP) (S0 : Bs) (L : List Tk) (st : RSt) (deep : Int) : SCtr Tryz.prog Y 155 [.lo 0 0] (rdX S0 L st deep) (bV (begR L st)) (rdX S0 L (begS L st) deep) := by
 have := rdBegins_ok Y S0 L st deep st.lay
 unfold rdX begS
 split at this
 ·rename_i h; rw [if_pos h]; exact this
 ·rename_i h; rw [if_neg h]; exact this

theorem xVar (Y : YP) (S0 : Bs) (L : List Tk) (st : RSt) (hn : st.names.length ≤ 20000) (deep : Int) (s : Bs) : SCtr Tryz.prog Y 146 [.lo 0 0, .d (.v (.string (Tx s)))] (rdX S0 L st deep) (iV (varR st s).1) (rdX S0 L (varR st s).2 deep) := by
 have := rdVar_ok Y S0 L st hn deep st.lay s
 unfold rdX
 rwa [(var_at s).2.2.1]

def TCtr (Y : YP) (S0 : Bs) (L : List Tk) (T : TF) : Prop := ∀ (deep : Nat) (p : Int) (st : RSt) (t : Tm) (st' : RSt), T deep p st = some (t, st') → deep ≤ 1000 → RInv L st → SCtr Tryz.prog Y 95 [.lo 0 0, iV p] (rdX S0 L st deep) t.av (rdX S0 L st' deep)
end Go.Proofs.YtcgkgofmldhokaaGreat

namespace Go.Proofs.YtcgkgofmldhokaaGreat
open Go PSL Go.Proofs
def rwT (t : Tm) : List D := [.v (.int .i64 t.k), .v (.string t.s), .v (.int .i64 t.n), .sl (Tm.rows t.l)]
theorem rwT_rows (l : List Tm) : l.map rwT = Tm.rows l := by rw [Tm.rows_eq]; rfl
theorem rwT_snoc (l : List Tm) (x : Tm) : l.map rwT ++ [rwT x] = Tm.rows (l ++ [x]) := by rw [← rwT_rows]; simp
theorem rwT_snoc2 (l : List Tm) (x : Tm) : Tm.rows l ++ [rwT x] = Tm.rows (l ++ [x]) := by rw [← rwT_rows, ← rwT_rows]; simp

def accS : Tm ⊕ List Tm × Nat → List Tm
 | .inl t => [t]
 | .inr p => p.1

def sevE (S0 : Bs) (L : List Tk) (deep : Int) (s : Bs) : (Nat × RSt × (Tm ⊕ List Tm × Nat)) → Env × List Ob
 | (_, st, .inl t) => ([(0, .lo 0 0), (1, .d (.v (.string (Tx s)))), (5, .fs [rwT t])], rdX S0 L st deep)
 | (_, st, .inr p) => ([(0, .lo 0 0), (1, .d (.v (.string (Tx s)))), (5, .ow 2 p.2)], rdX S0 L st deep ++ [.arr 4 p.2 (Tm.rows p.1)])

set_option maxRecDepth 100000 in
theorem rdSeveral_ok (Y : YP) (S0 : Bs) (L : List Tk) (hL : L.length ≤ 9000) {T : TF} (hT : TCtr Y S0 L T) (hG : TGood L T) (deep : Nat) (hd : deep ≤ 1000) (st : RSt) (hi : RInv L st) (l : List Tm) (st' : RSt) (h : rowR L T deep st = some (l, st')) (s : Bs) :
  SCtr Tryz.prog Y 154 [.lo 0 0, .d (.v (.string (Tx s)))] (rdX S0 L st deep) (.d (.sl (Tm.rows l))) (rdX S0 L (mustR L S0.length st' s) deep) := by
 obtain ⟨⟨t, st1⟩, h1, h2⟩ := Option.bind_eq_some_iff.1 h
 simp only at h2
 refine SCtr.of_R (pf := fun _ => .eff) tyOk mixed Tryz.func154 rfl (by kernel_rfl) (by kernel_rfl) (by simp [Tryz.ntmps154]) (by simp [rdX, rdO, robj]) fun w S φ hg => ?_
 have hφ : φ.length = 2 := hg.hs0.len
 have hk : ∀ (st : RSt) (o : List Ob), (rdX S0 L st deep).map (mapOb (sealT false 2 o 5)) = rdX S0 L st deep := fun st o => rdX_keep _ _ _ _ _ _ (Nat.le_refl _)
 refine R_run hg.ok 1000 rfl rfl ?_
 refine R_callSO hg.ok hg.gup hg.wide hg.Y [0, 1] (rdX S0 L st1 deep) (hT deep 999 st t st1 h1 hd hi) (fun _ => rfl) rfl rfl rfl rfl rfl (by rw [rdX_ren]; rfl) rfl (by rw [rdX_ren]; rfl) ?_
 refine R_run hg.ok 1000 rfl rfl ?_
 refine R_cut2 (fun o : Tm ⊕ List Tm × Nat => sevE S0 L deep s (0, st', o)) (fun o => accS o = l) rfl ?_ ?_
 ·refine R_loop (sevE S0 L deep s) (fun x => manyR L T x.1 deep x.2.1 (accS x.2.2) = some (l, st') ∧ RInv L x.2.1 ∧ (accS x.2.2).length + x.1 ≤ L.length + 3) (fun x => x.1) (L.length + 2, st1, .inl t) ⟨h2, hG _ _ _ _ _ h1 hi, by simp [accS]; omega⟩ ⟨.refl _, .refl _, .refl _, trivial⟩ rfl ?_
  rintro ⟨f, st2, o⟩ ⟨hm, hi2, hl⟩
  simp only at hm hi2 hl
  cases f with
  | zero => cases hm
  | succ f =>
  simp only [manyR] at hm
  have hM := xMark Y S0 L hL st2 deep [44]
  cases hmk : isMk (peekR L st2) [44] with
  | false =>
   rw [hmk] at hm hM
   simp only [Bool.false_eq_true, if_false] at hm hM
   have hm := Option.some.inj hm
   obtain ⟨ha, rfl⟩ := Prod.mk.inj hm
   cases o with
   | inl t2 =>
    refine R_run hg.ok 1000 rfl rfl ?_
    refine R_callSO hg.ok hg.gup hg.wide hg.Y [0, 1] (rdX S0 L st2 deep) hM (fun _ => rfl) rfl rfl rfl rfl rfl (by rw [rdX_ren]; rfl) rfl (by rw [rdX_ren]; rfl) ?_
    refine R_run hg.ok 1000 rfl rfl ?_
    refine R_if rfl rfl (fun h => absurd h (by simp)) (fun _ => ?_) <;> refine R_run hg.ok 1000 rfl rfl ?_
    exact R_to (.inl t2) ha ⟨.refl _, .refl _, .refl _, trivial⟩ rfl
   | inr p =>
    refine R_run hg.ok 1000 rfl rfl ?_
    refine R_callSO hg.ok hg.gup hg.wide hg.Y [0, 1] (rdX S0 L st2 deep ++ [.arr 4 p.2 (Tm.rows p.1)]) hM (fun _ => rfl) rfl rfl rfl rfl rfl (by rw [rdX_ren]; rfl) rfl (by rw [rdX_ren]; rfl) ?_
    refine R_run hg.ok 1000 rfl rfl ?_
    refine R_if rfl rfl (fun h => absurd h (by simp)) (fun _ => ?_) <;> refine R_run hg.ok 1000 rfl rfl ?_
    exact R_to (.inr p) ha ⟨.refl _, .refl _, .refl _, trivial⟩ rfl
  | true =>
   rw [hmk] at hm hM
   simp only [if_true] at hm hM
   obtain ⟨⟨x, st3⟩, hx, hm⟩ := Option.bind_eq_some_iff.1 hm
   have hi3 := hi2.nx (isMk_lt hmk).2
   have hc := hT deep 999 (nxR st2) x st3 hx hd hi3
   have hi4 := hG _ _ _ _ _ hx hi3
   cases o with
   | inl t2 =>
    refine R_run hg.ok 1000 rfl rfl ?_
    refine R_callSO hg.ok hg.gup hg.wide hg.Y [0, 1] (rdX S0 L (nxR st2) deep) hM (fun _ => rfl) rfl rfl rfl rfl rfl (by rw [rdX_ren]; rfl) rfl (by rw [rdX_ren]; rfl) ?_
    refine R_run hg.ok 1000 rfl rfl ?_
    refine R_if rfl rfl (fun _ => ?_) (fun h => absurd h (by simp)) <;> refine R_run hg.ok 1000 rfl rfl ?_
    refine R_callSO hg.ok hg.gup hg.wide hg.Y [0, 1] (rdX S0 L st3 deep) hc (fun _ => rfl) rfl rfl rfl rfl rfl (by rw [rdX_ren]; rfl) rfl (by rw [rdX_ren]; rfl) ?_
    refine R_run hg.ok 1000 rfl rfl ?_
    refine R_appendF hg.ok rfl rfl (.inl rfl) rfl (.inr (by simp)) rfl rfl rfl (by simp [rwT]) (by simp) (by simp) (by simp) ?_
    refine R_run hg.ok 1000 rfl rfl ?_
    exact R_next (f, st3, .inr ([t2] ++ [x], 0)) ⟨hm, hi4, by simp [accS] at hl ⊢; omega⟩ (by simp only; omega) ⟨.refl _, .refl _, .refl _, trivial⟩ (congrArg (fun r => rdX S0 L st3 deep ++ [Ob.arr 4 0 r]) (rwT_snoc [t2] x))
   | inr p =>
    refine R_run hg.ok 1000 rfl rfl ?_
    refine R_callSO hg.ok hg.gup hg.wide hg.Y [0, 1] (rdX S0 L (nxR st2) deep ++ [.arr 4 p.2 (Tm.rows p.1)]) hM (fun _ => rfl) rfl rfl rfl rfl rfl (by rw [rdX_ren]; rfl) rfl (by rw [rdX_ren]; rfl) ?_
    refine R_run hg.ok 1000 rfl rfl ?_
    refine R_if rfl rfl (fun _ => ?_) (fun h => absurd h (by simp)) <;> refine R_run hg.ok 1000 rfl rfl ?_
    refine R_callSO hg.ok hg.gup hg.wide hg.Y [0, 1] (rdX S0 L st3 deep ++ [.arr 4 p.2 (Tm.rows p.1)]) hc (fun _ => rfl) rfl rfl rfl rfl rfl (by rw [rdX_ren]; rfl) rfl (by rw [rdX_ren]; rfl) ?_
    refine R_run hg.ok 1000 rfl rfl ?_
    have hpl : (Tm.rows p.1).length = p.1.length := Tm.rows_length _
    simp only [accS] at hl
    refine R_appendO hg.ok (Tm.rows (p.1 ++ [x])) rfl rfl rfl rfl rfl rfl rfl rfl rfl (by simp) (by simp [one1]) (rwT_snoc2 p.1 x) (by simp; omega) (by simp; omega) ?_
    refine R_run hg.ok 1000 rfl rfl ?_
    exact R_next (f, st3, .inr (p.1 ++ [x], p.2 + 1)) ⟨hm, hi4, by simp [accS]; omega⟩ (by simp only; omega) ⟨.refl _, .refl _, .refl _, trivial⟩ rfl
 rintro o ho
 cases o with
 | inl t2 =>
  refine R_run hg.ok 1000 rfl rfl ?_
  refine R_callSO hg.ok hg.gup hg.wide hg.Y [0, 1] (rdX S0 L (mustR L S0.length st' s) deep) (xMust Y S0 L hL st' deep s) (fun _ => rfl) rfl rfl rfl rfl rfl (by rw [rdX_ren]; rfl) rfl (by rw [rdX_ren]; rfl) ?_
  refine R_run hg.ok 1000 rfl rfl ?_
  have hr : Tm.rows l = [rwT t2] := by rw [← ho, ← rwT_rows]; rfl
  rw [hr]
  exact R_retS hg 2 5 (Nat.le_refl _) rfl rfl (hk _ _)
 | inr p =>
  obtain rfl : p.1 = l := ho
  refine R_run hg.ok 1000 rfl rfl ?_
  refine R_callSO hg.ok hg.gup hg.wide hg.Y [0, 1] (rdX S0 L (mustR L S0.length st' s) deep ++ [.arr 4 p.2 (Tm.rows p.1)]) (xMust Y S0 L hL st' deep s) (fun _ => rfl) rfl rfl rfl rfl rfl (by rw [rdX_ren]; rfl) rfl (by rw [rdX_ren]; rfl) ?_
  refine R_run hg.ok 1000 rfl rfl ?_
  exact R_retS hg 2 5 (Nat.le_refl _) rfl (sealT_ow rfl rfl) (hk _ _)
end Go.Proofs.YtcgkgofmldhokaaGreat

namespace Go.Proofs.YtcgkgofmldhokaaGreat
open Go PSL Go.Proofs

def bxT (t : Tm) : Ob := .box [.d (.v (.int .i64 t.k)), .d (.v (.string t.s)), .d (.v (.int .i64 t.n)), .d (.sl (Tm.rows t.l))]
def bxN : Ob := .box [.d (.v (.int .i64 3)), .d (.v (.string ⟨#[91, 93]⟩)), .d (.v (.int .i64 0)), .d (.v (.slice none 0 0))]
def boxZ : Ob := .box [.d (.v (.int .i64 0)), .d (.v (.string ByteArray.empty)), .d (.v (.int .i64 0)), .d (.v (.slice none 0 0))]
theorem Ent.tblFrz (i s : Nat) (rows : List (List D)) (b : Bool) : Ent (frzA i s rows (tblV b)) (tblV b) := by cases b <;> exact .refl _
theorem bxT_fn (s : Bs) (l : List Tm) : bxT (fnT s l) = .box [.d (.v (.int .i64 3)), .d (.v (.string (Tx s))), .d (.v (.int .i64 0)), .d (.sl (Tm.rows l))] := rfl

def lstE (S0 : Bs) (L : List Tk) (deep : Int) : (Nat × RSt × (Tm ⊕ List Tm × Nat)) → Env × List Ob
 | (_, st, .inl t) => ([(0, .lo 0 0), (2, .lo 2 0), (3, .fs [rwT t])], rdX S0 L st deep ++ [boxZ])
 | (_, st, .inr p) => ([(0, .lo 0 0), (2, .lo 2 0), (3, .ow 3 p.2)], rdX S0 L st deep ++ [boxZ, .arr 4 p.2 (Tm.rows p.1)])

set_option maxRecDepth 100000 in
theorem rdList_ok (Y : YP) (S0 : Bs) (L : List Tk) (hL : L.length ≤ 9000) {T : TF} (hT : TCtr Y S0 L T) (hG : TGood L T) (deep : Nat) (hd : deep ≤ 1000) (st : RSt) (hi : RInv L st) (t : Tm) (st' : RSt) (h : listR S0 L T deep st = some (t, st')) :
  SCtr Tryz.prog Y 150 [.lo 0 0] (rdX S0 L st deep) t.av (rdX S0 L st' deep) := by
 obtain ⟨⟨l, st1⟩, h0, h2⟩ := Option.bind_eq_some_iff.1 h
 obtain ⟨⟨t0, st0⟩, h1, h3⟩ := Option.bind_eq_some_iff.1 h0
 simp only at h2 h3
 refine SCtr.of_R (pf := fun _ => .eff) tyOk mixed Tryz.func150 rfl (by kernel_rfl) (by kernel_rfl) (by simp [Tryz.ntmps150]) (by simp [rdX, rdO, robj]) fun w S φ hg => ?_
 have hk : ∀ (st : RSt) (o : List Ob), (rdX S0 L st deep).map (mapOb (sealT false 2 o 5)) = rdX S0 L st deep := fun st o => rdX_keep _ _ _ _ _ _ (Nat.le_refl _)
 refine R_run hg.ok 1000 rfl rfl ?_
 refine R_callSO hg.ok hg.gup hg.wide hg.Y [0, 1] (rdX S0 L st0 deep ++ [boxZ]) (hT deep 999 st t0 st0 h1 hd hi) (fun _ => rfl) rfl rfl rfl rfl rfl (by rw [rdX_ren]; rfl) rfl (by rw [rdX_ren]; rfl) ?_
 refine R_run hg.ok 1000 rfl rfl ?_
 refine R_cut2 (fun o : Tm ⊕ List Tm × Nat => lstE S0 L deep (0, st1, o)) (fun o => accS o = l ∧ RInv L st1 ∧ l.length ≤ L.length + 3) rfl ?_ ?_
 ·refine R_loop (lstE S0 L deep) (fun x => manyR L T x.1 deep x.2.1 (accS x.2.2) = some (l, st1) ∧ RInv L x.2.1 ∧ (accS x.2.2).length + x.1 ≤ L.length + 3) (fun x => x.1) (L.length + 2, st0, .inl t0) ⟨h3, hG _ _ _ _ _ h1 hi, by simp [accS]; omega⟩ ⟨.refl _, .refl _, .refl _, trivial⟩ rfl ?_
  rintro ⟨f, st2, o⟩ ⟨hm, hi2, hl⟩
  simp only at hm hi2 hl
  cases f with
  | zero => cases hm
  | succ f =>
  simp only [manyR] at hm
  have hM := xMark Y S0 L hL st2 deep [44]
  cases hmk : isMk (peekR L st2) [44] with
  | false =>
   rw [hmk] at hm hM
   simp only [Bool.false_eq_true, if_false] at hm hM
   have hm := Option.some.inj hm
   obtain ⟨ha, rfl⟩ := Prod.mk.inj hm
   have hll : l.length ≤ L.length + 3 := by rw [← ha]; omega
   cases o with
   | inl t2 =>
    refine R_run hg.ok 1000 rfl rfl ?_
    refine R_callSO hg.ok hg.gup hg.wide hg.Y [0, 1] (rdX S0 L st2 deep ++ [boxZ]) (hM) (fun _ => rfl) rfl rfl rfl rfl rfl (by rw [rdX_ren]; rfl) rfl (by rw [rdX_ren]; rfl) ?_
    refine R_run hg.ok 1000 rfl rfl ?_
    refine R_if rfl rfl (fun h => absurd h (by simp)) (fun _ => ?_) <;> refine R_run hg.ok 1000 rfl rfl ?_
    exact R_to (.inl t2) ⟨ha, hi2, hll⟩ ⟨.refl _, .refl _, .refl _, trivial⟩ rfl
   | inr p =>
    refine R_run hg.ok 1000 rfl rfl ?_
    refine R_callSO hg.ok hg.gup hg.wide hg.Y [0, 1] (rdX S0 L st2 deep ++ [boxZ, .arr 4 p.2 (Tm.rows p.1)]) (hM) (fun _ => rfl) rfl rfl rfl rfl rfl (by rw [rdX_ren]; rfl) rfl (by rw [rdX_ren]; rfl) ?_
    refine R_run hg.ok 1000 rfl rfl ?_
    refine R_if rfl rfl (fun h => absurd h (by simp)) (fun _ => ?_) <;> refine R_run hg.ok 1000 rfl rfl ?_
    exact R_to (.inr p) ⟨ha, hi2, hll⟩ ⟨.refl _, .refl _, .refl _, trivial⟩ rfl
  | true =>
   rw [hmk] at hm hM
   simp only [if_true] at hm hM
   obtain ⟨⟨x, st3⟩, hx, hm⟩ := Option.bind_eq_some_iff.1 hm
   have hi3 := hi2.nx (isMk_lt hmk).2
   have hc := hT deep 999 (nxR st2) x st3 hx hd hi3
   have hi4 := hG _ _ _ _ _ hx hi3
   cases o with
   | inl t2 =>
    refine R_run hg.ok 1000 rfl rfl ?_
    refine R_callSO hg.ok hg.gup hg.wide hg.Y [0, 1] (rdX S0 L (nxR st2) deep ++ [boxZ]) (hM) (fun _ => rfl) rfl rfl rfl rfl rfl (by rw [rdX_ren]; rfl) rfl (by rw [rdX_ren]; rfl) ?_
    refine R_run hg.ok 1000 rfl rfl ?_
    refine R_if rfl rfl (fun _ => ?_) (fun h => absurd h (by simp)) <;> refine R_run hg.ok 1000 rfl rfl ?_
    refine R_callSO hg.ok hg.gup hg.wide hg.Y [0, 1] (rdX S0 L st3 deep ++ [boxZ]) (hc) (fun _ => rfl) rfl rfl rfl rfl rfl (by rw [rdX_ren]; rfl) rfl (by rw [rdX_ren]; rfl) ?_
    refine R_run hg.ok 1000 rfl rfl ?_
    refine R_appendF hg.ok rfl rfl (.inl rfl) rfl (.inr (by simp)) rfl rfl rfl (by simp [rwT]) (by simp) (by simp) (by simp) ?_
    refine R_run hg.ok 1000 rfl rfl ?_
    exact R_next (f, st3, .inr ([t2] ++ [x], 0)) ⟨hm, hi4, by simp [accS] at hl ⊢; omega⟩ (by simp only; omega) ⟨.refl _, .refl _, .refl _, trivial⟩ (congrArg (fun r => rdX S0 L st3 deep ++ [boxZ, Ob.arr 4 0 r]) (rwT_snoc [t2] x))
   | inr p =>
    refine R_run hg.ok 1000 rfl rfl ?_
    refine R_callSO hg.ok hg.gup hg.wide hg.Y [0, 1] (rdX S0 L (nxR st2) deep ++ [boxZ, .arr 4 p.2 (Tm.rows p.1)]) (hM) (fun _ => rfl) rfl rfl rfl rfl rfl (by rw [rdX_ren]; rfl) rfl (by rw [rdX_ren]; rfl) ?_
    refine R_run hg.ok 1000 rfl rfl ?_
    refine R_if rfl rfl (fun _ => ?_) (fun h => absurd h (by simp)) <;> refine R_run hg.ok 1000 rfl rfl ?_
    refine R_callSO hg.ok hg.gup hg.wide hg.Y [0, 1] (rdX S0 L st3 deep ++ [boxZ, .arr 4 p.2 (Tm.rows p.1)]) (hc) (fun _ => rfl) rfl rfl rfl rfl rfl (by rw [rdX_ren]; rfl) rfl (by rw [rdX_ren]; rfl) ?_
    refine R_run hg.ok 1000 rfl rfl ?_
    have hpl : (Tm.rows p.1).length = p.1.length := Tm.rows_length _
    simp only [accS] at hl
    refine R_appendO hg.ok (Tm.rows (p.1 ++ [x])) rfl rfl rfl rfl rfl rfl rfl rfl rfl (by simp) (by simp [one1]) (rwT_snoc2 p.1 x) (by simp; omega) (by simp; omega) ?_
    refine R_run hg.ok 1000 rfl rfl ?_
    exact R_next (f, st3, .inr (p.1 ++ [x], p.2 + 1)) ⟨hm, hi4, by simp [accS]; omega⟩ (by simp only; omega) ⟨.refl _, .refl _, .refl _, trivial⟩ rfl
 rintro o ⟨ho, hi1, hll⟩
 cases o with
 | inl t2 =>
  have hr : Tm.rows l = [rwT t2] := by rw [← ho, ← rwT_rows]; rfl
  refine R_see 3 rfl (v' := .d (.sl (Tm.rows l))) (by rw [hr]; exact Ent.fs _) ?_
  have hM := xMark Y S0 L hL st1 deep [124]
  cases hmk : isMk (peekR L st1) [124] with
  | true =>
   rw [hmk] at h2 hM
   simp only [if_true] at h2 hM
   refine R_run hg.ok 1000 rfl rfl ?_
   refine R_callSO hg.ok hg.gup hg.wide hg.Y [0, 1] (rdX S0 L (nxR st1) deep ++ [boxZ, bxN]) (hM) (fun _ => rfl) rfl rfl rfl rfl rfl (by rw [rdX_ren]; rfl) rfl (by rw [rdX_ren]; rfl) ?_
   refine R_run hg.ok 1000 rfl rfl ?_
   obtain ⟨⟨y, st2⟩, hy, h2⟩ := Option.map_eq_some_iff.1 h2
   obtain ⟨rfl, rfl⟩ := Prod.mk.inj h2
   have hi2 := hi1.nx (isMk_lt hmk).2
   refine R_if rfl rfl (fun _ => ?_) (fun h => absurd h (by simp)) <;> refine R_run hg.ok 1000 rfl rfl ?_
   refine R_callSO hg.ok hg.gup hg.wide hg.Y [0, 1] (rdX S0 L (st2) deep ++ [boxZ, bxN]) (hT deep 999 (nxR st1) y st2 hy hd hi2) (fun _ => rfl) rfl rfl rfl rfl rfl (by rw [rdX_ren]; rfl) rfl (by rw [rdX_ren]; rfl) ?_
   refine R_run hg.ok 1000 rfl rfl ?_
   refine R_callSO hg.ok hg.gup hg.wide hg.Y [0, 1] (rdX S0 L (mustR L S0.length st2 [93]) deep ++ [boxZ, bxT (y)]) (xMust Y S0 L hL st2 deep [93]) (fun _ => rfl) rfl rfl rfl rfl rfl (by rw [rdX_ren]; rfl) rfl (by rw [rdX_ren]; rfl) ?_
   refine R_run hg.ok 1000 rfl rfl ?_
   refine R_see 5 rfl (v' := iV ((l.length : Int) - 1)) (Ent.wrap (by rw [Tm.rows_length]) (by omega) (by omega)) ?_
   refine R_cut2 (fun _ : Unit => ([(2, .lo 2 0), (4, .lo 3 0)], rdX S0 L (mustR L S0.length st2 [93]) deep ++ [boxZ, bxT (consT l (y))])) (fun _ => True) rfl ?_ ?_
   ·refine R_loop (fun n : Nat => ([(2, .lo 2 0), (3, .d (.sl (Tm.rows l))), (4, .lo 3 0), (5, iV ((n : Int) - 1))], rdX S0 L (mustR L S0.length st2 [93]) deep ++ [boxZ, bxT (consT (l.drop n) (y))])) (fun n => n ≤ l.length) (fun n => n) l.length (Nat.le_refl _) ⟨.refl _, .refl _, .refl _, .refl _, trivial⟩ (by rw [List.drop_length]; rfl) ?_
    intro n hn
    refine R_run hg.ok 1000 rfl rfl ?_
    refine R_if rfl rfl (fun h => ?_) (fun h => ?_) <;> refine R_run hg.ok 1000 rfl rfl ?_
    ·have hn0 : 0 < n := by have := of_decide_eq_true h; omega
     obtain ⟨n, rfl⟩ : ∃ m, n = m + 1 := ⟨n - 1, by omega⟩
     have hlt : n < l.length := hn
     have hdr : l.drop n = l[n] :: l.drop (n + 1) := List.drop_eq_getElem_cons hlt
     have hix : (Tm.rows l)[n]? = some (rwT l[n]) := by rw [← rwT_rows]; simp [hlt]
     generalize l[n] = a at hdr hix
     refine R_index hg.ok rfl rfl rfl rfl rfl rfl (by omega) (by rw [show (((n + 1 : Nat) : Int) - 1).toNat = n by omega]; exact hix) rfl ?_
     have hcons : consT (a :: l.drop (n + 1)) (y) = fnT [46] [a, consT (l.drop (n + 1)) (y)] := rfl
     have ha : Ob.box [.d (.v (.int .i64 3)), .d (.v (.string ⟨#[46]⟩)), .d (.v (.int .i64 0)), .d (.sl [rwT a, rwT (consT (l.drop (n + 1)) (y))])] = bxT (consT (l.drop n) (y)) := by rw [hdr, hcons, bxT_fn, ← rwT_rows]; rfl
     first
     | (refine R_run hg.ok 1 rfl rfl ?_; refine R_obs (rdX S0 L (mustR L S0.length st2 [93]) deep ++ [boxZ, .box [.d (.v (.int .i64 3)), .d (.v (.string ⟨#[46]⟩)), .d (.v (.int .i64 0)), .d (.sl [rwT a, rwT (consT (l.drop (n + 1)) (y))])]]) ⟨.refl _, .refl _, .refl _, ⟨.refl _, .refl _, .refl _, Ent.fs _, trivial⟩, trivial⟩ rfl ?_)
     | (refine R_run hg.ok 2 rfl rfl ?_; refine R_obs (rdX S0 L (mustR L S0.length st2 [93]) deep ++ [boxZ, .box [.d (.v (.int .i64 3)), .d (.v (.string ⟨#[46]⟩)), .d (.v (.int .i64 0)), .d (.sl [rwT a, rwT (consT (l.drop (n + 1)) (y))])]]) ⟨.refl _, .refl _, .refl _, ⟨.refl _, .refl _, .refl _, Ent.fs _, trivial⟩, trivial⟩ rfl ?_)
     | (refine R_run hg.ok 3 rfl rfl ?_; refine R_obs (rdX S0 L (mustR L S0.length st2 [93]) deep ++ [boxZ, .box [.d (.v (.int .i64 3)), .d (.v (.string ⟨#[46]⟩)), .d (.v (.int .i64 0)), .d (.sl [rwT a, rwT (consT (l.drop (n + 1)) (y))])]]) ⟨.refl _, .refl _, .refl _, ⟨.refl _, .refl _, .refl _, Ent.fs _, trivial⟩, trivial⟩ rfl ?_)
     | (refine R_run hg.ok 6 rfl rfl ?_; refine R_obs (rdX S0 L (mustR L S0.length st2 [93]) deep ++ [boxZ, .box [.d (.v (.int .i64 3)), .d (.v (.string ⟨#[46]⟩)), .d (.v (.int .i64 0)), .d (.sl [rwT a, rwT (consT (l.drop (n + 1)) (y))])]]) ⟨.refl _, .refl _, .refl _, ⟨.refl _, .refl _, .refl _, Ent.fs _, trivial⟩, trivial⟩ rfl ?_)
     rw [ha]
     refine R_run hg.ok 1000 rfl rfl ?_
     exact R_next n (by omega) (by omega) ⟨.refl _, .refl _, .refl _, Ent.wrap (by omega) (by omega) (by omega), trivial⟩ rfl
    ·have hn0 : n = 0 := by have := of_decide_eq_false h; omega
     subst hn0
     exact R_to () trivial ⟨.refl _, .refl _, trivial⟩ rfl
   rintro _ _
   refine R_run hg.ok 1000 rfl rfl ?_
   exact R_retS hg 2 5 (Nat.le_refl _) rfl rfl (hk _ _)
  | false =>
   rw [hmk] at h2 hM
   simp only [Bool.false_eq_true, if_false] at h2 hM
   refine R_run hg.ok 1000 rfl rfl ?_
   refine R_callSO hg.ok hg.gup hg.wide hg.Y [0, 1] (rdX S0 L (st1) deep ++ [boxZ, bxN]) (hM) (fun _ => rfl) rfl rfl rfl rfl rfl (by rw [rdX_ren]; rfl) rfl (by rw [rdX_ren]; rfl) ?_
   refine R_run hg.ok 1000 rfl rfl ?_
   have h2 := Option.some.inj h2
   obtain ⟨rfl, rfl⟩ := Prod.mk.inj h2
   refine R_if rfl rfl (fun h => absurd h (by simp)) (fun _ => ?_) <;> refine R_run hg.ok 1000 rfl rfl ?_
   refine R_callSO hg.ok hg.gup hg.wide hg.Y [0, 1] (rdX S0 L (mustR L S0.length st1 [93]) deep ++ [boxZ, bxN]) (xMust Y S0 L hL st1 deep [93]) (fun _ => rfl) rfl rfl rfl rfl rfl (by rw [rdX_ren]; rfl) rfl (by rw [rdX_ren]; rfl) ?_
   refine R_run hg.ok 1000 rfl rfl ?_
   refine R_obs (rdX S0 L (mustR L S0.length st1 [93]) deep ++ [boxZ, bxT (fnT [91, 93] [])]) ⟨.refl _, .refl _, .refl _, ⟨.refl _, .refl _, .refl _, Ent.nil, trivial⟩, trivial⟩ rfl ?_
   refine R_see 5 rfl (v' := iV ((l.length : Int) - 1)) (Ent.wrap (by rw [Tm.rows_length]) (by omega) (by omega)) ?_
   refine R_cut2 (fun _ : Unit => ([(2, .lo 2 0), (4, .lo 3 0)], rdX S0 L (mustR L S0.length st1 [93]) deep ++ [boxZ, bxT (consT l (fnT [91, 93] []))])) (fun _ => True) rfl ?_ ?_
   ·refine R_loop (fun n : Nat => ([(2, .lo 2 0), (3, .d (.sl (Tm.rows l))), (4, .lo 3 0), (5, iV ((n : Int) - 1))], rdX S0 L (mustR L S0.length st1 [93]) deep ++ [boxZ, bxT (consT (l.drop n) (fnT [91, 93] []))])) (fun n => n ≤ l.length) (fun n => n) l.length (Nat.le_refl _) ⟨.refl _, .refl _, .refl _, .refl _, trivial⟩ (by rw [List.drop_length]; rfl) ?_
    intro n hn
    refine R_run hg.ok 1000 rfl rfl ?_
    refine R_if rfl rfl (fun h => ?_) (fun h => ?_) <;> refine R_run hg.ok 1000 rfl rfl ?_
    ·have hn0 : 0 < n := by have := of_decide_eq_true h; omega
     obtain ⟨n, rfl⟩ : ∃ m, n = m + 1 := ⟨n - 1, by omega⟩
     have hlt : n < l.length := hn
     have hdr : l.drop n = l[n] :: l.drop (n + 1) := List.drop_eq_getElem_cons hlt
     have hix : (Tm.rows l)[n]? = some (rwT l[n]) := by rw [← rwT_rows]; simp [hlt]
     generalize l[n] = a at hdr hix
     refine R_index hg.ok rfl rfl rfl rfl rfl rfl (by omega) (by rw [show (((n + 1 : Nat) : Int) - 1).toNat = n by omega]; exact hix) rfl ?_
     have hcons : consT (a :: l.drop (n + 1)) (fnT [91, 93] []) = fnT [46] [a, consT (l.drop (n + 1)) (fnT [91, 93] [])] := rfl
     have ha : Ob.box [.d (.v (.int .i64 3)), .d (.v (.string ⟨#[46]⟩)), .d (.v (.int .i64 0)), .d (.sl [rwT a, rwT (consT (l.drop (n + 1)) (fnT [91, 93] []))])] = bxT (consT (l.drop n) (fnT [91, 93] [])) := by rw [hdr, hcons, bxT_fn, ← rwT_rows]; rfl
     first
     | (refine R_run hg.ok 1 rfl rfl ?_; refine R_obs (rdX S0 L (mustR L S0.length st1 [93]) deep ++ [boxZ, .box [.d (.v (.int .i64 3)), .d (.v (.string ⟨#[46]⟩)), .d (.v (.int .i64 0)), .d (.sl [rwT a, rwT (consT (l.drop (n + 1)) (fnT [91, 93] []))])]]) ⟨.refl _, .refl _, .refl _, ⟨.refl _, .refl _, .refl _, Ent.fs _, trivial⟩, trivial⟩ rfl ?_)
     | (refine R_run hg.ok 2 rfl rfl ?_; refine R_obs (rdX S0 L (mustR L S0.length st1 [93]) deep ++ [boxZ, .box [.d (.v (.int .i64 3)), .d (.v (.string ⟨#[46]⟩)), .d (.v (.int .i64 0)), .d (.sl [rwT a, rwT (consT (l.drop (n + 1)) (fnT [91, 93] []))])]]) ⟨.refl _, .refl _, .refl _, ⟨.refl _, .refl _, .refl _, Ent.fs _, trivial⟩, trivial⟩ rfl ?_)
     | (refine R_run hg.ok 3 rfl rfl ?_; refine R_obs (rdX S0 L (mustR L S0.length st1 [93]) deep ++ [boxZ, .box [.d (.v (.int .i64 3)), .d (.v (.string ⟨#[46]⟩)), .d (.v (.int .i64 0)), .d (.sl [rwT a, rwT (consT (l.drop (n + 1)) (fnT [91, 93] []))])]]) ⟨.refl _, .refl _, .refl _, ⟨.refl _, .refl _, .refl _, Ent.fs _, trivial⟩, trivial⟩ rfl ?_)
     | (refine R_run hg.ok 6 rfl rfl ?_; refine R_obs (rdX S0 L (mustR L S0.length st1 [93]) deep ++ [boxZ, .box [.d (.v (.int .i64 3)), .d (.v (.string ⟨#[46]⟩)), .d (.v (.int .i64 0)), .d (.sl [rwT a, rwT (consT (l.drop (n + 1)) (fnT [91, 93] []))])]]) ⟨.refl _, .refl _, .refl _, ⟨.refl _, .refl _, .refl _, Ent.fs _, trivial⟩, trivial⟩ rfl ?_)
     rw [ha]
     refine R_run hg.ok 1000 rfl rfl ?_
     exact R_next n (by omega) (by omega) ⟨.refl _, .refl _, .refl _, Ent.wrap (by omega) (by omega) (by omega), trivial⟩ rfl
    ·have hn0 : n = 0 := by have := of_decide_eq_false h; omega
     subst hn0
     exact R_to () trivial ⟨.refl _, .refl _, trivial⟩ rfl
   rintro _ _
   refine R_run hg.ok 1000 rfl rfl ?_
   exact R_retS hg 2 5 (Nat.le_refl _) rfl rfl (hk _ _)
 | inr p =>
  obtain ⟨l', j⟩ := p
  have ho : l = l' := ho.symm
  subst ho
  refine R_freezeO hg.gup 3 [(0, .lo 0 0), (2, .lo 2 0), (3, .d (.sl (Tm.rows l)))] (rdX S0 L st1 deep ++ [boxZ, .dead]) rfl rfl ⟨.refl _, .refl _, Ent.frz 3 j _, trivial⟩ ⟨⟨.refl _, .refl _, .refl _, .refl _, .refl _, .refl _, .refl _, .refl _, .refl _, .refl _, Ent.tblFrz 3 j _ st1.lay, trivial⟩, rfl, ⟨.refl _, .refl _, .refl _, .refl _, trivial⟩, by simp [ObIn], trivial⟩ ?_
  have hM := xMark Y S0 L hL st1 deep [124]
  cases hmk : isMk (peekR L st1) [124] with
  | true =>
   rw [hmk] at h2 hM
   simp only [if_true] at h2 hM
   refine R_run hg.ok 1000 rfl rfl ?_
   refine R_callSO hg.ok hg.gup hg.wide hg.Y [0, 1] (rdX S0 L (nxR st1) deep ++ [boxZ, .dead, bxN]) (hM) (fun _ => rfl) rfl rfl rfl rfl rfl (by rw [rdX_ren]; rfl) rfl (by rw [rdX_ren]; rfl) ?_
   refine R_run hg.ok 1000 rfl rfl ?_
   obtain ⟨⟨y, st2⟩, hy, h2⟩ := Option.map_eq_some_iff.1 h2
   obtain ⟨rfl, rfl⟩ := Prod.mk.inj h2
   have hi2 := hi1.nx (isMk_lt hmk).2
   refine R_if rfl rfl (fun _ => ?_) (fun h => absurd h (by simp)) <;> refine R_run hg.ok 1000 rfl rfl ?_
   refine R_callSO hg.ok hg.gup hg.wide hg.Y [0, 1] (rdX S0 L (st2) deep ++ [boxZ, .dead, bxN]) (hT deep 999 (nxR st1) y st2 hy hd hi2) (fun _ => rfl) rfl rfl rfl rfl rfl (by rw [rdX_ren]; rfl) rfl (by rw [rdX_ren]; rfl) ?_
   refine R_run hg.ok 1000 rfl rfl ?_
   refine R_callSO hg.ok hg.gup hg.wide hg.Y [0, 1] (rdX S0 L (mustR L S0.length st2 [93]) deep ++ [boxZ, .dead, bxT (y)]) (xMust Y S0 L hL st2 deep [93]) (fun _ => rfl) rfl rfl rfl rfl rfl (by rw [rdX_ren]; rfl) rfl (by rw [rdX_ren]; rfl) ?_
   refine R_run hg.ok 1000 rfl rfl ?_
   refine R_see 5 rfl (v' := iV ((l.length : Int) - 1)) (Ent.wrap (by rw [Tm.rows_length]) (by omega) (by omega)) ?_
   refine R_cut2 (fun _ : Unit => ([(2, .lo 2 0), (4, .lo 4 0)], rdX S0 L (mustR L S0.length st2 [93]) deep ++ [boxZ, .dead, bxT (consT l (y))])) (fun _ => True) rfl ?_ ?_
   ·refine R_loop (fun n : Nat => ([(2, .lo 2 0), (3, .d (.sl (Tm.rows l))), (4, .lo 4 0), (5, iV ((n : Int) - 1))], rdX S0 L (mustR L S0.length st2 [93]) deep ++ [boxZ, .dead, bxT (consT (l.drop n) (y))])) (fun n => n ≤ l.length) (fun n => n) l.length (Nat.le_refl _) ⟨.refl _, .refl _, .refl _, .refl _, trivial⟩ (by rw [List.drop_length]; rfl) ?_
    intro n hn
    refine R_run hg.ok 1000 rfl rfl ?_
    refine R_if rfl rfl (fun h => ?_) (fun h => ?_) <;> refine R_run hg.ok 1000 rfl rfl ?_
    ·have hn0 : 0 < n := by have := of_decide_eq_true h; omega
     obtain ⟨n, rfl⟩ : ∃ m, n = m + 1 := ⟨n - 1, by omega⟩
     have hlt : n < l.length := hn
     have hdr : l.drop n = l[n] :: l.drop (n + 1) := List.drop_eq_getElem_cons hlt
     have hix : (Tm.rows l)[n]? = some (rwT l[n]) := by rw [← rwT_rows]; simp [hlt]
     generalize l[n] = a at hdr hix
     refine R_index hg.ok rfl rfl rfl rfl rfl rfl (by omega) (by rw [show (((n + 1 : Nat) : Int) - 1).toNat = n by omega]; exact hix) rfl ?_
     have hcons : consT (a :: l.drop (n + 1)) (y) = fnT [46] [a, consT (l.drop (n + 1)) (y)] := rfl
     have ha : Ob.box [.d (.v (.int .i64 3)), .d (.v (.string ⟨#[46]⟩)), .d (.v (.int .i64 0)), .d (.sl [rwT a, rwT (consT (l.drop (n + 1)) (y))])] = bxT (consT (l.drop n) (y)) := by rw [hdr, hcons, bxT_fn, ← rwT_rows]; rfl
     first
     | (refine R_run hg.ok 1 rfl rfl ?_; refine R_obs (rdX S0 L (mustR L S0.length st2 [93]) deep ++ [boxZ, .dead, .box [.d (.v (.int .i64 3)), .d (.v (.string ⟨#[46]⟩)), .d (.v (.int .i64 0)), .d (.sl [rwT a, rwT (consT (l.drop (n + 1)) (y))])]]) ⟨.refl _, .refl _, .refl _, .refl _, ⟨.refl _, .refl _, .refl _, Ent.fs _, trivial⟩, trivial⟩ rfl ?_)
     | (refine R_run hg.ok 2 rfl rfl ?_; refine R_obs (rdX S0 L (mustR L S0.length st2 [93]) deep ++ [boxZ, .dead, .box [.d (.v (.int .i64 3)), .d (.v (.string ⟨#[46]⟩)), .d (.v (.int .i64 0)), .d (.sl [rwT a, rwT (consT (l.drop (n + 1)) (y))])]]) ⟨.refl _, .refl _, .refl _, .refl _, ⟨.refl _, .refl _, .refl _, Ent.fs _, trivial⟩, trivial⟩ rfl ?_)
     | (refine R_run hg.ok 3 rfl rfl ?_; refine R_obs (rdX S0 L (mustR L S0.length st2 [93]) deep ++ [boxZ, .dead, .box [.d (.v (.int .i64 3)), .d (.v (.string ⟨#[46]⟩)), .d (.v (.int .i64 0)), .d (.sl [rwT a, rwT (consT (l.drop (n + 1)) (y))])]]) ⟨.refl _, .refl _, .refl _, .refl _, ⟨.refl _, .refl _, .refl _, Ent.fs _, trivial⟩, trivial⟩ rfl ?_)
     | (refine R_run hg.ok 6 rfl rfl ?_; refine R_obs (rdX S0 L (mustR L S0.length st2 [93]) deep ++ [boxZ, .dead, .box [.d (.v (.int .i64 3)), .d (.v (.string ⟨#[46]⟩)), .d (.v (.int .i64 0)), .d (.sl [rwT a, rwT (consT (l.drop (n + 1)) (y))])]]) ⟨.refl _, .refl _, .refl _, .refl _, ⟨.refl _, .refl _, .refl _, Ent.fs _, trivial⟩, trivial⟩ rfl ?_)
     rw [ha]
     refine R_run hg.ok 1000 rfl rfl ?_
     exact R_next n (by omega) (by omega) ⟨.refl _, .refl _, .refl _, Ent.wrap (by omega) (by omega) (by omega), trivial⟩ rfl
    ·have hn0 : n = 0 := by have := of_decide_eq_false h; omega
     subst hn0
     exact R_to () trivial ⟨.refl _, .refl _, trivial⟩ rfl
   rintro _ _
   refine R_run hg.ok 1000 rfl rfl ?_
   exact R_retS hg 2 5 (Nat.le_refl _) rfl rfl (hk _ _)
  | false =>
   rw [hmk] at h2 hM
   simp only [Bool.false_eq_true, if_false] at h2 hM
   refine R_run hg.ok 1000 rfl rfl ?_
   refine R_callSO hg.ok hg.gup hg.wide hg.Y [0, 1] (rdX S0 L (st1) deep ++ [boxZ, .dead, bxN]) (hM) (fun _ => rfl) rfl rfl rfl rfl rfl (by rw [rdX_ren]; rfl) rfl (by rw [rdX_ren]; rfl) ?_
   refine R_run hg.ok 1000 rfl rfl ?_
   have h2 := Option.some.inj h2
   obtain ⟨rfl, rfl⟩ := Prod.mk.inj h2
   refine R_if rfl rfl (fun h => absurd h (by simp)) (fun _ => ?_) <;> refine R_run hg.ok 1000 rfl rfl ?_
   refine R_callSO hg.ok hg.gup hg.wide hg.Y [0, 1] (rdX S0 L (mustR L S0.length st1 [93]) deep ++ [boxZ, .dead, bxN]) (xMust Y S0 L hL st1 deep [93]) (fun _ => rfl) rfl rfl rfl rfl rfl (by rw [rdX_ren]; rfl) rfl (by rw [rdX_ren]; rfl) ?_
   refine R_run hg.ok 1000 rfl rfl ?_
   refine R_obs (rdX S0 L (mustR L S0.length st1 [93]) deep ++ [boxZ, .dead, bxT (fnT [91, 93] [])]) ⟨.refl _, .refl _, .refl _, .refl _, ⟨.refl _, .refl _, .refl _, Ent.nil, trivial⟩, trivial⟩ rfl ?_
   refine R_see 5 rfl (v' := iV ((l.length : Int) - 1)) (Ent.wrap (by rw [Tm.rows_length]) (by omega) (by omega)) ?_
   refine R_cut2 (fun _ : Unit => ([(2, .lo 2 0), (4, .lo 4 0)], rdX S0 L (mustR L S0.length st1 [93]) deep ++ [boxZ, .dead, bxT (consT l (fnT [91, 93] []))])) (fun _ => True) rfl ?_ ?_
   ·refine R_loop (fun n : Nat => ([(2, .lo 2 0), (3, .d (.sl (Tm.rows l))), (4, .lo 4 0), (5, iV ((n : Int) - 1))], rdX S0 L (mustR L S0.length st1 [93]) deep ++ [boxZ, .dead, bxT (consT (l.drop n) (fnT [91, 93] []))])) (fun n => n ≤ l.length) (fun n => n) l.length (Nat.le_refl _) ⟨.refl _, .refl _, .refl _, .refl _, trivial⟩ (by rw [List.drop_length]; rfl) ?_
    intro n hn
    refine R_run hg.ok 1000 rfl rfl ?_
    refine R_if rfl rfl (fun h => ?_) (fun h => ?_) <;> refine R_run hg.ok 1000 rfl rfl ?_
    ·have hn0 : 0 < n := by have := of_decide_eq_true h; omega
     obtain ⟨n, rfl⟩ : ∃ m, n = m + 1 := ⟨n - 1, by omega⟩
     have hlt : n < l.length := hn
     have hdr : l.drop n = l[n] :: l.drop (n + 1) := List.drop_eq_getElem_cons hlt
     have hix : (Tm.rows l)[n]? = some (rwT l[n]) := by rw [← rwT_rows]; simp [hlt]
     generalize l[n] = a at hdr hix
     refine R_index hg.ok rfl rfl rfl rfl rfl rfl (by omega) (by rw [show (((n + 1 : Nat) : Int) - 1).toNat = n by omega]; exact hix) rfl ?_
     have hcons : consT (a :: l.drop (n + 1)) (fnT [91, 93] []) = fnT [46] [a, consT (l.drop (n + 1)) (fnT [91, 93] [])] := rfl
     have ha : Ob.box [.d (.v (.int .i64 3)), .d (.v (.string ⟨#[46]⟩)), .d (.v (.int .i64 0)), .d (.sl [rwT a, rwT (consT (l.drop (n + 1)) (fnT [91, 93] []))])] = bxT (consT (l.drop n) (fnT [91, 93] [])) := by rw [hdr, hcons, bxT_fn, ← rwT_rows]; rfl
     first
     | (refine R_run hg.ok 1 rfl rfl ?_; refine R_obs (rdX S0 L (mustR L S0.length st1 [93]) deep ++ [boxZ, .dead, .box [.d (.v (.int .i64 3)), .d (.v (.string ⟨#[46]⟩)), .d (.v (.int .i64 0)), .d (.sl [rwT a, rwT (consT (l.drop (n + 1)) (fnT [91, 93] []))])]]) ⟨.refl _, .refl _, .refl _, .refl _, ⟨.refl _, .refl _, .refl _, Ent.fs _, trivial⟩, trivial⟩ rfl ?_)
     | (refine R_run hg.ok 2 rfl rfl ?_; refine R_obs (rdX S0 L (mustR L S0.length st1 [93]) deep ++ [boxZ, .dead, .box [.d (.v (.int .i64 3)), .d (.v (.string ⟨#[46]⟩)), .d (.v (.int .i64 0)), .d (.sl [rwT a, rwT (consT (l.drop (n + 1)) (fnT [91, 93] []))])]]) ⟨.refl _, .refl _, .refl _, .refl _, ⟨.refl _, .refl _, .refl _, Ent.fs _, trivial⟩, trivial⟩ rfl ?_)
     | (refine R_run hg.ok 3 rfl rfl ?_; refine R_obs (rdX S0 L (mustR L S0.length st1 [93]) deep ++ [boxZ, .dead, .box [.d (.v (.int .i64 3)), .d (.v (.string ⟨#[46]⟩)), .d (.v (.int .i64 0)), .d (.sl [rwT a, rwT (consT (l.drop (n + 1)) (fnT [91, 93] []))])]]) ⟨.refl _, .refl _, .refl _, .refl _, ⟨.refl _, .refl _, .refl _, Ent.fs _, trivial⟩, trivial⟩ rfl ?_)
     | (refine R_run hg.ok 6 rfl rfl ?_; refine R_obs (rdX S0 L (mustR L S0.length st1 [93]) deep ++ [boxZ, .dead, .box [.d (.v (.int .i64 3)), .d (.v (.string ⟨#[46]⟩)), .d (.v (.int .i64 0)), .d (.sl [rwT a, rwT (consT (l.drop (n + 1)) (fnT [91, 93] []))])]]) ⟨.refl _, .refl _, .refl _, .refl _, ⟨.refl _, .refl _, .refl _, Ent.fs _, trivial⟩, trivial⟩ rfl ?_)
     rw [ha]
     refine R_run hg.ok 1000 rfl rfl ?_
     exact R_next n (by omega) (by omega) ⟨.refl _, .refl _, .refl _, Ent.wrap (by omega) (by omega) (by omega), trivial⟩ rfl
    ·have hn0 : n = 0 := by have := of_decide_eq_false h; omega
     subst hn0
     exact R_to () trivial ⟨.refl _, .refl _, trivial⟩ rfl
   rintro _ _
   refine R_run hg.ok 1000 rfl rfl ?_
   exact R_retS hg 2 5 (Nat.le_refl _) rfl rfl (hk _ _)
end Go.Proofs.YtcgkgofmldhokaaGreat

namespace Go.Proofs.YtcgkgofmldhokaaGreat
open Go PSL Go.Proofs
def pfNam : Nat → Cls := fun f => bif Nat.beq f 154 then .turn 3 else bif Nat.beq f 95 then .turn 3 else bif Nat.beq f 4000100067 then .look 4 else bif Nat.beq f 4000100092 then .look 4 else .eff

set_option maxRecDepth 100000 in
theorem rdNamed_ok (Y : YP) (S0 : Bs) (L : List Tk) (hL : L.length ≤ 9000) (hS : S0.length ≤ 9000) {T : TF} (hT : TCtr Y S0 L T) (hG : TGood L T) (deep : Nat) (hd : deep ≤ 1000) (st : RSt) (hi : RInv L st) (hl : st.at_ < L.length) (hpl : ∀ t ∈ L, 0 ≤ t.at_ ∧ t.at_ < S0.length ∧ 0 ≤ t.n ∧ t.n ≤ 9223372036854775807) (p : Int) (t : Tk) (ht : t ∈ L) (x : Tm × Int × RSt) (h : namedR S0 L T deep p t st = some x) :
  SCtr Tryz.prog Y 147 [.lo 0 0, tkA t, iV p] (rdX S0 L st deep) (.tup [x.1.av, iV x.2.1]) (rdX S0 L x.2.2 deep) := by
 refine SCtr.of_R (pf := pfNam) tyOk mixed Tryz.func147 rfl (by kernel_rfl) (by kernel_rfl) (by simp [Tryz.ntmps147]) (by simp [rdX, rdO, robj]) fun w S φ hg => ?_
 have hφ : φ.length = 2 := hg.hs0.len
 have hk : ∀ (st : RSt) (o : List Ob), (rdX S0 L st deep).map (mapOb (sealT false 2 o 5)) = rdX S0 L st deep := fun st o => rdX_keep _ _ _ _ _ _ (Nat.le_refl _)
 have hn := hi.nx hl
 have ht1 := hpl t ht
 obtain ⟨M, hM⟩ : ∃ M, M = ((t.text == [45]) && decide (S0[t.at_.toNat]? = some 45)) := ⟨_, rfl⟩
 refine R_run hg.ok 4 rfl rfl ?_
 refine R_cut1 (fun _ : Unit => ([(0, .lo 0 0), (2, iV p), (4, .lo 2 0), (6, .lo 3 0), (8, bV M)], rdX S0 L st deep ++ [tkO t, boxZ])) (fun _ => True) rfl ?_ ?_
 ·have e45 : strEq (Tx t.text) ⟨#[45]⟩ = (t.text == [45]) := Tx_eq _ _
  refine R_run hg.ok 1000 rfl rfl ?_
  by_cases h45 : t.text = [45]
  ·refine R_if rfl rfl (fun _ => ?_) (fun h => absurd h (by rw [e45, h45]; simp)) <;> refine R_run hg.ok 1000 rfl rfl ?_
   have hlt : t.at_.toNat < S0.length := by omega
   have e1 : S0[t.at_.toNat]? = some S0[t.at_.toNat] := List.getElem?_eq_getElem hlt
   generalize S0[t.at_.toNat] = c at e1
   rw [e1] at hM
   refine R_indexS hg.ok rfl rfl rfl rfl rfl ht1.1 (b := c) (by rw [Tx_get]; exact e1) ?_
   have hc : decide ((c.toNat : Int) = 45) = M := by
    rw [hM, h45]
    by_cases hc : c = 45
    ·subst hc; rfl
    ·have : ¬ (c.toNat : Int) = 45 := fun h => hc (UInt8.toNat_inj.1 (Int.ofNat_inj.1 (show ((c.toNat : Nat) : Int) = (((45 : UInt8).toNat : Nat) : Int) from h)))
     simp [hc, this]
   refine R_run hg.ok 1000 rfl rfl ?_
   exact R_to () trivial ⟨.refl _, .refl _, .refl _, .refl _, by rw [← hc]; exact .refl _, trivial⟩ rfl
  ·refine R_if rfl rfl (fun h => absurd h (by rw [e45]; simpa using h45)) (fun _ => ?_) <;> refine R_run hg.ok 1000 rfl rfl ?_
   have hM : M = false := by rw [hM]; simp [h45]
   subst hM
   exact R_to () trivial ⟨.refl _, .refl _, .refl _, .refl _, by first | exact .refl _ | exact Ent.ff, trivial⟩ rfl
 rintro _ _
 first
 | (refine R_run hg.ok 1 rfl rfl ?_; refine R_rdAt (st := st) (st.at_ + 1) (rfl) (by omega) rfl ?_)
 | (refine R_run hg.ok 2 rfl rfl ?_; refine R_rdAt (st := st) (st.at_ + 1) (rfl) (by omega) rfl ?_)
 | (refine R_run hg.ok 3 rfl rfl ?_; refine R_rdAt (st := st) (st.at_ + 1) (rfl) (by omega) rfl ?_)
 | (refine R_run hg.ok 4 rfl rfl ?_; refine R_rdAt (st := st) (st.at_ + 1) (rfl) (by omega) rfl ?_)
 | (refine R_run hg.ok 5 rfl rfl ?_; refine R_rdAt (st := st) (st.at_ + 1) (rfl) (by omega) rfl ?_)
 | (refine R_run hg.ok 6 rfl rfl ?_; refine R_rdAt (st := st) (st.at_ + 1) (rfl) (by omega) rfl ?_)
 | (refine R_run hg.ok 7 rfl rfl ?_; refine R_rdAt (st := st) (st.at_ + 1) (rfl) (by omega) rfl ?_)
 refine R_run hg.ok 1000 rfl rfl ?_
 refine R_callSO hg.ok hg.gup hg.wide hg.Y [0, 1] (rdX S0 L (nxR st) deep ++ [tkO t, boxZ]) (xPeek Y S0 L (nxR st) deep) (fun _ => rfl) rfl rfl rfl rfl rfl (by rw [rdX_ren]; rfl) rfl (by rw [rdX_ren]; rfl) ?_
 refine R_run hg.ok 1000 rfl rfl ?_
 refine R_call hg.ok (rdPrefix_ok t.text) rfl rfl rfl rfl rfl rfl ?_
 refine R_run hg.ok 1000 rfl rfl ?_
 unfold namedR at h
 have hpk := peek_lt (L := L) (st := nxR st)
 have hum : (peekR L (nxR st)).kind ≠ 0 → peekR L (nxR st) ∈ L := fun h => by
  have := hpk h
  unfold peekR
  rw [if_neg (by simpa using this.1), List.getElem?_eq_getElem this.2]
  exact List.getElem_mem _
 rw [show minR S0 t (peekR L (nxR st)) = (M && decide ((peekR L (nxR st)).kind = 3) && decide ((peekR L (nxR st)).at_ = t.at_ + 1)) by rw [hM]; rfl] at h
 obtain ⟨u, hu⟩ : ∃ u, u = peekR L (nxR st) := ⟨_, rfl⟩
 rw [← hu] at h hpk hum ⊢
 obtain ⟨mr, hmr⟩ : ∃ mr, mr = (M && decide (u.kind = 3) && decide (u.at_ = t.at_ + 1)) := ⟨_, rfl⟩
 have hw : IntKind.i64.wrap (t.at_ + 1) = t.at_ + 1 := wrap_id (by omega) (by omega)
 refine R_cut1 (fun _ : Unit => ([(0, .lo 0 0), (2, iV p), (4, .lo 2 0), (6, .lo 3 0), (9, .lo 4 0), (10, iV (preT t.text)), (36, bV mr)], rdX S0 L (nxR st) deep ++ [tkO t, boxZ, tkO u])) (fun _ => True) rfl ?_ ?_
 ·cases M with
  | false =>
   refine R_if rfl rfl (fun h => absurd h (by simp)) (fun _ => ?_) <;> refine R_run hg.ok 1000 rfl rfl ?_
   have hmr : mr = false := by rw [hmr]; rfl
   subst hmr
   exact R_to () trivial ⟨.refl _, .refl _, .refl _, .refl _, .refl _, .refl _, by first | exact .refl _ | exact Ent.ff, trivial⟩ rfl
  | true =>
   refine R_if rfl rfl (fun _ => ?_) (fun h => absurd h (by simp)) <;> refine R_run hg.ok 1000 rfl rfl ?_
   by_cases h3 : u.kind = 3
   ·refine R_if rfl rfl (fun _ => ?_) (fun h => absurd h (by simp [h3])) <;> refine R_run hg.ok 1000 rfl rfl ?_
    have hmr : decide (u.at_ = IntKind.i64.wrap (t.at_ + 1)) = mr := by rw [hmr, hw]; simp [h3]
    exact R_to () trivial ⟨.refl _, .refl _, .refl _, .refl _, .refl _, .refl _, by rw [← hmr]; exact .refl _, trivial⟩ rfl
   ·refine R_if rfl rfl (fun h => absurd h (by simp [h3])) (fun _ => ?_) <;> refine R_run hg.ok 1000 rfl rfl ?_
    have hmr : mr = false := by rw [hmr]; simp [h3]
    subst hmr
    exact R_to () trivial ⟨.refl _, .refl _, .refl _, .refl _, .refl _, .refl _, by first | exact .refl _ | exact Ent.ff, trivial⟩ rfl
 rintro _ _
 rw [← hmr] at h
 refine R_run hg.ok 1000 rfl rfl ?_
 cases mr with
 | true =>
  have hk3 : u.kind = 3 := by
   have := hmr.symm
   simp only [Bool.and_eq_true, decide_eq_true_eq] at this
   exact this.1.2
  have hul := (hpk (by rw [hk3]; decide)).2
  have hu1 := hpl u (hum (by rw [hk3]; decide))
  simp only [if_true, Option.some.injEq] at h
  subst h
  simp only
  refine R_if rfl rfl (fun _ => ?_) (fun h => absurd h (by simp))
  first
  | (refine R_run hg.ok 1 rfl rfl ?_; refine R_rdAt (st := nxR st) (st.at_ + 1 + 1) (rfl) (by omega) rfl ?_)
  | (refine R_run hg.ok 2 rfl rfl ?_; refine R_rdAt (st := nxR st) (st.at_ + 1 + 1) (rfl) (by omega) rfl ?_)
  | (refine R_run hg.ok 3 rfl rfl ?_; refine R_rdAt (st := nxR st) (st.at_ + 1 + 1) (rfl) (by omega) rfl ?_)
  | (refine R_run hg.ok 4 rfl rfl ?_; refine R_rdAt (st := nxR st) (st.at_ + 1 + 1) (rfl) (by omega) rfl ?_)
  | (refine R_run hg.ok 5 rfl rfl ?_; refine R_rdAt (st := nxR st) (st.at_ + 1 + 1) (rfl) (by omega) rfl ?_)
  | (refine R_run hg.ok 6 rfl rfl ?_; refine R_rdAt (st := nxR st) (st.at_ + 1 + 1) (rfl) (by omega) rfl ?_)
  | (refine R_run hg.ok 7 rfl rfl ?_; refine R_rdAt (st := nxR st) (st.at_ + 1 + 1) (rfl) (by omega) rfl ?_)
  | (refine R_run hg.ok 8 rfl rfl ?_; refine R_rdAt (st := nxR st) (st.at_ + 1 + 1) (rfl) (by omega) rfl ?_)
  first
  | (refine R_run hg.ok 1 rfl rfl ?_; refine R_obs (rdX S0 L (nxR (nxR st)) deep ++ [tkO t, .box [.d (.v (.int .i64 2)), .d (.v (.string ByteArray.empty)), iV (-u.n), .d (.v (.slice none 0 0))], tkO u]) ⟨.refl _, .refl _, .refl _, ⟨.refl _, .refl _, Ent.wrap (by omega) (by omega) (by omega), .refl _, trivial⟩, .refl _, trivial⟩ rfl ?_)
  | (refine R_run hg.ok 2 rfl rfl ?_; refine R_obs (rdX S0 L (nxR (nxR st)) deep ++ [tkO t, .box [.d (.v (.int .i64 2)), .d (.v (.string ByteArray.empty)), iV (-u.n), .d (.v (.slice none 0 0))], tkO u]) ⟨.refl _, .refl _, .refl _, ⟨.refl _, .refl _, Ent.wrap (by omega) (by omega) (by omega), .refl _, trivial⟩, .refl _, trivial⟩ rfl ?_)
  | (refine R_run hg.ok 3 rfl rfl ?_; refine R_obs (rdX S0 L (nxR (nxR st)) deep ++ [tkO t, .box [.d (.v (.int .i64 2)), .d (.v (.string ByteArray.empty)), iV (-u.n), .d (.v (.slice none 0 0))], tkO u]) ⟨.refl _, .refl _, .refl _, ⟨.refl _, .refl _, Ent.wrap (by omega) (by omega) (by omega), .refl _, trivial⟩, .refl _, trivial⟩ rfl ?_)
  | (refine R_run hg.ok 4 rfl rfl ?_; refine R_obs (rdX S0 L (nxR (nxR st)) deep ++ [tkO t, .box [.d (.v (.int .i64 2)), .d (.v (.string ByteArray.empty)), iV (-u.n), .d (.v (.slice none 0 0))], tkO u]) ⟨.refl _, .refl _, .refl _, ⟨.refl _, .refl _, Ent.wrap (by omega) (by omega) (by omega), .refl _, trivial⟩, .refl _, trivial⟩ rfl ?_)
  | (refine R_run hg.ok 5 rfl rfl ?_; refine R_obs (rdX S0 L (nxR (nxR st)) deep ++ [tkO t, .box [.d (.v (.int .i64 2)), .d (.v (.string ByteArray.empty)), iV (-u.n), .d (.v (.slice none 0 0))], tkO u]) ⟨.refl _, .refl _, .refl _, ⟨.refl _, .refl _, Ent.wrap (by omega) (by omega) (by omega), .refl _, trivial⟩, .refl _, trivial⟩ rfl ?_)
  refine R_run hg.ok 1000 rfl rfl ?_
  exact R_retS hg 2 5 (Nat.le_refl _) rfl rfl (hk (nxR (nxR st)) _)
 | false =>
  simp only [Bool.false_eq_true, if_false] at h
  refine R_if rfl rfl (fun h => absurd h (by simp)) (fun _ => ?_) <;> refine R_run hg.ok 1000 rfl rfl ?_
  by_cases ho : t.opn = true
  ·rw [if_pos ho] at h
   obtain ⟨⟨l, st1⟩, h1, h⟩ := Option.map_eq_some_iff.1 h
   subst h
   simp only
   refine R_if rfl rfl (fun _ => ?_) (fun h => absurd h (by simp [ho])) <;> refine R_run hg.ok 1000 rfl rfl ?_
   refine R_callSO hg.ok hg.gup hg.wide hg.Y [0, 1] (rdX S0 L (mustR L S0.length (nxR st) [40]) deep ++ [tkO t, boxZ, tkO u]) (xMust Y S0 L hL (nxR st) deep [40]) (fun _ => rfl) rfl rfl rfl rfl rfl (by rw [rdX_ren]; rfl) rfl (by rw [rdX_ren]; rfl) ?_
   refine R_run hg.ok 1000 rfl rfl ?_
   refine R_load4 hg.ok (by show φ.length ≤ 2; omega) rfl rfl rfl rfl rfl rfl rfl ?_
   refine R_run hg.ok 1000 rfl rfl ?_
   refine R_callS3 hg.ok hg.gup hg.wide hg.Y [0, 1] (rdX S0 L (mustR L S0.length st1 [41]) deep ++ [tkO t, boxZ, tkO u]) (rdSeveral_ok Y S0 L hL hT hG deep hd _ hn.must l st1 h1 [41]) (fun _ => rfl) (fun i hi => by show i < φ.length; simp at hi; omega) rfl rfl rfl rfl rfl (by rw [rdX_ren]; rfl) rfl (by rw [rdX_ren]; rfl) ?_
   refine R_run hg.ok 1000 rfl rfl ?_
   exact R_retS hg 2 5 (Nat.le_refl _) rfl rfl (hk _ _)
  rw [if_neg ho] at h
  refine R_if rfl rfl (fun h => absurd h (by simp [ho])) (fun _ => ?_) <;> refine R_run hg.ok 1000 rfl rfl ?_
  by_cases hp : 0 < preT t.text
  ·rw [if_pos hp] at h
   refine R_if rfl rfl (fun _ => ?_) (fun h => absurd h (by simp [hp])) <;> refine R_run hg.ok 1000 rfl rfl ?_
   have hB := xBegins Y S0 L (nxR st) deep
   cases hb : begR L (nxR st) with
   | true =>
    rw [hb] at h hB
    simp only [if_true] at h
    refine R_callSO hg.ok hg.gup hg.wide hg.Y [0, 1] (rdX S0 L (begS L (nxR st)) deep ++ [tkO t, boxZ, tkO u]) (hB) (fun _ => rfl) rfl rfl rfl rfl rfl (by rw [rdX_ren]; rfl) rfl (by rw [rdX_ren]; rfl) ?_
    refine R_run hg.ok 1000 rfl rfl ?_
    refine R_if rfl rfl (fun _ => ?_) (fun h => absurd h (by simp)) <;> refine R_run hg.ok 1000 rfl rfl ?_
    by_cases hq : preT t.text > p
    ·rw [if_pos hq] at h
     cases h
     have hba : (begS L (nxR st)).at_ = st.at_ + 1 := by unfold begS; split <;> rfl
     refine R_if rfl rfl (fun _ => ?_) (fun h => absurd h (by simp [hq]))
     first
     | (refine R_run hg.ok 1 rfl rfl ?_; refine R_rdAt (st := begS L (nxR st)) (st.at_) (by rw [hba]; omega) (by omega) rfl ?_)
     | (refine R_run hg.ok 2 rfl rfl ?_; refine R_rdAt (st := begS L (nxR st)) (st.at_) (by rw [hba]; omega) (by omega) rfl ?_)
     | (refine R_run hg.ok 3 rfl rfl ?_; refine R_rdAt (st := begS L (nxR st)) (st.at_) (by rw [hba]; omega) (by omega) rfl ?_)
     | (refine R_run hg.ok 4 rfl rfl ?_; refine R_rdAt (st := begS L (nxR st)) (st.at_) (by rw [hba]; omega) (by omega) rfl ?_)
     | (refine R_run hg.ok 5 rfl rfl ?_; refine R_rdAt (st := begS L (nxR st)) (st.at_) (by rw [hba]; omega) (by omega) rfl ?_)
     | (refine R_run hg.ok 6 rfl rfl ?_; refine R_rdAt (st := begS L (nxR st)) (st.at_) (by rw [hba]; omega) (by omega) rfl ?_)
     | (refine R_run hg.ok 7 rfl rfl ?_; refine R_rdAt (st := begS L (nxR st)) (st.at_) (by rw [hba]; omega) (by omega) rfl ?_)
     | (refine R_run hg.ok 8 rfl rfl ?_; refine R_rdAt (st := begS L (nxR st)) (st.at_) (by rw [hba]; omega) (by omega) rfl ?_)
     | (refine R_run hg.ok 9 rfl rfl ?_; refine R_rdAt (st := begS L (nxR st)) (st.at_) (by rw [hba]; omega) (by omega) rfl ?_)
     | (refine R_run hg.ok 10 rfl rfl ?_; refine R_rdAt (st := begS L (nxR st)) (st.at_) (by rw [hba]; omega) (by omega) rfl ?_)
     | (refine R_run hg.ok 11 rfl rfl ?_; refine R_rdAt (st := begS L (nxR st)) (st.at_) (by rw [hba]; omega) (by omega) rfl ?_)
     refine R_run hg.ok 1000 rfl rfl ?_
     refine R_callSO hg.ok hg.gup hg.wide hg.Y [0, 1] (rdX S0 L (failR L S0.length { begS L (nxR st) with at_ := st.at_ } 2) deep ++ [tkO t, boxZ, tkO u]) (xFail Y S0 L { begS L (nxR st) with at_ := st.at_ } deep 2) (fun _ => rfl) rfl rfl rfl rfl rfl (by rw [rdX_ren]; rfl) rfl (by rw [rdX_ren]; rfl) ?_
     refine R_run hg.ok 1000 rfl rfl ?_
     exact R_retS hg 2 5 (Nat.le_refl _) rfl rfl (hk _ _)
    ·rw [if_neg hq] at h
     obtain ⟨⟨y, st2⟩, h1, h⟩ := Option.map_eq_some_iff.1 h
     subst h
     simp only
     refine R_if rfl rfl (fun h => absurd h (by simp [hq])) (fun _ => ?_) <;> refine R_run hg.ok 1000 rfl rfl ?_
     refine R_load4 hg.ok (by show φ.length ≤ 2; omega) rfl rfl rfl rfl rfl rfl rfl ?_
     refine R_run hg.ok 1000 rfl rfl ?_
     refine R_callS3 hg.ok hg.gup hg.wide hg.Y [0, 1] (rdX S0 L st2 deep ++ [tkO t, boxZ, tkO u]) (hT deep _ _ y st2 h1 hd hn.beg) (fun _ => rfl) (fun i hi => by show i < φ.length; simp at hi; omega) rfl rfl rfl rfl rfl (by rw [rdX_ren]; rfl) rfl (by rw [rdX_ren]; rfl) ?_
     refine R_run hg.ok 1000 rfl rfl ?_
     rw [show Tm.av (fnT t.text [y]) = AV.agg [.d (.v (.int .i64 3)), .d (.v (.string (Tx t.text))), .d (.v (.int .i64 0)), .d (.sl [rwT y])] by rw [show [rwT y] = Tm.rows [y] from rwT_rows [y]]; rfl]
     exact R_retS hg 2 5 (Nat.le_refl _) rfl rfl (hk _ _)
   | false =>
    rw [hb] at h hB
    simp only [Bool.false_eq_true, if_false] at h
    cases h
    refine R_callSO hg.ok hg.gup hg.wide hg.Y [0, 1] (rdX S0 L (begS L (nxR st)) deep ++ [tkO t, boxZ, tkO u]) (hB) (fun _ => rfl) rfl rfl rfl rfl rfl (by rw [rdX_ren]; rfl) rfl (by rw [rdX_ren]; rfl) ?_
    refine R_run hg.ok 1000 rfl rfl ?_
    refine R_if rfl rfl (fun h => absurd h (by simp)) (fun _ => ?_) <;> refine R_run hg.ok 1000 rfl rfl ?_
    exact R_retS hg 2 5 (Nat.le_refl _) rfl rfl (hk _ _)
  ·rw [if_neg hp] at h
   cases h
   refine R_if rfl rfl (fun h => absurd h (by simp [hp])) (fun _ => ?_) <;> refine R_run hg.ok 1000 rfl rfl ?_
   exact R_retS hg 2 5 (Nat.le_refl _) rfl rfl (hk (nxR st) _)
end Go.Proofs.YtcgkgofmldhokaaGreat

namespace Go.Proofs.YtcgkgofmldhokaaGreat
open Go PSL Go.Proofs

theorem R_rdDeep {g : G} {pf : Nat → Cls} {Fin : Exit → Act → World → Prop} {k : List It} {E : Env} {rest : List Ob} {S : Bs} {L : List Tk} {st : RSt} {mk : Bool} {m : Int} (n : Nat) (hm : m = n) (hb : n < 9223372036854775808) (ht : topCode k = true) (h : R g pf Fin k E (rdO S L st n mk ++ rest)) :
  R g pf Fin k E (.box [.d (.v (.string (Tx S))), .d (.sl (tkRows L)), iV st.at_, .ow 1 st.names.length, .d (.v (.int .i64 (IntKind.i64.wrap m))), iV st.bad, iV st.e, .d (.v (.int .u32 (if mk then 1 else 0))), .d (.v (.int .i32 0)), .d (.v (.int .u32 0)), tblV mk] :: .arr 1 st.names.length (strRows st.names) :: rest) :=
 R_obs (rdO S L st n mk ++ rest) ⟨⟨.refl _, .refl _, .refl _, .refl _, Ent.wrap hm (by omega) (by omega), .refl _, .refl _, .refl _, .refl _, .refl _, .refl _, trivial⟩, rfl, obsIn_refl _⟩ ht h

theorem rdB_ren (S : Bs) (L : List Tk) (st : RSt) (deep : Int) (n : Nat) : (rdX S L st deep ++ [Ob.box [.lo 0 0]]).map (renOb (rn [0, 1, 2] n)) = rdX S L st deep ++ [Ob.box [.lo 0 0]] := by
 rw [List.map_append, rdX_ren]; rfl

theorem rdB_keep (S : Bs) (L : List Tk) (st : RSt) (deep : Int) (o : List Ob) : (rdX S L st deep ++ [Ob.box [.lo 0 0]]).map (mapOb (sealT false 3 o 5)) = rdX S L st deep ++ [Ob.box [.lo 0 0]] := by
 rw [List.map_append, rdX_keep _ _ _ _ _ _ (by decide)]; rfl

set_option maxRecDepth 100000 in
theorem rdDown_ok (Y : YP) (S0 : Bs) (L : List Tk) (st : RSt) (deep : Nat) (hd : deep ≤ 1000) : DCtr Tryz.prog Y 145 [.lo 2 0] (rdX S0 L st (deep + 1 : Nat) ++ [.box [.lo 0 0]]) (.tup []) (rdX S0 L st deep ++ [.box [.lo 0 0]]) := by
 refine DCtr.of_R (pf := fun _ => .eff) tyOk mixed Tryz.func145 rfl (by kernel_rfl) (by kernel_rfl) (by simp [Tryz.ntmps145]) (by simp [rdX, rdO, robj]) fun w S φ hg => ?_
 refine R_run hg.ok 1000 rfl rfl ?_
 refine R_rdDeep (st := st) deep (by omega) (by omega) rfl ?_
 exact R_endD hg 3 5 (Nat.le_refl _) rfl rfl (rdB_keep _ _ _ _ _)

set_option maxRecDepth 100000 in
theorem rdOpnd_ok (Y : YP) (S0 : Bs) (L : List Tk) (hL : L.length ≤ 9000) (hS : S0.length ≤ 9000) {T : TF} (hT : TCtr Y S0 L T) (hG : TGood L T) (deep : Nat) (hd : deep ≤ 1000) (st : RSt) (hi : RInv L st) (hpl : ∀ t ∈ L, 0 ≤ t.at_ ∧ t.at_ < S0.length ∧ 0 ≤ t.n ∧ t.n ≤ 9223372036854775807) (p : Int) (x : Tm × Int × RSt) (h : opndR false S0 L T deep p st = some x) :
  SCtr Tryz.prog Y 117 [.lo 0 0, iV p] (rdX S0 L st deep) (.tup [x.1.av, iV x.2.1]) (rdX S0 L x.2.2 deep) := by
 refine SCtr.of_RD (pf := fun _ => .eff) tyOk mixed Tryz.func117 rfl (by kernel_rfl) (by kernel_rfl) (by simp [Tryz.ntmps117]) (by simp [rdX, rdO, robj]) fun w S φ hg => ?_
 have hk : ∀ (st : RSt) (o : List Ob), (rdX S0 L st deep).map (mapOb (sealT false 2 o 5)) = rdX S0 L st deep := fun st o => rdX_keep _ _ _ _ _ _ (Nat.le_refl _)
 unfold opndR at h
 refine R_run hg.ok 1000 rfl rfl ?_
 by_cases hd0 : 1000 ≤ deep
 ·rw [if_pos hd0] at h
  cases h
  refine R_if rfl rfl (fun _ => ?_) (fun h => absurd h (by simp; omega)) <;> refine R_run hg.ok 1000 rfl rfl ?_
  refine R_callSO hg.ok hg.gup hg.wide hg.Y [0, 1] (rdX S0 L (failR L S0.length st 3) deep ++ [.box [.lo 0 0], boxZ]) (xFail Y S0 L st deep 3) (fun _ => rfl) rfl rfl rfl rfl rfl (by rw [rdX_ren]; rfl) rfl (by rw [rdX_ren]; rfl) ?_
  refine R_run hg.ok 1000 rfl rfl ?_
  exact R_retS hg 2 5 (Nat.le_refl _) rfl rfl (hk _ _)
 have hd : deep < 1000 := by omega
 rw [if_neg hd0] at h
 refine R_if rfl rfl (fun h => absurd h (by simp; omega)) (fun _ => ?_)
 first
 | (refine R_run hg.ok 1 rfl rfl ?_; refine R_rdDeep (st := st) (deep + 1) (by omega) (by omega) rfl ?_)
 | (refine R_run hg.ok 2 rfl rfl ?_; refine R_rdDeep (st := st) (deep + 1) (by omega) (by omega) rfl ?_)
 | (refine R_run hg.ok 3 rfl rfl ?_; refine R_rdDeep (st := st) (deep + 1) (by omega) (by omega) rfl ?_)
 | (refine R_run hg.ok 4 rfl rfl ?_; refine R_rdDeep (st := st) (deep + 1) (by omega) (by omega) rfl ?_)
 | (refine R_run hg.ok 5 rfl rfl ?_; refine R_rdDeep (st := st) (deep + 1) (by omega) (by omega) rfl ?_)
 first
 | refine R_defer hg.ok rfl hg.wide 1 rfl ?_
 | (refine R_run hg.ok 1 rfl rfl ?_; refine R_defer hg.ok rfl hg.wide 1 rfl ?_)
 | (refine R_run hg.ok 2 rfl rfl ?_; refine R_defer hg.ok rfl hg.wide 1 rfl ?_)
 refine R_run hg.ok 1000 rfl rfl ?_
 refine R_mark ⟨_, _, _, rfl, ?_⟩
 have hg1 := hg.sw [(145, [], [.lo 2 0])]
 refine R_run hg1.ok 1000 rfl rfl ?_
 refine R_callSO hg1.ok hg1.gup hg1.wide hg1.Y [0, 1] (rdX S0 L st (deep + 1 : Nat) ++ [.box [.lo 0 0], boxZ]) (xPeek Y S0 L st (deep + 1 : Nat)) (fun _ => rfl) rfl rfl rfl rfl rfl (by rw [rdX_ren]; rfl) rfl (by rw [rdX_ren]; rfl) ?_
 refine R_run hg1.ok 1000 rfl rfl ?_
 have hpk := peek_lt (L := L) (st := st)
 have hum : (peekR L st).kind ≠ 0 → peekR L st ∈ L := fun h => by
  have := hpk h
  unfold peekR
  rw [if_neg (by simpa using this.1), List.getElem?_eq_getElem this.2]
  exact List.getElem_mem _
 have hM1 := xMark Y S0 L hL st (deep + 1 : Nat) [40]
 have hM2 := xMark Y S0 L hL st (deep + 1 : Nat) [91]
 have hN := fun x => rdNamed_ok Y S0 L hL hS hT hG (deep + 1) (by omega) st hi
 obtain ⟨u, hu⟩ : ∃ u, u = peekR L st := ⟨_, rfl⟩
 rw [← hu] at h hpk hum hM1 hM2 ⊢
 by_cases h3 : u.kind = 3
 ·rw [if_pos h3] at h
  cases h
  have hl := (hpk (by rw [h3]; decide)).2
  refine R_if rfl rfl (fun _ => ?_) (fun h => absurd h (by simp [h3]))
  first
  | (refine R_run hg1.ok 1 rfl rfl ?_; refine R_rdAt (st := st) (st.at_ + 1) (rfl) (by omega) rfl ?_)
  | (refine R_run hg1.ok 2 rfl rfl ?_; refine R_rdAt (st := st) (st.at_ + 1) (rfl) (by omega) rfl ?_)
  | (refine R_run hg1.ok 3 rfl rfl ?_; refine R_rdAt (st := st) (st.at_ + 1) (rfl) (by omega) rfl ?_)
  | (refine R_run hg1.ok 4 rfl rfl ?_; refine R_rdAt (st := st) (st.at_ + 1) (rfl) (by omega) rfl ?_)
  | (refine R_run hg1.ok 5 rfl rfl ?_; refine R_rdAt (st := st) (st.at_ + 1) (rfl) (by omega) rfl ?_)
  | (refine R_run hg1.ok 6 rfl rfl ?_; refine R_rdAt (st := st) (st.at_ + 1) (rfl) (by omega) rfl ?_)
  | (refine R_run hg1.ok 7 rfl rfl ?_; refine R_rdAt (st := st) (st.at_ + 1) (rfl) (by omega) rfl ?_)
  refine R_run hg1.ok 1000 rfl rfl ?_
  refine R_retL ?_
  refine Lv.cons hg [0, 1, 2] (objs' := rdX S0 L (nxR st) deep ++ [.box [.lo 0 0], .box [.d (.v (.int .i64 2)), .d (.v (.string ByteArray.empty)), .d (.v (.int .i64 u.n)), .d (.v (.slice none 0 0))], tkO u]) (rdDown_ok Y S0 L (nxR st) deep (Nat.le_of_lt hd)) (fun _ => rfl) rfl (by rw [rdB_ren]; rfl) rfl (by rw [rdB_ren]; rfl) ?_
  exact Lv.nil hg 2 5 (Nat.le_refl _) rfl rfl (hk (nxR st) _)
 rw [if_neg h3] at h
 refine R_if rfl rfl (fun h => absurd h (by simp [h3])) (fun _ => ?_) <;> refine R_run hg1.ok 1000 rfl rfl ?_
 by_cases h2 : u.kind = 2
 ·rw [if_pos h2] at h
  cases h
  have hl := (hpk (by rw [h2]; decide)).2
  have hnl := hi.1
  refine R_if rfl rfl (fun _ => ?_) (fun h => absurd h (by simp [h2]))
  first
  | (refine R_run hg1.ok 1 rfl rfl ?_; refine R_rdAt (st := st) (st.at_ + 1) (rfl) (by omega) rfl ?_)
  | (refine R_run hg1.ok 2 rfl rfl ?_; refine R_rdAt (st := st) (st.at_ + 1) (rfl) (by omega) rfl ?_)
  | (refine R_run hg1.ok 3 rfl rfl ?_; refine R_rdAt (st := st) (st.at_ + 1) (rfl) (by omega) rfl ?_)
  | (refine R_run hg1.ok 4 rfl rfl ?_; refine R_rdAt (st := st) (st.at_ + 1) (rfl) (by omega) rfl ?_)
  | (refine R_run hg1.ok 5 rfl rfl ?_; refine R_rdAt (st := st) (st.at_ + 1) (rfl) (by omega) rfl ?_)
  | (refine R_run hg1.ok 6 rfl rfl ?_; refine R_rdAt (st := st) (st.at_ + 1) (rfl) (by omega) rfl ?_)
  | (refine R_run hg1.ok 7 rfl rfl ?_; refine R_rdAt (st := st) (st.at_ + 1) (rfl) (by omega) rfl ?_)
  refine R_run hg1.ok 1000 rfl rfl ?_
  refine R_callSO hg1.ok hg1.gup hg1.wide hg1.Y [0, 1] (rdX S0 L (varR (nxR st) u.text).2 (deep + 1 : Nat) ++ [.box [.lo 0 0], boxZ, tkO u]) (xVar Y S0 L (nxR st) (by simp only [nxR]; omega) (deep + 1 : Nat) u.text) (fun _ => rfl) rfl rfl rfl rfl rfl (by rw [rdX_ren]; rfl) rfl (by rw [rdX_ren]; rfl) ?_
  refine R_run hg1.ok 1000 rfl rfl ?_
  refine R_retL ?_
  refine Lv.cons hg [0, 1, 2] (objs' := rdX S0 L ((varR (nxR st) u.text).2) deep ++ [.box [.lo 0 0], .box [.d (.v (.int .i64 1)), .d (.v (.string ByteArray.empty)), .d (.v (.int .i64 (varR (nxR st) u.text).1)), .d (.v (.slice none 0 0))], tkO u]) (rdDown_ok Y S0 L ((varR (nxR st) u.text).2) deep (Nat.le_of_lt hd)) (fun _ => rfl) rfl (by rw [rdB_ren]; rfl) rfl (by rw [rdB_ren]; rfl) ?_
  exact Lv.nil hg 2 5 (Nat.le_refl _) rfl rfl (hk ((varR (nxR st) u.text).2) _)
 rw [if_neg h2] at h
 refine R_if rfl rfl (fun h => absurd h (by simp [h2])) (fun _ => ?_) <;> refine R_run hg1.ok 1000 rfl rfl ?_
 by_cases h1 : u.kind = 1
 ·rw [if_pos h1] at h
  obtain ⟨y, hy, h⟩ := Option.map_eq_some_iff.1 h
  simp only [Bool.false_and, Bool.false_eq_true, if_false] at h
  subst h
  have hl := (hpk (by rw [h1]; decide)).2
  refine R_if rfl rfl (fun _ => ?_) (fun h => absurd h (by simp [h1])) <;> refine R_run hg1.ok 1000 rfl rfl ?_
  refine R_callSO hg1.ok hg1.gup hg1.wide hg1.Y [0, 1] (rdX S0 L y.2.2 (deep + 1 : Nat) ++ [.box [.lo 0 0], boxZ, tkO u]) (rdNamed_ok Y S0 L hL hS hT hG (deep + 1) (by omega) st hi hl hpl p u (hum (by rw [h1]; decide)) y hy) (fun _ => rfl) rfl rfl rfl rfl rfl (by rw [rdX_ren]; rfl) rfl (by rw [rdX_ren]; rfl) ?_
  refine R_run hg1.ok 1000 rfl rfl ?_
  refine R_retL ?_
  refine Lv.cons hg [0, 1, 2] (objs' := rdX S0 L (y.2.2) deep ++ [.box [.lo 0 0], bxT y.1, tkO u]) (rdDown_ok Y S0 L (y.2.2) deep (Nat.le_of_lt hd)) (fun _ => rfl) rfl (by rw [rdB_ren]; rfl) rfl (by rw [rdB_ren]; rfl) ?_
  exact Lv.nil hg 2 5 (Nat.le_refl _) rfl rfl (hk (y.2.2) _)
 rw [if_neg h1] at h
 refine R_if rfl rfl (fun h => absurd h (by simp [h1])) (fun _ => ?_) <;> refine R_run hg1.ok 1000 rfl rfl ?_
 cases hm1 : isMk u [40] with
 | true =>
  rw [hm1] at h hM1
  simp only [if_true] at h hM1
  have hl := (isMk_lt (hu ▸ hm1)).2
  obtain ⟨⟨y, st2⟩, hy, h⟩ := Option.map_eq_some_iff.1 h
  subst h
  refine R_callSO hg1.ok hg1.gup hg1.wide hg1.Y [0, 1] (rdX S0 L (nxR st) (deep + 1 : Nat) ++ [.box [.lo 0 0], boxZ, tkO u]) (hM1) (fun _ => rfl) rfl rfl rfl rfl rfl (by rw [rdX_ren]; rfl) rfl (by rw [rdX_ren]; rfl) ?_
  refine R_run hg1.ok 1000 rfl rfl ?_
  refine R_if rfl rfl (fun _ => ?_) (fun h => absurd h (by simp)) <;> refine R_run hg1.ok 1000 rfl rfl ?_
  refine R_callSO hg1.ok hg1.gup hg1.wide hg1.Y [0, 1] (rdX S0 L st2 (deep + 1 : Nat) ++ [.box [.lo 0 0], boxZ, tkO u]) (hT (deep + 1) 1200 (nxR st) y st2 hy (by omega) (hi.nx hl)) (fun _ => rfl) rfl rfl rfl rfl rfl (by rw [rdX_ren]; rfl) rfl (by rw [rdX_ren]; rfl) ?_
  refine R_run hg1.ok 1000 rfl rfl ?_
  refine R_callSO hg1.ok hg1.gup hg1.wide hg1.Y [0, 1] (rdX S0 L (mustR L S0.length st2 [41]) (deep + 1 : Nat) ++ [.box [.lo 0 0], boxZ, tkO u, bxT y]) (xMust Y S0 L hL st2 (deep + 1 : Nat) [41]) (fun _ => rfl) rfl rfl rfl rfl rfl (by rw [rdX_ren]; rfl) rfl (by rw [rdX_ren]; rfl) ?_
  refine R_run hg1.ok 1000 rfl rfl ?_
  refine R_retL ?_
  refine Lv.cons hg [0, 1, 2] (objs' := rdX S0 L (mustR L S0.length st2 [41]) deep ++ [.box [.lo 0 0], bxT y, tkO u, bxT y]) (rdDown_ok Y S0 L (mustR L S0.length st2 [41]) deep (Nat.le_of_lt hd)) (fun _ => rfl) rfl (by rw [rdB_ren]; rfl) rfl (by rw [rdB_ren]; rfl) ?_
  exact Lv.nil hg 2 5 (Nat.le_refl _) rfl rfl (hk (mustR L S0.length st2 [41]) _)
 | false =>
  rw [hm1] at h hM1
  simp only [Bool.false_eq_true, if_false] at h hM1
  refine R_callSO hg1.ok hg1.gup hg1.wide hg1.Y [0, 1] (rdX S0 L st (deep + 1 : Nat) ++ [.box [.lo 0 0], boxZ, tkO u]) (hM1) (fun _ => rfl) rfl rfl rfl rfl rfl (by rw [rdX_ren]; rfl) rfl (by rw [rdX_ren]; rfl) ?_
  refine R_run hg1.ok 1000 rfl rfl ?_
  refine R_if rfl rfl (fun h => absurd h (by simp)) (fun _ => ?_) <;> refine R_run hg1.ok 1000 rfl rfl ?_
  cases hm2 : isMk u [91] with
  | true =>
   rw [hm2] at h hM2
   simp only [if_true] at h hM2
   have hl := (isMk_lt (hu ▸ hm2)).2
   obtain ⟨⟨y, st2⟩, hy, h⟩ := Option.map_eq_some_iff.1 h
   subst h
   refine R_callSO hg1.ok hg1.gup hg1.wide hg1.Y [0, 1] (rdX S0 L (nxR st) (deep + 1 : Nat) ++ [.box [.lo 0 0], boxZ, tkO u]) (hM2) (fun _ => rfl) rfl rfl rfl rfl rfl (by rw [rdX_ren]; rfl) rfl (by rw [rdX_ren]; rfl) ?_
   refine R_run hg1.ok 1000 rfl rfl ?_
   refine R_if rfl rfl (fun _ => ?_) (fun h => absurd h (by simp)) <;> refine R_run hg1.ok 1000 rfl rfl ?_
   refine R_callSO hg1.ok hg1.gup hg1.wide hg1.Y [0, 1] (rdX S0 L st2 (deep + 1 : Nat) ++ [.box [.lo 0 0], boxZ, tkO u]) (rdList_ok Y S0 L hL hT hG (deep + 1) (by omega) (nxR st) (hi.nx hl) y st2 hy) (fun _ => rfl) rfl rfl rfl rfl rfl (by rw [rdX_ren]; rfl) rfl (by rw [rdX_ren]; rfl) ?_
   refine R_run hg1.ok 1000 rfl rfl ?_
   refine R_retL ?_
   refine Lv.cons hg [0, 1, 2] (objs' := rdX S0 L (st2) deep ++ [.box [.lo 0 0], bxT y, tkO u]) (rdDown_ok Y S0 L (st2) deep (Nat.le_of_lt hd)) (fun _ => rfl) rfl (by rw [rdB_ren]; rfl) rfl (by rw [rdB_ren]; rfl) ?_
   exact Lv.nil hg 2 5 (Nat.le_refl _) rfl rfl (hk (st2) _)
  | false =>
   rw [hm2] at h hM2
   simp only [Bool.false_eq_true, if_false] at h hM2
   cases h
   refine R_callSO hg1.ok hg1.gup hg1.wide hg1.Y [0, 1] (rdX S0 L st (deep + 1 : Nat) ++ [.box [.lo 0 0], boxZ, tkO u]) (hM2) (fun _ => rfl) rfl rfl rfl rfl rfl (by rw [rdX_ren]; rfl) rfl (by rw [rdX_ren]; rfl) ?_
   refine R_run hg1.ok 1000 rfl rfl ?_
   refine R_if rfl rfl (fun h => absurd h (by simp)) (fun _ => ?_) <;> refine R_run hg1.ok 1000 rfl rfl ?_
   refine R_callSO hg1.ok hg1.gup hg1.wide hg1.Y [0, 1] (rdX S0 L (failR L S0.length st 2) (deep + 1 : Nat) ++ [.box [.lo 0 0], boxZ, tkO u]) (xFail Y S0 L st (deep + 1 : Nat) 2) (fun _ => rfl) rfl rfl rfl rfl rfl (by rw [rdX_ren]; rfl) rfl (by rw [rdX_ren]; rfl) ?_
   refine R_run hg1.ok 1000 rfl rfl ?_
   refine R_retL ?_
   refine Lv.cons hg [0, 1, 2] (objs' := rdX S0 L (failR L S0.length st 2) deep ++ [.box [.lo 0 0], boxZ, tkO u]) (rdDown_ok Y S0 L (failR L S0.length st 2) deep (Nat.le_of_lt hd)) (fun _ => rfl) rfl (by rw [rdB_ren]; rfl) rfl (by rw [rdB_ren]; rfl) ?_
   exact Lv.nil hg 2 5 (Nat.le_refl _) rfl rfl (hk (failR L S0.length st 2) _)
end Go.Proofs.YtcgkgofmldhokaaGreat

namespace Go.Proofs.YtcgkgofmldhokaaGreat
open Go PSL Go.Proofs
def pfTrm : Nat → Cls := fun f => bif Nat.beq f 4000100060 then .look 104 else bif Nat.beq f 4000200005 then .turn 103 else .eff

def trmE (S0 : Bs) (L : List Tk) (deep p : Int) : (Nat × RSt × Tm × Int) → Env × List Ob
 | (_, st, out, now) => ([(0, .lo 0 0), (1, iV p), (4, .lo 2 0), (5, .lo 3 0), (6, iV now)], rdX S0 L st deep ++ [boxZ, bxT out])
theorem peek_ins (L : List Tk) (st : RSt) : peekR L (inS L st) = peekR L st := by unfold inS; split <;> rfl

set_option maxRecDepth 100000 in
theorem rdStep_ok (Y : YP) (S0 : Bs) (L : List Tk) (hL : L.length ≤ 9000) (hS : S0.length ≤ 9000) {T : TF} (hT : TCtr Y S0 L T) (hG : TGood L T) (hpl : ∀ t ∈ L, 0 ≤ t.at_ ∧ t.at_ < S0.length ∧ 0 ≤ t.n ∧ t.n ≤ 9223372036854775807) :
  TCtr Y S0 L (fun deep p st => (opndR false S0 L T deep p st).bind fun x => restR L T (L.length + 2) deep p x.1 x.2.1 x.2.2) := by
 intro deep p st t st' h hd hi
 obtain ⟨x, hx, h⟩ := Option.bind_eq_some_iff.1 h
 refine SCtr.of_R (pf := pfTrm) tyOk mixed Tryz.func95 rfl (by kernel_rfl) (by kernel_rfl) (by simp [Tryz.ntmps95]) (by simp [rdX, rdO, robj]) fun w S φ hg => ?_
 have hφ : φ.length = 2 := hg.hs0.len
 have hk : ∀ (st : RSt) (o : List Ob), (rdX S0 L st deep).map (mapOb (sealT false 2 o 5)) = rdX S0 L st deep := fun st o => rdX_keep _ _ _ _ _ _ (Nat.le_refl _)
 refine R_run hg.ok 1000 rfl rfl ?_
 refine R_callSO hg.ok hg.gup hg.wide hg.Y [0, 1] (rdX S0 L x.2.2 deep ++ [boxZ]) (rdOpnd_ok Y S0 L hL hS hT hG deep hd st hi hpl p x hx) (fun _ => rfl) rfl rfl rfl rfl rfl (by rw [rdX_ren]; rfl) rfl (by rw [rdX_ren]; rfl) ?_
 refine R_run hg.ok 1000 rfl rfl ?_
 refine R_storeJ hg.ok rfl rfl rfl rfl rfl rfl rfl rfl rfl ?_
 refine R_run hg.ok 1000 rfl rfl ?_
 refine R_loop (trmE S0 L deep p) (fun y => restR L T y.1 deep p y.2.2.1 y.2.2.2 y.2.1 = some (t, st') ∧ RInv L y.2.1) (fun y => y.1) (L.length + 2, x.2.2, x.1, x.2.1) ⟨h, opnd_inv hG hx hi⟩ ⟨.refl _, .refl _, .refl _, .refl _, .refl _, trivial⟩ rfl ?_
 rintro ⟨f, st1, out, now⟩ ⟨hm, hi1⟩
 simp only at hm hi1
 cases f with
 | zero => cases hm
 | succ f =>
 simp only [restR] at hm
 refine R_run hg.ok 1000 rfl rfl ?_
 by_cases he : st1.e = 0
 ·rw [if_neg (by simp [he])] at hm
  refine R_if rfl rfl (fun _ => ?_) (fun h => absurd h (by simp [he])) <;> refine R_run hg.ok 1000 rfl rfl ?_
  have hI := xIn Y S0 L st1 deep
  cases hin : inT (peekR L st1) with
  | none =>
   rw [hin] at hm hI
   simp only at hm
   obtain ⟨rfl, rfl⟩ := Prod.mk.inj (Option.some.inj hm)
   simp only [infA] at hI
   refine R_callSO hg.ok hg.gup hg.wide hg.Y [0, 1] (rdX S0 L (inS L st1) deep ++ [boxZ, bxT out]) (hI) (fun _ => rfl) rfl rfl rfl rfl rfl (by rw [rdX_ren]; rfl) rfl (by rw [rdX_ren]; rfl) ?_
   refine R_run hg.ok 1000 rfl rfl ?_
   refine R_if rfl rfl (fun _ => ?_) (fun h => absurd h (by simp)) <;> refine R_run hg.ok 1000 rfl rfl ?_
   exact R_retS hg 2 5 (Nat.le_refl _) rfl rfl (hk _ _)
  | some z =>
   obtain ⟨q, l, r⟩ := z
   rw [hin] at hm hI
   simp only at hm
   simp only [infA] at hI
   refine R_callSO hg.ok hg.gup hg.wide hg.Y [0, 1] (rdX S0 L (inS L st1) deep ++ [boxZ, bxT out]) (hI) (fun _ => rfl) rfl rfl rfl rfl rfl (by rw [rdX_ren]; rfl) rfl (by rw [rdX_ren]; rfl) ?_
   refine R_run hg.ok 1000 rfl rfl ?_
   refine R_if rfl rfl (fun h => absurd h (by simp)) (fun _ => ?_) <;> refine R_run hg.ok 1000 rfl rfl ?_
   by_cases hq : q > p
   ·rw [if_pos (.inl hq)] at hm
    obtain ⟨rfl, rfl⟩ := Prod.mk.inj (Option.some.inj hm)
    refine R_if rfl rfl (fun _ => ?_) (fun h => absurd h (by simp [hq])) <;> refine R_run hg.ok 1000 rfl rfl ?_
    exact R_retS hg 2 5 (Nat.le_refl _) rfl rfl (hk _ _)
   ·refine R_if rfl rfl (fun h => absurd h (by simp [hq])) (fun _ => ?_) <;> refine R_run hg.ok 1000 rfl rfl ?_
    by_cases hn : now > l
    ·rw [if_pos (.inr hn)] at hm
     obtain ⟨rfl, rfl⟩ := Prod.mk.inj (Option.some.inj hm)
     refine R_if rfl rfl (fun _ => ?_) (fun h => absurd h (by simp [hn])) <;> refine R_run hg.ok 1000 rfl rfl ?_
     exact R_retS hg 2 5 (Nat.le_refl _) rfl rfl (hk _ _)
    ·rw [if_neg (by rintro (h | h); exact hq h; exact hn h)] at hm
     obtain ⟨⟨y, st2⟩, hy, hm⟩ := Option.bind_eq_some_iff.1 hm
     refine R_if rfl rfl (fun h => absurd h (by simp [hn])) (fun _ => ?_) <;> refine R_run hg.ok 1000 rfl rfl ?_
     have hat := inS_at L st1
     have hl1 := (ins_lt hin).2
     refine R_callSO hg.ok hg.gup hg.wide hg.Y [0, 1] (rdX S0 L (inS L st1) deep ++ [boxZ, bxT out, .box [iV q, iV l, iV r]]) (xPeek Y S0 L (inS L st1) deep) (fun _ => rfl) rfl rfl rfl rfl rfl (by rw [rdX_ren]; rfl) rfl (by rw [rdX_ren]; rfl) ?_
     first
     | (refine R_run hg.ok 1 rfl rfl ?_; refine R_rdAt (st := inS L st1) ((inS L st1).at_ + 1) (rfl) (by omega) rfl ?_)
     | (refine R_run hg.ok 2 rfl rfl ?_; refine R_rdAt (st := inS L st1) ((inS L st1).at_ + 1) (rfl) (by omega) rfl ?_)
     | (refine R_run hg.ok 3 rfl rfl ?_; refine R_rdAt (st := inS L st1) ((inS L st1).at_ + 1) (rfl) (by omega) rfl ?_)
     | (refine R_run hg.ok 4 rfl rfl ?_; refine R_rdAt (st := inS L st1) ((inS L st1).at_ + 1) (rfl) (by omega) rfl ?_)
     | (refine R_run hg.ok 5 rfl rfl ?_; refine R_rdAt (st := inS L st1) ((inS L st1).at_ + 1) (rfl) (by omega) rfl ?_)
     | (refine R_run hg.ok 6 rfl rfl ?_; refine R_rdAt (st := inS L st1) ((inS L st1).at_ + 1) (rfl) (by omega) rfl ?_)
     | (refine R_run hg.ok 7 rfl rfl ?_; refine R_rdAt (st := inS L st1) ((inS L st1).at_ + 1) (rfl) (by omega) rfl ?_)
     refine R_run hg.ok 1000 rfl rfl ?_
     have hi3 : RInv L (nxR (inS L st1)) := hi1.ins.nx (by rw [hat]; exact hl1)
     refine R_callSO hg.ok hg.gup hg.wide hg.Y [0, 1] (rdX S0 L st2 deep ++ [boxZ, bxT out, .box [iV q, iV l, iV r]]) (hT deep r _ y st2 hy hd hi3) (fun _ => rfl) rfl rfl rfl rfl rfl (by rw [rdX_ren]; rfl) rfl (by rw [rdX_ren]; rfl) ?_
     refine R_run hg.ok 1000 rfl rfl ?_
     refine R_loadJ hg.ok 103 (i := 4) (by unfold mayO; rintro (⟨h, _⟩ | h | ⟨h, _⟩) <;> omega) rfl rfl rfl rfl rfl rfl rfl ?_
     refine R_run hg.ok 1000 rfl rfl ?_
     refine R_storeJ hg.ok rfl rfl rfl rfl rfl rfl rfl rfl rfl ?_
     refine R_run hg.ok 1000 rfl rfl ?_
     have hb : Ob.box [.d (.v (.int .i64 3)), .d (.v (.string (Tx (peekR L st1).text))), .d (.v (.int .i64 0)), .d (.sl [rwT out, rwT y])] = bxT (fnT (peekR L st1).text [out, y]) := by rw [bxT_fn, ← rwT_rows]; rfl
     refine R_obs (rdX S0 L st2 deep ++ [boxZ, .box [.d (.v (.int .i64 3)), .d (.v (.string (Tx (peekR L (inS L st1)).text))), .d (.v (.int .i64 0)), .d (.sl [rwT out, rwT y])], .box [iV q, iV l, iV r], bxT y]) ⟨.refl _, .refl _, .refl _, ⟨.refl _, .refl _, .refl _, Ent.fs _, trivial⟩, .refl _, .refl _, trivial⟩ rfl ?_
     refine R_dropO 4 (rdX S0 L st2 deep ++ [boxZ, bxT (fnT (peekR L st1).text [out, y])]) (by show φ.length ≤ _; omega) rfl ?_ ?_
     ·rw [peek_ins, hb]
      unfold rdX rdO robj; generalize st2.lay = b; cases b <;> rfl
     exact R_next (f, st2, fnT (peekR L st1).text [out, y], q) ⟨hm, hG _ _ _ _ _ hy hi3⟩ (by simp only; omega) ⟨.refl _, .refl _, .refl _, .refl _, .refl _, trivial⟩ rfl
 ·rw [if_pos he] at hm
  cases hm
  refine R_if rfl rfl (fun h => absurd h (by simp [he])) (fun _ => ?_) <;> refine R_run hg.ok 1000 rfl rfl ?_
  exact R_retS hg 2 5 (Nat.le_refl _) rfl rfl (hk _ _)

theorem rdTerm_ok (Y : YP) (S0 : Bs) (L : List Tk) (hL : L.length ≤ 9000) (hS : S0.length ≤ 9000) (hpl : ∀ t ∈ L, 0 ≤ t.at_ ∧ t.at_ < S0.length ∧ 0 ≤ t.n ∧ t.n ≤ 9223372036854775807) : ∀ n, TCtr Y S0 L (termR false S0 L n)
 | 0 => fun _ _ _ _ _ h => by cases h
 | n + 1 => fun deep p st t st' h hd hi => rdStep_ok Y S0 L hL hS (rdTerm_ok Y S0 L hL hS hpl n) (term_inv false S0 L n) hpl deep p st t st' h hd hi
end Go.Proofs.YtcgkgofmldhokaaGreat

namespace Go.Proofs.YtcgkgofmldhokaaGreat
open Go PSL Go.Proofs
def clRow (x : Clau) : List D := [.v (.int .i64 x.1.k), .v (.string x.1.s), .v (.int .i64 x.1.n), .sl (Tm.rows x.1.l), .sl (strRows x.2)]
def clRows (l : List Clau) : List (List D) := l.map clRow
theorem clRows_len (l : List Clau) : (clRows l).length = l.length := by simp [clRows]

def cl1 (S : Bs) (L : List Tk) (st : RSt) : Ob := .box [.d (.v (.string (Tx S))), .d (.sl (tkRows L)), iV st.at_, .d (.sl (strRows st.names)), iV 0, iV st.bad, iV st.e, .d (.v (.int .u32 (if st.lay then 1 else 0))), .d (.v (.int .i32 0)), .d (.v (.int .u32 0)), tblV st.lay]
def cl2 (S : Bs) (L : List Tk) (st : RSt) : Ob := .box [.d (.v (.string (Tx S))), .d (.sl (tkRows L)), iV st.at_, .ow 2 st.names.length, iV 0, iV st.bad, iV st.e, .d (.v (.int .u32 (if st.lay then 1 else 0))), .d (.v (.int .i32 0)), .d (.v (.int .u32 0)), tblV st.lay]
def clO (S : Bs) (L : List Tk) (st : RSt) (j : Nat) (out : List Clau) : List Ob := [cl2 S L st, .arr 5 j (clRows out), .arr 1 st.names.length (strRows st.names)]
theorem rdX_ren02 (S : Bs) (L : List Tk) (st : RSt) (n : Nat) : (rdX S L st 0).map (renOb (rn [0, 2] n)) = [cl2 S L st, .arr 1 st.names.length (strRows st.names)] := robj_ren _ _ _ _ _ _ _ _ _ _ _

theorem cl1_keep (S : Bs) (L : List Tk) (st : RSt) (o : List Ob) : [cl1 S L st].map (mapOb (sealT false 1 o 5)) = [cl1 S L st] := by
 unfold cl1; generalize st.lay = b; cases b <;> rfl

theorem cl1_ren (S : Bs) (L : List Tk) (st : RSt) (n : Nat) : [cl1 S L st].map (renOb (rn [0] n)) = [cl1 S L st] := by
 unfold cl1; generalize st.lay = b; cases b <;> rfl

set_option maxRecDepth 100000 in
theorem clPlace_ok (Y : YP) (S0 : Bs) (L : List Tk) (st : RSt) : SCtr Tryz.prog Y 94 [.lo 0 0] [cl1 S0 L st] (iV (plcR L S0.length st.at_)) [cl1 S0 L st] := by
 refine SCtr.of_R (pf := fun _ => .eff) tyOk mixed Tryz.func94 rfl (by kernel_rfl) (by kernel_rfl) (by simp [Tryz.ntmps94]) (by simp) fun w S φ hg => ?_
 have hk : ∀ o : List Ob, [cl1 S0 L st].map (mapOb (sealT false 1 o 5)) = [cl1 S0 L st] := fun o => cl1_keep _ _ _ _
 refine R_run hg.ok 1000 rfl rfl ?_
 refine R_if rfl rfl (fun h => ?_) (fun h => ?_) <;> refine R_run hg.ok 1000 rfl rfl ?_
 ·have hl : st.at_ < L.length := by have := of_decide_eq_true h; rw [tkRows_len] at this; omega
  have e1 : L[st.at_]? = some L[st.at_] := List.getElem?_eq_getElem hl
  rw [show plcR L S0.length st.at_ = L[st.at_].at_ by unfold plcR; rw [e1]]
  generalize L[st.at_] = t at e1
  refine R_index hg.ok rfl rfl rfl rfl rfl rfl (Int.natCast_nonneg _) (tkRows_get e1) rfl ?_
  refine R_run hg.ok 1000 rfl rfl ?_
  exact R_retS hg 1 5 (Nat.le_refl _) rfl rfl (hk _)
 ·have hl : L.length ≤ st.at_ := by have := of_decide_eq_false h; rw [tkRows_len] at this; omega
  rw [show plcR L S0.length st.at_ = (S0.length : Int) by unfold plcR; rw [List.getElem?_eq_none hl]]
  refine R_see 2 rfl (v' := iV S0.length) (by rw [show ((Tx S0).size : Int) = S0.length by rw [Tx_size]]; exact .refl _) ?_
  exact R_retS hg 1 5 (Nat.le_refl _) rfl rfl (hk _)

def clsE (S0 : Bs) (L : List Tk) : (Nat × RSt × List Clau × Nat) → Env × List Ob
 | (_, st, out, j) => ([(5, .d (.sl (tkRows L))), (8, .lo 0 0), (9, .ow 1 j)], [cl1 S0 L st, .arr 5 j (clRows out)])

set_option maxRecDepth 100000 in
theorem clauses_ok (S0 : Bs) (hS : S0.length ≤ 9000) (L : List Tk) (hL : L.length ≤ 9000) (hpl : ∀ t ∈ L, 0 ≤ t.at_ ∧ t.at_ < S0.length ∧ 0 ≤ t.n ∧ t.n ≤ 9223372036854775807) (htk : tokR S0 = .tup [.d (.sl (tkRows L)), iV 0, iV 0])
  (n : Nat) (hb : ∀ st t st', RInv L st → termR false S0 L n 0 1200 st = some (t, st') → st'.e = 0 → t.size < 1000000000 ∧ ∀ e ∈ t.els 1, e.2.s.size < 1000000000) (c : List Clau) (a e : Int) (h : clsR rightT L S0.length (termR false S0 L n) (L.length + 1) ⟨0, [], 0, 0, false⟩ [] = some (c, a, e)) :
  PCtr Tryz.prog 63 [txA S0] (.tup [.d (.sl (clRows c)), iV a, iV e]) := by
 have hT := rdTerm_ok ⟨[], fun _ => true⟩ S0 L hL hS hpl n
 have hG := term_inv false S0 L n
 have hTk := tokens_ok S0 hS
 rw [htk] at hTk
 refine PCtr.of_R (pf := fun _ => .eff) tyOk mixed Tryz.func63 rfl (by kernel_rfl) (by kernel_rfl) (by simp [Tryz.ntmps63]) fun w S hg => ?_
 refine R_run hg.ok 1000 rfl rfl ?_
 refine R_call hg.ok (hTk) rfl rfl rfl rfl rfl rfl ?_
 refine R_run hg.ok 1000 rfl rfl ?_
 refine R_if rfl rfl (fun h => absurd h (by simp)) (fun _ => ?_)
 first
 | (refine R_run hg.ok 1 rfl rfl ?_; refine R_own 9 5 rfl rfl ?_)
 | (refine R_run hg.ok 2 rfl rfl ?_; refine R_own 9 5 rfl rfl ?_)
 | (refine R_run hg.ok 3 rfl rfl ?_; refine R_own 9 5 rfl rfl ?_)
 | (refine R_run hg.ok 4 rfl rfl ?_; refine R_own 9 5 rfl rfl ?_)
 | (refine R_run hg.ok 5 rfl rfl ?_; refine R_own 9 5 rfl rfl ?_)
 | (refine R_run hg.ok 6 rfl rfl ?_; refine R_own 9 5 rfl rfl ?_)
 | (refine R_run hg.ok 7 rfl rfl ?_; refine R_own 9 5 rfl rfl ?_)
 | (refine R_run hg.ok 8 rfl rfl ?_; refine R_own 9 5 rfl rfl ?_)
 | (refine R_run hg.ok 9 rfl rfl ?_; refine R_own 9 5 rfl rfl ?_)
 refine R_obs [cl1 S0 L ⟨0, [], 0, 0, false⟩, .arr 5 0 []] ⟨⟨.refl _, .refl _, .refl _, Ent.nil, .refl _, .refl _, .refl _, .refl _, .refl _, .refl _, .refl _, trivial⟩, .refl _, trivial⟩ rfl ?_
 refine R_run hg.ok 1000 rfl rfl ?_
 refine R_loop (clsE S0 L) (fun x => clsR rightT L S0.length (termR false S0 L n) x.1 x.2.1 x.2.2.1 = some (c, a, e) ∧ x.2.1.e = 0 ∧ x.2.2.1.length + x.1 ≤ L.length + 1 ∧ x.2.1.at_ ≤ L.length) (fun x => x.1) (L.length + 1, ⟨0, [], 0, 0, false⟩, [], 0) ⟨h, rfl, by simp, Nat.zero_le _⟩ ⟨.refl _, .refl _, .refl _, trivial⟩ rfl ?_
 rintro ⟨f, st, out, j⟩ ⟨hm, he0, hlo, hat⟩
 simp only at hm he0 hlo hat
 cases f with
 | zero => cases hm
 | succ f =>
 simp only [clsR] at hm
 refine R_run hg.ok 1000 rfl rfl ?_
 by_cases hat2 : st.at_ < L.length
 ·rw [if_pos hat2] at hm
  refine R_if rfl rfl (fun _ => ?_) (fun h => absurd h (by simp [tkRows_len]; omega)) <;> refine R_run hg.ok 1000 rfl rfl ?_
  refine R_callSO hg.ok hg.gup ⟨rfl, rfl⟩ (fun _ _ _ _ h => by cases h) [0] [cl1 S0 L st, .arr 5 j (clRows out)] (clPlace_ok ⟨[], fun _ => true⟩ S0 L st) (fun _ => rfl) rfl rfl rfl rfl rfl (by rw [cl1_ren]; rfl) rfl (by rw [cl1_ren]; rfl) ?_
  first
  | (refine R_run hg.ok 1 rfl rfl ?_; refine R_ownB 0 3 1 rfl rfl rfl ?_)
  | (refine R_run hg.ok 2 rfl rfl ?_; refine R_ownB 0 3 1 rfl rfl rfl ?_)
  | (refine R_run hg.ok 3 rfl rfl ?_; refine R_ownB 0 3 1 rfl rfl rfl ?_)
  | (refine R_run hg.ok 4 rfl rfl ?_; refine R_ownB 0 3 1 rfl rfl rfl ?_)
  | (refine R_run hg.ok 5 rfl rfl ?_; refine R_ownB 0 3 1 rfl rfl rfl ?_)
  | (refine R_run hg.ok 6 rfl rfl ?_; refine R_ownB 0 3 1 rfl rfl rfl ?_)
  | (refine R_run hg.ok 7 rfl rfl ?_; refine R_ownB 0 3 1 rfl rfl rfl ?_)
  | (refine R_run hg.ok 8 rfl rfl ?_; refine R_ownB 0 3 1 rfl rfl rfl ?_)
  | (refine R_run hg.ok 9 rfl rfl ?_; refine R_ownB 0 3 1 rfl rfl rfl ?_)
  obtain ⟨⟨t, st1⟩, ht, hm⟩ := Option.bind_eq_some_iff.1 hm
  have hi0 : RInv L { st with names := [] } := ⟨Nat.zero_le _, hat⟩
  have hi1 := hG _ _ _ _ _ ht hi0
  have hc1 : SCtr Tryz.prog ⟨[], fun _ => true⟩ 95 [.lo 0 0, iV 1200] (rdX S0 L { st with names := [] } 0) t.av (rdX S0 L st1 0) := hT 0 1200 { st with names := [] } t st1 ht (by decide) hi0
  refine R_run hg.ok 1000 rfl rfl ?_
  refine R_callSO hg.ok hg.gup ⟨rfl, rfl⟩ (fun _ _ _ _ h => by cases h) [0, 2] (clO S0 L st1 j out) (hc1) (fun _ => rfl) rfl rfl rfl rfl rfl (by rw [rdX_ren02]; rfl) rfl (by rw [rdX_ren02]; rfl) ?_
  refine R_run hg.ok 1000 rfl rfl ?_
  refine R_callSO hg.ok hg.gup ⟨rfl, rfl⟩ (fun _ _ _ _ h => by cases h) [0, 2] (clO S0 L st1 j out ++ [bxT t]) (xPeek ⟨[], fun _ => true⟩ S0 L st1 0) (fun _ => rfl) rfl rfl rfl rfl rfl (by rw [rdX_ren02]; rfl) rfl (by rw [rdX_ren02]; rfl) ?_
  refine R_run hg.ok 1000 rfl rfl ?_
  simp only at hm
  obtain ⟨st2, hst2⟩ : ∃ st2, st2 = (if (peekR L st1).kind ≠ 5 then failR L S0.length st1 2 else st1) := ⟨_, rfl⟩
  rw [← hst2] at hm
  have h2 : st2.e = 0 → st1.e = 0 ∧ st1.at_ < L.length ∧ st2 = st1 := fun h => by
   by_cases hk5 : (peekR L st1).kind ≠ 5
   ·rw [if_pos hk5] at hst2; subst hst2
    unfold failR at h; split at h
    ·cases h
    ·rename_i hne; exact absurd h hne
   ·rw [if_neg hk5] at hst2
    have := peek_lt (L := L) (st := st1) (by rw [Decidable.not_not.1 hk5]; decide)
    exact ⟨this.1, this.2, hst2⟩
  refine R_cut1 (fun _ : Unit => ([(5, .d (.sl (tkRows L))), (8, .lo 0 0), (9, .ow 1 j), (10, iV (plcR L S0.length st.at_)), (11, .lo 3 0)], clO S0 L st2 j out ++ [bxT t])) (fun _ => True) rfl ?_ ?_
  ·by_cases hk5 : (peekR L st1).kind ≠ 5
   ·rw [if_pos hk5] at hst2
    refine R_if rfl rfl (fun _ => ?_) (fun h => absurd h (by simp [hk5])) <;> refine R_run hg.ok 1000 rfl rfl ?_
    refine R_callSO hg.ok hg.gup ⟨rfl, rfl⟩ (fun _ _ _ _ h => by cases h) [0, 2] (clO S0 L (failR L S0.length st1 2) j out ++ [bxT t]) (xFail ⟨[], fun _ => true⟩ S0 L st1 0 2) (fun _ => rfl) rfl rfl rfl rfl rfl (by rw [rdX_ren02]; rfl) rfl (by rw [rdX_ren02]; rfl) ?_
    refine R_run hg.ok 1000 rfl rfl ?_
    rw [← hst2]
    exact R_to () trivial ⟨.refl _, .refl _, .refl _, .refl _, .refl _, trivial⟩ rfl
   ·rw [if_neg hk5] at hst2
    refine R_if rfl rfl (fun h => absurd h (by simp [hk5])) (fun _ => ?_) <;> refine R_run hg.ok 1000 rfl rfl ?_
    rw [hst2]
    exact R_to () trivial ⟨.refl _, .refl _, .refl _, .refl _, .refl _, trivial⟩ rfl
  rintro _ _
  obtain ⟨st3, hst3⟩ : ∃ st3, st3 = (if st2.e = 0 ∧ rightT t = false then { st2 with e := 3, bad := plcR L S0.length st.at_ } else st2) := ⟨_, rfl⟩
  rw [← hst3] at hm
  refine R_run hg.ok 1000 rfl rfl ?_
  by_cases h0 : st2.e = 0
  ·obtain ⟨h3, h4, h5⟩ := h2 h0
   have hbt := hb _ _ _ hi0 ht h3
   have hR := right_ok t hbt.1 hbt.2
   refine R_if rfl rfl (fun _ => ?_) (fun h => absurd h (by simp [h0])) <;> refine R_run hg.ok 1000 rfl rfl ?_
   cases hr : rightT t with
   | false =>
    have hst3 : st3 = { st2 with e := 3, bad := plcR L S0.length st.at_ } := by rw [hst3, hr]; exact if_pos ⟨h0, rfl⟩
    subst hst3
    rw [hr] at hR
    rw [if_pos (show ((3 : Int) ≠ 0) by decide)] at hm
    cases hm
    refine R_call hg.ok (hR) rfl rfl rfl rfl rfl rfl ?_
    refine R_run hg.ok 1000 rfl rfl ?_
    refine R_if rfl rfl (fun _ => ?_) (fun h => absurd h (by simp)) <;> refine R_run hg.ok 1000 rfl rfl ?_
    refine R_if rfl rfl (fun _ => ?_) (fun h => absurd h (by simp)) <;> refine R_run hg.ok 1000 rfl rfl ?_
    refine R_ret hg 5 rfl rfl ?_
    rfl
   | true =>
    have hst3 : st3 = st2 := by rw [hst3, hr]; exact if_neg (by simp)
    rw [hst3] at hm
    rw [hr] at hR
    rw [if_neg (by simp [h0])] at hm
    refine R_call hg.ok (hR) rfl rfl rfl rfl rfl rfl ?_
    refine R_run hg.ok 1000 rfl rfl ?_
    refine R_if rfl rfl (fun h => absurd h (by simp)) (fun _ => ?_) <;> refine R_run hg.ok 1000 rfl rfl ?_
    refine R_if rfl rfl (fun h => absurd h (by simp [h0])) (fun _ => ?_)
    refine R_freezeO hg.gup 2 [(5, .d (.sl (tkRows L))), (8, .lo 0 0), (9, .ow 1 j), (11, .lo 3 0), (67, .ff)] [cl1 S0 L st2, .arr 5 j (clRows out), .dead, bxT t] rfl rfl ⟨.refl _, .refl _, .refl _, .refl _, .refl _, trivial⟩ ⟨⟨.refl _, .refl _, .refl _, Ent.frz 2 _ _, .refl _, .refl _, .refl _, .refl _, .refl _, .refl _, Ent.tblFrz 2 _ _ st2.lay, trivial⟩, rfl, by simp [ObIn], ⟨.refl _, .refl _, .refl _, .refl _, trivial⟩, trivial⟩ ?_
    have hnat : (nxR st2).at_ = st1.at_ + 1 := by rw [h5]; rfl
    first
    | (refine R_run hg.ok 1 rfl rfl ?_; refine R_obs [cl1 S0 L (nxR st2), .arr 5 j (clRows out), .dead, bxT t] ⟨⟨.refl _, .refl _, Ent.wrap rfl (by omega) (by omega), .refl _, .refl _, .refl _, .refl _, .refl _, .refl _, .refl _, .refl _, trivial⟩, .refl _, .refl _, .refl _, trivial⟩ rfl ?_)
    | (refine R_run hg.ok 2 rfl rfl ?_; refine R_obs [cl1 S0 L (nxR st2), .arr 5 j (clRows out), .dead, bxT t] ⟨⟨.refl _, .refl _, Ent.wrap rfl (by omega) (by omega), .refl _, .refl _, .refl _, .refl _, .refl _, .refl _, .refl _, .refl _, trivial⟩, .refl _, .refl _, .refl _, trivial⟩ rfl ?_)
    | (refine R_run hg.ok 3 rfl rfl ?_; refine R_obs [cl1 S0 L (nxR st2), .arr 5 j (clRows out), .dead, bxT t] ⟨⟨.refl _, .refl _, Ent.wrap rfl (by omega) (by omega), .refl _, .refl _, .refl _, .refl _, .refl _, .refl _, .refl _, .refl _, trivial⟩, .refl _, .refl _, .refl _, trivial⟩ rfl ?_)
    | (refine R_run hg.ok 4 rfl rfl ?_; refine R_obs [cl1 S0 L (nxR st2), .arr 5 j (clRows out), .dead, bxT t] ⟨⟨.refl _, .refl _, Ent.wrap rfl (by omega) (by omega), .refl _, .refl _, .refl _, .refl _, .refl _, .refl _, .refl _, .refl _, trivial⟩, .refl _, .refl _, .refl _, trivial⟩ rfl ?_)
    | (refine R_run hg.ok 5 rfl rfl ?_; refine R_obs [cl1 S0 L (nxR st2), .arr 5 j (clRows out), .dead, bxT t] ⟨⟨.refl _, .refl _, Ent.wrap rfl (by omega) (by omega), .refl _, .refl _, .refl _, .refl _, .refl _, .refl _, .refl _, .refl _, trivial⟩, .refl _, .refl _, .refl _, trivial⟩ rfl ?_)
    | (refine R_run hg.ok 6 rfl rfl ?_; refine R_obs [cl1 S0 L (nxR st2), .arr 5 j (clRows out), .dead, bxT t] ⟨⟨.refl _, .refl _, Ent.wrap rfl (by omega) (by omega), .refl _, .refl _, .refl _, .refl _, .refl _, .refl _, .refl _, .refl _, trivial⟩, .refl _, .refl _, .refl _, trivial⟩ rfl ?_)
    | (refine R_run hg.ok 7 rfl rfl ?_; refine R_obs [cl1 S0 L (nxR st2), .arr 5 j (clRows out), .dead, bxT t] ⟨⟨.refl _, .refl _, Ent.wrap rfl (by omega) (by omega), .refl _, .refl _, .refl _, .refl _, .refl _, .refl _, .refl _, .refl _, trivial⟩, .refl _, .refl _, .refl _, trivial⟩ rfl ?_)
    | (refine R_run hg.ok 8 rfl rfl ?_; refine R_obs [cl1 S0 L (nxR st2), .arr 5 j (clRows out), .dead, bxT t] ⟨⟨.refl _, .refl _, Ent.wrap rfl (by omega) (by omega), .refl _, .refl _, .refl _, .refl _, .refl _, .refl _, .refl _, .refl _, trivial⟩, .refl _, .refl _, .refl _, trivial⟩ rfl ?_)
    refine R_run hg.ok 1000 rfl rfl ?_
    refine R_appendO hg.ok (clRows (out ++ [(t, st2.names)])) rfl rfl rfl rfl rfl rfl rfl rfl rfl (by simp) (by simp [one1]) (by rw [clRows, clRows, List.map_append]; rfl) (by rw [clRows_len]; simp; omega) (by rw [clRows_len]; simp; omega) ?_
    refine R_run hg.ok 1000 rfl rfl ?_
    refine R_dropO 2 [cl1 S0 L (nxR st2), .arr 5 (j + 1) (clRows (out ++ [(t, st2.names)]))] (Nat.zero_le _) rfl ?_ ?_
    ·unfold cl1 nxR; simp only; generalize st2.lay = b; cases b <;> rfl
    exact R_next (f, nxR st2, out ++ [(t, st2.names)], j + 1) ⟨hm, h0, by simp; omega, by rw [h5]; exact h4⟩ (by simp only; omega) ⟨.refl _, .refl _, .refl _, trivial⟩ rfl
  ·have hst3 : st3 = st2 := by rw [hst3]; exact if_neg (fun h => h0 h.1)
   rw [hst3, if_pos h0] at hm
   cases hm
   refine R_if rfl rfl (fun h => absurd h (by simp [h0])) (fun _ => ?_) <;> refine R_run hg.ok 1000 rfl rfl ?_
   refine R_if rfl rfl (fun _ => ?_) (fun h => absurd h (by simp [h0])) <;> refine R_run hg.ok 1000 rfl rfl ?_
   refine R_ret hg 5 rfl rfl ?_
   rfl
 ·rw [if_neg hat2] at hm
  cases hm
  refine R_if rfl rfl (fun h => absurd h (by simp [tkRows_len]; omega)) (fun _ => ?_) <;> refine R_run hg.ok 1000 rfl rfl ?_
  exact R_ret hg 5 rfl (sealA_tup (mapO_cons (sealA_ow rfl) rfl)) rfl
end Go.Proofs.YtcgkgofmldhokaaGreat

namespace Go.Proofs.YtcgkgofmldhokaaGreat
open Go PSL Go.Proofs
end Go.Proofs.YtcgkgofmldhokaaGreat

namespace Go.Proofs.YtcgkgofmldhokaaGreat
open Go PSL Go.Proofs
end Go.Proofs.YtcgkgofmldhokaaGreat

namespace Go.Proofs.YtcgkgofmldhokaaGreat
open Go PSL Go.Proofs
end Go.Proofs.YtcgkgofmldhokaaGreat

namespace Go.Proofs.YtcgkgofmldhokaaGreat
open Go PSL Go.Proofs
end Go.Proofs.YtcgkgofmldhokaaGreat

namespace Go.Proofs.YtcgkgofmldhokaaGreat
open Go PSL Go.Proofs
end Go.Proofs.YtcgkgofmldhokaaGreat

namespace Go.Proofs.YtcgkgofmldhokaaGreat
open Go PSL Go.Proofs
end Go.Proofs.YtcgkgofmldhokaaGreat

namespace Go.Proofs.YtcgkgofmldhokaaGreat
open Go PSL Go.Proofs
end Go.Proofs.YtcgkgofmldhokaaGreat

namespace Go.Proofs.YtcgkgofmldhokaaGreat
open Go PSL Go.Proofs
end Go.Proofs.YtcgkgofmldhokaaGreat

namespace Go.Proofs.YtcgkgofmldhokaaGreat
open Go PSL Go.Proofs

def clA (x : Clau) : AV := .agg [.d (.v (.int .i64 x.1.k)), .d (.v (.string x.1.s)), .d (.v (.int .i64 x.1.n)), .d (.sl (Tm.rows x.1.l)), .d (.sl (strRows x.2))]

def oneR (n : Nat) : List Clau × Int × Int → Clau × Int × Int
 | (c, a, e) => if e ≠ 0 then ((zeroT, []), a, e) else match c with
  | [x] => (x, 0, 0)
  | _ => ((zeroT, []), n, 2)

set_option maxRecDepth 100000 in
theorem one_ok (S0 : Bs) (c : List Clau) (a e : Int) (h : PCtr Tryz.prog 63 [txA S0] (.tup [.d (.sl (clRows c)), iV a, iV e])) : PCtr Tryz.prog 67 [txA S0] (.tup [clA (oneR S0.length (c, a, e)).1, iV (oneR S0.length (c, a, e)).2.1, iV (oneR S0.length (c, a, e)).2.2]) := by
 unfold oneR
 simp only
 refine PCtr.of_R (pf := fun _ => .eff) tyOk mixed Tryz.func67 rfl (by kernel_rfl) (by kernel_rfl) (by simp [Tryz.ntmps67]) fun w S hg => ?_
 refine R_run hg.ok 1000 rfl rfl ?_
 refine R_call hg.ok (h) rfl rfl rfl rfl rfl rfl ?_
 refine R_run hg.ok 1000 rfl rfl ?_
 by_cases he : e ≠ 0
 ·rw [if_pos he]
  refine R_if rfl rfl (fun _ => ?_) (fun h => absurd h (by simp [he])) <;> refine R_run hg.ok 1000 rfl rfl ?_
  refine R_ret hg 5 rfl rfl ?_
  rfl
 rw [if_neg he]
 refine R_if rfl rfl (fun h => absurd h (by simpa using he)) (fun _ => ?_) <;> refine R_run hg.ok 1000 rfl rfl ?_
 match c with
 | [x] =>
  refine R_if rfl rfl (fun h => absurd h (by simp [clRows])) (fun _ => ?_) <;> refine R_run hg.ok 1000 rfl rfl ?_
  refine R_index hg.ok rfl rfl rfl rfl rfl rfl (by decide) (show (clRows [x])[Int.toNat 0]? = some (clRow x) from rfl) rfl ?_
  refine R_run hg.ok 1000 rfl rfl ?_
  refine R_ret hg 5 rfl rfl ?_
  rfl
 | [] =>
  refine R_if rfl rfl (fun _ => ?_) (fun h => absurd h (by simp [clRows])) <;> refine R_run hg.ok 1000 rfl rfl ?_
  refine R_ret hg 5 rfl rfl ?_
  rw [Tx_size]; rfl
 | x :: y :: l =>
  refine R_if rfl rfl (fun _ => ?_) (fun h => absurd h (by simp [clRows]; omega)) <;> refine R_run hg.ok 1000 rfl rfl ?_
  refine R_ret hg 5 rfl rfl ?_
  rw [Tx_size]; rfl
end Go.Proofs.YtcgkgofmldhokaaGreat

namespace PSL
open Go
end PSL

namespace PSL
open Go
def st0 : RSt := ⟨0, [], 0, 0, false⟩
end PSL

namespace Go.Proofs.YtcgkgofmldhokaaGreat
open Go PSL Go.Proofs
end Go.Proofs.YtcgkgofmldhokaaGreat

namespace Go.Proofs.YtcgkgofmldhokaaGreat
open Go PSL Go.Proofs
end Go.Proofs.YtcgkgofmldhokaaGreat

namespace Go.Proofs.YtcgkgofmldhokaaGreat
open Go PSL Go.Proofs
end Go.Proofs.YtcgkgofmldhokaaGreat

namespace Go.Proofs.YtcgkgofmldhokaaGreat
open Go PSL Go.Proofs
end Go.Proofs.YtcgkgofmldhokaaGreat

namespace Go.Proofs.YtcgkgofmldhokaaGreat
open Go PSL Go.Proofs
end Go.Proofs.YtcgkgofmldhokaaGreat

namespace Go.Proofs.YtcgkgofmldhokaaGreat
open Go PSL Go.Proofs
theorem clRows_get {c : List Clau} {i : Nat} {x : Clau} (h : c[i]? = some x) : (clRows c)[i]? = some (clRow x) := by simp [clRows, h]
theorem rightT_fun : rightT = Tm.rightB := funext rightT_eq

set_option maxRecDepth 100000 in
theorem clausesBad_ok (S0 : Bs) (a e : Int) (he : e ≠ 0) (h : PCtr Tryz.prog 93 [txA S0] (.tup [.d (.sl (tkRows [])), iV a, iV e])) : PCtr Tryz.prog 63 [txA S0] (.tup [.d (.sl (clRows [])), iV a, iV e]) := by
 refine PCtr.of_R (pf := fun _ => .eff) tyOk mixed Tryz.func63 rfl (by kernel_rfl) (by kernel_rfl) (by simp [Tryz.ntmps63]) fun w S hg => ?_
 refine R_run hg.ok 1000 rfl rfl ?_
 refine R_call hg.ok (h) rfl rfl rfl rfl rfl rfl ?_
 refine R_run hg.ok 1000 rfl rfl ?_
 refine R_if rfl rfl (fun _ => ?_) (fun h => absurd h (by simp [he])) <;> refine R_run hg.ok 1000 rfl rfl ?_
 refine R_ret hg 5 rfl rfl ?_
 rfl

theorem clausesT_ok (S0 : Bs) (hS : S0.length ≤ 9000) {c : List Clau} {a e : Int} (h : clauR rightT false S0 = some (c, a, e)) : PCtr Tryz.prog 63 [txA S0] (.tup [.d (.sl (clRows c)), iV a, iV e]) := by
 unfold clauR at h
 by_cases he : (tokT S0).2.2 ≠ 0
 ·rw [if_pos he] at h
  have ht := tokens_ok S0 hS
  unfold tokR at ht
  rw [(tok_bad he).1] at ht
  cases h
  exact clausesBad_ok S0 _ _ he ht
 ·rw [if_neg he] at h
  obtain ⟨h8, ht, _⟩ := tok_ok (Decidable.not_not.1 he)
  have hpl := toks_plc ht
  have hgd := toks_good _ _ _ _ ht
  have hlen := toks_len _ S0 0 _ ht
  refine clauses_ok S0 hS _ (by omega) (fun t ht => ⟨(hpl t ht).1, (hpl t ht).2, (hgd t ht).lo, (hgd t ht).hi⟩) (tokR_ok (by omega) ht) _ (fun st t st' hi hx he => ?_) c a e h
  have := read_small (by omega) hS hgd hi hx he
  exact ⟨by have := this.1; omega, fun e he => by have := this.2 1 e he; omega⟩
theorem oneT_ok9 (S0 : Bs) (hS : S0.length ≤ 9000) {c : List Clau} {a e : Int} (h : clauR rightT false S0 = some (c, a, e)) : PCtr Tryz.prog 67 [txA S0] (.tup [clA (oneR S0.length (c, a, e)).1, iV (oneR S0.length (c, a, e)).2.1, iV (oneR S0.length (c, a, e)).2.2]) := one_ok S0 c a e (clausesT_ok S0 hS h)
end Go.Proofs.YtcgkgofmldhokaaGreat

namespace Go.Proofs.YtcgkgofmldhokaaGreat
open Go PSL Go.Proofs

set_option maxRecDepth 100000 in
theorem goals_ok (t : Tm) (ht : SmT t) (hc : noCh t = true) : PCtr Tryz.prog 65 [t.av] (.tup [.d (.sl (Gl.rows (goalsT t).1)), iV (goalsT t).2]) := by
 have hs := ht.1
 have hD := (gol_ok ⟨[], fun _ => true⟩ t.size).2 t (20, 0) 1 true ht hc (Nat.le_refl _) (by simp only; omega) (by simp only; omega) (by omega) (by omega)
 refine PCtr.of_R (pf := fun _ => .eff) tyOk mixed Tryz.func65 rfl (by kernel_rfl) (by kernel_rfl) (by simp [Tryz.ntmps65]) fun w S hg => ?_
 refine R_run hg.ok 1000 rfl rfl ?_
 refine R_call hg.ok (right_ok t (by omega) (ht.2 1)) rfl rfl rfl rfl rfl rfl ?_
 refine R_run hg.ok 1000 rfl rfl ?_
 unfold goalsT
 by_cases hr : rightT t = true
 rotate_left
 ·rw [if_neg hr]
  have hr : rightT t = false := by simpa using hr
  refine R_if rfl rfl (fun _ => ?_) (fun h => absurd h (by simp [hr])) <;> refine R_run hg.ok 1000 rfl rfl ?_
  refine R_ret hg 5 rfl rfl ?_
  rfl
 rw [if_pos hr]
 refine R_if rfl rfl (fun h => absurd h (by simp [hr])) (fun _ => ?_) <;> refine R_run hg.ok 1000 rfl rfl ?_
 generalize golF t.size t (20, 0) 1 true = A at *
 refine R_callSO hg.ok hg.gup ⟨rfl, rfl⟩ (fun _ _ _ _ h => by cases h) [1] ([boxR t] ++ mkO A.2) (hD) (fun _ => rfl) rfl rfl rfl rfl rfl rfl rfl rfl ?_
 refine R_run hg.ok 1000 rfl rfl ?_
 by_cases he : A.2.2 ≠ 0
 ·rw [if_pos he]
  refine R_if rfl rfl (fun _ => ?_) (fun h => absurd h (by simp [he])) <;> refine R_run hg.ok 1000 rfl rfl ?_
  refine R_ret hg 5 rfl rfl ?_
  rfl
 ·rw [if_neg he]
  refine R_if rfl rfl (fun h => absurd h (by simp at he; simp [he])) (fun _ => ?_) <;> refine R_run hg.ok 1000 rfl rfl ?_
  refine R_ret hg 5 rfl rfl ?_
  rfl
end Go.Proofs.YtcgkgofmldhokaaGreat

namespace Go.Proofs.YtcgkgofmldhokaaGreat
open Go PSL Go.Proofs
theorem csRows_snoc (l : List Cs) (c : Cs) : Cs.rows l ++ [c.row] = Cs.rows (l ++ [c]) := by simp [Cs.rows]
def csB (x : Cs) : Ob := .box [.d (.v (.int .i64 x.head.k)), .d (.v (.string x.head.s)), .d (.v (.int .i64 x.head.n)), .d (.sl (Tm.rows x.head.l)), .d (.sl (Gl.rows x.body)), .d (.v (.int .i64 x.vars))]
theorem smT_right {t : Tm} (h : t.rightB = true) : SmT t := ⟨by have := (Tm.rightB_iff.1 h).2.1; omega, fun x e he => fair_names (right_fair h) x e he⟩
def clB (x : Clau) : Ob := .box [.d (.v (.int .i64 x.1.k)), .d (.v (.string x.1.s)), .d (.v (.int .i64 x.1.n)), .d (.sl (Tm.rows x.1.l)), .d (.sl (strRows x.2))]
def loadE (x : Clau) : Int := if sgOf x.1 = sgR then (goalsT (argT x.1 1)).2 else 0

theorem loadE_own (x : Clau) : (loadOne x).2 = if ownB (loadOne x).1.head = true then loadE x else 5 := by
 unfold loadOne loadE
 split <;> rfl

theorem loadOne_sm {x : Clau} (hx : ClG x) (hc : noCh x.1 = true) : SmC (loadOne x).1 := by
 have hs := smT_right hx.right
 have h3 := (Tm.rightB_iff.1 hx.right).2.1
 unfold loadOne
 by_cases h : sgOf x.1 = sgR
 ·rw [if_pos h]
  have hl : x.1.l.length = 2 := sg_len (n := 2) h
  have h1 : SmT (argT x.1 1) := hs.arg (by omega)
  have h2 := size_arg (t := x.1) (i := 1) (by omega)
  obtain ⟨g1, g2, _⟩ := golF_ok (argT x.1 1).size (argT x.1 1) (20, 0) 1 true h1
  refine ⟨hs.arg (by omega), ?_, ?_⟩
  ·simp only [goalsT]
   split
   ·split
    ·simp only [allGL]
    ·exact g1
   ·simp only [allGL]
  ·simp only [goalsT]
   split
   ·split
    ·simp [Gl.sizeL]
    ·simp only; omega
   ·simp [Gl.sizeL]
 ·rw [if_neg h]
  exact ⟨hs, by simp only [allGL], by simp [Gl.sizeL]⟩

set_option maxHeartbeats 4000000 in
set_option maxRecDepth 100000 in
theorem load_ok (S0 : Bs) (hS : S0.length ≤ 9000) {c : List Clau} {a e : Int} (h : clauR rightT false S0 = some (c, a, e)) (hc : ∀ x ∈ c, noCh x.1 = true) : PCtr Tryz.prog 29 [txA S0] (if e ≠ 0 then .tup [prV [], iV a, iV e] else .tup [prV (loadL c 0 []).1, iV (loadL c 0 []).2.1, iV (loadL c 0 []).2.2]) := by
 obtain ⟨_, f2, _, _⟩ := clau_facts hS h
 have hct := clau_count h
 have hrl := clRows_len c
 refine PCtr.of_R (pf := fun _ => .eff) tyOk mixed Tryz.func29 rfl (by kernel_rfl) (by kernel_rfl) (by simp [Tryz.ntmps29]) fun w S hg => ?_
 refine R_run hg.ok 1000 rfl rfl ?_
 refine R_call hg.ok (clausesT_ok S0 hS h) rfl rfl rfl rfl rfl rfl ?_
 refine R_run hg.ok 1000 rfl rfl ?_
 by_cases he : e ≠ 0
 ·rw [if_pos he]
  refine R_if rfl rfl (fun _ => ?_) (fun h => absurd h (by simp [he])) <;> refine R_run hg.ok 1000 rfl rfl ?_
  refine R_ret hg 5 rfl rfl ?_
  rfl
 rw [if_neg he]
 have he : e = 0 := Decidable.not_not.1 he
 subst he
 obtain ⟨_, hcn⟩ := f2 rfl
 refine R_if rfl rfl (fun h => absurd h (by simp)) (fun _ => ?_) <;> refine R_run hg.ok 1000 rfl rfl ?_
 refine R_ownB 1 0 6 rfl rfl rfl ?_
 refine R_loop (fun x : Nat × Nat × List Cs => ([(2, .lo 0 0), (8, .lo 1 0), (26, .d (.sl (clRows c))), (27, iV c.length), (28, iV x.1)], [.box [.d (.v (.slice none 0 0))], .box [.ow 2 x.2.1], .arr 6 x.2.1 (Cs.rows x.2.2)])) (fun x => x.1 ≤ c.length ∧ loadL c 0 [] = loadL (c.drop x.1) x.1 x.2.2 ∧ x.2.2.length ≤ x.1 ∧ ∀ y ∈ x.2.2, SmC y) (fun x => c.length - x.1) (0, 0, []) ⟨Nat.zero_le _, rfl, Nat.le_refl _, by simp⟩ ⟨.refl _, .refl _, .refl _, by rw [hrl]; exact .refl _, .refl _, trivial⟩ rfl ?_
 rintro ⟨k, s, out⟩ ⟨hk, hm, hol, hsm⟩
 have hm : loadL c 0 [] = loadL (c.drop k) k out := hm
 have hk : k ≤ c.length := hk
 have hol : out.length ≤ k := hol
 have hro := Cs.rows_len out
 refine R_run hg.ok 1000 rfl rfl ?_
 refine R_if rfl rfl (fun h => ?_) (fun h => ?_)
 ·refine R_run hg.ok 1000 rfl rfl ?_
  have hk1 : k < c.length := lt_dec h rfl
  have e1 : c[k]? = some c[k] := List.getElem?_eq_getElem hk1
  have hmem := List.getElem_mem hk1
  rw [List.drop_eq_getElem_cons hk1] at hm
  generalize c[k] = x at e1 hm hmem
  have hx := hcn x hmem
  have hnc := hc x hmem
  have hs := smT_right hx.right
  have hsm1 := loadOne_sm hx hnc
  simp only [loadL] at hm
  refine R_index hg.ok rfl rfl rfl rfl rfl rfl (Int.natCast_nonneg _) (clRows_get e1) rfl ?_
  refine R_run hg.ok 1000 rfl rfl ?_
  refine R_call hg.ok (signOf_ok x.1) rfl rfl rfl rfl rfl rfl ?_
  refine R_run hg.ok 1000 rfl rfl ?_
  refine R_eqK hg.ok (sgOf x.1) sgR signCmp rfl rfl rfl rfl ?_
  refine R_run hg.ok 1000 rfl rfl ?_
  refine R_cut1 (fun _ : Unit => ([(2, .lo 0 0), (8, .lo 1 0), (9, iV k), (11, .lo 4 0), (12, iV (loadE x)), (26, .d (.sl (clRows c))), (27, iV c.length), (28, iV k)], [.box [.d (.v (.slice none 0 0))], .box [.ow 2 s], .arr 6 s (Cs.rows out), clB x, csB (loadOne x).1])) (fun _ => True) rfl ?_ ?_
  ·by_cases hq : sgOf x.1 = sgR
   ·have hl : x.1.l.length = 2 := sg_len (n := 2) hq
    have hl0 : 0 < x.1.l.length := by omega
    have hl1 : 1 < x.1.l.length := by omega
    rw [show loadE x = (goalsT (argT x.1 1)).2 by unfold loadE; rw [if_pos hq], show (loadOne x).1 = ⟨argT x.1 0, (goalsT (argT x.1 1)).1, x.2.length⟩ by unfold loadOne; rw [if_pos hq]]
    refine R_if rfl rfl (fun _ => ?_) (fun h => absurd h (by simp [hq])) <;> refine R_run hg.ok 1000 rfl rfl ?_
    refine R_index hg.ok rfl rfl rfl rfl rfl rfl (by decide) (Tm.rows_get (i := 0) (argT_get hl0)) rfl ?_
    refine R_run hg.ok 1000 rfl rfl ?_
    refine R_index hg.ok rfl rfl rfl rfl rfl rfl (by decide) (Tm.rows_get (i := 1) (argT_get hl1)) rfl ?_
    refine R_run hg.ok 1000 rfl rfl ?_
    refine R_call hg.ok (goals_ok (argT x.1 1) (hs.arg hl1) (noCh_arg hnc hl1)) rfl rfl rfl rfl rfl rfl ?_
    refine R_run hg.ok 1000 rfl rfl ?_
    rw [strRows_len]
    exact R_to () trivial ⟨.refl _, .refl _, .refl _, .refl _, .refl _, .refl _, .refl _, .refl _, trivial⟩ rfl
   ·rw [show loadE x = 0 by unfold loadE; rw [if_neg hq], show (loadOne x).1 = ⟨x.1, [], x.2.length⟩ by unfold loadOne; rw [if_neg hq]]
    refine R_if rfl rfl (fun h => absurd h (by simp [hq])) (fun _ => ?_) <;> refine R_run hg.ok 1000 rfl rfl ?_
    rw [strRows_len]
    refine R_obs [.box [.d (.v (.slice none 0 0))], .box [.ow 2 s], .arr 6 s (Cs.rows out), clB x, csB ⟨x.1, [], x.2.length⟩] (show ObsIn [.box [.d (.v (.slice none 0 0))], .box [.ow 2 s], .arr 6 s (Cs.rows out), clB x, .box [.d (.v (.int .i64 x.1.k)), .d (.v (.string x.1.s)), .d (.v (.int .i64 x.1.n)), .d (.sl (Tm.rows x.1.l)), .d (.v (.slice none 0 0)), .d (.v (.int .i64 x.2.length))]] _ from ⟨⟨.refl _, trivial⟩, ⟨.refl _, trivial⟩, rfl, ⟨.refl _, .refl _, .refl _, .refl _, .refl _, trivial⟩, ⟨.refl _, .refl _, .refl _, .refl _, Ent.nrm _, .refl _, trivial⟩, trivial⟩) rfl ?_
    exact R_to () trivial ⟨.refl _, .refl _, .refl _, .refl _, .refl _, .refl _, .refl _, .refl _, trivial⟩ rfl
  rintro _ _
  refine R_run hg.ok 1000 rfl rfl ?_
  have hown := loadE_own x
  cases ho : ownB (loadOne x).1.head with
  | false =>
   have hc1 := own_ok11 (loadOne x).1.head
   rw [ho] at hc1 hown
   rw [if_neg (by simp)] at hown
   rw [hown, if_pos (by decide)] at hm
   refine R_call hg.ok (hc1) rfl rfl rfl rfl rfl rfl ?_
   refine R_run hg.ok 1000 rfl rfl ?_
   refine R_if rfl rfl (fun _ => ?_) (fun h => absurd h (by simp)) <;> refine R_run hg.ok 1000 rfl rfl ?_
   refine R_if rfl rfl (fun _ => ?_) (fun h => absurd h (by simp)) <;> refine R_run hg.ok 1000 rfl rfl ?_
   refine R_ret hg 5 rfl rfl ?_
   rw [hm]; rfl
  | true =>
   have hc1 := own_ok11 (loadOne x).1.head
   rw [ho] at hc1 hown
   rw [if_pos rfl] at hown
   rw [hown] at hm
   refine R_call hg.ok (hc1) rfl rfl rfl rfl rfl rfl ?_
   refine R_run hg.ok 1000 rfl rfl ?_
   refine R_if rfl rfl (fun h => absurd h (by simp)) (fun _ => ?_) <;> refine R_run hg.ok 1000 rfl rfl ?_
   by_cases hle : loadE x ≠ 0
   ·rw [if_pos hle] at hm
    refine R_if rfl rfl (fun _ => ?_) (fun h => absurd h (by simp [hle])) <;> refine R_run hg.ok 1000 rfl rfl ?_
    refine R_ret hg 5 rfl rfl ?_
    rw [hm]; rfl
   ·rw [if_neg hle] at hm
    refine R_if rfl rfl (fun h => absurd h (by simp at hle; simp [hle])) (fun _ => ?_) <;> refine R_run hg.ok 1000 rfl rfl ?_
    refine R_appendO hg.ok (Cs.rows (out ++ [(loadOne x).1])) rfl rfl rfl rfl rfl rfl rfl rfl rfl (by simp) (by simp [one1]) (csRows_snoc _ _) (by rw [hro]; simp; omega) (by rw [hro]; simp; omega) ?_
    refine R_run hg.ok 1000 rfl rfl ?_
    refine R_dropO 3 [.box [.d (.v (.slice none 0 0))], .box [.ow 2 (Nat.succ s)], .arr 6 (Nat.succ s) (Cs.rows (out ++ [(loadOne x).1]))] (Nat.zero_le _) rfl rfl ?_
    exact R_next (k + 1, Nat.succ s, out ++ [(loadOne x).1]) ⟨hk1, hm, by simp only [List.length_append, List.length_singleton]; omega, fun y hy => (List.mem_append.1 hy).elim (hsm y) (fun h => by rw [List.mem_singleton.1 h]; exact hsm1)⟩ (by simp only; omega) ⟨.refl _, .refl _, .refl _, .refl _, Ent.wrap (by simp only; omega) (by simp only; omega) (by simp only; omega), trivial⟩ rfl
 ·have hk1 : c.length ≤ k := ge_dec h rfl
  rw [List.drop_eq_nil_of_le hk1] at hm
  simp only [loadL] at hm
  refine R_freezeO hg.gup 2 [(2, .lo 0 0), (8, .lo 1 0), (29, .ff)] [.box [.d (.v (.slice none 0 0))], .box [.d (.sl (Cs.rows out))], .dead] rfl rfl ⟨.refl _, .refl _, .refl _, trivial⟩ ⟨⟨.refl _, trivial⟩, ⟨Ent.frz 2 s _, trivial⟩, trivial, trivial⟩ ?_
  refine R_run hg.ok 1000 rfl rfl ?_
  refine R_call hg.ok (check_ok out hsm) rfl rfl rfl rfl rfl rfl ?_
  refine R_run hg.ok 1000 rfl rfl ?_
  by_cases hce : (checkR out).2 ≠ 0
  ·rw [if_pos hce] at hm
   refine R_if rfl rfl (fun _ => ?_) (fun h => absurd h (by simp [hce])) <;> refine R_run hg.ok 1000 rfl rfl ?_
   refine R_ret hg 5 rfl rfl ?_
   rw [hm]; rfl
  ·rw [if_neg hce] at hm
   refine R_if rfl rfl (fun h => absurd h (by simp at hce; simp [hce])) (fun _ => ?_) <;> refine R_run hg.ok 1000 rfl rfl ?_
   refine R_ret hg 5 rfl rfl ?_
   rw [hm]; rfl
end Go.Proofs.YtcgkgofmldhokaaGreat

namespace PSL
open Go

theorem stepV_len (es : List (Int × Tm)) : ∀ a : List Int, (es.foldl stepV a).length ≤ a.length + es.length := by
 induction es with
 | nil => intro a; exact Nat.le_refl _
 | cons x r ih =>
  intro a
  have h1 := ih (stepV a x)
  have h2 : (stepV a x).length ≤ a.length + 1 := by
   unfold stepV addV
   split
   ·split <;> simp
   ·omega
  simp only [List.foldl_cons, List.length_cons]; omega

theorem varsT_len1 (t : Tm) : (varsT [t]).length ≤ t.size := by
 have := stepV_len (t.els 1) []
 rw [Tm.els_len] at this
 simpa [varsT] using this

theorem atI_ctn : ∀ (l : List Int) (n i : Int), 0 ≤ i → (atI l n i < 0 ↔ l.contains n = false)
 | [], n, i, h => by simp [atI]
 | x :: r, n, i, h => by
  have ih := atI_ctn r n (i + 1) (by omega)
  by_cases hx : x = n
  ·subst hx; simp [atI]; omega
  ·have hn : ¬ n = x := fun e => hx e.symm
   simp only [atI, if_neg hx, List.contains_cons, ih]
   simp [hn]
def atomT (s : ByteArray) : Tm := .mk 3 s 0 []
def qryS : ByteArray := ⟨#[113, 117, 101, 114, 121]⟩
def pfC (s : ByteArray) (q : Cs) : Cs := ⟨atomT s, q.body, q.vars⟩

theorem cls_atom (s : ByteArray) (h1 : (atomT s).rightB = true) (h2 : ownB (atomT s) = true) (q : Cs) : clsB (pfC s q) = (decide (0 ≤ q.vars) && decide (q.vars ≤ 1000) && (chkL q.vars q.body 20 1 true).1) := by
 have h3 : chkT q.vars (atomT s) = true := by
  rw [chk_vars]
  unfold varsB
  rw [h1, show varsT [atomT s] = [] by rfl]; rfl
 show (decide (0 ≤ q.vars) && decide (q.vars ≤ 1000) && chkT q.vars (atomT s) && ownB (atomT s) && (chkL q.vars q.body 20 1 true).1) = _
 rw [h2, h3]; simp
theorem qry_own : (atomT qryS).rightB = true ∧ ownB (atomT qryS) = true := ⟨by kernel_rfl, by kernel_rfl⟩

def fairQ (q : Cs) (l : List Cs) : Bool :=
 ((checkR l).2 == 0) && (q.head.k == 3) && strEq q.head.s ⟨#[63]⟩ && q.head.rightB && (varsT [q.head]).all (fun x => decide (x < q.vars)) && clsB (pfC qryS q) && thereL (hasH l) q.body

structure FairQ (q : Cs) (l : List Cs) : Prop where
 prog : (checkR l).2 = 0
 kind : q.head.k = 3
 name : q.head.s = ⟨#[63]⟩
 right : q.head.rightB = true
 vars : ∀ x ∈ varsT [q.head], x < q.vars
 vars0 : 0 ≤ q.vars
 vars1 : q.vars ≤ 1000
 body : (chkL q.vars q.body 20 1 true).1 = true
 there : thereL (hasH l) q.body = true

theorem fairQ_ok {q : Cs} {l : List Cs} (h : fairQ q l = true) : FairQ q l := by
 unfold fairQ at h
 simp only [Bool.and_eq_true, beq_iff_eq] at h
 obtain ⟨⟨⟨⟨⟨⟨h1, h2⟩, h3⟩, h4⟩, h5⟩, h6⟩, h7⟩ := h
 rw [cls_atom _ qry_own.1 qry_own.2] at h6
 simp only [Bool.and_eq_true, decide_eq_true_eq] at h6
 exact ⟨h1, h2, Tm.strEq_iff.1 h3, h4, fun x hx => by simpa using List.all_eq_true.1 h5 x hx, h6.1.1, h6.1.2, h6.2, h7⟩

theorem codeL_app (a b : List Cs) (out : List Is) : codeL (a ++ b) out = codeL b (codeL a out) := by
 induction a generalizing out with
 | nil => rfl
 | cons c r ih => simp only [List.cons_append, codeL]; exact ih _

theorem codeL_take {l : List Cs} {i : Nat} {c : Cs} (h : l[i]? = some c) (out : List Is) : codeL (l.take (i + 1)) out = codeL (l.take i) out ++ clsC c (codeL (l.take i) out).length := by
 rw [List.take_add_one, h, codeL_app]; rfl

theorem entL_app (a b : List Cs) (out : List Is) : entL (a ++ b) out.length = entL a out.length ++ entL b (codeL a out).length := by
 induction a generalizing out with
 | nil => rfl
 | cons c r ih =>
  simp only [List.cons_append, entL, codeL]
  have := ih (out ++ clsC c out.length)
  rw [List.length_append] at this
  rw [this]

theorem entL_take {l : List Cs} {i : Nat} {c : Cs} (h : l[i]? = some c) : entL (l.take (i + 1)) 0 = entL (l.take i) 0 ++ [entG c (codeL (l.take i) []).length] := by
 have := entL_app (l.take i) [c] []
 rw [List.take_add_one, h]
 exact this

theorem entL_len : ∀ (l : List Cs) (at_ : Nat), (entL l at_).length = l.length
 | [], _ => rfl
 | c :: r, at_ => by simp only [entL, List.length_cons, entL_len r]

theorem clsC_len (c : Cs) (at_ : Nat) : (clsC c at_).length ≤ c.head.size + c.vars.toNat + 4 * Gl.sizeL c.body + 1 := by
 have h1 := headGL_len c.head.l []
 have h2 := freshG_len (headGL c.head.l []).2 c.vars.toNat
 have h3 := golDL_len c.body (at_ + (clsH c).length) c.vars
 have h4 := Tm.size_eq c.head
 unfold clsC
 generalize golDL c.body (at_ + (clsH c).length) c.vars = G at *
 unfold clsH
 simp only [List.length_append, List.length_singleton]
 omega

theorem codeL_len : ∀ (l : List Cs) (out : List Is), (∀ c ∈ l, c.vars ≤ 1000) → (codeL l out).length ≤ out.length + 4 * Cs.sizeL l + 1001 * l.length
 | [], out, _ => by simp [codeL, Cs.sizeL]
 | c :: r, out, h => by
  have h1 := clsC_len c out.length
  have h2 := h c List.mem_cons_self
  have h3 := codeL_len r (out ++ clsC c out.length) fun x hx => h x (List.mem_cons_of_mem _ hx)
  rw [List.length_append] at h3
  simp only [codeL, Cs.sizeL, Cs.size, List.length_cons]
  omega

theorem cs_sizeL_take (l : List Cs) (k : Nat) : Cs.sizeL (l.take k) ≤ Cs.sizeL l := by
 induction l generalizing k with
 | nil => simp [Cs.sizeL]
 | cons c r ih => cases k with
  | zero => simp [Cs.sizeL]
  | succ k => have := ih k; simp only [List.take_succ_cons, Cs.sizeL]; omega

theorem cs_size_mem {l : List Cs} {c : Cs} (h : c ∈ l) : Cs.size c ≤ Cs.sizeL l := by
 induction l with
 | nil => cases h
 | cons x r ih =>
  simp only [Cs.sizeL]
  rcases List.mem_cons.1 h with rfl | h
  ·omega
  ·have := ih h; omega
end PSL

namespace Go.Proofs.YtcgkgofmldhokaaGreat
open Go PSL Go.Proofs
theorem smC_atom {s : ByteArray} (h : (atomT s).rightB = true) {q : Cs} (hq : SmC q) : SmC (pfC s q) := ⟨smT_right h, hq.body, hq.size⟩

set_option maxRecDepth 100000 in
theorem modelFair_ok (q : Cs) (l : List Cs) (hq : SmC q) (hl : ∀ c ∈ l, SmC c) (hlen : l.length ≤ 1000000) : PCtr Tryz.prog 31 [q.av, prV l] (bV (fairQ q l)) := by
 have hs := hq.head.1
 have hr := right_ok q.head (by omega) (fun e he => hq.head.2 1 e he)
 rw [rightT_eq] at hr
 have hv := (vars_ok [q.head] (by simp [Tm.sizeL]; omega)).one
 have hc := clause_ok11 (pfC qryS q) (smC_atom qry_own.1 hq)
 have ht := theres_ok q.body l hq.size hlen
 have hf : fairQ q l = (((checkR l).2 == 0) && (q.head.k == 3) && strEq q.head.s ⟨#[63]⟩ && q.head.rightB && (varsT [q.head]).all (fun x => decide (x < q.vars)) && clsB (pfC qryS q) && thereL (hasH l) q.body) := rfl
 rw [hf]
 clear hf
 have hvl : (varsT [q.head]).length ≤ 1000000 := Nat.le_trans (varsT_len1 q.head) hs
 generalize varsT [q.head] = V at *
 refine PCtr.of_R (pf := fun _ => .still) tyOk mixed Tryz.func31 rfl (by kernel_rfl) (by kernel_rfl) (by simp [Tryz.ntmps31]) fun w S hg => ?_
 refine R_run hg.ok 1000 rfl rfl ?_
 refine R_call hg.ok (check_ok l hl) rfl rfl rfl rfl rfl rfl ?_
 refine R_run hg.ok 1000 rfl rfl ?_
 refine R_if rfl rfl (fun h1 => ?_) (fun h1 => ?_) <;> refine R_run hg.ok 1000 rfl rfl ?_
 ·refine R_ret hg 5 rfl rfl ?_
  rw [show ((checkR l).2 == 0) = false by simpa using h1]; rfl
 rw [show ((checkR l).2 == 0) = true by simpa using h1, Bool.true_and]
 refine R_if rfl rfl (fun h2 => ?_) (fun h2 => ?_) <;> refine R_run hg.ok 1000 rfl rfl ?_
 ·refine R_ret hg 5 rfl rfl ?_
  rw [show (q.head.k == 3) = false by simpa using h2]; rfl
 rw [show (q.head.k == 3) = true by simpa using h2, Bool.true_and]
 refine R_if rfl rfl (fun h3 => ?_) (fun h3 => ?_) <;> refine R_run hg.ok 1000 rfl rfl ?_
 ·refine R_ret hg 5 rfl rfl ?_
  rw [show strEq q.head.s ⟨#[63]⟩ = false by simpa using h3]; rfl
 rw [show strEq q.head.s ⟨#[63]⟩ = true by simpa using h3, Bool.true_and]
 refine R_call hg.ok (hr) rfl rfl rfl rfl rfl rfl ?_
 refine R_run hg.ok 1000 rfl rfl ?_
 refine R_if rfl rfl (fun h4 => ?_) (fun h4 => ?_) <;> refine R_run hg.ok 1000 rfl rfl ?_
 ·refine R_ret hg 5 rfl rfl ?_
  rw [show q.head.rightB = false by simpa using h4]; rfl
 rw [show q.head.rightB = true by simpa using h4, Bool.true_and]
 refine R_call hg.ok (hv) rfl rfl rfl rfl rfl rfl ?_
 refine R_run hg.ok 1000 rfl rfl ?_
 refine R_loop (fun k : Nat => ([(2, .lo 0 0), (3, .lo 1 0), (38, .d (.sl (irows V))), (39, iV V.length), (40, iV k)], [.box [.d (.v (.int .i64 q.head.k)), .d (.v (.string q.head.s)), .d (.v (.int .i64 q.head.n)), .d (.sl (Tm.rows q.head.l)), .d (.sl (Gl.rows q.body)), .d (.v (.int .i64 q.vars))], .box [.d (.sl (Cs.rows l))]])) (fun k => k ≤ V.length ∧ V.all (fun x => decide (x < q.vars)) = (V.drop k).all fun x => decide (x < q.vars)) (fun k => V.length - k) 0 ⟨Nat.zero_le _, rfl⟩ ⟨.refl _, .refl _, .refl _, by rw [irows_length]; exact .refl _, .refl _, trivial⟩ rfl ?_
 rintro k ⟨hk, hm⟩
 refine R_run hg.ok 1000 rfl rfl ?_
 refine R_if rfl rfl (fun h => ?_) (fun h => ?_) <;> refine R_run hg.ok 1000 rfl rfl ?_
 ·have hk1 : k < V.length := lt_dec h rfl
  have e1 : V[k]? = some V[k] := List.getElem?_eq_getElem hk1
  rw [List.drop_eq_getElem_cons hk1, List.all_cons] at hm
  generalize V[k] = x at e1 hm
  refine R_index hg.ok rfl rfl rfl rfl rfl rfl (Int.natCast_nonneg _) (irows_get e1) rfl ?_
  refine R_run hg.ok 1000 rfl rfl ?_
  refine R_if rfl rfl (fun h => ?_) (fun h => ?_) <;> refine R_run hg.ok 1000 rfl rfl ?_
  ·refine R_ret hg 5 rfl rfl ?_
   rw [hm, show decide (x < q.vars) = false by simpa using h]; rfl
  ·exact R_next (k + 1) ⟨hk1, by rw [hm, show decide (x < q.vars) = true by simpa using h, Bool.true_and]⟩ (by omega) ⟨.refl _, .refl _, .refl _, .refl _, Ent.wrap (by omega) (by omega) (by omega), trivial⟩ rfl
 ·have hk1 : V.length ≤ k := ge_dec h rfl
  rw [hm, List.drop_eq_nil_of_le hk1]
  refine R_call hg.ok (hc) rfl rfl rfl rfl rfl rfl ?_
  refine R_run hg.ok 1000 rfl rfl ?_
  refine R_if rfl rfl (fun h5 => ?_) (fun h5 => ?_) <;> refine R_run hg.ok 1000 rfl rfl ?_
  ·refine R_call hg.ok (ht) rfl rfl rfl rfl rfl rfl ?_
   refine R_run hg.ok 1000 rfl rfl ?_
   refine R_ret hg 5 rfl rfl ?_
   rw [h5]; rfl
  ·refine R_ret hg 5 rfl rfl ?_
   rw [h5]; rfl
end Go.Proofs.YtcgkgofmldhokaaGreat

namespace Go.Proofs.YtcgkgofmldhokaaGreat
open Go PSL Go.Proofs

def hdO (c : List Is) : List Ob := [.arr 4 c.length (Is.rows c)]
def HeadR (Y : YP) (t : Tm) : Prop := ∀ (met : List Int) (c : List Is), c.length + t.size ≤ 100000000 → met.length + t.size ≤ 100000000 → SCtr Tryz.prog Y 45 [.ow 0 c.length, .d (.sl (irows met)), t.av] (hdO c) (.tup [.ow 0 (c ++ (headG t met).1).length, .d (.sl (irows (headG t met).2))]) (hdO (c ++ (headG t met).1))
theorem is_snoc_len (c : List Is) (x : Is) : (c ++ [x]).length = Nat.succ c.length := by simp

set_option maxHeartbeats 4000000 in
set_option maxRecDepth 100000 in
theorem refHead_ok (Y : YP) (t : Tm) : HeadR Y t := by
 induction t using Tm.ind with
 | _ t ih =>
 intro met c hc hm0
 have hs := Tm.size_eq t
 have hl := Tm.len_le_sizeL t.l
 refine SCtr.of_R (pf := pfBE) tyOk mixed Tryz.func45 rfl (by kernel_rfl) (by kernel_rfl) (by simp [Tryz.ntmps45]) (by simp [hdO]) fun w S φ hg => ?_
 have hφ : φ.length = 1 := hg.hs0.len
 rw [headG_eq]
 refine R_run hg.ok 1000 rfl rfl ?_
 by_cases h1 : t.k = 1
 ·rw [if_pos h1]
  refine R_if rfl rfl (fun _ => ?_) (fun h => absurd h (by simp [h1])) <;> refine R_run hg.ok 1000 rfl rfl ?_
  refine R_call hg.ok (at_ok met t.n (by omega)) rfl rfl rfl rfl rfl rfl ?_
  refine R_run hg.ok 1000 rfl rfl ?_
  have hat : (atI met t.n 0 < 0) ↔ met.contains t.n = false := atI_ctn met t.n 0 (Int.le_refl _)
  cases hm : met.contains t.n with
  | true =>
   refine R_if rfl rfl (fun h => absurd h (by simp; have := mt hat.1 (by rw [hm]; simp); omega)) (fun _ => ?_) <;> refine R_run hg.ok 1000 rfl rfl ?_
   refine R_appendO hg.ok (Is.rows (c ++ [Is.mk 2 t.n 0 e0])) rfl rfl rfl rfl rfl rfl rfl rfl rfl (by simp) (by simp [one1]) (Is.rows_snoc (c) (Is.mk 2 t.n 0 e0)) (by rw [Is.rows_len]; simp; omega) (by rw [Is.rows_len]; simp; omega) ?_
   rw [← is_snoc_len (c) (Is.mk 2 t.n 0 e0)]
   refine R_run hg.ok 1000 rfl rfl ?_
   have ha : addV met t.n = met := by unfold addV; rw [if_pos hm]
   rw [ha]
   exact R_retS hg 1 5 (by show (1 : Nat) ≤ 1; omega) rfl rfl rfl
  | false =>
   refine R_if rfl rfl (fun _ => ?_) (fun h => absurd h (by simp; have := hat.2 hm; omega)) <;> refine R_run hg.ok 1000 rfl rfl ?_
   have ha : addV met t.n = met ++ [t.n] := by unfold addV; rw [if_neg (by rw [hm]; simp)]
   rw [ha]
   refine R_appendF hg.ok (rows := []) rfl rfl (.inl rfl) rfl (.inl rfl) rfl rfl rfl (by simp) (by simp [irows]; intros; subst_vars; rfl) (by simp [irows_length]; omega) (by simp [irows_length]; omega) ?_
   refine R_run hg.ok 1000 rfl rfl ?_
   refine R_appendO hg.ok (irows (met ++ [t.n])) rfl rfl rfl rfl rfl rfl rfl rfl rfl (by simp) (by simp [one1]) (by simp [irows, irow]) (by simp [irows_length]; omega) (by simp [irows_length]; omega) ?_
   refine R_run hg.ok 1000 rfl rfl ?_
   refine R_appendO hg.ok (Is.rows (c ++ [Is.mk 1 t.n 0 e0])) rfl rfl rfl rfl rfl rfl rfl rfl rfl (by simp) (by simp [one1]) (Is.rows_snoc (c) (Is.mk 1 t.n 0 e0)) (by rw [Is.rows_len]; simp; omega) (by rw [Is.rows_len]; simp; omega) ?_
   rw [← is_snoc_len (c) (Is.mk 1 t.n 0 e0)]
   refine R_run hg.ok 1000 rfl rfl ?_
   exact R_retS hg 1 5 (by show (1 : Nat) ≤ 1; omega) rfl rfl rfl
 rw [if_neg h1]
 refine R_if rfl rfl (fun h => absurd h (by simp [h1])) (fun _ => ?_) <;> refine R_run hg.ok 1000 rfl rfl ?_
 by_cases h2 : t.k = 2
 ·rw [if_pos h2]
  refine R_if rfl rfl (fun _ => ?_) (fun h => absurd h (by simp [h2])) <;> refine R_run hg.ok 1000 rfl rfl ?_
  refine R_appendO hg.ok (Is.rows (c ++ [Is.mk 3 0 t.n e0])) rfl rfl rfl rfl rfl rfl rfl rfl rfl (by simp) (by simp [one1]) (Is.rows_snoc (c) (Is.mk 3 0 t.n e0)) (by rw [Is.rows_len]; simp; omega) (by rw [Is.rows_len]; simp; omega) ?_
  rw [← is_snoc_len (c) (Is.mk 3 0 t.n e0)]
  refine R_run hg.ok 1000 rfl rfl ?_
  exact R_retS hg 1 5 (by show (1 : Nat) ≤ 1; omega) rfl rfl rfl
 rw [if_neg h2]
 refine R_if rfl rfl (fun h => absurd h (by simp [h2])) (fun _ => ?_) <;> refine R_run hg.ok 1000 rfl rfl ?_
 rw [Tm.rows_length]
 refine R_appendO hg.ok (Is.rows (c ++ [Is.mk 4 0 t.l.length t.s])) rfl rfl rfl rfl rfl rfl rfl rfl rfl (by simp) (by simp [one1]) (Is.rows_snoc (c) (Is.mk 4 0 t.l.length t.s)) (by rw [Is.rows_len]; simp; omega) (by rw [Is.rows_len]; simp; omega) ?_
 rw [← is_snoc_len (c) (Is.mk 4 0 t.l.length t.s)]
 refine R_run hg.ok 1000 rfl rfl ?_
 rw [show c ++ (⟨4, 0, t.l.length, t.s⟩ :: (headGL t.l met).1) = c ++ [Is.mk 4 0 t.l.length t.s] ++ (headGL t.l met).1 by simp]
 have hcl := is_snoc_len c (Is.mk 4 0 t.l.length t.s)
 generalize c ++ [Is.mk 4 0 t.l.length t.s] = c1 at *
 refine R_loop (fun k : Nat => ([(0, .ow 0 (c1 ++ (headGL (t.l.take k) met).1).length), (1, .d (.sl (irows (headGL (t.l.take k) met).2))), (5, .lo 1 0), (9, iV k)], hdO (c1 ++ (headGL (t.l.take k) met).1) ++ [boxR t])) (fun k => k ≤ t.l.length) (fun k => t.l.length - k) 0 (Nat.zero_le _) ⟨by simp only [List.take_zero, headGL, List.append_nil]; exact .refl _, .refl _, .refl _, .refl _, trivial⟩ (by simp only [List.take_zero, headGL, List.append_nil]; rfl) ?_
 rintro k hk
 refine R_run hg.ok 1000 rfl rfl ?_
 refine R_if rfl rfl (fun h => ?_) (fun h => ?_) <;> refine R_run hg.ok 1000 rfl rfl ?_
 ·have hk1 : k < t.l.length := lt_dec h (by rw [Tm.rows_length])
  have e1 : t.l[k]? = some t.l[k] := List.getElem?_eq_getElem hk1
  have hm := List.getElem_mem hk1
  have hsz := tm_sizeL_at e1
  have hsl := headGL_len (t.l.take k) met
  have hx := ih _ hm (headGL (t.l.take k) met).2 (c1 ++ (headGL (t.l.take k) met).1) (by rw [List.length_append]; omega) (by omega)
  rw [List.append_assoc, ← headGL_t1 e1 met, ← headGL_t2 e1 met] at hx
  generalize t.l[k] = x at e1 hx
  refine R_index hg.ok rfl rfl rfl rfl rfl rfl (Int.natCast_nonneg _) (Tm.rows_get e1) rfl ?_
  refine R_run hg.ok 1000 rfl rfl ?_
  refine R_callSO hg.ok hg.gup hg.wide hg.Y [0] (hdO (c1 ++ (headGL (t.l.take (k + 1)) met).1) ++ [boxR t]) hx (fun _ => rfl) rfl rfl rfl rfl rfl rfl rfl rfl ?_
  refine R_run hg.ok 1000 rfl rfl ?_
  exact R_next (k + 1) hk1 (by omega) ⟨.refl _, .refl _, .refl _, Ent.wrap (by omega) (by omega) (by omega), trivial⟩ rfl
 ·have hk1 : t.l.length ≤ k := ge_dec h (by rw [Tm.rows_length])
  rw [List.take_of_length_le hk1]
  exact R_retS hg 1 5 (by show (1 : Nat) ≤ 1; omega) rfl rfl rfl
end Go.Proofs.YtcgkgofmldhokaaGreat

namespace Go.Proofs.YtcgkgofmldhokaaGreat
open Go PSL Go.Proofs
theorem putGL_t2 {l : List Tm} {i : Nat} {x : Tm} (h : l[i]? = some x) : Is.rows (putGL (l.take i)) ++ Is.rows (putG x) = Is.rows (putGL (l.take (i + 1))) := by rw [putGL_take h, Is.rows_app]

set_option maxRecDepth 100000 in
theorem refPut_ok (t : Tm) : t.size ≤ 100000000 → PCtr Tryz.prog 80 [t.av] (.d (.sl (Is.rows (putG t)))) := by
 induction t using Tm.ind with
 | _ t ih =>
 intro hc
 have hs := Tm.size_eq t
 have hl := Tm.len_le_sizeL t.l
 have hpl := putGL_len t.l
 refine PCtr.of_R (pf := fun _ => .eff) tyOk mixed Tryz.func80 rfl (by kernel_rfl) (by kernel_rfl) (by simp [Tryz.ntmps80]) fun w S hg => ?_
 refine R_run hg.ok 1000 rfl rfl ?_
 rw [putG_eq]
 unfold instG
 refine R_own 3 4 rfl rfl ?_
 refine R_loop (fun k : Nat => ([(1, .lo 0 0), (3, .ow 1 k), (4, iV k)], [boxR t, .arr 4 k (Is.rows (putGL (t.l.take k)))])) (fun k => k ≤ t.l.length) (fun k => t.l.length - k) 0 (Nat.zero_le _) ⟨.refl _, .refl _, .refl _, trivial⟩ rfl ?_
 rintro k hk
 refine R_run hg.ok 1000 rfl rfl ?_
 refine R_if rfl rfl (fun h => ?_) (fun h => ?_) <;> refine R_run hg.ok 1000 rfl rfl ?_
 ·have hk1 : k < t.l.length := lt_dec h (by rw [Tm.rows_length])
  have e1 : t.l[k]? = some t.l[k] := List.getElem?_eq_getElem hk1
  have hm := List.getElem_mem hk1
  have hsz := tm_sizeL_at e1
  have h2 := putGL_len (t.l.take k)
  have h3 := putG_len t.l[k]
  have hx := ih _ hm (by omega)
  generalize t.l[k] = x at *
  refine R_index hg.ok rfl rfl rfl rfl rfl rfl (Int.natCast_nonneg _) (Tm.rows_get e1) rfl ?_
  refine R_run hg.ok 1000 rfl rfl ?_
  refine R_call hg.ok (hx) rfl rfl rfl rfl rfl rfl ?_
  refine R_run hg.ok 1000 rfl rfl ?_
  refine R_appendO hg.ok (Is.rows (putGL (t.l.take (k + 1)))) rfl rfl rfl rfl rfl rfl rfl rfl rfl (Is.rows_4 _) (Is.rows_1 _) (putGL_t2 e1) (by rw [Is.rows_len, Is.rows_len]; simp; omega) (by rw [Is.rows_len, Is.rows_len]; omega) ?_
  refine R_run hg.ok 1000 rfl rfl ?_
  exact R_next (k + 1) hk1 (by omega) ⟨.refl _, .refl _, Ent.wrap (by omega) (by omega) (by omega), trivial⟩ rfl
 ·have hk1 : t.l.length ≤ k := ge_dec h (by rw [Tm.rows_length])
  have hke : k = t.l.length := by omega
  subst hke
  rw [List.take_length]
  by_cases h1 : t.k = 1
  ·rw [if_pos h1]
   refine R_if rfl rfl (fun _ => ?_) (fun h => absurd h (by simp [h1])) <;> refine R_run hg.ok 1000 rfl rfl ?_
   refine R_appendO hg.ok (Is.rows (putGL t.l ++ [Is.mk 6 t.n 0 e0])) rfl rfl rfl rfl rfl rfl rfl rfl rfl (by simp) (by simp [one1]) (Is.rows_snoc (putGL t.l) (Is.mk 6 t.n 0 e0)) (by rw [Is.rows_len]; simp; omega) (by rw [Is.rows_len]; simp; omega) ?_
   refine R_run hg.ok 1000 rfl rfl ?_
   refine R_ret hg 5 rfl (sealA_ow rfl) ?_
   rfl
  rw [if_neg h1]
  refine R_if rfl rfl (fun h => absurd h (by simp [h1])) (fun _ => ?_) <;> refine R_run hg.ok 1000 rfl rfl ?_
  by_cases h2 : t.k = 2
  ·rw [if_pos h2]
   refine R_if rfl rfl (fun _ => ?_) (fun h => absurd h (by simp [h2])) <;> refine R_run hg.ok 1000 rfl rfl ?_
   refine R_appendO hg.ok (Is.rows (putGL t.l ++ [Is.mk 7 0 t.n e0])) rfl rfl rfl rfl rfl rfl rfl rfl rfl (by simp) (by simp [one1]) (Is.rows_snoc (putGL t.l) (Is.mk 7 0 t.n e0)) (by rw [Is.rows_len]; simp; omega) (by rw [Is.rows_len]; simp; omega) ?_
   refine R_run hg.ok 1000 rfl rfl ?_
   refine R_ret hg 5 rfl (sealA_ow rfl) ?_
   rfl
  rw [if_neg h2]
  refine R_if rfl rfl (fun h => absurd h (by simp [h2])) (fun _ => ?_) <;> refine R_run hg.ok 1000 rfl rfl ?_
  rw [Tm.rows_length]
  refine R_appendO hg.ok (Is.rows (putGL t.l ++ [Is.mk 8 0 t.l.length t.s])) rfl rfl rfl rfl rfl rfl rfl rfl rfl (by simp) (by simp [one1]) (Is.rows_snoc (putGL t.l) (Is.mk 8 0 t.l.length t.s)) (by rw [Is.rows_len]; simp; omega) (by rw [Is.rows_len]; simp; omega) ?_
  refine R_run hg.ok 1000 rfl rfl ?_
  refine R_ret hg 5 rfl (sealA_ow rfl) ?_
  rfl

set_option maxRecDepth 100000 in
theorem refPuts_ok (Y : YP) (l : List Tm) (hc : Tm.sizeL l ≤ 100000000) : SCtr Tryz.prog Y 44 [.d (.sl (Tm.rows l))] [] (.ow 0 l.length) [.arr 4 l.length (Is.rows (putGL l))] := by
 have hl := Tm.len_le_sizeL l
 refine SCtr.of_R (pf := fun _ => .eff) tyOk mixed Tryz.func44 rfl (by kernel_rfl) (by kernel_rfl) (by simp [Tryz.ntmps44]) (by simp [List.length_nil]) fun w S φ hg => ?_
 have hφ : φ.length = 0 := hg.hs0.len
 refine R_run hg.ok 1000 rfl rfl ?_
 refine R_own 3 4 rfl rfl ?_
 refine R_loop (fun k : Nat => ([(0, .d (.sl (Tm.rows l))), (3, .ow 0 k), (4, iV k)], [.arr 4 k (Is.rows (putGL (l.take k)))])) (fun k => k ≤ l.length) (fun k => l.length - k) 0 (Nat.zero_le _) ⟨.refl _, .refl _, .refl _, trivial⟩ rfl ?_
 rintro k hk
 refine R_run hg.ok 1000 rfl rfl ?_
 refine R_if rfl rfl (fun h => ?_) (fun h => ?_) <;> refine R_run hg.ok 1000 rfl rfl ?_
 ·have hk1 : k < l.length := lt_dec h (by rw [Tm.rows_length])
  have e1 : l[k]? = some l[k] := List.getElem?_eq_getElem hk1
  have hsz := tm_sizeL_at e1
  have h2 := putGL_len (l.take k)
  have h3 := putG_len l[k]
  have hx := refPut_ok l[k] (by omega)
  generalize l[k] = x at *
  refine R_index hg.ok rfl rfl rfl rfl rfl rfl (Int.natCast_nonneg _) (Tm.rows_get e1) rfl ?_
  refine R_run hg.ok 1000 rfl rfl ?_
  refine R_call hg.ok (hx) rfl rfl rfl rfl rfl rfl ?_
  refine R_run hg.ok 1000 rfl rfl ?_
  refine R_appendO hg.ok (Is.rows (putGL (l.take (k + 1)))) rfl rfl rfl rfl rfl rfl rfl rfl rfl (Is.rows_4 _) (Is.rows_1 _) (putGL_t2 e1) (by rw [Is.rows_len, Is.rows_len]; simp; omega) (by rw [Is.rows_len, Is.rows_len]; omega) ?_
  refine R_run hg.ok 1000 rfl rfl ?_
  exact R_next (k + 1) hk1 (by omega) ⟨.refl _, .refl _, Ent.wrap (by omega) (by omega) (by omega), trivial⟩ rfl
 ·have hk1 : l.length ≤ k := ge_dec h (by rw [Tm.rows_length])
  have hke : k = l.length := by omega
  subst hke
  rw [List.take_length]
  exact R_retS hg 1 5 (Nat.zero_le _) rfl rfl rfl

set_option maxRecDepth 100000 in
theorem refTests_ok (l : List Gl) : Gl.sizeL l ≤ 100000000 → PCtr Tryz.prog 42 [.d (.sl (Gl.rows l))] (iV (testsGL l)) := by
 induction l using Gl.indL with
 | _ l ih =>
 intro hc
 have hll := Gl.len_size l
 refine PCtr.of_R (pf := fun _ => .still) tyOk mixed Tryz.func42 rfl (by kernel_rfl) (by kernel_rfl) (by simp [Tryz.ntmps42]) fun w S hg => ?_
 refine R_run hg.ok 1000 rfl rfl ?_
 refine R_loop (fun k : Nat => ([(0, .d (.sl (Gl.rows l))), (3, iV (testsGL (l.take k))), (4, iV k)], [])) (fun k => k ≤ l.length) (fun k => l.length - k) 0 (Nat.zero_le _) ⟨.refl _, .refl _, .refl _, trivial⟩ rfl ?_
 rintro k hk
 refine R_run hg.ok 1000 rfl rfl ?_
 refine R_if rfl rfl (fun h => ?_) (fun h => ?_) <;> refine R_run hg.ok 1000 rfl rfl ?_
 ·have hk1 : k < l.length := lt_dec h (by rw [Gl.rows_length])
  have e1 : l[k]? = some l[k] := List.getElem?_eq_getElem hk1
  have hm := List.getElem_mem hk1
  have hsz := gl_sizeL_at e1
  have htb := testsGL_b (l.take k)
  have ht := testsGL_take e1
  obtain ⟨sa, sb, sc⟩ := ih _ hm
  have hge := Gl.size_eq l[k]
  have hgt := testsG_eq l[k]
  generalize l[k] = g at *
  have ha := testsGL_b g.a
  have hb := testsGL_b g.b
  have hcc := testsGL_b g.c
  rw [hgt] at ht
  refine R_index hg.ok rfl rfl rfl rfl rfl rfl (Int.natCast_nonneg _) (Gl.rows_get e1) rfl ?_
  refine R_run hg.ok 1000 rfl rfl ?_
  refine R_call hg.ok (sa (by omega)) rfl rfl rfl rfl rfl rfl ?_
  refine R_run hg.ok 1000 rfl rfl ?_
  rw [w64 (n := testsGL (l.take k) + testsGL g.a) (by omega) (by omega)]
  refine R_index hg.ok rfl rfl rfl rfl rfl rfl (Int.natCast_nonneg _) (Gl.rows_get e1) rfl ?_
  refine R_run hg.ok 1000 rfl rfl ?_
  refine R_call hg.ok (sb (by omega)) rfl rfl rfl rfl rfl rfl ?_
  refine R_run hg.ok 1000 rfl rfl ?_
  rw [w64 (n := testsGL (l.take k) + testsGL g.a + testsGL g.b) (by omega) (by omega)]
  refine R_index hg.ok rfl rfl rfl rfl rfl rfl (Int.natCast_nonneg _) (Gl.rows_get e1) rfl ?_
  refine R_run hg.ok 1000 rfl rfl ?_
  refine R_call hg.ok (sc (by omega)) rfl rfl rfl rfl rfl rfl ?_
  refine R_run hg.ok 1000 rfl rfl ?_
  rw [w64 (n := testsGL (l.take k) + testsGL g.a + testsGL g.b + testsGL g.c) (by omega) (by omega)]
  refine R_index hg.ok rfl rfl rfl rfl rfl rfl (Int.natCast_nonneg _) (Gl.rows_get e1) rfl ?_
  refine R_run hg.ok 1000 rfl rfl ?_
  by_cases h4 : g.k ≥ 4
  ·rw [if_pos h4] at ht
   refine R_if rfl rfl (fun _ => ?_) (fun h => absurd h (by simp; omega)) <;> refine R_run hg.ok 1000 rfl rfl ?_
   exact R_next (k + 1) hk1 (by omega) ⟨.refl _, by rw [ht]; exact Ent.wrap (by omega) (by omega) (by omega), Ent.wrap (by omega) (by omega) (by omega), trivial⟩ rfl
  ·rw [if_neg h4] at ht
   refine R_if rfl rfl (fun h => absurd h (by simp; omega)) (fun _ => ?_) <;> refine R_run hg.ok 1000 rfl rfl ?_
   exact R_next (k + 1) hk1 (by omega) ⟨.refl _, Ent.int (by rw [ht]; omega), Ent.wrap (by omega) (by omega) (by omega), trivial⟩ rfl
 ·have hk1 : l.length ≤ k := ge_dec h (by rw [Gl.rows_length])
  rw [List.take_of_length_le hk1]
  refine R_ret hg 5 rfl rfl ?_
  rfl
end Go.Proofs.YtcgkgofmldhokaaGreat

namespace PSL
open Go Go.RowKit
section
variable {g : G} {pf : Nat → Cls} {ops : Array Oper} {Fin : Exit → Act → World → Prop}

theorem R_appendF1 (hg : GOk g) {dst : Option Nat} {T T' : Nat} {x y : Operand} {ty : Nat} {pos : String} {after : Array Edge} {gd : Option (Nat × Bool)} {rest : List Oper} {k : List It} {E : Env} {objs : List Ob}
  {q q' by_ by' e e' : Nat} {z z' : List Value} {τ : Ty} {rows : List (List D)}
  (hgd : guardA ops.toList E gd = some true) (hd : dstOk ⟨g.ty, g.N⟩ dst = true) (hx : ev E x = .fs rows) (hy : nrm (ev E y) = .d (.sl []))
  (hT : g.ty T = some ⟨q, by_, z, .slice e⟩) (hT' : g.ty T' = some ⟨q', by', z', .slice e'⟩) (he : g.ty e = some τ)
  (hr : R g pf Fin (.dr ops rest :: k) (putO E dst (.fs rows)) objs) :
  R g pf Fin (.dr ops (⟨dst, .call { callee := .builtin .append, args := #[x, y], argTypes := #[T, T'] }, ty, pos, after, gd⟩ :: rest) :: k) E objs := by
 refine R_op (LocOp.turning hg (.refl _) hgd hd (by simp) fun φ a w hρ hs => ?_) hr
 simp only [Op.operands, Call.operands] at hρ
 have hxv := hρ x (by simp)
 have hyv := Ent.nrm _ _ _ _ _ (hρ y (by simp))
 rw [hy] at hyv
 rw [hx] at hxv
 have hxv0 := hxv
 simp only [RV] at hyv hxv
 obtain ⟨_, a0, hv⟩ := hxv
 obtain ⟨cells, hN⟩ := Fst.of_rd (P := g.P) (sz := τ.size) hyv (by simp)
 have hτ := hg.ty _ _ he
 obtain ⟨xa, xc, hxs⟩ := hN.sl
 have hcells : cells = [] := List.length_eq_zero_iff.1 (by simpa using hN.len)
 subst hcells
 have hrun := run_app_none (tr := ty) (und_slice hg hT) (und_slice hg hT') hτ (a := a0) (n := rows.length) (cap := rows.length) hxs (hN.run w rfl) (Nat.le_refl _)
 refine ⟨.value (a.eval x), a.eval x, w, φ, ?_, .inl rfl, hxv0, .refl hs⟩
 simp only [execOp, resolve, invoke, builtin, Sem.run_bind, Sem.run_pure, Result.andThen_ok, List.map_toArray, List.map_cons, List.map_nil, hv, hrun]
end
end PSL

namespace Go.Proofs.YtcgkgofmldhokaaGreat
open Go PSL Go.Proofs
def pfGl15 : Nat → Cls := fun f => bif Nat.beq f 44 then .turn 0 else bif Nat.beq f 4000000007 then .loadB else .still
def GlsR (l : List Gl) : Prop := ∀ (at_ : Nat) (v : Int), at_ + 4 * Gl.sizeL l ≤ 100000000 → 0 ≤ v → v + Gl.sizeL l ≤ 100000000 → PCtr Tryz.prog 43 [.d (.sl (Gl.rows l)), iV at_, iV v] (.d (.sl (Is.rows (golDL l at_ v))))

set_option maxHeartbeats 4000000 in
set_option maxRecDepth 100000 in
theorem refGoal_ok (g : Gl) (sa : GlsR g.a) (sb : GlsR g.b) (sc : GlsR g.c) (at_ : Nat) (v : Int) (h1 : at_ + 4 * g.size ≤ 100000000) (h2 : 0 ≤ v) (h3 : v + g.size ≤ 100000000) : PCtr Tryz.prog 79 [g.av, iV at_, iV v] (.d (.sl (Is.rows (golD g at_ v)))) := by
 have hge := Gl.size_eq g
 have htp := Gl.tmPos g.t
 have hts := Tm.size_eq g.t
 have hpl := putGL_len g.t.l
 have htl := Tm.len_le_sizeL g.t.l
 have hta := testsGL_b g.a
 have htb := testsGL_b g.b
 refine PCtr.of_R (pf := pfGl15) tyOk mixed Tryz.func79 rfl (by kernel_rfl) (by kernel_rfl) (by simp [Tryz.ntmps79]) fun w S hg => ?_
 rw [golD_eq]
 refine R_run hg.ok 1000 rfl rfl ?_
 by_cases k12 : g.k = 1 ∨ g.k = 2
 ·rw [if_pos k12]
  unfold asksG
  rcases k12 with k1 | k2
  ·refine R_if rfl rfl (fun _ => ?_) (fun h => absurd h (by simp [k1])) <;> refine R_run hg.ok 1000 rfl rfl ?_
   refine R_callNew hg.ok hg.gup ⟨rfl, rfl⟩ (fun _ _ _ _ h => by cases h) [gbx g, .arr 4 g.t.l.length (Is.rows (putGL g.t.l))] (refPuts_ok ⟨[], fun _ => true⟩ g.t.l (by omega)) (fun _ => rfl) rfl rfl rfl rfl rfl rfl ?_
   refine R_run hg.ok 1000 rfl rfl ?_
   rw [w64 (n := 8 + g.k) (by omega) (by omega), Tm.rows_length]
   refine R_appendO hg.ok (Is.rows (putGL g.t.l ++ [Is.mk (8 + g.k) 0 g.t.l.length g.t.s])) rfl rfl rfl rfl rfl rfl rfl rfl rfl (by simp) (by simp [one1]) (Is.rows_snoc _ (Is.mk (8 + g.k) 0 g.t.l.length g.t.s)) (by rw [Is.rows_len]; simp; omega) (by rw [Is.rows_len]; simp; omega) ?_
   refine R_run hg.ok 1000 rfl rfl ?_
   refine R_ret hg 5 rfl (sealA_ow rfl) ?_
   rfl
  ·refine R_if rfl rfl (fun h => absurd h (by simp [k2])) (fun _ => ?_) <;> refine R_run hg.ok 1000 rfl rfl ?_
   refine R_if rfl rfl (fun _ => ?_) (fun h => absurd h (by simp [k2])) <;> refine R_run hg.ok 1000 rfl rfl ?_
   refine R_callNew hg.ok hg.gup ⟨rfl, rfl⟩ (fun _ _ _ _ h => by cases h) [gbx g, .arr 4 g.t.l.length (Is.rows (putGL g.t.l))] (refPuts_ok ⟨[], fun _ => true⟩ g.t.l (by omega)) (fun _ => rfl) rfl rfl rfl rfl rfl rfl ?_
   refine R_run hg.ok 1000 rfl rfl ?_
   rw [w64 (n := 8 + g.k) (by omega) (by omega), Tm.rows_length]
   refine R_appendO hg.ok (Is.rows (putGL g.t.l ++ [Is.mk (8 + g.k) 0 g.t.l.length g.t.s])) rfl rfl rfl rfl rfl rfl rfl rfl rfl (by simp) (by simp [one1]) (Is.rows_snoc _ (Is.mk (8 + g.k) 0 g.t.l.length g.t.s)) (by rw [Is.rows_len]; simp; omega) (by rw [Is.rows_len]; simp; omega) ?_
   refine R_run hg.ok 1000 rfl rfl ?_
   refine R_ret hg 5 rfl (sealA_ow rfl) ?_
   rfl
 rw [if_neg k12]
 have k1 : ¬ g.k = 1 := fun h => k12 (.inl h)
 have k2 : ¬ g.k = 2 := fun h => k12 (.inr h)
 refine R_if rfl rfl (fun h => absurd h (by simp [k1])) (fun _ => ?_) <;> refine R_run hg.ok 1000 rfl rfl ?_
 refine R_if rfl rfl (fun h => absurd h (by simp [k2])) (fun _ => ?_) <;> refine R_run hg.ok 1000 rfl rfl ?_
 by_cases k3 : g.k = 3
 ·rw [if_pos k3]
  refine R_if rfl rfl (fun _ => ?_) (fun h => absurd h (by simp [k3])) <;> refine R_run hg.ok 1000 rfl rfl ?_
  refine R_ret hg 5 rfl rfl ?_
  rfl
 rw [if_neg k3]
 refine R_if rfl rfl (fun h => absurd h (by simp [k3])) (fun _ => ?_) <;> refine R_run hg.ok 1000 rfl rfl ?_
 have hA := golDL_len g.a (at_ + 2) (v + 1)
 rw [w64 (n := (at_ : Int) + 2) (by omega) (by omega), w64 (n := v + 1) (by omega) (by omega), show (at_ : Int) + 2 = ((at_ + 2 : Nat) : Int) by omega]
 refine R_call hg.ok (sa (at_ + 2) (v + 1) (by omega) (by omega) (by omega)) rfl rfl rfl rfl rfl rfl ?_
 refine R_run hg.ok 1000 rfl rfl ?_
 generalize golDL g.a (at_ + 2) (v + 1) = A at *
 by_cases k5 : g.k = 5
 ·rw [if_pos k5]
  refine R_if rfl rfl (fun _ => ?_) (fun h => absurd h (by simp [k5])) <;> refine R_run hg.ok 1000 rfl rfl ?_
  rw [w64 (n := (at_ : Int) + 2) (by omega) (by omega), w64 (n := (at_ : Int) + 2 + ((Is.rows A).length : Int)) (by rw [Is.rows_len]; omega) (by rw [Is.rows_len]; omega), w64 (n := (at_ : Int) + 2 + ((Is.rows A).length : Int) + 2) (by rw [Is.rows_len]; omega) (by rw [Is.rows_len]; omega), show (at_ : Int) + 2 + ((Is.rows A).length : Int) + 2 = ((at_ + 2 + A.length + 2 : Nat) : Int) by rw [Is.rows_len]; omega]
  unfold notCode
  by_cases hA0 : A = []
  ·subst hA0
   refine R_appendF1 hg.ok rfl rfl rfl rfl rfl rfl rfl ?_
   refine R_run hg.ok 1000 rfl rfl ?_
   refine R_appendF hg.ok rfl rfl (.inl rfl) rfl (.inr (by simp)) rfl rfl rfl (by simp) (by simp) (by simp) (by simp) ?_
   refine R_run hg.ok 1000 rfl rfl ?_
   refine R_ret hg 5 rfl (sealA_ow rfl) ?_
   rfl
  ·refine R_appendF hg.ok rfl rfl (.inl rfl) rfl (.inr (by cases A; exact absurd rfl hA0; simp [Is.rows])) rfl rfl rfl (by simp) (Is.rows_4 _) (by rw [Is.rows_len]; simp; omega) (by rw [Is.rows_len]; simp; omega) ?_
   refine R_run hg.ok 1000 rfl rfl ?_
   refine R_appendO hg.ok (Is.rows ([Is.mk 13 v 0 e0, Is.mk 14 0 ((at_ + 2 + A.length + 2 : Nat) : Int) e0] ++ A ++ [Is.mk 15 v 0 e0, Is.mk 17 0 0 e0])) rfl rfl rfl rfl rfl rfl rfl rfl rfl (by simp) (by simp [one1]) (by simp [Is.rows, Is.row]; rfl) (by simp [Is.rows_len]; omega) (by simp [Is.rows_len]; omega) ?_
   refine R_run hg.ok 1000 rfl rfl ?_
   refine R_ret hg 5 rfl (sealA_ow rfl) ?_
   rfl
 rw [if_neg k5]
 refine R_if rfl rfl (fun h => absurd h (by simp [k5])) (fun _ => ?_) <;> refine R_run hg.ok 1000 rfl rfl ?_
 have hB := golDL_len g.b (at_ + 2 + A.length + 1) (v + 1 + testsGL g.a)
 have cB := sb (at_ + 2 + A.length + 1) (v + 1 + testsGL g.a) (by omega) (by omega) (by omega)
 generalize golDL g.b (at_ + 2 + A.length + 1) (v + 1 + testsGL g.a) = B at *
 have hC := golDL_len g.c (at_ + 2 + A.length + 1 + B.length + 1) (v + 1 + testsGL g.a + testsGL g.b)
 have cC := sc (at_ + 2 + A.length + 1 + B.length + 1) (v + 1 + testsGL g.a + testsGL g.b) (by omega) (by omega) (by omega)
 generalize golDL g.c (at_ + 2 + A.length + 1 + B.length + 1) (v + 1 + testsGL g.a + testsGL g.b) = C at *
 rw [Is.rows_len]
 rw [w64 (n := (at_ : Int) + 2) (by omega) (by omega), w64 (n := (at_ : Int) + 2 + (A.length : Int)) (by omega) (by omega), w64 (n := (at_ : Int) + 2 + (A.length : Int) + 1) (by omega) (by omega), w64 (n := v + 1) (by omega) (by omega), show (at_ : Int) + 2 + (A.length : Int) + 1 = ((at_ + 2 + A.length + 1 : Nat) : Int) by omega]
 refine R_call hg.ok (refTests_ok g.a (by omega)) rfl rfl rfl rfl rfl rfl ?_
 refine R_run hg.ok 1000 rfl rfl ?_
 rw [w64 (n := v + 1 + testsGL g.a) (by omega) (by omega)]
 refine R_call hg.ok (cB) rfl rfl rfl rfl rfl rfl ?_
 refine R_run hg.ok 1000 rfl rfl ?_
 rw [Is.rows_len, Is.rows_len]
 rw [w64 (n := (at_ : Int) + 2) (by omega) (by omega), w64 (n := (at_ : Int) + 2 + (A.length : Int)) (by omega) (by omega), w64 (n := (at_ : Int) + 2 + (A.length : Int) + 1) (by omega) (by omega), w64 (n := (at_ : Int) + 2 + (A.length : Int) + 1 + (B.length : Int)) (by omega) (by omega), w64 (n := (at_ : Int) + 2 + (A.length : Int) + 1 + (B.length : Int) + 1) (by omega) (by omega), show (at_ : Int) + 2 + (A.length : Int) + 1 + (B.length : Int) + 1 = ((at_ + 2 + A.length + 1 + B.length + 1 : Nat) : Int) by omega]
 refine R_call hg.ok (refTests_ok g.a (by omega)) rfl rfl rfl rfl rfl rfl ?_
 refine R_run hg.ok 1000 rfl rfl ?_
 rw [w64 (n := v + 1) (by omega) (by omega), w64 (n := v + 1 + testsGL g.a) (by omega) (by omega)]
 refine R_call hg.ok (refTests_ok g.b (by omega)) rfl rfl rfl rfl rfl rfl ?_
 refine R_run hg.ok 1000 rfl rfl ?_
 rw [w64 (n := v + 1 + testsGL g.a + testsGL g.b) (by omega) (by omega)]
 refine R_call hg.ok (cC) rfl rfl rfl rfl rfl rfl ?_
 refine R_run hg.ok 1000 rfl rfl ?_
 unfold ifCode
 by_cases hA0 : A = []
 ·subst hA0
  refine R_appendF1 hg.ok rfl rfl rfl rfl rfl rfl rfl ?_
  refine R_run hg.ok 1000 rfl rfl ?_
  refine R_appendF hg.ok rfl rfl (.inl rfl) rfl (.inr (by simp)) rfl rfl rfl (by simp) (by simp) (by simp) (by simp) ?_
  refine R_run hg.ok 1000 rfl rfl ?_
  refine R_appendO hg.ok (Is.rows (([Is.mk 13 v 0 e0, Is.mk 14 0 ((at_ + 2 + ([] : List Is).length + 1 + B.length + 1 : Nat) : Int) e0] ++ [] ++ [Is.mk 15 v 0 e0]) ++ B)) rfl rfl rfl rfl rfl rfl rfl rfl rfl (Is.rows_4 _) (Is.rows_1 _) (by simp [Is.rows, Is.row]; rfl) (by simp [Is.rows_len]; omega) (by simp [Is.rows_len]; omega) ?_
  refine R_run hg.ok 1000 rfl rfl ?_
  rw [Is.rows_len, w64 (n := ((at_ + 2 + ([] : List Is).length + 1 + B.length + 1 : Nat) : Int) + (C.length : Int)) (by omega) (by omega), show ((at_ + 2 + ([] : List Is).length + 1 + B.length + 1 : Nat) : Int) + (C.length : Int) = ((at_ + 2 + ([] : List Is).length + 1 + B.length + 1 + C.length : Nat) : Int) by omega]
  refine R_appendO hg.ok (Is.rows (([Is.mk 13 v 0 e0, Is.mk 14 0 ((at_ + 2 + ([] : List Is).length + 1 + B.length + 1 : Nat) : Int) e0] ++ [] ++ [Is.mk 15 v 0 e0]) ++ B ++ [Is.mk 16 0 ((at_ + 2 + ([] : List Is).length + 1 + B.length + 1 + C.length : Nat) : Int) e0])) rfl rfl rfl rfl rfl rfl rfl rfl rfl (by simp) (by simp [one1]) (Is.rows_snoc _ (Is.mk 16 0 ((at_ + 2 + ([] : List Is).length + 1 + B.length + 1 + C.length : Nat) : Int) e0)) (by simp [Is.rows_len]; omega) (by simp [Is.rows_len]; omega) ?_
  refine R_run hg.ok 1000 rfl rfl ?_
  refine R_appendO hg.ok (Is.rows (([Is.mk 13 v 0 e0, Is.mk 14 0 ((at_ + 2 + ([] : List Is).length + 1 + B.length + 1 : Nat) : Int) e0] ++ [] ++ [Is.mk 15 v 0 e0]) ++ B ++ [Is.mk 16 0 ((at_ + 2 + ([] : List Is).length + 1 + B.length + 1 + C.length : Nat) : Int) e0] ++ C)) rfl rfl rfl rfl rfl rfl rfl rfl rfl (Is.rows_4 _) (Is.rows_1 _) (Is.rows_app _ _).symm (by simp [Is.rows_len]; omega) (by simp [Is.rows_len]; omega) ?_
  refine R_run hg.ok 1000 rfl rfl ?_
  refine R_ret hg 5 rfl (sealA_ow rfl) ?_
  rfl
 ·refine R_appendF hg.ok rfl rfl (.inl rfl) rfl (.inr (by cases A; exact absurd rfl hA0; simp [Is.rows])) rfl rfl rfl (by simp) (Is.rows_4 _) (by rw [Is.rows_len]; simp; omega) (by rw [Is.rows_len]; simp; omega) ?_
  refine R_run hg.ok 1000 rfl rfl ?_
  refine R_appendO hg.ok (Is.rows ([Is.mk 13 v 0 e0, Is.mk 14 0 ((at_ + 2 + A.length + 1 + B.length + 1 : Nat) : Int) e0] ++ A ++ [Is.mk 15 v 0 e0])) rfl rfl rfl rfl rfl rfl rfl rfl rfl (by simp) (by simp [one1]) (by simp [Is.rows, Is.row]; rfl) (by simp [Is.rows_len]; omega) (by simp [Is.rows_len]; omega) ?_
  refine R_run hg.ok 1000 rfl rfl ?_
  refine R_appendO hg.ok (Is.rows (([Is.mk 13 v 0 e0, Is.mk 14 0 ((at_ + 2 + A.length + 1 + B.length + 1 : Nat) : Int) e0] ++ A ++ [Is.mk 15 v 0 e0]) ++ B)) rfl rfl rfl rfl rfl rfl rfl rfl rfl (Is.rows_4 _) (Is.rows_1 _) (by simp [Is.rows, Is.row]) (by simp [Is.rows_len]; omega) (by simp [Is.rows_len]; omega) ?_
  refine R_run hg.ok 1000 rfl rfl ?_
  rw [Is.rows_len, w64 (n := ((at_ + 2 + A.length + 1 + B.length + 1 : Nat) : Int) + (C.length : Int)) (by omega) (by omega), show ((at_ + 2 + A.length + 1 + B.length + 1 : Nat) : Int) + (C.length : Int) = ((at_ + 2 + A.length + 1 + B.length + 1 + C.length : Nat) : Int) by omega]
  refine R_appendO hg.ok (Is.rows (([Is.mk 13 v 0 e0, Is.mk 14 0 ((at_ + 2 + A.length + 1 + B.length + 1 : Nat) : Int) e0] ++ A ++ [Is.mk 15 v 0 e0]) ++ B ++ [Is.mk 16 0 ((at_ + 2 + A.length + 1 + B.length + 1 + C.length : Nat) : Int) e0])) rfl rfl rfl rfl rfl rfl rfl rfl rfl (by simp) (by simp [one1]) (Is.rows_snoc _ (Is.mk 16 0 ((at_ + 2 + A.length + 1 + B.length + 1 + C.length : Nat) : Int) e0)) (by simp [Is.rows_len]; omega) (by simp [Is.rows_len]; omega) ?_
  refine R_run hg.ok 1000 rfl rfl ?_
  refine R_appendO hg.ok (Is.rows (([Is.mk 13 v 0 e0, Is.mk 14 0 ((at_ + 2 + A.length + 1 + B.length + 1 : Nat) : Int) e0] ++ A ++ [Is.mk 15 v 0 e0]) ++ B ++ [Is.mk 16 0 ((at_ + 2 + A.length + 1 + B.length + 1 + C.length : Nat) : Int) e0] ++ C)) rfl rfl rfl rfl rfl rfl rfl rfl rfl (Is.rows_4 _) (Is.rows_1 _) (Is.rows_app _ _).symm (by simp [Is.rows_len]; omega) (by simp [Is.rows_len]; omega) ?_
  refine R_run hg.ok 1000 rfl rfl ?_
  refine R_ret hg 5 rfl (sealA_ow rfl) ?_
  rfl
end Go.Proofs.YtcgkgofmldhokaaGreat

namespace Go.Proofs.YtcgkgofmldhokaaGreat
open Go PSL Go.Proofs

theorem gl_8 (l : List Gl) : ∀ r ∈ Gl.rows l, r.length = 8 := by
 rw [Gl.rows_eq]
 intro r hr
 obtain ⟨g, _, rfl⟩ := List.mem_map.1 hr
 rfl

set_option maxHeartbeats 4000000 in
set_option maxRecDepth 100000 in
theorem refGoals_ok (l : List Gl) : GlsR l := by
 induction l using Gl.indL with
 | _ l ih =>
 intro at_ v h1 h2 h3
 have hll := Gl.len_size l
 refine PCtr.of_R (pf := fun _ => .eff) tyOk mixed Tryz.func43 rfl (by kernel_rfl) (by kernel_rfl) (by simp [Tryz.ntmps43]) fun w S hg => ?_
 refine R_run hg.ok 1000 rfl rfl ?_
 refine R_own 7 4 rfl rfl ?_
 refine R_loop (fun k : Nat => ([(0, .d (.sl (Gl.rows l))), (1, iV at_), (2, iV (v + testsGL (l.take k))), (7, .ow 0 k), (8, iV k)], [.arr 4 k (Is.rows (golDL (l.take k) at_ v))])) (fun k => k ≤ l.length) (fun k => l.length - k) 0 (Nat.zero_le _) ⟨.refl _, .refl _, Ent.int (by simp [testsGL]), .refl _, .refl _, trivial⟩ rfl ?_
 rintro k hk
 refine R_run hg.ok 1000 rfl rfl ?_
 refine R_if rfl rfl (fun h => ?_) (fun h => ?_) <;> refine R_run hg.ok 1000 rfl rfl ?_
 ·have hk1 : k < l.length := lt_dec h (by rw [Gl.rows_length])
  have e1 : l[k]? = some l[k] := List.getElem?_eq_getElem hk1
  have hm := List.getElem_mem hk1
  have hsz := gl_sizeL_at e1
  have htb := testsGL_b (l.take k)
  have ht := testsGL_take e1
  have hgl := golDL_len (l.take k) at_ v
  have hgk := golDL_take e1 at_ v
  obtain ⟨sa, sb, sc⟩ := ih _ hm
  have hgb := testsG_b l[k]
  have hg1 := golD_len l[k] (at_ + (golDL (l.take k) at_ v).length) (v + testsGL (l.take k))
  have cg := refGoal_ok l[k] sa sb sc (at_ + (golDL (l.take k) at_ v).length) (v + testsGL (l.take k)) (by omega) (by omega) (by omega)
  have ct := refTests_ok [l[k]] (by simp only [Gl.sizeL]; omega)
  rw [show testsGL [l[k]] = testsG l[k] by simp [testsGL]] at ct
  generalize l[k] = g at *
  refine R_index hg.ok rfl rfl rfl rfl rfl rfl (Int.natCast_nonneg _) (Gl.rows_get e1) rfl ?_
  refine R_run hg.ok 1000 rfl rfl ?_
  refine R_lenO hg.ok rfl rfl rfl rfl rfl (n := ((golDL (l.take k) at_ v).length : Int)) (by rw [Is.rows_len]) ?_
  refine R_run hg.ok 1000 rfl rfl ?_
  rw [w64 (n := (at_ : Int) + ((golDL (l.take k) at_ v).length : Int)) (by omega) (by omega), show (at_ : Int) + ((golDL (l.take k) at_ v).length : Int) = ((at_ + (golDL (l.take k) at_ v).length : Nat) : Int) by omega]
  refine R_call hg.ok (cg) rfl rfl rfl rfl rfl rfl ?_
  refine R_run hg.ok 1000 rfl rfl ?_
  refine R_appendO hg.ok (Is.rows (golDL (l.take (k + 1)) at_ v)) rfl rfl rfl rfl rfl rfl rfl rfl rfl (Is.rows_4 _) (Is.rows_1 _) (by rw [← Is.rows_app, hgk]) (by simp [Is.rows_len]; omega) (by simp [Is.rows_len]; omega) ?_
  refine R_run hg.ok 1000 rfl rfl ?_
  rw [w64 (n := (k : Int) + 1) (by omega) (by omega)]
  refine R_sliceO hg.ok (Gl.rows [g]) rfl rfl rfl rfl rfl rfl rfl (gl_8 l) (by omega) (by omega) (by rw [Gl.rows_length]; omega) ?_ ?_
  ·have e3 : ((k : Int) + 1).toNat - (k : Int).toNat = 1 := by omega
   rw [e3, Int.toNat_natCast]
   have e2 := Gl.rows_get e1
   obtain ⟨h5, h6⟩ := List.getElem?_eq_some_iff.1 e2
   rw [List.drop_eq_getElem_cons h5, h6, Gl.rows_eq [g]]; rfl
  refine R_run hg.ok 1000 rfl rfl ?_
  refine R_call hg.ok (ct) rfl rfl rfl rfl rfl rfl ?_
  refine R_run hg.ok 1000 rfl rfl ?_
  exact R_next (k + 1) hk1 (by omega) ⟨.refl _, .refl _, by rw [ht]; exact Ent.wrap (by omega) (by omega) (by omega), .refl _, Ent.wrap (by omega) (by omega) (by omega), trivial⟩ rfl
 ·have hk1 : l.length ≤ k := ge_dec h (by rw [Gl.rows_length])
  rw [List.take_of_length_le hk1]
  refine R_ret hg 5 rfl (sealA_ow rfl) ?_
  rfl

set_option maxHeartbeats 4000000 in
set_option maxRecDepth 100000 in
theorem refClause15_ok (x : Cs) (at_ : Nat) (h1 : at_ ≤ 50000000) (h2 : x.head.size ≤ 1000000) (h3 : Gl.sizeL x.body ≤ 1000000) (h4 : 0 ≤ x.vars) (h5 : x.vars ≤ 1000) : PCtr Tryz.prog 14 [x.av, iV at_] (.d (.sl (Is.rows (clsC x at_)))) := by
 have hs := Tm.size_eq x.head
 have hl := Tm.len_le_sizeL x.head.l
 have hh := headGL_len x.head.l []
 unfold clsC clsH
 refine PCtr.of_R (pf := pfBE) tyOk mixed Tryz.func14 rfl (by kernel_rfl) (by kernel_rfl) (by simp [Tryz.ntmps14]) fun w S hg => ?_
 refine R_run hg.ok 1000 rfl rfl ?_
 refine R_own 5 4 rfl rfl ?_
 refine R_loop (fun k : Nat => ([(1, iV at_), (2, .lo 0 0), (5, .ow 1 (headGL (x.head.l.take k) []).1.length), (6, .d (.sl (irows (headGL (x.head.l.take k) []).2))), (7, iV k)], csBox x :: hdO (headGL (x.head.l.take k) []).1)) (fun k => k ≤ x.head.l.length) (fun k => x.head.l.length - k) 0 (Nat.zero_le _) ⟨.refl _, .refl _, .refl _, .nil, .refl _, trivial⟩ rfl ?_
 rintro k hk
 refine R_run hg.ok 1000 rfl rfl ?_
 refine R_if rfl rfl (fun h => ?_) (fun h => ?_) <;> refine R_run hg.ok 1000 rfl rfl ?_
 ·have hk1 : k < x.head.l.length := lt_dec h (by rw [Tm.rows_length])
  have e1 : x.head.l[k]? = some x.head.l[k] := List.getElem?_eq_getElem hk1
  have hsz := tm_sizeL_at e1
  have hsl := headGL_len (x.head.l.take k) []
  have hx := refHead_ok ⟨[], fun _ => true⟩ x.head.l[k] (headGL (x.head.l.take k) []).2 (headGL (x.head.l.take k) []).1 (by omega) (by simp at hsl; omega)
  rw [← headGL_t1 e1 [], ← headGL_t2 e1 []] at hx
  generalize x.head.l[k] = t at *
  refine R_index hg.ok rfl rfl rfl rfl rfl rfl (Int.natCast_nonneg _) (Tm.rows_get e1) rfl ?_
  refine R_run hg.ok 1000 rfl rfl ?_
  refine R_callSO hg.ok hg.gup ⟨rfl, rfl⟩ (fun _ _ _ _ h => by cases h) [1] (csBox x :: hdO (headGL (x.head.l.take (k + 1)) []).1) hx (fun _ => rfl) rfl rfl rfl rfl rfl rfl rfl rfl ?_
  refine R_run hg.ok 1000 rfl rfl ?_
  exact R_next (k + 1) hk1 (by omega) ⟨.refl _, .refl _, .refl _, .refl _, Ent.wrap (by omega) (by omega) (by omega), trivial⟩ rfl
 ·have hk1 : x.head.l.length ≤ k := ge_dec h (by rw [Tm.rows_length])
  rw [List.take_of_length_le hk1]
  generalize headGL x.head.l [] = H at *
  obtain ⟨H, M⟩ := H
  simp only at hh ⊢
  have hfl := freshG_len M x.vars.toNat
  refine R_loop (fun v : Nat × Nat => ([(1, iV at_), (2, .lo 0 0), (5, .ow 1 v.2), (6, .d (.sl (irows M))), (8, iV v.1)], [csBox x, .arr 4 v.2 (Is.rows (H ++ freshG M v.1))])) (fun v => (v.1 : Int) ≤ x.vars) (fun v => x.vars.toNat - v.1) (0, H.length) h4 ⟨.refl _, .refl _, .refl _, .refl _, .refl _, trivial⟩ (by simp [freshG]; rfl) ?_
  rintro ⟨v, s⟩ hv
  simp only at hv
  have hfv := freshG_len M v
  refine R_run hg.ok 1000 rfl rfl ?_
  refine R_if rfl rfl (fun h => ?_) (fun h => ?_) <;> refine R_run hg.ok 1000 rfl rfl ?_
  ·have hv1 : (v : Int) < x.vars := of_decide_eq_true h
   refine R_call hg.ok (at_ok M v (by simp at hh; omega)) rfl rfl rfl rfl rfl rfl ?_
   refine R_run hg.ok 1000 rfl rfl ?_
   have hat : (atI M v 0 < 0) ↔ M.contains (v : Int) = false := atI_ctn M v 0 (Int.le_refl _)
   cases hm : M.contains (v : Int) with
   | true =>
    refine R_if rfl rfl (fun h => absurd h (by simp; have := mt hat.1 (by rw [hm]; simp); omega)) (fun _ => ?_) <;> refine R_run hg.ok 1000 rfl rfl ?_
    exact R_next (v + 1, s) (by show ((v + 1 : Nat) : Int) ≤ x.vars; omega) (by simp only; omega) ⟨.refl _, .refl _, .refl _, .refl _, Ent.wrap (by simp only; omega) (by simp only; omega) (by simp only; omega), trivial⟩ (by simp only [freshG_succ, hm, if_true]; rfl)
   | false =>
    refine R_if rfl rfl (fun _ => ?_) (fun h => absurd h (by simp; have := hat.2 hm; omega)) <;> refine R_run hg.ok 1000 rfl rfl ?_
    refine R_appendO hg.ok (Is.rows (H ++ freshG M (v + 1))) rfl rfl rfl rfl rfl rfl rfl rfl rfl (by simp) (by simp [one1]) (by rw [freshG_succ, hm]; simp [Is.rows, Is.row]; rfl) (by simp [Is.rows_len]; omega) (by simp [Is.rows_len]; omega) ?_
    refine R_run hg.ok 1000 rfl rfl ?_
    exact R_next (v + 1, Nat.succ s) (by show ((v + 1 : Nat) : Int) ≤ x.vars; omega) (by simp only; omega) ⟨.refl _, .refl _, .refl _, .refl _, Ent.wrap (by simp only; omega) (by simp only; omega) (by simp only; omega), trivial⟩ rfl
  ·have hv1 : ¬ (v : Int) < x.vars := of_decide_eq_false h
   have hve : v = x.vars.toNat := by omega
   subst hve
   have hcl : (H ++ freshG M x.vars.toNat).length ≤ 1001000 := by rw [List.length_append]; omega
   generalize H ++ freshG M x.vars.toNat = C at *
   have hgl := golDL_len x.body (at_ + C.length) x.vars
   refine R_lenO hg.ok rfl rfl rfl rfl rfl (n := (C.length : Int)) (by rw [Is.rows_len]) ?_
   refine R_run hg.ok 1000 rfl rfl ?_
   rw [w64 (n := (at_ : Int) + (C.length : Int)) (by omega) (by omega), show (at_ : Int) + (C.length : Int) = ((at_ + C.length : Nat) : Int) by omega]
   refine R_call hg.ok (refGoals_ok x.body (at_ + C.length) x.vars (by omega) (by omega) (by omega)) rfl rfl rfl rfl rfl rfl ?_
   refine R_run hg.ok 1000 rfl rfl ?_
   refine R_appendO hg.ok (Is.rows (C ++ golDL x.body (at_ + C.length) x.vars)) rfl rfl rfl rfl rfl rfl rfl rfl rfl (Is.rows_4 _) (Is.rows_1 _) (Is.rows_app _ _).symm (by simp [Is.rows_len]; omega) (by simp [Is.rows_len]; omega) ?_
   refine R_run hg.ok 1000 rfl rfl ?_
   refine R_appendO hg.ok (Is.rows (C ++ golDL x.body (at_ + C.length) x.vars ++ [Is.mk 12 0 0 e0])) rfl rfl rfl rfl rfl rfl rfl rfl rfl (by simp) (by simp [one1]) (Is.rows_snoc _ (Is.mk 12 0 0 e0)) (by simp [Is.rows_len]; omega) (by simp [Is.rows_len]; omega) ?_
   refine R_run hg.ok 1000 rfl rfl ?_
   refine R_ret hg 5 rfl (sealA_ow rfl) ?_
   rfl
end Go.Proofs.YtcgkgofmldhokaaGreat

namespace Go.Proofs.YtcgkgofmldhokaaGreat
open Go PSL Go.Proofs
def pfCmp15 : Nat → Cls := fun f => bif Nat.beq f 4000000007 then .loadB else bif Nat.beq f 37 then .still else .eff

theorem cdO_ren2 (f : Nat → Nat) (met : List Int) (slot at_ : Int) (c : List Is) (e : List En) : (cdO met slot at_ c e).map (renOb f) = [.box [.lo (f 1) 0, .mp (f 2), iV slot], .box [.ow (f 3) c.length, .ow (f 4) e.length, iV at_, iV 0], .map (imap (setB met)), .arr 4 c.length (Is.rows c), .arr 7 e.length (En.rows e)] := by
 simp only [cdO, List.map_cons, List.map_nil, renOb_setB]
 simp [renOb, renA, renL, iV]

def cm6 (l : List Cs) (q : Cs) (at_ : Int) (c : List Is) (e : List En) : List Ob := [.box [.d (.sl (Cs.rows l))], csBox q, .box [.d (.v (.slice none 0 0)), .d (.v (.slice none 0 0)), iV 0, iV 0], .box [.ow 4 c.length, .ow 5 e.length, iV at_, iV 0], .arr 4 c.length (Is.rows c), .arr 7 e.length (En.rows e)]
theorem is_len_app (a b : List Is) : (a ++ b).length = a.length + b.length := List.length_append
def cdZ : Cd := ⟨[], [], 0, 0⟩

set_option maxHeartbeats 4000000 in
set_option maxRecDepth 100000 in
theorem compile_bad (l : List Cs) (q : Cs) (hf : PCtr Tryz.prog 31 [q.av, prV l] (bV false)) : PCtr Tryz.prog 10 [prV l, q.av] (.tup [cdZ.av, iV 1]) := by
 refine PCtr.of_R (pf := pfCmp15) tyOk mixed Tryz.func10 rfl (by kernel_rfl) (by kernel_rfl) (by simp [Tryz.ntmps10]) fun w S hg => ?_
 refine R_run hg.ok 1000 rfl rfl ?_
 refine R_call hg.ok (hf) rfl rfl rfl rfl rfl rfl ?_
 refine R_run hg.ok 1000 rfl rfl ?_
 refine R_if rfl rfl (fun _ => ?_) (fun h => absurd h (by simp)) <;> refine R_run hg.ok 1000 rfl rfl ?_
 refine R_ret hg 5 rfl rfl ?_
 rfl

structure CmpOk (l : List Cs) (q : Cs) : Prop where
 len : l.length ≤ 210
 size : Cs.sizeL l ≤ 3000
 qsize : Cs.size q ≤ 3000
 five : ∀ c ∈ l, fiveL c.body
 vars : ∀ c ∈ l, 0 ≤ c.vars ∧ c.vars ≤ 1000
 qfive : fiveL q.body
 qvars : 0 ≤ q.vars ∧ q.vars ≤ 1000

set_option maxHeartbeats 4000000 in
set_option maxRecDepth 100000 in
theorem compile_ok (l : List Cs) (q : Cs) (hk : CmpOk l q) (hf : PCtr Tryz.prog 31 [q.av, prV l] (bV true)) : PCtr Tryz.prog 10 [prV l, q.av] (.tup [(compG l q).av, iV 0]) := by
 have hll := hk.len
 have hls := hk.size
 refine PCtr.of_R (pf := pfCmp15) tyOk mixed Tryz.func10 rfl (by kernel_rfl) (by kernel_rfl) (by simp [Tryz.ntmps10]) fun w S hg => ?_
 refine R_run hg.ok 1000 rfl rfl ?_
 refine R_call hg.ok (hf) rfl rfl rfl rfl rfl rfl ?_
 refine R_run hg.ok 1000 rfl rfl ?_
 refine R_if rfl rfl (fun h => absurd h (by simp)) (fun _ => ?_) <;> refine R_run hg.ok 1000 rfl rfl ?_
 refine R_ownB 3 0 4 rfl rfl rfl ?_
 refine R_ownB 3 1 7 rfl rfl rfl ?_
 refine R_loop (fun k : Nat => ([(3, .lo 1 0), (4, .lo 2 0), (6, .lo 3 0), (18, .d (.sl (Cs.rows l))), (19, iV l.length), (20, iV k)], cm6 l q 0 (codeL (l.take k) []) (entL (l.take k) 0))) (fun k => k ≤ l.length) (fun k => l.length - k) 0 (Nat.zero_le _) ⟨.refl _, .refl _, .refl _, .refl _, by rw [Cs.rows_len]; exact .refl _, .refl _, trivial⟩ rfl ?_
 rintro k hkl
 refine R_run hg.ok 1000 rfl rfl ?_
 refine R_if rfl rfl (fun h => ?_) (fun h => ?_) <;> refine R_run hg.ok 1000 rfl rfl ?_
 ·have hk1 : k < l.length := lt_dec h rfl
  have e1 : l[k]? = some l[k] := List.getElem?_eq_getElem hk1
  have hm := List.getElem_mem hk1
  have hx5 := hk.five _ hm
  have hxv := hk.vars _ hm
  have hxs := cs_size_mem hm
  have hcl := codeL_len (l.take k) [] fun c hc => (hk.vars c (List.mem_of_mem_take hc)).2
  have htl := cs_sizeL_take l k
  have hlt : (l.take k).length ≤ 210 := by rw [List.length_take]; omega
  have hel := entL_len (l.take k) 0
  have hct := codeL_take e1 []
  have het := entL_take e1
  generalize l[k] = x at *
  generalize codeL (l.take k) [] = c at *
  generalize entL (l.take k) 0 = e at *
  have hvv : x.vars = (x.vars.toNat : Int) := by omega
  have hxh := Tm.size_eq x.head
  unfold Cs.size at hxs
  simp only [List.length_nil] at hcl
  have hH := headGL_len x.head.l []
  have hF := freshG_len (headGL x.head.l []).2 x.vars.toNat
  have hcH : (clsH x).length ≤ 4001 := by unfold clsH; rw [List.length_append]; omega
  have hG := golDL_len x.body (c ++ clsH x).length x.vars
  have htb := testsGL_b x.body
  refine R_index hg.ok rfl rfl rfl rfl rfl rfl (Int.natCast_nonneg _) (Cs.rows_get e1) rfl ?_
  refine R_run hg.ok 1000 rfl rfl ?_
  refine R_makeMap hg.ok rfl rfl ?_
  refine R_run hg.ok 1000 rfl rfl ?_
  refine R_lenO hg.ok rfl rfl rfl rfl rfl (n := (c.length : Int)) (by rw [Is.rows_len]) ?_
  refine R_run hg.ok 1000 rfl rfl ?_
  have p1 := cdAllH_ok ⟨[], fun _ => true⟩ x.head.l (fun t _ => cdHead_ok _ t) [] x.vars 0 c e (by omega)
  refine R_callSO hg.ok hg.gup ⟨rfl, rfl⟩ (fun _ _ _ _ h => by cases h) [8, 3, 7, 4, 5] (cm6 l q 0 (c ++ (headGL x.head.l []).1) e ++ [csBox x, .map (imap (setB (headGL x.head.l []).2)), .box [.lo 3 0, .mp 7, iV x.vars]]) (p1) (fun _ => rfl) rfl rfl rfl rfl rfl (by rw [cdO_ren2]; rfl) rfl (by rw [cdO_ren2]; rfl) ?_
  refine R_run hg.ok 1000 rfl rfl ?_
  have p2 := cdFresh_ok ⟨[], fun _ => true⟩ x.vars.toNat (by omega) (headGL x.head.l []).2 x.vars 0 (c ++ (headGL x.head.l []).1) e (by rw [List.length_append]; omega)
  rw [← hvv, List.append_assoc, show (headGL x.head.l []).1 ++ freshG (headGL x.head.l []).2 x.vars.toNat = clsH x from rfl] at p2
  generalize (headGL x.head.l []).2 = M at *
  refine R_callSO hg.ok hg.gup ⟨rfl, rfl⟩ (fun _ _ _ _ h => by cases h) [8, 3, 7, 4, 5] (cm6 l q 0 (c ++ clsH x) e ++ [csBox x, .map (imap (setB M)), .box [.lo 3 0, .mp 7, iV x.vars]]) (p2) (fun _ => rfl) rfl rfl rfl rfl rfl (by rw [cdO_ren2]; rfl) rfl (by rw [cdO_ren2]; rfl) ?_
  refine R_run hg.ok 1000 rfl rfl ?_
  have p3 := cdGoals_ok ⟨[], fun _ => true⟩ x.body M x.vars 0 (c ++ clsH x) e hx5 (by rw [List.length_append]; omega) hxv.1 (by omega)
  refine R_callSO hg.ok hg.gup ⟨rfl, rfl⟩ (fun _ _ _ _ h => by cases h) [8, 3, 7, 4, 5] (cm6 l q 0 (c ++ clsH x ++ golDL x.body (c ++ clsH x).length x.vars) e ++ [csBox x, .map (imap (setB M)), .box [.lo 3 0, .mp 7, iV (x.vars + testsGL x.body)]]) (p3) (fun _ => rfl) rfl rfl rfl rfl rfl (by rw [cdO_ren2]; rfl) rfl (by rw [cdO_ren2]; rfl) ?_
  refine R_run hg.ok 1000 rfl rfl ?_
  have p4 := cdAdd_ok ⟨[], fun _ => true⟩ M (x.vars + testsGL x.body) 0 (c ++ clsH x ++ golDL x.body (c ++ clsH x).length x.vars) e (Is.mk 12 0 0 e0) (by have h7 := is_len_app (c ++ clsH x) (golDL x.body (c ++ clsH x).length x.vars); have h8 := is_len_app (c) (clsH x); omega)
  have hcc : c ++ clsH x ++ golDL x.body (c ++ clsH x).length x.vars ++ [Is.mk 12 0 0 e0] = c ++ clsC x c.length := by
   unfold clsC; rw [List.length_append]; simp only [List.append_assoc]
  rw [hcc, ← hct] at p4
  refine R_callSO hg.ok hg.gup ⟨rfl, rfl⟩ (fun _ _ _ _ h => by cases h) [8, 3, 7, 4, 5] (cm6 l q 0 (codeL (l.take (k + 1)) []) e ++ [csBox x, .map (imap (setB M)), .box [.lo 3 0, .mp 7, iV (x.vars + testsGL x.body)]]) (p4) (fun _ => rfl) rfl rfl rfl rfl rfl (by rw [cdO_ren2]; rfl) rfl (by rw [cdO_ren2]; rfl) ?_
  refine R_run hg.ok 1000 rfl rfl ?_
  refine R_call hg.ok (key_ok x.head) rfl rfl rfl rfl rfl rfl ?_
  refine R_run hg.ok 1000 rfl rfl ?_
  rw [Tm.rows_length]
  have hel2 : (e ++ [entG x c.length]).length = Nat.succ e.length := by simp
  refine R_appendO hg.ok (En.rows (e ++ [entG x c.length])) rfl rfl rfl rfl rfl rfl rfl rfl rfl (by simp [kyA]) (by simp [one1, kyA]) (En.rows_snoc e (entG x c.length)) (by rw [En.rows_len]; simp; omega) (by rw [En.rows_len]; simp; omega) ?_
  rw [← hel2, ← het]
  refine R_run hg.ok 1000 rfl rfl ?_
  refine R_dropO 6 (cm6 l q 0 (codeL (l.take (k + 1)) []) (entL (l.take (k + 1)) 0)) (Nat.zero_le _) rfl rfl ?_
  exact R_next (k + 1) hk1 (by omega) ⟨.refl _, .refl _, .refl _, .refl _, .refl _, Ent.wrap (by omega) (by omega) (by omega), trivial⟩ rfl
 ·have hk1 : l.length ≤ k := ge_dec h rfl
  rw [List.take_of_length_le hk1]
  have hcl := codeL_len l [] fun c hc => (hk.vars c hc).2
  simp only [List.length_nil] at hcl
  have hcg : (compG l q) = ⟨codeL l [] ++ qryE q (codeL l []).length, entL l 0, (codeL l []).length, q.vars + testsGL q.body⟩ := rfl
  rw [hcg]
  clear hcg
  generalize codeL l [] = c at *
  generalize entL l 0 = e at *
  have hqs := hk.qsize
  have hqv := hk.qvars
  unfold Cs.size at hqs
  have hvv : q.vars = (q.vars.toNat : Int) := by omega
  have hF := freshG_len [] q.vars.toNat
  have hG := golDL_len q.body (c ++ qryH q).length q.vars
  have htb := testsGL_b q.body
  have hxh := Tm.size_eq q.head
  have hpl := putGL_len q.head.l
  refine R_lenO hg.ok rfl rfl rfl rfl rfl (n := (c.length : Int)) (by rw [Is.rows_len]) ?_
  refine R_run hg.ok 1000 rfl rfl ?_
  refine R_makeMap hg.ok rfl rfl ?_
  refine R_run hg.ok 1000 rfl rfl ?_
  have p2 := cdFresh_ok ⟨[], fun _ => true⟩ q.vars.toNat (by omega) [] q.vars c.length c e (by omega)
  rw [← hvv, show freshG [] q.vars.toNat = qryH q from rfl] at p2
  have hQ : (qryH q).length ≤ 1000 := by unfold qryH; omega
  refine R_callSO hg.ok hg.gup ⟨rfl, rfl⟩ (fun _ _ _ _ h => by cases h) [7, 3, 6, 4, 5] (cm6 l q c.length (c ++ qryH q) e ++ [.map (imap (setB [])), .box [.lo 3 0, .mp 6, iV q.vars]]) (p2) (fun _ => rfl) rfl rfl rfl rfl rfl (by rw [cdO_ren2]; rfl) rfl (by rw [cdO_ren2]; rfl) ?_
  refine R_run hg.ok 1000 rfl rfl ?_
  have h8 := is_len_app (c) (qryH q)
  have p3 := cdGoals_ok ⟨[], fun _ => true⟩ q.body [] q.vars c.length (c ++ qryH q) e hk.qfive (by omega) hqv.1 (by omega)
  refine R_callSO hg.ok hg.gup ⟨rfl, rfl⟩ (fun _ _ _ _ h => by cases h) [7, 3, 6, 4, 5] (cm6 l q c.length (c ++ qryH q ++ golDL q.body (c ++ qryH q).length q.vars) e ++ [.map (imap (setB [])), .box [.lo 3 0, .mp 6, iV (q.vars + testsGL q.body)]]) (p3) (fun _ => rfl) rfl rfl rfl rfl rfl (by rw [cdO_ren2]; rfl) rfl (by rw [cdO_ren2]; rfl) ?_
  refine R_run hg.ok 1000 rfl rfl ?_
  have h7 := is_len_app (c ++ qryH q) (golDL q.body (c ++ qryH q).length q.vars)
  have p4 := cdAllP_ok ⟨[], fun _ => true⟩ q.head.l (fun t _ => cdPut_ok _ t) [] (q.vars + testsGL q.body) c.length (c ++ qryH q ++ golDL q.body (c ++ qryH q).length q.vars) e (by omega)
  refine R_callSO hg.ok hg.gup ⟨rfl, rfl⟩ (fun _ _ _ _ h => by cases h) [7, 3, 6, 4, 5] (cm6 l q c.length (c ++ qryH q ++ golDL q.body (c ++ qryH q).length q.vars ++ putGL q.head.l) e ++ [.map (imap (setB [])), .box [.lo 3 0, .mp 6, iV (q.vars + testsGL q.body)]]) (p4) (fun _ => rfl) rfl rfl rfl rfl rfl (by rw [cdO_ren2]; rfl) rfl (by rw [cdO_ren2]; rfl) ?_
  refine R_run hg.ok 1000 rfl rfl ?_
  rw [Tm.rows_length]
  have h9 := is_len_app (c ++ qryH q ++ golDL q.body (c ++ qryH q).length q.vars) (putGL q.head.l)
  have p5 := cdAdd_ok ⟨[], fun _ => true⟩ [] (q.vars + testsGL q.body) c.length (c ++ qryH q ++ golDL q.body (c ++ qryH q).length q.vars ++ putGL q.head.l) e (Is.mk 18 0 q.head.l.length e0) (by omega)
  have hcc : c ++ qryH q ++ golDL q.body (c ++ qryH q).length q.vars ++ putGL q.head.l ++ [Is.mk 18 0 q.head.l.length e0] = c ++ qryE q c.length := by
   unfold qryE; rw [List.length_append]; simp only [List.append_assoc]
  rw [hcc] at p5
  refine R_callSO hg.ok hg.gup ⟨rfl, rfl⟩ (fun _ _ _ _ h => by cases h) [7, 3, 6, 4, 5] (cm6 l q c.length (c ++ qryE q c.length) e ++ [.map (imap (setB [])), .box [.lo 3 0, .mp 6, iV (q.vars + testsGL q.body)]]) (p5) (fun _ => rfl) rfl rfl rfl rfl rfl (by rw [cdO_ren2]; rfl) rfl (by rw [cdO_ren2]; rfl) ?_
  refine R_run hg.ok 1000 rfl rfl ?_
  refine R_ret hg 5 rfl (sealA_tup (mapO_cons (sealA_agg (mapO_cons (sealA_ow rfl) (mapO_cons (sealA_ow rfl) rfl))) rfl)) ?_
  rfl
end Go.Proofs.YtcgkgofmldhokaaGreat

namespace PSL
open Go Go.RowKit
section
variable {g : G} {pf : Nat → Cls} {ops : Array Oper} {Fin : Exit → Act → World → Prop}
end
end PSL

namespace Go.Proofs.YtcgkgofmldhokaaGreat
open Go PSL Go.Proofs
end Go.Proofs.YtcgkgofmldhokaaGreat

namespace PSL
open Go Go.RowKit
section
variable {g : G} {pf : Nat → Cls} {ops : Array Oper} {Fin : Exit → Act → World → Prop}

theorem rvs_vals {S : Nat → Prop} {w : World} {φ : List Phy} : ∀ (l : List Value) (vs : List Value), RVs S w φ (l.map fun v => .d (.v v)) vs → vs = l
 | [], [], _ => rfl
 | [], _ :: _, h => by simp [RVs] at h
 | _ :: _, [], h => by simp [RVs] at h
 | a :: l, b :: vs, h => by
  simp only [List.map_cons, RVs] at h
  obtain ⟨h1, h2⟩ := h
  simp only [RV] at h1
  cases h1
  rw [rvs_vals l vs h2]
end
end PSL

namespace PSL
open Go Go.RowKit

theorem Ent.agg {l m : List AV} (h : EntL l m) : Ent (.agg l) (.agg m) := fun S w φ v hv => by
 simp only [RV] at hv ⊢
 obtain ⟨cs, h1, h2⟩ := hv
 exact ⟨cs, h1, h.rvs h2⟩
section
variable {g : G} {pf : Nat → Cls} {ops : Array Oper} {Fin : Exit → Act → World → Prop}

theorem R_eqlV (hg : GOk g) (vs us : List Value) (r : Bool) {dst : Option Nat} {T T' : Nat} {x y : Operand} {ty : Nat} {pos : String} {after : Array Edge} {gd : Option (Nat × Bool)} {rest : List Oper} {k : List It} {E : Env} {objs : List Ob}
  (hgd : guardA ops.toList E gd = some true) (hd : dstOk ⟨g.ty, g.N⟩ dst = true) (hx : ev E x = .agg (vs.map fun v => .d (.v v))) (hy : ev E y = .agg (us.map fun v => .d (.v v)))
  (hrun : ∀ w, ((do eqGuard .eql T x y (.agg vs.toArray) (.agg us.toArray); binOp .eql T (.agg vs.toArray) (.agg us.toArray)) : Sem Value).run g.P w = .ok (.bool r) w)
  (hr : R g pf Fin (.dr ops rest :: k) (putO E dst (.d (.v (.bool r)))) objs) : R g pf Fin (.dr ops (⟨dst, .binOp .eql T x y T', ty, pos, after, gd⟩ :: rest) :: k) E objs := by
 refine R_op (LocOp.up (LocOp.quiet hg hgd hd (by simp) fun φ objs w' w hρ hs' => ?_)) hr
 simp only [Op.operands] at hρ
 have hxv := hρ x (by simp)
 rw [hx] at hxv
 have hyv := hρ y (by simp)
 rw [hy] at hyv
 simp only [RV] at hxv hyv
 obtain ⟨cx, ex, hxv⟩ := hxv
 obtain ⟨cy, ey, hyv⟩ := hyv
 have hxv := rvs_vals vs cx hxv
 have hyv := rvs_vals us cy hyv
 subst hxv; subst hyv
 refine out_val hs' (vv := .bool r) ?_ (by simp only [RV]; exact .v _)
 have h2 := hrun w
 simp only [Sem.run_bind] at h2
 simp only [execOp, Sem.run_bind, ex, ey]
 have e : ∀ (r1 : Result Unit) (f : Unit → World → Result Value), (r1.andThen f).andThen (fun v w' => .ok (Next.value v) w') = r1.andThen fun u w' => (f u w').andThen (fun v w' => .ok (Next.value v) w') := fun r1 f => by cases r1 <;> rfl
 rw [h2]; rfl
end
end PSL

namespace PSL
open Go
end PSL

namespace PSL
open Go
section
variable {B : Binds} {M : Nat}
end
end PSL

namespace PSL
open Go
namespace Tm

def walkT (B : Binds) : Nat → Tm → Tm
 | 0, t => t
 | f + 1, t => if t.k = 1 then (match findB B t.n with | some x => walkT B f x | none => t) else t
def walkB (B : Binds) (t : Tm) : Tm := walkT B (B.length + 1) t

mutual
def lkT (g : Int → List Int → Bool × List Int) : Tm → List Int → Bool × List Int
 | mk k _ n l, M => if k = 1 then g n M else lkTL g l M
def lkTL (g : Int → List Int → Bool × List Int) : List Tm → List Int → Bool × List Int
 | [], M => (false, M)
 | x :: r, M => if (lkT g x M).1 then (true, (lkT g x M).2) else lkTL g r (lkT g x M).2
end

def lkF (B : Binds) (v : Int) : Nat → Int → List Int → Bool × List Int
 | 0, n, M => (decide (n = v), M)
 | u + 1, n, M => if n = v then (true, M) else match findB B n with
  | none => (false, M)
  | some x => if M.contains n then (false, M) else lkT (lkF B v u) x (M ++ [n])
def withB (B : Binds) (v : Int) (t : Tm) : Bool := (lkT (lkF B v (B.length + 1)) t []).1
def clashB (x y : Tm) : Bool := decide (x.k ≠ y.k) || decide (x.n ≠ y.n) || !strEq x.s y.s || decide (x.l.length ≠ y.l.length)

def uniF : Nat → List (Tm × Tm) → Binds → List (Int × Int) → Option (Option Binds)
 | 0, _, _, _ => none
 | f + 1, T, B, met => match T.getLast? with
  | none => some (some B)
  | some (x, y) =>
   if (decide (x.k = 1) && decide (y.k = 1)) && met.contains (x.n, y.n) then uniF f T.dropLast B met else
   let met' := if decide (x.k = 1) && decide (y.k = 1) then met ++ [(x.n, y.n)] else met
   let x' := walkB B x
   let y' := walkB B y
   if x'.k = 1 ∧ y'.k = 1 ∧ x'.n = y'.n then uniF f T.dropLast B met'
   else if x'.k = 1 then (if withB B x'.n y' then some none else uniF f T.dropLast (B ++ [(x'.n, y')]) met')
   else if y'.k = 1 then (if withB B y'.n x' then some none else uniF f T.dropLast (B ++ [(y'.n, x')]) met')
   else if clashB x' y' then some none
   else uniF f (T.dropLast ++ x'.l.zip y'.l) B met'
def solB (σ : Int → Tm) (B : Binds) : Prop := ∀ b ∈ B, σ b.1 = putF σ b.2

theorem putF_var {σ : Int → Tm} {t : Tm} (h : t.k = 1) : putF σ t = σ t.n := by
 cases t; simp only [k, n] at h ⊢; simp only [putF]; rw [if_pos h]

theorem putF_fun {σ : Int → Tm} {t : Tm} (h : t.k ≠ 1) : putF σ t = mk t.k t.s t.n (putFL σ t.l) := by
 cases t; simp only [k, n, s, l] at h ⊢; simp only [putF]; rw [if_neg h]
theorem size_pos (t : Tm) : 1 ≤ size t := by rw [size_eq]; omega

theorem walk_sol {σ : Int → Tm} {B : Binds} (h : solB σ B) : ∀ (f : Nat) (t : Tm), putF σ (walkT B f t) = putF σ t
 | 0, t => rfl
 | f + 1, t => by
  simp only [walkT]
  by_cases hk : t.k = 1
  ·rw [if_pos hk]
   cases hf : findB B t.n with
   | none => rfl
   | some x =>
    simp only
    rw [walk_sol h f x, putF_var hk, h _ (findB_mem hf)]
  ·rw [if_neg hk]

def lkOk (σ : Int → Tm) (v : Int) (g : Int → List Int → Bool × List Int) : Prop := ∀ n M, (g n M).1 = true → size (σ v) ≤ size (σ n)

mutual
theorem lkT_size {σ : Int → Tm} {v : Int} {g : Int → List Int → Bool × List Int} (hg : lkOk σ v g) : ∀ (t : Tm) (M : List Int), (lkT g t M).1 = true → size (σ v) ≤ size (putF σ t) ∧ (t.k ≠ 1 → size (σ v) < size (putF σ t))
 | mk k s n l, M, h => by
  simp only [lkT] at h
  by_cases hk : k = 1
  ·rw [if_pos hk] at h
   have := hg n M h
   simp only [putF, if_pos hk, Tm.k]
   exact ⟨this, fun hne => absurd hk hne⟩
  ·rw [if_neg hk] at h
   have := lkTL_size hg l M h
   simp only [putF, if_neg hk, size]
   exact ⟨by omega, fun _ => by omega⟩
theorem lkTL_size {σ : Int → Tm} {v : Int} {g : Int → List Int → Bool × List Int} (hg : lkOk σ v g) : ∀ (l : List Tm) (M : List Int), (lkTL g l M).1 = true → size (σ v) ≤ sizeL (putFL σ l)
 | [], M, h => by simp [lkTL] at h
 | x :: r, M, h => by
  simp only [lkTL] at h
  simp only [putFL, sizeL]
  by_cases hx : (lkT g x M).1 = true
  ·have := (lkT_size hg x M hx).1; omega
  ·rw [if_neg hx] at h
   have := lkTL_size hg r _ h; omega
end

theorem lkF_ok {σ : Int → Tm} {B : Binds} (h : solB σ B) (v : Int) : ∀ u, lkOk σ v (lkF B v u)
 | 0, n, M, hl => by simp only [lkF, decide_eq_true_eq] at hl; rw [hl]; exact Nat.le_refl _
 | u + 1, n, M, hl => by
  simp only [lkF] at hl
  by_cases hn : n = v
  ·rw [hn]; exact Nat.le_refl _
  ·rw [if_neg hn] at hl
   cases hf : findB B n with
   | none => rw [hf] at hl; cases hl
   | some x =>
    rw [hf] at hl
    simp only at hl
    split at hl
    ·cases hl
    ·have := (lkT_size (lkF_ok h v u) x _ hl).1
     rw [h _ (findB_mem hf)]; exact this

theorem withB_no {σ : Int → Tm} {B : Binds} (h : solB σ B) {v : Int} {t : Tm} (he : σ v = putF σ t) (hv : ¬ (t.k = 1 ∧ (t.n = v ∨ findB B t.n ≠ none))) : withB B v t = false := by
 cases hw : withB B v t with
 | false => rfl
 | true =>
  exfalso
  unfold withB at hw
  by_cases hk : t.k = 1
  ·cases t with
   | mk k s n l =>
    simp only [Tm.k, Tm.n] at hk hv
    simp only [lkT, if_pos hk, lkF] at hw
    rw [if_neg (fun e => hv ⟨hk, .inl e⟩)] at hw
    cases hf : findB B n with
    | none => rw [hf] at hw; cases hw
    | some x => exact hv ⟨hk, .inr (by rw [hf]; simp)⟩
  ·have := (lkT_size (lkF_ok h v _) t [] hw).2 hk
   rw [← he] at this; omega
end Tm
end PSL
namespace PSL
open Go
namespace Tm

structure chainB (B : Binds) : Prop where
 nodup : (B.map (·.1)).Nodup
 chain : ∀ (i : Nat) (b : Int × Tm), B[i]? = some b → b.2.k = 1 → ∀ (j : Nat) (c : Int × Tm), B[j]? = some c → c.1 = b.2.n → i < j
theorem chainB.nil : chainB [] := ⟨by simp, by simp⟩

theorem findB_none_iff {B : Binds} {v : Int} : findB B v = none ↔ ∀ b ∈ B, b.1 ≠ v := by
 unfold findB
 rw [Option.map_eq_none_iff, List.find?_eq_none]
 simp

theorem findB_at {B : Binds} {v : Int} {x : Tm} (h : findB B v = some x) : ∃ j : Nat, B[j]? = some (v, x) := by
 obtain ⟨j, hj⟩ := List.mem_iff_getElem?.1 (findB_mem h)
 exact ⟨j, hj⟩

theorem chainB.snoc {B : Binds} (h : chainB B) {v : Int} {t : Tm} (hv : findB B v = none) (ht : t.k = 1 → findB B t.n = none ∧ t.n ≠ v) : chainB (B ++ [(v, t)]) := by
 have hv' := findB_none_iff.1 hv
 constructor
 ·rw [List.map_append, List.nodup_append]
  refine ⟨h.nodup, by simp, ?_⟩
  intro a ha b hb
  simp only [List.map_cons, List.map_nil, List.mem_singleton] at hb
  subst hb
  obtain ⟨c, hc, rfl⟩ := List.mem_map.1 ha
  exact hv' c hc
 ·intro i b hb hk j c hc hcn
  rcases Nat.lt_or_ge i B.length with hi | hi
  ·rw [List.getElem?_append_left hi] at hb
   rcases Nat.lt_or_ge j B.length with hj | hj
   ·rw [List.getElem?_append_left hj] at hc
    exact h.chain i b hb hk j c hc hcn
   ·omega
  ·rw [List.getElem?_append_right hi] at hb
   have hi0 : i - B.length = 0 := by
    rcases Nat.eq_zero_or_pos (i - B.length) with h | h
    ·exact h
    ·rw [List.getElem?_eq_none (by simp; omega)] at hb; cases hb
   rw [hi0] at hb; simp at hb; subst hb
   obtain ⟨h1, h2⟩ := ht hk
   exfalso
   rcases Nat.lt_or_ge j B.length with hj | hj
   ·rw [List.getElem?_append_left hj] at hc
    exact findB_none_iff.1 h1 c (List.mem_of_getElem? hc) hcn
   ·rw [List.getElem?_append_right hj] at hc
    have hj0 : j - B.length = 0 := by
     rcases Nat.eq_zero_or_pos (j - B.length) with h | h
     ·exact h
     ·rw [List.getElem?_eq_none (by simp; omega)] at hc; cases hc
    rw [hj0] at hc; simp at hc; subst hc
    exact h2 hcn.symm

theorem walk_end {B : Binds} (h : chainB B) : ∀ (f : Nat) (t : Tm), (∀ (j : Nat) (c : Int × Tm), B[j]? = some c → t.k = 1 → c.1 = t.n → B.length - j ≤ f) → (walkT B f t).k = 1 → findB B (walkT B f t).n = none
 | 0, t, hj, hk => by
  simp only [walkT] at hk ⊢
  cases hf : findB B t.n with
  | none => rfl
  | some x =>
   obtain ⟨j, hx⟩ := findB_at hf
   have h1 := hj j _ hx hk rfl
   have := (List.getElem?_eq_some_iff.1 hx).1
   omega
 | f + 1, t, hj, hk => by
  simp only [walkT] at hk ⊢
  by_cases ht : t.k = 1
  ·rw [if_pos ht] at hk ⊢
   cases hf : findB B t.n with
   | none => exact hf
   | some x =>
    rw [hf] at hk
    simp only at hk ⊢
    obtain ⟨j, hx⟩ := findB_at hf
    have h1 := hj j _ hx ht rfl
    refine walk_end h f x (fun j' c hc hxk hcn => ?_) hk
    have := h.chain j _ hx hxk j' c hc hcn
    omega
  ·rw [if_neg ht] at hk
   exact absurd hk ht
theorem walkB_end {B : Binds} (h : chainB B) {t : Tm} (hk : (walkB B t).k = 1) : findB B (walkB B t).n = none := walk_end h _ t (fun j c hc _ _ => by omega) hk
def fairBB (B : Binds) : Prop := ∀ b ∈ B, b.2.fairR = true ∧ 0 ≤ b.1 ∧ b.1 < 1000000

theorem walk_fair {B : Binds} (h : fairBB B) : ∀ (f : Nat) (t : Tm), t.fairR = true → (walkT B f t).fairR = true
 | 0, t, ht => ht
 | f + 1, t, ht => by
  simp only [walkT]
  split
  ·split
   ·rename_i x hx; exact walk_fair h f x (h _ (findB_mem hx)).1
   ·exact ht
  ·exact ht
def sumS (σ : Int → Tm) (T : List (Tm × Tm)) : Nat := (T.map fun p => size (putF σ p.1)).sum
theorem sumS_app (σ : Int → Tm) (A B : List (Tm × Tm)) : sumS σ (A ++ B) = sumS σ A + sumS σ B := by simp [sumS]

theorem sumS_zip (σ : Int → Tm) : ∀ (l m : List Tm), l.length = m.length → sumS σ (l.zip m) = sizeL (putFL σ l)
 | [], [], _ => rfl
 | [], _ :: _, h => by simp at h
 | _ :: _, [], h => by simp at h
 | a :: l, b :: m, h => by
  have := sumS_zip σ l m (by simpa using h)
  simp only [sumS, List.zip_cons_cons, List.map_cons, List.sum_cons, putFL, sizeL] at this ⊢
  omega

theorem zip_sol {σ : Int → Tm} : ∀ (l m : List Tm), putFL σ l = putFL σ m → ∀ p ∈ l.zip m, putF σ p.1 = putF σ p.2
 | [], m, _, p, hp => by simp at hp
 | _ :: _, [], _, p, hp => by simp at hp
 | a :: l, b :: m, h, p, hp => by
  simp only [putFL, List.cons.injEq] at h
  rcases List.mem_cons.1 (by simpa using hp) with e | e
  ·rw [e]; exact h.1
  ·exact zip_sol l m h.2 p e

structure UInv (σ : Int → Tm) (T : List (Tm × Tm)) (B : Binds) : Prop where
 solb : solB σ B
 solt : ∀ p ∈ T, putF σ p.1 = putF σ p.2
 chain : chainB B
 fairb : fairBB B
 fairt : ∀ p ∈ T, p.1.fairR = true ∧ p.2.fairR = true
end Tm
end PSL
namespace PSL
open Go
namespace Tm

def lkExt (g : Int → List Int → Bool × List Int) : Prop := ∀ n M, ∃ R, (g n M).2 = M ++ R

mutual
theorem lkT_ext {g : Int → List Int → Bool × List Int} (hg : lkExt g) : ∀ (t : Tm) (M : List Int), ∃ R, (lkT g t M).2 = M ++ R
 | mk k s n l, M => by
  simp only [lkT]
  split
  ·exact hg n M
  ·exact lkTL_ext hg l M
theorem lkTL_ext {g : Int → List Int → Bool × List Int} (hg : lkExt g) : ∀ (l : List Tm) (M : List Int), ∃ R, (lkTL g l M).2 = M ++ R
 | [], M => ⟨[], by simp [lkTL]⟩
 | x :: r, M => by
  obtain ⟨R, h⟩ := lkT_ext hg x M
  simp only [lkTL]
  split
  ·exact ⟨R, h⟩
  ·obtain ⟨R2, h2⟩ := lkTL_ext hg r (lkT g x M).2
   exact ⟨R ++ R2, by rw [h2, h, List.append_assoc]⟩
end

theorem lkF_ext (B : Binds) (v : Int) : ∀ u, lkExt (lkF B v u)
 | 0, n, M => ⟨[], by simp [lkF]⟩
 | u + 1, n, M => by
  simp only [lkF]
  split
  ·exact ⟨[], by simp⟩
  ·split
   ·exact ⟨[], by simp⟩
   ·split
    ·exact ⟨[], by simp⟩
    ·rename_i x _ _
     obtain ⟨R, h⟩ := lkT_ext (lkF_ext B v u) x (M ++ [n])
     exact ⟨n :: R, by rw [h, List.append_assoc]; rfl⟩

theorem count_le (B : Binds) (M R : List Int) : (B.countP fun b => !(M ++ R).contains b.1) ≤ B.countP fun b => !M.contains b.1 := by
 apply List.countP_mono_left
 intro b _ h
 simp only [Bool.not_eq_true', List.contains_eq_mem, decide_eq_false_iff_not, List.mem_append, not_or] at h ⊢
 exact h.1

theorem count_lt {B : Binds} {M : List Int} {n : Int} {x : Tm} (hx : findB B n = some x) (hM : M.contains n = false) : (B.countP fun b => !(M ++ [n]).contains b.1) < B.countP fun b => !M.contains b.1 := by
 obtain ⟨j, hj⟩ := List.mem_iff_append.1 (findB_mem hx)
 obtain ⟨r, rfl⟩ := hj
 have h1 := count_le j M [n]
 have h2 := count_le r M [n]
 have h3 : (!(M ++ [n]).contains n) = false := by simp
 have h4 : (!M.contains n) = true := by rw [hM]; rfl
 simp only [List.countP_append, List.countP_cons, h3, h4]
 simp only [if_true, Bool.false_eq_true, if_false]
 omega
end Tm
end PSL
namespace PSL

theorem Tm.length_le_sizeL : ∀ l : List Tm, l.length ≤ Tm.sizeL l
 | [] => by simp
 | x :: l => by have := Tm.length_le_sizeL l; have := Tm.size_pos x; simp only [List.length_cons, Tm.sizeL]; omega
end PSL
namespace PSL
open Go
namespace Tm

theorem UInv.pop {σ : Int → Tm} {R : List (Tm × Tm)} {p : Tm × Tm} {B : Binds} (h : UInv σ (R ++ [p]) B) : UInv σ R B :=
 ⟨h.solb, fun q hq => h.solt q (by simp [hq]), h.chain, h.fairb, fun q hq => h.fairt q (by simp [hq])⟩

theorem UInv.bind {σ : Int → Tm} {R : List (Tm × Tm)} {B : Binds} (h : UInv σ R B) {u t : Tm} (hk : u.k = 1) (hfu : u.fairR = true) (hft : t.fairR = true) (he : putF σ u = putF σ t) (hu : findB B u.n = none) (ht : t.k = 1 → findB B t.n = none ∧ t.n ≠ u.n) : UInv σ R (B ++ [(u.n, t)]) := by
 refine ⟨fun b hb => ?_, h.solt, h.chain.snoc hu ht, fun b hb => ?_, h.fairt⟩
 ·rcases List.mem_append.1 hb with hb | hb
  ·exact h.solb b hb
  ·simp only [List.mem_singleton] at hb; subst hb; simp only; rw [← putF_var (σ := σ) hk]; exact he
 ·rcases List.mem_append.1 hb with hb | hb
  ·exact h.fairb b hb
  ·simp only [List.mem_singleton] at hb; subst hb; exact ⟨hft, occ_range u hfu u.n (occ_var hk)⟩

theorem UInv.zip {σ : Int → Tm} {R : List (Tm × Tm)} {B : Binds} (h : UInv σ R B) {x y : Tm} (hkx : x.k ≠ 1) (hky : y.k ≠ 1) (fx : x.fairR = true) (fy : y.fairR = true) (he : putF σ x = putF σ y) : UInv σ (R ++ x.l.zip y.l) B ∧ x.k = y.k ∧ x.s = y.s ∧ x.n = y.n ∧ x.l.length = y.l.length ∧ sumS σ (R ++ x.l.zip y.l) + 1 = sumS σ R + size (putF σ x) := by
 have hsz : size (putF σ x) = 1 + sizeL (putFL σ x.l) := by rw [putF_fun hkx]; simp only [size]
 rw [putF_fun hkx, putF_fun hky] at he
 simp only [Tm.mk.injEq] at he
 obtain ⟨e1, e2, e3, e4⟩ := he
 have hlen : x.l.length = y.l.length := by rw [← putFL_len σ, e4, putFL_len]
 refine ⟨⟨h.solb, fun q hq => ?_, h.chain, h.fairb, fun q hq => ?_⟩, e1, e2, e3, hlen, ?_⟩
 ·rcases List.mem_append.1 hq with hq | hq
  ·exact h.solt q hq
  ·exact zip_sol _ _ e4 q hq
 ·rcases List.mem_append.1 hq with hq | hq
  ·exact h.fairt q hq
  ·have h1 := List.of_mem_zip hq
   exact ⟨Sub.kid_fair fx h1.1, Sub.kid_fair fy h1.2⟩
 ·rw [sumS_app, sumS_zip σ _ _ hlen, hsz]; omega

def sizT (N : Nat) (T : List (Tm × Tm)) : Prop := ∀ p ∈ T, p.1.size ≤ N ∧ p.2.size ≤ N
def sizB (N : Nat) (B : Binds) : Prop := ∀ b ∈ B, b.2.size ≤ N

theorem walk_siz {N : Nat} {B : Binds} (h : sizB N B) : ∀ (f : Nat) (t : Tm), t.size ≤ N → (walkT B f t).size ≤ N
 | 0, t, ht => ht
 | f + 1, t, ht => by
  simp only [walkT]
  split
  ·split
   ·rename_i x hx; exact walk_siz h f x (h _ (findB_mem hx))
   ·exact ht
  ·exact ht

theorem sizB.snoc {N : Nat} {B : Binds} (h : sizB N B) {v : Int} {t : Tm} (ht : t.size ≤ N) : sizB N (B ++ [(v, t)]) := fun b hb => by
 rcases List.mem_append.1 hb with hb | hb
 ·exact h b hb
 ·simp only [List.mem_singleton] at hb; subst hb; exact ht

theorem sizT.zip {N : Nat} {R : List (Tm × Tm)} (h : sizT N R) {x y : Tm} (hx : x.size ≤ N) (hy : y.size ≤ N) : sizT N (R ++ x.l.zip y.l) := fun q hq => by
 rcases List.mem_append.1 hq with hq | hq
 ·exact h q hq
 ·have h1 := List.of_mem_zip hq
  have h2 := size_mem h1.1
  have h3 := size_mem h1.2
  have h4 := size_eq x
  have h5 := size_eq y
  omega

structure URound (σ : Int → Tm) (B' : Binds) (n : Nat) (T : List (Tm × Tm)) (B : Binds) (met : List (Int × Int)) : Prop where
 inv : UInv σ T B
 sum : sumS σ T < n
 few : n + B.length ≤ 20000
 st : sizT 3000 T
 sb : sizB 3000 B
 run : uniF n T B met = some (some B')

theorem URound.pop {σ : Int → Tm} {B' : Binds} {n : Nat} {R : List (Tm × Tm)} {x y : Tm} {B : Binds} {met : List (Int × Int)} (h : URound σ B' n (R ++ [(x, y)]) B met) : ∃ n', n = n' + 1 ∧ sumS σ R + size (putF σ x) < n' + 1 ∧ sizT 3000 R ∧ UInv σ R B ∧ x.size ≤ 3000 ∧ y.size ≤ 3000 ∧ x.fairR = true ∧ y.fairR = true ∧ putF σ x = putF σ y := by
 have h1 := h.sum
 refine ⟨n - 1, by omega, ?_, fun q hq => h.st q (by simp [hq]), h.inv.pop, (h.st (x, y) (by simp)).1, (h.st (x, y) (by simp)).2, (h.inv.fairt (x, y) (by simp)).1, (h.inv.fairt (x, y) (by simp)).2, h.inv.solt (x, y) (by simp)⟩
 rw [sumS_app] at h1
 have : sumS σ [(x, y)] = size (putF σ x) := by simp [sumS]
 omega

theorem uniF_snoc (n : Nat) (R : List (Tm × Tm)) (x y : Tm) (B : Binds) (met : List (Int × Int)) : uniF (n + 1) (R ++ [(x, y)]) B met =
   if (decide (x.k = 1) && decide (y.k = 1)) && met.contains (x.n, y.n) then uniF n R B met else
   let met' := if decide (x.k = 1) && decide (y.k = 1) then met ++ [(x.n, y.n)] else met
   let x' := walkB B x
   let y' := walkB B y
   if x'.k = 1 ∧ y'.k = 1 ∧ x'.n = y'.n then uniF n R B met'
   else if x'.k = 1 then (if withB B x'.n y' then some none else uniF n R (B ++ [(x'.n, y')]) met')
   else if y'.k = 1 then (if withB B y'.n x' then some none else uniF n R (B ++ [(y'.n, x')]) met')
   else if clashB x' y' then some none
   else uniF n (R ++ x'.l.zip y'.l) B met' := by
 simp only [uniF, List.getLast?_append, List.getLast?_singleton, Option.or_some, List.dropLast_concat, Option.some_or]
end Tm
end PSL
namespace PSL
open Go
namespace Tm
def metU (x y : Tm) (met : List (Int × Int)) : List (Int × Int) := if decide (x.k = 1) && decide (y.k = 1) then met ++ [(x.n, y.n)] else met
def skipU (x y : Tm) (met : List (Int × Int)) : Bool := (decide (x.k = 1) && decide (y.k = 1)) && met.contains (x.n, y.n)
section
variable {σ : Int → Tm} {B' : Binds} {n : Nat} {R : List (Tm × Tm)} {x y : Tm} {B : Binds} {met : List (Int × Int)}

theorem URound.skip (h : URound σ B' (n + 1) (R ++ [(x, y)]) B met) (hs : skipU x y met = true) : URound σ B' n R B met := by
 obtain ⟨m, hm, h1, h2, h3, _⟩ := h.pop
 obtain rfl : m = n := by omega
 have hr := h.run
 rw [uniF_snoc, if_pos (show ((decide (x.k = 1) && decide (y.k = 1)) && met.contains (x.n, y.n)) = true from hs)] at hr
 have := size_pos (putF σ x)
 exact ⟨h3, by omega, by have := h.few; omega, h2, h.sb, hr⟩

theorem URound.step (h : URound σ B' (n + 1) (R ++ [(x, y)]) B met) (hs : skipU x y met = false) :
  ((walkB B x).k = 1 → findB B (walkB B x).n = none) ∧ ((walkB B y).k = 1 → findB B (walkB B y).n = none) ∧ (walkB B x).size ≤ 3000 ∧ (walkB B y).size ≤ 3000 ∧
  ((walkB B x).k = 1 ∧ (walkB B y).k = 1 ∧ (walkB B x).n = (walkB B y).n → URound σ B' n R B (metU x y met)) ∧
  (¬ ((walkB B x).k = 1 ∧ (walkB B y).k = 1 ∧ (walkB B x).n = (walkB B y).n) →
   ((walkB B x).k = 1 → withB B (walkB B x).n (walkB B y) = false ∧ URound σ B' n R (B ++ [((walkB B x).n, walkB B y)]) (metU x y met)) ∧
   (¬ (walkB B x).k = 1 → ((walkB B y).k = 1 → withB B (walkB B y).n (walkB B x) = false ∧ URound σ B' n R (B ++ [((walkB B y).n, walkB B x)]) (metU x y met)) ∧
    (¬ (walkB B y).k = 1 → (walkB B x).k = (walkB B y).k ∧ (walkB B x).s = (walkB B y).s ∧ (walkB B x).n = (walkB B y).n ∧ (walkB B x).l.length = (walkB B y).l.length ∧ URound σ B' n (R ++ (walkB B x).l.zip (walkB B y).l) B (metU x y met)))) := by
 obtain ⟨m, hm, h1, h2, h3, sx, sy, fx, fy, he⟩ := h.pop
 obtain rfl : m = n := by omega
 have hr := h.run
 rw [uniF_snoc, if_neg (by rw [show ((decide (x.k = 1) && decide (y.k = 1)) && met.contains (x.n, y.n)) = false from hs]; simp)] at hr
 have hr : (if (walkB B x).k = 1 ∧ (walkB B y).k = 1 ∧ (walkB B x).n = (walkB B y).n then uniF m R B (metU x y met)
   else if (walkB B x).k = 1 then (if withB B (walkB B x).n (walkB B y) then some none else uniF m R (B ++ [((walkB B x).n, walkB B y)]) (metU x y met))
   else if (walkB B y).k = 1 then (if withB B (walkB B y).n (walkB B x) then some none else uniF m R (B ++ [((walkB B y).n, walkB B x)]) (metU x y met))
   else if clashB (walkB B x) (walkB B y) then some none
   else uniF m (R ++ (walkB B x).l.zip (walkB B y).l) B (metU x y met)) = some (some B') := hr
 have wx : putF σ (walkB B x) = putF σ x := walk_sol h.inv.solb _ x
 have wy : putF σ (walkB B y) = putF σ y := walk_sol h.inv.solb _ y
 have ex := walkB_end h.inv.chain (t := x)
 have ey := walkB_end h.inv.chain (t := y)
 have gx : (walkB B x).fairR = true := walk_fair h.inv.fairb _ x fx
 have gy : (walkB B y).fairR = true := walk_fair h.inv.fairb _ y fy
 have zx : (walkB B x).size ≤ 3000 := walk_siz h.sb _ x sx
 have zy : (walkB B y).size ≤ 3000 := walk_siz h.sb _ y sy
 have few := h.few
 have sb := h.sb
 have solb := h.inv.solb
 rw [← wx, ← wy] at he
 rw [← wx] at h1
 clear wx wy
 generalize walkB B x = x' at *
 generalize walkB B y = y' at *
 generalize metU x y met = met' at *
 have hp := size_pos (putF σ x')
 refine ⟨ex, ey, zx, zy, fun hc => ?_, fun hc => ⟨fun hk => ?_, fun hkx => ⟨fun hk => ?_, fun hky => ?_⟩⟩⟩
 ·rw [if_pos hc] at hr
  exact ⟨h3, by omega, by omega, h2, sb, hr⟩
 ·rw [if_neg hc, if_pos hk] at hr
  have hw : withB B x'.n y' = false := withB_no solb (by rw [← putF_var (σ := σ) hk]; exact he) (fun ⟨g1, g2⟩ => by
    rcases g2 with g2 | g2
    ·exact hc ⟨hk, g1, g2.symm⟩
    ·exact g2 (ey g1))
  rw [hw, if_neg (by simp)] at hr
  exact ⟨hw, h3.bind hk gx gy he (ex hk) (fun g => ⟨ey g, fun e => hc ⟨hk, g, e.symm⟩⟩), by omega, by simp; omega, h2, sb.snoc zy, hr⟩
 ·rw [if_neg hc, if_neg hkx, if_pos hk] at hr
  have hw : withB B y'.n x' = false := withB_no solb (by rw [← putF_var (σ := σ) hk]; exact he.symm) (fun ⟨g1, _⟩ => hkx g1)
  rw [hw, if_neg (by simp)] at hr
  exact ⟨hw, h3.bind hk gy gx he.symm (ey hk) (fun g => absurd g hkx), by omega, by simp; omega, h2, sb.snoc zx, hr⟩
 ·obtain ⟨g1, g2, g3, g4, g5, g6⟩ := h3.zip hkx hky gx gy he
  have hcl : clashB x' y' = false := by unfold clashB; simp [g2, g3, g4, g5, strEq]
  rw [if_neg hc, if_neg hkx, if_neg hky, hcl, if_neg (by simp)] at hr
  exact ⟨g2, g3, g4, g5, g1, by omega, by omega, h2.zip zx zy, sb, hr⟩
end
end Tm
end PSL

namespace PSL
open Go
namespace Tm

def Cl (B : Binds) (v : Int) (M M' : List Int) : Prop := ∀ n ∈ M', n ∈ M ∨ ∃ x, findB B n = some x ∧ ∀ u ∈ occ x, u ≠ v ∧ (findB B u ≠ none → u ∈ M')

theorem Cl.trans {B : Binds} {v : Int} {M M1 M2 : List Int} (h1 : Cl B v M M1) (h2 : Cl B v M1 M2) (hs : ∀ n ∈ M1, n ∈ M2) : Cl B v M M2 := fun n hn => by
 rcases h2 n hn with h | h
 ·rcases h1 n h with h | ⟨x, hx, hu⟩
  ·exact .inl h
  ·exact .inr ⟨x, hx, fun u hu1 => ⟨(hu u hu1).1, fun hb => hs u ((hu u hu1).2 hb)⟩⟩
 ·exact .inr h
def cntB (B : Binds) (M : List Int) : Nat := B.countP fun b => !M.contains b.1

def lkCl (B : Binds) (v : Int) (u : Nat) (g : Int → List Int → Bool × List Int) : Prop := ∀ n M, cntB B M < u → (g n M).1 = false → (∀ m ∈ M, m ∈ (g n M).2) ∧ Cl B v M (g n M).2 ∧ n ≠ v ∧ (findB B n ≠ none → n ∈ (g n M).2)

mutual
theorem lkT_cl {B : Binds} {v : Int} {u : Nat} {g : Int → List Int → Bool × List Int} (he : lkExt g) (hg : lkCl B v u g) : ∀ (t : Tm) (M : List Int), cntB B M < u → (lkT g t M).1 = false → (∀ m ∈ M, m ∈ (lkT g t M).2) ∧ Cl B v M (lkT g t M).2 ∧ ∀ n ∈ occ t, n ≠ v ∧ (findB B n ≠ none → n ∈ (lkT g t M).2)
 | mk k s n l, M, hM, h => by
  simp only [lkT, occ] at h ⊢
  split at h
  ·rename_i hk
   rw [if_pos hk, if_pos hk]
   obtain ⟨h1, h2, h3, h4⟩ := hg n M hM h
   exact ⟨h1, h2, fun m hm => by simp only [List.mem_singleton] at hm; subst hm; exact ⟨h3, h4⟩⟩
  ·rename_i hk
   rw [if_neg hk, if_neg hk]
   exact lkTL_cl he hg l M hM h
theorem lkTL_cl {B : Binds} {v : Int} {u : Nat} {g : Int → List Int → Bool × List Int} (he : lkExt g) (hg : lkCl B v u g) : ∀ (l : List Tm) (M : List Int), cntB B M < u → (lkTL g l M).1 = false → (∀ m ∈ M, m ∈ (lkTL g l M).2) ∧ Cl B v M (lkTL g l M).2 ∧ ∀ n ∈ occL l, n ≠ v ∧ (findB B n ≠ none → n ∈ (lkTL g l M).2)
 | [], M, hM, h => by simp only [lkTL, occL]; exact ⟨fun m hm => hm, fun n hn => .inl hn, by simp⟩
 | x :: r, M, hM, h => by
  simp only [lkTL, occL] at h ⊢
  cases hx : (lkT g x M).1 with
  | true => rw [hx] at h; simp at h
  | false =>
   rw [hx] at h
   simp only [Bool.false_eq_true, if_false] at h ⊢
   obtain ⟨h1, h2, h3⟩ := lkT_cl he hg x M hM hx
   obtain ⟨R, hR⟩ := lkT_ext he x M
   have hM1 : cntB B (lkT g x M).2 < u := by
    have := count_le B M R
    rw [hR]; unfold cntB at hM ⊢; omega
   obtain ⟨g1, g2, g3⟩ := lkTL_cl he hg r _ hM1 h
   refine ⟨fun m hm => g1 m (h1 m hm), h2.trans g2 g1, fun n hn => ?_⟩
   rcases List.mem_append.1 hn with hn | hn
   ·exact ⟨(h3 n hn).1, fun hb => g1 n ((h3 n hn).2 hb)⟩
   ·exact g3 n hn
end

theorem lkF_cl (B : Binds) (v : Int) : ∀ u, lkCl B v u (lkF B v u)
 | 0, n, M, hM, _ => by omega
 | u + 1, n, M, hM, h => by
  simp only [lkF] at h ⊢
  by_cases hn : n = v
  ·rw [if_pos hn] at h; cases h
  rw [if_neg hn] at h ⊢
  cases hf : findB B n with
  | none => exact ⟨fun m hm => hm, fun m hm => .inl hm, hn, fun h => absurd rfl h⟩
  | some x =>
   rw [hf] at h
   simp only at h ⊢
   split at h
   ·rename_i hc
    rw [if_pos hc]
    exact ⟨fun m hm => hm, fun m hm => .inl hm, hn, fun _ => by simpa using hc⟩
   ·rename_i hc
    rw [if_neg hc]
    have hc' : M.contains n = false := by simpa using hc
    have hl := count_lt hf hc'
    obtain ⟨h1, h2, h3⟩ := lkT_cl (lkF_ext B v u) (lkF_cl B v u) x (M ++ [n]) (by unfold cntB at hM ⊢; omega) h
    have hnm := h1 n (by simp)
    refine ⟨fun m hm => h1 m (by simp [hm]), fun m hm => ?_, hn, fun _ => hnm⟩
    rcases h2 m hm with h | h
    ·rcases List.mem_append.1 h with h | h
     ·exact .inl h
     ·simp only [List.mem_singleton] at h; subst h
      exact .inr ⟨x, hf, h3⟩
    ·exact .inr h

theorem withB_free {B : Binds} {v : Int} {t : Tm} (h : withB B v t = false) : ∀ M, v ∉ occ (fullS B M t) := by
 unfold withB at h
 obtain ⟨_, h2, h3⟩ := lkT_cl (lkF_ext B v _) (lkF_cl B v (B.length + 1)) t [] (by unfold cntB; exact Nat.lt_succ_of_le List.countP_le_length) h
 generalize (lkT (lkF B v (B.length + 1)) t []).2 = M' at h2 h3
 have main : ∀ (m : Nat) (x : Tm), (∀ n ∈ occ x, n ≠ v ∧ (findB B n ≠ none → n ∈ M')) → ∀ z ∈ occ (fullS B m x), z ≠ v := by
  intro m
  induction m with
  | zero => intro x hx z hz; exact (hx z hz).1
  | succ m ih =>
   intro x hx z hz
   simp only [fullS] at hz
   obtain ⟨u, hu, hz⟩ := occ_putF x z hz
   cases hf : findB B u with
   | none =>
    rw [hf] at hz
    simp [occ, vT] at hz
    rw [hz]; exact (hx u hu).1
   | some y =>
    rw [hf] at hz
    have hm := (hx u hu).2 (by rw [hf]; simp)
    rcases h2 u hm with h | ⟨y', hy, hc⟩
    ·cases h
    ·rw [hf] at hy; cases hy
     exact ih y hc z hz
 exact fun M hv => main M t h3 v hv rfl
end Tm
end PSL

namespace PSL
open Go
namespace Tm

theorem find_nodup {B : Binds} (h : (B.map (·.1)).Nodup) {b : Int × Tm} (hb : b ∈ B) : findB B b.1 = some b.2 := by
 induction B with
 | nil => cases hb
 | cons c B ih =>
  rw [findB_cons]
  simp only [List.map_cons, List.nodup_cons] at h
  rcases List.mem_cons.1 hb with rfl | hb
  ·rw [if_pos rfl]
  ·rw [if_neg (fun e => h.1 (by rw [e]; exact List.mem_map.2 ⟨b, hb, rfl⟩))]
   exact ih h.2 hb
def cntR (B : Binds) (ρ : Int → Nat) (r : Nat) : Nat := B.countP fun b => decide (ρ b.1 < r)

theorem cntR_le (B : Binds) (ρ : Int → Nat) {r r' : Nat} (h : r ≤ r') : cntR B ρ r ≤ cntR B ρ r' := by
 apply List.countP_mono_left
 intro b _ hb
 simp only [decide_eq_true_eq] at hb ⊢
 omega

theorem cntR_lt {B : Binds} {ρ : Int → Nat} {b : Int × Tm} (hb : b ∈ B) : cntR B ρ (ρ b.1) < cntR B ρ (ρ b.1 + 1) := by
 obtain ⟨l, r, rfl⟩ := List.mem_iff_append.1 hb
 have h1 := cntR_le l ρ (show ρ b.1 ≤ ρ b.1 + 1 by omega)
 have h2 := cntR_le r ρ (show ρ b.1 ≤ ρ b.1 + 1 by omega)
 unfold cntR at *
 simp only [List.countP_append, List.countP_cons]
 have e1 : decide (ρ b.1 < ρ b.1) = false := by simp
 have e2 : decide (ρ b.1 < ρ b.1 + 1) = true := by simp
 rw [e1, e2]
 simp only [if_true, Bool.false_eq_true, if_false]
 omega

theorem rank_okn {B : Binds} {ρ : Int → Nat} (hf : ∀ b ∈ B, b.2.fairR = true) (hρ : ∀ b ∈ B, ∀ u ∈ occ b.2, findB B u ≠ none → ρ u < ρ b.1) : ∀ (r i : Nat) (b : Int × Tm), B[i]? = some b → ρ b.1 = r → Okn (adjB B) (cntR B ρ (r + 1)) i := by
 intro r
 induction r using Nat.strongRecOn with
 | ind r ih =>
  intro i b hb hr
  have hm := List.mem_of_getElem? hb
  have h1 := cntR_lt (ρ := ρ) hm
  rw [hr] at h1
  obtain ⟨m, hm'⟩ : ∃ m, cntR B ρ (r + 1) = m + 1 := ⟨cntR B ρ (r + 1) - 1, by omega⟩
  rw [hm']
  refine .mk fun k hk => ?_
  simp only [adjB, hb, List.mem_filterMap] at hk
  obtain ⟨v, hv, hk⟩ := hk
  rw [varsT_mem (one_fair (hf _ hm))] at hv
  simp only [occL, List.append_nil] at hv
  rcases placeB_find B v with ⟨h1, h2⟩ | ⟨j, t, h2, h3, h4⟩
  ·rw [if_pos h1] at hk; cases hk
  ·rw [if_neg (by omega)] at hk
   simp only [Option.some.injEq] at hk
   have hlt := hρ b hm v hv (by rw [h4]; simp)
   have hkj : k = j := by omega
   subst hkj
   have := ih (ρ v) (by omega) k (v, t) h3 rfl
   refine this.mono ?_
   have := cntR_le B ρ (show ρ v + 1 ≤ r by omega)
   omega

theorem sub_rank {B : Binds} {ρ : Int → Nat} (hf : ∀ b ∈ B, b.2.fairR = true) (hρ : ∀ b ∈ B, ∀ u ∈ occ b.2, findB B u ≠ none → ρ u < ρ b.1) : Sub B B.length :=
 ⟨hf, fun i hi => (rank_okn hf hρ _ i B[i] (List.getElem?_eq_getElem hi) rfl).mono (by unfold cntR; exact List.countP_le_length)⟩

mutual
theorem occ_size {σ : Int → Tm} : ∀ (t : Tm) (u : Int), u ∈ occ t → size (σ u) ≤ size (putF σ t) ∧ (t.k ≠ 1 → size (σ u) < size (putF σ t))
 | mk k s n l, u, h => by
  simp only [occ] at h
  by_cases hk : k = 1
  ·rw [if_pos hk, List.mem_singleton] at h
   subst h
   simp only [putF, if_pos hk, Tm.k]
   exact ⟨Nat.le_refl _, fun h => absurd hk h⟩
  ·rw [if_neg hk] at h
   have := occL_size (σ := σ) l u h
   simp only [putF, if_neg hk, size]
   exact ⟨by omega, fun _ => by omega⟩
theorem occL_size {σ : Int → Tm} : ∀ (l : List Tm) (u : Int), u ∈ occL l → size (σ u) ≤ sizeL (putFL σ l)
 | [], u, h => by simp [occL] at h
 | t :: l, u, h => by
  simp only [occL, List.mem_append] at h
  simp only [putFL, sizeL]
  rcases h with h | h
  ·have := (occ_size (σ := σ) t u h).1; omega
  ·have := occL_size (σ := σ) l u h; omega
end

theorem occ_of_var {t : Tm} (hk : t.k = 1) {u : Int} (h : u ∈ occ t) : u = t.n := by
 cases t; simp only [k] at hk; simp only [occ, if_pos hk, List.mem_singleton] at h; exact h

theorem sol_rank {σ : Int → Tm} {B : Binds} (hs : solB σ B) (hc : chainB B) : ∃ ρ : Int → Nat, ∀ b ∈ B, ∀ u ∈ occ b.2, findB B u ≠ none → ρ u < ρ b.1 := by
 refine ⟨fun v => size (σ v) * (B.length + 1) + (B.length - (placeB B v).toNat), fun b hb u hu hub => ?_⟩
 show size (σ u) * (B.length + 1) + (B.length - (placeB B u).toNat) < size (σ b.1) * (B.length + 1) + (B.length - (placeB B b.1).toNat)
 have hbs := hs b hb
 have h1 := occ_size (σ := σ) b.2 u hu
 by_cases hk : b.2.k = 1
 ·have he := occ_of_var hk hu
  rw [putF_var hk, ← he] at hbs
  rw [hbs]
  rcases placeB_find B u with ⟨g1, g2⟩ | ⟨j, t, g1, g2, g3⟩
  ·exact absurd g2 hub
  rcases placeB_find B b.1 with ⟨e1, e2⟩ | ⟨i, t', e1, e2, e3⟩
  ·rw [find_nodup hc.nodup hb] at e2; cases e2
  rw [find_nodup hc.nodup hb] at e3
  simp only [Option.some.injEq] at e3
  subst e3
  have := hc.chain i _ e2 hk j _ g2 he
  have := (List.getElem?_eq_some_iff.1 g2).1
  rw [g1, e1]
  simp only [Int.toNat_natCast]
  omega
 ·have h2 := h1.2 hk
  rw [← hbs] at h2
  have : (size (σ u) + 1) * (B.length + 1) ≤ size (σ b.1) * (B.length + 1) := Nat.mul_le_mul_right _ h2
  rw [Nat.add_mul] at this
  omega

theorem sub_sol {σ : Int → Tm} {B : Binds} (hs : solB σ B) (hc : chainB B) (hf : fairBB B) : Sub B B.length :=
 (sol_rank hs hc).elim fun _ h => sub_rank (fun b hb => (hf b hb).1) h

def fullV (B : Binds) (v : Int) : Tm := match findB B v with | some x => fullS B B.length x | none => vT v
theorem sub_putV {B : Binds} (h : Sub B B.length) {t : Tm} (hf : t.fairR = true) : putF (fullV B) t = fullS B B.length t := (h.fix hf).symm

theorem sub_solV {B : Binds} (h : Sub B B.length) (hc : chainB B) : solB (fullV B) B := fun b hb => by
 rw [sub_putV h (h.fair b hb)]
 unfold fullV
 rw [find_nodup hc.nodup hb]
theorem fullV_free {B : Binds} {v : Int} (h : findB B v = none) : fullV B v = vT v := by unfold fullV; rw [h]

theorem bind_sol {σ : Int → Tm} {B : Binds} (hs : solB σ B) (hc : chainB B) (hf : fairBB B) {v : Int} {w : Tm} (hv : findB B v = none) (hw : w.fairR = true) (hn : withB B v w = false) : ∃ σ', solB σ' (B ++ [(v, w)]) := by
 have hS := sub_sol hs hc hf
 have hfree := withB_free hn B.length
 have hfw := hS.fairF hw
 refine ⟨fun z => putF (fun u => if u = v then putF (fullV B) w else vT u) (fullV B z), fun b hb => ?_⟩
 simp only
 rw [← putF_comp]
 rcases List.mem_append.1 hb with hb | hb
 ·rw [sub_solV hS hc b hb]
 ·simp only [List.mem_singleton] at hb; subst hb
  simp only
  rw [fullV_free hv, putF_var (show (vT v).k = 1 from rfl)]
  simp only [vT, Tm.n, if_true]
  rw [sub_putV hS hw]
  refine (put_id _ hfw fun u hu => ?_).symm
  rw [if_neg (fun e => hfree (by rw [← e]; exact hu))]; rfl
end Tm
end PSL
