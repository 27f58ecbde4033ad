import Derived.Test.YthdpfglpdgmphaaGreatM4
namespace Go.Proofs.YthdpfglpdgmphaaGreat
open Go PSL Go.Proofs
def pfTrm : Nat → Cls := fun f => bif Nat.beq f 4000100060 then .look 104 else bif Nat.beq f 4000200005 then .turn 103 else .eff

def trmE (S0 : Bs) (L : List Tk) (deep p : Int) : (Nat × RSt × Tm × Int) → Env × List Ob
  | (_, st, out, now) => ([(0, .lo 0 0), (1, iV p), (4, .lo 2 0), (5, .lo 3 0), (6, iV now)], rdX S0 L st deep ++ [boxZ, bxT out])
theorem peek_ins (L : List Tk) (st : RSt) : peekR L (inS L st) = peekR L st := by unfold inS; split <;> rfl

set_option maxRecDepth 100000 in
theorem rdStep_ok (Y : YP) (S0 : Bs) (L : List Tk) (hL : L.length ≤ 9000) (hS : S0.length ≤ 9000) {T : TF} (hT : TCtr Y S0 L T) (hG : TGood L T) (hpl : ∀ t ∈ L, 0 ≤ t.at_ ∧ t.at_ < S0.length ∧ 0 ≤ t.n ∧ t.n ≤ 9223372036854775807) :
    TCtr Y S0 L (fun deep p st => (opndR false S0 L T deep p st).bind fun x => restR L T (L.length + 2) deep p x.1 x.2.1 x.2.2) := by
  intro deep p st t st' h hd hi
  obtain ⟨x, hx, h⟩ := Option.bind_eq_some_iff.1 h
  refine SCtr.of_R (pf := pfTrm) tyOk mixed Tryz.func77 rfl (by kernel_rfl) (by kernel_rfl) (by simp [Tryz.ntmps77]) (by simp [rdX, rdO, robj]) fun w S φ hg => ?_
  have hφ : φ.length = 2 := hg.hs0.len
  have hk : ∀ (st : RSt) (o : List Ob), (rdX S0 L st deep).map (mapOb (sealT false 2 o 5)) = rdX S0 L st deep := fun st o => rdX_keep _ _ _ _ _ _ (Nat.le_refl _)
  refine R_run hg.ok 1000 rfl rfl ?_
  refine R_callSO hg.ok hg.gup hg.wide hg.Y [0, 1] (rdX S0 L x.2.2 deep ++ [boxZ]) (rdOpnd_ok Y S0 L hL hS hT hG deep hd st hi hpl p x hx) (fun _ => rfl) rfl rfl rfl rfl rfl (by rw [rdX_ren]; rfl) rfl (by rw [rdX_ren]; rfl) ?_
  refine R_run hg.ok 1000 rfl rfl ?_
  refine R_storeJ hg.ok rfl rfl rfl rfl rfl rfl rfl rfl rfl ?_
  refine R_run hg.ok 1000 rfl rfl ?_
  refine R_loop (trmE S0 L deep p) (fun y => restR L T y.1 deep p y.2.2.1 y.2.2.2 y.2.1 = some (t, st') ∧ RInv L y.2.1) (fun y => y.1) (L.length + 2, x.2.2, x.1, x.2.1) ⟨h, opnd_inv hG hx hi⟩ ⟨.refl _, .refl _, .refl _, .refl _, .refl _, trivial⟩ rfl ?_
  rintro ⟨f, st1, out, now⟩ ⟨hm, hi1⟩
  simp only at hm hi1
  cases f with
  | zero => cases hm
  | succ f =>
  simp only [restR] at hm
  refine R_run hg.ok 1000 rfl rfl ?_
  by_cases he : st1.e = 0
  · rw [if_neg (by simp [he])] at hm
    refine R_if rfl rfl (fun _ => ?_) (fun h => absurd h (by simp [he])) <;> refine R_run hg.ok 1000 rfl rfl ?_
    have hI := xIn Y S0 L st1 deep
    cases hin : inT (peekR L st1) with
    | none =>
      rw [hin] at hm hI
      simp only at hm
      obtain ⟨rfl, rfl⟩ := Prod.mk.inj (Option.some.inj hm)
      simp only [infA] at hI
      refine R_callSO hg.ok hg.gup hg.wide hg.Y [0, 1] (rdX S0 L (inS L st1) deep ++ [boxZ, bxT out]) (hI) (fun _ => rfl) rfl rfl rfl rfl rfl (by rw [rdX_ren]; rfl) rfl (by rw [rdX_ren]; rfl) ?_
      refine R_run hg.ok 1000 rfl rfl ?_
      refine R_if rfl rfl (fun _ => ?_) (fun h => absurd h (by simp)) <;> refine R_run hg.ok 1000 rfl rfl ?_
      exact R_retS hg 2 5 (Nat.le_refl _) rfl rfl (hk _ _)
    | some z =>
      obtain ⟨q, l, r⟩ := z
      rw [hin] at hm hI
      simp only at hm
      simp only [infA] at hI
      refine R_callSO hg.ok hg.gup hg.wide hg.Y [0, 1] (rdX S0 L (inS L st1) deep ++ [boxZ, bxT out]) (hI) (fun _ => rfl) rfl rfl rfl rfl rfl (by rw [rdX_ren]; rfl) rfl (by rw [rdX_ren]; rfl) ?_
      refine R_run hg.ok 1000 rfl rfl ?_
      refine R_if rfl rfl (fun h => absurd h (by simp)) (fun _ => ?_) <;> refine R_run hg.ok 1000 rfl rfl ?_
      by_cases hq : q > p
      · rw [if_pos (.inl hq)] at hm
        obtain ⟨rfl, rfl⟩ := Prod.mk.inj (Option.some.inj hm)
        refine R_if rfl rfl (fun _ => ?_) (fun h => absurd h (by simp [hq])) <;> refine R_run hg.ok 1000 rfl rfl ?_
        exact R_retS hg 2 5 (Nat.le_refl _) rfl rfl (hk _ _)
      · refine R_if rfl rfl (fun h => absurd h (by simp [hq])) (fun _ => ?_) <;> refine R_run hg.ok 1000 rfl rfl ?_
        by_cases hn : now > l
        · rw [if_pos (.inr hn)] at hm
          obtain ⟨rfl, rfl⟩ := Prod.mk.inj (Option.some.inj hm)
          refine R_if rfl rfl (fun _ => ?_) (fun h => absurd h (by simp [hn])) <;> refine R_run hg.ok 1000 rfl rfl ?_
          exact R_retS hg 2 5 (Nat.le_refl _) rfl rfl (hk _ _)
        · rw [if_neg (by rintro (h | h); exact hq h; exact hn h)] at hm
          obtain ⟨⟨y, st2⟩, hy, hm⟩ := Option.bind_eq_some_iff.1 hm
          refine R_if rfl rfl (fun h => absurd h (by simp [hn])) (fun _ => ?_) <;> refine R_run hg.ok 1000 rfl rfl ?_
          have hat := inS_at L st1
          have hl1 := (ins_lt hin).2
          refine R_callSO hg.ok hg.gup hg.wide hg.Y [0, 1] (rdX S0 L (inS L st1) deep ++ [boxZ, bxT out, .box [iV q, iV l, iV r]]) (xPeek Y S0 L (inS L st1) deep) (fun _ => rfl) rfl rfl rfl rfl rfl (by rw [rdX_ren]; rfl) rfl (by rw [rdX_ren]; rfl) ?_
          first
          | (refine R_run hg.ok 1 rfl rfl ?_; refine R_rdAt (st := inS L st1) ((inS L st1).at_ + 1) (rfl) (by omega) rfl ?_)
          | (refine R_run hg.ok 2 rfl rfl ?_; refine R_rdAt (st := inS L st1) ((inS L st1).at_ + 1) (rfl) (by omega) rfl ?_)
          | (refine R_run hg.ok 3 rfl rfl ?_; refine R_rdAt (st := inS L st1) ((inS L st1).at_ + 1) (rfl) (by omega) rfl ?_)
          | (refine R_run hg.ok 4 rfl rfl ?_; refine R_rdAt (st := inS L st1) ((inS L st1).at_ + 1) (rfl) (by omega) rfl ?_)
          | (refine R_run hg.ok 5 rfl rfl ?_; refine R_rdAt (st := inS L st1) ((inS L st1).at_ + 1) (rfl) (by omega) rfl ?_)
          | (refine R_run hg.ok 6 rfl rfl ?_; refine R_rdAt (st := inS L st1) ((inS L st1).at_ + 1) (rfl) (by omega) rfl ?_)
          | (refine R_run hg.ok 7 rfl rfl ?_; refine R_rdAt (st := inS L st1) ((inS L st1).at_ + 1) (rfl) (by omega) rfl ?_)
          refine R_run hg.ok 1000 rfl rfl ?_
          have hi3 : RInv L (nxR (inS L st1)) := hi1.ins.nx (by rw [hat]; exact hl1)
          refine R_callSO hg.ok hg.gup hg.wide hg.Y [0, 1] (rdX S0 L st2 deep ++ [boxZ, bxT out, .box [iV q, iV l, iV r]]) (hT deep r _ y st2 hy hd hi3) (fun _ => rfl) rfl rfl rfl rfl rfl (by rw [rdX_ren]; rfl) rfl (by rw [rdX_ren]; rfl) ?_
          refine R_run hg.ok 1000 rfl rfl ?_
          refine R_loadJ hg.ok 103 (i := 4) (by unfold mayO; rintro (⟨h, _⟩ | h | ⟨h, _⟩) <;> omega) rfl rfl rfl rfl rfl rfl rfl ?_
          refine R_run hg.ok 1000 rfl rfl ?_
          refine R_storeJ hg.ok rfl rfl rfl rfl rfl rfl rfl rfl rfl ?_
          refine R_run hg.ok 1000 rfl rfl ?_
          have hb : Ob.box [.d (.v (.int .i64 3)), .d (.v (.string (Tx (peekR L st1).text))), .d (.v (.int .i64 0)), .d (.sl [rwT out, rwT y])] = bxT (fnT (peekR L st1).text [out, y]) := by rw [bxT_fn, ← rwT_rows]; rfl
          refine R_obs (rdX S0 L st2 deep ++ [boxZ, .box [.d (.v (.int .i64 3)), .d (.v (.string (Tx (peekR L (inS L st1)).text))), .d (.v (.int .i64 0)), .d (.sl [rwT out, rwT y])], .box [iV q, iV l, iV r], bxT y]) ⟨.refl _, .refl _, .refl _, ⟨.refl _, .refl _, .refl _, Ent.fs _, trivial⟩, .refl _, .refl _, trivial⟩ rfl ?_
          refine R_dropO 4 (rdX S0 L st2 deep ++ [boxZ, bxT (fnT (peekR L st1).text [out, y])]) (by show φ.length ≤ _; omega) rfl ?_ ?_
          · rw [peek_ins, hb]
            unfold rdX rdO robj; generalize st2.lay = b; cases b <;> rfl
          exact R_next (f, st2, fnT (peekR L st1).text [out, y], q) ⟨hm, hG _ _ _ _ _ hy hi3⟩ (by simp only; omega) ⟨.refl _, .refl _, .refl _, .refl _, .refl _, trivial⟩ rfl
  · rw [if_pos he] at hm
    cases hm
    refine R_if rfl rfl (fun h => absurd h (by simp [he])) (fun _ => ?_) <;> refine R_run hg.ok 1000 rfl rfl ?_
    exact R_retS hg 2 5 (Nat.le_refl _) rfl rfl (hk _ _)

theorem rdTerm_ok (Y : YP) (S0 : Bs) (L : List Tk) (hL : L.length ≤ 9000) (hS : S0.length ≤ 9000) (hpl : ∀ t ∈ L, 0 ≤ t.at_ ∧ t.at_ < S0.length ∧ 0 ≤ t.n ∧ t.n ≤ 9223372036854775807) : ∀ n, TCtr Y S0 L (termR false S0 L n)
  | 0 => fun _ _ _ _ _ h => by cases h
  | n + 1 => fun deep p st t st' h hd hi => rdStep_ok Y S0 L hL hS (rdTerm_ok Y S0 L hL hS hpl n) (term_inv false S0 L n) hpl deep p st t st' h hd hi
end Go.Proofs.YthdpfglpdgmphaaGreat

namespace Go.Proofs.YthdpfglpdgmphaaGreat
open Go PSL Go.Proofs
def clRow (x : Clau) : List D := [.v (.int .i64 x.1.k), .v (.string x.1.s), .v (.int .i64 x.1.n), .sl (Tm.rows x.1.l), .sl (strRows x.2)]
def clRows (l : List Clau) : List (List D) := l.map clRow
theorem clRows_len (l : List Clau) : (clRows l).length = l.length := by simp [clRows]

/-- A reader between two clauses. -/
def cl1 (S : Bs) (L : List Tk) (st : RSt) : Ob := .box [.d (.v (.string (Tx S))), .d (.sl (tkRows L)), iV st.at_, .d (.sl (strRows st.names)), iV 0, iV st.bad, iV st.e, .d (.v (.int .u32 (if st.lay then 1 else 0))), .d (.v (.int .i32 0)), .d (.v (.int .u32 0)), tblV st.lay]
def cl2 (S : Bs) (L : List Tk) (st : RSt) : Ob := .box [.d (.v (.string (Tx S))), .d (.sl (tkRows L)), iV st.at_, .ow 2 st.names.length, iV 0, iV st.bad, iV st.e, .d (.v (.int .u32 (if st.lay then 1 else 0))), .d (.v (.int .i32 0)), .d (.v (.int .u32 0)), tblV st.lay]
def clO (S : Bs) (L : List Tk) (st : RSt) (j : Nat) (out : List Clau) : List Ob := [cl2 S L st, .arr 5 j (clRows out), .arr 1 st.names.length (strRows st.names)]
theorem rdX_ren02 (S : Bs) (L : List Tk) (st : RSt) (n : Nat) : (rdX S L st 0).map (renOb (rn [0, 2] n)) = [cl2 S L st, .arr 1 st.names.length (strRows st.names)] := robj_ren _ _ _ _ _ _ _ _ _ _ _

theorem cl1_keep (S : Bs) (L : List Tk) (st : RSt) (o : List Ob) : [cl1 S L st].map (mapOb (sealT false 1 o 5)) = [cl1 S L st] := by
  unfold cl1; generalize st.lay = b; cases b <;> rfl

theorem cl1_ren (S : Bs) (L : List Tk) (st : RSt) (n : Nat) : [cl1 S L st].map (renOb (rn [0] n)) = [cl1 S L st] := by
  unfold cl1; generalize st.lay = b; cases b <;> rfl

set_option maxRecDepth 100000 in
theorem clPlace_ok (Y : YP) (S0 : Bs) (L : List Tk) (st : RSt) : SCtr Tryz.prog Y 76 [.lo 0 0] [cl1 S0 L st] (iV (plcR L S0.length st.at_)) [cl1 S0 L st] := by
  refine SCtr.of_R (pf := fun _ => .eff) tyOk mixed Tryz.func76 rfl (by kernel_rfl) (by kernel_rfl) (by simp [Tryz.ntmps76]) (by simp) fun w S φ hg => ?_
  have hk : ∀ o : List Ob, [cl1 S0 L st].map (mapOb (sealT false 1 o 5)) = [cl1 S0 L st] := fun o => cl1_keep _ _ _ _
  refine R_run hg.ok 1000 rfl rfl ?_
  refine R_if rfl rfl (fun h => ?_) (fun h => ?_) <;> refine R_run hg.ok 1000 rfl rfl ?_
  · have hl : st.at_ < L.length := by have := of_decide_eq_true h; rw [tkRows_len] at this; omega
    have e1 : L[st.at_]? = some L[st.at_] := List.getElem?_eq_getElem hl
    rw [show plcR L S0.length st.at_ = L[st.at_].at_ by unfold plcR; rw [e1]]
    generalize L[st.at_] = t at e1
    refine R_index hg.ok rfl rfl rfl rfl rfl rfl (Int.natCast_nonneg _) (tkRows_get e1) rfl ?_
    refine R_run hg.ok 1000 rfl rfl ?_
    exact R_retS hg 1 5 (Nat.le_refl _) rfl rfl (hk _)
  · have hl : L.length ≤ st.at_ := by have := of_decide_eq_false h; rw [tkRows_len] at this; omega
    rw [show plcR L S0.length st.at_ = (S0.length : Int) by unfold plcR; rw [List.getElem?_eq_none hl]]
    refine R_see 2 rfl (v' := iV S0.length) (by rw [show ((Tx S0).size : Int) = S0.length by rw [Tx_size]]; exact .refl _) ?_
    exact R_retS hg 1 5 (Nat.le_refl _) rfl rfl (hk _)

def clsE (S0 : Bs) (L : List Tk) : (Nat × RSt × List Clau × Nat) → Env × List Ob
  | (_, st, out, j) => ([(5, .d (.sl (tkRows L))), (8, .lo 0 0), (9, .ow 1 j)], [cl1 S0 L st, .arr 5 j (clRows out)])

set_option maxRecDepth 100000 in
theorem clauses_ok (S0 : Bs) (hS : S0.length ≤ 9000) (L : List Tk) (hL : L.length ≤ 9000) (hpl : ∀ t ∈ L, 0 ≤ t.at_ ∧ t.at_ < S0.length ∧ 0 ≤ t.n ∧ t.n ≤ 9223372036854775807) (htk : tokR S0 = .tup [.d (.sl (tkRows L)), iV 0, iV 0])
    (n : Nat) (hb : ∀ st t st', RInv L st → termR false S0 L n 0 1200 st = some (t, st') → st'.e = 0 → t.size < 1000000000 ∧ ∀ e ∈ t.els 1, e.2.s.size < 1000000000) (c : List Clau) (a e : Int) (h : clsR rightT L S0.length (termR false S0 L n) (L.length + 1) ⟨0, [], 0, 0, false⟩ [] = some (c, a, e)) :
    PCtr Tryz.prog 50 [txA S0] (.tup [.d (.sl (clRows c)), iV a, iV e]) := by
  have hT := rdTerm_ok ⟨[], fun _ => true⟩ S0 L hL hS hpl n
  have hG := term_inv false S0 L n
  have hTk := tokens_ok S0 hS
  rw [htk] at hTk
  refine PCtr.of_R (pf := fun _ => .eff) tyOk mixed Tryz.func50 rfl (by kernel_rfl) (by kernel_rfl) (by simp [Tryz.ntmps50]) fun w S hg => ?_
  refine R_run hg.ok 1000 rfl rfl ?_
  refine R_call hg.ok (hTk) rfl rfl rfl rfl rfl rfl ?_
  refine R_run hg.ok 1000 rfl rfl ?_
  refine R_if rfl rfl (fun h => absurd h (by simp)) (fun _ => ?_)
  first
  | (refine R_run hg.ok 1 rfl rfl ?_; refine R_own 9 5 rfl rfl ?_)
  | (refine R_run hg.ok 2 rfl rfl ?_; refine R_own 9 5 rfl rfl ?_)
  | (refine R_run hg.ok 3 rfl rfl ?_; refine R_own 9 5 rfl rfl ?_)
  | (refine R_run hg.ok 4 rfl rfl ?_; refine R_own 9 5 rfl rfl ?_)
  | (refine R_run hg.ok 5 rfl rfl ?_; refine R_own 9 5 rfl rfl ?_)
  | (refine R_run hg.ok 6 rfl rfl ?_; refine R_own 9 5 rfl rfl ?_)
  | (refine R_run hg.ok 7 rfl rfl ?_; refine R_own 9 5 rfl rfl ?_)
  | (refine R_run hg.ok 8 rfl rfl ?_; refine R_own 9 5 rfl rfl ?_)
  | (refine R_run hg.ok 9 rfl rfl ?_; refine R_own 9 5 rfl rfl ?_)
  refine R_obs [cl1 S0 L ⟨0, [], 0, 0, false⟩, .arr 5 0 []] ⟨⟨.refl _, .refl _, .refl _, Ent.nil, .refl _, .refl _, .refl _, .refl _, .refl _, .refl _, .refl _, trivial⟩, .refl _, trivial⟩ rfl ?_
  refine R_run hg.ok 1000 rfl rfl ?_
  refine R_loop (clsE S0 L) (fun x => clsR rightT L S0.length (termR false S0 L n) x.1 x.2.1 x.2.2.1 = some (c, a, e) ∧ x.2.1.e = 0 ∧ x.2.2.1.length + x.1 ≤ L.length + 1 ∧ x.2.1.at_ ≤ L.length) (fun x => x.1) (L.length + 1, ⟨0, [], 0, 0, false⟩, [], 0) ⟨h, rfl, by simp, Nat.zero_le _⟩ ⟨.refl _, .refl _, .refl _, trivial⟩ rfl ?_
  rintro ⟨f, st, out, j⟩ ⟨hm, he0, hlo, hat⟩
  simp only at hm he0 hlo hat
  cases f with
  | zero => cases hm
  | succ f =>
  simp only [clsR] at hm
  refine R_run hg.ok 1000 rfl rfl ?_
  by_cases hat2 : st.at_ < L.length
  · rw [if_pos hat2] at hm
    refine R_if rfl rfl (fun _ => ?_) (fun h => absurd h (by simp [tkRows_len]; omega)) <;> refine R_run hg.ok 1000 rfl rfl ?_
    refine R_callSO hg.ok hg.gup ⟨rfl, rfl⟩ (fun _ _ _ _ h => by cases h) [0] [cl1 S0 L st, .arr 5 j (clRows out)] (clPlace_ok ⟨[], fun _ => true⟩ S0 L st) (fun _ => rfl) rfl rfl rfl rfl rfl (by rw [cl1_ren]; rfl) rfl (by rw [cl1_ren]; rfl) ?_
    first
    | (refine R_run hg.ok 1 rfl rfl ?_; refine R_ownB 0 3 1 rfl rfl rfl ?_)
    | (refine R_run hg.ok 2 rfl rfl ?_; refine R_ownB 0 3 1 rfl rfl rfl ?_)
    | (refine R_run hg.ok 3 rfl rfl ?_; refine R_ownB 0 3 1 rfl rfl rfl ?_)
    | (refine R_run hg.ok 4 rfl rfl ?_; refine R_ownB 0 3 1 rfl rfl rfl ?_)
    | (refine R_run hg.ok 5 rfl rfl ?_; refine R_ownB 0 3 1 rfl rfl rfl ?_)
    | (refine R_run hg.ok 6 rfl rfl ?_; refine R_ownB 0 3 1 rfl rfl rfl ?_)
    | (refine R_run hg.ok 7 rfl rfl ?_; refine R_ownB 0 3 1 rfl rfl rfl ?_)
    | (refine R_run hg.ok 8 rfl rfl ?_; refine R_ownB 0 3 1 rfl rfl rfl ?_)
    | (refine R_run hg.ok 9 rfl rfl ?_; refine R_ownB 0 3 1 rfl rfl rfl ?_)
    obtain ⟨⟨t, st1⟩, ht, hm⟩ := Option.bind_eq_some_iff.1 hm
    have hi0 : RInv L { st with names := [] } := ⟨Nat.zero_le _, hat⟩
    have hi1 := hG _ _ _ _ _ ht hi0
    have hc1 : SCtr Tryz.prog ⟨[], fun _ => true⟩ 77 [.lo 0 0, iV 1200] (rdX S0 L { st with names := [] } 0) t.av (rdX S0 L st1 0) := hT 0 1200 { st with names := [] } t st1 ht (by decide) hi0
    refine R_run hg.ok 1000 rfl rfl ?_
    refine R_callSO hg.ok hg.gup ⟨rfl, rfl⟩ (fun _ _ _ _ h => by cases h) [0, 2] (clO S0 L st1 j out) (hc1) (fun _ => rfl) rfl rfl rfl rfl rfl (by rw [rdX_ren02]; rfl) rfl (by rw [rdX_ren02]; rfl) ?_
    refine R_run hg.ok 1000 rfl rfl ?_
    refine R_callSO hg.ok hg.gup ⟨rfl, rfl⟩ (fun _ _ _ _ h => by cases h) [0, 2] (clO S0 L st1 j out ++ [bxT t]) (xPeek ⟨[], fun _ => true⟩ S0 L st1 0) (fun _ => rfl) rfl rfl rfl rfl rfl (by rw [rdX_ren02]; rfl) rfl (by rw [rdX_ren02]; rfl) ?_
    refine R_run hg.ok 1000 rfl rfl ?_
    simp only at hm
    obtain ⟨st2, hst2⟩ : ∃ st2, st2 = (if (peekR L st1).kind ≠ 5 then failR L S0.length st1 2 else st1) := ⟨_, rfl⟩
    rw [← hst2] at hm
    have h2 : st2.e = 0 → st1.e = 0 ∧ st1.at_ < L.length ∧ st2 = st1 := fun h => by
      by_cases hk5 : (peekR L st1).kind ≠ 5
      · rw [if_pos hk5] at hst2; subst hst2
        unfold failR at h; split at h
        · cases h
        · rename_i hne; exact absurd h hne
      · rw [if_neg hk5] at hst2
        have := peek_lt (L := L) (st := st1) (by rw [Decidable.not_not.1 hk5]; decide)
        exact ⟨this.1, this.2, hst2⟩
    refine R_cut1 (fun _ : Unit => ([(5, .d (.sl (tkRows L))), (8, .lo 0 0), (9, .ow 1 j), (10, iV (plcR L S0.length st.at_)), (11, .lo 3 0)], clO S0 L st2 j out ++ [bxT t])) (fun _ => True) rfl ?_ ?_
    · by_cases hk5 : (peekR L st1).kind ≠ 5
      · rw [if_pos hk5] at hst2
        refine R_if rfl rfl (fun _ => ?_) (fun h => absurd h (by simp [hk5])) <;> refine R_run hg.ok 1000 rfl rfl ?_
        refine R_callSO hg.ok hg.gup ⟨rfl, rfl⟩ (fun _ _ _ _ h => by cases h) [0, 2] (clO S0 L (failR L S0.length st1 2) j out ++ [bxT t]) (xFail ⟨[], fun _ => true⟩ S0 L st1 0 2) (fun _ => rfl) rfl rfl rfl rfl rfl (by rw [rdX_ren02]; rfl) rfl (by rw [rdX_ren02]; rfl) ?_
        refine R_run hg.ok 1000 rfl rfl ?_
        rw [← hst2]
        exact R_to () trivial ⟨.refl _, .refl _, .refl _, .refl _, .refl _, trivial⟩ rfl
      · rw [if_neg hk5] at hst2
        refine R_if rfl rfl (fun h => absurd h (by simp [hk5])) (fun _ => ?_) <;> refine R_run hg.ok 1000 rfl rfl ?_
        rw [hst2]
        exact R_to () trivial ⟨.refl _, .refl _, .refl _, .refl _, .refl _, trivial⟩ rfl
    rintro _ _
    obtain ⟨st3, hst3⟩ : ∃ st3, st3 = (if st2.e = 0 ∧ rightT t = false then { st2 with e := 3, bad := plcR L S0.length st.at_ } else st2) := ⟨_, rfl⟩
    rw [← hst3] at hm
    refine R_run hg.ok 1000 rfl rfl ?_
    by_cases h0 : st2.e = 0
    · obtain ⟨h3, h4, h5⟩ := h2 h0
      have hbt := hb _ _ _ hi0 ht h3
      have hR := right_ok t hbt.1 hbt.2
      refine R_if rfl rfl (fun _ => ?_) (fun h => absurd h (by simp [h0])) <;> refine R_run hg.ok 1000 rfl rfl ?_
      cases hr : rightT t with
      | false =>
        have hst3 : st3 = { st2 with e := 3, bad := plcR L S0.length st.at_ } := by rw [hst3, hr]; exact if_pos ⟨h0, rfl⟩
        subst hst3
        rw [hr] at hR
        rw [if_pos (show ((3 : Int) ≠ 0) by decide)] at hm
        cases hm
        refine R_call hg.ok (hR) rfl rfl rfl rfl rfl rfl ?_
        refine R_run hg.ok 1000 rfl rfl ?_
        refine R_if rfl rfl (fun _ => ?_) (fun h => absurd h (by simp)) <;> refine R_run hg.ok 1000 rfl rfl ?_
        refine R_if rfl rfl (fun _ => ?_) (fun h => absurd h (by simp)) <;> refine R_run hg.ok 1000 rfl rfl ?_
        refine R_ret hg 5 rfl rfl ?_
        rfl
      | true =>
        have hst3 : st3 = st2 := by rw [hst3, hr]; exact if_neg (by simp)
        rw [hst3] at hm
        rw [hr] at hR
        rw [if_neg (by simp [h0])] at hm
        refine R_call hg.ok (hR) rfl rfl rfl rfl rfl rfl ?_
        refine R_run hg.ok 1000 rfl rfl ?_
        refine R_if rfl rfl (fun h => absurd h (by simp)) (fun _ => ?_) <;> refine R_run hg.ok 1000 rfl rfl ?_
        refine R_if rfl rfl (fun h => absurd h (by simp [h0])) (fun _ => ?_)
        refine R_freezeO hg.gup 2 [(5, .d (.sl (tkRows L))), (8, .lo 0 0), (9, .ow 1 j), (11, .lo 3 0), (67, .ff)] [cl1 S0 L st2, .arr 5 j (clRows out), .dead, bxT t] rfl rfl ⟨.refl _, .refl _, .refl _, .refl _, .refl _, trivial⟩ ⟨⟨.refl _, .refl _, .refl _, Ent.frz 2 _ _, .refl _, .refl _, .refl _, .refl _, .refl _, .refl _, Ent.tblFrz 2 _ _ st2.lay, trivial⟩, rfl, by simp [ObIn], ⟨.refl _, .refl _, .refl _, .refl _, trivial⟩, trivial⟩ ?_
        have hnat : (nxR st2).at_ = st1.at_ + 1 := by rw [h5]; rfl
        first
        | (refine R_run hg.ok 1 rfl rfl ?_; refine R_obs [cl1 S0 L (nxR st2), .arr 5 j (clRows out), .dead, bxT t] ⟨⟨.refl _, .refl _, Ent.wrap rfl (by omega) (by omega), .refl _, .refl _, .refl _, .refl _, .refl _, .refl _, .refl _, .refl _, trivial⟩, .refl _, .refl _, .refl _, trivial⟩ rfl ?_)
        | (refine R_run hg.ok 2 rfl rfl ?_; refine R_obs [cl1 S0 L (nxR st2), .arr 5 j (clRows out), .dead, bxT t] ⟨⟨.refl _, .refl _, Ent.wrap rfl (by omega) (by omega), .refl _, .refl _, .refl _, .refl _, .refl _, .refl _, .refl _, .refl _, trivial⟩, .refl _, .refl _, .refl _, trivial⟩ rfl ?_)
        | (refine R_run hg.ok 3 rfl rfl ?_; refine R_obs [cl1 S0 L (nxR st2), .arr 5 j (clRows out), .dead, bxT t] ⟨⟨.refl _, .refl _, Ent.wrap rfl (by omega) (by omega), .refl _, .refl _, .refl _, .refl _, .refl _, .refl _, .refl _, .refl _, trivial⟩, .refl _, .refl _, .refl _, trivial⟩ rfl ?_)
        | (refine R_run hg.ok 4 rfl rfl ?_; refine R_obs [cl1 S0 L (nxR st2), .arr 5 j (clRows out), .dead, bxT t] ⟨⟨.refl _, .refl _, Ent.wrap rfl (by omega) (by omega), .refl _, .refl _, .refl _, .refl _, .refl _, .refl _, .refl _, .refl _, trivial⟩, .refl _, .refl _, .refl _, trivial⟩ rfl ?_)
        | (refine R_run hg.ok 5 rfl rfl ?_; refine R_obs [cl1 S0 L (nxR st2), .arr 5 j (clRows out), .dead, bxT t] ⟨⟨.refl _, .refl _, Ent.wrap rfl (by omega) (by omega), .refl _, .refl _, .refl _, .refl _, .refl _, .refl _, .refl _, .refl _, trivial⟩, .refl _, .refl _, .refl _, trivial⟩ rfl ?_)
        | (refine R_run hg.ok 6 rfl rfl ?_; refine R_obs [cl1 S0 L (nxR st2), .arr 5 j (clRows out), .dead, bxT t] ⟨⟨.refl _, .refl _, Ent.wrap rfl (by omega) (by omega), .refl _, .refl _, .refl _, .refl _, .refl _, .refl _, .refl _, .refl _, trivial⟩, .refl _, .refl _, .refl _, trivial⟩ rfl ?_)
        | (refine R_run hg.ok 7 rfl rfl ?_; refine R_obs [cl1 S0 L (nxR st2), .arr 5 j (clRows out), .dead, bxT t] ⟨⟨.refl _, .refl _, Ent.wrap rfl (by omega) (by omega), .refl _, .refl _, .refl _, .refl _, .refl _, .refl _, .refl _, .refl _, trivial⟩, .refl _, .refl _, .refl _, trivial⟩ rfl ?_)
        | (refine R_run hg.ok 8 rfl rfl ?_; refine R_obs [cl1 S0 L (nxR st2), .arr 5 j (clRows out), .dead, bxT t] ⟨⟨.refl _, .refl _, Ent.wrap rfl (by omega) (by omega), .refl _, .refl _, .refl _, .refl _, .refl _, .refl _, .refl _, .refl _, trivial⟩, .refl _, .refl _, .refl _, trivial⟩ rfl ?_)
        refine R_run hg.ok 1000 rfl rfl ?_
        refine R_appendO hg.ok (clRows (out ++ [(t, st2.names)])) rfl rfl rfl rfl rfl rfl rfl rfl rfl (by simp) (by simp [one1]) (by rw [clRows, clRows, List.map_append]; rfl) (by rw [clRows_len]; simp; omega) (by rw [clRows_len]; simp; omega) ?_
        refine R_run hg.ok 1000 rfl rfl ?_
        refine R_dropO 2 [cl1 S0 L (nxR st2), .arr 5 (j + 1) (clRows (out ++ [(t, st2.names)]))] (Nat.zero_le _) rfl ?_ ?_
        · unfold cl1 nxR; simp only; generalize st2.lay = b; cases b <;> rfl
        exact R_next (f, nxR st2, out ++ [(t, st2.names)], j + 1) ⟨hm, h0, by simp; omega, by rw [h5]; exact h4⟩ (by simp only; omega) ⟨.refl _, .refl _, .refl _, trivial⟩ rfl
    · have hst3 : st3 = st2 := by rw [hst3]; exact if_neg (fun h => h0 h.1)
      rw [hst3, if_pos h0] at hm
      cases hm
      refine R_if rfl rfl (fun h => absurd h (by simp [h0])) (fun _ => ?_) <;> refine R_run hg.ok 1000 rfl rfl ?_
      refine R_if rfl rfl (fun _ => ?_) (fun h => absurd h (by simp [h0])) <;> refine R_run hg.ok 1000 rfl rfl ?_
      refine R_ret hg 5 rfl rfl ?_
      rfl
  · rw [if_neg hat2] at hm
    cases hm
    refine R_if rfl rfl (fun h => absurd h (by simp [tkRows_len]; omega)) (fun _ => ?_) <;> refine R_run hg.ok 1000 rfl rfl ?_
    exact R_ret hg 5 rfl (sealA_tup (mapO_cons (sealA_ow rfl) rfl)) rfl
end Go.Proofs.YthdpfglpdgmphaaGreat

namespace Go.Proofs.YthdpfglpdgmphaaGreat
open Go PSL Go.Proofs
end Go.Proofs.YthdpfglpdgmphaaGreat

namespace Go.Proofs.YthdpfglpdgmphaaGreat
open Go PSL Go.Proofs
end Go.Proofs.YthdpfglpdgmphaaGreat

namespace Go.Proofs.YthdpfglpdgmphaaGreat
open Go PSL Go.Proofs
end Go.Proofs.YthdpfglpdgmphaaGreat

namespace Go.Proofs.YthdpfglpdgmphaaGreat
open Go PSL Go.Proofs
end Go.Proofs.YthdpfglpdgmphaaGreat

namespace Go.Proofs.YthdpfglpdgmphaaGreat
open Go PSL Go.Proofs
end Go.Proofs.YthdpfglpdgmphaaGreat

namespace Go.Proofs.YthdpfglpdgmphaaGreat
open Go PSL Go.Proofs
end Go.Proofs.YthdpfglpdgmphaaGreat

namespace Go.Proofs.YthdpfglpdgmphaaGreat
open Go PSL Go.Proofs
end Go.Proofs.YthdpfglpdgmphaaGreat

namespace Go.Proofs.YthdpfglpdgmphaaGreat
open Go PSL Go.Proofs
end Go.Proofs.YthdpfglpdgmphaaGreat

namespace Go.Proofs.YthdpfglpdgmphaaGreat
open Go PSL Go.Proofs

/-- A clause by itself. -/
def clA (x : Clau) : AV := .agg [.d (.v (.int .i64 x.1.k)), .d (.v (.string x.1.s)), .d (.v (.int .i64 x.1.n)), .d (.sl (Tm.rows x.1.l)), .d (.sl (strRows x.2))]

def oneR (n : Nat) : List Clau × Int × Int → Clau × Int × Int
  | (c, a, e) => if e ≠ 0 then ((zeroT, []), a, e) else match c with
    | [x] => (x, 0, 0)
    | _ => ((zeroT, []), n, 2)

set_option maxRecDepth 100000 in
theorem one_ok (S0 : Bs) (c : List Clau) (a e : Int) (h : PCtr Tryz.prog 50 [txA S0] (.tup [.d (.sl (clRows c)), iV a, iV e])) : PCtr Tryz.prog 53 [txA S0] (.tup [clA (oneR S0.length (c, a, e)).1, iV (oneR S0.length (c, a, e)).2.1, iV (oneR S0.length (c, a, e)).2.2]) := by
  unfold oneR
  simp only
  refine PCtr.of_R (pf := fun _ => .eff) tyOk mixed Tryz.func53 rfl (by kernel_rfl) (by kernel_rfl) (by simp [Tryz.ntmps53]) fun w S hg => ?_
  refine R_run hg.ok 1000 rfl rfl ?_
  refine R_call hg.ok (h) rfl rfl rfl rfl rfl rfl ?_
  refine R_run hg.ok 1000 rfl rfl ?_
  by_cases he : e ≠ 0
  · rw [if_pos he]
    refine R_if rfl rfl (fun _ => ?_) (fun h => absurd h (by simp [he])) <;> refine R_run hg.ok 1000 rfl rfl ?_
    refine R_ret hg 5 rfl rfl ?_
    rfl
  rw [if_neg he]
  refine R_if rfl rfl (fun h => absurd h (by simpa using he)) (fun _ => ?_) <;> refine R_run hg.ok 1000 rfl rfl ?_
  match c with
  | [x] =>
    refine R_if rfl rfl (fun h => absurd h (by simp [clRows])) (fun _ => ?_) <;> refine R_run hg.ok 1000 rfl rfl ?_
    refine R_index hg.ok rfl rfl rfl rfl rfl rfl (by decide) (show (clRows [x])[Int.toNat 0]? = some (clRow x) from rfl) rfl ?_
    refine R_run hg.ok 1000 rfl rfl ?_
    refine R_ret hg 5 rfl rfl ?_
    rfl
  | [] =>
    refine R_if rfl rfl (fun _ => ?_) (fun h => absurd h (by simp [clRows])) <;> refine R_run hg.ok 1000 rfl rfl ?_
    refine R_ret hg 5 rfl rfl ?_
    rw [Tx_size]; rfl
  | x :: y :: l =>
    refine R_if rfl rfl (fun _ => ?_) (fun h => absurd h (by simp [clRows]; omega)) <;> refine R_run hg.ok 1000 rfl rfl ?_
    refine R_ret hg 5 rfl rfl ?_
    rw [Tx_size]; rfl
end Go.Proofs.YthdpfglpdgmphaaGreat

namespace PSL
open Go
end PSL

namespace PSL
open Go
def st0 : RSt := ⟨0, [], 0, 0, false⟩
end PSL

namespace Go.Proofs.YthdpfglpdgmphaaGreat
open Go PSL Go.Proofs
end Go.Proofs.YthdpfglpdgmphaaGreat

namespace Go.Proofs.YthdpfglpdgmphaaGreat
open Go PSL Go.Proofs
end Go.Proofs.YthdpfglpdgmphaaGreat

namespace Go.Proofs.YthdpfglpdgmphaaGreat
open Go PSL Go.Proofs
end Go.Proofs.YthdpfglpdgmphaaGreat

namespace Go.Proofs.YthdpfglpdgmphaaGreat
open Go PSL Go.Proofs
end Go.Proofs.YthdpfglpdgmphaaGreat

namespace Go.Proofs.YthdpfglpdgmphaaGreat
open Go PSL Go.Proofs
end Go.Proofs.YthdpfglpdgmphaaGreat

namespace Go.Proofs.YthdpfglpdgmphaaGreat
open Go PSL Go.Proofs
theorem clRows_get {c : List Clau} {i : Nat} {x : Clau} (h : c[i]? = some x) : (clRows c)[i]? = some (clRow x) := by simp [clRows, h]
theorem rightT_fun : rightT = Tm.rightB := funext rightT_eq

set_option maxRecDepth 100000 in
theorem clausesBad_ok (S0 : Bs) (a e : Int) (he : e ≠ 0) (h : PCtr Tryz.prog 75 [txA S0] (.tup [.d (.sl (tkRows [])), iV a, iV e])) : PCtr Tryz.prog 50 [txA S0] (.tup [.d (.sl (clRows [])), iV a, iV e]) := by
  refine PCtr.of_R (pf := fun _ => .eff) tyOk mixed Tryz.func50 rfl (by kernel_rfl) (by kernel_rfl) (by simp [Tryz.ntmps50]) fun w S hg => ?_
  refine R_run hg.ok 1000 rfl rfl ?_
  refine R_call hg.ok (h) rfl rfl rfl rfl rfl rfl ?_
  refine R_run hg.ok 1000 rfl rfl ?_
  refine R_if rfl rfl (fun _ => ?_) (fun h => absurd h (by simp [he])) <;> refine R_run hg.ok 1000 rfl rfl ?_
  refine R_ret hg 5 rfl rfl ?_
  rfl

/-- The clauses of a text. -/
theorem clausesT_ok (S0 : Bs) (hS : S0.length ≤ 9000) {c : List Clau} {a e : Int} (h : clauR rightT false S0 = some (c, a, e)) : PCtr Tryz.prog 50 [txA S0] (.tup [.d (.sl (clRows c)), iV a, iV e]) := by
  unfold clauR at h
  by_cases he : (tokT S0).2.2 ≠ 0
  · rw [if_pos he] at h
    have ht := tokens_ok S0 hS
    unfold tokR at ht
    rw [(tok_bad he).1] at ht
    cases h
    exact clausesBad_ok S0 _ _ he ht
  · rw [if_neg he] at h
    obtain ⟨h8, ht, _⟩ := tok_ok (Decidable.not_not.1 he)
    have hpl := toks_plc ht
    have hgd := toks_good _ _ _ _ ht
    have hlen := toks_len _ S0 0 _ ht
    refine clauses_ok S0 hS _ (by omega) (fun t ht => ⟨(hpl t ht).1, (hpl t ht).2, (hgd t ht).lo, (hgd t ht).hi⟩) (tokR_ok (by omega) ht) _ (fun st t st' hi hx he => ?_) c a e h
    have := read_small (by omega) hS hgd hi hx he
    exact ⟨by have := this.1; omega, fun e he => by have := this.2 1 e he; omega⟩
theorem oneT_ok9 (S0 : Bs) (hS : S0.length ≤ 9000) {c : List Clau} {a e : Int} (h : clauR rightT false S0 = some (c, a, e)) : PCtr Tryz.prog 53 [txA S0] (.tup [clA (oneR S0.length (c, a, e)).1, iV (oneR S0.length (c, a, e)).2.1, iV (oneR S0.length (c, a, e)).2.2]) := one_ok S0 c a e (clausesT_ok S0 hS h)
end Go.Proofs.YthdpfglpdgmphaaGreat

namespace Go.Proofs.YthdpfglpdgmphaaGreat
open Go PSL Go.Proofs

set_option maxRecDepth 100000 in
theorem goals_ok (t : Tm) (ht : SmT t) (hc : noCh t = true) : PCtr Tryz.prog 52 [t.av] (.tup [.d (.sl (Gl.rows (goalsT t).1)), iV (goalsT t).2]) := by
  have hs := ht.1
  have hD := (gol_ok ⟨[], fun _ => true⟩ t.size).2 t (20, 0) 1 true ht hc (Nat.le_refl _) (by simp only; omega) (by simp only; omega) (by omega) (by omega)
  refine PCtr.of_R (pf := fun _ => .eff) tyOk mixed Tryz.func52 rfl (by kernel_rfl) (by kernel_rfl) (by simp [Tryz.ntmps52]) fun w S hg => ?_
  refine R_run hg.ok 1000 rfl rfl ?_
  refine R_call hg.ok (right_ok t (by omega) (ht.2 1)) rfl rfl rfl rfl rfl rfl ?_
  refine R_run hg.ok 1000 rfl rfl ?_
  unfold goalsT
  by_cases hr : rightT t = true
  rotate_left
  · rw [if_neg hr]
    have hr : rightT t = false := by simpa using hr
    refine R_if rfl rfl (fun _ => ?_) (fun h => absurd h (by simp [hr])) <;> refine R_run hg.ok 1000 rfl rfl ?_
    refine R_ret hg 5 rfl rfl ?_
    rfl
  rw [if_pos hr]
  refine R_if rfl rfl (fun h => absurd h (by simp [hr])) (fun _ => ?_) <;> refine R_run hg.ok 1000 rfl rfl ?_
  generalize golF t.size t (20, 0) 1 true = A at *
  refine R_callSO hg.ok hg.gup ⟨rfl, rfl⟩ (fun _ _ _ _ h => by cases h) [1] ([boxR t] ++ mkO A.2) (hD) (fun _ => rfl) rfl rfl rfl rfl rfl rfl rfl rfl ?_
  refine R_run hg.ok 1000 rfl rfl ?_
  by_cases he : A.2.2 ≠ 0
  · rw [if_pos he]
    refine R_if rfl rfl (fun _ => ?_) (fun h => absurd h (by simp [he])) <;> refine R_run hg.ok 1000 rfl rfl ?_
    refine R_ret hg 5 rfl rfl ?_
    rfl
  · rw [if_neg he]
    refine R_if rfl rfl (fun h => absurd h (by simp at he; simp [he])) (fun _ => ?_) <;> refine R_run hg.ok 1000 rfl rfl ?_
    refine R_ret hg 5 rfl rfl ?_
    rfl
end Go.Proofs.YthdpfglpdgmphaaGreat

namespace Go.Proofs.YthdpfglpdgmphaaGreat
open Go PSL Go.Proofs
theorem csRows_snoc (l : List Cs) (c : Cs) : Cs.rows l ++ [c.row] = Cs.rows (l ++ [c]) := by simp [Cs.rows]
def csB (x : Cs) : Ob := .box [.d (.v (.int .i64 x.head.k)), .d (.v (.string x.head.s)), .d (.v (.int .i64 x.head.n)), .d (.sl (Tm.rows x.head.l)), .d (.sl (Gl.rows x.body)), .d (.v (.int .i64 x.vars))]
theorem smT_right {t : Tm} (h : t.rightB = true) : SmT t := ⟨by have := (Tm.rightB_iff.1 h).2.1; omega, fun x e he => fair_names (right_fair h) x e he⟩
def clB (x : Clau) : Ob := .box [.d (.v (.int .i64 x.1.k)), .d (.v (.string x.1.s)), .d (.v (.int .i64 x.1.n)), .d (.sl (Tm.rows x.1.l)), .d (.sl (strRows x.2))]
def loadE (x : Clau) : Int := if sgOf x.1 = sgR then (goalsT (argT x.1 1)).2 else 0

theorem loadE_own (x : Clau) : (loadOne x).2 = if ownB (loadOne x).1.head = true then loadE x else 5 := by
  unfold loadOne loadE
  split <;> rfl

theorem loadOne_sm {x : Clau} (hx : ClG x) (hc : noCh x.1 = true) : SmC (loadOne x).1 := by
  have hs := smT_right hx.right
  have h3 := (Tm.rightB_iff.1 hx.right).2.1
  unfold loadOne
  by_cases h : sgOf x.1 = sgR
  · rw [if_pos h]
    have hl : x.1.l.length = 2 := sg_len (n := 2) h
    have h1 : SmT (argT x.1 1) := hs.arg (by omega)
    have h2 := size_arg (t := x.1) (i := 1) (by omega)
    obtain ⟨g1, g2, _⟩ := golF_ok (argT x.1 1).size (argT x.1 1) (20, 0) 1 true h1
    refine ⟨hs.arg (by omega), ?_, ?_⟩
    · simp only [goalsT]
      split
      · split
        · simp only [allGL]
        · exact g1
      · simp only [allGL]
    · simp only [goalsT]
      split
      · split
        · simp [Gl.sizeL]
        · simp only; omega
      · simp [Gl.sizeL]
  · rw [if_neg h]
    exact ⟨hs, by simp only [allGL], by simp [Gl.sizeL]⟩

set_option maxHeartbeats 4000000 in
set_option maxRecDepth 100000 in
theorem load_ok (S0 : Bs) (hS : S0.length ≤ 9000) {c : List Clau} {a e : Int} (h : clauR rightT false S0 = some (c, a, e)) (hc : ∀ x ∈ c, noCh x.1 = true) : PCtr Tryz.prog 26 [txA S0] (if e ≠ 0 then .tup [prV [], iV a, iV e] else .tup [prV (loadL c 0 []).1, iV (loadL c 0 []).2.1, iV (loadL c 0 []).2.2]) := by
  obtain ⟨_, f2, _, _⟩ := clau_facts hS h
  have hct := clau_count h
  have hrl := clRows_len c
  refine PCtr.of_R (pf := fun _ => .eff) tyOk mixed Tryz.func26 rfl (by kernel_rfl) (by kernel_rfl) (by simp [Tryz.ntmps26]) fun w S hg => ?_
  refine R_run hg.ok 1000 rfl rfl ?_
  refine R_call hg.ok (clausesT_ok S0 hS h) rfl rfl rfl rfl rfl rfl ?_
  refine R_run hg.ok 1000 rfl rfl ?_
  by_cases he : e ≠ 0
  · rw [if_pos he]
    refine R_if rfl rfl (fun _ => ?_) (fun h => absurd h (by simp [he])) <;> refine R_run hg.ok 1000 rfl rfl ?_
    refine R_ret hg 5 rfl rfl ?_
    rfl
  rw [if_neg he]
  have he : e = 0 := Decidable.not_not.1 he
  subst he
  obtain ⟨_, hcn⟩ := f2 rfl
  refine R_if rfl rfl (fun h => absurd h (by simp)) (fun _ => ?_) <;> refine R_run hg.ok 1000 rfl rfl ?_
  refine R_ownB 1 0 6 rfl rfl rfl ?_
  refine R_loop (fun x : Nat × Nat × List Cs => ([(2, .lo 0 0), (8, .lo 1 0), (26, .d (.sl (clRows c))), (27, iV c.length), (28, iV x.1)], [.box [.d (.v (.slice none 0 0))], .box [.ow 2 x.2.1], .arr 6 x.2.1 (Cs.rows x.2.2)])) (fun x => x.1 ≤ c.length ∧ loadL c 0 [] = loadL (c.drop x.1) x.1 x.2.2 ∧ x.2.2.length ≤ x.1 ∧ ∀ y ∈ x.2.2, SmC y) (fun x => c.length - x.1) (0, 0, []) ⟨Nat.zero_le _, rfl, Nat.le_refl _, by simp⟩ ⟨.refl _, .refl _, .refl _, by rw [hrl]; exact .refl _, .refl _, trivial⟩ rfl ?_
  rintro ⟨k, s, out⟩ ⟨hk, hm, hol, hsm⟩
  have hm : loadL c 0 [] = loadL (c.drop k) k out := hm
  have hk : k ≤ c.length := hk
  have hol : out.length ≤ k := hol
  have hro := Cs.rows_len out
  refine R_run hg.ok 1000 rfl rfl ?_
  refine R_if rfl rfl (fun h => ?_) (fun h => ?_)
  · refine R_run hg.ok 1000 rfl rfl ?_
    have hk1 : k < c.length := lt_dec h rfl
    have e1 : c[k]? = some c[k] := List.getElem?_eq_getElem hk1
    have hmem := List.getElem_mem hk1
    rw [List.drop_eq_getElem_cons hk1] at hm
    generalize c[k] = x at e1 hm hmem
    have hx := hcn x hmem
    have hnc := hc x hmem
    have hs := smT_right hx.right
    have hsm1 := loadOne_sm hx hnc
    simp only [loadL] at hm
    refine R_index hg.ok rfl rfl rfl rfl rfl rfl (Int.natCast_nonneg _) (clRows_get e1) rfl ?_
    refine R_run hg.ok 1000 rfl rfl ?_
    refine R_call hg.ok (signOf_ok x.1) rfl rfl rfl rfl rfl rfl ?_
    refine R_run hg.ok 1000 rfl rfl ?_
    refine R_eqK hg.ok (sgOf x.1) sgR signCmp rfl rfl rfl rfl ?_
    refine R_run hg.ok 1000 rfl rfl ?_
    refine R_cut1 (fun _ : Unit => ([(2, .lo 0 0), (8, .lo 1 0), (9, iV k), (11, .lo 4 0), (12, iV (loadE x)), (26, .d (.sl (clRows c))), (27, iV c.length), (28, iV k)], [.box [.d (.v (.slice none 0 0))], .box [.ow 2 s], .arr 6 s (Cs.rows out), clB x, csB (loadOne x).1])) (fun _ => True) rfl ?_ ?_
    · by_cases hq : sgOf x.1 = sgR
      · have hl : x.1.l.length = 2 := sg_len (n := 2) hq
        have hl0 : 0 < x.1.l.length := by omega
        have hl1 : 1 < x.1.l.length := by omega
        rw [show loadE x = (goalsT (argT x.1 1)).2 by unfold loadE; rw [if_pos hq], show (loadOne x).1 = ⟨argT x.1 0, (goalsT (argT x.1 1)).1, x.2.length⟩ by unfold loadOne; rw [if_pos hq]]
        refine R_if rfl rfl (fun _ => ?_) (fun h => absurd h (by simp [hq])) <;> refine R_run hg.ok 1000 rfl rfl ?_
        refine R_index hg.ok rfl rfl rfl rfl rfl rfl (by decide) (Tm.rows_get (i := 0) (argT_get hl0)) rfl ?_
        refine R_run hg.ok 1000 rfl rfl ?_
        refine R_index hg.ok rfl rfl rfl rfl rfl rfl (by decide) (Tm.rows_get (i := 1) (argT_get hl1)) rfl ?_
        refine R_run hg.ok 1000 rfl rfl ?_
        refine R_call hg.ok (goals_ok (argT x.1 1) (hs.arg hl1) (noCh_arg hnc hl1)) rfl rfl rfl rfl rfl rfl ?_
        refine R_run hg.ok 1000 rfl rfl ?_
        rw [strRows_len]
        exact R_to () trivial ⟨.refl _, .refl _, .refl _, .refl _, .refl _, .refl _, .refl _, .refl _, trivial⟩ rfl
      · rw [show loadE x = 0 by unfold loadE; rw [if_neg hq], show (loadOne x).1 = ⟨x.1, [], x.2.length⟩ by unfold loadOne; rw [if_neg hq]]
        refine R_if rfl rfl (fun h => absurd h (by simp [hq])) (fun _ => ?_) <;> refine R_run hg.ok 1000 rfl rfl ?_
        rw [strRows_len]
        refine R_obs [.box [.d (.v (.slice none 0 0))], .box [.ow 2 s], .arr 6 s (Cs.rows out), clB x, csB ⟨x.1, [], x.2.length⟩] (show ObsIn [.box [.d (.v (.slice none 0 0))], .box [.ow 2 s], .arr 6 s (Cs.rows out), clB x, .box [.d (.v (.int .i64 x.1.k)), .d (.v (.string x.1.s)), .d (.v (.int .i64 x.1.n)), .d (.sl (Tm.rows x.1.l)), .d (.v (.slice none 0 0)), .d (.v (.int .i64 x.2.length))]] _ from ⟨⟨.refl _, trivial⟩, ⟨.refl _, trivial⟩, rfl, ⟨.refl _, .refl _, .refl _, .refl _, .refl _, trivial⟩, ⟨.refl _, .refl _, .refl _, .refl _, Ent.nrm _, .refl _, trivial⟩, trivial⟩) rfl ?_
        exact R_to () trivial ⟨.refl _, .refl _, .refl _, .refl _, .refl _, .refl _, .refl _, .refl _, trivial⟩ rfl
    rintro _ _
    refine R_run hg.ok 1000 rfl rfl ?_
    have hown := loadE_own x
    cases ho : ownB (loadOne x).1.head with
    | false =>
      have hc1 := own_ok11 (loadOne x).1.head
      rw [ho] at hc1 hown
      rw [if_neg (by simp)] at hown
      rw [hown, if_pos (by decide)] at hm
      refine R_call hg.ok (hc1) rfl rfl rfl rfl rfl rfl ?_
      refine R_run hg.ok 1000 rfl rfl ?_
      refine R_if rfl rfl (fun _ => ?_) (fun h => absurd h (by simp)) <;> refine R_run hg.ok 1000 rfl rfl ?_
      refine R_if rfl rfl (fun _ => ?_) (fun h => absurd h (by simp)) <;> refine R_run hg.ok 1000 rfl rfl ?_
      refine R_ret hg 5 rfl rfl ?_
      rw [hm]; rfl
    | true =>
      have hc1 := own_ok11 (loadOne x).1.head
      rw [ho] at hc1 hown
      rw [if_pos rfl] at hown
      rw [hown] at hm
      refine R_call hg.ok (hc1) rfl rfl rfl rfl rfl rfl ?_
      refine R_run hg.ok 1000 rfl rfl ?_
      refine R_if rfl rfl (fun h => absurd h (by simp)) (fun _ => ?_) <;> refine R_run hg.ok 1000 rfl rfl ?_
      by_cases hle : loadE x ≠ 0
      · rw [if_pos hle] at hm
        refine R_if rfl rfl (fun _ => ?_) (fun h => absurd h (by simp [hle])) <;> refine R_run hg.ok 1000 rfl rfl ?_
        refine R_ret hg 5 rfl rfl ?_
        rw [hm]; rfl
      · rw [if_neg hle] at hm
        refine R_if rfl rfl (fun h => absurd h (by simp at hle; simp [hle])) (fun _ => ?_) <;> refine R_run hg.ok 1000 rfl rfl ?_
        refine R_appendO hg.ok (Cs.rows (out ++ [(loadOne x).1])) rfl rfl rfl rfl rfl rfl rfl rfl rfl (by simp) (by simp [one1]) (csRows_snoc _ _) (by rw [hro]; simp; omega) (by rw [hro]; simp; omega) ?_
        refine R_run hg.ok 1000 rfl rfl ?_
        refine R_dropO 3 [.box [.d (.v (.slice none 0 0))], .box [.ow 2 (Nat.succ s)], .arr 6 (Nat.succ s) (Cs.rows (out ++ [(loadOne x).1]))] (Nat.zero_le _) rfl rfl ?_
        exact R_next (k + 1, Nat.succ s, out ++ [(loadOne x).1]) ⟨hk1, hm, by simp only [List.length_append, List.length_singleton]; omega, fun y hy => (List.mem_append.1 hy).elim (hsm y) (fun h => by rw [List.mem_singleton.1 h]; exact hsm1)⟩ (by simp only; omega) ⟨.refl _, .refl _, .refl _, .refl _, Ent.wrap (by simp only; omega) (by simp only; omega) (by simp only; omega), trivial⟩ rfl
  · have hk1 : c.length ≤ k := ge_dec h rfl
    rw [List.drop_eq_nil_of_le hk1] at hm
    simp only [loadL] at hm
    refine R_freezeO hg.gup 2 [(2, .lo 0 0), (8, .lo 1 0), (29, .ff)] [.box [.d (.v (.slice none 0 0))], .box [.d (.sl (Cs.rows out))], .dead] rfl rfl ⟨.refl _, .refl _, .refl _, trivial⟩ ⟨⟨.refl _, trivial⟩, ⟨Ent.frz 2 s _, trivial⟩, trivial, trivial⟩ ?_
    refine R_run hg.ok 1000 rfl rfl ?_
    refine R_call hg.ok (check_ok out hsm) rfl rfl rfl rfl rfl rfl ?_
    refine R_run hg.ok 1000 rfl rfl ?_
    by_cases hce : (checkR out).2 ≠ 0
    · rw [if_pos hce] at hm
      refine R_if rfl rfl (fun _ => ?_) (fun h => absurd h (by simp [hce])) <;> refine R_run hg.ok 1000 rfl rfl ?_
      refine R_ret hg 5 rfl rfl ?_
      rw [hm]; rfl
    · rw [if_neg hce] at hm
      refine R_if rfl rfl (fun h => absurd h (by simp at hce; simp [hce])) (fun _ => ?_) <;> refine R_run hg.ok 1000 rfl rfl ?_
      refine R_ret hg 5 rfl rfl ?_
      rw [hm]; rfl
end Go.Proofs.YthdpfglpdgmphaaGreat

namespace Go.Proofs.YthdpfglpdgmphaaGreat
open Go PSL Go.Proofs
def pfQry : Nat → Cls := fun f => bif Nat.beq f 4000200004 then .turn 101 else bif Nat.beq f 4000100081 then .look 102 else .eff
theorem vT_entQ (v : Int) : Ent (.d (.sl [[.v (.int .i64 1), .v (.string ByteArray.empty), .v (.int .i64 v), .v (.slice none 0 0)]])) (.d (.sl [[.v (.int .i64 1), .v (.string ByteArray.empty), .v (.int .i64 v), .sl []]])) := fun _ _ _ _ h => aLe_ok (by simp [aLe, dLe, rowLe, rowsLe, vLe, kEq, Tm.strEq_iff]) h

set_option maxHeartbeats 4000000 in
set_option maxRecDepth 100000 in
theorem query_ok (S0 : Bs) (hS : S0.length ≤ 9000) {x : Clau} {q : Int} (h : clauR rightT false S0 = some ([x], q, 0)) (hnc : noCh x.1 = true) (p : List Cs) (hp : ∀ c ∈ p, SmC c) (hpl : p.length ≤ 1000000) (hck : (checkR p).2 = 0) (hg0 : (goalsT x.1).2 = 0) (h8 : x.2.length ≤ 8) (hth : thereL (hasH p) (goalsT x.1).1 = true) :
    PCtr Tryz.prog 27 [txA S0, prV p] (.tup [(qryC x).av, .d (.sl (strRows x.2)), iV 0, iV 0]) := by
  obtain ⟨_, f2, _, _⟩ := clau_facts hS h
  have hx := (f2 rfl).2 x (by simp)
  have hs := smT_right hx.right
  have h3 := (Tm.rightB_iff.1 hx.right).2.1
  have hc1 := check_ok p hp
  rw [hck] at hc1
  have hone := oneT_ok9 S0 hS h
  rw [show oneR S0.length ([x], q, 0) = (x, 0, 0) from rfl] at hone
  have hgo := goals_ok x.1 hs hnc
  rw [hg0] at hgo
  have hsz : Gl.sizeL (goalsT x.1).1 ≤ 1000000 := by
    obtain ⟨_, g2, _⟩ := golF_ok x.1.size x.1 (20, 0) 1 true hs
    unfold goalsT
    split
    · split
      · simp [Gl.sizeL]
      · simp only; omega
    · simp [Gl.sizeL]
  have hto := theres_ok (goalsT x.1).1 p hsz hpl
  rw [hth] at hto
  have hrn := strRows_len x.2
  unfold qryC
  generalize (goalsT x.1).1 = B at *
  refine PCtr.of_R (pf := pfQry) tyOk mixed Tryz.func27 rfl (by kernel_rfl) (by kernel_rfl) (by simp [Tryz.ntmps27]) fun w S hg => ?_
  refine R_run hg.ok 1000 rfl rfl ?_
  refine R_call hg.ok (hc1) rfl rfl rfl rfl rfl rfl ?_
  refine R_run hg.ok 1000 rfl rfl ?_
  refine R_if rfl rfl (fun h => absurd h (by simp)) (fun _ => ?_) <;> refine R_run hg.ok 1000 rfl rfl ?_
  refine R_call hg.ok (hone) rfl rfl rfl rfl rfl rfl ?_
  refine R_run hg.ok 1000 rfl rfl ?_
  refine R_if rfl rfl (fun h => absurd h (by simp)) (fun _ => ?_) <;> refine R_run hg.ok 1000 rfl rfl ?_
  refine R_call hg.ok (hgo) rfl rfl rfl rfl rfl rfl ?_
  refine R_run hg.ok 1000 rfl rfl ?_
  refine R_if rfl rfl (fun h => absurd h (by simp)) (fun _ => ?_) <;> refine R_run hg.ok 1000 rfl rfl ?_
  rw [hrn]
  refine R_if rfl rfl (fun h => absurd (of_decide_eq_true h) (by omega)) (fun _ => ?_) <;> refine R_run hg.ok 1000 rfl rfl ?_
  refine R_call hg.ok (hto) rfl rfl rfl rfl rfl rfl ?_
  refine R_run hg.ok 1000 rfl rfl ?_
  refine R_if rfl rfl (fun h => absurd h (by simp)) (fun _ => ?_) <;> refine R_run hg.ok 1000 rfl rfl ?_
  refine R_ownB 3 3 4 rfl rfl rfl ?_
  refine R_loop (fun y : Nat × Nat => ([(4, .lo 1 0), (10, .lo 2 0), (13, .lo 3 0), (66, iV x.2.length), (67, iV y.1)], [.box [.d (.sl (Cs.rows p))], .box [.d (.v (.int .i64 0)), .d (.v (.string ByteArray.empty)), .d (.v (.int .i64 0)), .d (.v (.slice none 0 0)), .d (.v (.slice none 0 0)), .d (.v (.int .i64 0))], clB x, .box [.d (.v (.int .i64 3)), .d (.v (.string (Tx [63]))), .d (.v (.int .i64 0)), .ow 4 y.2, .d (.sl (Gl.rows B)), .d (.v (.int .i64 x.2.length))], .arr 4 y.2 (Tm.rows (varL y.1))])) (fun y => y.1 ≤ x.2.length) (fun y => x.2.length - y.1) (0, 0) (Nat.zero_le _) ⟨.refl _, .refl _, .refl _, .refl _, .refl _, trivial⟩ rfl ?_
  rintro ⟨k, s⟩ hk
  have hk : k ≤ x.2.length := hk
  refine R_run hg.ok 1000 rfl rfl ?_
  refine R_if rfl rfl (fun h => ?_) (fun h => ?_)
  · refine R_run hg.ok 1000 rfl rfl ?_
    have hk1 : k < x.2.length := lt_dec h rfl
    refine R_see 75 rfl ((Ent.fs _).trans (vT_entQ (k : Int))) ?_
    refine R_appendO hg.ok (Tm.rows (varL (k + 1))) rfl rfl rfl rfl rfl rfl rfl rfl rfl (by simp) (by simp [one1]) (by rw [← varL_snoc, Tm.rows_eq, Tm.rows_eq, List.map_append]; rfl) (by rw [Tm.rows_length, varL_len]; simp; omega) (by rw [Tm.rows_length, varL_len]; simp; omega) ?_
    refine R_run hg.ok 1000 rfl rfl ?_
    exact R_next (k + 1, Nat.succ s) hk1 (by simp only; omega) ⟨.refl _, .refl _, .refl _, .refl _, Ent.wrap (by simp only; omega) (by simp only; omega) (by simp only; omega), trivial⟩ rfl
  · have hk1 : x.2.length ≤ k := ge_dec h rfl
    have hke : k = x.2.length := by omega
    subst hke
    refine R_freezeO hg.gup 4 [(4, .lo 1 0), (10, .lo 2 0), (13, .lo 3 0), (68, .ff)] [.box [.d (.sl (Cs.rows p))], .box [.d (.v (.int .i64 0)), .d (.v (.string ByteArray.empty)), .d (.v (.int .i64 0)), .d (.v (.slice none 0 0)), .d (.v (.slice none 0 0)), .d (.v (.int .i64 0))], clB x, .box [.d (.v (.int .i64 3)), .d (.v (.string (Tx [63]))), .d (.v (.int .i64 0)), .d (.sl (Tm.rows (varL x.2.length))), .d (.sl (Gl.rows B)), .d (.v (.int .i64 x.2.length))], .dead] rfl rfl ⟨.refl _, .refl _, .refl _, .refl _, trivial⟩ ⟨⟨.refl _, trivial⟩, ⟨.refl _, .refl _, .refl _, .refl _, .refl _, .refl _, trivial⟩, ⟨.refl _, .refl _, .refl _, .refl _, .refl _, trivial⟩, ⟨.refl _, .refl _, .refl _, Ent.frz 4 s _, .refl _, .refl _, trivial⟩, trivial, trivial⟩ ?_
    refine R_run hg.ok 1000 rfl rfl ?_
    refine R_loadJ hg.ok 101 (by rintro (⟨h, _⟩ | h | ⟨h, _⟩) <;> omega) rfl rfl rfl rfl rfl rfl rfl ?_
    refine R_run hg.ok 1000 rfl rfl ?_
    refine R_storeJ hg.ok rfl rfl rfl rfl rfl rfl rfl rfl rfl ?_
    refine R_run hg.ok 1000 rfl rfl ?_
    refine R_ret hg 5 rfl rfl ?_
    rfl
end Go.Proofs.YthdpfglpdgmphaaGreat

namespace Go.Proofs.YthdpfglpdgmphaaGreat
open Go PSL Go.Proofs
def k11a : Bs := [112, 40, 88, 41, 32, 58, 45, 32, 113, 40, 88, 41, 44, 32, 33, 46, 32, 113, 40, 97, 41, 46]
def k11b : Bs := [112, 32, 58, 45, 32, 113, 46]
def k11c : Bs := [112, 40, 89, 41, 46]
def k11aC : List Clau := [(fnT [58, 45] [fnT [112] [Tm.vT 0], fnT [44] [fnT [113] [Tm.vT 0], fnT [33] []]], [[88]]), (fnT [113] [fnT [97] []], [])]
def k11bC : List Clau := [(fnT [58, 45] [fnT [112] [], fnT [113] []], [])]
def k11cC : Clau := (fnT [112] [Tm.vT 0], [[89]])
def k11P : List Cs := [⟨fnT [112] [Tm.vT 0], [.mk 1 (fnT [113] [Tm.vT 0]) [] [] [], .mk 3 zeroT [] [] []], 1⟩, ⟨fnT [113] [fnT [97] []], [], 0⟩]
theorem k11a_read : clauR rightT false k11a = some (k11aC, 0, 0) := by rw [rightT_fun]; kernel_rfl
theorem k11b_read : clauR rightT false k11b = some (k11bC, 0, 0) := by rw [rightT_fun]; kernel_rfl
theorem k11c_read : clauR rightT false k11c = some ([k11cC], 0, 0) := by rw [rightT_fun]; kernel_rfl
theorem k11a_load : loadL k11aC 0 [] = (k11P, 0, 0) := by kernel_rfl
theorem k11b_load : loadL k11bC 0 [] = ([], 0, 9) := by kernel_rfl

theorem k11a_ctr : PCtr Tryz.prog 26 [txA k11a] (.tup [prV k11P, iV 0, iV 0]) := by
  have h := load_ok k11a (by decide) k11a_read (List.all_eq_true.1 (show (k11aC.all fun x => noCh x.1) = true by kernel_rfl))
  rw [if_neg (by decide), k11a_load] at h
  exact h

theorem k11b_ctr : PCtr Tryz.prog 26 [txA k11b] (.tup [prV [], iV 0, iV 9]) := by
  have h := load_ok k11b (by decide) k11b_read (List.all_eq_true.1 (show (k11bC.all fun x => noCh x.1) = true by kernel_rfl))
  rw [if_neg (by decide), k11b_load] at h
  exact h

theorem k11P_sm : ∀ c ∈ k11P, SmC c := by
  have h1 : SmT (fnT [112] [Tm.vT 0]) := smT_right (by kernel_rfl)
  have h2 : SmT (fnT [113] [Tm.vT 0]) := smT_right (by kernel_rfl)
  have h3 : SmT (fnT [113] [fnT [97] []]) := smT_right (by kernel_rfl)
  have h4 : SmT zeroT := ⟨by decide, fun x e he => by
    simp only [zeroT, Tm.els, Tm.elsL, List.mem_singleton] at he
    subst he; show (0 : Nat) < 1000000000; decide⟩
  intro c hc
  simp only [k11P, List.mem_cons, List.not_mem_nil, or_false] at hc
  rcases hc with rfl | rfl
  · exact ⟨h1, by simp only [allGL, allG]; exact ⟨⟨h2, trivial, trivial, trivial⟩, ⟨h4, trivial, trivial, trivial⟩, trivial⟩, by decide⟩
  · exact ⟨h3, by simp only [allGL], by decide⟩

theorem k11c_ctr : PCtr Tryz.prog 27 [txA k11c, prV k11P] (.tup [(qryC k11cC).av, .d (.sl (strRows k11cC.2)), iV 0, iV 0]) :=
  query_ok k11c (by decide) k11c_read (by kernel_rfl) k11P k11P_sm (by decide) (by kernel_rfl) (by kernel_rfl) (by decide) (by kernel_rfl)

set_option maxRecDepth 100000 in
theorem knows11_ok : PCtr Tryz.prog 8 [] (bV true) := by
  have hb := builtin_ok (Tx [105, 115], 2)
  have hc := control_ok (Tx [105, 115], 2)
  rw [show bltB (Tx [105, 115], 2) = true by kernel_rfl] at hb
  rw [show ctlB (Tx [105, 115], 2) = false by kernel_rfl] at hc
  refine PCtr.of_R (pf := fun _ => .eff) tyOk mixed Tryz.func8 rfl (by kernel_rfl) (by kernel_rfl) (by simp [Tryz.ntmps8]) fun w S hg => ?_
  refine R_run hg.ok 1000 rfl rfl ?_
  refine R_call hg.ok (k11a_ctr) rfl rfl rfl rfl rfl rfl ?_
  refine R_run hg.ok 1000 rfl rfl ?_
  refine R_call hg.ok (k11b_ctr) rfl rfl rfl rfl rfl rfl ?_
  refine R_run hg.ok 1000 rfl rfl ?_
  refine R_call hg.ok (k11c_ctr) rfl rfl rfl rfl rfl rfl ?_
  refine R_run hg.ok 1000 rfl rfl ?_
  repeat
    first
    | (refine R_if rfl rfl (fun _ => ?_) (fun h => absurd h (by decide +kernel)); refine R_run hg.ok 1000 rfl rfl ?_)
    | (refine R_index hg.ok rfl rfl rfl rfl rfl rfl (by decide) rfl rfl ?_; refine R_run hg.ok 1000 rfl rfl ?_)
    | (refine R_call hg.ok hb rfl rfl rfl rfl rfl rfl ?_; refine R_run hg.ok 1000 rfl rfl ?_)
    | (refine R_call hg.ok hc rfl rfl rfl rfl rfl rfl ?_; refine R_run hg.ok 1000 rfl rfl ?_)
  refine R_ret hg 5 rfl rfl ?_
  rfl
end Go.Proofs.YthdpfglpdgmphaaGreat

namespace Go.Proofs.YthdpfglpdgmphaaGreat
open Go PSL Go.Proofs

theorem contains_cons' {l : List Int} {x n : Int} : (x :: l).contains n = (decide (x = n) || l.contains n) := by
  simp only [List.contains_cons]; congr 1; rw [Bool.eq_iff_iff]; simp; exact eq_comm

set_option maxRecDepth 100000 in
theorem with_ok (t : Tm) : ∀ (l : List Int), l.length + t.size < 1000000000 → PCtr Tryz.prog 83 [.d (.sl (irows l)), t.av] (.d (.sl (irows (Tm.withV l t)))) := by
  induction t using Tm.ind with
  | _ t ih =>
  intro l hsz
  have hl := Tm.len_le_sizeL t.l
  have hs := Tm.size_eq t
  refine PCtr.of_R (pf := pfB) tyOk mixed Tryz.func83 rfl (by kernel_rfl) (by kernel_rfl) (by simp [Tryz.ntmps83]) fun w S hg => ?_
  refine R_run hg.ok 1000 rfl rfl ?_
  refine R_if rfl rfl (fun h => ?_) (fun h => ?_) <;> refine R_run hg.ok 1000 rfl rfl ?_
  · have hk : t.k = 1 := by simpa using h
    refine R_loop (fun k : Nat => ([(0, .d (.sl (irows l))), (3, .lo 0 0), (5, iV k)], [boxR t])) (fun k => k ≤ l.length ∧ l.contains t.n = (l.drop k).contains t.n) (fun k => l.length - k) 0 ⟨Nat.zero_le _, rfl⟩ ⟨.refl _, .refl _, .refl _, trivial⟩ rfl ?_
    rintro k ⟨hk0, hm⟩
    refine R_run hg.ok 1000 rfl rfl ?_
    refine R_if rfl rfl (fun h => ?_) (fun h => ?_) <;> refine R_run hg.ok 1000 rfl rfl ?_
    · have hk1 : k < l.length := lt_dec h (by rw [irows_length])
      have e1 : l[k]? = some l[k] := List.getElem?_eq_getElem hk1
      rw [List.drop_eq_getElem_cons hk1, contains_cons'] at hm
      refine R_index hg.ok rfl rfl rfl rfl rfl rfl (Int.natCast_nonneg k) (irows_get e1) rfl ?_
      refine R_run hg.ok 1000 rfl rfl ?_
      refine R_if rfl rfl (fun h => ?_) (fun h => ?_) <;> refine R_run hg.ok 1000 rfl rfl ?_
      · refine R_ret hg 5 rfl rfl ?_
        have he : l[k] = t.n := by simpa using h
        rw [Tm.withV_eq, if_pos hk, addV, if_pos (by rw [hm]; simp [he])]
      · have he : ¬ l[k] = t.n := by simpa using h
        refine R_next (k + 1) ⟨hk1, by rw [hm]; simp [he]⟩ (by omega) ⟨.refl _, .refl _, Ent.wrap (by omega) (by omega) (by omega), trivial⟩ rfl
    · have hk1 : l.length ≤ k := ge_dec h (by rw [irows_length])
      rw [List.drop_eq_nil_of_le hk1] at hm
      refine R_appendF hg.ok (rows := []) rfl rfl (.inl rfl) rfl (.inl rfl) rfl rfl rfl (by simp) (by simp [irows]; intros; subst_vars; rfl) (by simp [irows_length]; omega) (by simp [irows_length]; omega) ?_
      refine R_run hg.ok 1000 rfl rfl ?_
      refine R_appendO hg.ok (irows (l ++ [t.n])) rfl rfl rfl rfl rfl rfl rfl rfl rfl (by simp) (by simp [one1]) (by simp [irows, irow]) (by simp [irows_length]; omega) (by simp [irows_length]; omega) ?_
      refine R_run hg.ok 1000 rfl rfl ?_
      refine R_ret hg 5 rfl (sealA_ow rfl) ?_
      rw [Tm.withV_eq, if_pos hk, addV, if_neg (by rw [hm]; simp)]
  · have hk : ¬ t.k = 1 := by simpa using h
    refine R_loop (fun x : Nat × List Int => ([(0, .d (.sl (irows x.2))), (3, .lo 0 0), (6, iV x.1)], [boxR t])) (fun x => x.1 ≤ t.l.length ∧ Tm.withV l t = Tm.withVL x.2 (t.l.drop x.1) ∧ x.2.length + Tm.sizeL (t.l.drop x.1) ≤ l.length + Tm.sizeL t.l) (fun x => t.l.length - x.1) (0, l) ⟨Nat.zero_le _, by rw [Tm.withV_eq, if_neg hk]; rfl, Nat.le_refl _⟩ ⟨.refl _, .refl _, .refl _, trivial⟩ rfl ?_
    rintro ⟨k, a⟩ ⟨hk0, hm, hal⟩
    simp only at hk0 hm hal
    refine R_run hg.ok 1000 rfl rfl ?_
    refine R_if rfl rfl (fun h => ?_) (fun h => ?_) <;> refine R_run hg.ok 1000 rfl rfl ?_
    · have hk1 : k < t.l.length := lt_dec h (by rw [Tm.rows_length])
      have e1 : t.l[k]? = some t.l[k] := List.getElem?_eq_getElem hk1
      rw [List.drop_eq_getElem_cons hk1] at hm hal
      simp only [Tm.withVL] at hm
      simp only [Tm.sizeL] at hal
      refine R_index hg.ok rfl rfl rfl rfl rfl rfl (Int.natCast_nonneg k) (Tm.rows_get e1) rfl ?_
      refine R_run hg.ok 1000 rfl rfl ?_
      refine R_call hg.ok (ih _ (List.getElem_mem hk1) a (by omega)) rfl rfl rfl rfl rfl rfl ?_
      refine R_run hg.ok 1000 rfl rfl ?_
      have hwl := Tm.withV_len t.l[k] a
      exact R_next (k + 1, Tm.withV a t.l[k]) ⟨hk1, hm, by simp only; omega⟩ (by simp only; omega) ⟨.refl _, .refl _, Ent.wrap (by simp only; omega) (by simp only; omega) (by simp only; omega), trivial⟩ rfl
    · have hk1 : t.l.length ≤ k := ge_dec h (by rw [Tm.rows_length])
      refine R_ret hg 5 rfl rfl ?_
      rw [hm, List.drop_eq_nil_of_le hk1]; rfl

set_option maxRecDepth 100000 in
theorem refVars_ok (l : List Tm) (hsz : Tm.sizeL l < 1000000000) : PCtr Tryz.prog 59 [.d (.sl (Tm.rows l))] (.d (.sl (irows (Tm.withVL [] l)))) := by
  have hl := Tm.len_le_sizeL l
  refine PCtr.of_R (pf := pfB) tyOk mixed Tryz.func59 rfl (by kernel_rfl) (by kernel_rfl) (by simp [Tryz.ntmps59]) fun w S hg => ?_
  refine R_run hg.ok 1000 rfl rfl ?_
  refine R_loop (fun x : Nat × List Int => ([(0, .d (.sl (Tm.rows l))), (3, .d (.sl (irows x.2))), (4, iV x.1)], [])) (fun x => x.1 ≤ l.length ∧ Tm.withVL [] l = Tm.withVL x.2 (l.drop x.1) ∧ x.2.length + Tm.sizeL (l.drop x.1) ≤ Tm.sizeL l) (fun x => l.length - x.1) (0, []) ⟨Nat.zero_le _, rfl, by simp⟩ ⟨.refl _, .nil, .refl _, trivial⟩ rfl ?_
  rintro ⟨k, a⟩ ⟨hk0, hm, hal⟩
  simp only at hk0 hm hal
  refine R_run hg.ok 1000 rfl rfl ?_
  refine R_if rfl rfl (fun h => ?_) (fun h => ?_) <;> refine R_run hg.ok 1000 rfl rfl ?_
  · have hk1 : k < l.length := lt_dec h (by rw [Tm.rows_length])
    have e1 : l[k]? = some l[k] := List.getElem?_eq_getElem hk1
    rw [List.drop_eq_getElem_cons hk1] at hm hal
    simp only [Tm.withVL] at hm
    simp only [Tm.sizeL] at hal
    refine R_index hg.ok rfl rfl rfl rfl rfl rfl (Int.natCast_nonneg k) (Tm.rows_get e1) rfl ?_
    refine R_run hg.ok 1000 rfl rfl ?_
    refine R_call hg.ok (with_ok l[k] a (by omega)) rfl rfl rfl rfl rfl rfl ?_
    refine R_run hg.ok 1000 rfl rfl ?_
    have hwl := Tm.withV_len l[k] a
    exact R_next (k + 1, Tm.withV a l[k]) ⟨hk1, hm, by simp only; omega⟩ (by simp only; omega) ⟨.refl _, .refl _, Ent.wrap (by simp only; omega) (by simp only; omega) (by simp only; omega), trivial⟩ rfl
  · have hk1 : l.length ≤ k := ge_dec h (by rw [Tm.rows_length])
    refine R_ret hg 5 rfl rfl ?_
    rw [hm, List.drop_eq_nil_of_le hk1]; rfl
end Go.Proofs.YthdpfglpdgmphaaGreat

namespace Go.Proofs.YthdpfglpdgmphaaGreat
open Go PSL Go.Proofs

set_option maxHeartbeats 4000000 in
set_option maxRecDepth 100000 in
theorem refBuiltin_ok (s : ByteArray) (n : Int) : PCtr Tryz.prog 61 [.d (.v (.string s)), .d (.v (.int .i64 n))] (bV (bltB (s, n))) := by
  rw [bltX_eq]
  unfold bltX
  refine PCtr.of_R (pf := fun _ => .still) tyOk mixed Tryz.func61 rfl (by kernel_rfl) (by kernel_rfl) (by simp [Tryz.ntmps61]) fun w S hg => ?_
  refine R_run hg.ok 1000 rfl rfl ?_
  repeat' (refine R_if rfl rfl (fun _ => ?_) (fun _ => ?_) <;> refine R_run hg.ok 1000 rfl rfl ?_)
  all_goals (
    refine R_ret hg 5 rfl rfl ?_
    simp_all [bV])

set_option maxHeartbeats 4000000 in
set_option maxRecDepth 100000 in
theorem refControl_ok (s : ByteArray) (n : Int) : PCtr Tryz.prog 62 [.d (.v (.string s)), .d (.v (.int .i64 n))] (bV (ctlB (s, n))) := by
  rw [ctlX_eq]
  unfold ctlX
  refine PCtr.of_R (pf := fun _ => .still) tyOk mixed Tryz.func62 rfl (by kernel_rfl) (by kernel_rfl) (by simp [Tryz.ntmps62]) fun w S hg => ?_
  refine R_run hg.ok 1000 rfl rfl ?_
  repeat' (refine R_if rfl rfl (fun _ => ?_) (fun _ => ?_) <;> refine R_run hg.ok 1000 rfl rfl ?_)
  all_goals (
    refine R_ret hg 5 rfl rfl ?_
    simp_all [bV])
end Go.Proofs.YthdpfglpdgmphaaGreat

namespace Go.Proofs.YthdpfglpdgmphaaGreat
open Go PSL Go.Proofs

theorem refBuiltinT_ok (t : Tm) : PCtr Tryz.prog 61 [.d (.v (.string t.s)), .d (.v (.int .i64 ((Tm.rows t.l).length : Int)))] (bV (bltB (sgOf t))) := by
  rw [Tm.rows_length]; exact refBuiltin_ok t.s t.l.length

theorem refControlT_ok (t : Tm) : PCtr Tryz.prog 62 [.d (.v (.string t.s)), .d (.v (.int .i64 ((Tm.rows t.l).length : Int)))] (bV (ctlB (sgOf t))) := by
  rw [Tm.rows_length]; exact refControl_ok t.s t.l.length

set_option maxRecDepth 100000 in
theorem refOwn_ok (t : Tm) : PCtr Tryz.prog 37 [t.av] (bV (ownB t)) := by
  refine PCtr.of_R (pf := fun _ => .eff) tyOk mixed Tryz.func37 rfl (by kernel_rfl) (by kernel_rfl) (by simp [Tryz.ntmps37]) fun w S hg => ?_
  refine R_run hg.ok 1000 rfl rfl ?_
  refine R_if rfl rfl (fun h => ?_) (fun h => ?_) <;> refine R_run hg.ok 1000 rfl rfl ?_
  · refine R_call hg.ok (refBuiltinT_ok t) rfl rfl rfl rfl rfl rfl ?_
    refine R_run hg.ok 1000 rfl rfl ?_
    refine R_if rfl rfl (fun h2 => ?_) (fun h2 => ?_) <;> refine R_run hg.ok 1000 rfl rfl ?_
    · refine R_call hg.ok (refControlT_ok t) rfl rfl rfl rfl rfl rfl ?_
      refine R_run hg.ok 1000 rfl rfl ?_
      refine R_ret hg 5 rfl rfl ?_
      unfold ownB
      rw [h, h2]; rfl
    · refine R_ret hg 5 rfl rfl ?_
      unfold ownB
      rw [h, h2]; rfl
  · refine R_ret hg 5 rfl rfl ?_
    unfold ownB
    rw [h]; rfl

set_option maxRecDepth 100000 in
theorem refVarsB_ok (t : Tm) (v : Int) (ht : SmT t) : PCtr Tryz.prog 36 [t.av, iV v] (bV (varsB v t)) := by
  have hs := ht.1
  have hv := (refVars_ok [t] (by simp [Tm.sizeL]; omega)).one
  have hr := refRight_ok t (by omega) ht.2
  have hlen : (Tm.withVL [] [t]).length ≤ t.size := by have := Tm.withVL_len [t] []; simpa [Tm.sizeL] using this
  have hw : varsB v t = ((Tm.withVL [] [t]).all (fun x => decide (x < v)) && t.rightB) := by
    unfold varsB
    cases h : t.rightB with
    | false => simp
    | true => rw [varsT_with [t] (Tm.fairL_plain _ (fairL_of (by simpa using h)))]
  rw [hw]
  generalize Tm.withVL [] [t] = V at *
  refine PCtr.of_R (pf := fun _ => .eff) tyOk mixed Tryz.func36 rfl (by kernel_rfl) (by kernel_rfl) (by simp [Tryz.ntmps36]) fun w S hg => ?_
  refine R_run hg.ok 1000 rfl rfl ?_
  refine R_call hg.ok (hv) rfl rfl rfl rfl rfl rfl ?_
  refine R_run hg.ok 1000 rfl rfl ?_
  refine R_loop (fun k : Nat => ([(1, iV v), (2, .lo 0 0), (5, .d (.sl (irows V))), (6, iV k)], [boxR t])) (fun k => k ≤ V.length ∧ V.all (fun x => decide (x < v)) = (V.drop k).all fun x => decide (x < v)) (fun k => V.length - k) 0 ⟨Nat.zero_le _, rfl⟩ ⟨.refl _, .refl _, .refl _, .refl _, trivial⟩ rfl ?_
  rintro k ⟨hk, hm⟩
  refine R_run hg.ok 1000 rfl rfl ?_
  refine R_if rfl rfl (fun h => ?_) (fun h => ?_) <;> refine R_run hg.ok 1000 rfl rfl ?_
  · have hk1 : k < V.length := lt_dec h (by rw [irows_length])
    have e1 : V[k]? = some V[k] := List.getElem?_eq_getElem hk1
    rw [List.drop_eq_getElem_cons hk1, List.all_cons] at hm
    generalize V[k] = x at e1 hm
    refine R_index hg.ok rfl rfl rfl rfl rfl rfl (Int.natCast_nonneg _) (irows_get e1) rfl ?_
    refine R_run hg.ok 1000 rfl rfl ?_
    refine R_if rfl rfl (fun h => ?_) (fun h => ?_) <;> refine R_run hg.ok 1000 rfl rfl ?_
    · refine R_ret hg 5 rfl rfl ?_
      rw [hm, show decide (x < v) = false by simpa using h]; rfl
    · exact R_next (k + 1) ⟨hk1, by rw [hm, show decide (x < v) = true by simpa using h, Bool.true_and]⟩ (by omega) ⟨.refl _, .refl _, .refl _, Ent.wrap (by omega) (by omega) (by omega), trivial⟩ rfl
  · have hk1 : V.length ≤ k := ge_dec h (by rw [irows_length])
    refine R_call hg.ok (hr) rfl rfl rfl rfl rfl rfl ?_
    refine R_run hg.ok 1000 rfl rfl ?_
    refine R_ret hg 5 rfl rfl ?_
    rw [hm, List.drop_eq_nil_of_le hk1]; rfl

theorem noneL_eq (a b c : List Gl) : noneG a b c = (decide (a.length = 0) && decide (b.length = 0) && decide (c.length = 0)) := by
  unfold noneG
  rw [Bool.eq_iff_iff]
  simp only [decide_eq_true_eq, Bool.and_eq_true]
  omega

set_option maxHeartbeats 4000000 in
set_option maxRecDepth 100000 in
theorem refFair_ok (g : Gl) (v : Int) (ht : SmT g.t) : PCtr Tryz.prog 58 [g.av, iV v] (bV (fairB v g)) := by
  have hs := refSame_ok g.t zeroT (by have := ht.1; omega)
  rw [noth_zero] at hs
  have hf : fairB v g = if g.k = 1 then noneG g.a g.b g.c && ownB g.t && varsB v g.t
    else if g.k = 2 then noneG g.a g.b g.c && (g.t.k == 3) && bltB (sgOf g.t) && varsB v g.t
    else if g.k = 3 then noneG g.a g.b g.c && nothB g.t
    else nothB g.t && ((g.k == 4) || (g.k == 5) && decide (g.b.length + g.c.length = 0)) := by cases g; rw [fairB]; rfl
  rw [hf]
  refine PCtr.of_R (pf := fun _ => .eff) tyOk mixed Tryz.func58 rfl (by kernel_rfl) (by kernel_rfl) (by simp [Tryz.ntmps58]) fun w S hg => ?_
  refine R_run hg.ok 1000 rfl rfl ?_
  refine R_call hg.ok (hs) rfl rfl rfl rfl rfl rfl ?_
  refine R_run hg.ok 1000 rfl rfl ?_
  have z : ∀ l : List Gl, (((Gl.rows l).length : Int) == 0) = decide (l.length = 0) := fun l => by
    rw [Gl.rows_length, Bool.eq_iff_iff]; simp
  refine R_cut1 (fun _ : Unit => ([(1, iV v), (2, .lo 0 0), (5, bV (nothB g.t)), (6, bV (noneG g.a g.b g.c))], [glBox g])) (fun _ => True) rfl ?_ ?_
  · rw [noneL_eq, z]
    cases ha : decide (g.a.length = 0) with
    | false =>
      refine R_if rfl rfl (fun h => absurd h (by simp)) (fun _ => ?_) <;> refine R_run hg.ok 1000 rfl rfl ?_
      exact R_to () trivial ⟨.refl _, .refl _, .refl _, (by first | exact .refl _ | exact .ff), trivial⟩ rfl
    | true =>
      refine R_if rfl rfl (fun _ => ?_) (fun h => absurd h (by simp)) <;> refine R_run hg.ok 1000 rfl rfl ?_
      rw [z]
      cases hb : decide (g.b.length = 0) with
      | false =>
        refine R_if rfl rfl (fun h => absurd h (by simp)) (fun _ => ?_) <;> refine R_run hg.ok 1000 rfl rfl ?_
        exact R_to () trivial ⟨.refl _, .refl _, .refl _, (by first | exact .refl _ | exact .ff), trivial⟩ rfl
      | true =>
        refine R_if rfl rfl (fun _ => ?_) (fun h => absurd h (by simp)) <;> refine R_run hg.ok 1000 rfl rfl ?_
        rw [z]
        exact R_to () trivial ⟨.refl _, .refl _, .refl _, (by first | exact .refl _ | exact .ff), trivial⟩ rfl
  rintro _ _
  refine R_run hg.ok 1000 rfl rfl ?_
  by_cases c1 : g.k = 1
  · rw [if_pos c1]
    refine R_if rfl rfl (fun _ => ?_) (fun h => absurd h (by simp [c1])) <;> refine R_run hg.ok 1000 rfl rfl ?_
    refine R_if rfl rfl (fun n1 => ?_) (fun n1 => ?_) <;> refine R_run hg.ok 1000 rfl rfl ?_
    · refine R_call hg.ok (refOwn_ok g.t) rfl rfl rfl rfl rfl rfl ?_
      refine R_run hg.ok 1000 rfl rfl ?_
      refine R_if rfl rfl (fun n2 => ?_) (fun n2 => ?_) <;> refine R_run hg.ok 1000 rfl rfl ?_
      · refine R_call hg.ok (refVarsB_ok g.t v ht) rfl rfl rfl rfl rfl rfl ?_
        refine R_run hg.ok 1000 rfl rfl ?_
        refine R_ret hg 5 rfl rfl ?_
        rw [n1, n2]; rfl
      · refine R_ret hg 5 rfl rfl ?_
        rw [n1, n2]; rfl
    · refine R_ret hg 5 rfl rfl ?_
      rw [n1]; rfl
  rw [if_neg c1]
  refine R_if rfl rfl (fun h => absurd h (by simp [c1])) (fun _ => ?_) <;> refine R_run hg.ok 1000 rfl rfl ?_
  by_cases c2 : g.k = 2
  · rw [if_pos c2]
    refine R_if rfl rfl (fun _ => ?_) (fun h => absurd h (by simp [c2])) <;> refine R_run hg.ok 1000 rfl rfl ?_
    refine R_if rfl rfl (fun n1 => ?_) (fun n1 => ?_) <;> refine R_run hg.ok 1000 rfl rfl ?_
    · refine R_if rfl rfl (fun n2 => ?_) (fun n2 => ?_) <;> refine R_run hg.ok 1000 rfl rfl ?_
      · refine R_call hg.ok (refBuiltinT_ok g.t) rfl rfl rfl rfl rfl rfl ?_
        refine R_run hg.ok 1000 rfl rfl ?_
        refine R_if rfl rfl (fun n3 => ?_) (fun n3 => ?_) <;> refine R_run hg.ok 1000 rfl rfl ?_
        · refine R_call hg.ok (refVarsB_ok g.t v ht) rfl rfl rfl rfl rfl rfl ?_
          refine R_run hg.ok 1000 rfl rfl ?_
          refine R_ret hg 5 rfl rfl ?_
          rw [n1, n2, n3]; rfl
        · refine R_ret hg 5 rfl rfl ?_
          rw [n1, n2, n3]; rfl
      · refine R_ret hg 5 rfl rfl ?_
        rw [n1, n2]; rfl
    · refine R_ret hg 5 rfl rfl ?_
      rw [n1]; rfl
  rw [if_neg c2]
  refine R_if rfl rfl (fun h => absurd h (by simp [c2])) (fun _ => ?_) <;> refine R_run hg.ok 1000 rfl rfl ?_
  by_cases c3 : g.k = 3
  · rw [if_pos c3]
    refine R_if rfl rfl (fun _ => ?_) (fun h => absurd h (by simp [c3])) <;> refine R_run hg.ok 1000 rfl rfl ?_
    refine R_if rfl rfl (fun n1 => ?_) (fun n1 => ?_) <;> refine R_run hg.ok 1000 rfl rfl ?_
    · refine R_ret hg 5 rfl rfl ?_
      rw [n1]; rfl
    · refine R_ret hg 5 rfl rfl ?_
      rw [n1]; rfl
  rw [if_neg c3]
  refine R_if rfl rfl (fun h => absurd h (by simp [c3])) (fun _ => ?_) <;> refine R_run hg.ok 1000 rfl rfl ?_
  refine R_if rfl rfl (fun n1 => ?_) (fun n1 => ?_) <;> refine R_run hg.ok 1000 rfl rfl ?_
  rotate_left
  · refine R_ret hg 5 rfl rfl ?_
    rw [n1]; rfl
  rw [n1]
  refine R_if rfl rfl (fun n2 => ?_) (fun n2 => ?_) <;> refine R_run hg.ok 1000 rfl rfl ?_
  · refine R_ret hg 5 rfl rfl ?_
    rw [n2]; rfl
  rw [n2]
  refine R_if rfl rfl (fun n3 => ?_) (fun n3 => ?_) <;> refine R_run hg.ok 1000 rfl rfl ?_
  rotate_left
  · refine R_ret hg 5 rfl rfl ?_
    rw [n3]; rfl
  rw [n3, z]
  cases hb : decide (g.b.length = 0) with
  | false =>
    refine R_if rfl rfl (fun h => absurd h (by simp)) (fun _ => ?_) <;> refine R_run hg.ok 1000 rfl rfl ?_
    refine R_ret hg 5 rfl rfl ?_
    rw [decide_eq_false (show ¬ g.b.length + g.c.length = 0 by have := of_decide_eq_false hb; omega)]; rfl
  | true =>
    have hb := of_decide_eq_true hb
    refine R_if rfl rfl (fun _ => ?_) (fun h => absurd h (by simp)) <;> refine R_run hg.ok 1000 rfl rfl ?_
    rw [z]
    refine R_ret hg 5 rfl rfl ?_
    rw [hb, Nat.zero_add]; rfl

set_option maxHeartbeats 4000000 in
set_option maxRecDepth 100000 in
theorem refCount_ok (v : Int) (l : List Gl) : ∀ (deep : Int) (cuts : Bool), allGL SmT l → Gl.sizeL l ≤ 1000000 → 0 ≤ deep → deep + Gl.sizeL l ≤ 1000000000 → PCtr Tryz.prog 35 [.d (.sl (Gl.rows l)), iV v, iV deep, bV cuts] (iV (cntL v l deep cuts)) := by
  refine Gl.indL (p := fun l => ∀ (deep : Int) (cuts : Bool), allGL SmT l → Gl.sizeL l ≤ 1000000 → 0 ≤ deep → deep + Gl.sizeL l ≤ 1000000000 → PCtr Tryz.prog 35 [.d (.sl (Gl.rows l)), iV v, iV deep, bV cuts] (iV (cntL v l deep cuts))) (fun l hsub => ?_) l
  intro deep cuts hl hz h3 h4
  have hlen := Gl.len_size l
  have hrl := Gl.rows_length l
  refine PCtr.of_R (pf := fun _ => .eff) tyOk mixed Tryz.func35 rfl (by kernel_rfl) (by kernel_rfl) (by simp [Tryz.ntmps35]) fun w S hg => ?_
  refine R_run hg.ok 1000 rfl rfl ?_
  by_cases hd : l.length ≠ 0 ∧ 10 < deep
  · refine R_if rfl rfl (fun _ => ?_) (fun h => absurd (of_decide_eq_false h) (by omega)) <;> refine R_run hg.ok 1000 rfl rfl ?_
    refine R_if rfl rfl (fun _ => ?_) (fun h => absurd (of_decide_eq_false h) (by omega)) <;> refine R_run hg.ok 1000 rfl rfl ?_
    refine R_ret hg 5 rfl rfl ?_
    unfold cntL; rw [if_pos hd]; rfl
  have hcnt : cntL v l deep cuts = cntG v l deep cuts := by unfold cntL; rw [if_neg hd]
  have hwd : IntKind.i64.wrap (deep + 1) = deep + 1 := w64 (by omega) (by omega)
  rw [hcnt]
  refine R_cut1 (fun _ : Unit => ([(0, .d (.sl (Gl.rows l))), (1, iV v), (2, iV deep), (3, bV cuts), (9, iV 0), (21, bV false)], [])) (fun _ => True) rfl ?_ ?_
  · by_cases h0 : l.length = 0
    · refine R_if rfl rfl (fun h => absurd (of_decide_eq_true h) (by omega)) (fun _ => ?_) <;> refine R_run hg.ok 1000 rfl rfl ?_
      exact R_to () trivial ⟨.refl _, .refl _, .refl _, .refl _, .refl _, (by first | exact .refl _ | exact .ff), trivial⟩ rfl
    · refine R_if rfl rfl (fun _ => ?_) (fun h => absurd (of_decide_eq_false h) (by omega)) <;> refine R_run hg.ok 1000 rfl rfl ?_
      rw [decide_eq_false (show ¬ deep > 10 by omega)]
      exact R_to () trivial ⟨.refl _, .refl _, .refl _, .refl _, .refl _, (by first | exact .refl _ | exact .ff), trivial⟩ rfl
  rintro _ _
  refine R_if rfl rfl (fun h => absurd h (by simp)) (fun _ => ?_) <;> refine R_run hg.ok 1000 rfl rfl ?_
  refine R_loop (fun x : Nat × Int => ([(0, .d (.sl (Gl.rows l))), (1, iV v), (2, iV deep), (3, bV cuts), (9, iV x.2), (10, iV x.1)], [])) (fun x => x.1 ≤ l.length ∧ cntG v l deep cuts = cmbG v (l.drop x.1) deep cuts x.2 ∧ 0 ≤ x.2 ∧ x.2 + Gl.sizeL (l.drop x.1) ≤ Gl.sizeL l) (fun x => l.length - x.1) (0, 0) ⟨Nat.zero_le _, by
    show cntG v l deep cuts = cmbG v l deep cuts 0
    unfold cmbG
    have := cnt_ge v l deep cuts
    rw [hcnt] at this
    split <;> omega, Int.le_refl _, by simp⟩ ⟨.refl _, .refl _, .refl _, .refl _, .refl _, .refl _, trivial⟩ rfl ?_
  rintro ⟨k, m⟩ ⟨hk, hm, hm0, hms⟩
  refine R_run hg.ok 1000 rfl rfl ?_
  refine R_if rfl rfl (fun h => ?_) (fun h => ?_) <;> refine R_run hg.ok 1000 rfl rfl ?_
  · have hk1 : k < l.length := lt_dec h (by rw [hrl])
    have e1 : l[k]? = some l[k] := List.getElem?_eq_getElem hk1
    have hmem := List.getElem_mem hk1
    rw [List.drop_eq_getElem_cons hk1] at hm hms
    generalize l[k] = g at e1 hm hms hmem
    have hsz := Gl.size_mem hmem
    have hge := Gl.size_eq g
    have htp := Gl.tmPos g.t
    obtain ⟨sa, sb, sc⟩ := hsub g hmem
    obtain ⟨st, ma, mb, mc⟩ := allGL_mem hl g hmem
    rw [cmbG_cons, cnt1_eq] at hm
    simp only [Gl.sizeL] at hms
    have la := cnt_le v g.a (deep + 1) false
    have lb := cnt_le v g.b (deep + 1) cuts
    have lc := cnt_le v g.c (deep + 1) cuts
    have ga := cnt_ge v g.a (deep + 1) false
    have gb := cnt_ge v g.b (deep + 1) cuts
    have gc := cnt_ge v g.c (deep + 1) cuts
    have ca := sa (deep + 1) false ma (by omega) (by omega) (by omega)
    have cb := sb (deep + 1) cuts mb (by omega) (by omega) (by omega)
    have cc := sc (deep + 1) cuts mc (by omega) (by omega) (by omega)
    refine R_index hg.ok rfl rfl rfl rfl rfl rfl (Int.natCast_nonneg _) (Gl.rows_get e1) rfl ?_
    refine R_run hg.ok 1000 rfl rfl ?_
    have hF := refFair_ok g v st
    cases hf : fairB v g with
    | false =>
      rw [hf] at hF hm
      refine R_call hg.ok (hF) rfl rfl rfl rfl rfl rfl ?_
      refine R_run hg.ok 1000 rfl rfl ?_
      refine R_if rfl rfl (fun _ => ?_) (fun h => absurd h (by simp)) <;> refine R_run hg.ok 1000 rfl rfl ?_
      refine R_ret hg 5 rfl rfl ?_
      rw [hm]; rfl
    | true =>
      rw [hf] at hF hm
      refine R_call hg.ok (hF) rfl rfl rfl rfl rfl rfl ?_
      refine R_run hg.ok 1000 rfl rfl ?_
      refine R_if rfl rfl (fun h => absurd h (by simp)) (fun _ => ?_) <;> refine R_run hg.ok 1000 rfl rfl ?_
      cases h3k : (g.k == 3) with
      | false =>
        rw [h3k] at hm
        refine R_if rfl rfl (fun h => absurd h (by simp [h3k])) (fun _ => ?_) <;> refine R_run hg.ok 1000 rfl rfl ?_
        simp only [Bool.not_true, Bool.false_or, Bool.false_and, Bool.and_false, Bool.not_false, Bool.and_self, Bool.false_eq_true, if_false] at hm
        rw [hwd]
        refine R_call hg.ok (ca) rfl rfl rfl rfl rfl rfl ?_
        refine R_run hg.ok 1000 rfl rfl ?_
        rw [hwd]
        refine R_call hg.ok (cb) rfl rfl rfl rfl rfl rfl ?_
        refine R_run hg.ok 1000 rfl rfl ?_
        rw [hwd]
        refine R_call hg.ok (cc) rfl rfl rfl rfl rfl rfl ?_
        refine R_run hg.ok 1000 rfl rfl ?_
        generalize cntL v g.a (deep + 1) false = qa at *
        generalize cntL v g.b (deep + 1) cuts = qb at *
        generalize cntL v g.c (deep + 1) cuts = qc at *
        by_cases h1 : qa < 0
        · rw [show (if qa < 0 ∨ qb < 0 ∨ qc < 0 then (-1 : Int) else 1 + qa + qb + qc) = -1 from if_pos (.inl h1), if_pos (by decide)] at hm
          refine R_if rfl rfl (fun _ => ?_) (fun h => absurd (of_decide_eq_false h) (by omega)) <;> refine R_run hg.ok 1000 rfl rfl ?_
          refine R_ret hg 5 rfl rfl ?_
          rw [hm]; rfl
        refine R_if rfl rfl (fun h => absurd (of_decide_eq_true h) (by omega)) (fun _ => ?_) <;> refine R_run hg.ok 1000 rfl rfl ?_
        by_cases h2 : qb < 0
        · rw [show (if qa < 0 ∨ qb < 0 ∨ qc < 0 then (-1 : Int) else 1 + qa + qb + qc) = -1 from if_pos (.inr (.inl h2)), if_pos (by decide)] at hm
          refine R_if rfl rfl (fun _ => ?_) (fun h => absurd (of_decide_eq_false h) (by omega)) <;> refine R_run hg.ok 1000 rfl rfl ?_
          refine R_ret hg 5 rfl rfl ?_
          rw [hm]; rfl
        refine R_if rfl rfl (fun h => absurd (of_decide_eq_true h) (by omega)) (fun _ => ?_) <;> refine R_run hg.ok 1000 rfl rfl ?_
        by_cases h3 : qc < 0
        · rw [show (if qa < 0 ∨ qb < 0 ∨ qc < 0 then (-1 : Int) else 1 + qa + qb + qc) = -1 from if_pos (.inr (.inr h3)), if_pos (by decide)] at hm
          refine R_if rfl rfl (fun _ => ?_) (fun h => absurd (of_decide_eq_false h) (by omega)) <;> refine R_run hg.ok 1000 rfl rfl ?_
          refine R_ret hg 5 rfl rfl ?_
          rw [hm]; rfl
        refine R_if rfl rfl (fun h => absurd (of_decide_eq_true h) (by omega)) (fun _ => ?_) <;> refine R_run hg.ok 1000 rfl rfl ?_
        rw [show (if qa < 0 ∨ qb < 0 ∨ qc < 0 then (-1 : Int) else 1 + qa + qb + qc) = 1 + qa + qb + qc from if_neg (by omega), if_neg (by omega), show m + (1 + qa + qb + qc) = m + 1 + qa + qb + qc by omega] at hm
        rw [w64 (n := m + 1) (by omega) (by omega), w64 (n := m + 1 + qa) (by omega) (by omega), w64 (n := m + 1 + qa + qb) (by omega) (by omega), w64 (n := m + 1 + qa + qb + qc) (by omega) (by omega)]
        refine R_dropO 0 [] (Nat.zero_le _) rfl rfl ?_
        exact R_next (k + 1, m + 1 + qa + qb + qc) ⟨hk1, hm, by simp only; omega, by simp only; omega⟩ (by simp only; omega) ⟨.refl _, .refl _, .refl _, .refl _, .refl _, Ent.wrap (by simp only; omega) (by simp only; omega) (by simp only; omega), trivial⟩ rfl
      | true =>
        rw [h3k] at hm
        refine R_if rfl rfl (fun _ => ?_) (fun h => absurd h (by simp [h3k])) <;> refine R_run hg.ok 1000 rfl rfl ?_
        cases cuts with
        | false =>
          refine R_if rfl rfl (fun _ => ?_) (fun h => absurd h (by simp)) <;> refine R_run hg.ok 1000 rfl rfl ?_
          refine R_ret hg 5 rfl rfl ?_
          rw [hm]; rfl
        | true =>
          refine R_if rfl rfl (fun h => absurd h (by simp)) (fun _ => ?_) <;> refine R_run hg.ok 1000 rfl rfl ?_
          simp only [Bool.not_true, Bool.false_or, Bool.false_and, Bool.and_false, Bool.not_false, Bool.and_self, Bool.false_eq_true, if_false] at hm
          rw [hwd]
          refine R_call hg.ok (ca) rfl rfl rfl rfl rfl rfl ?_
          refine R_run hg.ok 1000 rfl rfl ?_
          rw [hwd]
          refine R_call hg.ok (cb) rfl rfl rfl rfl rfl rfl ?_
          refine R_run hg.ok 1000 rfl rfl ?_
          rw [hwd]
          refine R_call hg.ok (cc) rfl rfl rfl rfl rfl rfl ?_
          refine R_run hg.ok 1000 rfl rfl ?_
          generalize cntL v g.a (deep + 1) false = qa at *
          generalize cntL v g.b (deep + 1) true = qb at *
          generalize cntL v g.c (deep + 1) true = qc at *
          by_cases h1 : qa < 0
          · rw [show (if qa < 0 ∨ qb < 0 ∨ qc < 0 then (-1 : Int) else 1 + qa + qb + qc) = -1 from if_pos (.inl h1), if_pos (by decide)] at hm
            refine R_if rfl rfl (fun _ => ?_) (fun h => absurd (of_decide_eq_false h) (by omega)) <;> refine R_run hg.ok 1000 rfl rfl ?_
            refine R_ret hg 5 rfl rfl ?_
            rw [hm]; rfl
          refine R_if rfl rfl (fun h => absurd (of_decide_eq_true h) (by omega)) (fun _ => ?_) <;> refine R_run hg.ok 1000 rfl rfl ?_
          by_cases h2 : qb < 0
          · rw [show (if qa < 0 ∨ qb < 0 ∨ qc < 0 then (-1 : Int) else 1 + qa + qb + qc) = -1 from if_pos (.inr (.inl h2)), if_pos (by decide)] at hm
            refine R_if rfl rfl (fun _ => ?_) (fun h => absurd (of_decide_eq_false h) (by omega)) <;> refine R_run hg.ok 1000 rfl rfl ?_
            refine R_ret hg 5 rfl rfl ?_
            rw [hm]; rfl
          refine R_if rfl rfl (fun h => absurd (of_decide_eq_true h) (by omega)) (fun _ => ?_) <;> refine R_run hg.ok 1000 rfl rfl ?_
          by_cases h3 : qc < 0
          · rw [show (if qa < 0 ∨ qb < 0 ∨ qc < 0 then (-1 : Int) else 1 + qa + qb + qc) = -1 from if_pos (.inr (.inr h3)), if_pos (by decide)] at hm
            refine R_if rfl rfl (fun _ => ?_) (fun h => absurd (of_decide_eq_false h) (by omega)) <;> refine R_run hg.ok 1000 rfl rfl ?_
            refine R_ret hg 5 rfl rfl ?_
            rw [hm]; rfl
          refine R_if rfl rfl (fun h => absurd (of_decide_eq_true h) (by omega)) (fun _ => ?_) <;> refine R_run hg.ok 1000 rfl rfl ?_
          rw [show (if qa < 0 ∨ qb < 0 ∨ qc < 0 then (-1 : Int) else 1 + qa + qb + qc) = 1 + qa + qb + qc from if_neg (by omega), if_neg (by omega), show m + (1 + qa + qb + qc) = m + 1 + qa + qb + qc by omega] at hm
          rw [w64 (n := m + 1) (by omega) (by omega), w64 (n := m + 1 + qa) (by omega) (by omega), w64 (n := m + 1 + qa + qb) (by omega) (by omega), w64 (n := m + 1 + qa + qb + qc) (by omega) (by omega)]
          refine R_dropO 0 [] (Nat.zero_le _) rfl rfl ?_
          exact R_next (k + 1, m + 1 + qa + qb + qc) ⟨hk1, hm, by simp only; omega, by simp only; omega⟩ (by simp only; omega) ⟨.refl _, .refl _, .refl _, .refl _, .refl _, Ent.wrap (by simp only; omega) (by simp only; omega) (by simp only; omega), trivial⟩ rfl
  · have hk1 : l.length ≤ k := ge_dec h (by rw [hrl])
    refine R_ret hg 5 rfl rfl ?_
    have hm : cntG v l deep cuts = cmbG v (l.drop k) deep cuts m := hm
    rw [List.drop_eq_nil_of_le hk1] at hm
    rw [hm, show cmbG v [] deep cuts m = m by simp [cmbG, cntG]]
    rfl

set_option maxRecDepth 100000 in
theorem refClause_ok (x : Cs) (hx : SmC x) : PCtr Tryz.prog 12 [x.av] (bV (clsD x)) := by
  have hb := hx.size
  have hc := refCount_ok x.vars x.body 1 true hx.body (by omega) (by omega) (by omega)
  refine PCtr.of_R (pf := fun _ => .eff) tyOk mixed Tryz.func12 rfl (by kernel_rfl) (by kernel_rfl) (by simp [Tryz.ntmps12]) fun w S hg => ?_
  refine R_run hg.ok 1000 rfl rfl ?_
  refine R_call hg.ok (hc) rfl rfl rfl rfl rfl rfl ?_
  refine R_run hg.ok 1000 rfl rfl ?_
  unfold clsD
  refine R_if rfl rfl (fun n1 => ?_) (fun n1 => ?_) <;> refine R_run hg.ok 1000 rfl rfl ?_
  rotate_left
  · refine R_ret hg 5 rfl rfl ?_
    rw [show decide (0 ≤ x.vars) = false from n1]; rfl
  rw [show decide (0 ≤ x.vars) = true from n1]
  refine R_if rfl rfl (fun n2 => ?_) (fun n2 => ?_) <;> refine R_run hg.ok 1000 rfl rfl ?_
  rotate_left
  · refine R_ret hg 5 rfl rfl ?_
    rw [show decide (x.vars ≤ 1000) = false from n2]; rfl
  rw [show decide (x.vars ≤ 1000) = true from n2]
  refine R_call hg.ok (refVarsB_ok x.head x.vars hx.head) rfl rfl rfl rfl rfl rfl ?_
  refine R_run hg.ok 1000 rfl rfl ?_
  refine R_if rfl rfl (fun n3 => ?_) (fun n3 => ?_) <;> refine R_run hg.ok 1000 rfl rfl ?_
  rotate_left
  · refine R_ret hg 5 rfl rfl ?_
    rw [n3]; rfl
  rw [n3]
  refine R_call hg.ok (refOwn_ok x.head) rfl rfl rfl rfl rfl rfl ?_
  refine R_run hg.ok 1000 rfl rfl ?_
  refine R_if rfl rfl (fun n4 => ?_) (fun n4 => ?_) <;> refine R_run hg.ok 1000 rfl rfl ?_
  rotate_left
  · refine R_ret hg 5 rfl rfl ?_
    rw [n4]; rfl
  rw [n4]
  refine R_if rfl rfl (fun n5 => ?_) (fun n5 => ?_) <;> refine R_run hg.ok 1000 rfl rfl ?_
  rotate_left
  · refine R_ret hg 5 rfl rfl ?_
    rw [show decide (0 ≤ cntL x.vars x.body 1 true) = false from n5]; rfl
  rw [show decide (0 ≤ cntL x.vars x.body 1 true) = true from n5]
  refine R_ret hg 5 rfl rfl ?_
  rfl
end Go.Proofs.YthdpfglpdgmphaaGreat

namespace Go.Proofs.YthdpfglpdgmphaaGreat
open Go PSL Go.Proofs

theorem sgOf_dec (a b : Tm) : decide (sgOf a = sgOf b) = (strEq a.s b.s && (((Tm.rows a.l).length : Int) == ((Tm.rows b.l).length : Int))) := by
  rw [Tm.rows_length, Tm.rows_length, Bool.eq_iff_iff]
  simp only [decide_eq_true_eq, sgOf, Prod.mk.injEq, Bool.and_eq_true, beq_iff_eq, Tm.strEq_iff]

theorem hasH_drop {l : List Cs} {k : Nat} {c : Cs} (p : Sg) (h : l[k]? = some c) : hasH (l.drop k) p = (decide (sgOf c.head = p) || hasH (l.drop (k + 1)) p) := by
  obtain ⟨hk, he⟩ := List.getElem?_eq_some_iff.1 h
  rw [List.drop_eq_getElem_cons hk, he]; rfl

theorem there1_or (has : Sg → Bool) (g : Gl) : there1 has g = (((g.k != 1) || has (sgOf g.t)) && thereL has g.a && thereL has g.b && thereL has g.c) := by
  rw [there1_eq]
  have : (!((g.k == 1) && !has (sgOf g.t))) = ((g.k != 1) || has (sgOf g.t)) := by
    show _ = (!(g.k == 1) || has (sgOf g.t))
    cases (g.k == 1) <;> cases has (sgOf g.t) <;> rfl
  rw [this]

set_option maxHeartbeats 4000000 in
set_option maxRecDepth 100000 in
theorem refThere_ok (p : List Cs) (hp : p.length ≤ 1000000) (l : List Gl) : Gl.sizeL l ≤ 1000000 → PCtr Tryz.prog 14 [.d (.sl (Gl.rows l)), prV p] (bV (thereL (hasH p) l)) := by
  refine Gl.indL (p := fun l => Gl.sizeL l ≤ 1000000 → PCtr Tryz.prog 14 [.d (.sl (Gl.rows l)), prV p] (bV (thereL (hasH p) l))) (fun l hsub => ?_) l
  intro hl
  have hlen := Gl.len_size l
  have hrl := Gl.rows_length l
  have hrp := Cs.rows_len p
  refine PCtr.of_R (pf := fun _ => .eff) tyOk mixed Tryz.func14 rfl (by kernel_rfl) (by kernel_rfl) (by simp [Tryz.ntmps14]) fun w S hg => ?_
  refine R_run hg.ok 1000 rfl rfl ?_
  refine R_loop (fun k : Nat => ([(0, .d (.sl (Gl.rows l))), (3, .lo 0 0), (5, iV k)], [.box [.d (.sl (Cs.rows p))]])) (fun k => k ≤ l.length ∧ thereL (hasH p) l = thereL (hasH p) (l.drop k)) (fun k => l.length - k) 0 ⟨Nat.zero_le _, rfl⟩ ⟨.refl _, .refl _, .refl _, trivial⟩ rfl ?_
  rintro i ⟨hi, hm⟩
  refine R_run hg.ok 1000 rfl rfl ?_
  refine R_if rfl rfl (fun h => ?_) (fun h => ?_) <;> refine R_run hg.ok 1000 rfl rfl ?_
  rotate_left
  · have hk1 : l.length ≤ i := ge_dec h (by rw [hrl])
    refine R_ret hg 5 rfl rfl ?_
    rw [hm, List.drop_eq_nil_of_le hk1]; rfl
  have hk1 : i < l.length := lt_dec h (by rw [hrl])
  have e1 : l[i]? = some l[i] := List.getElem?_eq_getElem hk1
  have hmem := List.getElem_mem hk1
  rw [List.drop_eq_getElem_cons hk1] at hm
  generalize l[i] = g at e1 hm hmem
  have hsz := Gl.size_mem hmem
  have hge := Gl.size_eq g
  obtain ⟨sa, sb, sc⟩ := hsub g hmem
  simp only [thereL, there1_or] at hm
  refine R_index hg.ok rfl rfl rfl rfl rfl rfl (Int.natCast_nonneg _) (Gl.rows_get e1) rfl ?_
  refine R_run hg.ok 1000 rfl rfl ?_
  refine R_cut2 (fun _ : Unit => ([(0, .d (.sl (Gl.rows l))), (3, .lo 0 0), (5, iV i), (6, bV ((g.k != 1) || hasH p (sgOf g.t)))], [.box [.d (.sl (Cs.rows p))]])) (fun _ => True) rfl ?_ ?_
  · refine R_loop (fun x : Nat × Bool => ([(0, .d (.sl (Gl.rows l))), (3, .lo 0 0), (5, iV i), (6, bV x.2), (7, iV x.1)], [.box [.d (.sl (Cs.rows p))]])) (fun x => x.1 ≤ p.length ∧ ((g.k != 1) || hasH p (sgOf g.t)) = (x.2 || hasH (p.drop x.1) (sgOf g.t))) (fun x => p.length - x.1) (0, g.k != 1) ⟨Nat.zero_le _, rfl⟩ ⟨.refl _, .refl _, .refl _, .refl _, .refl _, trivial⟩ rfl ?_
    rintro ⟨k, f⟩ ⟨hk, hn⟩
    refine R_run hg.ok 1000 rfl rfl ?_
    refine R_if rfl rfl (fun h => ?_) (fun h => ?_) <;> refine R_run hg.ok 1000 rfl rfl ?_
    rotate_left
    · have hk2 : p.length ≤ k := ge_dec h (by rw [hrp])
      have hn : ((g.k != 1) || hasH p (sgOf g.t)) = (f || hasH (p.drop k) (sgOf g.t)) := hn
      rw [List.drop_eq_nil_of_le hk2] at hn
      exact R_to () trivial ⟨.refl _, .refl _, .refl _, by rw [hn, show hasH [] (sgOf g.t) = false from rfl, Bool.or_false]; exact .refl _, trivial⟩ rfl
    have hk2 : k < p.length := lt_dec h (by rw [hrp])
    have e2 : p[k]? = some p[k] := List.getElem?_eq_getElem hk2
    generalize p[k] = c at e2
    have hn : ((g.k != 1) || hasH p (sgOf g.t)) = (f || hasH (p.drop k) (sgOf g.t)) := hn
    rw [hasH_drop _ e2, sgOf_dec] at hn
    refine R_index hg.ok rfl rfl rfl rfl rfl rfl (Int.natCast_nonneg _) (Cs.rows_get e2) rfl ?_
    refine R_run hg.ok 1000 rfl rfl ?_
    cases f with
    | true =>
      refine R_if rfl rfl (fun _ => ?_) (fun h => absurd h (by simp)) <;> refine R_run hg.ok 1000 rfl rfl ?_
      refine R_dropO 1 [.box [.d (.sl (Cs.rows p))]] (Nat.zero_le _) rfl rfl ?_
      exact R_next (k + 1, true) ⟨hk2, hn⟩ (by simp only; omega) ⟨.refl _, .refl _, .refl _, (by first | exact .refl _ | exact .tt), Ent.wrap (by simp only; omega) (by simp only; omega) (by simp only; omega), trivial⟩ rfl
    | false =>
      refine R_if rfl rfl (fun h => absurd h (by simp)) (fun _ => ?_) <;> refine R_run hg.ok 1000 rfl rfl ?_
      refine R_index hg.ok rfl rfl rfl rfl rfl rfl (Int.natCast_nonneg _) (Gl.rows_get e1) rfl ?_
      refine R_run hg.ok 1000 rfl rfl ?_
      refine R_if rfl rfl (fun n1 => ?_) (fun n1 => ?_) <;> refine R_run hg.ok 1000 rfl rfl ?_
      · refine R_index hg.ok rfl rfl rfl rfl rfl rfl (Int.natCast_nonneg _) (Gl.rows_get e1) rfl ?_
        refine R_run hg.ok 1000 rfl rfl ?_
        rw [n1, Bool.true_and, Bool.false_or] at hn
        refine R_dropO 1 [.box [.d (.sl (Cs.rows p))]] (Nat.zero_le _) rfl rfl ?_
        exact R_next (k + 1, ((Tm.rows c.head.l).length : Int) == ((Tm.rows g.t.l).length : Int)) ⟨hk2, hn⟩ (by simp only; omega) ⟨.refl _, .refl _, .refl _, .refl _, Ent.wrap (by simp only; omega) (by simp only; omega) (by simp only; omega), trivial⟩ rfl
      · rw [n1, Bool.false_and, Bool.false_or] at hn
        refine R_dropO 1 [.box [.d (.sl (Cs.rows p))]] (Nat.zero_le _) rfl rfl ?_
        exact R_next (k + 1, false) ⟨hk2, hn⟩ (by simp only; omega) ⟨.refl _, .refl _, .refl _, (by first | exact .refl _ | exact .ff), Ent.wrap (by simp only; omega) (by simp only; omega) (by simp only; omega), trivial⟩ rfl
  rintro _ _
  refine R_run hg.ok 1000 rfl rfl ?_
  refine R_if rfl rfl (fun n0 => ?_) (fun n0 => ?_) <;> refine R_run hg.ok 1000 rfl rfl ?_
  · refine R_ret hg 5 rfl rfl ?_
    rw [hm, show ((g.k != 1) || hasH p (sgOf g.t)) = false from (Bool.not_eq_true' _).mp n0]; rfl
  have n0 : ((g.k != 1) || hasH p (sgOf g.t)) = true := (Bool.not_eq_false' _).mp n0
  refine R_index hg.ok rfl rfl rfl rfl rfl rfl (Int.natCast_nonneg _) (Gl.rows_get e1) rfl ?_
  refine R_run hg.ok 1000 rfl rfl ?_
  refine R_call hg.ok (sa (by omega)) rfl rfl rfl rfl rfl rfl ?_
  refine R_run hg.ok 1000 rfl rfl ?_
  refine R_if rfl rfl (fun n1 => ?_) (fun n1 => ?_) <;> refine R_run hg.ok 1000 rfl rfl ?_
  · refine R_ret hg 5 rfl rfl ?_
    rw [hm, n0, show thereL (hasH p) g.a = false by simpa using n1]; rfl
  have n1 : thereL (hasH p) g.a = true := by simpa using n1
  refine R_index hg.ok rfl rfl rfl rfl rfl rfl (Int.natCast_nonneg _) (Gl.rows_get e1) rfl ?_
  refine R_run hg.ok 1000 rfl rfl ?_
  refine R_call hg.ok (sb (by omega)) rfl rfl rfl rfl rfl rfl ?_
  refine R_run hg.ok 1000 rfl rfl ?_
  refine R_if rfl rfl (fun n2 => ?_) (fun n2 => ?_) <;> refine R_run hg.ok 1000 rfl rfl ?_
  · refine R_ret hg 5 rfl rfl ?_
    rw [hm, n0, n1, show thereL (hasH p) g.b = false by simpa using n2]; rfl
  have n2 : thereL (hasH p) g.b = true := by simpa using n2
  refine R_index hg.ok rfl rfl rfl rfl rfl rfl (Int.natCast_nonneg _) (Gl.rows_get e1) rfl ?_
  refine R_run hg.ok 1000 rfl rfl ?_
  refine R_call hg.ok (sc (by omega)) rfl rfl rfl rfl rfl rfl ?_
  refine R_run hg.ok 1000 rfl rfl ?_
  refine R_if rfl rfl (fun n3 => ?_) (fun n3 => ?_) <;> refine R_run hg.ok 1000 rfl rfl ?_
  · refine R_ret hg 5 rfl rfl ?_
    rw [hm, n0, n1, n2, show thereL (hasH p) g.c = false by simpa using n3]; rfl
  have n3 : thereL (hasH p) g.c = true := by simpa using n3
  rw [n0, n1, n2, n3] at hm
  exact R_next (i + 1) ⟨hk1, hm⟩ (by omega) ⟨.refl _, .refl _, Ent.wrap (by omega) (by omega) (by omega), trivial⟩ rfl

set_option maxRecDepth 100000 in
theorem refFewG_ok (l : List Gl) : ∀ (m d : Int), (∀ g ∈ l, g.Ok) → l.length ≤ 140737488355328 → -1000 ≤ d ∧ d ≤ 1000 → PCtr Tryz.prog 25 [.d (.sl (Gl.rows l)), iV m, iV d] (iV (fewGL l m d)) := by
  refine Gl.indL (p := fun l => ∀ (m d : Int), (∀ g ∈ l, g.Ok) → l.length ≤ 140737488355328 → -1000 ≤ d ∧ d ≤ 1000 → PCtr Tryz.prog 25 [.d (.sl (Gl.rows l)), iV m, iV d] (iV (fewGL l m d))) (fun l hsub => ?_) l
  intro m d hok hlen hd0
  have hrl := Gl.rows_length l
  refine PCtr.of_R (pf := fun _ => .still) tyOk mixed Tryz.func25 rfl (by kernel_rfl) (by kernel_rfl) (by simp [Tryz.ntmps25]) fun w S hg => ?_
  refine R_run hg.ok 1000 rfl rfl ?_
  by_cases hd : d < 1
  · refine R_if rfl rfl (fun _ => ?_) (fun h => absurd (of_decide_eq_false h) (by omega)) <;> refine R_run hg.ok 1000 rfl rfl ?_
    refine R_ret hg 5 rfl rfl ?_
    unfold fewGL; rw [if_pos hd]; rfl
  refine R_if rfl rfl (fun h => absurd (of_decide_eq_true h) (by omega)) (fun _ => ?_) <;> refine R_run hg.ok 1000 rfl rfl ?_
  have hfe : fewGL l m d = fewGo l m d := by unfold fewGL; rw [if_neg hd]
  rw [hfe]
  have hwd : IntKind.i64.wrap (d - 1) = d - 1 := w64 (by omega) (by omega)
  refine R_loop (fun x : Nat × Int => ([(0, .d (.sl (Gl.rows l))), (1, iV x.2), (2, iV d), (7, iV x.1)], [])) (fun x => x.1 ≤ l.length ∧ fewGo l m d = fewGo (l.drop x.1) x.2 d) (fun x => l.length - x.1) (0, m) ⟨Nat.zero_le _, rfl⟩ ⟨.refl _, .refl _, .refl _, .refl _, trivial⟩ rfl ?_
  rintro ⟨k, q⟩ ⟨hk, hm⟩
  have hm : fewGo l m d = fewGo (l.drop k) q d := hm
  have hk : k ≤ l.length := hk
  refine R_run hg.ok 1000 rfl rfl ?_
  refine R_if rfl rfl (fun h => ?_) (fun h => ?_) <;> refine R_run hg.ok 1000 rfl rfl ?_
  rotate_left
  · have hk1 : l.length ≤ k := ge_dec h (by rw [hrl])
    refine R_ret hg 5 rfl rfl ?_
    rw [hm, List.drop_eq_nil_of_le hk1]; rfl
  have hk1 : k < l.length := lt_dec h (by rw [hrl])
  have e1 : l[k]? = some l[k] := List.getElem?_eq_getElem hk1
  have hmem := List.getElem_mem hk1
  rw [List.drop_eq_getElem_cons hk1, fewGo] at hm
  generalize l[k] = g at e1 hm hmem
  obtain ⟨sa, sb, sc⟩ := hsub g hmem
  have ho := hok g hmem
  refine R_if rfl rfl (fun h2 => ?_) (fun h2 => ?_) <;> refine R_run hg.ok 1000 rfl rfl ?_
  · rw [if_pos (of_decide_eq_true h2), fewG1_eq] at hm
    refine R_index hg.ok rfl rfl rfl rfl rfl rfl (Int.natCast_nonneg _) (Gl.rows_get e1) rfl ?_
    refine R_run hg.ok 1000 rfl rfl ?_
    refine R_call hg.ok (few_ok g.t ho.tm.1 q 200) rfl rfl rfl rfl rfl rfl ?_
    refine R_run hg.ok 1000 rfl rfl ?_
    refine R_index hg.ok rfl rfl rfl rfl rfl rfl (Int.natCast_nonneg _) (Gl.rows_get e1) rfl ?_
    refine R_run hg.ok 1000 rfl rfl ?_
    rw [hwd]
    refine R_call hg.ok (sa (g.t.few q 200) (d - 1) ho.ma ho.la (by omega)) rfl rfl rfl rfl rfl rfl ?_
    refine R_run hg.ok 1000 rfl rfl ?_
    refine R_index hg.ok rfl rfl rfl rfl rfl rfl (Int.natCast_nonneg _) (Gl.rows_get e1) rfl ?_
    refine R_run hg.ok 1000 rfl rfl ?_
    rw [hwd]
    refine R_call hg.ok (sb (fewGL g.a (g.t.few q 200) (d - 1)) (d - 1) ho.mb ho.lb (by omega)) rfl rfl rfl rfl rfl rfl ?_
    refine R_run hg.ok 1000 rfl rfl ?_
    refine R_index hg.ok rfl rfl rfl rfl rfl rfl (Int.natCast_nonneg _) (Gl.rows_get e1) rfl ?_
    refine R_run hg.ok 1000 rfl rfl ?_
    rw [hwd]
    refine R_call hg.ok (sc (fewGL g.b (fewGL g.a (g.t.few q 200) (d - 1)) (d - 1)) (d - 1) ho.mc ho.lc (by omega)) rfl rfl rfl rfl rfl rfl ?_
    refine R_run hg.ok 1000 rfl rfl ?_
    exact R_next (k + 1, fewGL g.c (fewGL g.b (fewGL g.a (g.t.few q 200) (d - 1)) (d - 1)) (d - 1)) ⟨hk1, hm⟩ (by simp only; omega) ⟨.refl _, .refl _, .refl _, Ent.wrap (by simp only; omega) (by simp only; omega) (by simp only; omega), trivial⟩ rfl
  · rw [if_neg (of_decide_eq_false h2)] at hm
    refine R_ret hg 5 rfl rfl ?_
    rw [hm]; rfl

set_option maxRecDepth 100000 in
theorem refSomeP_ok (l : List Cs) (hok : ∀ c ∈ l, c.Ok) (hlen : l.length ≤ 140737488355328) : PCtr Tryz.prog 7 [prV l] (bV (somP l)) := by
  have hrl := Cs.rows_len l
  refine PCtr.of_R (pf := fun _ => .eff) tyOk mixed Tryz.func7 rfl (by kernel_rfl) (by kernel_rfl) (by simp [Tryz.ntmps7]) fun w S hg => ?_
  refine R_run hg.ok 1000 rfl rfl ?_
  refine R_cut2 (fun _ : Unit => ([(1, .lo 0 0), (3, iV (somGo l 3000))], [.box [.d (.sl (Cs.rows l))]])) (fun _ => True) rfl ?_ ?_
  · refine R_loop (fun x : Nat × Int => ([(1, .lo 0 0), (3, iV x.2), (4, iV x.1)], [.box [.d (.sl (Cs.rows l))]])) (fun x => x.1 ≤ l.length ∧ somGo l 3000 = somGo (l.drop x.1) x.2) (fun x => l.length - x.1) (0, 3000) ⟨Nat.zero_le _, rfl⟩ ⟨.refl _, .refl _, .refl _, trivial⟩ rfl ?_
    rintro ⟨k, q⟩ ⟨hk, hm⟩
    have hm : somGo l 3000 = somGo (l.drop k) q := hm
    have hk : k ≤ l.length := hk
    refine R_run hg.ok 1000 rfl rfl ?_
    refine R_if rfl rfl (fun h => ?_) (fun h => ?_) <;> refine R_run hg.ok 1000 rfl rfl ?_
    rotate_left
    · have hk1 : l.length ≤ k := ge_dec h (by rw [hrl])
      refine R_to () trivial ⟨.refl _, ?_, trivial⟩ rfl
      rw [hm, List.drop_eq_nil_of_le hk1]; exact .refl _
    have hk1 : k < l.length := lt_dec h (by rw [hrl])
    have e1 : l[k]? = some l[k] := List.getElem?_eq_getElem hk1
    have hmem := List.getElem_mem hk1
    rw [List.drop_eq_getElem_cons hk1, somGo] at hm
    generalize l[k] = c at e1 hm hmem
    have ho := hok c hmem
    refine R_if rfl rfl (fun h2 => ?_) (fun h2 => ?_) <;> refine R_run hg.ok 1000 rfl rfl ?_
    · rw [if_pos (of_decide_eq_true h2)] at hm
      refine R_index hg.ok rfl rfl rfl rfl rfl rfl (Int.natCast_nonneg _) (Cs.rows_get e1) rfl ?_
      refine R_run hg.ok 1000 rfl rfl ?_
      refine R_call hg.ok (few_ok c.head ho.head.1 q 200) rfl rfl rfl rfl rfl rfl ?_
      refine R_run hg.ok 1000 rfl rfl ?_
      refine R_index hg.ok rfl rfl rfl rfl rfl rfl (Int.natCast_nonneg _) (Cs.rows_get e1) rfl ?_
      refine R_run hg.ok 1000 rfl rfl ?_
      refine R_call hg.ok (refFewG_ok c.body (c.head.few q 200) 30 ho.body ho.len (by omega)) rfl rfl rfl rfl rfl rfl ?_
      refine R_run hg.ok 1000 rfl rfl ?_
      exact R_next (k + 1, fewGL c.body (c.head.few q 200) 30) ⟨hk1, hm⟩ (by simp only; omega) ⟨.refl _, .refl _, Ent.wrap (by simp only; omega) (by simp only; omega) (by simp only; omega), trivial⟩ rfl
    · rw [if_neg (of_decide_eq_false h2)] at hm
      refine R_to () trivial ⟨.refl _, ?_, trivial⟩ rfl
      rw [hm]; exact .refl _
  rintro _ _
  refine R_run hg.ok 1000 rfl rfl ?_
  unfold somP
  refine R_if rfl rfl (fun h2 => ?_) (fun h2 => ?_) <;> refine R_run hg.ok 1000 rfl rfl ?_
  · refine R_ret hg 5 rfl rfl ?_
    rw [show decide (somGo l 3000 ≥ 0) = true from h2, Bool.true_and]
    rw [show decide (((Cs.rows l).length : Int) ≤ 210) = decide (l.length ≤ 210) by rw [hrl]; exact decide_eq_decide.2 (by omega)]
    rfl
  · refine R_ret hg 5 rfl rfl ?_
    rw [show decide (somGo l 3000 ≥ 0) = false from h2]; rfl
end Go.Proofs.YthdpfglpdgmphaaGreat

namespace Go.Proofs.YthdpfglpdgmphaaGreat
open Go PSL Go.Proofs

set_option maxRecDepth 100000 in
theorem progParts_ok (c : Cs) (l : List Cs) (hc : c.Ok) (hok : ∀ c ∈ l, c.Ok) (hlen : l.length ≤ 140737488355328) : PCtr Tryz.prog 4 [c.av, prV l] (bV true) := by
  have hs := refSomeP_ok l hok hlen
  have hs1 := refSomeP_ok [c] (by simpa using hc) (by simp)
  refine PCtr.of_R (pf := fun _ => .still) tyOk mixed Tryz.func4 rfl (by kernel_rfl) (by kernel_rfl) (by simp [Tryz.ntmps4]) fun w S hg => ?_
  refine R_run hg.ok 1000 rfl rfl ?_
  cases hp : somP l with
  | false =>
    rw [hp] at hs
    refine R_call hg.ok (hs) rfl rfl rfl rfl rfl rfl ?_
    refine R_run hg.ok 1000 rfl rfl ?_
    refine R_if rfl rfl (fun _ => ?_) (fun h => absurd h (by simp)) <;> refine R_run hg.ok 1000 rfl rfl ?_
    refine R_call hg.ok (knows11_ok) rfl rfl rfl rfl rfl rfl ?_
    refine R_run hg.ok 1000 rfl rfl ?_
    refine R_ret hg 5 rfl rfl ?_
    rfl
  | true =>
    rw [hp] at hs
    obtain ⟨hsm, h2, _⟩ := somP_sm hp
    refine R_call hg.ok (hs) rfl rfl rfl rfl rfl rfl ?_
    refine R_run hg.ok 1000 rfl rfl ?_
    refine R_if rfl rfl (fun h => absurd h (by simp)) (fun _ => ?_) <;> refine R_run hg.ok 1000 rfl rfl ?_
    cases hq : somP [c] with
    | false =>
      rw [hq] at hs1
      refine R_call hg.ok (hs1) rfl rfl rfl rfl rfl rfl ?_
      refine R_run hg.ok 1000 rfl rfl ?_
      refine R_if rfl rfl (fun _ => ?_) (fun h => absurd h (by simp)) <;> refine R_run hg.ok 1000 rfl rfl ?_
      refine R_call hg.ok (knows11_ok) rfl rfl rfl rfl rfl rfl ?_
      refine R_run hg.ok 1000 rfl rfl ?_
      refine R_ret hg 5 rfl rfl ?_
      rfl
    | true =>
      rw [hq] at hs1
      have hcs := (somP_sm hq).1 c (by simp)
      have h1 := refClause_ok c hcs
      rw [← cls_same] at h1
      refine R_call hg.ok (hs1) rfl rfl rfl rfl rfl rfl ?_
      refine R_run hg.ok 1000 rfl rfl ?_
      refine R_if rfl rfl (fun h => absurd h (by simp)) (fun _ => ?_) <;> refine R_run hg.ok 1000 rfl rfl ?_
      refine R_call hg.ok (clause_ok11 c hcs) rfl rfl rfl rfl rfl rfl ?_
      refine R_run hg.ok 1000 rfl rfl ?_
      refine R_call hg.ok (h1) rfl rfl rfl rfl rfl rfl ?_
      refine R_run hg.ok 1000 rfl rfl ?_
      refine R_if rfl rfl (fun _ => ?_) (fun h => absurd h (by simp)) <;> refine R_run hg.ok 1000 rfl rfl ?_
      refine R_call hg.ok (theres_ok c.body l hcs.size (by omega)) rfl rfl rfl rfl rfl rfl ?_
      refine R_run hg.ok 1000 rfl rfl ?_
      refine R_call hg.ok (refThere_ok l (by omega) c.body hcs.size) rfl rfl rfl rfl rfl rfl ?_
      refine R_run hg.ok 1000 rfl rfl ?_
      refine R_if rfl rfl (fun _ => ?_) (fun h => absurd h (by simp)) <;> refine R_run hg.ok 1000 rfl rfl ?_
      refine R_call hg.ok (knows11_ok) rfl rfl rfl rfl rfl rfl ?_
      refine R_run hg.ok 1000 rfl rfl ?_
      refine R_ret hg 5 rfl rfl ?_
      rfl
end Go.Proofs.YthdpfglpdgmphaaGreat
