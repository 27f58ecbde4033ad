import Derived.Test.YthdpfglpdgmphaaGreatM4
import Derived.Test.YthdpfglpdgmphaaGreatPslB
namespace Go.Proofs.YthdpfglpdgmphaaGreat
open Go PSL Go.Proofs
def clRow (x : Clau) : List D := [.v (.int .i64 x.1.k), .v (.string x.1.s), .v (.int .i64 x.1.n), .sl (Tm.rows x.1.l), .sl (strRows x.2)]
def clRows (l : List Clau) : List (List D) := l.map clRow
theorem clRows_len (l : List Clau) : (clRows l).length = l.length := by simp [clRows]

def cl1 (S : Bs) (L : List Tk) (st : RSt) : Ob := .box [.d (.v (.string (Tx S))), .d (.sl (tkRows L)), iV st.at_, .d (.sl (strRows st.names)), iV 0, iV st.bad, iV st.e, .d (.v (.int .u32 (if st.lay then 1 else 0))), .d (.v (.int .i32 0)), .d (.v (.int .u32 0)), tblV st.lay]
def cl2 (S : Bs) (L : List Tk) (st : RSt) : Ob := .box [.d (.v (.string (Tx S))), .d (.sl (tkRows L)), iV st.at_, .ow 2 st.names.length, iV 0, iV st.bad, iV st.e, .d (.v (.int .u32 (if st.lay then 1 else 0))), .d (.v (.int .i32 0)), .d (.v (.int .u32 0)), tblV st.lay]
def clO (S : Bs) (L : List Tk) (st : RSt) (j : Nat) (out : List Clau) : List Ob := [cl2 S L st, .arr 5 j (clRows out), .arr 1 st.names.length (strRows st.names)]
theorem rdX_ren02 (S : Bs) (L : List Tk) (st : RSt) (n : Nat) : (rdX S L st 0).map (renOb (rn [0, 2] n)) = [cl2 S L st, .arr 1 st.names.length (strRows st.names)] := robj_ren _ _ _ _ _ _ _ _ _ _ _

theorem cl1_keep (S : Bs) (L : List Tk) (st : RSt) (o : List Ob) : [cl1 S L st].map (mapOb (sealT false 1 o 5)) = [cl1 S L st] := by
 unfold cl1; generalize st.lay = b; cases b <;> rfl

theorem cl1_ren (S : Bs) (L : List Tk) (st : RSt) (n : Nat) : [cl1 S L st].map (renOb (rn [0] n)) = [cl1 S L st] := by
 unfold cl1; generalize st.lay = b; cases b <;> rfl

set_option maxRecDepth 100000 in
theorem clPlace_ok (Y : YP) (S0 : Bs) (L : List Tk) (st : RSt) : SCtr Tryz.prog Y 76 [.lo 0 0] [cl1 S0 L st] (iV (plcR L S0.length st.at_)) [cl1 S0 L st] := by
 refine SCtr.of_R (pf := fun _ => .eff) tyOk mixed Tryz.func76 rfl (by kernel_rfl) (by kernel_rfl) (by simp [Tryz.ntmps76]) (by simp) fun w S φ hg => ?_
 have hk : ∀ o : List Ob, [cl1 S0 L st].map (mapOb (sealT false 1 o 5)) = [cl1 S0 L st] := fun o => cl1_keep _ _ _ _
 refine R_run hg.ok 1000 rfl rfl ?_
 refine R_if rfl rfl (fun h => ?_) (fun h => ?_) <;> refine R_run hg.ok 1000 rfl rfl ?_
 ·have hl : st.at_ < L.length := by have := of_decide_eq_true h; rw [tkRows_len] at this; omega
  have e1 : L[st.at_]? = some L[st.at_] := List.getElem?_eq_getElem hl
  rw [show plcR L S0.length st.at_ = L[st.at_].at_ by unfold plcR; rw [e1]]
  generalize L[st.at_] = t at e1
  refine R_index hg.ok rfl rfl rfl rfl rfl rfl (Int.natCast_nonneg _) (tkRows_get e1) rfl ?_
  refine R_run hg.ok 1000 rfl rfl ?_
  exact R_retS hg 1 5 (Nat.le_refl _) rfl rfl (hk _)
 ·have hl : L.length ≤ st.at_ := by have := of_decide_eq_false h; rw [tkRows_len] at this; omega
  rw [show plcR L S0.length st.at_ = (S0.length : Int) by unfold plcR; rw [List.getElem?_eq_none hl]]
  refine R_see 2 rfl (v' := iV S0.length) (by rw [show ((Tx S0).size : Int) = S0.length by rw [Tx_size]]; exact .refl _) ?_
  exact R_retS hg 1 5 (Nat.le_refl _) rfl rfl (hk _)

def clsE (S0 : Bs) (L : List Tk) : (Nat × RSt × List Clau × Nat) → Env × List Ob
 | (_, st, out, j) => ([(5, .d (.sl (tkRows L))), (8, .lo 0 0), (9, .ow 1 j)], [cl1 S0 L st, .arr 5 j (clRows out)])

set_option maxRecDepth 100000 in
theorem clauses_ok (S0 : Bs) (hS : S0.length ≤ 9000) (L : List Tk) (hL : L.length ≤ 9000) (hpl : ∀ t ∈ L, 0 ≤ t.at_ ∧ t.at_ < S0.length ∧ 0 ≤ t.n ∧ t.n ≤ 9223372036854775807) (htk : tokR S0 = .tup [.d (.sl (tkRows L)), iV 0, iV 0])
  (n : Nat) (hb : ∀ st t st', RInv L st → termR false S0 L n 0 1200 st = some (t, st') → st'.e = 0 → t.size < 1000000000 ∧ ∀ e ∈ t.els 1, e.2.s.size < 1000000000) (c : List Clau) (a e : Int) (h : clsR rightT L S0.length (termR false S0 L n) (L.length + 1) ⟨0, [], 0, 0, false⟩ [] = some (c, a, e)) :
  PCtr Tryz.prog 50 [txA S0] (.tup [.d (.sl (clRows c)), iV a, iV e]) := by
 have hT := rdTerm_ok ⟨[], fun _ => true⟩ S0 L hL hS hpl n
 have hG := term_inv false S0 L n
 have hTk := tokens_ok S0 hS
 rw [htk] at hTk
 refine PCtr.of_R (pf := fun _ => .eff) tyOk mixed Tryz.func50 rfl (by kernel_rfl) (by kernel_rfl) (by simp [Tryz.ntmps50]) fun w S hg => ?_
 refine R_run hg.ok 1000 rfl rfl ?_
 refine R_call hg.ok (hTk) rfl rfl rfl rfl rfl rfl ?_
 refine R_run hg.ok 1000 rfl rfl ?_
 refine R_if rfl rfl (fun h => absurd h (by simp)) (fun _ => ?_)
 first
 | (refine R_run hg.ok 1 rfl rfl ?_; refine R_own 9 5 rfl rfl ?_)
 | (refine R_run hg.ok 2 rfl rfl ?_; refine R_own 9 5 rfl rfl ?_)
 | (refine R_run hg.ok 3 rfl rfl ?_; refine R_own 9 5 rfl rfl ?_)
 | (refine R_run hg.ok 4 rfl rfl ?_; refine R_own 9 5 rfl rfl ?_)
 | (refine R_run hg.ok 5 rfl rfl ?_; refine R_own 9 5 rfl rfl ?_)
 | (refine R_run hg.ok 6 rfl rfl ?_; refine R_own 9 5 rfl rfl ?_)
 | (refine R_run hg.ok 7 rfl rfl ?_; refine R_own 9 5 rfl rfl ?_)
 | (refine R_run hg.ok 8 rfl rfl ?_; refine R_own 9 5 rfl rfl ?_)
 | (refine R_run hg.ok 9 rfl rfl ?_; refine R_own 9 5 rfl rfl ?_)
 refine R_obs [cl1 S0 L ⟨0, [], 0, 0, false⟩, .arr 5 0 []] ⟨⟨.refl _, .refl _, .refl _, Ent.nil, .refl _, .refl _, .refl _, .refl _, .refl _, .refl _, .refl _, trivial⟩, .refl _, trivial⟩ rfl ?_
 refine R_run hg.ok 1000 rfl rfl ?_
 refine R_loop (clsE S0 L) (fun x => clsR rightT L S0.length (termR false S0 L n) x.1 x.2.1 x.2.2.1 = some (c, a, e) ∧ x.2.1.e = 0 ∧ x.2.2.1.length + x.1 ≤ L.length + 1 ∧ x.2.1.at_ ≤ L.length) (fun x => x.1) (L.length + 1, ⟨0, [], 0, 0, false⟩, [], 0) ⟨h, rfl, by simp, Nat.zero_le _⟩ ⟨.refl _, .refl _, .refl _, trivial⟩ rfl ?_
 rintro ⟨f, st, out, j⟩ ⟨hm, he0, hlo, hat⟩
 simp only at hm he0 hlo hat
 cases f with
 | zero => cases hm
 | succ f =>
 simp only [clsR] at hm
 refine R_run hg.ok 1000 rfl rfl ?_
 by_cases hat2 : st.at_ < L.length
 ·rw [if_pos hat2] at hm
  refine R_if rfl rfl (fun _ => ?_) (fun h => absurd h (by simp [tkRows_len]; omega)) <;> refine R_run hg.ok 1000 rfl rfl ?_
  refine R_callSO hg.ok hg.gup ⟨rfl, rfl⟩ (fun _ _ _ _ h => by cases h) [0] [cl1 S0 L st, .arr 5 j (clRows out)] (clPlace_ok ⟨[], fun _ => true⟩ S0 L st) (fun _ => rfl) rfl rfl rfl rfl rfl (by rw [cl1_ren]; rfl) rfl (by rw [cl1_ren]; rfl) ?_
  first
  | (refine R_run hg.ok 1 rfl rfl ?_; refine R_ownB 0 3 1 rfl rfl rfl ?_)
  | (refine R_run hg.ok 2 rfl rfl ?_; refine R_ownB 0 3 1 rfl rfl rfl ?_)
  | (refine R_run hg.ok 3 rfl rfl ?_; refine R_ownB 0 3 1 rfl rfl rfl ?_)
  | (refine R_run hg.ok 4 rfl rfl ?_; refine R_ownB 0 3 1 rfl rfl rfl ?_)
  | (refine R_run hg.ok 5 rfl rfl ?_; refine R_ownB 0 3 1 rfl rfl rfl ?_)
  | (refine R_run hg.ok 6 rfl rfl ?_; refine R_ownB 0 3 1 rfl rfl rfl ?_)
  | (refine R_run hg.ok 7 rfl rfl ?_; refine R_ownB 0 3 1 rfl rfl rfl ?_)
  | (refine R_run hg.ok 8 rfl rfl ?_; refine R_ownB 0 3 1 rfl rfl rfl ?_)
  | (refine R_run hg.ok 9 rfl rfl ?_; refine R_ownB 0 3 1 rfl rfl rfl ?_)
  obtain ⟨⟨t, st1⟩, ht, hm⟩ := Option.bind_eq_some_iff.1 hm
  have hi0 : RInv L { st with names := [] } := ⟨Nat.zero_le _, hat⟩
  have hi1 := hG _ _ _ _ _ ht hi0
  have hc1 : SCtr Tryz.prog ⟨[], fun _ => true⟩ 77 [.lo 0 0, iV 1200] (rdX S0 L { st with names := [] } 0) t.av (rdX S0 L st1 0) := hT 0 1200 { st with names := [] } t st1 ht (by decide) hi0
  refine R_run hg.ok 1000 rfl rfl ?_
  refine R_callSO hg.ok hg.gup ⟨rfl, rfl⟩ (fun _ _ _ _ h => by cases h) [0, 2] (clO S0 L st1 j out) (hc1) (fun _ => rfl) rfl rfl rfl rfl rfl (by rw [rdX_ren02]; rfl) rfl (by rw [rdX_ren02]; rfl) ?_
  refine R_run hg.ok 1000 rfl rfl ?_
  refine R_callSO hg.ok hg.gup ⟨rfl, rfl⟩ (fun _ _ _ _ h => by cases h) [0, 2] (clO S0 L st1 j out ++ [bxT t]) (xPeek ⟨[], fun _ => true⟩ S0 L st1 0) (fun _ => rfl) rfl rfl rfl rfl rfl (by rw [rdX_ren02]; rfl) rfl (by rw [rdX_ren02]; rfl) ?_
  refine R_run hg.ok 1000 rfl rfl ?_
  simp only at hm
  obtain ⟨st2, hst2⟩ : ∃ st2, st2 = (if (peekR L st1).kind ≠ 5 then failR L S0.length st1 2 else st1) := ⟨_, rfl⟩
  rw [← hst2] at hm
  have h2 : st2.e = 0 → st1.e = 0 ∧ st1.at_ < L.length ∧ st2 = st1 := fun h => by
   by_cases hk5 : (peekR L st1).kind ≠ 5
   ·rw [if_pos hk5] at hst2; subst hst2
    unfold failR at h; split at h
    ·cases h
    ·rename_i hne; exact absurd h hne
   ·rw [if_neg hk5] at hst2
    have := peek_lt (L := L) (st := st1) (by rw [Decidable.not_not.1 hk5]; decide)
    exact ⟨this.1, this.2, hst2⟩
  refine R_cut1 (fun _ : Unit => ([(5, .d (.sl (tkRows L))), (8, .lo 0 0), (9, .ow 1 j), (10, iV (plcR L S0.length st.at_)), (11, .lo 3 0)], clO S0 L st2 j out ++ [bxT t])) (fun _ => True) rfl ?_ ?_
  ·by_cases hk5 : (peekR L st1).kind ≠ 5
   ·rw [if_pos hk5] at hst2
    refine R_if rfl rfl (fun _ => ?_) (fun h => absurd h (by simp [hk5])) <;> refine R_run hg.ok 1000 rfl rfl ?_
    refine R_callSO hg.ok hg.gup ⟨rfl, rfl⟩ (fun _ _ _ _ h => by cases h) [0, 2] (clO S0 L (failR L S0.length st1 2) j out ++ [bxT t]) (xFail ⟨[], fun _ => true⟩ S0 L st1 0 2) (fun _ => rfl) rfl rfl rfl rfl rfl (by rw [rdX_ren02]; rfl) rfl (by rw [rdX_ren02]; rfl) ?_
    refine R_run hg.ok 1000 rfl rfl ?_
    rw [← hst2]
    exact R_to () trivial ⟨.refl _, .refl _, .refl _, .refl _, .refl _, trivial⟩ rfl
   ·rw [if_neg hk5] at hst2
    refine R_if rfl rfl (fun h => absurd h (by simp [hk5])) (fun _ => ?_) <;> refine R_run hg.ok 1000 rfl rfl ?_
    rw [hst2]
    exact R_to () trivial ⟨.refl _, .refl _, .refl _, .refl _, .refl _, trivial⟩ rfl
  rintro _ _
  obtain ⟨st3, hst3⟩ : ∃ st3, st3 = (if st2.e = 0 ∧ rightT t = false then { st2 with e := 3, bad := plcR L S0.length st.at_ } else st2) := ⟨_, rfl⟩
  rw [← hst3] at hm
  refine R_run hg.ok 1000 rfl rfl ?_
  by_cases h0 : st2.e = 0
  ·obtain ⟨h3, h4, h5⟩ := h2 h0
   have hbt := hb _ _ _ hi0 ht h3
   have hR := right_ok t hbt.1 hbt.2
   refine R_if rfl rfl (fun _ => ?_) (fun h => absurd h (by simp [h0])) <;> refine R_run hg.ok 1000 rfl rfl ?_
   cases hr : rightT t with
   | false =>
    have hst3 : st3 = { st2 with e := 3, bad := plcR L S0.length st.at_ } := by rw [hst3, hr]; exact if_pos ⟨h0, rfl⟩
    subst hst3
    rw [hr] at hR
    rw [if_pos (show ((3 : Int) ≠ 0) by decide)] at hm
    cases hm
    refine R_call hg.ok (hR) rfl rfl rfl rfl rfl rfl ?_
    refine R_run hg.ok 1000 rfl rfl ?_
    refine R_if rfl rfl (fun _ => ?_) (fun h => absurd h (by simp)) <;> refine R_run hg.ok 1000 rfl rfl ?_
    refine R_if rfl rfl (fun _ => ?_) (fun h => absurd h (by simp)) <;> refine R_run hg.ok 1000 rfl rfl ?_
    refine R_ret hg 5 rfl rfl ?_
    rfl
   | true =>
    have hst3 : st3 = st2 := by rw [hst3, hr]; exact if_neg (by simp)
    rw [hst3] at hm
    rw [hr] at hR
    rw [if_neg (by simp [h0])] at hm
    refine R_call hg.ok (hR) rfl rfl rfl rfl rfl rfl ?_
    refine R_run hg.ok 1000 rfl rfl ?_
    refine R_if rfl rfl (fun h => absurd h (by simp)) (fun _ => ?_) <;> refine R_run hg.ok 1000 rfl rfl ?_
    refine R_if rfl rfl (fun h => absurd h (by simp [h0])) (fun _ => ?_)
    refine R_freezeO hg.gup 2 [(5, .d (.sl (tkRows L))), (8, .lo 0 0), (9, .ow 1 j), (11, .lo 3 0), (67, .ff)] [cl1 S0 L st2, .arr 5 j (clRows out), .dead, bxT t] rfl rfl ⟨.refl _, .refl _, .refl _, .refl _, .refl _, trivial⟩ ⟨⟨.refl _, .refl _, .refl _, Ent.frz 2 _ _, .refl _, .refl _, .refl _, .refl _, .refl _, .refl _, Ent.tblFrz 2 _ _ st2.lay, trivial⟩, rfl, by simp [ObIn], ⟨.refl _, .refl _, .refl _, .refl _, trivial⟩, trivial⟩ ?_
    have hnat : (nxR st2).at_ = st1.at_ + 1 := by rw [h5]; rfl
    first
    | (refine R_run hg.ok 1 rfl rfl ?_; refine R_obs [cl1 S0 L (nxR st2), .arr 5 j (clRows out), .dead, bxT t] ⟨⟨.refl _, .refl _, Ent.wrap rfl (by omega) (by omega), .refl _, .refl _, .refl _, .refl _, .refl _, .refl _, .refl _, .refl _, trivial⟩, .refl _, .refl _, .refl _, trivial⟩ rfl ?_)
    | (refine R_run hg.ok 2 rfl rfl ?_; refine R_obs [cl1 S0 L (nxR st2), .arr 5 j (clRows out), .dead, bxT t] ⟨⟨.refl _, .refl _, Ent.wrap rfl (by omega) (by omega), .refl _, .refl _, .refl _, .refl _, .refl _, .refl _, .refl _, .refl _, trivial⟩, .refl _, .refl _, .refl _, trivial⟩ rfl ?_)
    | (refine R_run hg.ok 3 rfl rfl ?_; refine R_obs [cl1 S0 L (nxR st2), .arr 5 j (clRows out), .dead, bxT t] ⟨⟨.refl _, .refl _, Ent.wrap rfl (by omega) (by omega), .refl _, .refl _, .refl _, .refl _, .refl _, .refl _, .refl _, .refl _, trivial⟩, .refl _, .refl _, .refl _, trivial⟩ rfl ?_)
    | (refine R_run hg.ok 4 rfl rfl ?_; refine R_obs [cl1 S0 L (nxR st2), .arr 5 j (clRows out), .dead, bxT t] ⟨⟨.refl _, .refl _, Ent.wrap rfl (by omega) (by omega), .refl _, .refl _, .refl _, .refl _, .refl _, .refl _, .refl _, .refl _, trivial⟩, .refl _, .refl _, .refl _, trivial⟩ rfl ?_)
    | (refine R_run hg.ok 5 rfl rfl ?_; refine R_obs [cl1 S0 L (nxR st2), .arr 5 j (clRows out), .dead, bxT t] ⟨⟨.refl _, .refl _, Ent.wrap rfl (by omega) (by omega), .refl _, .refl _, .refl _, .refl _, .refl _, .refl _, .refl _, .refl _, trivial⟩, .refl _, .refl _, .refl _, trivial⟩ rfl ?_)
    | (refine R_run hg.ok 6 rfl rfl ?_; refine R_obs [cl1 S0 L (nxR st2), .arr 5 j (clRows out), .dead, bxT t] ⟨⟨.refl _, .refl _, Ent.wrap rfl (by omega) (by omega), .refl _, .refl _, .refl _, .refl _, .refl _, .refl _, .refl _, .refl _, trivial⟩, .refl _, .refl _, .refl _, trivial⟩ rfl ?_)
    | (refine R_run hg.ok 7 rfl rfl ?_; refine R_obs [cl1 S0 L (nxR st2), .arr 5 j (clRows out), .dead, bxT t] ⟨⟨.refl _, .refl _, Ent.wrap rfl (by omega) (by omega), .refl _, .refl _, .refl _, .refl _, .refl _, .refl _, .refl _, .refl _, trivial⟩, .refl _, .refl _, .refl _, trivial⟩ rfl ?_)
    | (refine R_run hg.ok 8 rfl rfl ?_; refine R_obs [cl1 S0 L (nxR st2), .arr 5 j (clRows out), .dead, bxT t] ⟨⟨.refl _, .refl _, Ent.wrap rfl (by omega) (by omega), .refl _, .refl _, .refl _, .refl _, .refl _, .refl _, .refl _, .refl _, trivial⟩, .refl _, .refl _, .refl _, trivial⟩ rfl ?_)
    refine R_run hg.ok 1000 rfl rfl ?_
    refine R_appendO hg.ok (clRows (out ++ [(t, st2.names)])) rfl rfl rfl rfl rfl rfl rfl rfl rfl (by simp) (by simp [one1]) (by rw [clRows, clRows, List.map_append]; rfl) (by rw [clRows_len]; simp; omega) (by rw [clRows_len]; simp; omega) ?_
    refine R_run hg.ok 1000 rfl rfl ?_
    refine R_dropO 2 [cl1 S0 L (nxR st2), .arr 5 (j + 1) (clRows (out ++ [(t, st2.names)]))] (Nat.zero_le _) rfl ?_ ?_
    ·unfold cl1 nxR; simp only; generalize st2.lay = b; cases b <;> rfl
    exact R_next (f, nxR st2, out ++ [(t, st2.names)], j + 1) ⟨hm, h0, by simp; omega, by rw [h5]; exact h4⟩ (by simp only; omega) ⟨.refl _, .refl _, .refl _, trivial⟩ rfl
  ·have hst3 : st3 = st2 := by rw [hst3]; exact if_neg (fun h => h0 h.1)
   rw [hst3, if_pos h0] at hm
   cases hm
   refine R_if rfl rfl (fun h => absurd h (by simp [h0])) (fun _ => ?_) <;> refine R_run hg.ok 1000 rfl rfl ?_
   refine R_if rfl rfl (fun _ => ?_) (fun h => absurd h (by simp [h0])) <;> refine R_run hg.ok 1000 rfl rfl ?_
   refine R_ret hg 5 rfl rfl ?_
   rfl
 ·rw [if_neg hat2] at hm
  cases hm
  refine R_if rfl rfl (fun h => absurd h (by simp [tkRows_len]; omega)) (fun _ => ?_) <;> refine R_run hg.ok 1000 rfl rfl ?_
  exact R_ret hg 5 rfl (sealA_tup (mapO_cons (sealA_ow rfl) rfl)) rfl
end Go.Proofs.YthdpfglpdgmphaaGreat

namespace Go.Proofs.YthdpfglpdgmphaaGreat
open Go PSL Go.Proofs
end Go.Proofs.YthdpfglpdgmphaaGreat

namespace Go.Proofs.YthdpfglpdgmphaaGreat
open Go PSL Go.Proofs
end Go.Proofs.YthdpfglpdgmphaaGreat

namespace Go.Proofs.YthdpfglpdgmphaaGreat
open Go PSL Go.Proofs
end Go.Proofs.YthdpfglpdgmphaaGreat

namespace Go.Proofs.YthdpfglpdgmphaaGreat
open Go PSL Go.Proofs
end Go.Proofs.YthdpfglpdgmphaaGreat

namespace Go.Proofs.YthdpfglpdgmphaaGreat
open Go PSL Go.Proofs
end Go.Proofs.YthdpfglpdgmphaaGreat

namespace Go.Proofs.YthdpfglpdgmphaaGreat
open Go PSL Go.Proofs
end Go.Proofs.YthdpfglpdgmphaaGreat

namespace Go.Proofs.YthdpfglpdgmphaaGreat
open Go PSL Go.Proofs
end Go.Proofs.YthdpfglpdgmphaaGreat

namespace Go.Proofs.YthdpfglpdgmphaaGreat
open Go PSL Go.Proofs
end Go.Proofs.YthdpfglpdgmphaaGreat

namespace Go.Proofs.YthdpfglpdgmphaaGreat
open Go PSL Go.Proofs
end Go.Proofs.YthdpfglpdgmphaaGreat

namespace PSL
open Go
end PSL

namespace PSL
open Go
def st0 : RSt := ⟨0, [], 0, 0, false⟩
end PSL

namespace Go.Proofs.YthdpfglpdgmphaaGreat
open Go PSL Go.Proofs
end Go.Proofs.YthdpfglpdgmphaaGreat

namespace Go.Proofs.YthdpfglpdgmphaaGreat
open Go PSL Go.Proofs
end Go.Proofs.YthdpfglpdgmphaaGreat

namespace Go.Proofs.YthdpfglpdgmphaaGreat
open Go PSL Go.Proofs
end Go.Proofs.YthdpfglpdgmphaaGreat

namespace Go.Proofs.YthdpfglpdgmphaaGreat
open Go PSL Go.Proofs
end Go.Proofs.YthdpfglpdgmphaaGreat

namespace Go.Proofs.YthdpfglpdgmphaaGreat
open Go PSL Go.Proofs
end Go.Proofs.YthdpfglpdgmphaaGreat

namespace Go.Proofs.YthdpfglpdgmphaaGreat
open Go PSL Go.Proofs
theorem clRows_get {c : List Clau} {i : Nat} {x : Clau} (h : c[i]? = some x) : (clRows c)[i]? = some (clRow x) := by simp [clRows, h]
theorem rightT_fun : rightT = Tm.rightB := funext rightT_eq

set_option maxRecDepth 100000 in
theorem clausesBad_ok (S0 : Bs) (a e : Int) (he : e ≠ 0) (h : PCtr Tryz.prog 75 [txA S0] (.tup [.d (.sl (tkRows [])), iV a, iV e])) : PCtr Tryz.prog 50 [txA S0] (.tup [.d (.sl (clRows [])), iV a, iV e]) := by
 refine PCtr.of_R (pf := fun _ => .eff) tyOk mixed Tryz.func50 rfl (by kernel_rfl) (by kernel_rfl) (by simp [Tryz.ntmps50]) fun w S hg => ?_
 refine R_run hg.ok 1000 rfl rfl ?_
 refine R_call hg.ok (h) rfl rfl rfl rfl rfl rfl ?_
 refine R_run hg.ok 1000 rfl rfl ?_
 refine R_if rfl rfl (fun _ => ?_) (fun h => absurd h (by simp [he])) <;> refine R_run hg.ok 1000 rfl rfl ?_
 refine R_ret hg 5 rfl rfl ?_
 rfl

theorem clausesT_ok (S0 : Bs) (hS : S0.length ≤ 9000) {c : List Clau} {a e : Int} (h : clauR rightT false S0 = some (c, a, e)) : PCtr Tryz.prog 50 [txA S0] (.tup [.d (.sl (clRows c)), iV a, iV e]) := by
 unfold clauR at h
 by_cases he : (tokT S0).2.2 ≠ 0
 ·rw [if_pos he] at h
  have ht := tokens_ok S0 hS
  unfold tokR at ht
  rw [(tok_bad he).1] at ht
  cases h
  exact clausesBad_ok S0 _ _ he ht
 ·rw [if_neg he] at h
  obtain ⟨h8, ht, _⟩ := tok_ok (Decidable.not_not.1 he)
  have hpl := toks_plc ht
  have hgd := toks_good _ _ _ _ ht
  have hlen := toks_len _ S0 0 _ ht
  refine clauses_ok S0 hS _ (by omega) (fun t ht => ⟨(hpl t ht).1, (hpl t ht).2, (hgd t ht).lo, (hgd t ht).hi⟩) (tokR_ok (by omega) ht) _ (fun st t st' hi hx he => ?_) c a e h
  have := read_small (by omega) hS hgd hi hx he
  exact ⟨by have := this.1; omega, fun e he => by have := this.2 1 e he; omega⟩
end Go.Proofs.YthdpfglpdgmphaaGreat

namespace Go.Proofs.YthdpfglpdgmphaaGreat
open Go PSL Go.Proofs

set_option maxRecDepth 100000 in
theorem goals_ok (t : Tm) (ht : SmT t) (hc : noCh t = true) : PCtr Tryz.prog 52 [t.av] (.tup [.d (.sl (Gl.rows (goalsT t).1)), iV (goalsT t).2]) := by
 have hs := ht.1
 have hD := (gol_ok ⟨[], fun _ => true⟩ t.size).2 t (20, 0) 1 true ht hc (Nat.le_refl _) (by simp only; omega) (by simp only; omega) (by omega) (by omega)
 refine PCtr.of_R (pf := fun _ => .eff) tyOk mixed Tryz.func52 rfl (by kernel_rfl) (by kernel_rfl) (by simp [Tryz.ntmps52]) fun w S hg => ?_
 refine R_run hg.ok 1000 rfl rfl ?_
 refine R_call hg.ok (right_ok t (by omega) (ht.2 1)) rfl rfl rfl rfl rfl rfl ?_
 refine R_run hg.ok 1000 rfl rfl ?_
 unfold goalsT
 by_cases hr : rightT t = true
 rotate_left
 ·rw [if_neg hr]
  have hr : rightT t = false := by simpa using hr
  refine R_if rfl rfl (fun _ => ?_) (fun h => absurd h (by simp [hr])) <;> refine R_run hg.ok 1000 rfl rfl ?_
  refine R_ret hg 5 rfl rfl ?_
  rfl
 rw [if_pos hr]
 refine R_if rfl rfl (fun h => absurd h (by simp [hr])) (fun _ => ?_) <;> refine R_run hg.ok 1000 rfl rfl ?_
 generalize golF t.size t (20, 0) 1 true = A at *
 refine R_callSO hg.ok hg.gup ⟨rfl, rfl⟩ (fun _ _ _ _ h => by cases h) [1] ([boxR t] ++ mkO A.2) (hD) (fun _ => rfl) rfl rfl rfl rfl rfl rfl rfl rfl ?_
 refine R_run hg.ok 1000 rfl rfl ?_
 by_cases he : A.2.2 ≠ 0
 ·rw [if_pos he]
  refine R_if rfl rfl (fun _ => ?_) (fun h => absurd h (by simp [he])) <;> refine R_run hg.ok 1000 rfl rfl ?_
  refine R_ret hg 5 rfl rfl ?_
  rfl
 ·rw [if_neg he]
  refine R_if rfl rfl (fun h => absurd h (by simp at he; simp [he])) (fun _ => ?_) <;> refine R_run hg.ok 1000 rfl rfl ?_
  refine R_ret hg 5 rfl rfl ?_
  rfl
end Go.Proofs.YthdpfglpdgmphaaGreat

namespace Go.Proofs.YthdpfglpdgmphaaGreat
open Go PSL Go.Proofs
theorem csRows_snoc (l : List Cs) (c : Cs) : Cs.rows l ++ [c.row] = Cs.rows (l ++ [c]) := by simp [Cs.rows]
def csB (x : Cs) : Ob := .box [.d (.v (.int .i64 x.head.k)), .d (.v (.string x.head.s)), .d (.v (.int .i64 x.head.n)), .d (.sl (Tm.rows x.head.l)), .d (.sl (Gl.rows x.body)), .d (.v (.int .i64 x.vars))]
theorem smT_right {t : Tm} (h : t.rightB = true) : SmT t := ⟨by have := (Tm.rightB_iff.1 h).2.1; omega, fun x e he => fair_names (right_fair h) x e he⟩
def clB (x : Clau) : Ob := .box [.d (.v (.int .i64 x.1.k)), .d (.v (.string x.1.s)), .d (.v (.int .i64 x.1.n)), .d (.sl (Tm.rows x.1.l)), .d (.sl (strRows x.2))]
def loadE (x : Clau) : Int := if sgOf x.1 = sgR then (goalsT (argT x.1 1)).2 else 0

theorem loadE_own (x : Clau) : (loadOne x).2 = if ownB (loadOne x).1.head = true then loadE x else 5 := by
 unfold loadOne loadE
 split <;> rfl

theorem loadOne_sm {x : Clau} (hx : ClG x) (hc : noCh x.1 = true) : SmC (loadOne x).1 := by
 have hs := smT_right hx.right
 have h3 := (Tm.rightB_iff.1 hx.right).2.1
 unfold loadOne
 by_cases h : sgOf x.1 = sgR
 ·rw [if_pos h]
  have hl : x.1.l.length = 2 := sg_len (n := 2) h
  have h1 : SmT (argT x.1 1) := hs.arg (by omega)
  have h2 := size_arg (t := x.1) (i := 1) (by omega)
  obtain ⟨g1, g2, _⟩ := golF_ok (argT x.1 1).size (argT x.1 1) (20, 0) 1 true h1
  refine ⟨hs.arg (by omega), ?_, ?_⟩
  ·simp only [goalsT]
   split
   ·split
    ·simp only [allGL]
    ·exact g1
   ·simp only [allGL]
  ·simp only [goalsT]
   split
   ·split
    ·simp [Gl.sizeL]
    ·simp only; omega
   ·simp [Gl.sizeL]
 ·rw [if_neg h]
  exact ⟨hs, by simp only [allGL], by simp [Gl.sizeL]⟩

set_option maxHeartbeats 4000000 in
set_option maxRecDepth 100000 in
theorem load_ok (S0 : Bs) (hS : S0.length ≤ 9000) {c : List Clau} {a e : Int} (h : clauR rightT false S0 = some (c, a, e)) (hc : ∀ x ∈ c, noCh x.1 = true) : PCtr Tryz.prog 26 [txA S0] (if e ≠ 0 then .tup [prV [], iV a, iV e] else .tup [prV (loadL c 0 []).1, iV (loadL c 0 []).2.1, iV (loadL c 0 []).2.2]) := by
 obtain ⟨_, f2, _, _⟩ := clau_facts hS h
 have hct := clau_count h
 have hrl := clRows_len c
 refine PCtr.of_R (pf := fun _ => .eff) tyOk mixed Tryz.func26 rfl (by kernel_rfl) (by kernel_rfl) (by simp [Tryz.ntmps26]) fun w S hg => ?_
 refine R_run hg.ok 1000 rfl rfl ?_
 refine R_call hg.ok (clausesT_ok S0 hS h) rfl rfl rfl rfl rfl rfl ?_
 refine R_run hg.ok 1000 rfl rfl ?_
 by_cases he : e ≠ 0
 ·rw [if_pos he]
  refine R_if rfl rfl (fun _ => ?_) (fun h => absurd h (by simp [he])) <;> refine R_run hg.ok 1000 rfl rfl ?_
  refine R_ret hg 5 rfl rfl ?_
  rfl
 rw [if_neg he]
 have he : e = 0 := Decidable.not_not.1 he
 subst he
 obtain ⟨_, hcn⟩ := f2 rfl
 refine R_if rfl rfl (fun h => absurd h (by simp)) (fun _ => ?_) <;> refine R_run hg.ok 1000 rfl rfl ?_
 refine R_ownB 1 0 6 rfl rfl rfl ?_
 refine R_loop (fun x : Nat × Nat × List Cs => ([(2, .lo 0 0), (8, .lo 1 0), (26, .d (.sl (clRows c))), (27, iV c.length), (28, iV x.1)], [.box [.d (.v (.slice none 0 0))], .box [.ow 2 x.2.1], .arr 6 x.2.1 (Cs.rows x.2.2)])) (fun x => x.1 ≤ c.length ∧ loadL c 0 [] = loadL (c.drop x.1) x.1 x.2.2 ∧ x.2.2.length ≤ x.1 ∧ ∀ y ∈ x.2.2, SmC y) (fun x => c.length - x.1) (0, 0, []) ⟨Nat.zero_le _, rfl, Nat.le_refl _, by simp⟩ ⟨.refl _, .refl _, .refl _, by rw [hrl]; exact .refl _, .refl _, trivial⟩ rfl ?_
 rintro ⟨k, s, out⟩ ⟨hk, hm, hol, hsm⟩
 have hm : loadL c 0 [] = loadL (c.drop k) k out := hm
 have hk : k ≤ c.length := hk
 have hol : out.length ≤ k := hol
 have hro := Cs.rows_len out
 refine R_run hg.ok 1000 rfl rfl ?_
 refine R_if rfl rfl (fun h => ?_) (fun h => ?_)
 ·refine R_run hg.ok 1000 rfl rfl ?_
  have hk1 : k < c.length := lt_dec h rfl
  have e1 : c[k]? = some c[k] := List.getElem?_eq_getElem hk1
  have hmem := List.getElem_mem hk1
  rw [List.drop_eq_getElem_cons hk1] at hm
  generalize c[k] = x at e1 hm hmem
  have hx := hcn x hmem
  have hnc := hc x hmem
  have hs := smT_right hx.right
  have hsm1 := loadOne_sm hx hnc
  simp only [loadL] at hm
  refine R_index hg.ok rfl rfl rfl rfl rfl rfl (Int.natCast_nonneg _) (clRows_get e1) rfl ?_
  refine R_run hg.ok 1000 rfl rfl ?_
  refine R_call hg.ok (signOf_ok x.1) rfl rfl rfl rfl rfl rfl ?_
  refine R_run hg.ok 1000 rfl rfl ?_
  refine R_eqK hg.ok (sgOf x.1) sgR signCmp rfl rfl rfl rfl ?_
  refine R_run hg.ok 1000 rfl rfl ?_
  refine R_cut1 (fun _ : Unit => ([(2, .lo 0 0), (8, .lo 1 0), (9, iV k), (11, .lo 4 0), (12, iV (loadE x)), (26, .d (.sl (clRows c))), (27, iV c.length), (28, iV k)], [.box [.d (.v (.slice none 0 0))], .box [.ow 2 s], .arr 6 s (Cs.rows out), clB x, csB (loadOne x).1])) (fun _ => True) rfl ?_ ?_
  ·by_cases hq : sgOf x.1 = sgR
   ·have hl : x.1.l.length = 2 := sg_len (n := 2) hq
    have hl0 : 0 < x.1.l.length := by omega
    have hl1 : 1 < x.1.l.length := by omega
    rw [show loadE x = (goalsT (argT x.1 1)).2 by unfold loadE; rw [if_pos hq], show (loadOne x).1 = ⟨argT x.1 0, (goalsT (argT x.1 1)).1, x.2.length⟩ by unfold loadOne; rw [if_pos hq]]
    refine R_if rfl rfl (fun _ => ?_) (fun h => absurd h (by simp [hq])) <;> refine R_run hg.ok 1000 rfl rfl ?_
    refine R_index hg.ok rfl rfl rfl rfl rfl rfl (by decide) (Tm.rows_get (i := 0) (argT_get hl0)) rfl ?_
    refine R_run hg.ok 1000 rfl rfl ?_
    refine R_index hg.ok rfl rfl rfl rfl rfl rfl (by decide) (Tm.rows_get (i := 1) (argT_get hl1)) rfl ?_
    refine R_run hg.ok 1000 rfl rfl ?_
    refine R_call hg.ok (goals_ok (argT x.1 1) (hs.arg hl1) (noCh_arg hnc hl1)) rfl rfl rfl rfl rfl rfl ?_
    refine R_run hg.ok 1000 rfl rfl ?_
    rw [strRows_len]
    exact R_to () trivial ⟨.refl _, .refl _, .refl _, .refl _, .refl _, .refl _, .refl _, .refl _, trivial⟩ rfl
   ·rw [show loadE x = 0 by unfold loadE; rw [if_neg hq], show (loadOne x).1 = ⟨x.1, [], x.2.length⟩ by unfold loadOne; rw [if_neg hq]]
    refine R_if rfl rfl (fun h => absurd h (by simp [hq])) (fun _ => ?_) <;> refine R_run hg.ok 1000 rfl rfl ?_
    rw [strRows_len]
    refine R_obs [.box [.d (.v (.slice none 0 0))], .box [.ow 2 s], .arr 6 s (Cs.rows out), clB x, csB ⟨x.1, [], x.2.length⟩] (show ObsIn [.box [.d (.v (.slice none 0 0))], .box [.ow 2 s], .arr 6 s (Cs.rows out), clB x, .box [.d (.v (.int .i64 x.1.k)), .d (.v (.string x.1.s)), .d (.v (.int .i64 x.1.n)), .d (.sl (Tm.rows x.1.l)), .d (.v (.slice none 0 0)), .d (.v (.int .i64 x.2.length))]] _ from ⟨⟨.refl _, trivial⟩, ⟨.refl _, trivial⟩, rfl, ⟨.refl _, .refl _, .refl _, .refl _, .refl _, trivial⟩, ⟨.refl _, .refl _, .refl _, .refl _, Ent.nrm _, .refl _, trivial⟩, trivial⟩) rfl ?_
    exact R_to () trivial ⟨.refl _, .refl _, .refl _, .refl _, .refl _, .refl _, .refl _, .refl _, trivial⟩ rfl
  rintro _ _
  refine R_run hg.ok 1000 rfl rfl ?_
  have hown := loadE_own x
  cases ho : ownB (loadOne x).1.head with
  | false =>
   have hc1 := own_ok11 (loadOne x).1.head
   rw [ho] at hc1 hown
   rw [if_neg (by simp)] at hown
   rw [hown, if_pos (by decide)] at hm
   refine R_call hg.ok (hc1) rfl rfl rfl rfl rfl rfl ?_
   refine R_run hg.ok 1000 rfl rfl ?_
   refine R_if rfl rfl (fun _ => ?_) (fun h => absurd h (by simp)) <;> refine R_run hg.ok 1000 rfl rfl ?_
   refine R_if rfl rfl (fun _ => ?_) (fun h => absurd h (by simp)) <;> refine R_run hg.ok 1000 rfl rfl ?_
   refine R_ret hg 5 rfl rfl ?_
   rw [hm]; rfl
  | true =>
   have hc1 := own_ok11 (loadOne x).1.head
   rw [ho] at hc1 hown
   rw [if_pos rfl] at hown
   rw [hown] at hm
   refine R_call hg.ok (hc1) rfl rfl rfl rfl rfl rfl ?_
   refine R_run hg.ok 1000 rfl rfl ?_
   refine R_if rfl rfl (fun h => absurd h (by simp)) (fun _ => ?_) <;> refine R_run hg.ok 1000 rfl rfl ?_
   by_cases hle : loadE x ≠ 0
   ·rw [if_pos hle] at hm
    refine R_if rfl rfl (fun _ => ?_) (fun h => absurd h (by simp [hle])) <;> refine R_run hg.ok 1000 rfl rfl ?_
    refine R_ret hg 5 rfl rfl ?_
    rw [hm]; rfl
   ·rw [if_neg hle] at hm
    refine R_if rfl rfl (fun h => absurd h (by simp at hle; simp [hle])) (fun _ => ?_) <;> refine R_run hg.ok 1000 rfl rfl ?_
    refine R_appendO hg.ok (Cs.rows (out ++ [(loadOne x).1])) rfl rfl rfl rfl rfl rfl rfl rfl rfl (by simp) (by simp [one1]) (csRows_snoc _ _) (by rw [hro]; simp; omega) (by rw [hro]; simp; omega) ?_
    refine R_run hg.ok 1000 rfl rfl ?_
    refine R_dropO 3 [.box [.d (.v (.slice none 0 0))], .box [.ow 2 (Nat.succ s)], .arr 6 (Nat.succ s) (Cs.rows (out ++ [(loadOne x).1]))] (Nat.zero_le _) rfl rfl ?_
    exact R_next (k + 1, Nat.succ s, out ++ [(loadOne x).1]) ⟨hk1, hm, by simp only [List.length_append, List.length_singleton]; omega, fun y hy => (List.mem_append.1 hy).elim (hsm y) (fun h => by rw [List.mem_singleton.1 h]; exact hsm1)⟩ (by simp only; omega) ⟨.refl _, .refl _, .refl _, .refl _, Ent.wrap (by simp only; omega) (by simp only; omega) (by simp only; omega), trivial⟩ rfl
 ·have hk1 : c.length ≤ k := ge_dec h rfl
  rw [List.drop_eq_nil_of_le hk1] at hm
  simp only [loadL] at hm
  refine R_freezeO hg.gup 2 [(2, .lo 0 0), (8, .lo 1 0), (29, .ff)] [.box [.d (.v (.slice none 0 0))], .box [.d (.sl (Cs.rows out))], .dead] rfl rfl ⟨.refl _, .refl _, .refl _, trivial⟩ ⟨⟨.refl _, trivial⟩, ⟨Ent.frz 2 s _, trivial⟩, trivial, trivial⟩ ?_
  refine R_run hg.ok 1000 rfl rfl ?_
  refine R_call hg.ok (check_ok out hsm) rfl rfl rfl rfl rfl rfl ?_
  refine R_run hg.ok 1000 rfl rfl ?_
  by_cases hce : (checkR out).2 ≠ 0
  ·rw [if_pos hce] at hm
   refine R_if rfl rfl (fun _ => ?_) (fun h => absurd h (by simp [hce])) <;> refine R_run hg.ok 1000 rfl rfl ?_
   refine R_ret hg 5 rfl rfl ?_
   rw [hm]; rfl
  ·rw [if_neg hce] at hm
   refine R_if rfl rfl (fun h => absurd h (by simp at hce; simp [hce])) (fun _ => ?_) <;> refine R_run hg.ok 1000 rfl rfl ?_
   refine R_ret hg 5 rfl rfl ?_
   rw [hm]; rfl
end Go.Proofs.YthdpfglpdgmphaaGreat

namespace Go.Proofs.YthdpfglpdgmphaaGreat
open Go PSL Go.Proofs
end Go.Proofs.YthdpfglpdgmphaaGreat

namespace Go.Proofs.YthdpfglpdgmphaaGreat
open Go PSL Go.Proofs
end Go.Proofs.YthdpfglpdgmphaaGreat

namespace PSL
open Go

mutual
def calls1 : Gl → List Tm
 | .mk k t a b c => (if k = 1 then [t] else []) ++ callsT a ++ callsT b ++ callsT c
def callsT : List Gl → List Tm
 | [] => []
 | g :: r => calls1 g ++ callsT r
end
theorem calls1_eq (g : Gl) : calls1 g = (if g.k = 1 then [g.t] else []) ++ callsT g.a ++ callsT g.b ++ callsT g.c := by cases g; rw [calls1]; rfl

theorem callsT_len (l : List Gl) : (callsT l).length ≤ Gl.sizeL l := by
 refine Gl.indL (p := fun l => (callsT l).length ≤ Gl.sizeL l) (fun l => ?_) l
 intro hsub
 induction l with
 | nil => simp [callsT]
 | cons g r ih =>
  obtain ⟨h1, h2, h3⟩ := hsub g (by simp)
  have ih := ih fun x hx => hsub x (by simp [hx])
  simp only [callsT, Gl.sizeL, List.length_append, calls1_eq]
  rw [Gl.size_eq]
  have := Gl.tmPos g.t
  split <;> simp only [List.length_singleton, List.length_nil] <;> omega
def callsS (l : List Gl) : List Sg := (callsT l).map sgOf

theorem there_calls (has : Sg → Bool) (l : List Gl) : thereL has l = true ↔ ∀ p ∈ callsS l, has p = true := by
 refine Gl.indL (p := fun l => thereL has l = true ↔ ∀ p ∈ callsS l, has p = true) (fun l => ?_) l
 intro hsub
 induction l with
 | nil => simp [thereL, callsS, callsT]
 | cons g r ih =>
  obtain ⟨h1, h2, h3⟩ := hsub g (by simp)
  have ih := ih fun x hx => hsub x (by simp [hx])
  unfold callsS at *
  simp only [thereL, callsT, there1_eq, calls1_eq, Bool.and_eq_true, h1, h2, h3, ih, List.map_append, List.mem_append]
  have key : (!((g.k == 1) && !has (sgOf g.t))) = true ↔ ∀ p ∈ List.map sgOf (if g.k = 1 then [g.t] else []), has p = true := by
   by_cases hk : g.k = 1
   ·simp [hk]
   ·simp [hk]
  rw [key]
  constructor
  ·rintro ⟨⟨⟨⟨a, b⟩, c⟩, d⟩, e⟩ p ((((hp | hp) | hp) | hp) | hp)
   ·exact a p hp
   ·exact b p hp
   ·exact c p hp
   ·exact d p hp
   ·exact e p hp
  ·intro h
   exact ⟨⟨⟨⟨fun p hp => h p (.inl (.inl (.inl (.inl hp)))), fun p hp => h p (.inl (.inl (.inl (.inr hp))))⟩, fun p hp => h p (.inl (.inl (.inr hp)))⟩, fun p hp => h p (.inl (.inr hp))⟩, fun p hp => h p (.inr hp)⟩

inductive Rch (l : List Cs) (roots : List Sg) : Sg → Prop
 | root {p : Sg} : p ∈ roots → Rch l roots p
 | step {c : Cs} {p : Sg} : c ∈ l → Rch l roots (sgOf c.head) → p ∈ callsS c.body → Rch l roots p
theorem hasS_iff {ks : List Sg} {p : Sg} : hasS ks p = true ↔ p ∈ ks := by unfold hasS; simp

theorem mem_addS {ks : List Sg} {p q : Sg} : q ∈ addS ks p ↔ q ∈ ks ∨ q = p := by
 have h := addS_mem ks p q
 rw [← hasS_iff, h, Bool.or_eq_true, hasS_iff, decide_eq_true_eq]
 exact or_congr_right eq_comm

def pushes (l : List Cs) (r : Sg) : List Sg := match l with
 | [] => []
 | c :: l => (if sgOf c.head = r then callsS c.body else []) ++ pushes l r

theorem mem_pushes {l : List Cs} {r p : Sg} : p ∈ pushes l r ↔ ∃ c ∈ l, sgOf c.head = r ∧ p ∈ callsS c.body := by
 induction l with
 | nil => simp [pushes]
 | cons c l ih =>
  simp only [pushes, List.mem_append, ih, List.mem_cons]
  constructor
  ·rintro (h | ⟨d, h1, h2⟩)
   ·split at h
    ·rename_i e; exact ⟨c, .inl rfl, e, h⟩
    ·cases h
   ·exact ⟨d, .inr h1, h2⟩
  ·rintro ⟨d, rfl | h1, h2, h3⟩
   ·left; rw [if_pos h2]; exact h3
   ·exact .inr ⟨d, h1, h2, h3⟩

def cost (met : List Sg) : List Cs → Nat
 | [] => 0
 | c :: l => (if hasS met (sgOf c.head) then 0 else (callsS c.body).length) + cost met l

theorem cost_add (met : List Sg) (r : Sg) (h : hasS met r = false) : ∀ (l : List Cs), cost (addS met r) l + (pushes l r).length = cost met l
 | [] => rfl
 | c :: l => by
  have ih := cost_add met r h l
  simp only [cost, pushes, List.length_append]
  by_cases e : sgOf c.head = r
  ·rw [if_pos e]
   have h1 : hasS (addS met r) (sgOf c.head) = true := by rw [hasS_iff, mem_addS]; exact .inr e
   have h2 : hasS met (sgOf c.head) = false := by rw [e]; exact h
   rw [if_pos h1, if_neg (by rw [h2]; simp)]
   omega
  ·rw [if_neg e]
   have h1 : hasS (addS met r) (sgOf c.head) = hasS met (sgOf c.head) := by
    rw [addS_mem, decide_eq_false (fun h => e h.symm), Bool.or_false]
   rw [h1]
   simp only [List.length_nil]
   omega

def reachG (l : List Cs) : Nat → List Sg → List Sg → List Sg
 | 0, _, met => met
 | n + 1, todo, met => match todo.getLast? with
  | none => met
  | some r => if hasS met r then reachG l n todo.dropLast met else reachG l n (todo.dropLast ++ pushes l r) (addS met r)

theorem reachG_fuel (l : List Cs) : ∀ (n m : Nat) (todo met : List Sg), todo.length + cost met l < n → todo.length + cost met l < m → reachG l n todo met = reachG l m todo met
 | 0, _, _, _, h, _ => by omega
 | n + 1, 0, _, _, _, h => by omega
 | n + 1, m + 1, todo, met, h1, h2 => by
  simp only [reachG]
  cases ht : todo.getLast? with
  | none => rfl
  | some r =>
   have hne : todo ≠ [] := fun e => by subst e; cases ht
   have hl : todo.dropLast.length = todo.length - 1 := List.length_dropLast
   have hp : 0 < todo.length := List.length_pos_iff.2 hne
   simp only
   split
   ·exact reachG_fuel l n m _ _ (by omega) (by omega)
   ·rename_i hm
    have := cost_add met r (by simpa using hm) l
    exact reachG_fuel l n m _ _ (by rw [List.length_append]; omega) (by rw [List.length_append]; omega)

theorem reachG_ok (l : List Cs) (roots : List Sg) : ∀ (n : Nat) (todo met : List Sg), todo.length + cost met l < n → (∀ p ∈ todo, Rch l roots p) → (∀ p ∈ met, Rch l roots p) → (∀ p ∈ roots, p ∈ met ∨ p ∈ todo) → (∀ c ∈ l, sgOf c.head ∈ met → ∀ p ∈ callsS c.body, p ∈ met ∨ p ∈ todo) → ∀ p, p ∈ reachG l n todo met ↔ Rch l roots p
 | 0, _, _, h, _, _, _, _ => by omega
 | n + 1, todo, met, h, ht, hm, hr, hc => by
  simp only [reachG]
  cases hg : todo.getLast? with
  | none =>
   have hnil : todo = [] := by simpa using hg
   subst hnil
   intro p
   simp only
   refine ⟨hm p, fun h => ?_⟩
   induction h with
   | root h => exact (hr _ h).resolve_right (by simp)
   | step h1 _ h3 ih => exact (hc _ h1 ih _ h3).resolve_right (by simp)
  | some r =>
   have hne : todo ≠ [] := fun e => by subst e; cases hg
   have hlen : 0 < todo.length := List.length_pos_iff.2 hne
   have hdl : todo.dropLast.length = todo.length - 1 := List.length_dropLast
   have hsplit : todo = todo.dropLast ++ [r] := by
    have h1 := List.dropLast_concat_getLast hne
    rw [List.getLast?_eq_some_getLast hne] at hg
    rw [Option.some.inj hg] at h1
    exact h1.symm
   have hmem : ∀ p, p ∈ todo ↔ p ∈ todo.dropLast ∨ p = r := fun p => by
    rw [hsplit]; simp
   simp only
   split
   ·rename_i hmr
    have hmr := hasS_iff.1 hmr
    refine reachG_ok l roots n todo.dropLast met (by omega) (fun p hp => ht p ((hmem p).2 (.inl hp))) hm (fun p hp => ?_) (fun c hcl hh p hp => ?_)
    ·rcases hr p hp with h | h
     ·exact .inl h
     ·rcases (hmem p).1 h with h | rfl
      ·exact .inr h
      ·exact .inl hmr
    ·rcases hc c hcl hh p hp with h | h
     ·exact .inl h
     ·rcases (hmem p).1 h with h | rfl
      ·exact .inr h
      ·exact .inl hmr
   ·rename_i hmr
    have hmr : hasS met r = false := by simpa using hmr
    have hco := cost_add met r hmr l
    have hrr := ht r ((hmem r).2 (.inr rfl))
    refine reachG_ok l roots n _ _ (by rw [List.length_append]; omega) (fun p hp => ?_) (fun p hp => ?_) (fun p hp => ?_) (fun c hcl hh p hp => ?_)
    ·rcases List.mem_append.1 hp with hp | hp
     ·exact ht p ((hmem p).2 (.inl hp))
     ·obtain ⟨c, h1, h2, h3⟩ := mem_pushes.1 hp
      exact .step h1 (by rw [h2]; exact hrr) h3
    ·rcases mem_addS.1 hp with hp | rfl
     ·exact hm p hp
     ·exact hrr
    ·rcases hr p hp with h | h
     ·exact .inl (mem_addS.2 (.inl h))
     ·rcases (hmem p).1 h with h | rfl
      ·exact .inr (List.mem_append.2 (.inl h))
      ·exact .inl (mem_addS.2 (.inr rfl))
    ·rcases mem_addS.1 hh with hh | hh
     ·rcases hc c hcl hh p hp with h | h
      ·exact .inl (mem_addS.2 (.inl h))
      ·rcases (hmem p).1 h with h | rfl
       ·exact .inr (List.mem_append.2 (.inl h))
       ·exact .inl (mem_addS.2 (.inr rfl))
     ·exact .inr (List.mem_append.2 (.inr (mem_pushes.2 ⟨c, hcl, hh, hp⟩)))
def reachL (l : List Cs) (roots : List Sg) : List Sg := reachG l (roots.length + cost [] l + 1) roots []

theorem reachL_iff (l : List Cs) (roots : List Sg) (p : Sg) : p ∈ reachL l roots ↔ Rch l roots p :=
 reachG_ok l roots _ roots [] (by omega) (fun p hp => .root hp) (by simp) (fun p hp => .inr hp) (by simp) p

def goCalls (out : List Sg) (again : Bool) : List Sg → List Sg × Bool
 | [] => (out, again)
 | t :: r => if hasS out t then goCalls out again r else goCalls (out ++ [t]) true r

def passR (l : List Cs) (out : List Sg) (again : Bool) : List Sg × Bool := match l with
 | [] => (out, again)
 | c :: l => if hasS out (sgOf c.head) then passR l (goCalls out again (callsS c.body)).1 (goCalls out again (callsS c.body)).2 else passR l out again

def iterR (l : List Cs) : Nat → List Sg → List Sg
 | 0, out => out
 | n + 1, out => if (passR l out false).2 then iterR l n (passR l out false).1 else (passR l out false).1

def left1 (out : List Sg) : List Sg → Nat
 | [] => 0
 | t :: r => (if hasS out t then 0 else 1) + left1 out r

def leftR (out : List Sg) : List Cs → Nat
 | [] => 0
 | c :: l => left1 out (callsS c.body) + leftR out l
theorem hasS_snoc (out : List Sg) (t p : Sg) : hasS (out ++ [t]) p = (hasS out p || decide (t = p)) := by unfold hasS; simp

theorem left1_snoc (out : List Sg) (t : Sg) : ∀ l : List Sg, left1 (out ++ [t]) l ≤ left1 out l
 | [] => Nat.le_refl _
 | x :: r => by
  have := left1_snoc out t r
  simp only [left1, hasS_snoc]
  cases hasS out x <;> simp <;> (try split) <;> omega

theorem leftR_snoc (out : List Sg) (t : Sg) : ∀ l : List Cs, leftR (out ++ [t]) l ≤ leftR out l
 | [] => Nat.le_refl _
 | c :: l => by
  have := leftR_snoc out t l
  have := left1_snoc out t (callsS c.body)
  simp only [leftR]; omega

theorem left1_mem (out : List Sg) (t : Sg) (h : hasS out t = false) : ∀ l : List Sg, t ∈ l → left1 (out ++ [t]) l < left1 out l
 | x :: r, hm => by
  have := left1_snoc out t r
  simp only [left1, hasS_snoc]
  rcases List.mem_cons.1 hm with rfl | hm
  ·rw [h]; simp; omega
  ·have := left1_mem out t h r hm
   cases hasS out x <;> simp <;> (try split) <;> omega

theorem leftR_mem (out : List Sg) (t : Sg) (h : hasS out t = false) : ∀ l : List Cs, (∃ c ∈ l, t ∈ callsS c.body) → leftR (out ++ [t]) l < leftR out l
 | c :: l, hm => by
  have h1 := leftR_snoc out t l
  have h2 := left1_snoc out t (callsS c.body)
  simp only [leftR]
  obtain ⟨d, hd, ht⟩ := hm
  rcases List.mem_cons.1 hd with rfl | hd
  ·have := left1_mem out t h _ ht; omega
  ·have := leftR_mem out t h l ⟨d, hd, ht⟩; omega

theorem goCalls_ok (L : List Cs) : ∀ (ts out : List Sg) (again : Bool), (∀ t ∈ ts, ∃ c ∈ L, t ∈ callsS c.body) → ∃ ext, (goCalls out again ts).1 = out ++ ext ∧ (∀ p ∈ ext, p ∈ ts) ∧ (∀ t ∈ ts, t ∈ (goCalls out again ts).1) ∧ leftR (goCalls out again ts).1 L + ext.length ≤ leftR out L ∧ (goCalls out again ts).2 = (again || decide (ext ≠ []))
 | [], out, again, _ => ⟨[], by simp [goCalls], by simp, by simp, by simp [goCalls], by simp [goCalls]⟩
 | t :: r, out, again, h => by
  simp only [goCalls]
  split
  ·rename_i ht
   obtain ⟨ext, h1, h2, h3, h4, h5⟩ := goCalls_ok L r out again fun x hx => h x (by simp [hx])
   refine ⟨ext, h1, fun p hp => List.mem_cons.2 (.inr (h2 p hp)), fun x hx => ?_, h4, h5⟩
   rcases List.mem_cons.1 hx with rfl | hx
   ·rw [h1]; exact List.mem_append.2 (.inl (hasS_iff.1 ht))
   ·exact h3 x hx
  ·rename_i ht
   have ht : hasS out t = false := by simpa using ht
   obtain ⟨ext, h1, h2, h3, h4, h5⟩ := goCalls_ok L r (out ++ [t]) true fun x hx => h x (by simp [hx])
   have h6 := leftR_mem out t ht L (h t (by simp))
   refine ⟨t :: ext, by rw [h1]; simp, fun p hp => ?_, fun x hx => ?_, by simp only [List.length_cons]; omega, by rw [h5]; simp⟩
   ·rcases List.mem_cons.1 hp with rfl | hp
    ·simp
    ·exact List.mem_cons.2 (.inr (h2 p hp))
   ·rcases List.mem_cons.1 hx with rfl | hx
    ·rw [h1]; simp
    ·exact h3 x hx

theorem goCalls_rch (L : List Cs) (roots : List Sg) : ∀ (ts out : List Sg) (again : Bool), (∀ p ∈ out, Rch L roots p) → (∀ p ∈ ts, Rch L roots p) → ∀ p ∈ (goCalls out again ts).1, Rch L roots p
 | [], _, _, h, _ => h
 | t :: r, out, again, h, ht => by
  simp only [goCalls]
  split
  ·exact goCalls_rch L roots r out again h fun p hp => ht p (by simp [hp])
  ·refine goCalls_rch L roots r _ true (fun p hp => ?_) fun p hp => ht p (by simp [hp])
   rcases List.mem_append.1 hp with hp | hp
   ·exact h p hp
   ·rw [List.mem_singleton] at hp; subst hp; exact ht _ (by simp)

theorem passR_rch (L : List Cs) (roots : List Sg) : ∀ (l : List Cs) (out : List Sg) (again : Bool), (∀ c ∈ l, c ∈ L) → (∀ p ∈ out, Rch L roots p) → ∀ p ∈ (passR l out again).1, Rch L roots p
 | [], _, _, _, h => by simpa [passR] using h
 | c :: l, out, again, hl, h => by
  simp only [passR]
  split
  ·rename_i hh
   exact passR_rch L roots l _ _ (fun d hd => hl d (by simp [hd])) (goCalls_rch L roots _ out again h fun p hp => .step (hl c (by simp)) (h _ (hasS_iff.1 hh)) hp)
  ·exact passR_rch L roots l out again (fun d hd => hl d (by simp [hd])) h

theorem passR_ok (L : List Cs) : ∀ (l : List Cs) (out : List Sg) (again : Bool), (∀ c ∈ l, c ∈ L) → ∃ ext, (passR l out again).1 = out ++ ext ∧ (∀ p ∈ ext, ∃ c ∈ l, p ∈ callsS c.body ∧ sgOf c.head ∈ (passR l out again).1) ∧ leftR (passR l out again).1 L + ext.length ≤ leftR out L ∧ (passR l out again).2 = (again || decide (ext ≠ [])) ∧ (ext = [] → ∀ c ∈ l, sgOf c.head ∈ out → ∀ p ∈ callsS c.body, p ∈ out)
 | [], out, again, _ => ⟨[], by simp [passR], by simp, by simp [passR], by simp [passR], by simp⟩
 | c :: l, out, again, h => by
  simp only [passR]
  split
  ·rename_i hh
   obtain ⟨e1, a1, a2, a3, a4, a5⟩ := goCalls_ok L (callsS c.body) out again fun t ht => ⟨c, h c (by simp), ht⟩
   obtain ⟨e2, b1, b2, b3, b4, b5⟩ := passR_ok L l (goCalls out again (callsS c.body)).1 (goCalls out again (callsS c.body)).2 fun d hd => h d (by simp [hd])
   have hout : (passR l (goCalls out again (callsS c.body)).1 (goCalls out again (callsS c.body)).2).1 = out ++ (e1 ++ e2) := by rw [b1, a1, List.append_assoc]
   refine ⟨e1 ++ e2, hout, fun p hp => ?_, by rw [List.length_append]; omega, ?_, fun he d hd hdo p hp => ?_⟩
   ·rcases List.mem_append.1 hp with hp | hp
    ·exact ⟨c, by simp, a2 p hp, by rw [hout]; exact List.mem_append.2 (.inl (hasS_iff.1 hh))⟩
    ·obtain ⟨d, h1, h2⟩ := b2 p hp
     exact ⟨d, by simp [h1], h2⟩
   ·rw [b4, a5]
    cases e1 <;> cases e2 <;> simp
   ·have he1 : e1 = [] := (List.append_eq_nil_iff.1 he).1
    have he2 : e2 = [] := (List.append_eq_nil_iff.1 he).2
    rcases List.mem_cons.1 hd with rfl | hd
    ·have := a3 p hp
     rw [a1, he1, List.append_nil] at this
     exact this
    ·have := b5 he2 d hd (by rw [a1, he1, List.append_nil]; exact hdo) p hp
     rw [a1, he1, List.append_nil] at this
     exact this
  ·rename_i hh
   obtain ⟨e2, b1, b2, b3, b4, b5⟩ := passR_ok L l out again fun d hd => h d (by simp [hd])
   refine ⟨e2, b1, fun p hp => ?_, b3, b4, fun he d hd hdo p hp => ?_⟩
   ·obtain ⟨d, h1, h2⟩ := b2 p hp
    exact ⟨d, by simp [h1], h2⟩
   ·rcases List.mem_cons.1 hd with rfl | hd
    ·exact absurd (hasS_iff.2 hdo) hh
    ·exact b5 he d hd hdo p hp

theorem iterR_fuel (l : List Cs) : ∀ (n m : Nat) (out : List Sg), leftR out l < n → leftR out l < m → iterR l n out = iterR l m out
 | 0, _, _, h, _ => by omega
 | n + 1, 0, _, _, h => by omega
 | n + 1, m + 1, out, h1, h2 => by
  simp only [iterR]
  obtain ⟨ext, a1, _, a3, a4, _⟩ := passR_ok l l out false fun c hc => hc
  split
  ·rename_i hg
   rw [a4] at hg
   simp only [Bool.false_or, decide_eq_true_eq] at hg
   have := List.length_pos_iff.2 hg
   exact iterR_fuel l n m _ (by omega) (by omega)
  ·rfl

theorem iterR_ok (l : List Cs) (roots : List Sg) : ∀ (n : Nat) (out : List Sg), leftR out l < n → (∀ p ∈ out, Rch l roots p) → (∀ p ∈ roots, p ∈ out) → ∀ p, p ∈ iterR l n out ↔ Rch l roots p
 | 0, _, h, _, _ => by omega
 | n + 1, out, h, ho, hr => by
  simp only [iterR]
  obtain ⟨ext, a1, a2, a3, a4, a5⟩ := passR_ok l l out false fun c hc => hc
  split
  ·rename_i hg
   rw [a4] at hg
   simp only [Bool.false_or, decide_eq_true_eq] at hg
   have := List.length_pos_iff.2 hg
   exact iterR_ok l roots n _ (by omega) (passR_rch l roots l out false (fun c hc => hc) ho) (fun p hp => by rw [a1]; exact List.mem_append.2 (.inl (hr p hp)))
  ·rename_i hg
   rw [a4] at hg
   simp only [Bool.false_or, decide_eq_true_eq, Decidable.not_not] at hg
   subst hg
   rw [List.append_nil] at a1
   rw [a1]
   intro p
   refine ⟨ho p, fun h => ?_⟩
   induction h with
   | root h => exact hr _ h
   | step h1 _ h3 ih => exact a5 rfl _ h1 ih _ h3
end PSL

namespace PSL
open Go

def lkB : List (Sg × Bool) → Sg → Bool
 | [], _ => false
 | e :: r, p => if e.1 = p then e.2 else lkB r p

def stB : List (Sg × Bool) → Sg → Bool → List (Sg × Bool)
 | [], p, v => [(p, v)]
 | e :: r, p, v => if e.1 = p then (p, v) :: r else e :: stB r p v
def bM (m : List (Sg × Bool)) : List (Sg × AV) := m.map fun e => (e.1, bV e.2)

theorem getK_b (m : List (Sg × Bool)) (p : Sg) : (getK (bM m) p).getD (bV false) = bV (lkB m p) := by
 induction m with
 | nil => rfl
 | cons e r ih =>
  simp only [bM, List.map_cons, getK, lkB] at ih ⊢
  split
  ·rfl
  ·exact ih

theorem setK_b (m : List (Sg × Bool)) (p : Sg) (v : Bool) : setK (bM m) p (bV v) = bM (stB m p v) := by
 induction m with
 | nil => rfl
 | cons e r ih =>
  simp only [bM, List.map_cons, setK, stB] at ih ⊢
  split
  ·rfl
  ·simp only [List.map_cons]; rw [ih]

theorem lk_st (m : List (Sg × Bool)) (p q : Sg) (v : Bool) : lkB (stB m p v) q = if p = q then v else lkB m q := by
 induction m with
 | nil => rfl
 | cons e r ih =>
  simp only [stB]
  by_cases he : e.1 = p
  ·rw [if_pos he]
   simp only [lkB]
   split
   ·rfl
   ·rename_i h; rw [if_neg (by rw [he]; exact h)]
  ·rw [if_neg he]
   simp only [lkB]
   rw [ih]
   by_cases h1 : e.1 = q
   ·rw [if_pos h1, if_pos h1, if_neg (fun h => he (by rw [h1, h]))]
   ·rw [if_neg h1, if_neg h1]
theorem mapOb_b {f : AV → AV} (h : ∀ b, f (bV b) = bV b) (m : List (Sg × Bool)) : mapOb f (.map (kmap (bM m))) = .map (kmap (bM m)) := by simp [mapOb, kmap, bM, Function.comp_def, h]
def tt (ks : List Sg) : List (Sg × Bool) := ks.map fun p => (p, true)

theorem lk_tt (ks : List Sg) (p : Sg) : lkB (tt ks) p = hasS ks p := by
 induction ks with
 | nil => rfl
 | cons k r ih =>
  rw [hasS_cons]
  simp only [tt, List.map_cons, lkB] at ih ⊢
  by_cases h : k = p
  ·rw [if_pos h, decide_eq_true h]; rfl
  ·rw [if_neg h, decide_eq_false h, ih]; rfl

def bodyK (c : Cs) (k : Int) : Bool := match c.body with
 | [] => false
 | g :: _ => g.k == k

def varsGo (ns : List Int) : List Tm → Bool
 | [] => true
 | x :: r => if x.k ≠ 1 ∨ x.n ∈ ns then false else varsGo (ns ++ [x.n]) r
def closesB (c : Cs) : Bool := varsGo [] c.head.l && bodyK c 3
def failS : Sg := (Tx [102, 97, 105, 108], 0)

def deadB (c : Cs) : Bool := match c.body with
 | [] => false
 | g :: _ => (g.k == 2) && decide (sgOf g.t = failS)

def openG (m : List (Sg × Bool)) : List Cs → List Cs
 | [] => []
 | c :: l => if lkB m (sgOf c.head) then openG m l else c :: openG (stB m (sgOf c.head) (closesB c)) l

def livesG (m : List (Sg × Bool)) : List Cs → List (Sg × Bool)
 | [] => m
 | c :: l => livesG (stB m (sgOf c.head) (lkB m (sgOf c.head) || !deadB c)) l

def aliveG (lives met : List (Sg × Bool)) : List Cs → List Cs
 | [] => []
 | c :: l => if !deadB c || (!lkB met (sgOf c.head) && !lkB lives (sgOf c.head)) then c :: aliveG lives (stB met (sgOf c.head) true) l else aliveG lives (stB met (sgOf c.head) true) l
def closedIn (pre : List Cs) (x : Cs) : Bool := pre.any fun y => decide (sgOf y.head = sgOf x.head) && closesB y

def openD (pre : List Cs) : List Cs → List Cs
 | [] => []
 | x :: l => if closedIn pre x then openD (pre ++ [x]) l else x :: openD (pre ++ [x]) l

def blkD (i : Nat) (x : Cs) : Nat → List Cs → Bool
 | _, [] => false
 | k, y :: l => (decide (sgOf y.head = sgOf x.head) && (decide (k < i) || !deadB y)) || blkD i x (k + 1) l

def aliveD (L pre : List Cs) : List Cs → List Cs
 | [] => []
 | x :: l => if !deadB x || !blkD pre.length x 0 L then x :: aliveD L (pre ++ [x]) l else aliveD L (pre ++ [x]) l

theorem open_eq : ∀ (l pre : List Cs) (m : List (Sg × Bool)), (∀ r, lkB m r = pre.any fun y => decide (sgOf y.head = r) && closesB y) → openG m l = openD pre l
 | [], _, _, _ => rfl
 | x :: l, pre, m, h => by
  have hx : lkB m (sgOf x.head) = closedIn pre x := h _
  simp only [openG, openD, hx]
  split
  ·rename_i hc
   refine open_eq l _ m fun r => ?_
   rw [List.any_append, ← h r]
   simp only [List.any_cons, List.any_nil, Bool.or_false]
   by_cases e : sgOf x.head = r
   ·subst e; rw [hx, hc]; rfl
   ·rw [decide_eq_false e]; simp
  ·rename_i hc
   congr 1
   refine open_eq l _ _ fun r => ?_
   rw [List.any_append, ← h r, lk_st]
   simp only [List.any_cons, List.any_nil, Bool.or_false]
   by_cases e : sgOf x.head = r
   ·subst e; rw [if_pos rfl, hx, Bool.eq_false_iff.2 hc]; simp
   ·rw [if_neg e, decide_eq_false e]; simp

theorem lives_ok : ∀ (l : List Cs) (m : List (Sg × Bool)) (r : Sg), lkB (livesG m l) r = (lkB m r || l.any fun y => decide (sgOf y.head = r) && !deadB y)
 | [], m, r => by simp [livesG]
 | x :: l, m, r => by
  simp only [livesG, List.any_cons]
  rw [lives_ok l, lk_st, ← Bool.or_assoc]
  congr 1
  by_cases e : sgOf x.head = r
  ·subst e; rw [if_pos rfl]; simp
  ·rw [if_neg e, decide_eq_false e]; simp

theorem blk_ok (i : Nat) (x : Cs) : ∀ (l : List Cs) (k : Nat), blkD i x k l = ((l.take (i - k)).any (fun y => decide (sgOf y.head = sgOf x.head)) || l.any fun y => decide (sgOf y.head = sgOf x.head) && !deadB y)
 | [], k => by simp [blkD]
 | y :: l, k => by
  simp only [blkD, List.any_cons]
  rw [blk_ok i x l (k + 1)]
  by_cases hk : k < i
  ·have e : i - k = (i - (k + 1)) + 1 := by omega
   rw [e, List.take_succ_cons, decide_eq_true hk]
   simp only [List.any_cons]
   cases decide (sgOf y.head = sgOf x.head) <;> simp
  ·have e : i - k = 0 := by omega
   have e2 : i - (k + 1) = 0 := by omega
   rw [e, e2, decide_eq_false hk]
   simp

theorem blk_app (pre : List Cs) (l : List Cs) (x : Cs) : blkD pre.length x 0 (pre ++ l) = (pre.any (fun y => decide (sgOf y.head = sgOf x.head)) || (pre ++ l).any fun y => decide (sgOf y.head = sgOf x.head) && !deadB y) := by
 rw [blk_ok]; simp

theorem alive_eq (L : List Cs) (lives : List (Sg × Bool)) (hl : ∀ r, lkB lives r = L.any fun y => decide (sgOf y.head = r) && !deadB y) : ∀ (l pre : List Cs) (met : List (Sg × Bool)), L = pre ++ l → (∀ r, lkB met r = pre.any fun y => decide (sgOf y.head = r)) → aliveG lives met l = aliveD L pre l
 | [], _, _, _, _ => rfl
 | x :: l, pre, met, hL, hm => by
  have h1 := alive_eq L lives hl l (pre ++ [x]) (stB met (sgOf x.head) true) (by rw [hL]; simp) fun r => by
   rw [List.any_append, ← hm r, lk_st]
   simp only [List.any_cons, List.any_nil, Bool.or_false]
   by_cases e : sgOf x.head = r
   ·rw [if_pos e, decide_eq_true e]; simp
   ·rw [if_neg e, decide_eq_false e]; simp
  have h2 : blkD pre.length x 0 L = (lkB met (sgOf x.head) || lkB lives (sgOf x.head)) := by
   rw [hm, hl, hL, blk_app]
  simp only [aliveG, aliveD, h2, Bool.not_or, h1]

theorem openD_ok : ∀ (l pre : List Cs), (openD pre l).Pairwise (fun y x => ¬(sgOf y.head = sgOf x.head ∧ closesB y = true)) ∧ (∀ x ∈ openD pre l, ∀ y ∈ pre, ¬(sgOf y.head = sgOf x.head ∧ closesB y = true)) ∧ (openD pre l).Sublist l
 | [], _ => ⟨.nil, by simp [openD], .refl _⟩
 | x :: l, pre => by
  obtain ⟨h1, h2, h3⟩ := openD_ok l (pre ++ [x])
  simp only [openD]
  split
  ·exact ⟨h1, fun z hz y hy => h2 z hz y (by simp [hy]), h3.cons _⟩
  ·rename_i hc
   refine ⟨List.pairwise_cons.2 ⟨fun z hz => h2 z hz x (by simp), h1⟩, fun z hz y hy => ?_, h3.cons_cons _⟩
   rcases List.mem_cons.1 hz with rfl | hz
   ·rintro ⟨e1, e2⟩
    exact hc (List.any_eq_true.2 ⟨y, hy, by rw [decide_eq_true e1, e2]; rfl⟩)
   ·exact h2 z hz y (by simp [hy])

theorem openD_id : ∀ (l pre : List Cs), (pre ++ l).Pairwise (fun y x => ¬(sgOf y.head = sgOf x.head ∧ closesB y = true)) → openD pre l = l
 | [], _, _ => rfl
 | x :: l, pre, h => by
  have h1 : closedIn pre x = false := by
   rw [Bool.eq_false_iff]
   intro hc
   obtain ⟨y, hy, h2⟩ := List.any_eq_true.1 hc
   rw [Bool.and_eq_true, decide_eq_true_eq] at h2
   exact (List.pairwise_append.1 h).2.2 y hy x (by simp) h2
  simp only [openD, h1]
  rw [openD_id l (pre ++ [x]) (by simpa using h)]
  rfl
theorem hasH_iff {l : List Cs} {p : Sg} : hasH l p = true ↔ ∃ c ∈ l, sgOf c.head = p := by unfold hasH; simp

theorem openD_has (r : Sg) : ∀ (l pre : List Cs), (∀ y ∈ pre, sgOf y.head ≠ r) → hasH l r = true → hasH (openD pre l) r = true
 | x :: l, pre, hp, h => by
  by_cases e : sgOf x.head = r
  ·have h1 : closedIn pre x = false := by
    rw [Bool.eq_false_iff]
    intro hc
    obtain ⟨y, hy, h2⟩ := List.any_eq_true.1 hc
    rw [Bool.and_eq_true, decide_eq_true_eq] at h2
    exact hp y hy (h2.1.trans e)
   simp only [openD, h1]
   exact hasH_iff.2 ⟨x, by simp, e⟩
  ·have h2 := openD_has r l (pre ++ [x]) (fun y hy => by
    rcases List.mem_append.1 hy with hy | hy
    ·exact hp y hy
    ·rw [List.mem_singleton] at hy; subst hy; exact e) (by
    obtain ⟨c, hc, h3⟩ := hasH_iff.1 h
    rcases List.mem_cons.1 hc with rfl | hc
    ·exact absurd h3 e
    ·exact hasH_iff.2 ⟨c, hc, h3⟩)
   obtain ⟨c, hc, h3⟩ := hasH_iff.1 h2
   simp only [openD]
   split
   ·exact h2
   ·exact hasH_iff.2 ⟨c, by simp [hc], h3⟩

theorem aliveD_ok (L : List Cs) : ∀ (l pre : List Cs), L = pre ++ l → (aliveD L pre l).Pairwise (fun y x => deadB x = true → sgOf y.head ≠ sgOf x.head) ∧ (∀ x ∈ aliveD L pre l, ∀ y ∈ pre, deadB x = true → sgOf y.head ≠ sgOf x.head) ∧ (∀ x ∈ aliveD L pre l, deadB x = true → ∀ y ∈ L, sgOf y.head = sgOf x.head → deadB y = true) ∧ (aliveD L pre l).Sublist l
 | [], _, _ => ⟨.nil, by simp [aliveD], by simp [aliveD], .refl _⟩
 | x :: l, pre, hL => by
  obtain ⟨h1, h2, h3, h4⟩ := aliveD_ok L l (pre ++ [x]) (by rw [hL]; simp)
  simp only [aliveD]
  split
  ·rename_i hc
   have key : deadB x = true → (∀ y ∈ pre, sgOf y.head ≠ sgOf x.head) ∧ ∀ y ∈ L, sgOf y.head = sgOf x.head → deadB y = true := fun hd => by
    rw [hd, hL, blk_app] at hc
    simp only [Bool.not_true, Bool.false_or, Bool.not_or, Bool.and_eq_true, Bool.not_eq_true'] at hc
    refine ⟨fun y hy e => ?_, fun y hy e => ?_⟩
    ·have := List.any_eq_false.1 hc.1 y hy
     rw [decide_eq_true e] at this
     exact this rfl
    ·have := List.any_eq_false.1 hc.2 y (by rw [← hL]; exact hy)
     rw [decide_eq_true e] at this
     simpa using this
   refine ⟨List.pairwise_cons.2 ⟨fun z hz => h2 z hz x (by simp), h1⟩, fun z hz y hy hd => ?_, fun z hz hd => ?_, h4.cons_cons _⟩
   ·rcases List.mem_cons.1 hz with rfl | hz
    ·exact (key hd).1 y hy
    ·exact h2 z hz y (by simp [hy]) hd
   ·rcases List.mem_cons.1 hz with rfl | hz
    ·exact (key hd).2
    ·exact h3 z hz hd
  ·exact ⟨h1, fun z hz y hy => h2 z hz y (by simp [hy]), h3, h4.cons _⟩

theorem aliveD_id (L : List Cs) : ∀ (l pre : List Cs), L = pre ++ l → L.Pairwise (fun y x => deadB x = true → sgOf y.head ≠ sgOf x.head) → (∀ x ∈ L, deadB x = true → ∀ y ∈ L, sgOf y.head = sgOf x.head → deadB y = true) → aliveD L pre l = l
 | [], _, _, _, _ => rfl
 | x :: l, pre, hL, h1, h2 => by
  have hk : (!deadB x || !blkD pre.length x 0 L) = true := by
   cases hd : deadB x with
   | false => rfl
   | true =>
    simp only [Bool.not_true, Bool.false_or, Bool.not_eq_true']
    rw [hL, blk_app, ← hL, Bool.or_eq_false_iff]
    refine ⟨List.any_eq_false.2 fun y hy => ?_, List.any_eq_false.2 fun y hy => ?_⟩
    ·rw [hL] at h1
     have := (List.pairwise_append.1 h1).2.2 y hy x (by simp) hd
     simpa using this
    ·rw [Bool.and_eq_true, decide_eq_true_eq]
     rintro ⟨e, he⟩
     rw [h2 x (by rw [hL]; simp) hd y hy e] at he
     cases he
  simp only [aliveD]
  rw [if_pos hk, aliveD_id L l (pre ++ [x]) (by rw [hL]; simp) h1 h2]

theorem aliveD_live (L : List Cs) : ∀ (l pre : List Cs) (c : Cs), c ∈ l → deadB c = false → c ∈ aliveD L pre l
 | x :: l, pre, c, hc, hd => by
  simp only [aliveD]
  rcases List.mem_cons.1 hc with rfl | hc
  ·rw [hd]; simp
  ·have := aliveD_live L l (pre ++ [x]) c hc hd
   split
   ·simp [this]
   ·exact this

theorem aliveD_first (L : List Cs) (r : Sg) (hr : ∀ y ∈ L, sgOf y.head = r → deadB y = true) : ∀ (l pre : List Cs), L = pre ++ l → (∀ y ∈ pre, sgOf y.head ≠ r) → hasH l r = true → hasH (aliveD L pre l) r = true
 | x :: l, pre, hL, hp, h => by
  by_cases e : sgOf x.head = r
  ·have h1 : blkD pre.length x 0 L = false := by
    rw [hL, blk_app, ← hL, Bool.or_eq_false_iff]
    refine ⟨List.any_eq_false.2 fun y hy => ?_, List.any_eq_false.2 fun y hy => ?_⟩
    ·rw [e]; simpa using hp y hy
    ·rw [Bool.and_eq_true, decide_eq_true_eq]
     rintro ⟨e1, he⟩
     rw [hr y hy (e1.trans e)] at he
     cases he
   simp only [aliveD, h1]
   rw [if_pos (by simp)]
   exact hasH_iff.2 ⟨x, by simp, e⟩
  ·have h2 := aliveD_first L r hr l (pre ++ [x]) (by rw [hL]; simp) (fun y hy => by
    rcases List.mem_append.1 hy with hy | hy
    ·exact hp y hy
    ·rw [List.mem_singleton] at hy; subst hy; exact e) (by
    obtain ⟨c, hc, h3⟩ := hasH_iff.1 h
    rcases List.mem_cons.1 hc with rfl | hc
    ·exact absurd h3 e
    ·exact hasH_iff.2 ⟨c, hc, h3⟩)
   obtain ⟨c, hc, h3⟩ := hasH_iff.1 h2
   simp only [aliveD]
   split
   ·exact hasH_iff.2 ⟨c, by simp [hc], h3⟩
   ·exact h2

theorem aliveD_has (L : List Cs) (r : Sg) (h : hasH L r = true) : hasH (aliveD L [] L) r = true := by
 by_cases hr : ∀ y ∈ L, sgOf y.head = r → deadB y = true
 ·exact aliveD_first L r hr L [] rfl (by simp) h
 ·obtain ⟨y, h1⟩ := Classical.not_forall.1 hr
  obtain ⟨hy, h2⟩ := Classical.not_imp.1 h1
  obtain ⟨e, hd⟩ := Classical.not_imp.1 h2
  exact hasH_iff.2 ⟨y, aliveD_live L L [] y hy (by simpa using hd), e⟩
end PSL

namespace PSL
open Go

theorem firstN_none {α : Type} (p : α → Bool) : ∀ (l : List α) (i : Nat), firstN p l i = none ↔ ∀ x ∈ l, p x = true
 | [], _ => by simp [firstN]
 | x :: r, i => by
  simp only [firstN]
  split
  ·rename_i h
   rw [firstN_none p r (i + 1)]; simp [h]
  ·rename_i h
   simp [h]

theorem checkR_ok (l : List Cs) : (checkR l).2 = 0 ↔ l.length ≤ 200 ∧ (∀ c ∈ l, clsB c = true) ∧ ∀ c ∈ l, thereL (hasH l) c.body = true := by
 unfold checkR
 split
 ·rename_i h
  constructor
  ·intro h2; cases h2
  ·intro h2; omega
 ·rename_i h
  have h : l.length ≤ 200 := by omega
  cases h1 : firstN clsB l 0 with
  | some i =>
   simp only
   constructor
   ·intro h2; cases h2
   ·rintro ⟨_, h2, _⟩
    rw [(firstN_none clsB l 0).2 h2] at h1; cases h1
  | none =>
   have h1 := (firstN_none clsB l 0).1 h1
   simp only
   cases h2 : firstN (fun c => thereL (hasH l) c.body) l 0 with
   | some i =>
    simp only
    constructor
    ·intro h2; cases h2
    ·rintro ⟨_, _, h3⟩
     rw [(firstN_none (fun c => thereL (hasH l) c.body) l 0).2 h3] at h2; cases h2
   | none =>
    have h2 := (firstN_none (fun c => thereL (hasH l) c.body) l 0).1 h2
    simp only [true_iff]
    exact ⟨h, h1, h2⟩
def liveL (l : List Cs) : List Cs := aliveG (livesG [] (openG [] l)) [] (openG [] l)
def liveD (l : List Cs) : List Cs := aliveD (openD [] l) [] (openD [] l)

theorem live_eq (l : List Cs) : liveL l = liveD l := by
 unfold liveL liveD
 rw [open_eq l [] [] (fun r => rfl)]
 exact alive_eq _ _ (fun r => by rw [lives_ok]; rfl) _ [] [] rfl fun r => rfl
def reachD (l : List Cs) (roots : List Sg) : List Sg := iterR l (leftR roots l + 1) roots

theorem reachD_iff (l : List Cs) (roots : List Sg) (p : Sg) : p ∈ reachD l roots ↔ Rch l roots p :=
 iterR_ok l roots _ roots (by omega) (fun p hp => .root hp) (fun p hp => hp) p

theorem reach_same (l : List Cs) (roots : List Sg) (p : Sg) : hasS (reachL l roots) p = hasS (reachD l roots) p := by
 rw [Bool.eq_iff_iff, hasS_iff, hasS_iff, reachL_iff, reachD_iff]
def cleanG (l : List Cs) (roots : List Sg) : List Cs := (liveL l).filter fun c => hasS (reachL (liveL l) roots) (sgOf c.head)
def cleanD (l : List Cs) (roots : List Sg) : List Cs := (liveD l).filter fun c => hasS (reachD (liveD l) roots) (sgOf c.head)

theorem clean_eq (l : List Cs) (roots : List Sg) : cleanG l roots = cleanD l roots := by
 unfold cleanG cleanD
 rw [live_eq]
 congr 1
 funext c
 exact reach_same _ _ _

def reachedG (met : List (Sg × Bool)) : List Cs → List Sg
 | [] => []
 | c :: l => if lkB met (sgOf c.head) then sgOf c.head :: reachedG (stB met (sgOf c.head) false) l else reachedG met l
def reachedP (l : List Cs) (roots : List Sg) : List Sg := reachedG (tt (reachL l roots)) l
theorem live_sub (l : List Cs) : (liveD l).Sublist l := ((aliveD_ok (openD [] l) (openD [] l) [] rfl).2.2.2).trans (openD_ok l []).2.2
theorem live_has {l : List Cs} {r : Sg} (h : hasH l r = true) : hasH (liveD l) r = true := aliveD_has _ _ (openD_has r l [] (by simp) h)

theorem mem_clean {l : List Cs} {roots : List Sg} {c : Cs} : c ∈ cleanD l roots ↔ c ∈ liveD l ∧ Rch (liveD l) roots (sgOf c.head) := by
 unfold cleanD
 rw [List.mem_filter, hasS_iff, reachD_iff]
theorem clean_sub (l : List Cs) (roots : List Sg) : (cleanD l roots).Sublist (liveD l) := List.filter_sublist

theorem clean_live (l : List Cs) (roots : List Sg) : liveD (cleanD l roots) = cleanD l roots := by
 have hs := clean_sub l roots
 obtain ⟨a1, _, a3, a4⟩ := aliveD_ok (openD [] l) (openD [] l) [] rfl
 have ho : openD [] (cleanD l roots) = cleanD l roots := openD_id _ [] (((openD_ok l []).1.sublist (hs.trans a4)))
 unfold liveD at hs
 unfold liveD
 rw [ho]
 refine aliveD_id _ _ [] rfl (a1.sublist hs) fun x hx hd y hy e => ?_
 exact a3 x (hs.subset hx) hd y (a4.subset (hs.subset hy)) e

theorem rch_clean {l : List Cs} {roots : List Sg} {p : Sg} : Rch (cleanD l roots) roots p ↔ Rch (liveD l) roots p := by
 constructor
 ·intro h
  induction h with
  | root h => exact .root h
  | step h1 _ h3 ih => exact .step ((clean_sub l roots).subset h1) ih h3
 ·intro h
  induction h with
  | root h => exact .root h
  | step h1 h2 h3 ih => exact .step (mem_clean.2 ⟨h1, h2⟩) ih h3

theorem clean_twice (l : List Cs) (roots : List Sg) : cleanD (cleanD l roots) roots = cleanD l roots := by
 have h : ∀ c ∈ cleanD l roots, hasS (reachD (cleanD l roots) roots) (sgOf c.head) = true := fun c hc => by
  rw [hasS_iff, reachD_iff, rch_clean]
  exact (mem_clean.1 hc).2
 have e : cleanD (cleanD l roots) roots = (liveD (cleanD l roots)).filter fun c => hasS (reachD (liveD (cleanD l roots)) roots) (sgOf c.head) := rfl
 rw [e, clean_live]
 exact List.filter_eq_self.2 h

theorem clean_has {l : List Cs} {roots : List Sg} {p : Sg} (h : hasH l p = true) (hr : Rch (liveD l) roots p) : hasH (cleanD l roots) p = true := by
 obtain ⟨c, hc, e⟩ := hasH_iff.1 (live_has h)
 exact hasH_iff.2 ⟨c, mem_clean.2 ⟨hc, by rw [e]; exact hr⟩, e⟩

theorem clean_right {l : List Cs} {roots : List Sg} (h : (checkR l).2 = 0) : (checkR (cleanD l roots)).2 = 0 := by
 rw [checkR_ok] at h ⊢
 obtain ⟨h1, h2, h3⟩ := h
 have hs := (clean_sub l roots).trans (live_sub l)
 refine ⟨by have := hs.length_le; omega, fun c hc => h2 c (hs.subset hc), fun c hc => (there_calls _ _).2 fun p hp => ?_⟩
 exact clean_has ((there_calls _ _).1 (h3 c (hs.subset hc)) p hp) (.step (mem_clean.1 hc).1 (mem_clean.1 hc).2 hp)

theorem clean_roots {l : List Cs} {roots : List Sg} (h : ∀ p ∈ roots, hasH l p = true) : ∀ p ∈ roots, hasH (cleanD l roots) p = true :=
 fun p hp => clean_has (h p hp) (.root hp)

def cleanA (l : List Cs) (roots : List Sg) : List Cs × Int := if (checkR l).2 ≠ 0 then ([], 1) else if roots.all (hasH l) then (cleanG l roots, 0) else ([], 1)

theorem clean_tells {l : List Cs} {roots : List Sg} (h : (checkR l).2 = 0) (hr : roots.all (hasH l) = true) :
  cleanA l roots = (cleanD l roots, 0) ∧ cleanA (cleanD l roots) roots = (cleanD l roots, 0) ∧ (checkR (cleanD l roots)).2 = 0 := by
 have h3 := clean_right (roots := roots) h
 have h4 : roots.all (hasH (cleanD l roots)) = true := List.all_eq_true.2 (clean_roots (List.all_eq_true.1 hr))
 refine ⟨?_, ?_, h3⟩
 ·unfold cleanA; rw [if_neg (by rw [h]; simp), if_pos hr, clean_eq]
 ·unfold cleanA; rw [if_neg (by rw [h3]; simp), if_pos h4, clean_eq, clean_twice]

theorem right_len {t : Tm} (h : t.rightB = true) : t.l.length ≤ 8 := by
 have := (Tm.rightB_iff.1 h).1
 cases t with | mk k s n l =>
 show l.length ≤ 8
 simp only [Tm.fairR, Bool.and_eq_true] at this
 have h := this.2
 unfold Tm.kindR at h
 split at h
 ·simp only [Bool.and_eq_true, beq_iff_eq] at h; omega
 ·split at h
  ·simp only [Bool.and_eq_true, beq_iff_eq] at h; omega
  ·simp only [Bool.and_eq_true, decide_eq_true_eq] at h; omega

theorem root_len {l : List Cs} {p : Sg} (h : (checkR l).2 = 0) (hp : hasH l p = true) : 0 ≤ p.2 ∧ p.2 ≤ 8 := by
 obtain ⟨c, hc, rfl⟩ := hasH_iff.1 hp
 have h1 := ((checkR_ok l).1 h).2.1 c hc
 simp only [clsB, Bool.and_eq_true, chkT] at h1
 have h2 := h1.1.1.2.1
 rw [rightT_eq] at h2
 have := right_len h2
 unfold sgOf
 simp only
 omega
end PSL

namespace PSL
open Go

theorem putO_ent {E : Env} {x y : AV} (dst : Option Nat) (h : Ent x y) : EEnt (putO E dst x) (putO E dst y) := fun u => by
 cases dst with
 | none => exact .refl _
 | some t =>
  simp only [putO, lk_put]
  split
  ·exact h
  ·exact .refl _

theorem look_ent (m : List (Sg × Bool)) (p : Sg) : Ent (lookI' false (cstV (.bool false)) (getK (bM m) p)) (bV (lkB m p)) := by
 have h := getK_b m p
 cases hg : getK (bM m) p with
 | none => rw [hg] at h; rw [← h]; exact .ff
 | some v => rw [hg] at h; rw [← h]; exact .refl _

theorem lookI_ent (ns : List Int) (n : Int) : Ent (lookI' false (cstV (.bool false)) (getI (setI ns) n)) (bV (decide (n ∈ ns))) := by
 rw [getI_set]
 by_cases h : n ∈ ns
 ·rw [if_pos (by simpa using h), decide_eq_true h]; exact .tt
 ·rw [if_neg (by simpa using h), decide_eq_false h]; exact .ff
section
variable {g : G} {pf : Nat → Cls} {ops : Array Oper} {Fin : Exit → Act → World → Prop}

theorem R_lookupB (hg : GOk g) {dst : Option Nat} {T : Nat} {x y : Operand} {ty : Nat} {pos : String} {after : Array Edge} {gd : Option (Nat × Bool)} {rest : List Oper} {k : List It} {E : Env} {objs : List Ob}
  {i q by_ kt et : Nat} {z : List Value} (p : Sg) (m : List (Sg × Bool)) (hk : SKey g.P kt)
  (hgd : guardA ops.toList E gd = some true) (hd : dstOk ⟨g.ty, g.N⟩ dst = true) (hx : ev E x = .mp i) (ho : nth objs i = some (.map (kmap (bM m)))) (hy : ev E y = sgA p) (hT : g.ty T = some ⟨q, by_, z, .map kt et⟩)
  (hz : (g.P.info? et).bind (·.zero) = some (.bool false))
  (hr : R g pf Fin (.dr ops rest :: k) (putO E dst (bV (lkB m p))) objs) : R g pf Fin (.dr ops (⟨dst, .lookup T x y false, ty, pos, after, gd⟩ :: rest) :: k) E objs :=
 R_lookupK hg p (bM m) hk hgd hd hx ho hy hT hz rfl (hr.ent (putO_ent dst (look_ent m p)))

theorem R_setB (hg : GOk g) {dst : Option Nat} {T : Nat} {x y v : Operand} {ty : Nat} {pos : String} {after : Array Edge} {gd : Option (Nat × Bool)} {rest : List Oper} {k : List It} {E : Env} {objs : List Ob}
  {i q by_ kt et : Nat} {z : List Value} (p : Sg) (m : List (Sg × Bool)) (b : Bool) (hk : SKey g.P kt)
  (hgd : guardA ops.toList E gd = some true) (hd : dstOk ⟨g.ty, g.N⟩ dst = true) (hx : ev E x = .mp i) (ho : nth objs i = some (.map (kmap (bM m)))) (hy : ev E y = sgA p) (hT : g.ty T = some ⟨q, by_, z, .map kt et⟩)
  (hv : Ent (ev E v) (bV b))
  (hr : R g pf Fin (.dr ops rest :: k) (putO E dst .any) (setN objs i (.map (kmap (bM (stB m p b)))))) : R g pf Fin (.dr ops (⟨dst, .mapUpdate T x y v, ty, pos, after, gd⟩ :: rest) :: k) E objs :=
 R_setK hg p (bM m) (bM (stB m p b)) hk hgd hd hx ho hy hT hv (setK_b m p b) hr

theorem R_lookupNs (hg : GOk g) {dst : Option Nat} {T : Nat} {x y : Operand} {ty : Nat} {pos : String} {after : Array Edge} {gd : Option (Nat × Bool)} {rest : List Oper} {k : List It} {E : Env} {objs : List Ob}
  {i q by_ q' by' kt et : Nat} {z z' : List Value} {n : Int} (ns : List Int)
  (hgd : guardA ops.toList E gd = some true) (hd : dstOk ⟨g.ty, g.N⟩ dst = true) (hx : ev E x = .mp i) (ho : nth objs i = some (.map (imap (setI ns)))) (hy : ev E y = .d (.v (.int .i64 n))) (hT : g.ty T = some ⟨q, by_, z, .map kt et⟩)
  (hkt : g.ty kt = some ⟨q', by', z', .int .i64⟩) (hz : (g.P.info? et).bind (·.zero) = some (.bool false))
  (hr : R g pf Fin (.dr ops rest :: k) (putO E dst (bV (decide (n ∈ ns)))) objs) : R g pf Fin (.dr ops (⟨dst, .lookup T x y false, ty, pos, after, gd⟩ :: rest) :: k) E objs :=
 R_lookupI hg (setI ns) hgd hd hx ho hy hT hkt hz rfl (hr.ent (putO_ent dst (lookI_ent ns n)))
end
end PSL
namespace PSL
open Go

def openM (m : List (Sg × Bool)) : List Cs → List (Sg × Bool)
 | [] => m
 | c :: l => if lkB m (sgOf c.head) then openM m l else openM (stB m (sgOf c.head) (closesB c)) l

def aliveM (met : List (Sg × Bool)) : List Cs → List (Sg × Bool)
 | [] => met
 | c :: l => aliveM (stB met (sgOf c.head) true) l
theorem Cs.rows_snoc (out : List Cs) (x : Cs) : Cs.rows out ++ [x.row] = Cs.rows (out ++ [x]) := by simp [Cs.rows]
end PSL
namespace PSL
open Go

theorem renOb_b {f : Nat → Nat} (m : List (Sg × Bool)) : renOb f (.map (kmap (bM m))) = .map (kmap (bM m)) := by
 have h := mapOb_b (f := renA f) (fun _ => rfl) m
 simpa only [mapOb, renOb] using h
theorem cong4 {α : Type} {a b c d c' d' : α} {l : List α} (h : c = c') (h2 : d = d') : a :: b :: c :: d :: l = a :: b :: c' :: d' :: l := by rw [h, h2]
end PSL
namespace PSL
open Go

theorem stB_tt {ks : List Sg} {p : Sg} : stB (tt ks) p true = tt (addS ks p) := by
 unfold addS
 induction ks with
 | nil => rfl
 | cons k r ih =>
  rw [hasS_cons]
  simp only [tt, List.map_cons, stB] at ih ⊢
  by_cases h : k = p
  ·rw [if_pos h, if_pos (by rw [decide_eq_true h]; rfl), h]; rfl
  ·rw [if_neg h, ih, decide_eq_false h, Bool.false_or]
   split <;> simp

theorem reachG_snoc (l : List Cs) (n : Nat) (td : List Sg) (r : Sg) (met : List Sg) : reachG l (n + 1) (td ++ [r]) met = if hasS met r then reachG l n td met else reachG l n (td ++ pushes l r) (addS met r) := by
 simp [reachG]
theorem reachG_nil (l : List Cs) (n : Nat) (met : List Sg) : reachG l (n + 1) [] met = met := rfl

theorem pushes_len (r : Sg) : ∀ l : List Cs, (pushes l r).length ≤ cost [] l
 | [] => Nat.le_refl _
 | c :: l => by
  have := pushes_len r l
  simp only [pushes, cost, List.length_append]
  have e : hasS [] (sgOf c.head) = false := rfl
  rw [e]
  split <;> simp <;> omega

theorem cost_size : ∀ l : List Cs, cost [] l ≤ Cs.sizeL l
 | [] => Nat.le_refl _
 | c :: l => by
  have := cost_size l
  have h2 := callsT_len c.body
  have e : hasS [] (sgOf c.head) = false := rfl
  simp only [cost, Cs.sizeL, Cs.size, e, Bool.false_eq_true, if_false, callsS, List.length_map]
  omega
end PSL

namespace Go.Proofs.YthdpfglpdgmphaaGreat
open Go PSL Go.Proofs

theorem rootEq (d : Nat) (p q : Sg) (w : World) : (Op.equalIn (d + 1 + 1) 48 (skV p) (skV q)).run Tryz.prog w = .ok (decide (p = q)) w := by
 obtain ⟨s, n⟩ := p
 obtain ⟨s', n'⟩ := q
 unfold skV
 rw [run_equalIn_agg w (d + 1) 48 _ _ (by rw [Program.fieldsOf, Tryz.underlying48]) Tryz.stoodInHeld48]
 rw [Program.fieldsOf, Tryz.underlying48]
 simp [Op.eqFields, part, run_equalIn_int _ _ _ _ _ _ _ Tryz.underlying3, run_equalIn_string _ _ _ _ _ Tryz.underlying9]
 by_cases h1 : s = s'
 ·subst h1
  by_cases h2 : n = n' <;> simp [h2]
 ·have h2 : ¬ s.toList = s'.toList := fun e => h1 (Tm.strEq_iff.1 (by simp [strEq, e]))
  simp [h1, h2]

theorem rootCk (d : Nat) (b : Bool) (p : Sg) (w : World) : (Instr.checkKey b (d + 1 + 1) 48 (skV p)).run Tryz.prog w = .ok () w := by
 simp [Instr.checkKey, skV, part, run_underlying Tryz.underlying48, run_underlying Tryz.underlying3, run_underlying Tryz.underlying9]
theorem rootKey : SKey Tryz.prog 48 := ⟨⟨_, Tryz.underlying48⟩, fun p q w => rootEq 9998 p q w, fun b p w => rootCk 9998 b p w⟩

theorem rootCmp : SCmp Tryz.prog 48 := by
 constructor
 ·intro x y p q w
  have h := rootEq 9998 p q w
  unfold skV at h ⊢
  simp only [Sem.run_bind]
  rw [run_eqGuard_agg _ _ _ _ _ _ _ Tryz.eqGuardType48]
  simp only [Result.andThen_ok]
  rw [run_eql_struct, h]
  rfl
 ·intro x y p q w
  have h := rootEq 9998 p q w
  unfold skV at h ⊢
  simp only [Sem.run_bind]
  rw [run_eqGuard_agg _ _ _ _ _ _ _ Tryz.eqGuardType48]
  simp only [Result.andThen_ok]
  rw [run_neq_struct, h]
  rfl

theorem rootOf_ok (t : Tm) : PCtr Tryz.prog 39 [t.av] (sgA (sgOf t)) := by
 refine PCtr.of_R (pf := fun _ => .eff) tyOk mixed Tryz.func39 rfl (by kernel_rfl) (by kernel_rfl) (by simp [Tryz.ntmps39]) fun w S hg => ?_
 refine R_run hg.ok 1000 rfl rfl ?_
 refine R_ret hg 5 rfl rfl ?_
 unfold sgA sgOf
 rw [Tm.rows_length]

theorem body_pos {x : Cs} (h : decide (((Gl.rows x.body).length : Int) > 0) = true) : ∃ g r, x.body = g :: r ∧ x.body[0]? = some g := by
 rw [Gl.rows_length] at h
 cases hb : x.body with
 | nil => rw [hb] at h; simp at h
 | cons g r => exact ⟨g, r, rfl, rfl⟩

theorem body_nil {x : Cs} (h : decide (((Gl.rows x.body).length : Int) > 0) = false) : x.body = [] := by
 rw [Gl.rows_length] at h
 cases hb : x.body with
 | nil => rfl
 | cons g r => rw [hb] at h; simp at h

set_option maxRecDepth 100000 in
theorem closes_ok (x : Cs) (hl : x.head.l.length ≤ 1000000) : PCtr Tryz.prog 69 [x.av] (bV (closesB x)) := by
 refine PCtr.of_R (pf := fun _ => .eff) tyOk mixed Tryz.func69 rfl (by kernel_rfl) (by kernel_rfl) (by simp [Tryz.ntmps69]) fun w S hg => ?_
 refine R_run hg.ok 1000 rfl rfl ?_
 refine R_makeMap hg.ok rfl rfl ?_
 refine R_run hg.ok 1000 rfl rfl ?_
 refine R_loop (fun y : Nat × List Int => ([(1, .lo 0 0), (3, .mp 1), (9, .d (.sl (Tm.rows x.head.l))), (10, iV x.head.l.length), (11, iV y.1)], [csBox x, .map (imap (setI y.2))])) (fun y => y.1 ≤ x.head.l.length ∧ varsGo [] x.head.l = varsGo y.2 (x.head.l.drop y.1)) (fun y => x.head.l.length - y.1) (0, []) ⟨Nat.zero_le _, rfl⟩ ⟨.refl _, .refl _, .refl _, by rw [Tm.rows_length]; exact .refl _, .refl _, trivial⟩ rfl ?_
 rintro ⟨k, ns⟩ ⟨hk, hm⟩
 simp only at hk hm
 refine R_run hg.ok 1000 rfl rfl ?_
 refine R_if rfl rfl (fun h => ?_) (fun h => ?_) <;> refine R_run hg.ok 1000 rfl rfl ?_
 ·have hk1 : k < x.head.l.length := lt_dec h rfl
  have e1 : x.head.l[k]? = some x.head.l[k] := List.getElem?_eq_getElem hk1
  rw [List.drop_eq_getElem_cons hk1, varsGo] at hm
  generalize x.head.l[k] = y at e1 hm
  refine R_index hg.ok rfl rfl rfl rfl rfl rfl (Int.natCast_nonneg _) (Tm.rows_get e1) rfl ?_
  refine R_run hg.ok 1000 rfl rfl ?_
  by_cases c1 : y.k = 1
  ·refine R_if rfl rfl (fun h => absurd h (by simp [c1])) (fun _ => ?_) <;> refine R_run hg.ok 1000 rfl rfl ?_
   refine R_lookupNs hg.ok ns rfl rfl rfl rfl rfl rfl rfl (by kernel_rfl) ?_
   refine R_run hg.ok 1000 rfl rfl ?_
   by_cases c2 : y.n ∈ ns
   ·refine R_if rfl rfl (fun _ => ?_) (fun h => absurd h (by simp [c2])) <;> refine R_run hg.ok 1000 rfl rfl ?_
    rw [if_pos (.inr c2)] at hm
    refine R_ret hg 5 rfl rfl ?_
    unfold closesB
    rw [hm]; rfl
   ·refine R_if rfl rfl (fun h => absurd h (by simp [c2])) (fun _ => ?_) <;> refine R_run hg.ok 1000 rfl rfl ?_
    rw [if_neg (by rintro (h | h) <;> contradiction)] at hm
    refine R_mapAddI hg.ok (setI ns) rfl rfl rfl rfl rfl rfl rfl (by rw [getI_set, if_neg (by simpa using c2)]) ?_
    refine R_run hg.ok 1000 rfl rfl ?_
    refine R_dropO 2 [csBox x, .map (imap (setI (ns ++ [y.n])))] (Nat.zero_le _) rfl (by
     have := mapOb_set (f := trimA 2) rfl (ns ++ [y.n])
     have e : setI ns ++ [(y.n, AV.tt)] = setI (ns ++ [y.n]) := by simp [setI]
     show [_, mapOb _ (.map (imap (setI ns ++ [(y.n, AV.tt)])))] = _
     rw [e, this]; rfl) ?_
    exact R_next (k + 1, ns ++ [y.n]) ⟨hk1, hm⟩ (by simp only; omega) ⟨.refl _, .refl _, .refl _, .refl _, Ent.wrap (by simp only; omega) (by simp only; omega) (by simp only; omega), trivial⟩ rfl
  ·refine R_if rfl rfl (fun _ => ?_) (fun h => absurd h (by simp [c1])) <;> refine R_run hg.ok 1000 rfl rfl ?_
   rw [if_pos (.inl c1)] at hm
   refine R_ret hg 5 rfl rfl ?_
   unfold closesB
   rw [hm]; rfl
 ·have hk1 : x.head.l.length ≤ k := ge_dec h rfl
  rw [List.drop_eq_nil_of_le hk1] at hm
  have hc : closesB x = bodyK x 3 := by unfold closesB; rw [hm]; rfl
  rw [hc]
  refine R_if rfl rfl (fun h => ?_) (fun h => ?_) <;> refine R_run hg.ok 1000 rfl rfl ?_
  ·obtain ⟨g, r, hb, e1⟩ := body_pos h
   refine R_index hg.ok rfl rfl rfl rfl rfl rfl (Int.le_refl 0) (Gl.rows_get (i := 0) e1) rfl ?_
   refine R_run hg.ok 1000 rfl rfl ?_
   refine R_ret hg 5 rfl rfl ?_
   unfold bodyK
   rw [hb]; rfl
  ·refine R_ret hg 5 rfl rfl ?_
   unfold bodyK
   rw [body_nil h]; rfl

set_option maxRecDepth 100000 in
theorem cleanDead_ok (x : Cs) : PCtr Tryz.prog 66 [x.av] (bV (deadB x)) := by
 refine PCtr.of_R (pf := fun _ => .eff) tyOk mixed Tryz.func66 rfl (by kernel_rfl) (by kernel_rfl) (by simp [Tryz.ntmps66]) fun w S hg => ?_
 refine R_run hg.ok 1000 rfl rfl ?_
 refine R_if rfl rfl (fun h => ?_) (fun h => ?_) <;> refine R_run hg.ok 1000 rfl rfl ?_
 ·obtain ⟨g, r, hb, e1⟩ := body_pos h
  refine R_index hg.ok rfl rfl rfl rfl rfl rfl (Int.le_refl 0) (Gl.rows_get (i := 0) e1) rfl ?_
  refine R_run hg.ok 1000 rfl rfl ?_
  refine R_if rfl rfl (fun h2 => ?_) (fun h2 => ?_) <;> refine R_run hg.ok 1000 rfl rfl ?_
  ·refine R_index hg.ok rfl rfl rfl rfl rfl rfl (Int.le_refl 0) (Gl.rows_get (i := 0) e1) rfl ?_
   refine R_run hg.ok 1000 rfl rfl ?_
   refine R_call hg.ok (rootOf_ok g.t) rfl rfl rfl rfl rfl rfl ?_
   refine R_run hg.ok 1000 rfl rfl ?_
   refine R_eqK hg.ok (sgOf g.t) failS rootCmp rfl rfl rfl rfl ?_
   refine R_run hg.ok 1000 rfl rfl ?_
   refine R_ret hg 5 rfl rfl ?_
   unfold deadB
   rw [hb]
   simp only [h2, Bool.true_and]; rfl
  ·refine R_ret hg 5 rfl rfl ?_
   unfold deadB
   rw [hb]
   simp only [h2, Bool.false_and]; rfl
 ·refine R_ret hg 5 rfl rfl ?_
  unfold deadB
  rw [body_nil h]; rfl
end Go.Proofs.YthdpfglpdgmphaaGreat

namespace Go.Proofs.YthdpfglpdgmphaaGreat
open Go PSL Go.Proofs
def rtBox (p : Sg) : Ob := .box [.d (.v (.string p.1)), .d (.v (.int .i64 p.2))]
def mpO (m : List (Sg × Bool)) : List Ob := [.box [.mp 1], .map (kmap (bM m))]
def mp2O (a b : List (Sg × Bool)) : List Ob := [.box [.mp 2], .box [.mp 3], .map (kmap (bM a)), .map (kmap (bM b))]

set_option maxRecDepth 100000 in
theorem cleanIs_ok (Y : YP) (p : Sg) (x : Cs) : SCtr Tryz.prog Y 43 [x.av, .lo 0 0] [rtBox p] (bV (decide (sgOf x.head = p))) [rtBox p] := by
 refine SCtr.of_R (pf := fun _ => .still) tyOk mixed Tryz.func43 rfl (by kernel_rfl) (by kernel_rfl) (by simp [Tryz.ntmps43]) (by simp [rtBox]) fun w S φ hg => ?_
 refine R_run hg.ok 1000 rfl rfl ?_
 refine R_call hg.ok (rootOf_ok x.head) rfl rfl rfl rfl rfl rfl ?_
 refine R_run hg.ok 1000 rfl rfl ?_
 refine R_eqK hg.ok (sgOf x.head) p rootCmp rfl rfl rfl rfl ?_
 refine R_run hg.ok 1000 rfl rfl ?_
 exact R_retS hg 1 5 (Nat.le_refl _) rfl rfl rfl

set_option maxRecDepth 100000 in
theorem cleanMet_ok (Y : YP) (m : List (Sg × Bool)) (x : Cs) : SCtr Tryz.prog Y 46 [x.av, .lo 0 0] (mpO m) (bV (lkB m (sgOf x.head))) (mpO m) := by
 refine SCtr.of_R (pf := fun _ => .still) tyOk mixed Tryz.func46 rfl (by kernel_rfl) (by kernel_rfl) (by simp [Tryz.ntmps46]) (by simp [mpO]) fun w S φ hg => ?_
 refine R_run hg.ok 1000 rfl rfl ?_
 refine R_call hg.ok (rootOf_ok x.head) rfl rfl rfl rfl rfl rfl ?_
 refine R_run hg.ok 1000 rfl rfl ?_
 refine R_lookupB hg.ok (sgOf x.head) m rootKey rfl rfl rfl rfl rfl rfl (by kernel_rfl) ?_
 refine R_run hg.ok 1000 rfl rfl ?_
 exact R_retS hg 2 5 (Nat.le_refl _) rfl rfl (congrArg (fun y => [Ob.box [AV.mp 1], y]) (mapOb_b (fun _ => rfl) m))

set_option maxRecDepth 100000 in
theorem openIs_ok (Y : YP) (m : List (Sg × Bool)) (x : Cs) (hl : x.head.l.length ≤ 1000000) : SCtr Tryz.prog Y 68 [x.av, .lo 0 0] (mpO m) (bV (!lkB m (sgOf x.head))) (mpO (if lkB m (sgOf x.head) then m else stB m (sgOf x.head) (closesB x))) := by
 refine SCtr.of_R (pf := fun _ => .still) tyOk mixed Tryz.func68 rfl (by kernel_rfl) (by kernel_rfl) (by simp [Tryz.ntmps68]) (by simp [mpO]) fun w S φ hg => ?_
 refine R_run hg.ok 1000 rfl rfl ?_
 refine R_call hg.ok (rootOf_ok x.head) rfl rfl rfl rfl rfl rfl ?_
 refine R_run hg.ok 1000 rfl rfl ?_
 refine R_lookupB hg.ok (sgOf x.head) m rootKey rfl rfl rfl rfl rfl rfl (by kernel_rfl) ?_
 refine R_run hg.ok 1000 rfl rfl ?_
 refine R_if rfl rfl (fun h => ?_) (fun h => ?_) <;> refine R_run hg.ok 1000 rfl rfl ?_
 ·rw [h, if_pos rfl]
  exact R_retS hg 2 5 (Nat.le_refl _) rfl rfl (congrArg (fun y => [Ob.box [AV.mp 1], y]) (mapOb_b (fun _ => rfl) m))
 ·rw [h, if_neg (by simp)]
  refine R_call hg.ok (closes_ok x hl) rfl rfl rfl rfl rfl rfl ?_
  refine R_run hg.ok 1000 rfl rfl ?_
  refine R_setB hg.ok (sgOf x.head) m (closesB x) rootKey rfl rfl rfl rfl rfl rfl (.refl _) ?_
  refine R_run hg.ok 1000 rfl rfl ?_
  exact R_retS hg 2 5 (Nat.le_refl _) rfl rfl (congrArg (fun y => [Ob.box [AV.mp 1], y]) (mapOb_b (fun _ => rfl) _))

set_option maxRecDepth 100000 in
theorem aliveIs_ok (Y : YP) (lives met : List (Sg × Bool)) (x : Cs) : SCtr Tryz.prog Y 67 [x.av, .lo 1 0, .lo 0 0] (mp2O lives met) (bV (!deadB x || (!lkB met (sgOf x.head) && !lkB lives (sgOf x.head)))) (mp2O lives (stB met (sgOf x.head) true)) := by
 have hend : ∀ (o : List Ob) (m : List (Sg × Bool)), [Ob.box [AV.mp 2], Ob.box [AV.mp 3], Ob.map (kmap (bM lives)), Ob.map (kmap (bM m))].map (mapOb (sealT false 4 o 5)) = mp2O lives m := fun o m => by
  simp only [List.map_cons, List.map_nil, mapOb_b (f := sealT false 4 o 5) (fun _ => rfl)]; rfl
 refine SCtr.of_R (pf := fun _ => .eff) tyOk mixed Tryz.func67 rfl (by kernel_rfl) (by kernel_rfl) (by simp [Tryz.ntmps67]) (by simp [mp2O]) fun w S φ hg => ?_
 refine R_run hg.ok 1000 rfl rfl ?_
 refine R_call hg.ok (rootOf_ok x.head) rfl rfl rfl rfl rfl rfl ?_
 refine R_run hg.ok 1000 rfl rfl ?_
 refine R_lookupB hg.ok (sgOf x.head) met rootKey rfl rfl rfl rfl rfl rfl (by kernel_rfl) ?_
 refine R_run hg.ok 1000 rfl rfl ?_
 refine R_setB hg.ok (sgOf x.head) met true rootKey rfl rfl rfl rfl rfl rfl (.tt) ?_
 refine R_run hg.ok 1000 rfl rfl ?_
 refine R_call hg.ok (cleanDead_ok x) rfl rfl rfl rfl rfl rfl ?_
 refine R_run hg.ok 1000 rfl rfl ?_
 cases hd : deadB x with
 | false =>
  refine R_if rfl rfl (fun _ => ?_) (fun h => absurd h (by simp [hd])) <;> refine R_run hg.ok 1000 rfl rfl ?_
  exact R_retS hg 4 5 (Nat.le_refl _) rfl rfl (hend _ _)
 | true =>
  refine R_if rfl rfl (fun h => absurd h (by simp [hd])) (fun _ => ?_) <;> refine R_run hg.ok 1000 rfl rfl ?_
  cases hm : lkB met (sgOf x.head) with
  | true =>
   refine R_if rfl rfl (fun h => absurd h (by simp [hm])) (fun _ => ?_) <;> refine R_run hg.ok 1000 rfl rfl ?_
   exact R_retS hg 4 5 (Nat.le_refl _) rfl rfl (hend _ _)
  | false =>
   refine R_if rfl rfl (fun _ => ?_) (fun h => absurd h (by simp [hm])) <;> refine R_run hg.ok 1000 rfl rfl ?_
   refine R_lookupB hg.ok (sgOf x.head) lives rootKey rfl rfl rfl rfl rfl rfl (by kernel_rfl) ?_
   refine R_run hg.ok 1000 rfl rfl ?_
   exact R_retS hg 4 5 (Nat.le_refl _) rfl rfl (hend _ _)
end Go.Proofs.YthdpfglpdgmphaaGreat

namespace Go.Proofs.YthdpfglpdgmphaaGreat
open Go PSL Go.Proofs
def rtL (p : Sg) : List Ob := [rtBox p]

set_option maxRecDepth 100000 in
theorem leftIs_ok (Y : YP) (p : Sg) (l : List Cs) (hl : l.length ≤ 1000000)  : SCtr Tryz.prog Y 42 [.d (.sl (Cs.rows l)), .clo 43 [] [.lo 0 0]] (rtL p) (.d (.sl (Cs.rows (l.filter fun c => decide (sgOf c.head = p))))) (rtL p) := by
 refine SCtr.of_R (pf := fun _ => .eff) tyOk mixed Tryz.func42 rfl (by kernel_rfl) (by kernel_rfl) (by simp [Tryz.ntmps42]) (by simp [rtL]) fun w S φ hg => ?_
 have hφ : φ.length = 1 := hg.hs0.len
 refine R_run hg.ok 1000 rfl rfl ?_
 refine R_own 5 6 rfl rfl ?_
 refine R_loop (fun x : Nat × List Cs × Nat × Unit => ([(1, .clo 43 [] [.lo 0 0]), (5, .ow 1 x.2.2.1), (8, .d (.sl (Cs.rows l))), (9, iV l.length), (10, iV x.1)], rtL p ++ [.arr 6 x.2.2.1 (Cs.rows x.2.1)])) (fun x => x.1 ≤ l.length ∧ (l.filter fun c => decide (sgOf c.head = p)) = x.2.1 ++ ((l.drop x.1).filter fun c => decide (sgOf c.head = p)) ∧ x.2.1.length ≤ x.1) (fun x => l.length - x.1) (0, [], 0, ()) ⟨Nat.zero_le _, rfl, Nat.le_refl _⟩ ⟨.refl _, .refl _, .refl _, by rw [Cs.rows_len]; exact .refl _, .refl _, trivial⟩ rfl ?_
 rintro ⟨k, out, j, _⟩ ⟨hk, hm, hl2⟩
 simp only at hk hm hl2
 refine R_run hg.ok 1000 rfl rfl ?_
 refine R_if rfl rfl (fun h => ?_) (fun h => ?_) <;> refine R_run hg.ok 1000 rfl rfl ?_
 ·have hk1 : k < l.length := lt_dec h rfl
  have e1 : l[k]? = some l[k] := List.getElem?_eq_getElem hk1
  have hmem := List.getElem_mem hk1
  rw [List.drop_eq_getElem_cons hk1] at hm
  generalize l[k] = c at e1 hm hmem
  refine R_index hg.ok rfl rfl rfl rfl rfl rfl (Int.natCast_nonneg _) (Cs.rows_get e1) rfl ?_
  refine R_run hg.ok 1000 rfl rfl ?_
  refine R_callSO hg.ok hg.gup hg.wide hg.Y [0] (rtL p ++ [.arr 6 j (Cs.rows out)] ++ [csBox c]) (cleanIs_ok Y p c) (fun _ => rfl) rfl rfl rfl rfl rfl rfl rfl rfl ?_
  refine R_run hg.ok 1000 rfl rfl ?_
  refine R_if rfl rfl (fun h2 => ?_) (fun h2 => ?_) <;> refine R_run hg.ok 1000 rfl rfl ?_
  ·rw [List.filter_cons_of_pos (by simpa using h2)] at hm
   refine R_appendO hg.ok (Cs.rows (out ++ [c])) rfl rfl rfl rfl rfl rfl rfl rfl rfl (by simp) (by simp [one1]) (Cs.rows_snoc out c) (by rw [Cs.rows_len]; simp; omega) (by rw [Cs.rows_len]; simp; omega) ?_
   refine R_run hg.ok 1000 rfl rfl ?_
   refine R_dropO 2 (rtL p ++ [.arr 6 (Nat.succ j) (Cs.rows (out ++ [c]))]) (by show φ.length ≤ _; omega) rfl (rfl) ?_
   exact R_next (k + 1, out ++ [c], Nat.succ j, ()) ⟨hk1, by rw [hm]; simp, by simp only [List.length_append, List.length_singleton]; omega⟩ (by simp only; omega) ⟨.refl _, .refl _, .refl _, .refl _, Ent.wrap (by simp only; omega) (by simp only; omega) (by simp only; omega), trivial⟩ rfl
  ·rw [List.filter_cons_of_neg (by simpa using h2)] at hm
   refine R_dropO 2 (rtL p ++ [.arr 6 j (Cs.rows out)]) (by show φ.length ≤ _; omega) rfl (rfl) ?_
   exact R_next (k + 1, out, j, ()) ⟨hk1, hm, by simp only; omega⟩ (by simp only; omega) ⟨.refl _, .refl _, .refl _, .refl _, Ent.wrap (by simp only; omega) (by simp only; omega) (by simp only; omega), trivial⟩ rfl
 ·have hk1 : l.length ≤ k := ge_dec h rfl
  rw [List.drop_eq_nil_of_le hk1] at hm
  simp only [List.filter_nil, List.append_nil] at hm
  rw [hm]
  exact R_retS hg 1 5 (Nat.le_refl _) rfl (sealT_ow rfl rfl) (rfl)

set_option maxRecDepth 100000 in
theorem leftMet_ok (Y : YP) (m : List (Sg × Bool)) (l : List Cs) (hl : l.length ≤ 1000000)  : SCtr Tryz.prog Y 42 [.d (.sl (Cs.rows l)), .clo 46 [] [.lo 0 0]] (mpO m) (.d (.sl (Cs.rows (l.filter fun c => lkB m (sgOf c.head))))) (mpO m) := by
 refine SCtr.of_R (pf := fun _ => .eff) tyOk mixed Tryz.func42 rfl (by kernel_rfl) (by kernel_rfl) (by simp [Tryz.ntmps42]) (by simp [mpO]) fun w S φ hg => ?_
 have hφ : φ.length = 2 := hg.hs0.len
 refine R_run hg.ok 1000 rfl rfl ?_
 refine R_own 5 6 rfl rfl ?_
 refine R_loop (fun x : Nat × List Cs × Nat × Unit => ([(1, .clo 46 [] [.lo 0 0]), (5, .ow 2 x.2.2.1), (8, .d (.sl (Cs.rows l))), (9, iV l.length), (10, iV x.1)], mpO m ++ [.arr 6 x.2.2.1 (Cs.rows x.2.1)])) (fun x => x.1 ≤ l.length ∧ (l.filter fun c => lkB m (sgOf c.head)) = x.2.1 ++ ((l.drop x.1).filter fun c => lkB m (sgOf c.head)) ∧ x.2.1.length ≤ x.1) (fun x => l.length - x.1) (0, [], 0, ()) ⟨Nat.zero_le _, rfl, Nat.le_refl _⟩ ⟨.refl _, .refl _, .refl _, by rw [Cs.rows_len]; exact .refl _, .refl _, trivial⟩ rfl ?_
 rintro ⟨k, out, j, _⟩ ⟨hk, hm, hl2⟩
 simp only at hk hm hl2
 refine R_run hg.ok 1000 rfl rfl ?_
 refine R_if rfl rfl (fun h => ?_) (fun h => ?_) <;> refine R_run hg.ok 1000 rfl rfl ?_
 ·have hk1 : k < l.length := lt_dec h rfl
  have e1 : l[k]? = some l[k] := List.getElem?_eq_getElem hk1
  have hmem := List.getElem_mem hk1
  rw [List.drop_eq_getElem_cons hk1] at hm
  generalize l[k] = c at e1 hm hmem
  refine R_index hg.ok rfl rfl rfl rfl rfl rfl (Int.natCast_nonneg _) (Cs.rows_get e1) rfl ?_
  refine R_run hg.ok 1000 rfl rfl ?_
  refine R_callSO hg.ok hg.gup hg.wide hg.Y [0, 1] (mpO m ++ [.arr 6 j (Cs.rows out)] ++ [csBox c]) (cleanMet_ok Y m c) (fun _ => rfl) rfl rfl rfl rfl rfl (by simp only [mpO, mp2O, List.map_cons, List.map_nil, renOb_b]; rfl) rfl (by simp only [mpO, mp2O, List.map_cons, List.map_nil, renOb_b]; rfl) ?_
  refine R_run hg.ok 1000 rfl rfl ?_
  refine R_if rfl rfl (fun h2 => ?_) (fun h2 => ?_) <;> refine R_run hg.ok 1000 rfl rfl ?_
  ·rw [List.filter_cons_of_pos (p := fun c : Cs => lkB m (sgOf c.head)) h2] at hm
   refine R_appendO hg.ok (Cs.rows (out ++ [c])) rfl rfl rfl rfl rfl rfl rfl rfl rfl (by simp) (by simp [one1]) (Cs.rows_snoc out c) (by rw [Cs.rows_len]; simp; omega) (by rw [Cs.rows_len]; simp; omega) ?_
   refine R_run hg.ok 1000 rfl rfl ?_
   refine R_dropO 3 (mpO m ++ [.arr 6 (Nat.succ j) (Cs.rows (out ++ [c]))]) (by show φ.length ≤ _; omega) rfl (by simp only [List.take_succ_cons, List.take_zero, List.map_cons, List.map_nil, mapOb_b (f := trimA 3) (fun _ => rfl)]; rfl) ?_
   exact R_next (k + 1, out ++ [c], Nat.succ j, ()) ⟨hk1, by rw [hm]; simp, by simp only [List.length_append, List.length_singleton]; omega⟩ (by simp only; omega) ⟨.refl _, .refl _, .refl _, .refl _, Ent.wrap (by simp only; omega) (by simp only; omega) (by simp only; omega), trivial⟩ rfl
  ·rw [List.filter_cons_of_neg (p := fun c : Cs => lkB m (sgOf c.head)) (by rw [h2]; simp)] at hm
   refine R_dropO 3 (mpO m ++ [.arr 6 j (Cs.rows out)]) (by show φ.length ≤ _; omega) rfl (by simp only [List.take_succ_cons, List.take_zero, List.map_cons, List.map_nil, mapOb_b (f := trimA 3) (fun _ => rfl)]; rfl) ?_
   exact R_next (k + 1, out, j, ()) ⟨hk1, hm, by simp only; omega⟩ (by simp only; omega) ⟨.refl _, .refl _, .refl _, .refl _, Ent.wrap (by simp only; omega) (by simp only; omega) (by simp only; omega), trivial⟩ rfl
 ·have hk1 : l.length ≤ k := ge_dec h rfl
  rw [List.drop_eq_nil_of_le hk1] at hm
  simp only [List.filter_nil, List.append_nil] at hm
  rw [hm]
  exact R_retS hg 2 5 (Nat.le_refl _) rfl (sealT_ow rfl rfl) (cong2 (mapOb_b (fun _ => rfl) _))

set_option maxRecDepth 100000 in
theorem leftOpen_ok (Y : YP) (m : List (Sg × Bool)) (l : List Cs) (hl : l.length ≤ 1000000) (hh : ∀ c ∈ l, c.head.l.length ≤ 1000000) : SCtr Tryz.prog Y 42 [.d (.sl (Cs.rows l)), .clo 68 [] [.lo 0 0]] (mpO m) (.d (.sl (Cs.rows (openG m l)))) (mpO (openM m l)) := by
 refine SCtr.of_R (pf := fun _ => .eff) tyOk mixed Tryz.func42 rfl (by kernel_rfl) (by kernel_rfl) (by simp [Tryz.ntmps42]) (by simp [mpO]) fun w S φ hg => ?_
 have hφ : φ.length = 2 := hg.hs0.len
 refine R_run hg.ok 1000 rfl rfl ?_
 refine R_own 5 6 rfl rfl ?_
 refine R_loop (fun x : Nat × List Cs × Nat × List (Sg × Bool) => ([(1, .clo 68 [] [.lo 0 0]), (5, .ow 2 x.2.2.1), (8, .d (.sl (Cs.rows l))), (9, iV l.length), (10, iV x.1)], mpO x.2.2.2 ++ [.arr 6 x.2.2.1 (Cs.rows x.2.1)])) (fun x => x.1 ≤ l.length ∧ (openG m l) = x.2.1 ++ (openG x.2.2.2 (l.drop x.1)) ∧ openM m l = openM x.2.2.2 (l.drop x.1) ∧ x.2.1.length ≤ x.1) (fun x => l.length - x.1) (0, [], 0, m) ⟨Nat.zero_le _, rfl, rfl, Nat.le_refl _⟩ ⟨.refl _, .refl _, .refl _, by rw [Cs.rows_len]; exact .refl _, .refl _, trivial⟩ rfl ?_
 rintro ⟨k, out, j, s⟩ ⟨hk, hm, hf, hl2⟩
 simp only at hk hm hl2 hf
 refine R_run hg.ok 1000 rfl rfl ?_
 refine R_if rfl rfl (fun h => ?_) (fun h => ?_) <;> refine R_run hg.ok 1000 rfl rfl ?_
 ·have hk1 : k < l.length := lt_dec h rfl
  have e1 : l[k]? = some l[k] := List.getElem?_eq_getElem hk1
  have hmem := List.getElem_mem hk1
  rw [List.drop_eq_getElem_cons hk1] at hm hf
  generalize l[k] = c at e1 hm hmem hf
  refine R_index hg.ok rfl rfl rfl rfl rfl rfl (Int.natCast_nonneg _) (Cs.rows_get e1) rfl ?_
  refine R_run hg.ok 1000 rfl rfl ?_
  refine R_callSO hg.ok hg.gup hg.wide hg.Y [0, 1] (mpO (if lkB s (sgOf c.head) then s else stB s (sgOf c.head) (closesB c)) ++ [.arr 6 j (Cs.rows out)] ++ [csBox c]) (openIs_ok Y s c (hh c hmem)) (fun _ => rfl) rfl rfl rfl rfl rfl (by simp only [mpO, mp2O, List.map_cons, List.map_nil, renOb_b]; rfl) rfl (by simp only [mpO, mp2O, List.map_cons, List.map_nil, renOb_b]; rfl) ?_
  refine R_run hg.ok 1000 rfl rfl ?_
  refine R_if rfl rfl (fun h2 => ?_) (fun h2 => ?_) <;> refine R_run hg.ok 1000 rfl rfl ?_
  ·have h3 : lkB s (sgOf c.head) = false := by simpa using h2
   rw [if_neg (show ¬ (lkB s (sgOf c.head) = true) by rw [h3]; simp)]
   simp only [openG, openM, h3, Bool.false_eq_true, if_false] at hm hf
   refine R_appendO hg.ok (Cs.rows (out ++ [c])) rfl rfl rfl rfl rfl rfl rfl rfl rfl (by simp) (by simp [one1]) (Cs.rows_snoc out c) (by rw [Cs.rows_len]; simp; omega) (by rw [Cs.rows_len]; simp; omega) ?_
   refine R_run hg.ok 1000 rfl rfl ?_
   refine R_dropO 3 (mpO (stB s (sgOf c.head) (closesB c)) ++ [.arr 6 (Nat.succ j) (Cs.rows (out ++ [c]))]) (by show φ.length ≤ _; omega) rfl (by simp only [List.take_succ_cons, List.take_zero, List.map_cons, List.map_nil, mapOb_b (f := trimA 3) (fun _ => rfl)]; rfl) ?_
   exact R_next (k + 1, out ++ [c], Nat.succ j, (stB s (sgOf c.head) (closesB c))) ⟨hk1, by rw [hm]; simp, hf, by simp only [List.length_append, List.length_singleton]; omega⟩ (by simp only; omega) ⟨.refl _, .refl _, .refl _, .refl _, Ent.wrap (by simp only; omega) (by simp only; omega) (by simp only; omega), trivial⟩ rfl
  ·have h3 : lkB s (sgOf c.head) = true := by simpa using h2
   rw [if_pos h3]
   simp only [openG, openM, h3, if_true] at hm hf
   refine R_dropO 3 (mpO s ++ [.arr 6 j (Cs.rows out)]) (by show φ.length ≤ _; omega) rfl (by simp only [List.take_succ_cons, List.take_zero, List.map_cons, List.map_nil, mapOb_b (f := trimA 3) (fun _ => rfl)]; rfl) ?_
   exact R_next (k + 1, out, j, s) ⟨hk1, hm, hf, by simp only; omega⟩ (by simp only; omega) ⟨.refl _, .refl _, .refl _, .refl _, Ent.wrap (by simp only; omega) (by simp only; omega) (by simp only; omega), trivial⟩ rfl
 ·have hk1 : l.length ≤ k := ge_dec h rfl
  rw [List.drop_eq_nil_of_le hk1] at hm hf
  simp only [openG, openM, aliveG, aliveM, List.append_nil] at hm hf
  rw [hm, hf]
  exact R_retS hg 2 5 (Nat.le_refl _) rfl (sealT_ow rfl rfl) (cong2 (mapOb_b (fun _ => rfl) _))

set_option maxRecDepth 100000 in
theorem leftAlive_ok (Y : YP) (lives met : List (Sg × Bool)) (l : List Cs) (hl : l.length ≤ 1000000)  : SCtr Tryz.prog Y 42 [.d (.sl (Cs.rows l)), .clo 67 [] [.lo 1 0, .lo 0 0]] (mp2O lives met) (.d (.sl (Cs.rows (aliveG lives met l)))) (mp2O lives (aliveM met l)) := by
 refine SCtr.of_R (pf := fun _ => .eff) tyOk mixed Tryz.func42 rfl (by kernel_rfl) (by kernel_rfl) (by simp [Tryz.ntmps42]) (by simp [mp2O]) fun w S φ hg => ?_
 have hφ : φ.length = 4 := hg.hs0.len
 refine R_run hg.ok 1000 rfl rfl ?_
 refine R_own 5 6 rfl rfl ?_
 refine R_loop (fun x : Nat × List Cs × Nat × List (Sg × Bool) => ([(1, .clo 67 [] [.lo 1 0, .lo 0 0]), (5, .ow 4 x.2.2.1), (8, .d (.sl (Cs.rows l))), (9, iV l.length), (10, iV x.1)], mp2O lives x.2.2.2 ++ [.arr 6 x.2.2.1 (Cs.rows x.2.1)])) (fun x => x.1 ≤ l.length ∧ (aliveG lives met l) = x.2.1 ++ (aliveG lives x.2.2.2 (l.drop x.1)) ∧ aliveM met l = aliveM x.2.2.2 (l.drop x.1) ∧ x.2.1.length ≤ x.1) (fun x => l.length - x.1) (0, [], 0, met) ⟨Nat.zero_le _, rfl, rfl, Nat.le_refl _⟩ ⟨.refl _, .refl _, .refl _, by rw [Cs.rows_len]; exact .refl _, .refl _, trivial⟩ rfl ?_
 rintro ⟨k, out, j, s⟩ ⟨hk, hm, hf, hl2⟩
 simp only at hk hm hl2 hf
 refine R_run hg.ok 1000 rfl rfl ?_
 refine R_if rfl rfl (fun h => ?_) (fun h => ?_) <;> refine R_run hg.ok 1000 rfl rfl ?_
 ·have hk1 : k < l.length := lt_dec h rfl
  have e1 : l[k]? = some l[k] := List.getElem?_eq_getElem hk1
  have hmem := List.getElem_mem hk1
  rw [List.drop_eq_getElem_cons hk1] at hm hf
  generalize l[k] = c at e1 hm hmem hf
  refine R_index hg.ok rfl rfl rfl rfl rfl rfl (Int.natCast_nonneg _) (Cs.rows_get e1) rfl ?_
  refine R_run hg.ok 1000 rfl rfl ?_
  refine R_callSO hg.ok hg.gup hg.wide hg.Y [0, 1, 2, 3] (mp2O lives (stB s (sgOf c.head) true) ++ [.arr 6 j (Cs.rows out)] ++ [csBox c]) (aliveIs_ok Y lives s c) (fun _ => rfl) rfl rfl rfl rfl rfl (by simp only [mpO, mp2O, List.map_cons, List.map_nil, renOb_b]; rfl) rfl (by simp only [mpO, mp2O, List.map_cons, List.map_nil, renOb_b]; rfl) ?_
  refine R_run hg.ok 1000 rfl rfl ?_
  refine R_if rfl rfl (fun h2 => ?_) (fun h2 => ?_) <;> refine R_run hg.ok 1000 rfl rfl ?_
  ·simp only [aliveG, aliveM, h2, if_true] at hm hf
   refine R_appendO hg.ok (Cs.rows (out ++ [c])) rfl rfl rfl rfl rfl rfl rfl rfl rfl (by simp) (by simp [one1]) (Cs.rows_snoc out c) (by rw [Cs.rows_len]; simp; omega) (by rw [Cs.rows_len]; simp; omega) ?_
   refine R_run hg.ok 1000 rfl rfl ?_
   refine R_dropO 5 (mp2O lives (stB s (sgOf c.head) true) ++ [.arr 6 (Nat.succ j) (Cs.rows (out ++ [c]))]) (by show φ.length ≤ _; omega) rfl (by simp only [List.take_succ_cons, List.take_zero, List.map_cons, List.map_nil, mapOb_b (f := trimA 5) (fun _ => rfl)]; rfl) ?_
   exact R_next (k + 1, out ++ [c], Nat.succ j, (stB s (sgOf c.head) true)) ⟨hk1, by rw [hm]; simp, hf, by simp only [List.length_append, List.length_singleton]; omega⟩ (by simp only; omega) ⟨.refl _, .refl _, .refl _, .refl _, Ent.wrap (by simp only; omega) (by simp only; omega) (by simp only; omega), trivial⟩ rfl
  ·simp only [aliveG, aliveM, h2, Bool.false_eq_true, if_false] at hm hf
   refine R_dropO 5 (mp2O lives (stB s (sgOf c.head) true) ++ [.arr 6 j (Cs.rows out)]) (by show φ.length ≤ _; omega) rfl (by simp only [List.take_succ_cons, List.take_zero, List.map_cons, List.map_nil, mapOb_b (f := trimA 5) (fun _ => rfl)]; rfl) ?_
   exact R_next (k + 1, out, j, (stB s (sgOf c.head) true)) ⟨hk1, hm, hf, by simp only; omega⟩ (by simp only; omega) ⟨.refl _, .refl _, .refl _, .refl _, Ent.wrap (by simp only; omega) (by simp only; omega) (by simp only; omega), trivial⟩ rfl
 ·have hk1 : l.length ≤ k := ge_dec h rfl
  rw [List.drop_eq_nil_of_le hk1] at hm hf
  simp only [openG, openM, aliveG, aliveM, List.append_nil] at hm hf
  rw [hm, hf]
  exact R_retS hg 4 5 (Nat.le_refl _) rfl (sealT_ow rfl rfl) (cong4 (mapOb_b (fun _ => rfl) _) (mapOb_b (fun _ => rfl) _))
end Go.Proofs.YthdpfglpdgmphaaGreat

namespace Go.Proofs.YthdpfglpdgmphaaGreat
open Go PSL Go.Proofs

set_option maxRecDepth 100000 in
theorem cleanOpen_ok (l : List Cs) (hl : l.length ≤ 1000000) (hh : ∀ c ∈ l, c.head.l.length ≤ 1000000) : PCtr Tryz.prog 45 [.d (.sl (Cs.rows l))] (.d (.sl (Cs.rows (openG [] l)))) := by
 refine PCtr.of_R (pf := fun _ => .eff) tyOk mixed Tryz.func45 rfl (by kernel_rfl) (by kernel_rfl) (by simp [Tryz.ntmps45]) fun w S hg => ?_
 refine R_run hg.ok 1000 rfl rfl ?_
 refine R_makeMap hg.ok rfl rfl ?_
 refine R_run hg.ok 1000 rfl rfl ?_
 refine R_callSO hg.ok hg.gup ⟨rfl, rfl⟩ (fun _ _ _ _ h => by cases h) [1, 0] ([.map (kmap (bM (openM [] l))), .box [.mp 0]]) (leftOpen_ok ⟨[], fun _ => true⟩ [] l hl hh) (fun _ => rfl) rfl rfl rfl rfl rfl rfl rfl (by simp only [mpO, List.map_cons, List.map_nil, renOb_b]; rfl) ?_
 refine R_run hg.ok 1000 rfl rfl ?_
 refine R_ret hg 5 rfl rfl ?_
 rfl

set_option maxRecDepth 100000 in
theorem cleanAlive_ok (l : List Cs) (hl : l.length ≤ 1000000) : PCtr Tryz.prog 44 [.d (.sl (Cs.rows l))] (.d (.sl (Cs.rows (aliveG (livesG [] l) [] l)))) := by
 refine PCtr.of_R (pf := fun f => bif Nat.beq f 42 then .eff else .still) tyOk mixed Tryz.func44 rfl (by kernel_rfl) (by kernel_rfl) (by simp [Tryz.ntmps44]) fun w S hg => ?_
 refine R_run hg.ok 1000 rfl rfl ?_
 refine R_makeMap hg.ok rfl rfl ?_
 refine R_run hg.ok 1000 rfl rfl ?_
 refine R_makeMap hg.ok rfl rfl ?_
 refine R_run hg.ok 1000 rfl rfl ?_
 refine R_loop (fun x : Nat × List (Sg × Bool) => ([(0, .d (.sl (Cs.rows l))), (3, .lo 2 0), (4, .lo 3 0), (9, .d (.sl (Cs.rows l))), (10, iV l.length), (11, iV x.1)], [.map (kmap (bM x.2)), .map (kmap (bM [])), .box [.mp 0], .box [.mp 1]])) (fun x => x.1 ≤ l.length ∧ livesG [] l = livesG x.2 (l.drop x.1)) (fun x => l.length - x.1) (0, []) ⟨Nat.zero_le _, rfl⟩ ⟨.refl _, .refl _, .refl _, .refl _, by rw [Cs.rows_len]; exact .refl _, .refl _, trivial⟩ rfl ?_
 rintro ⟨k, m⟩ ⟨hk, hm⟩
 simp only at hk hm
 refine R_run hg.ok 1000 rfl rfl ?_
 refine R_if rfl rfl (fun h => ?_) (fun h => ?_) <;> refine R_run hg.ok 1000 rfl rfl ?_
 ·have hk1 : k < l.length := lt_dec h rfl
  have e1 : l[k]? = some l[k] := List.getElem?_eq_getElem hk1
  rw [List.drop_eq_getElem_cons hk1, livesG] at hm
  generalize l[k] = c at e1 hm
  refine R_index hg.ok rfl rfl rfl rfl rfl rfl (Int.natCast_nonneg _) (Cs.rows_get e1) rfl ?_
  refine R_run hg.ok 1000 rfl rfl ?_
  refine R_call hg.ok (rootOf_ok c.head) rfl rfl rfl rfl rfl rfl ?_
  refine R_run hg.ok 1000 rfl rfl ?_
  refine R_call hg.ok (rootOf_ok c.head) rfl rfl rfl rfl rfl rfl ?_
  refine R_run hg.ok 1000 rfl rfl ?_
  refine R_lookupB hg.ok (sgOf c.head) m rootKey rfl rfl rfl rfl rfl rfl (by kernel_rfl) ?_
  refine R_run hg.ok 1000 rfl rfl ?_
  refine R_cut1 (fun _ : Unit => ([(0, .d (.sl (Cs.rows l))), (3, .lo 2 0), (4, .lo 3 0), (9, .d (.sl (Cs.rows l))), (10, iV l.length), (11, iV k)], [.map (kmap (bM (stB m (sgOf c.head) (lkB m (sgOf c.head) || !deadB c)))), .map (kmap (bM [])), .box [.mp 0], .box [.mp 1], csBox c])) (fun _ => True) rfl ?_ ?_
  ·cases hm2 : lkB m (sgOf c.head) with
   | false =>
    refine R_if rfl rfl (fun h => absurd h (by simp [hm2])) (fun _ => ?_) <;> refine R_run hg.ok 1000 rfl rfl ?_
    refine R_call hg.ok (cleanDead_ok c) rfl rfl rfl rfl rfl rfl ?_
    refine R_run hg.ok 1000 rfl rfl ?_
    refine R_setB hg.ok (sgOf c.head) m (!deadB c) rootKey rfl rfl rfl rfl rfl rfl (.refl _) ?_
    refine R_run hg.ok 1000 rfl rfl ?_
    exact R_to () trivial ⟨.refl _, .refl _, .refl _, .refl _, .refl _, .refl _, trivial⟩ rfl
   | true =>
    refine R_if rfl rfl (fun _ => ?_) (fun h => absurd h (by simp [hm2])) <;> refine R_run hg.ok 1000 rfl rfl ?_
    refine R_setB hg.ok (sgOf c.head) m true rootKey rfl rfl rfl rfl rfl rfl (by first | exact .tt | exact .refl _) ?_
    refine R_run hg.ok 1000 rfl rfl ?_
    exact R_to () trivial ⟨.refl _, .refl _, .refl _, .refl _, .refl _, .refl _, trivial⟩ rfl
  rintro _ _
  refine R_run hg.ok 1000 rfl rfl ?_
  refine R_dropO 4 [.map (kmap (bM (stB m (sgOf c.head) (lkB m (sgOf c.head) || !deadB c)))), .map (kmap (bM [])), .box [.mp 0], .box [.mp 1]] (Nat.zero_le _) rfl (by simp only [List.take_succ_cons, List.take_zero, List.map_cons, List.map_nil, mapOb_b (f := trimA 4) (fun _ => rfl)]; rfl) ?_
  exact R_next (k + 1, stB m (sgOf c.head) (lkB m (sgOf c.head) || !deadB c)) ⟨hk1, hm⟩ (by simp only; omega) ⟨.refl _, .refl _, .refl _, .refl _, .refl _, Ent.wrap (by simp only; omega) (by simp only; omega) (by simp only; omega), trivial⟩ rfl
 ·have hk1 : l.length ≤ k := ge_dec h rfl
  rw [List.drop_eq_nil_of_le hk1] at hm
  simp only [livesG] at hm
  rw [← hm]
  refine R_callSO hg.ok hg.gup ⟨rfl, rfl⟩ (fun _ _ _ _ h => by cases h) [2, 3, 0, 1] ([.map (kmap (bM (livesG [] l))), .map (kmap (bM (aliveM [] l))), .box [.mp 0], .box [.mp 1]]) (leftAlive_ok ⟨[], fun _ => true⟩ (livesG [] l) [] l hl) (fun _ => rfl) rfl rfl rfl rfl rfl (by simp only [mp2O, List.map_cons, List.map_nil, renOb_b]; rfl) rfl (by simp only [mp2O, List.map_cons, List.map_nil, renOb_b]; rfl) ?_
  refine R_run hg.ok 1000 rfl rfl ?_
  refine R_ret hg 5 rfl rfl ?_
  rfl
def sgR (l : List Sg) : List (List D) := l.map fun p => [.v (.string p.1), .v (.int .i64 p.2)]
theorem sgR_len (l : List Sg) : (sgR l).length = l.length := by simp [sgR]
theorem sgR_get {l : List Sg} {i : Nat} {x : Sg} (h : l[i]? = some x) : (sgR l)[i]? = some [.v (.string x.1), .v (.int .i64 x.2)] := by simp [sgR, h]
theorem sgR_snoc (l : List Sg) (p : Sg) : sgR l ++ [[.v (.string p.1), .v (.int .i64 p.2)]] = sgR (l ++ [p]) := by simp [sgR]
def tdO (s : Nat) (todo : List Sg) : List Ob := [.box [.ow 1 s], .arr 2 s (sgR todo)]

set_option maxRecDepth 100000 in
theorem reachSee_ok (Y : YP) (s : Nat) (todo : List Sg) (p : Sg) (hl : todo.length ≤ 1000000) : SCtr Tryz.prog Y 64 [sgA p, .lo 0 0] (tdO s todo) (.tup []) (tdO (Nat.succ s) (todo ++ [p])) := by
 unfold sgA
 refine SCtr.of_R (pf := fun _ => .eff) tyOk mixed Tryz.func64 rfl (by kernel_rfl) (by kernel_rfl) (by simp [Tryz.ntmps64]) (by simp [tdO]) fun w S φ hg => ?_
 have hφ : φ.length = 2 := hg.hs0.len
 refine R_run hg.ok 1000 rfl rfl ?_
 refine R_appendO hg.ok (sgR (todo ++ [p])) rfl rfl rfl rfl rfl rfl rfl rfl rfl (by simp) (by simp [one1]) (sgR_snoc todo p) (by rw [sgR_len]; simp; omega) (by rw [sgR_len]; simp; omega) ?_
 refine R_run hg.ok 1000 rfl rfl ?_
 exact R_endS hg 2 5 (Nat.le_refl _) rfl rfl rfl
end Go.Proofs.YthdpfglpdgmphaaGreat

namespace Go.Proofs.YthdpfglpdgmphaaGreat
open Go PSL Go.Proofs

theorem callsS_cons (g : Gl) (r : List Gl) : callsS (g :: r) = (if g.k = 1 then [sgOf g.t] else []) ++ callsS g.a ++ callsS g.b ++ callsS g.c ++ callsS r := by
 unfold callsS
 simp only [callsT, calls1_eq, List.map_append]
 split <;> rfl
theorem callsS_len (l : List Gl) : (callsS l).length ≤ Gl.sizeL l := by unfold callsS; rw [List.length_map]; exact callsT_len l

def SeeG (Y : YP) (l : List Gl) : Prop := ∀ (s : Nat) (todo : List Sg), todo.length + Gl.sizeL l ≤ 1000000 →
 SCtr Tryz.prog Y 63 [.d (.sl (Gl.rows l)), .clo 64 [] [.lo 0 0]] (tdO s todo) (.tup []) (tdO (s + (callsS l).length) (todo ++ callsS l))

set_option maxRecDepth 100000 in
theorem cleanCalls_ok (Y : YP) (l : List Gl) : SeeG Y l := by
 refine Gl.indL (p := SeeG Y) (fun l hsub => ?_) l
 intro s todo hb
 have hlen := Gl.len_size l
 have hcl := callsS_len l
 refine SCtr.of_R (pf := fun _ => .eff) tyOk mixed Tryz.func63 rfl (by kernel_rfl) (by kernel_rfl) (by simp [Tryz.ntmps63]) (by simp [tdO]) fun w S φ hg => ?_
 have hφ : φ.length = 2 := hg.hs0.len
 refine R_run hg.ok 1000 rfl rfl ?_
 refine R_loop (fun x : Nat × Nat × List Sg => ([(1, .clo 64 [] [.lo 0 0]), (6, .d (.sl (Gl.rows l))), (7, iV l.length), (8, iV x.1)], tdO x.2.1 x.2.2)) (fun x => x.1 ≤ l.length ∧ todo ++ callsS l = x.2.2 ++ callsS (l.drop x.1) ∧ s + (callsS l).length = x.2.1 + (callsS (l.drop x.1)).length ∧ x.2.2.length + Gl.sizeL (l.drop x.1) ≤ 1000000) (fun x => l.length - x.1) (0, s, todo) ⟨Nat.zero_le _, rfl, rfl, hb⟩ ⟨.refl _, .refl _, by rw [Gl.rows_length]; exact .refl _, .refl _, trivial⟩ rfl ?_
 rintro ⟨k, j, td⟩ ⟨hk, hm, hs, hb2⟩
 simp only at hk hm hs hb2
 refine R_run hg.ok 1000 rfl rfl ?_
 refine R_if rfl rfl (fun h => ?_) (fun h => ?_) <;> refine R_run hg.ok 1000 rfl rfl ?_
 ·have hk1 : k < l.length := lt_dec h rfl
  have e1 : l[k]? = some l[k] := List.getElem?_eq_getElem hk1
  have hmem := List.getElem_mem hk1
  rw [List.drop_eq_getElem_cons hk1] at hm hs hb2
  generalize l[k] = g at e1 hm hs hmem hb2
  simp only [Gl.sizeL] at hb2
  have hsz := Gl.size_mem hmem
  have hge := Gl.size_eq g
  have htp := Gl.tmPos g.t
  obtain ⟨sa, sb, sc⟩ := hsub g hmem
  have hL := congrArg List.length hm
  rw [callsS_cons] at hm hs hL
  simp only [List.length_append] at hL hs
  have h1 : (if g.k = 1 then [sgOf g.t] else []).length ≤ 1 := by split <;> simp
  refine R_index hg.ok rfl rfl rfl rfl rfl rfl (Int.natCast_nonneg _) (Gl.rows_get e1) rfl ?_
  refine R_run hg.ok 1000 rfl rfl ?_
  refine R_cut1 (fun x : Nat × List Sg => ([(1, .clo 64 [] [.lo 0 0]), (5, .lo 2 0), (6, .d (.sl (Gl.rows l))), (7, iV l.length), (8, iV k)], tdO x.1 x.2 ++ [glBox g])) (fun x => x.1 = j + (if g.k = 1 then [sgOf g.t] else []).length ∧ x.2 = td ++ (if g.k = 1 then [sgOf g.t] else [])) rfl ?_ ?_
  ·by_cases c1 : g.k = 1
   ·refine R_if rfl rfl (fun _ => ?_) (fun h => absurd h (by simp [c1])) <;> refine R_run hg.ok 1000 rfl rfl ?_
    refine R_call hg.ok (rootOf_ok g.t) rfl rfl rfl rfl rfl rfl ?_
    refine R_run hg.ok 1000 rfl rfl ?_
    refine R_callSO hg.ok hg.gup hg.wide hg.Y [0, 1] (tdO (Nat.succ j) (td ++ [sgOf g.t]) ++ [glBox g]) (reachSee_ok Y j td (sgOf g.t) (by omega)) (fun _ => rfl) rfl rfl rfl rfl rfl rfl rfl rfl ?_
    refine R_run hg.ok 1000 rfl rfl ?_
    exact R_to (Nat.succ j, td ++ [sgOf g.t]) ⟨by rw [if_pos c1]; rfl, by rw [if_pos c1]⟩ ⟨.refl _, .refl _, .refl _, .refl _, .refl _, trivial⟩ rfl
   ·refine R_if rfl rfl (fun h => absurd h (by simp [c1])) (fun _ => ?_) <;> refine R_run hg.ok 1000 rfl rfl ?_
    exact R_to (j, td) ⟨by rw [if_neg c1]; rfl, by rw [if_neg c1]; simp⟩ ⟨.refl _, .refl _, .refl _, .refl _, .refl _, trivial⟩ rfl
  ·rintro ⟨j1, td1⟩ ⟨ej, et⟩
   simp only at ej et
   have hl1 : td1.length = td.length + (if g.k = 1 then [sgOf g.t] else []).length := by rw [et, List.length_append]
   have la := callsS_len g.a
   have lb := callsS_len g.b
   have lc := callsS_len g.c
   refine R_run hg.ok 1000 rfl rfl ?_
   refine R_callSO hg.ok hg.gup hg.wide hg.Y [0, 1] (tdO (j1 + (callsS g.a).length) (td1 ++ callsS g.a) ++ [glBox g]) (sa j1 td1 (by omega)) (fun _ => rfl) rfl rfl rfl rfl rfl rfl rfl rfl ?_
   refine R_run hg.ok 1000 rfl rfl ?_
   refine R_callSO hg.ok hg.gup hg.wide hg.Y [0, 1] (tdO (j1 + (callsS g.a).length + (callsS g.b).length) (td1 ++ callsS g.a ++ callsS g.b) ++ [glBox g]) (sb (j1 + (callsS g.a).length) (td1 ++ callsS g.a) (by rw [List.length_append]; omega)) (fun _ => rfl) rfl rfl rfl rfl rfl rfl rfl rfl ?_
   refine R_run hg.ok 1000 rfl rfl ?_
   refine R_callSO hg.ok hg.gup hg.wide hg.Y [0, 1] (tdO (j1 + (callsS g.a).length + (callsS g.b).length + (callsS g.c).length) (td1 ++ callsS g.a ++ callsS g.b ++ callsS g.c) ++ [glBox g]) (sc (j1 + (callsS g.a).length + (callsS g.b).length) (td1 ++ callsS g.a ++ callsS g.b) (by simp only [List.length_append]; omega)) (fun _ => rfl) rfl rfl rfl rfl rfl rfl rfl rfl ?_
   refine R_run hg.ok 1000 rfl rfl ?_
   refine R_dropO 2 (tdO (j1 + (callsS g.a).length + (callsS g.b).length + (callsS g.c).length) (td1 ++ callsS g.a ++ callsS g.b ++ callsS g.c)) (by show φ.length ≤ _; omega) rfl rfl ?_
   exact R_next (k + 1, j1 + (callsS g.a).length + (callsS g.b).length + (callsS g.c).length, td1 ++ callsS g.a ++ callsS g.b ++ callsS g.c) ⟨hk1, by rw [hm, et]; simp, by simp only; omega, by simp only [List.length_append]; omega⟩ (by simp only; omega) ⟨.refl _, .refl _, .refl _, Ent.wrap (by simp only; omega) (by simp only; omega) (by simp only; omega), trivial⟩ rfl
 ·have hk1 : l.length ≤ k := ge_dec h rfl
  rw [List.drop_eq_nil_of_le hk1] at hm hs
  have e2 : callsS ([] : List Gl) = [] := rfl
  rw [e2] at hm hs
  simp only [List.append_nil, List.length_nil, Nat.add_zero] at hm hs
  rw [hm, hs]
  exact R_endS hg 2 5 (Nat.le_refl _) rfl rfl rfl
end Go.Proofs.YthdpfglpdgmphaaGreat

namespace Go.Proofs.YthdpfglpdgmphaaGreat
open Go PSL Go.Proofs
def pfRch : Nat → Cls := fun f => bif Nat.beq f 4800100000 then .turn 100 else bif Nat.beq f 4000000005 then .turn 0 else bif Nat.beq f 4000000004 then .turn 1 else bif Nat.beq f 63 then .eff else .still

theorem sgR_two (l : List Sg) : ∀ r ∈ sgR l, r.length = 2 := fun r hr => by
 obtain ⟨p, _, rfl⟩ := List.mem_map.1 hr; rfl

theorem sgR_one (l : List Sg) : ∀ r ∈ sgR l, ∀ x ∈ r, one1 (.d x) = true := fun r hr x hx => by
 obtain ⟨p, _, rfl⟩ := List.mem_map.1 hr
 simp only [List.mem_cons, List.not_mem_nil, or_false] at hx
 rcases hx with rfl | rfl <;> rfl

set_option maxHeartbeats 4000000 in
set_option maxRecDepth 100000 in
theorem reach_ok (Y : YP) (l : List Cs) (roots : List Sg) (hl : l.length ≤ 1000000) (hM : roots.length + cost [] l ≤ 500000) (hb : ∀ c ∈ l, Gl.sizeL c.body ≤ 500000) : SCtr Tryz.prog Y 38 [.d (.sl (Cs.rows l)), .d (.sl (sgR roots))] [] (.mp 0) [.map (kmap (bM (tt (reachL l roots))))] := by
 refine SCtr.of_R (pf := pfRch) tyOk mixed Tryz.func38 rfl (by kernel_rfl) (by kernel_rfl) (by simp [Tryz.ntmps38]) (by simp [tdO]) fun w S φ hg => ?_
 have hφ : φ.length = 0 := hg.hs0.len
 refine R_run hg.ok 1000 rfl rfl ?_
 refine R_makeMap hg.ok rfl rfl ?_
 refine R_run hg.ok 1000 rfl rfl ?_
 refine R_buildO hg.ok [] rfl rfl rfl rfl rfl rfl rfl rfl (by simp) (by simp) ?_
 refine R_run hg.ok 1000 rfl rfl ?_
 refine R_appendO hg.ok (sgR roots) rfl rfl rfl rfl rfl rfl rfl rfl rfl (sgR_two roots) (sgR_one roots) rfl (by rw [sgR_len]; simp; omega) (by rw [sgR_len]; simp; omega) ?_
 refine R_run hg.ok 1000 rfl rfl ?_
 refine R_loop (fun x : List Sg × List Sg × Nat => ([(0, .d (.sl (Cs.rows l))), (5, .mp 0), (6, .lo 2 0)], [.map (kmap (bM (tt x.2.1))), .arr 2 x.2.2 (sgR x.1), .box [.ow 1 x.2.2]])) (fun x => reachL l roots = reachG l (roots.length + cost [] l + 1) x.1 x.2.1 ∧ x.1.length + cost x.2.1 l ≤ roots.length + cost [] l) (fun x => x.1.length + cost x.2.1 l) (roots, [], 1) ⟨rfl, Nat.le_refl _⟩ ⟨.refl _, .refl _, .refl _, trivial⟩ rfl ?_
 rintro ⟨todo, met, s⟩ ⟨hm, hb2⟩
 simp only at hm hb2
 refine R_run hg.ok 1000 rfl rfl ?_
 refine R_lenO hg.ok rfl rfl rfl rfl rfl (n := (todo.length : Int)) (by rw [sgR_len]) ?_
 refine R_run hg.ok 1000 rfl rfl ?_
 refine R_if rfl rfl (fun h => ?_) (fun h => ?_) <;> refine R_run hg.ok 1000 rfl rfl ?_
 ·have hsp : ∃ td r, todo = td ++ [r] := by
   rcases List.eq_nil_or_concat todo with rfl | ⟨td, r, e⟩
   ·simp at h
   ·exact ⟨td, r, by rw [e]; simp⟩
  obtain ⟨td, r, rfl⟩ := hsp
  have htl : (td ++ [r]).length = td.length + 1 := by simp
  rw [htl] at hb2
  rw [reachG_snoc] at hm
  refine R_lenO hg.ok rfl rfl rfl rfl rfl (n := ((td.length + 1 : Nat) : Int)) (by rw [sgR_len]; simp) ?_
  refine R_run hg.ok 1000 rfl rfl ?_
  rw [w64 (n := ((td.length + 1 : Nat) : Int) - 1) (by omega) (by omega), show ((td.length + 1 : Nat) : Int) - 1 = (td.length : Int) by omega]
  refine R_indexO hg.ok rfl rfl rfl rfl rfl rfl rfl rfl rfl (Int.natCast_nonneg td.length) (by rw [sgR_len]; simp) ?_
  refine R_run hg.ok 1000 rfl rfl ?_
  refine R_loadE hg.ok rfl rfl rfl rfl rfl rfl (sgR_get (x := r) (by simp)) rfl ?_
  refine R_run hg.ok 1000 rfl rfl ?_
  refine R_lenO hg.ok rfl rfl rfl rfl rfl (n := ((td.length + 1 : Nat) : Int)) (by rw [sgR_len]; simp) ?_
  refine R_run hg.ok 1000 rfl rfl ?_
  rw [w64 (n := ((td.length + 1 : Nat) : Int) - 1) (by omega) (by omega), show ((td.length + 1 : Nat) : Int) - 1 = (td.length : Int) by omega]
  refine R_shrinkO hg.ok (sgR td) rfl rfl rfl rfl rfl rfl rfl rfl rfl rfl (Int.natCast_nonneg td.length) (by rw [sgR_len]; simp; omega) (by rw [Int.toNat_natCast]; simp [sgR]) ?_
  refine R_run hg.ok 1000 rfl rfl ?_
  refine R_lookupB hg.ok r (tt met) rootKey rfl rfl rfl rfl rfl rfl (by kernel_rfl) ?_
  refine R_run hg.ok 1000 rfl rfl ?_
  rw [lk_tt]
  refine R_if rfl rfl (fun h2 => ?_) (fun h2 => ?_) <;> refine R_run hg.ok 1000 rfl rfl ?_
  ·rw [if_pos h2] at hm
   refine R_dropO 3 [.map (kmap (bM (tt met))), .arr 2 (Nat.succ s) (sgR td), .box [.ow 1 (Nat.succ s)]] (by show φ.length ≤ _; omega) rfl (by simp only [List.take_succ_cons, List.take_zero, List.map_cons, List.map_nil, mapOb_b (f := trimA 3) (fun _ => rfl)]; rfl) ?_
   exact R_next (td, met, Nat.succ s) ⟨by rw [hm]; exact reachG_fuel l _ _ td met (by omega) (by omega), by simp only; omega⟩ (by simp only [htl]; omega) ⟨.refl _, .refl _, .refl _, trivial⟩ rfl
  ·rw [if_neg (by rw [h2]; simp)] at hm
   have hca := cost_add met r h2 l
   have hpl := pushes_len r l
   refine R_setB hg.ok r (tt met) true rootKey rfl rfl rfl rfl rfl rfl (by first | exact .tt | exact .refl _) ?_
   rw [stB_tt]
   refine R_run hg.ok 1000 rfl rfl ?_
   refine R_loop (fun x : Nat × List Sg × Nat => ([(0, .d (.sl (Cs.rows l))), (5, .mp 0), (6, .lo 2 0), (7, .lo 3 0), (33, .d (.sl (Cs.rows l))), (34, iV l.length), (35, iV x.1)], [.map (kmap (bM (tt (addS met r)))), .arr 2 x.2.2 (sgR x.2.1), .box [.ow 1 x.2.2], rtBox r])) (fun x => x.1 ≤ l.length ∧ td ++ pushes l r = x.2.1 ++ pushes (l.drop x.1) r) (fun x => l.length - x.1) (0, td, Nat.succ s) ⟨Nat.zero_le _, rfl⟩ ⟨.refl _, .refl _, .refl _, .refl _, .refl _, by rw [Cs.rows_len]; exact .refl _, .refl _, trivial⟩ rfl ?_
   rintro ⟨k, td2, j⟩ ⟨hk, hm2⟩
   simp only at hk hm2
   have hln := congrArg List.length hm2
   simp only [List.length_append] at hln
   refine R_run hg.ok 1000 rfl rfl ?_
   refine R_if rfl rfl (fun h => ?_) (fun h => ?_) <;> refine R_run hg.ok 1000 rfl rfl ?_
   ·have hk1 : k < l.length := lt_dec h rfl
    have e1 : l[k]? = some l[k] := List.getElem?_eq_getElem hk1
    have hmem := List.getElem_mem hk1
    rw [List.drop_eq_getElem_cons hk1] at hm2
    generalize l[k] = c at e1 hm2 hmem
    have hbc := hb c hmem
    refine R_index hg.ok rfl rfl rfl rfl rfl rfl (Int.natCast_nonneg _) (Cs.rows_get e1) rfl ?_
    refine R_run hg.ok 1000 rfl rfl ?_
    refine R_call hg.ok (rootOf_ok c.head) rfl rfl rfl rfl rfl rfl ?_
    refine R_run hg.ok 1000 rfl rfl ?_
    refine R_eqK hg.ok (sgOf c.head) r rootCmp rfl rfl rfl rfl ?_
    refine R_run hg.ok 1000 rfl rfl ?_
    simp only [pushes] at hm2
    refine R_if rfl rfl (fun h3 => ?_) (fun h3 => ?_) <;> refine R_run hg.ok 1000 rfl rfl ?_
    ·rw [if_pos (of_decide_eq_true h3)] at hm2
     refine R_callSO hg.ok hg.gup hg.wide hg.Y [2, 1] ([.map (kmap (bM (tt (addS met r)))), .arr 2 (j + (callsS c.body).length) (sgR (td2 ++ callsS c.body)), .box [.ow 1 (j + (callsS c.body).length)], rtBox r, csBox c]) (cleanCalls_ok Y c.body j td2 (by omega)) (fun _ => rfl) rfl rfl rfl rfl rfl rfl rfl rfl ?_
     refine R_run hg.ok 1000 rfl rfl ?_
     refine R_dropO 4 [.map (kmap (bM (tt (addS met r)))), .arr 2 (j + (callsS c.body).length) (sgR (td2 ++ callsS c.body)), .box [.ow 1 (j + (callsS c.body).length)], rtBox r] (by show φ.length ≤ _; omega) rfl (by simp only [List.take_succ_cons, List.take_zero, List.map_cons, List.map_nil, mapOb_b (f := trimA 4) (fun _ => rfl)]; rfl) ?_
     exact R_next (k + 1, td2 ++ callsS c.body, j + (callsS c.body).length) ⟨hk1, by rw [hm2]; simp⟩ (by simp only; omega) ⟨.refl _, .refl _, .refl _, .refl _, .refl _, .refl _, Ent.wrap (by simp only; omega) (by simp only; omega) (by simp only; omega), trivial⟩ rfl
    ·rw [if_neg (of_decide_eq_false h3), List.nil_append] at hm2
     refine R_dropO 4 [.map (kmap (bM (tt (addS met r)))), .arr 2 j (sgR td2), .box [.ow 1 j], rtBox r] (by show φ.length ≤ _; omega) rfl (by simp only [List.take_succ_cons, List.take_zero, List.map_cons, List.map_nil, mapOb_b (f := trimA 4) (fun _ => rfl)]; rfl) ?_
     exact R_next (k + 1, td2, j) ⟨hk1, hm2⟩ (by simp only; omega) ⟨.refl _, .refl _, .refl _, .refl _, .refl _, .refl _, Ent.wrap (by simp only; omega) (by simp only; omega) (by simp only; omega), trivial⟩ rfl
   ·have hk1 : l.length ≤ k := ge_dec h rfl
    rw [List.drop_eq_nil_of_le hk1] at hm2
    simp only [pushes, List.append_nil] at hm2
    rw [hm2] at hm
    have hln2 : td2.length = td.length + (pushes l r).length := by rw [← hm2, List.length_append]
    refine R_dropO 3 [.map (kmap (bM (tt (addS met r)))), .arr 2 j (sgR td2), .box [.ow 1 j]] (by show φ.length ≤ _; omega) rfl (by simp only [List.take_succ_cons, List.take_zero, List.map_cons, List.map_nil, mapOb_b (f := trimA 3) (fun _ => rfl)]; rfl) ?_
    exact R_next (td2, addS met r, j) ⟨by rw [hm]; exact reachG_fuel l _ _ td2 (addS met r) (by omega) (by omega), by simp only; omega⟩ (by simp only [htl]; omega) ⟨.refl _, .refl _, .refl _, trivial⟩ rfl
 ·have h0 : todo = [] := by
   cases todo with
   | nil => rfl
   | cons a b => simp at h
  subst h0
  rw [reachG_nil] at hm
  rw [hm]
  exact R_retS hg 1 5 (Nat.zero_le _) rfl rfl (by simp only [List.take_succ_cons, List.take_zero, List.map_cons, List.map_nil, mapOb_b (f := sealT false 1 _ 5) (fun _ => rfl)])
end Go.Proofs.YthdpfglpdgmphaaGreat

namespace PSL
open Go

theorem Cs.sizeL_sub {l m : List Cs} (h : l.Sublist m) : Cs.sizeL l ≤ Cs.sizeL m := by
 induction h with
 | slnil => exact Nat.le_refl _
 | cons a _ ih => simp only [Cs.sizeL]; omega
 | cons_cons a _ ih => simp only [Cs.sizeL]; omega

theorem Cs.size_mem {l : List Cs} {c : Cs} (h : c ∈ l) : Cs.size c ≤ Cs.sizeL l := by
 have := Cs.sizeL_sub (List.singleton_sublist.2 h)
 simp only [Cs.sizeL] at this; omega

structure Med (l : List Cs) : Prop where
 sm : ∀ c ∈ l, SmC c
 len : l.length ≤ 210
 size : Cs.sizeL l ≤ 3000

theorem Med.sub {l m : List Cs} (h : Med m) (hs : l.Sublist m) : Med l :=
 ⟨fun c hc => h.sm c (hs.subset hc), by have := hs.length_le; have := h.len; omega, by have := Cs.sizeL_sub hs; have := h.size; omega⟩

theorem Med.body {l : List Cs} (h : Med l) : ∀ c ∈ l, Gl.sizeL c.body ≤ 500000 := fun c hc => by
 have h1 := Cs.size_mem hc
 have h2 := h.size
 unfold Cs.size at h1; omega

theorem Med.head {l : List Cs} (h : Med l) : ∀ c ∈ l, c.head.l.length ≤ 1000000 := fun c hc => by
 have h1 := (h.sm c hc).head.1
 have h2 := Tm.size_eq c.head
 have h3 := Tm.len_le_sizeL c.head.l
 omega
theorem Med.cost {l : List Cs} (h : Med l) : cost [] l ≤ 3000 := by have := cost_size l; have := h.size; omega
theorem openG_eq (l : List Cs) : openG [] l = openD [] l := open_eq l [] [] fun _ => rfl
theorem openG_sub (l : List Cs) : (openG [] l).Sublist l := by rw [openG_eq]; exact (openD_ok l []).2.2
theorem live_sub2 (l : List Cs) : (liveL l).Sublist l := by rw [live_eq]; exact live_sub l

theorem filter_hasH (l : List Cs) (p : Sg) : ((((l.filter fun c => decide (sgOf c.head = p)).length : Int)) == 0) = !hasH l p := by
 rw [Bool.eq_iff_iff]
 simp only [beq_iff_eq, Bool.not_eq_true', Bool.eq_false_iff, ne_eq, hasH_iff]
 constructor
 ·rintro h ⟨c, hc, e⟩
  have h0 : (l.filter fun c => decide (sgOf c.head = p)).length = 0 := by omega
  have h1 := List.length_eq_zero_iff.1 h0
  have : c ∈ l.filter fun c => decide (sgOf c.head = p) := List.mem_filter.2 ⟨hc, decide_eq_true e⟩
  rw [h1] at this; cases this
 ·intro h
  have h1 : (l.filter fun c => decide (sgOf c.head = p)) = [] := by
   rw [List.filter_eq_nil_iff]
   intro c hc e
   exact h ⟨c, hc, of_decide_eq_true e⟩
  rw [h1]; rfl

theorem cleanG_eq (l : List Cs) (roots : List Sg) : ((liveL l).filter fun c => lkB (tt (reachL (liveL l) roots)) (sgOf c.head)) = cleanG l roots := by
 unfold cleanG
 congr 1
 funext c
 exact lk_tt _ _
end PSL
namespace PSL
open Go

theorem sg_same (a b : Tm) : decide (sgOf a = sgOf b) = (strEq a.s b.s && (((a.l.length : Int)) == (b.l.length : Int))) := by
 unfold sgOf
 rw [Bool.eq_iff_iff, decide_eq_true_eq, Bool.and_eq_true, beq_iff_eq, Tm.strEq_iff, Prod.mk.injEq]

theorem sg_hd (q : Sg) (s : ByteArray) (n : Int) : decide (q = (s, n)) = (strEq q.1 s && (q.2 == n)) := by
 rw [Bool.eq_iff_iff, decide_eq_true_eq, Bool.and_eq_true, beq_iff_eq, Tm.strEq_iff]
 cases q; exact Prod.mk.injEq _ _ _ _ ▸ Iff.rfl
theorem fail_dec (t : Tm) : decide (sgOf t = failS) = (strEq t.s ⟨#[102, 97, 105, 108]⟩ && (((t.l.length : Int)) == 0)) := sg_hd _ _ _

theorem varsGo_at {L : List Tm} {i : Nat} {x : Tm} (h : L[i]? = some x) : varsGo ((L.take i).map (·.n)) (L.drop i) = if x.k ≠ 1 ∨ x.n ∈ (L.take i).map (·.n) then false else varsGo ((L.take (i + 1)).map (·.n)) (L.drop (i + 1)) := by
 obtain ⟨hi, he⟩ := List.getElem?_eq_some_iff.1 h
 rw [List.drop_eq_getElem_cons hi, he, varsGo, List.take_add_one, h]
 simp
end PSL
namespace PSL
open Go
def shutB (x y : Cs) : Bool := decide (sgOf y.head = sgOf x.head) && closesB y

theorem shut_take {l : List Cs} {x z : Cs} {k : Nat} (h : l[k]? = some z) : (l.take (k + 1)).any (shutB x) = ((l.take k).any (shutB x) || shutB x z) := by
 rw [List.take_add_one, h, List.any_append]; simp

theorem openD_at {l : List Cs} {i : Nat} {x : Cs} (h : l[i]? = some x) : openD (l.take i) (l.drop i) = if (l.take i).any (shutB x) then openD (l.take (i + 1)) (l.drop (i + 1)) else x :: openD (l.take (i + 1)) (l.drop (i + 1)) := by
 obtain ⟨hi, he⟩ := List.getElem?_eq_some_iff.1 h
 rw [List.drop_eq_getElem_cons hi, he, openD, List.take_add_one, h]
 rfl

theorem aliveD_at {l L : List Cs} {i : Nat} {x : Cs} (h : l[i]? = some x) : aliveD L (l.take i) (l.drop i) = if !deadB x || !blkD i x 0 L then x :: aliveD L (l.take (i + 1)) (l.drop (i + 1)) else aliveD L (l.take (i + 1)) (l.drop (i + 1)) := by
 obtain ⟨hi, he⟩ := List.getElem?_eq_some_iff.1 h
 rw [List.drop_eq_getElem_cons hi, he, aliveD, List.take_add_one, h, List.length_take, Nat.min_eq_left (by omega)]
 rfl
end PSL
namespace PSL
open Go

theorem goCalls_grow : ∀ (ts out : List Sg) (again : Bool), out.length ≤ (goCalls out again ts).1.length
 | [], _, _ => Nat.le_refl _
 | t :: r, out, again => by
  simp only [goCalls]
  split
  ·exact goCalls_grow r out again
  ·have := goCalls_grow r (out ++ [t]) true
   rw [List.length_append] at this
   simp only [List.length_singleton] at this; omega

theorem passR_grow : ∀ (l : List Cs) (out : List Sg) (again : Bool), out.length ≤ (passR l out again).1.length
 | [], _, _ => Nat.le_refl _
 | c :: l, out, again => by
  simp only [passR]
  split
  ·exact Nat.le_trans (goCalls_grow _ out again) (passR_grow l _ _)
  ·exact passR_grow l out again

theorem left1_len (out : List Sg) : ∀ l : List Sg, left1 out l ≤ l.length
 | [] => Nat.le_refl _
 | t :: r => by have := left1_len out r; simp only [left1, List.length_cons]; split <;> omega

theorem leftR_size (out : List Sg) : ∀ l : List Cs, leftR out l ≤ Cs.sizeL l
 | [] => Nat.le_refl _
 | c :: l => by
  have := leftR_size out l
  have h1 := left1_len out (callsS c.body)
  have h2 := callsT_len c.body
  unfold callsS at h1
  rw [List.length_map] at h1
  simp only [leftR, Cs.sizeL, Cs.size, callsS]; omega
end PSL
namespace PSL
open Go

theorem iterR_len (l : List Cs) : ∀ (n : Nat) (out : List Sg), (iterR l n out).length ≤ out.length + leftR out l
 | 0, _ => Nat.le_add_right _ _
 | n + 1, out => by
  obtain ⟨ext, a1, _, a3, _, _⟩ := passR_ok l l out false fun c hc => hc
  have hl : (passR l out false).1.length = out.length + ext.length := by rw [a1, List.length_append]
  simp only [iterR]
  split
  ·have := iterR_len l n (passR l out false).1; omega
  ·omega
end PSL
namespace PSL
open Go

def thereP (l : List Cs) (roots : List Sg) : Bool := roots.all fun p => (decide (0 ≤ p.2) && decide (p.2 ≤ 8)) && hasH l p
theorem thereP_cons (l : List Cs) (p : Sg) (r : List Sg) : thereP l (p :: r) = ((decide (0 ≤ p.2) && decide (p.2 ≤ 8)) && hasH l p && thereP l r) := rfl

theorem thereP_ok {l : List Cs} (h : (checkR l).2 = 0) (roots : List Sg) : thereP l roots = roots.all (hasH l) := by
 unfold thereP
 induction roots with
 | nil => rfl
 | cons p r ih =>
  simp only [List.all_cons]
  rw [ih]
  congr 1
  cases hp : hasH l p with
  | false => simp
  | true =>
   obtain ⟨h1, h2⟩ := root_len h hp
   rw [decide_eq_true h1, decide_eq_true h2]; rfl
end PSL

namespace Go.Proofs.YthdpfglpdgmphaaGreat
open Go PSL Go.Proofs
def pY : YP := ⟨[], fun _ => true⟩

set_option maxRecDepth 100000 in
theorem reached_ok (l : List Cs) (roots : List Sg) (hl : Med l) (hr : roots.length ≤ 1000) : PCtr Tryz.prog 17 [prV l, .d (.sl (sgR roots))] (.d (.sl (sgR (reachedP l roots)))) := by
 have hlen := hl.len
 have hco := hl.cost
 refine PCtr.of_R (pf := fun _ => .eff) tyOk mixed Tryz.func17 rfl (by kernel_rfl) (by kernel_rfl) (by simp [Tryz.ntmps17]) fun w S hg => ?_
 refine R_run hg.ok 1000 rfl rfl ?_
 refine R_callSO hg.ok hg.gup ⟨rfl, rfl⟩ (fun _ _ _ _ h => by cases h) [] ([.box [.d (.sl (Cs.rows l))], .map (kmap (bM (tt (reachL l roots))))]) (reach_ok pY l roots (by omega) (by omega) hl.body) (fun _ => rfl) rfl rfl rfl rfl rfl rfl rfl (by simp only [List.map_cons, List.map_nil, renOb_b]; rfl) ?_
 refine R_run hg.ok 1000 rfl rfl ?_
 refine R_own 6 2 rfl rfl ?_
 refine R_loop (fun x : Nat × List (Sg × Bool) × List Sg × Nat => ([(5, .mp 1), (6, .ow 2 x.2.2.2), (15, .d (.sl (Cs.rows l))), (16, iV l.length), (17, iV x.1)], [.box [.d (.sl (Cs.rows l))], .map (kmap (bM x.2.1)), .arr 2 x.2.2.2 (sgR x.2.2.1)])) (fun x => x.1 ≤ l.length ∧ reachedP l roots = x.2.2.1 ++ reachedG x.2.1 (l.drop x.1) ∧ x.2.2.1.length ≤ x.1) (fun x => l.length - x.1) (0, tt (reachL l roots), [], 0) ⟨Nat.zero_le _, rfl, Nat.le_refl _⟩ ⟨.refl _, .refl _, .refl _, by rw [Cs.rows_len]; exact .refl _, .refl _, trivial⟩ rfl ?_
 rintro ⟨k, m, out, j⟩ ⟨hk, hm, ho⟩
 simp only at hk hm ho
 refine R_run hg.ok 1000 rfl rfl ?_
 refine R_if rfl rfl (fun h => ?_) (fun h => ?_) <;> refine R_run hg.ok 1000 rfl rfl ?_
 ·have hk1 : k < l.length := lt_dec h rfl
  have e1 : l[k]? = some l[k] := List.getElem?_eq_getElem hk1
  rw [List.drop_eq_getElem_cons hk1] at hm
  generalize l[k] = c at e1 hm
  simp only [reachedG] at hm
  refine R_index hg.ok rfl rfl rfl rfl rfl rfl (Int.natCast_nonneg _) (Cs.rows_get e1) rfl ?_
  refine R_run hg.ok 1000 rfl rfl ?_
  refine R_call hg.ok (rootOf_ok c.head) rfl rfl rfl rfl rfl rfl ?_
  refine R_run hg.ok 1000 rfl rfl ?_
  refine R_lookupB hg.ok (sgOf c.head) m rootKey rfl rfl rfl rfl rfl rfl (by kernel_rfl) ?_
  refine R_run hg.ok 1000 rfl rfl ?_
  refine R_if rfl rfl (fun h2 => ?_) (fun h2 => ?_) <;> refine R_run hg.ok 1000 rfl rfl ?_
  ·rw [if_pos h2] at hm
   refine R_appendO hg.ok (sgR (out ++ [sgOf c.head])) rfl rfl rfl rfl rfl rfl rfl rfl rfl (by simp) (by simp [one1]) (sgR_snoc out _) (by rw [sgR_len]; simp; omega) (by rw [sgR_len]; simp; omega) ?_
   refine R_run hg.ok 1000 rfl rfl ?_
   refine R_setB hg.ok (sgOf c.head) m false rootKey rfl rfl rfl rfl rfl rfl (by first | exact .ff | exact .refl _) ?_
   refine R_run hg.ok 1000 rfl rfl ?_
   refine R_dropO 3 [.box [.d (.sl (Cs.rows l))], .map (kmap (bM (stB m (sgOf c.head) false))), .arr 2 (Nat.succ j) (sgR (out ++ [sgOf c.head]))] (Nat.zero_le _) rfl (by simp only [List.take_succ_cons, List.take_zero, List.map_cons, List.map_nil, mapOb_b (f := trimA 3) (fun _ => rfl)]; rfl) ?_
   exact R_next (k + 1, stB m (sgOf c.head) false, out ++ [sgOf c.head], Nat.succ j) ⟨hk1, by rw [hm]; simp, by simp only [List.length_append, List.length_singleton]; omega⟩ (by simp only; omega) ⟨.refl _, .refl _, .refl _, .refl _, Ent.wrap (by simp only; omega) (by simp only; omega) (by simp only; omega), trivial⟩ rfl
  ·rw [if_neg (by rw [h2]; simp)] at hm
   refine R_dropO 3 [.box [.d (.sl (Cs.rows l))], .map (kmap (bM m)), .arr 2 j (sgR out)] (Nat.zero_le _) rfl (by simp only [List.take_succ_cons, List.take_zero, List.map_cons, List.map_nil, mapOb_b (f := trimA 3) (fun _ => rfl)]; rfl) ?_
   exact R_next (k + 1, m, out, j) ⟨hk1, hm, by simp only; omega⟩ (by simp only; omega) ⟨.refl _, .refl _, .refl _, .refl _, Ent.wrap (by simp only; omega) (by simp only; omega) (by simp only; omega), trivial⟩ rfl
 ·have hk1 : l.length ≤ k := ge_dec h rfl
  rw [List.drop_eq_nil_of_le hk1] at hm
  simp only [reachedG, List.append_nil] at hm
  rw [hm]
  refine R_ret hg 5 rfl (sealA_ow rfl) ?_
  rfl

set_option maxRecDepth 100000 in
theorem clean_ok (l : List Cs) (roots : List Sg) (hl : Med l) (hr : roots.length ≤ 1000) : PCtr Tryz.prog 20 [prV l, .d (.sl (sgR roots))] (.tup [prV (cleanA l roots).1, iV (cleanA l roots).2]) := by
 have hlen := hl.len
 refine PCtr.of_R (pf := fun _ => .eff) tyOk mixed Tryz.func20 rfl (by kernel_rfl) (by kernel_rfl) (by simp [Tryz.ntmps20]) fun w S hg => ?_
 refine R_run hg.ok 1000 rfl rfl ?_
 refine R_call hg.ok (check_ok l hl.sm) rfl rfl rfl rfl rfl rfl ?_
 refine R_run hg.ok 1000 rfl rfl ?_
 refine R_if rfl rfl (fun h => ?_) (fun h => ?_) <;> refine R_run hg.ok 1000 rfl rfl ?_
 ·have h0 : (checkR l).2 ≠ 0 := by simpa using h
  have e : cleanA l roots = ([], 1) := by unfold cleanA; rw [if_pos h0]
  rw [e]
  refine R_ret hg 5 rfl rfl ?_
  rfl
 have h0 : (checkR l).2 = 0 := by simpa using h
 have e : cleanA l roots = if roots.all (hasH l) then (cleanG l roots, 0) else ([], 1) := by unfold cleanA; rw [if_neg (by rw [h0]; simp)]
 refine R_loop (fun k : Nat => ([(1, .d (.sl (sgR roots))), (2, .lo 0 0), (4, .lo 1 0), (20, .d (.sl (sgR roots))), (21, iV roots.length), (22, iV k)], [.box [.d (.sl (Cs.rows l))], .box [.d (.v (.slice none 0 0))]])) (fun k => k ≤ roots.length ∧ roots.all (hasH l) = (roots.drop k).all (hasH l)) (fun k => roots.length - k) 0 ⟨Nat.zero_le _, rfl⟩ ⟨.refl _, .refl _, .refl _, .refl _, by rw [sgR_len]; exact .refl _, .refl _, trivial⟩ rfl ?_
 rintro k ⟨hk, hm⟩
 refine R_run hg.ok 1000 rfl rfl ?_
 refine R_if rfl rfl (fun h => ?_) (fun h => ?_) <;> refine R_run hg.ok 1000 rfl rfl ?_
 ·have hk1 : k < roots.length := lt_dec h rfl
  have e1 : roots[k]? = some roots[k] := List.getElem?_eq_getElem hk1
  rw [List.drop_eq_getElem_cons hk1, List.all_cons] at hm
  generalize roots[k] = p at e1 hm
  refine R_index hg.ok rfl rfl rfl rfl rfl rfl (Int.natCast_nonneg _) (sgR_get e1) rfl ?_
  refine R_run hg.ok 1000 rfl rfl ?_
  refine R_callSO hg.ok hg.gup ⟨rfl, rfl⟩ (fun _ _ _ _ h => by cases h) [2] ([.box [.d (.sl (Cs.rows l))], .box [.d (.v (.slice none 0 0))], rtBox p]) (leftIs_ok pY p l (by omega)) (fun _ => rfl) rfl rfl rfl rfl rfl rfl rfl rfl ?_
  refine R_run hg.ok 1000 rfl rfl ?_
  rw [Cs.rows_len, filter_hasH]
  refine R_if rfl rfl (fun h2 => ?_) (fun h2 => ?_) <;> refine R_run hg.ok 1000 rfl rfl ?_
  ·have h3 : hasH l p = false := by simpa using h2
   rw [h3] at hm
   rw [hm] at e
   simp only [Bool.false_and, Bool.false_eq_true, if_false] at e
   rw [e]
   refine R_ret hg 5 rfl rfl ?_
   rfl
  ·have h3 : hasH l p = true := by simpa using h2
   rw [h3, Bool.true_and] at hm
   refine R_dropO 2 [.box [.d (.sl (Cs.rows l))], .box [.d (.v (.slice none 0 0))]] (Nat.zero_le _) rfl rfl ?_
   exact R_next (k + 1) ⟨hk1, hm⟩ (by omega) ⟨.refl _, .refl _, .refl _, .refl _, .refl _, Ent.wrap (by omega) (by omega) (by omega), trivial⟩ rfl
 ·have hk1 : roots.length ≤ k := ge_dec h rfl
  rw [List.drop_eq_nil_of_le hk1] at hm
  rw [hm] at e
  simp only [List.all_nil, if_true] at e
  rw [e]
  have hop := hl.sub (openG_sub l)
  have hlv := hl.sub (live_sub2 l)
  have hlo := hop.len
  have hlv2 := hlv.len
  have hco := hlv.cost
  refine R_call hg.ok (cleanOpen_ok l (by omega) hl.head) rfl rfl rfl rfl rfl rfl ?_
  refine R_run hg.ok 1000 rfl rfl ?_
  refine R_call hg.ok (cleanAlive_ok (openG [] l) (by omega)) rfl rfl rfl rfl rfl rfl ?_
  refine R_run hg.ok 1000 rfl rfl ?_
  refine R_callSO hg.ok hg.gup ⟨rfl, rfl⟩ (fun _ _ _ _ h => by cases h) [] ([.box [.d (.sl (Cs.rows l))], .box [.d (.v (.slice none 0 0))], .map (kmap (bM (tt (reachL (liveL l) roots))))]) (reach_ok pY (liveL l) roots (by omega) (by omega) hlv.body) (fun _ => rfl) rfl rfl rfl rfl rfl rfl rfl (by simp only [List.map_cons, List.map_nil, renOb_b]; rfl) ?_
  refine R_run hg.ok 1000 rfl rfl ?_
  refine R_callSO hg.ok hg.gup ⟨rfl, rfl⟩ (fun _ _ _ _ h => by cases h) [3, 2] ([.box [.d (.sl (Cs.rows l))], .box [.d (.v (.slice none 0 0))], .map (kmap (bM (tt (reachL (liveL l) roots)))), .box [.mp 2]]) (leftMet_ok pY (tt (reachL (liveL l) roots)) (liveL l) (by omega)) (fun _ => rfl) rfl rfl rfl rfl rfl (by simp only [mpO, List.map_cons, List.map_nil, renOb_b]; rfl) rfl (by simp only [mpO, List.map_cons, List.map_nil, renOb_b]; rfl) ?_
  rw [cleanG_eq]
  refine R_run hg.ok 1000 rfl rfl ?_
  refine R_ret hg 5 rfl rfl ?_
  rfl
end Go.Proofs.YthdpfglpdgmphaaGreat

namespace Go.Proofs.YthdpfglpdgmphaaGreat
open Go PSL Go.Proofs

set_option maxRecDepth 100000 in
theorem refSame21_ok (a b : Tm) : PCtr Tryz.prog 73 [a.av, b.av] (bV (decide (sgOf a = sgOf b))) := by
 rw [sg_same]
 refine PCtr.of_R (pf := fun _ => .still) tyOk mixed Tryz.func73 rfl (by kernel_rfl) (by kernel_rfl) (by simp [Tryz.ntmps73]) fun w S hg => ?_
 refine R_run hg.ok 1000 rfl rfl ?_
 refine R_if rfl rfl (fun h => ?_) (fun h => ?_) <;> refine R_run hg.ok 1000 rfl rfl ?_
 ·refine R_ret hg 5 rfl rfl ?_
  rw [h, Tm.rows_length, Tm.rows_length]; rfl
 ·refine R_ret hg 5 rfl rfl ?_
  rw [h]; rfl

set_option maxRecDepth 100000 in
theorem refHas21_ok (l : List Sg) (s : ByteArray) (n : Int) (hl : l.length ≤ 1000000) : PCtr Tryz.prog 41 [.d (.sl (sgR l)), .d (.v (.string s)), iV n] (bV (hasS l (s, n))) := by
 refine PCtr.of_R (pf := fun _ => .still) tyOk mixed Tryz.func41 rfl (by kernel_rfl) (by kernel_rfl) (by simp [Tryz.ntmps41]) fun w S hg => ?_
 refine R_run hg.ok 1000 rfl rfl ?_
 refine R_loop (fun k : Nat => ([(0, .d (.sl (sgR l))), (1, .d (.v (.string s))), (2, iV n), (7, iV k)], [])) (fun k => k ≤ l.length ∧ hasS l (s, n) = hasS (l.drop k) (s, n)) (fun k => l.length - k) 0 ⟨Nat.zero_le _, rfl⟩ ⟨.refl _, .refl _, .refl _, .refl _, trivial⟩ rfl ?_
 rintro k ⟨hk, hm⟩
 refine R_run hg.ok 1000 rfl rfl ?_
 refine R_if rfl rfl (fun h => ?_) (fun h => ?_) <;> refine R_run hg.ok 1000 rfl rfl ?_
 ·have hk1 : k < l.length := lt_dec h (by rw [sgR_len])
  have e1 : l[k]? = some l[k] := List.getElem?_eq_getElem hk1
  rw [List.drop_eq_getElem_cons hk1, hasS_cons, sg_hd] at hm
  generalize l[k] = q at e1 hm
  refine R_index hg.ok rfl rfl rfl rfl rfl rfl (Int.natCast_nonneg _) (sgR_get e1) rfl ?_
  refine R_run hg.ok 1000 rfl rfl ?_
  have nx : (strEq q.1 s && (q.2 == n)) = false → hasS l (s, n) = hasS (l.drop (k + 1)) (s, n) := fun h => by rw [hm, h, Bool.false_or]
  cases h2 : strEq q.1 s with
  | false =>
   rw [h2] at nx
   refine R_if rfl rfl (fun h => absurd h (by simp [h2])) (fun _ => ?_) <;> refine R_run hg.ok 1000 rfl rfl ?_
   exact R_next (k + 1) ⟨hk1, nx rfl⟩ (by omega) ⟨.refl _, .refl _, .refl _, Ent.wrap (by omega) (by omega) (by omega), trivial⟩ rfl
  | true =>
   rw [h2] at nx hm
   refine R_if rfl rfl (fun _ => ?_) (fun h => absurd h (by simp [h2])) <;> refine R_run hg.ok 1000 rfl rfl ?_
   refine R_index hg.ok rfl rfl rfl rfl rfl rfl (Int.natCast_nonneg _) (sgR_get e1) rfl ?_
   refine R_run hg.ok 1000 rfl rfl ?_
   refine R_if rfl rfl (fun h3 => ?_) (fun h3 => ?_) <;> refine R_run hg.ok 1000 rfl rfl ?_
   ·rw [h3] at hm
    refine R_ret hg 5 rfl rfl ?_
    rw [hm]; rfl
   ·rw [h3] at nx
    exact R_next (k + 1) ⟨hk1, nx rfl⟩ (by omega) ⟨.refl _, .refl _, .refl _, Ent.wrap (by omega) (by omega) (by omega), trivial⟩ rfl
 ·have hk1 : l.length ≤ k := ge_dec h (by rw [sgR_len])
  rw [hm, List.drop_eq_nil_of_le hk1]
  refine R_ret hg 5 rfl rfl ?_
  rfl

set_option maxRecDepth 100000 in
theorem refDead21_ok (x : Cs) : PCtr Tryz.prog 72 [x.av] (bV (deadB x)) := by
 refine PCtr.of_R (pf := fun _ => .still) tyOk mixed Tryz.func72 rfl (by kernel_rfl) (by kernel_rfl) (by simp [Tryz.ntmps72]) fun w S hg => ?_
 refine R_run hg.ok 1000 rfl rfl ?_
 refine R_if rfl rfl (fun h => ?_) (fun h => ?_) <;> refine R_run hg.ok 1000 rfl rfl ?_
 ·obtain ⟨g, r, hb, e1⟩ := body_pos h
  have e : deadB x = ((g.k == 2) && (strEq g.t.s ⟨#[102, 97, 105, 108]⟩ && (((g.t.l.length : Int)) == 0))) := by unfold deadB; rw [hb]; simp only [fail_dec]
  rw [e]
  refine R_index hg.ok rfl rfl rfl rfl rfl rfl (Int.le_refl 0) (Gl.rows_get (i := 0) e1) rfl ?_
  refine R_run hg.ok 1000 rfl rfl ?_
  refine R_if rfl rfl (fun h2 => ?_) (fun h2 => ?_) <;> refine R_run hg.ok 1000 rfl rfl ?_
  ·refine R_index hg.ok rfl rfl rfl rfl rfl rfl (Int.le_refl 0) (Gl.rows_get (i := 0) e1) rfl ?_
   refine R_run hg.ok 1000 rfl rfl ?_
   refine R_if rfl rfl (fun h3 => ?_) (fun h3 => ?_) <;> refine R_run hg.ok 1000 rfl rfl ?_
   ·refine R_index hg.ok rfl rfl rfl rfl rfl rfl (Int.le_refl 0) (Gl.rows_get (i := 0) e1) rfl ?_
    refine R_run hg.ok 1000 rfl rfl ?_
    refine R_ret hg 5 rfl rfl ?_
    rw [h2, h3, Tm.rows_length]; rfl
   ·refine R_ret hg 5 rfl rfl ?_
    rw [h2, h3]; rfl
  ·refine R_ret hg 5 rfl rfl ?_
   rw [h2]; rfl
 ·refine R_ret hg 5 rfl rfl ?_
  unfold deadB
  rw [body_nil h]; rfl

set_option maxRecDepth 100000 in
theorem refCloses_ok (x : Cs) (hl : x.head.l.length ≤ 1000000) : PCtr Tryz.prog 74 [x.av] (bV (closesB x)) := by
 refine PCtr.of_R (pf := fun _ => .still) tyOk mixed Tryz.func74 rfl (by kernel_rfl) (by kernel_rfl) (by simp [Tryz.ntmps74]) fun w S hg => ?_
 refine R_run hg.ok 1000 rfl rfl ?_
 refine R_loop (fun i : Nat => ([(1, .lo 0 0), (3, iV i)], [csBox x])) (fun i => i ≤ x.head.l.length ∧ varsGo [] x.head.l = varsGo ((x.head.l.take i).map (·.n)) (x.head.l.drop i)) (fun i => x.head.l.length - i) 0 ⟨Nat.zero_le _, rfl⟩ ⟨.refl _, .refl _, trivial⟩ rfl ?_
 rintro i ⟨hi, hm⟩
 refine R_run hg.ok 1000 rfl rfl ?_
 refine R_if rfl rfl (fun h => ?_) (fun h => ?_) <;> refine R_run hg.ok 1000 rfl rfl ?_
 ·have hi1 : i < x.head.l.length := lt_dec h (by rw [Tm.rows_length])
  have e1 : x.head.l[i]? = some x.head.l[i] := List.getElem?_eq_getElem hi1
  generalize x.head.l[i] = y at e1
  rw [varsGo_at e1] at hm
  refine R_index hg.ok rfl rfl rfl rfl rfl rfl (Int.natCast_nonneg _) (Tm.rows_get e1) rfl ?_
  refine R_run hg.ok 1000 rfl rfl ?_
  by_cases c1 : y.k = 1
  ·refine R_if rfl rfl (fun h => absurd h (by simp [c1])) (fun _ => ?_) <;> refine R_run hg.ok 1000 rfl rfl ?_
   refine R_loop (fun k : Nat => ([(1, .lo 0 0), (3, iV i), (4, iV k)], [csBox x])) (fun k => k ≤ i ∧ y.n ∉ (x.head.l.take k).map (·.n)) (fun k => i - k) 0 ⟨Nat.zero_le _, by simp⟩ ⟨.refl _, .refl _, .refl _, trivial⟩ rfl ?_
   rintro k ⟨hk, hn⟩
   refine R_run hg.ok 1000 rfl rfl ?_
   refine R_if rfl rfl (fun h => ?_) (fun h => ?_) <;> refine R_run hg.ok 1000 rfl rfl ?_
   ·have hk1 : k < i := lt_dec h rfl
    have e2 : x.head.l[k]? = some x.head.l[k] := List.getElem?_eq_getElem (by omega)
    generalize x.head.l[k] = z at e2
    refine R_index hg.ok rfl rfl rfl rfl rfl rfl (Int.natCast_nonneg _) (Tm.rows_get e2) rfl ?_
    refine R_run hg.ok 1000 rfl rfl ?_
    refine R_index hg.ok rfl rfl rfl rfl rfl rfl (Int.natCast_nonneg _) (Tm.rows_get e1) rfl ?_
    refine R_run hg.ok 1000 rfl rfl ?_
    refine R_if rfl rfl (fun h3 => ?_) (fun h3 => ?_) <;> refine R_run hg.ok 1000 rfl rfl ?_
    ·have h4 : z.n = y.n := by simpa using h3
     have hin : y.n ∈ (x.head.l.take i).map (·.n) := List.mem_map.2 ⟨z, List.mem_of_getElem? (i := k) (by rw [List.getElem?_take_of_lt hk1]; exact e2), h4⟩
     rw [if_pos (.inr hin)] at hm
     refine R_ret hg 5 rfl rfl ?_
     unfold closesB
     rw [hm]; rfl
    ·have h4 : ¬ z.n = y.n := by simpa using h3
     refine R_next (k + 1) ⟨hk1, ?_⟩ (by omega) ⟨.refl _, .refl _, Ent.wrap (by omega) (by omega) (by omega), trivial⟩ rfl
     rw [List.take_add_one, e2]
     simp only [List.map_append, Option.toList_some, List.map_cons, List.map_nil, List.mem_append, List.mem_singleton]
     rintro (h | h)
     ·exact hn h
     ·exact h4 h.symm
   ·have hk1 : i ≤ k := ge_dec h rfl
    have hki : k = i := by omega
    subst hki
    rw [if_neg (by rintro (h | h) <;> contradiction)] at hm
    exact R_next (k + 1) ⟨hi1, hm⟩ (by omega) ⟨.refl _, Ent.wrap (by omega) (by omega) (by omega), trivial⟩ rfl
  ·refine R_if rfl rfl (fun _ => ?_) (fun h => absurd h (by simp [c1])) <;> refine R_run hg.ok 1000 rfl rfl ?_
   rw [if_pos (.inl c1)] at hm
   refine R_ret hg 5 rfl rfl ?_
   unfold closesB
   rw [hm]; rfl
 ·have hi1 : x.head.l.length ≤ i := ge_dec h (by rw [Tm.rows_length])
  rw [List.drop_eq_nil_of_le hi1] at hm
  have hc : closesB x = bodyK x 3 := by unfold closesB; rw [hm]; rfl
  rw [hc]
  refine R_if rfl rfl (fun h => ?_) (fun h => ?_) <;> refine R_run hg.ok 1000 rfl rfl ?_
  ·obtain ⟨g, r, hb, e1⟩ := body_pos h
   refine R_index hg.ok rfl rfl rfl rfl rfl rfl (Int.le_refl 0) (Gl.rows_get (i := 0) e1) rfl ?_
   refine R_run hg.ok 1000 rfl rfl ?_
   refine R_ret hg 5 rfl rfl ?_
   unfold bodyK
   rw [hb]; rfl
  ·refine R_ret hg 5 rfl rfl ?_
   unfold bodyK
   rw [body_nil h]; rfl
end Go.Proofs.YthdpfglpdgmphaaGreat

namespace Go.Proofs.YthdpfglpdgmphaaGreat
open Go PSL Go.Proofs

set_option maxRecDepth 100000 in
theorem refOpen_ok (l : List Cs) (hl : l.length ≤ 1000000) (hh : ∀ c ∈ l, c.head.l.length ≤ 1000000) : PCtr Tryz.prog 49 [.d (.sl (Cs.rows l))] (.d (.sl (Cs.rows (openD [] l)))) := by
 refine PCtr.of_R (pf := fun _ => .still) tyOk mixed Tryz.func49 rfl (by kernel_rfl) (by kernel_rfl) (by simp [Tryz.ntmps49]) fun w S hg => ?_
 refine R_run hg.ok 1000 rfl rfl ?_
 refine R_own 3 6 rfl rfl ?_
 refine R_loop (fun x : Nat × List Cs × Nat => ([(0, .d (.sl (Cs.rows l))), (3, .ow 0 x.2.2), (4, iV x.1)], [.arr 6 x.2.2 (Cs.rows x.2.1)])) (fun x => x.1 ≤ l.length ∧ openD [] l = x.2.1 ++ openD (l.take x.1) (l.drop x.1) ∧ x.2.1.length ≤ x.1) (fun x => l.length - x.1) (0, [], 0) ⟨Nat.zero_le _, rfl, Nat.le_refl _⟩ ⟨.refl _, .refl _, .refl _, trivial⟩ rfl ?_
 rintro ⟨i, out, j⟩ ⟨hi, hm, ho⟩
 simp only at hi hm ho
 refine R_run hg.ok 1000 rfl rfl ?_
 refine R_if rfl rfl (fun h => ?_) (fun h => ?_) <;> refine R_run hg.ok 1000 rfl rfl ?_
 ·have hi1 : i < l.length := lt_dec h (by rw [Cs.rows_len])
  have e1 : l[i]? = some l[i] := List.getElem?_eq_getElem hi1
  generalize l[i] = x at e1
  rw [openD_at e1] at hm
  refine R_loop (fun y : Nat × Bool => ([(0, .d (.sl (Cs.rows l))), (3, .ow 0 j), (4, iV i), (5, bV y.2), (6, iV y.1)], [.arr 6 j (Cs.rows out)])) (fun y => y.1 ≤ i ∧ y.2 = !(l.take y.1).any (shutB x)) (fun y => i - y.1) (0, true) ⟨Nat.zero_le _, rfl⟩ ⟨.refl _, .refl _, .refl _, by first | exact .tt | exact .refl _, .refl _, trivial⟩ rfl ?_
  rintro ⟨k, ok⟩ ⟨hk, hok⟩
  simp only at hk hok
  refine R_run hg.ok 1000 rfl rfl ?_
  refine R_if rfl rfl (fun h => ?_) (fun h => ?_) <;> refine R_run hg.ok 1000 rfl rfl ?_
  ·have hk1 : k < i := lt_dec h rfl
   have e2 : l[k]? = some l[k] := List.getElem?_eq_getElem (by omega)
   have hmem : l[k] ∈ l := List.getElem_mem (by omega)
   generalize l[k] = z at e2 hmem
   have hs := shut_take (x := x) e2
   refine R_index hg.ok rfl rfl rfl rfl rfl rfl (Int.natCast_nonneg _) (Cs.rows_get e2) rfl ?_
   refine R_run hg.ok 1000 rfl rfl ?_
   refine R_index hg.ok rfl rfl rfl rfl rfl rfl (Int.natCast_nonneg _) (Cs.rows_get e1) rfl ?_
   refine R_run hg.ok 1000 rfl rfl ?_
   refine R_call hg.ok (refSame21_ok z.head x.head) rfl rfl rfl rfl rfl rfl ?_
   refine R_run hg.ok 1000 rfl rfl ?_
   cases h2 : decide (sgOf z.head = sgOf x.head) with
   | false =>
    refine R_if rfl rfl (fun h => absurd h (by simp)) (fun _ => ?_) <;> refine R_run hg.ok 1000 rfl rfl ?_
    exact R_next (k + 1, ok) ⟨hk1, by rw [hs]; unfold shutB; rw [h2, Bool.false_and, Bool.or_false]; exact hok⟩ (by simp only; omega) ⟨.refl _, .refl _, .refl _, .refl _, Ent.wrap (by simp only; omega) (by simp only; omega) (by simp only; omega), trivial⟩ rfl
   | true =>
    refine R_if rfl rfl (fun _ => ?_) (fun h => absurd h (by simp)) <;> refine R_run hg.ok 1000 rfl rfl ?_
    refine R_index hg.ok rfl rfl rfl rfl rfl rfl (Int.natCast_nonneg _) (Cs.rows_get e2) rfl ?_
    refine R_run hg.ok 1000 rfl rfl ?_
    refine R_call hg.ok (refCloses_ok z (hh z hmem)) rfl rfl rfl rfl rfl rfl ?_
    refine R_run hg.ok 1000 rfl rfl ?_
    refine R_if rfl rfl (fun h3 => ?_) (fun h3 => ?_) <;> refine R_run hg.ok 1000 rfl rfl ?_
    ·exact R_next (k + 1, false) ⟨hk1, by rw [hs]; unfold shutB; rw [h2, h3]; simp⟩ (by simp only; omega) ⟨.refl _, .refl _, .refl _, by first | exact .ff | exact .refl _, Ent.wrap (by simp only; omega) (by simp only; omega) (by simp only; omega), trivial⟩ rfl
    ·exact R_next (k + 1, ok) ⟨hk1, by rw [hs]; unfold shutB; rw [h3, Bool.and_false, Bool.or_false]; exact hok⟩ (by simp only; omega) ⟨.refl _, .refl _, .refl _, .refl _, Ent.wrap (by simp only; omega) (by simp only; omega) (by simp only; omega), trivial⟩ rfl
  ·have hk1 : i ≤ k := ge_dec h rfl
   have hki : k = i := by omega
   subst hki
   refine R_if rfl rfl (fun h3 => ?_) (fun h3 => ?_) <;> refine R_run hg.ok 1000 rfl rfl ?_
   ·have h4 : (l.take k).any (shutB x) = false := by rw [show ok = true from h3] at hok; simpa using hok
    rw [if_neg (by rw [h4]; simp)] at hm
    refine R_index hg.ok rfl rfl rfl rfl rfl rfl (Int.natCast_nonneg _) (Cs.rows_get e1) rfl ?_
    refine R_run hg.ok 1000 rfl rfl ?_
    refine R_appendO hg.ok (Cs.rows (out ++ [x])) rfl rfl rfl rfl rfl rfl rfl rfl rfl (by simp) (by simp [one1]) (Cs.rows_snoc out x) (by rw [Cs.rows_len]; simp; omega) (by rw [Cs.rows_len]; simp; omega) ?_
    refine R_run hg.ok 1000 rfl rfl ?_
    exact R_next (k + 1, out ++ [x], Nat.succ j) ⟨hi1, by rw [hm]; simp, by simp only [List.length_append, List.length_singleton]; omega⟩ (by simp only; omega) ⟨.refl _, .refl _, Ent.wrap (by simp only; omega) (by simp only; omega) (by simp only; omega), trivial⟩ rfl
   ·have h4 : (l.take k).any (shutB x) = true := by rw [show ok = false from h3] at hok; simpa using hok
    rw [if_pos h4] at hm
    exact R_next (k + 1, out, j) ⟨hi1, hm, by simp only; omega⟩ (by simp only; omega) ⟨.refl _, .refl _, Ent.wrap (by simp only; omega) (by simp only; omega) (by simp only; omega), trivial⟩ rfl
 ·have hi1 : l.length ≤ i := ge_dec h (by rw [Cs.rows_len])
  rw [List.drop_eq_nil_of_le hi1] at hm
  simp only [openD, List.append_nil] at hm
  rw [hm]
  refine R_ret hg 5 rfl (sealA_ow rfl) ?_
  rfl

set_option maxRecDepth 100000 in
theorem refAlive_ok (l : List Cs) (hl : l.length ≤ 1000000) : PCtr Tryz.prog 48 [.d (.sl (Cs.rows l))] (.d (.sl (Cs.rows (aliveD l [] l)))) := by
 refine PCtr.of_R (pf := fun _ => .still) tyOk mixed Tryz.func48 rfl (by kernel_rfl) (by kernel_rfl) (by simp [Tryz.ntmps48]) fun w S hg => ?_
 refine R_run hg.ok 1000 rfl rfl ?_
 refine R_own 3 6 rfl rfl ?_
 refine R_loop (fun x : Nat × List Cs × Nat => ([(0, .d (.sl (Cs.rows l))), (3, .ow 0 x.2.2), (4, iV x.1)], [.arr 6 x.2.2 (Cs.rows x.2.1)])) (fun x => x.1 ≤ l.length ∧ aliveD l [] l = x.2.1 ++ aliveD l (l.take x.1) (l.drop x.1) ∧ x.2.1.length ≤ x.1) (fun x => l.length - x.1) (0, [], 0) ⟨Nat.zero_le _, rfl, Nat.le_refl _⟩ ⟨.refl _, .refl _, .refl _, trivial⟩ rfl ?_
 rintro ⟨i, out, j⟩ ⟨hi, hm, ho⟩
 simp only at hi hm ho
 refine R_run hg.ok 1000 rfl rfl ?_
 refine R_if rfl rfl (fun h => ?_) (fun h => ?_) <;> refine R_run hg.ok 1000 rfl rfl ?_
 ·have hi1 : i < l.length := lt_dec h (by rw [Cs.rows_len])
  have e1 : l[i]? = some l[i] := List.getElem?_eq_getElem hi1
  generalize l[i] = x at e1
  rw [aliveD_at e1] at hm
  refine R_index hg.ok rfl rfl rfl rfl rfl rfl (Int.natCast_nonneg _) (Cs.rows_get e1) rfl ?_
  refine R_run hg.ok 1000 rfl rfl ?_
  refine R_call hg.ok (refDead21_ok x) rfl rfl rfl rfl rfl rfl ?_
  refine R_run hg.ok 1000 rfl rfl ?_
  refine R_cut1 (fun ok : Bool => ([(0, .d (.sl (Cs.rows l))), (3, .ow 0 j), (4, iV i), (5, bV ok)], [.arr 6 j (Cs.rows out)])) (fun ok => ok = (!deadB x || !blkD i x 0 l)) rfl ?_ ?_
  ·cases hd : deadB x with
   | false =>
    refine R_if rfl rfl (fun h => absurd h (by simp [hd])) (fun _ => ?_) <;> refine R_run hg.ok 1000 rfl rfl ?_
    exact R_to true rfl ⟨.refl _, .refl _, .refl _, by first | exact .tt | exact .refl _, trivial⟩ rfl
   | true =>
    refine R_if rfl rfl (fun _ => ?_) (fun h => absurd h (by simp [hd])) <;> refine R_run hg.ok 1000 rfl rfl ?_
    refine R_loop (fun y : Nat × Bool => ([(0, .d (.sl (Cs.rows l))), (3, .ow 0 j), (4, iV i), (5, bV y.2), (6, iV y.1)], [.arr 6 j (Cs.rows out)])) (fun y => y.1 ≤ l.length ∧ (!blkD i x 0 l) = (y.2 && !blkD i x y.1 (l.drop y.1))) (fun y => l.length - y.1) (0, true) ⟨Nat.zero_le _, rfl⟩ ⟨.refl _, .refl _, .refl _, by first | exact .tt | exact .refl _, .refl _, trivial⟩ rfl ?_
    rintro ⟨k, ok⟩ ⟨hk, hok⟩
    simp only at hk hok
    refine R_run hg.ok 1000 rfl rfl ?_
    refine R_if rfl rfl (fun h => ?_) (fun h => ?_) <;> refine R_run hg.ok 1000 rfl rfl ?_
    ·have hk1 : k < l.length := lt_dec h (by rw [Cs.rows_len])
     have e2 : l[k]? = some l[k] := List.getElem?_eq_getElem hk1
     rw [List.drop_eq_getElem_cons hk1, blkD] at hok
     generalize l[k] = z at e2 hok
     refine R_index hg.ok rfl rfl rfl rfl rfl rfl (Int.natCast_nonneg _) (Cs.rows_get e2) rfl ?_
     refine R_run hg.ok 1000 rfl rfl ?_
     refine R_index hg.ok rfl rfl rfl rfl rfl rfl (Int.natCast_nonneg _) (Cs.rows_get e1) rfl ?_
     refine R_run hg.ok 1000 rfl rfl ?_
     refine R_call hg.ok (refSame21_ok z.head x.head) rfl rfl rfl rfl rfl rfl ?_
     refine R_run hg.ok 1000 rfl rfl ?_
     have nx : (decide (sgOf z.head = sgOf x.head) && (decide (k < i) || !deadB z)) = false → (!blkD i x 0 l) = (ok && !blkD i x (k + 1) (l.drop (k + 1))) := fun h => by rw [hok, h, Bool.false_or]
     have ny : (decide (sgOf z.head = sgOf x.head) && (decide (k < i) || !deadB z)) = true → (!blkD i x 0 l) = (false && !blkD i x (k + 1) (l.drop (k + 1))) := fun h => by rw [hok, h, Bool.true_or]; simp
     cases h2 : decide (sgOf z.head = sgOf x.head) with
     | false =>
      rw [h2] at nx
      refine R_if rfl rfl (fun h => absurd h (by simp)) (fun _ => ?_) <;> refine R_run hg.ok 1000 rfl rfl ?_
      exact R_next (k + 1, ok) ⟨hk1, nx rfl⟩ (by simp only; omega) ⟨.refl _, .refl _, .refl _, .refl _, Ent.wrap (by simp only; omega) (by simp only; omega) (by simp only; omega), trivial⟩ rfl
     | true =>
      rw [h2] at nx ny
      refine R_if rfl rfl (fun _ => ?_) (fun h => absurd h (by simp)) <;> refine R_run hg.ok 1000 rfl rfl ?_
      refine R_if rfl rfl (fun h3 => ?_) (fun h3 => ?_) <;> refine R_run hg.ok 1000 rfl rfl ?_
      ·have h3 : k < i := lt_dec h3 rfl
       rw [decide_eq_true h3] at ny
       exact R_next (k + 1, false) ⟨hk1, ny rfl⟩ (by simp only; omega) ⟨.refl _, .refl _, .refl _, by first | exact .ff | exact .refl _, Ent.wrap (by simp only; omega) (by simp only; omega) (by simp only; omega), trivial⟩ rfl
      ·have h3 : i ≤ k := ge_dec h3 rfl
       rw [decide_eq_false (show ¬ k < i by omega)] at nx ny
       refine R_index hg.ok rfl rfl rfl rfl rfl rfl (Int.natCast_nonneg _) (Cs.rows_get e2) rfl ?_
       refine R_run hg.ok 1000 rfl rfl ?_
       refine R_call hg.ok (refDead21_ok z) rfl rfl rfl rfl rfl rfl ?_
       refine R_run hg.ok 1000 rfl rfl ?_
       refine R_if rfl rfl (fun h4 => ?_) (fun h4 => ?_) <;> refine R_run hg.ok 1000 rfl rfl ?_
       ·exact R_next (k + 1, false) ⟨hk1, ny (by rw [h4]; rfl)⟩ (by simp only; omega) ⟨.refl _, .refl _, .refl _, by first | exact .ff | exact .refl _, Ent.wrap (by simp only; omega) (by simp only; omega) (by simp only; omega), trivial⟩ rfl
       ·exact R_next (k + 1, ok) ⟨hk1, nx (by rw [h4]; rfl)⟩ (by simp only; omega) ⟨.refl _, .refl _, .refl _, .refl _, Ent.wrap (by simp only; omega) (by simp only; omega) (by simp only; omega), trivial⟩ rfl
    ·have hk1 : l.length ≤ k := ge_dec h (by rw [Cs.rows_len])
     rw [List.drop_eq_nil_of_le hk1] at hok
     simp only [blkD, Bool.not_false, Bool.and_true] at hok
     exact R_to ok (by rw [hok]; rfl) ⟨.refl _, .refl _, .refl _, .refl _, trivial⟩ rfl
  ·rintro ok hok
   rw [← hok] at hm
   refine R_run hg.ok 1000 rfl rfl ?_
   refine R_if rfl rfl (fun h3 => ?_) (fun h3 => ?_) <;> refine R_run hg.ok 1000 rfl rfl ?_
   ·rw [if_pos h3] at hm
    refine R_index hg.ok rfl rfl rfl rfl rfl rfl (Int.natCast_nonneg _) (Cs.rows_get e1) rfl ?_
    refine R_run hg.ok 1000 rfl rfl ?_
    refine R_appendO hg.ok (Cs.rows (out ++ [x])) rfl rfl rfl rfl rfl rfl rfl rfl rfl (by simp) (by simp [one1]) (Cs.rows_snoc out x) (by rw [Cs.rows_len]; simp; omega) (by rw [Cs.rows_len]; simp; omega) ?_
    refine R_run hg.ok 1000 rfl rfl ?_
    exact R_next (i + 1, out ++ [x], Nat.succ j) ⟨hi1, by rw [hm]; simp, by simp only [List.length_append, List.length_singleton]; omega⟩ (by simp only; omega) ⟨.refl _, .refl _, Ent.wrap (by simp only; omega) (by simp only; omega) (by simp only; omega), trivial⟩ rfl
   ·rw [if_neg (by rw [h3]; simp)] at hm
    exact R_next (i + 1, out, j) ⟨hi1, hm, by simp only; omega⟩ (by simp only; omega) ⟨.refl _, .refl _, Ent.wrap (by simp only; omega) (by simp only; omega) (by simp only; omega), trivial⟩ rfl
 ·have hi1 : l.length ≤ i := ge_dec h (by rw [Cs.rows_len])
  rw [List.drop_eq_nil_of_le hi1] at hm
  simp only [aliveD, List.append_nil] at hm
  rw [hm]
  refine R_ret hg 5 rfl (sealA_ow rfl) ?_
  rfl
end Go.Proofs.YthdpfglpdgmphaaGreat

namespace PSL
open Go Go.RowKit
section
variable {g : G} {pf : Nat → Cls} {ops : Array Oper}

theorem loc_callX (hg : GOk g) {o : Oper} {E : Env} {objs : List Ob} {x : Operand} {args : Array Operand} {ts : Array Nat} {f : Nat} {fs cs axs : List AV} {r : AV} (hgd : GdOk ops E o true) (hd : ∀ t, o.dst = some t → t < g.N)
  (hop : o.op = .call { callee := .value x, args := args, argTypes := ts }) (hx : ev E x = .clo f fs cs) (has : fs ++ args.toList.map (ev E) ++ cs = axs) (hpa : pureL axs = true) (hc : PCtr g.P f axs r) (hpr : pureA r = true) :
  LocOp g ops o E objs .still r objs := by
 refine ⟨fun _ => rfl, fun _ _ _ => .refl _, fun E₁ o₁ o₁' a w he ho hs Q => ?_⟩
 have e : o₁' = o₁ := by
  rcases ho with ⟨_, h⟩ | ⟨_, _, _, h⟩ | ⟨h, h'⟩
  ·exact h
  ·exact h
  ·rw [h, h']
 subst e
 obtain ⟨φ, h1, h2, h3, h4, h5, h6⟩ := hs
 rw [wanted_of hgd he h3]
 simp only [if_true]
 refine ⟨about_ok hg o w a, ?_⟩
 have hρ := rv_restr (l := o.looksAt ops) he h3
 have hev : ∀ y ∈ o.op.operands.toList, restr (o.looksAt ops) E y = ev E y := fun y hy => by
  cases y with
  | tmp t => simp [restr, ev, mem_looks hy]
  | _ => rfl
 have hopd : o.op.operands.toList = x :: args.toList := by rw [hop]; simp [Op.operands, Call.operands]
 have hxv := hρ x
 rw [hev x (by rw [hopd]; simp), hx] at hxv
 simp only [RV] at hxv
 obtain ⟨va, vc, hxv, hfs, hcs⟩ := hxv
 have hargs : RVs (SS g.S0 φ) w φ (args.toList.map (ev E)) (args.toList.map a.eval) := by
  refine RVs.map _ _ _ fun y hy => ?_
  rw [← hev y (by rw [hopd]; simp [hy])]
  exact hρ y
 have hall := (hfs.append hargs).append hcs
 rw [has] at hall
 rw [Oper.semAt_eq _ _ _ (by rw [hop]; simp), run_callv hop hxv hc.call]
 refine ⟨fun h => by rw [hg.depth] at h; simp at h, ?_⟩
 have hup : ∀ b, w.heap.size ≤ b → SS g.S0 φ b := fun b hb => ⟨h1.up b hb, fun hc => by have := h1.lt b hc; omega⟩
 have hcall := hc.run (SS g.S0 φ) w _ hup (hall.pure (Keep.refl _ _) hpa)
 refine (callsIn_free hg hcall).mono ?_
 rintro e w' ⟨v, rfl, hv, hb⟩
 have hst : Stp g.S0 φ w φ o₁' w' := ⟨h1.later hb.size (fun b hb' => hb.block b hb'), .of fun b hb' hl => ⟨hb', hb.block b hl⟩, .refl _, hb.size, hb.os, hb.tape, hb.output, fun b hb' _ => hb.block b hb', fun _ h => .inl h, fun _ _ _ B h => ⟨B, h⟩⟩
 exact Sat.stp h2 h3 h4 h5 h6 hst hd fun _ => hv.pure (Keep.refl _ _) hpr
end
section
variable {g : G} {pf : Nat → Cls} {ops : Array Oper} {Fin : Exit → Act → World → Prop}

theorem R_callX (hg : GOk g) {f : Nat} {axs : List AV} {r : AV} (hc : PCtr g.P f axs r) {dst : Option Nat} {x : Operand} {args : Array Operand} {ts : Array Nat} {ty : Nat} {pos : String} {after : Array Edge} {gd : Option (Nat × Bool)}
  {rest : List Oper} {k : List It} {E : Env} {objs : List Ob} {fs cs : List AV}
  (hgd : guardA ops.toList E gd = some true) (hd : dstOk ⟨g.ty, g.N⟩ dst = true) (hx : ev E x = .clo f fs cs) (has : fs ++ args.toList.map (ev E) ++ cs = axs) (hpa : pureL axs = true) (hpr : pureA r = true)
  (hr : R g pf Fin (.dr ops rest :: k) (putO E dst r) objs) :
  R g pf Fin (.dr ops (⟨dst, .call { callee := .value x, args := args, argTypes := ts }, ty, pos, after, gd⟩ :: rest) :: k) E objs :=
 R_op (LocOp.up (loc_callX hg (guardA_ok hgd) (dstOk_ok hd) rfl hx has hpa hc hpr)) hr
end
end PSL
namespace PSL
open Go Go.RowKit

def DEnt (x y : D) : Prop := ∀ (S : Nat → Prop) (w : World) (v : Value), Rd S w x v → Rd S w y v

def RowEnt : List D → List D → Prop
 | [], [] => True
 | x :: r, y :: t => DEnt x y ∧ RowEnt r t
 | _, _ => False
theorem DEnt.refl (x : D) : DEnt x x := fun _ _ _ h => h
theorem DEnt.nil : DEnt (.v (.slice none 0 0)) (.sl []) := fun S w v h => by cases h; exact .nil _ _

theorem RowEnt.len : ∀ {r t : List D}, RowEnt r t → r.length = t.length
 | [], [], _ => rfl
 | _ :: _, _ :: _, h => by simp [RowEnt.len h.2]
 | [], _ :: _, h => h.elim
 | _ :: _, [], h => h.elim

theorem RowEnt.get : ∀ {r t : List D} {j : Nat} {y : D}, RowEnt r t → t[j]? = some y → ∃ x, r[j]? = some x ∧ DEnt x y
 | [], [], j, y, _, hj => by simp at hj
 | x :: r, z :: t, 0, y, h, hj => by
  simp only [List.getElem?_cons_zero, Option.some.injEq] at hj
  subst hj; exact ⟨x, rfl, h.1⟩
 | x :: r, z :: t, j + 1, y, h, hj => by
  simp only [List.getElem?_cons_succ] at hj ⊢
  exact RowEnt.get h.2 hj
 | [], _ :: _, _, _, h, _ => h.elim
 | _ :: _, [], _, _, h, _ => h.elim

theorem Ent.row1 {row row' : List D} (h : RowEnt row row') : Ent (.fs [row]) (.d (.sl [row'])) := fun S w φ v hv => by
 have hv := Ent.fs [row] S w φ v hv
 simp only [RV] at hv ⊢
 cases hv with
 | @sl _ b o cap sz cs T fr g hS hb hl hc hsz hg hr =>
  refine .sl (sz := sz) g hS hb hl hc (fun i r hi => ?_) (fun i r j x hi hj => ?_) (fun i r j x hi hj => ?_)
  ·cases i with
   | zero => cases hi; rw [← h.len]; exact hsz 0 row rfl
   | succ i => simp at hi
  ·cases i with
   | zero =>
    cases hi
    obtain ⟨x', h1, h2⟩ := h.get hj
    exact hg 0 row j x' rfl h1
   | succ i => simp at hi
  ·cases i with
   | zero =>
    cases hi
    obtain ⟨x', h1, h2⟩ := h.get hj
    exact h2 _ _ _ (hr 0 row j x' rfl h1)
   | succ i => simp at hi
end PSL

namespace Go.Proofs.YthdpfglpdgmphaaGreat
open Go PSL Go.Proofs

theorem callsT_cons (g : Gl) (r : List Gl) : callsT (g :: r) = (if g.k = 1 then [g.t] else []) ++ callsT g.a ++ callsT g.b ++ callsT g.c ++ callsT r := by
 simp only [callsT, calls1_eq]

theorem tm_snoc (o : List Tm) (t : Tm) : Tm.rows o ++ [[.v (.int .i64 t.k), .v (.string t.s), .v (.int .i64 t.n), .sl (Tm.rows t.l)]] = Tm.rows (o ++ [t]) := by
 rw [Tm.rows_eq (o ++ [t]), Tm.rows_eq o, List.map_append]; rfl

def PutG (Y : YP) (l : List Gl) : Prop := ∀ (s : Nat) (out : List Tm), out.length + Gl.sizeL l ≤ 1000000 →
 SCtr Tryz.prog Y 65 [.ow 0 s, .d (.sl (Gl.rows l))] [.arr 4 s (Tm.rows out)] (.ow 0 (s + (callsT l).length)) [.arr 4 (s + (callsT l).length) (Tm.rows (out ++ callsT l))]
def putO1 (s : Nat) (out : List Tm) : List Ob := [.arr 4 s (Tm.rows out)]

set_option maxRecDepth 100000 in
theorem refCalls_ok (Y : YP) (l : List Gl) : PutG Y l := by
 refine Gl.indL (p := PutG Y) (fun l hsub => ?_) l
 intro s out hb
 have hlen := Gl.len_size l
 have hcl := callsT_len l
 refine SCtr.of_R (pf := fun _ => .eff) tyOk mixed Tryz.func65 rfl (by kernel_rfl) (by kernel_rfl) (by simp [Tryz.ntmps65]) (by simp [putO1]) fun w S φ hg => ?_
 have hφ : φ.length = 1 := hg.hs0.len
 refine R_run hg.ok 1000 rfl rfl ?_
 refine R_loop (fun x : Nat × Nat × List Tm => ([(0, .ow 0 x.2.1), (1, .d (.sl (Gl.rows l))), (5, iV x.1)], [.arr 4 x.2.1 (Tm.rows x.2.2)])) (fun x => x.1 ≤ l.length ∧ out ++ callsT l = x.2.2 ++ callsT (l.drop x.1) ∧ s + (callsT l).length = x.2.1 + (callsT (l.drop x.1)).length ∧ x.2.2.length + Gl.sizeL (l.drop x.1) ≤ 1000000) (fun x => l.length - x.1) (0, s, out) ⟨Nat.zero_le _, rfl, rfl, hb⟩ ⟨.refl _, .refl _, .refl _, trivial⟩ rfl ?_
 rintro ⟨k, j, td⟩ ⟨hk, hm, hs, hb2⟩
 simp only at hk hm hs hb2
 refine R_run hg.ok 1000 rfl rfl ?_
 refine R_if rfl rfl (fun h => ?_) (fun h => ?_) <;> refine R_run hg.ok 1000 rfl rfl ?_
 ·have hk1 : k < l.length := lt_dec h (by rw [Gl.rows_length])
  have e1 : l[k]? = some l[k] := List.getElem?_eq_getElem hk1
  have hmem := List.getElem_mem hk1
  rw [List.drop_eq_getElem_cons hk1] at hm hs hb2
  generalize l[k] = g at e1 hm hs hmem hb2
  simp only [Gl.sizeL] at hb2
  have hge := Gl.size_eq g
  have htp := Gl.tmPos g.t
  obtain ⟨sa, sb, sc⟩ := hsub g hmem
  rw [callsT_cons] at hm hs
  simp only [List.length_append] at hs
  have h1 : (if g.k = 1 then [g.t] else []).length ≤ 1 := by split <;> simp
  have la := callsT_len g.a
  have lb := callsT_len g.b
  have lc := callsT_len g.c
  have hrl := Tm.rows_length td
  refine R_index hg.ok rfl rfl rfl rfl rfl rfl (Int.natCast_nonneg _) (Gl.rows_get e1) rfl ?_
  refine R_run hg.ok 1000 rfl rfl ?_
  refine R_cut1 (fun x : Nat × List Tm => ([(0, .ow 0 x.1), (1, .d (.sl (Gl.rows l))), (5, iV k)], [.arr 4 x.1 (Tm.rows x.2)])) (fun x => x.1 = j + (if g.k = 1 then [g.t] else []).length ∧ x.2 = td ++ (if g.k = 1 then [g.t] else [])) rfl ?_ ?_
  ·by_cases c1 : g.k = 1
   ·refine R_if rfl rfl (fun _ => ?_) (fun h => absurd h (by simp [c1])) <;> refine R_run hg.ok 1000 rfl rfl ?_
    refine R_index hg.ok rfl rfl rfl rfl rfl rfl (Int.natCast_nonneg _) (Gl.rows_get e1) rfl ?_
    refine R_run hg.ok 1000 rfl rfl ?_
    refine R_appendO hg.ok (Tm.rows (td ++ [g.t])) rfl rfl rfl rfl rfl rfl rfl rfl rfl (by simp) (by simp [one1]) (tm_snoc td g.t) (by rw [hrl]; simp; omega) (by rw [hrl]; simp; omega) ?_
    refine R_run hg.ok 1000 rfl rfl ?_
    exact R_to (Nat.succ j, td ++ [g.t]) ⟨by rw [if_pos c1]; rfl, by rw [if_pos c1]⟩ ⟨.refl _, .refl _, .refl _, trivial⟩ rfl
   ·refine R_if rfl rfl (fun h => absurd h (by simp [c1])) (fun _ => ?_) <;> refine R_run hg.ok 1000 rfl rfl ?_
    exact R_to (j, td) ⟨by rw [if_neg c1]; rfl, by rw [if_neg c1]; simp⟩ ⟨.refl _, .refl _, .refl _, trivial⟩ rfl
  ·rintro ⟨j1, td1⟩ ⟨ej, et⟩
   simp only at ej et
   have hl1 : td1.length = td.length + (if g.k = 1 then [g.t] else []).length := by rw [et, List.length_append]
   refine R_run hg.ok 1000 rfl rfl ?_
   refine R_index hg.ok rfl rfl rfl rfl rfl rfl (Int.natCast_nonneg _) (Gl.rows_get e1) rfl ?_
   refine R_run hg.ok 1000 rfl rfl ?_
   refine R_callSO hg.ok hg.gup hg.wide hg.Y [0] ([.arr 4 (j1 + (callsT g.a).length) (Tm.rows (td1 ++ callsT g.a))]) (sa j1 td1 (by omega)) (fun _ => rfl) rfl rfl rfl rfl rfl rfl rfl rfl ?_
   refine R_run hg.ok 1000 rfl rfl ?_
   refine R_index hg.ok rfl rfl rfl rfl rfl rfl (Int.natCast_nonneg _) (Gl.rows_get e1) rfl ?_
   refine R_run hg.ok 1000 rfl rfl ?_
   refine R_callSO hg.ok hg.gup hg.wide hg.Y [0] ([.arr 4 (j1 + (callsT g.a).length + (callsT g.b).length) (Tm.rows (td1 ++ callsT g.a ++ callsT g.b))]) (sb (j1 + (callsT g.a).length) (td1 ++ callsT g.a) (by rw [List.length_append]; omega)) (fun _ => rfl) rfl rfl rfl rfl rfl rfl rfl rfl ?_
   refine R_run hg.ok 1000 rfl rfl ?_
   refine R_index hg.ok rfl rfl rfl rfl rfl rfl (Int.natCast_nonneg _) (Gl.rows_get e1) rfl ?_
   refine R_run hg.ok 1000 rfl rfl ?_
   refine R_callSO hg.ok hg.gup hg.wide hg.Y [0] ([.arr 4 (j1 + (callsT g.a).length + (callsT g.b).length + (callsT g.c).length) (Tm.rows (td1 ++ callsT g.a ++ callsT g.b ++ callsT g.c))]) (sc (j1 + (callsT g.a).length + (callsT g.b).length) (td1 ++ callsT g.a ++ callsT g.b) (by simp only [List.length_append]; omega)) (fun _ => rfl) rfl rfl rfl rfl rfl rfl rfl rfl ?_
   refine R_run hg.ok 1000 rfl rfl ?_
   exact R_next (k + 1, j1 + (callsT g.a).length + (callsT g.b).length + (callsT g.c).length, td1 ++ callsT g.a ++ callsT g.b ++ callsT g.c) ⟨hk1, by rw [hm, et]; simp, by simp only; omega, by simp only [List.length_append]; omega⟩ (by simp only; omega) ⟨.refl _, .refl _, Ent.wrap (by simp only; omega) (by simp only; omega) (by simp only; omega), trivial⟩ rfl
 ·have hk1 : l.length ≤ k := ge_dec h (by rw [Gl.rows_length])
  rw [List.drop_eq_nil_of_le hk1] at hm hs
  simp only [callsT, List.append_nil, List.length_nil, Nat.add_zero] at hm hs
  rw [hm, hs]
  exact R_retS hg 1 5 (Nat.le_refl _) rfl rfl rfl

set_option maxRecDepth 100000 in
theorem refCallsN_ok (l : List Gl) (hb : Gl.sizeL l ≤ 1000000) : PCtr Tryz.prog 65 [.d (.v (.slice none 0 0)), .d (.sl (Gl.rows l))] (.d (.sl (Tm.rows (callsT l)))) := by
 have hlen := Gl.len_size l
 have hcl := callsT_len l
 refine PCtr.of_R (pf := fun _ => .eff) tyOk mixed Tryz.func65 rfl (by kernel_rfl) (by kernel_rfl) (by simp [Tryz.ntmps65]) fun w S hg => ?_
 refine R_run hg.ok 1000 rfl rfl ?_
 refine R_own 0 4 rfl rfl ?_
 refine R_loop (fun x : Nat × Nat × List Tm => ([(0, .ow 0 x.2.1), (1, .d (.sl (Gl.rows l))), (5, iV x.1)], [.arr 4 x.2.1 (Tm.rows x.2.2)])) (fun x => x.1 ≤ l.length ∧ callsT l = x.2.2 ++ callsT (l.drop x.1) ∧ x.2.2.length + Gl.sizeL (l.drop x.1) ≤ 1000000) (fun x => l.length - x.1) (0, 0, []) ⟨Nat.zero_le _, rfl, by simpa using hb⟩ ⟨.refl _, .refl _, .refl _, trivial⟩ rfl ?_
 rintro ⟨k, j, td⟩ ⟨hk, hm, hb2⟩
 simp only at hk hm hb2
 refine R_run hg.ok 1000 rfl rfl ?_
 refine R_if rfl rfl (fun h => ?_) (fun h => ?_) <;> refine R_run hg.ok 1000 rfl rfl ?_
 ·have hk1 : k < l.length := lt_dec h (by rw [Gl.rows_length])
  have e1 : l[k]? = some l[k] := List.getElem?_eq_getElem hk1
  have hmem := List.getElem_mem hk1
  rw [List.drop_eq_getElem_cons hk1] at hm hb2
  generalize l[k] = g at e1 hm hmem hb2
  simp only [Gl.sizeL] at hb2
  have hge := Gl.size_eq g
  have htp := Gl.tmPos g.t
  have sa := refCalls_ok pY g.a
  have sb := refCalls_ok pY g.b
  have sc := refCalls_ok pY g.c
  rw [callsT_cons] at hm
  have hsz := Gl.size_mem hmem
  have h1 : (if g.k = 1 then [g.t] else []).length ≤ 1 := by split <;> simp
  have la := callsT_len g.a
  have lb := callsT_len g.b
  have lc := callsT_len g.c
  have hrl := Tm.rows_length td
  refine R_index hg.ok rfl rfl rfl rfl rfl rfl (Int.natCast_nonneg _) (Gl.rows_get e1) rfl ?_
  refine R_run hg.ok 1000 rfl rfl ?_
  refine R_cut1 (fun x : Nat × List Tm => ([(0, .ow 0 x.1), (1, .d (.sl (Gl.rows l))), (5, iV k)], [.arr 4 x.1 (Tm.rows x.2)])) (fun x => x.1 = j + (if g.k = 1 then [g.t] else []).length ∧ x.2 = td ++ (if g.k = 1 then [g.t] else [])) rfl ?_ ?_
  ·by_cases c1 : g.k = 1
   ·refine R_if rfl rfl (fun _ => ?_) (fun h => absurd h (by simp [c1])) <;> refine R_run hg.ok 1000 rfl rfl ?_
    refine R_index hg.ok rfl rfl rfl rfl rfl rfl (Int.natCast_nonneg _) (Gl.rows_get e1) rfl ?_
    refine R_run hg.ok 1000 rfl rfl ?_
    refine R_appendO hg.ok (Tm.rows (td ++ [g.t])) rfl rfl rfl rfl rfl rfl rfl rfl rfl (by simp) (by simp [one1]) (tm_snoc td g.t) (by rw [hrl]; simp; omega) (by rw [hrl]; simp; omega) ?_
    refine R_run hg.ok 1000 rfl rfl ?_
    exact R_to (Nat.succ j, td ++ [g.t]) ⟨by rw [if_pos c1]; rfl, by rw [if_pos c1]⟩ ⟨.refl _, .refl _, .refl _, trivial⟩ rfl
   ·refine R_if rfl rfl (fun h => absurd h (by simp [c1])) (fun _ => ?_) <;> refine R_run hg.ok 1000 rfl rfl ?_
    exact R_to (j, td) ⟨by rw [if_neg c1]; rfl, by rw [if_neg c1]; simp⟩ ⟨.refl _, .refl _, .refl _, trivial⟩ rfl
  ·rintro ⟨j1, td1⟩ ⟨ej, et⟩
   simp only at ej et
   have hl1 : td1.length = td.length + (if g.k = 1 then [g.t] else []).length := by rw [et, List.length_append]
   refine R_run hg.ok 1000 rfl rfl ?_
   refine R_index hg.ok rfl rfl rfl rfl rfl rfl (Int.natCast_nonneg _) (Gl.rows_get e1) rfl ?_
   refine R_run hg.ok 1000 rfl rfl ?_
   refine R_callSO hg.ok hg.gup ⟨rfl, rfl⟩ (fun _ _ _ _ h => by cases h) [0] ([.arr 4 (j1 + (callsT g.a).length) (Tm.rows (td1 ++ callsT g.a))]) (sa j1 td1 (by omega)) (fun _ => rfl) rfl rfl rfl rfl rfl rfl rfl rfl ?_
   refine R_run hg.ok 1000 rfl rfl ?_
   refine R_index hg.ok rfl rfl rfl rfl rfl rfl (Int.natCast_nonneg _) (Gl.rows_get e1) rfl ?_
   refine R_run hg.ok 1000 rfl rfl ?_
   refine R_callSO hg.ok hg.gup ⟨rfl, rfl⟩ (fun _ _ _ _ h => by cases h) [0] ([.arr 4 (j1 + (callsT g.a).length + (callsT g.b).length) (Tm.rows (td1 ++ callsT g.a ++ callsT g.b))]) (sb (j1 + (callsT g.a).length) (td1 ++ callsT g.a) (by rw [List.length_append]; omega)) (fun _ => rfl) rfl rfl rfl rfl rfl rfl rfl rfl ?_
   refine R_run hg.ok 1000 rfl rfl ?_
   refine R_index hg.ok rfl rfl rfl rfl rfl rfl (Int.natCast_nonneg _) (Gl.rows_get e1) rfl ?_
   refine R_run hg.ok 1000 rfl rfl ?_
   refine R_callSO hg.ok hg.gup ⟨rfl, rfl⟩ (fun _ _ _ _ h => by cases h) [0] ([.arr 4 (j1 + (callsT g.a).length + (callsT g.b).length + (callsT g.c).length) (Tm.rows (td1 ++ callsT g.a ++ callsT g.b ++ callsT g.c))]) (sc (j1 + (callsT g.a).length + (callsT g.b).length) (td1 ++ callsT g.a ++ callsT g.b) (by simp only [List.length_append]; omega)) (fun _ => rfl) rfl rfl rfl rfl rfl rfl rfl rfl ?_
   refine R_run hg.ok 1000 rfl rfl ?_
   exact R_next (k + 1, j1 + (callsT g.a).length + (callsT g.b).length + (callsT g.c).length, td1 ++ callsT g.a ++ callsT g.b ++ callsT g.c) ⟨hk1, by rw [hm, et]; simp, by simp only [List.length_append]; omega⟩ (by simp only; omega) ⟨.refl _, .refl _, Ent.wrap (by simp only; omega) (by simp only; omega) (by simp only; omega), trivial⟩ rfl
 ·have hk1 : l.length ≤ k := ge_dec h (by rw [Gl.rows_length])
  rw [List.drop_eq_nil_of_le hk1] at hm
  simp only [callsT, List.append_nil] at hm
  rw [hm]
  refine R_ret hg 5 rfl (sealA_ow rfl) ?_
  rfl
end Go.Proofs.YthdpfglpdgmphaaGreat

namespace Go.Proofs.YthdpfglpdgmphaaGreat
open Go PSL Go.Proofs
def pfHas : Nat → Cls := fun f => bif Nat.beq f 41 then .look 0 else .still

set_option maxHeartbeats 4000000 in
set_option maxRecDepth 100000 in
theorem refReach_ok (l : List Cs) (roots : List Sg) (hl : Med l) (hr : roots.length ≤ 1000) : PCtr Tryz.prog 40 [.d (.sl (Cs.rows l)), .d (.sl (sgR roots))] (.d (.sl (sgR (reachD l roots)))) := by
 have hlen := hl.len
 have hsz := hl.size
 have hls := leftR_size roots l
 refine PCtr.of_R (pf := pfHas) tyOk mixed Tryz.func40 rfl (by kernel_rfl) (by kernel_rfl) (by simp [Tryz.ntmps40]) fun w S hg => ?_
 refine R_run hg.ok 1000 rfl rfl ?_
 refine R_appendF hg.ok rfl rfl (.inl rfl) rfl (.inl rfl) rfl rfl rfl (by simp) (sgR_two roots) (by rw [sgR_len]; simp; omega) (by rw [sgR_len]; simp; omega) ?_
 refine R_run hg.ok 1000 rfl rfl ?_
 refine R_loop (fun x : List Sg × Bool × Nat => ([(0, .d (.sl (Cs.rows l))), (5, .ow 0 x.2.2), (6, bV x.2.1)], [.arr 2 x.2.2 (sgR x.1)])) (fun x => (x.2.1 = true → reachD l roots = iterR l (leftR roots l + 1) x.1) ∧ (x.2.1 = false → reachD l roots = x.1) ∧ x.1.length + leftR x.1 l ≤ roots.length + leftR roots l ∧ leftR x.1 l ≤ leftR roots l) (fun x => 2 * leftR x.1 l + (if x.2.1 then 1 else 0)) (roots, true, 0) ⟨fun _ => rfl, by simp, Nat.le_refl _, Nat.le_refl _⟩ ⟨.refl _, .refl _, by first | exact .tt | exact .refl _, trivial⟩ rfl ?_
 rintro ⟨out, ag, j⟩ ⟨h1, h2, h3, h4⟩
 simp only at h1 h2 h3 h4
 refine R_run hg.ok 1000 rfl rfl ?_
 refine R_if rfl rfl (fun h => ?_) (fun h => ?_) <;> refine R_run hg.ok 1000 rfl rfl ?_
 ·have hag : ag = true := h
  have hit := h1 hag
  simp only [iterR] at hit
  obtain ⟨ext, a1, _, a3, a4, _⟩ := passR_ok l l out false fun c hc => hc
  have hfin : (passR l out false).1.length ≤ 500000 := by rw [a1, List.length_append]; omega
  refine R_loop (fun x : Nat × List Sg × Bool × Nat => ([(0, .d (.sl (Cs.rows l))), (5, .ow 0 x.2.2.2), (6, bV x.2.2.1), (7, iV x.1)], [.arr 2 x.2.2.2 (sgR x.2.1)])) (fun x => x.1 ≤ l.length ∧ passR l out false = passR (l.drop x.1) x.2.1 x.2.2.1) (fun x => l.length - x.1) (0, out, false, j) ⟨Nat.zero_le _, rfl⟩ ⟨.refl _, .refl _, by first | exact .ff | exact .refl _, .refl _, trivial⟩ rfl ?_
  rintro ⟨i, o, ag2, j2⟩ ⟨hi, hm⟩
  simp only at hi hm
  have hol : o.length ≤ 500000 := by
   have := passR_grow (l.drop i) o ag2
   rw [← hm] at this; omega
  refine R_run hg.ok 1000 rfl rfl ?_
  refine R_if rfl rfl (fun h => ?_) (fun h => ?_) <;> refine R_run hg.ok 1000 rfl rfl ?_
  ·have hi1 : i < l.length := lt_dec h (by rw [Cs.rows_len])
   have e1 : l[i]? = some l[i] := List.getElem?_eq_getElem hi1
   have hmem := List.getElem_mem hi1
   rw [List.drop_eq_getElem_cons hi1, passR] at hm
   generalize l[i] = c at e1 hm hmem
   have hcb := hl.body c hmem
   refine R_index hg.ok rfl rfl rfl rfl rfl rfl (Int.natCast_nonneg _) (Cs.rows_get e1) rfl ?_
   refine R_run hg.ok 1000 rfl rfl ?_
   refine R_index hg.ok rfl rfl rfl rfl rfl rfl (Int.natCast_nonneg _) (Cs.rows_get e1) rfl ?_
   refine R_run hg.ok 1000 rfl rfl ?_
   refine R_callO hg.ok hg.gup (refHas21_ok o c.head.s ((Tm.rows c.head.l).length : Int) (by omega)) rfl rfl rfl rfl (mapO_cons (sealA_ow rfl) rfl) rfl rfl ?_
   rw [show hasS o (c.head.s, ((Tm.rows c.head.l).length : Int)) = hasS o (sgOf c.head) by rw [Tm.rows_length]; rfl]
   refine R_run hg.ok 1000 rfl rfl ?_
   refine R_if rfl rfl (fun h5 => ?_) (fun h5 => ?_) <;> refine R_run hg.ok 1000 rfl rfl ?_
   ·have h6 : hasS o (sgOf c.head) = false := by simpa using h5
    rw [if_neg (by rw [h6]; simp)] at hm
    exact R_next (i + 1, o, ag2, j2) ⟨hi1, hm⟩ (by simp only; omega) ⟨.refl _, .refl _, .refl _, Ent.wrap (by simp only; omega) (by simp only; omega) (by simp only; omega), trivial⟩ rfl
   ·have h6 : hasS o (sgOf c.head) = true := by simpa using h5
    rw [if_pos h6] at hm
    refine R_index hg.ok rfl rfl rfl rfl rfl rfl (Int.natCast_nonneg _) (Cs.rows_get e1) rfl ?_
    refine R_run hg.ok 1000 rfl rfl ?_
    refine R_callX hg.ok (refCallsN_ok c.body (by omega)) rfl rfl rfl rfl rfl rfl ?_
    refine R_run hg.ok 1000 rfl rfl ?_
    have hTl := Tm.rows_length (callsT c.body)
    have hct := callsT_len c.body
    have hgr : ∀ (o2 : List Sg) (ag3 : Bool) (ts : List Sg), goCalls o ag2 (callsS c.body) = goCalls o2 ag3 ts → o2.length ≤ 500000 := fun o2 ag3 ts e => by
     have g1 := goCalls_grow ts o2 ag3
     have g2 := passR_grow (l.drop (i + 1)) (goCalls o ag2 (callsS c.body)).1 (goCalls o ag2 (callsS c.body)).2
     rw [← hm] at g2
     rw [← e] at g1
     omega
    refine R_loop (fun x : Nat × List Sg × Bool × Nat => ([(0, .d (.sl (Cs.rows l))), (5, .ow 0 x.2.2.2), (6, bV x.2.2.1), (7, iV i), (8, .d (.sl (Tm.rows (callsT c.body)))), (9, iV x.1)], [.arr 2 x.2.2.2 (sgR x.2.1)])) (fun x => x.1 ≤ (callsT c.body).length ∧ goCalls o ag2 (callsS c.body) = goCalls x.2.1 x.2.2.1 (((callsT c.body).drop x.1).map sgOf)) (fun x => (callsT c.body).length - x.1) (0, o, ag2, j2) ⟨Nat.zero_le _, rfl⟩ ⟨.refl _, .refl _, .refl _, .refl _, .refl _, .refl _, trivial⟩ rfl ?_
    rintro ⟨k, o2, ag3, j3⟩ ⟨hk, hm3⟩
    simp only at hk hm3
    have ho2 := hgr o2 ag3 _ hm3
    refine R_run hg.ok 1000 rfl rfl ?_
    refine R_if rfl rfl (fun h => ?_) (fun h => ?_) <;> refine R_run hg.ok 1000 rfl rfl ?_
    ·have hk1 : k < (callsT c.body).length := lt_dec h (by rw [hTl])
     have e2 : (callsT c.body)[k]? = some (callsT c.body)[k] := List.getElem?_eq_getElem hk1
     rw [List.drop_eq_getElem_cons hk1, List.map_cons, goCalls] at hm3
     generalize (callsT c.body)[k] = t at e2 hm3
     refine R_index hg.ok rfl rfl rfl rfl rfl rfl (Int.natCast_nonneg _) (Tm.rows_get e2) rfl ?_
     refine R_run hg.ok 1000 rfl rfl ?_
     refine R_index hg.ok rfl rfl rfl rfl rfl rfl (Int.natCast_nonneg _) (Tm.rows_get e2) rfl ?_
     refine R_run hg.ok 1000 rfl rfl ?_
     refine R_callO hg.ok hg.gup (refHas21_ok o2 t.s ((Tm.rows t.l).length : Int) (by omega)) rfl rfl rfl rfl (mapO_cons (sealA_ow rfl) rfl) rfl rfl ?_
     rw [show hasS o2 (t.s, ((Tm.rows t.l).length : Int)) = hasS o2 (sgOf t) by rw [Tm.rows_length]; rfl]
     refine R_run hg.ok 1000 rfl rfl ?_
     refine R_if rfl rfl (fun h7 => ?_) (fun h7 => ?_) <;> refine R_run hg.ok 1000 rfl rfl ?_
     ·have h8 : hasS o2 (sgOf t) = false := by simpa using h7
      rw [if_neg (by rw [h8]; simp)] at hm3
      refine R_index hg.ok rfl rfl rfl rfl rfl rfl (Int.natCast_nonneg _) (Tm.rows_get e2) rfl ?_
      refine R_run hg.ok 1000 rfl rfl ?_
      refine R_index hg.ok rfl rfl rfl rfl rfl rfl (Int.natCast_nonneg _) (Tm.rows_get e2) rfl ?_
      refine R_run hg.ok 1000 rfl rfl ?_
      refine R_appendO hg.ok (sgR (o2 ++ [sgOf t])) rfl rfl rfl rfl rfl rfl rfl rfl rfl (by simp) (by simp [one1]) (by rw [Tm.rows_length]; exact sgR_snoc o2 (sgOf t)) (by rw [sgR_len]; simp; omega) (by rw [sgR_len]; simp; omega) ?_
      refine R_run hg.ok 1000 rfl rfl ?_
      exact R_next (k + 1, o2 ++ [sgOf t], true, Nat.succ j3) ⟨hk1, hm3⟩ (by simp only; omega) ⟨.refl _, .refl _, by first | exact .tt | exact .refl _, .refl _, .refl _, Ent.wrap (by simp only; omega) (by simp only; omega) (by simp only; omega), trivial⟩ rfl
     ·have h8 : hasS o2 (sgOf t) = true := by simpa using h7
      rw [if_pos h8] at hm3
      exact R_next (k + 1, o2, ag3, j3) ⟨hk1, hm3⟩ (by simp only; omega) ⟨.refl _, .refl _, .refl _, .refl _, .refl _, Ent.wrap (by simp only; omega) (by simp only; omega) (by simp only; omega), trivial⟩ rfl
    ·have hk1 : (callsT c.body).length ≤ k := ge_dec h (by rw [hTl])
     rw [List.drop_eq_nil_of_le hk1] at hm3
     simp only [List.map_nil, goCalls] at hm3
     rw [hm3] at hm
     exact R_next (i + 1, o2, ag3, j3) ⟨hi1, hm⟩ (by simp only; omega) ⟨.refl _, .refl _, .refl _, Ent.wrap (by simp only; omega) (by simp only; omega) (by simp only; omega), trivial⟩ rfl
  ·have hi1 : l.length ≤ i := ge_dec h (by rw [Cs.rows_len])
   rw [List.drop_eq_nil_of_le hi1, passR] at hm
   rw [hm] at a1 a3 a4 hit
   simp only at a1 a3 a4 hit
   refine R_next (o, ag2, j2) ⟨fun e => ?_, fun e => ?_, ?_, ?_⟩ ?_ ⟨.refl _, .refl _, .refl _, trivial⟩ rfl
   ·have e : ag2 = true := e
    rw [e] at a4 hit
    have hx : ext ≠ [] := by simpa using a4.symm
    have := List.length_pos_iff.2 hx
    rw [hit, if_pos rfl]
    exact iterR_fuel l _ _ o (by omega) (by omega)
   ·have e : ag2 = false := e
    rw [hit, e]; rfl
   ·simp only; rw [a1, List.length_append]; rw [← a1]; omega
   ·simp only; omega
   ·have hq : (if ag = true then 1 else 0) = 1 := if_pos hag
    simp only
    cases e : ag2 with
    | false => simp only [Bool.false_eq_true, if_false]; omega
    | true =>
     rw [e] at a4
     have hx : ext ≠ [] := by simpa using a4.symm
     have := List.length_pos_iff.2 hx
     simp only [if_true]; omega
 ·have h : ag = false := h
  rw [h2 h]
  refine R_ret hg 5 rfl (sealA_ow rfl) ?_
  rfl
end Go.Proofs.YthdpfglpdgmphaaGreat

namespace Go.Proofs.YthdpfglpdgmphaaGreat
open Go PSL Go.Proofs
theorem hasRows (o : List Sg) (t : Tm) : hasS o (t.s, ((Tm.rows t.l).length : Int)) = hasS o (sgOf t) := by rw [Tm.rows_length]; rfl
def pfRefClean : Nat → Cls := fun f => bif Nat.beq f 41 then .look 0 else .still

set_option maxHeartbeats 4000000 in
set_option maxRecDepth 100000 in
theorem refClean_ok (l : List Cs) (roots : List Sg) (hl : Med l) (hr : roots.length ≤ 1000) : PCtr Tryz.prog 23 [prV l, .d (.sl (sgR roots))] (prV (cleanD l roots)) := by
 have hop : Med (openD [] l) := hl.sub (openD_ok l []).2.2
 have hlv : Med (liveD l) := hl.sub (live_sub l)
 have hlen := hl.len
 have hlo := hop.len
 have hlv2 := hlv.len
 have hsz := hlv.size
 have hls := leftR_size roots (liveD l)
 have hrl : (reachD (liveD l) roots).length ≤ 500000 := by have := iterR_len (liveD l) (leftR roots (liveD l) + 1) roots; unfold reachD; omega
 refine PCtr.of_R (pf := pfRefClean) tyOk mixed Tryz.func23 rfl (by kernel_rfl) (by kernel_rfl) (by simp [Tryz.ntmps23]) fun w S hg => ?_
 refine R_run hg.ok 1000 rfl rfl ?_
 refine R_call hg.ok (refOpen_ok l (by omega) hl.head) rfl rfl rfl rfl rfl rfl ?_
 refine R_run hg.ok 1000 rfl rfl ?_
 refine R_call hg.ok (refAlive_ok (openD [] l) (by omega)) rfl rfl rfl rfl rfl rfl ?_
 refine R_run hg.ok 1000 rfl rfl ?_
 refine R_call hg.ok (refReach_ok (liveD l) roots hlv hr) rfl rfl rfl rfl rfl rfl ?_
 refine R_run hg.ok 1000 rfl rfl ?_
 have hcd : cleanD l roots = (liveD l).filter fun c => hasS (reachD (liveD l) roots) (sgOf c.head) := rfl
 rw [hcd]
 generalize reachD (liveD l) roots = all at *
 refine R_ownB 2 0 6 rfl rfl rfl ?_
 refine R_loop (fun x : Nat × List Cs × Nat => ([(4, .lo 1 0), (5, .d (.sl (Cs.rows (liveD l)))), (6, .d (.sl (sgR all))), (7, .lo 2 0), (8, iV x.1)], [.box [.d (.sl (Cs.rows l))], .box [.d (.v (.slice none 0 0))], .box [.ow 3 x.2.2], .arr 6 x.2.2 (Cs.rows x.2.1)])) (fun x => x.1 ≤ (liveD l).length ∧ ((liveD l).filter fun c => hasS all (sgOf c.head)) = x.2.1 ++ (((liveD l).drop x.1).filter fun c => hasS all (sgOf c.head)) ∧ x.2.1.length ≤ x.1) (fun x => (liveD l).length - x.1) (0, [], 0) ⟨Nat.zero_le _, rfl, Nat.le_refl _⟩ ⟨.refl _, .refl _, .refl _, .refl _, .refl _, trivial⟩ rfl ?_
 rintro ⟨k, out, j⟩ ⟨hk, hm, ho⟩
 simp only at hk hm ho
 refine R_run hg.ok 1000 rfl rfl ?_
 refine R_if rfl rfl (fun h => ?_) (fun h => ?_) <;> refine R_run hg.ok 1000 rfl rfl ?_
 ·have hk1 : k < (liveD l).length := lt_dec h (by rw [Cs.rows_len])
  have e1 : (liveD l)[k]? = some (liveD l)[k] := List.getElem?_eq_getElem hk1
  rw [List.drop_eq_getElem_cons hk1] at hm
  generalize (liveD l)[k] = c at e1 hm
  refine R_index hg.ok rfl rfl rfl rfl rfl rfl (Int.natCast_nonneg _) (Cs.rows_get e1) rfl ?_
  refine R_run hg.ok 1000 rfl rfl ?_
  refine R_index hg.ok rfl rfl rfl rfl rfl rfl (Int.natCast_nonneg _) (Cs.rows_get e1) rfl ?_
  refine R_run hg.ok 1000 rfl rfl ?_
  refine R_call hg.ok (refHas21_ok all c.head.s ((Tm.rows c.head.l).length : Int) (by omega)) rfl rfl rfl rfl rfl rfl ?_
  refine R_run hg.ok 1000 rfl rfl ?_
  rw [hasRows]
  refine R_if rfl rfl (fun h2 => ?_) (fun h2 => ?_) <;> refine R_run hg.ok 1000 rfl rfl ?_
  ·rw [List.filter_cons_of_pos (p := fun c : Cs => hasS all (sgOf c.head)) h2] at hm
   refine R_index hg.ok rfl rfl rfl rfl rfl rfl (Int.natCast_nonneg _) (Cs.rows_get e1) rfl ?_
   refine R_run hg.ok 1000 rfl rfl ?_
   refine R_appendO hg.ok (Cs.rows (out ++ [c])) rfl rfl rfl rfl rfl rfl rfl rfl rfl (by simp) (by simp [one1]) (Cs.rows_snoc out c) (by rw [Cs.rows_len]; simp; omega) (by rw [Cs.rows_len]; simp; omega) ?_
   refine R_run hg.ok 1000 rfl rfl ?_
   exact R_next (k + 1, out ++ [c], Nat.succ j) ⟨hk1, by rw [hm]; simp, by simp only [List.length_append, List.length_singleton]; omega⟩ (by simp only; omega) ⟨.refl _, .refl _, .refl _, .refl _, Ent.wrap (by simp only; omega) (by simp only; omega) (by simp only; omega), trivial⟩ rfl
  ·rw [List.filter_cons_of_neg (p := fun c : Cs => hasS all (sgOf c.head)) (by rw [h2]; simp)] at hm
   exact R_next (k + 1, out, j) ⟨hk1, hm, by simp only; omega⟩ (by simp only; omega) ⟨.refl _, .refl _, .refl _, .refl _, Ent.wrap (by simp only; omega) (by simp only; omega) (by simp only; omega), trivial⟩ rfl
 ·have hk1 : (liveD l).length ≤ k := ge_dec h (by rw [Cs.rows_len])
  rw [List.drop_eq_nil_of_le hk1] at hm
  simp only [List.filter_nil, List.append_nil] at hm
  rw [hm]
  refine R_ret hg 5 rfl (sealA_agg (mapO_cons (sealA_ow rfl) rfl)) ?_
  rfl
end Go.Proofs.YthdpfglpdgmphaaGreat

namespace Go.Proofs.YthdpfglpdgmphaaGreat
open Go PSL Go.Proofs

theorem contains_cons' {l : List Int} {x n : Int} : (x :: l).contains n = (decide (x = n) || l.contains n) := by
 simp only [List.contains_cons]; congr 1; rw [Bool.eq_iff_iff]; simp; exact eq_comm

set_option maxRecDepth 100000 in
theorem with_ok (t : Tm) : ∀ (l : List Int), l.length + t.size < 1000000000 → PCtr Tryz.prog 83 [.d (.sl (irows l)), t.av] (.d (.sl (irows (Tm.withV l t)))) := by
 induction t using Tm.ind with
 | _ t ih =>
 intro l hsz
 have hl := Tm.len_le_sizeL t.l
 have hs := Tm.size_eq t
 refine PCtr.of_R (pf := pfB) tyOk mixed Tryz.func83 rfl (by kernel_rfl) (by kernel_rfl) (by simp [Tryz.ntmps83]) fun w S hg => ?_
 refine R_run hg.ok 1000 rfl rfl ?_
 refine R_if rfl rfl (fun h => ?_) (fun h => ?_) <;> refine R_run hg.ok 1000 rfl rfl ?_
 ·have hk : t.k = 1 := by simpa using h
  refine R_loop (fun k : Nat => ([(0, .d (.sl (irows l))), (3, .lo 0 0), (5, iV k)], [boxR t])) (fun k => k ≤ l.length ∧ l.contains t.n = (l.drop k).contains t.n) (fun k => l.length - k) 0 ⟨Nat.zero_le _, rfl⟩ ⟨.refl _, .refl _, .refl _, trivial⟩ rfl ?_
  rintro k ⟨hk0, hm⟩
  refine R_run hg.ok 1000 rfl rfl ?_
  refine R_if rfl rfl (fun h => ?_) (fun h => ?_) <;> refine R_run hg.ok 1000 rfl rfl ?_
  ·have hk1 : k < l.length := lt_dec h (by rw [irows_length])
   have e1 : l[k]? = some l[k] := List.getElem?_eq_getElem hk1
   rw [List.drop_eq_getElem_cons hk1, contains_cons'] at hm
   refine R_index hg.ok rfl rfl rfl rfl rfl rfl (Int.natCast_nonneg k) (irows_get e1) rfl ?_
   refine R_run hg.ok 1000 rfl rfl ?_
   refine R_if rfl rfl (fun h => ?_) (fun h => ?_) <;> refine R_run hg.ok 1000 rfl rfl ?_
   ·refine R_ret hg 5 rfl rfl ?_
    have he : l[k] = t.n := by simpa using h
    rw [Tm.withV_eq, if_pos hk, addV, if_pos (by rw [hm]; simp [he])]
   ·have he : ¬ l[k] = t.n := by simpa using h
    refine R_next (k + 1) ⟨hk1, by rw [hm]; simp [he]⟩ (by omega) ⟨.refl _, .refl _, Ent.wrap (by omega) (by omega) (by omega), trivial⟩ rfl
  ·have hk1 : l.length ≤ k := ge_dec h (by rw [irows_length])
   rw [List.drop_eq_nil_of_le hk1] at hm
   refine R_appendF hg.ok (rows := []) rfl rfl (.inl rfl) rfl (.inl rfl) rfl rfl rfl (by simp) (by simp [irows]; intros; subst_vars; rfl) (by simp [irows_length]; omega) (by simp [irows_length]; omega) ?_
   refine R_run hg.ok 1000 rfl rfl ?_
   refine R_appendO hg.ok (irows (l ++ [t.n])) rfl rfl rfl rfl rfl rfl rfl rfl rfl (by simp) (by simp [one1]) (by simp [irows, irow]) (by simp [irows_length]; omega) (by simp [irows_length]; omega) ?_
   refine R_run hg.ok 1000 rfl rfl ?_
   refine R_ret hg 5 rfl (sealA_ow rfl) ?_
   rw [Tm.withV_eq, if_pos hk, addV, if_neg (by rw [hm]; simp)]
 ·have hk : ¬ t.k = 1 := by simpa using h
  refine R_loop (fun x : Nat × List Int => ([(0, .d (.sl (irows x.2))), (3, .lo 0 0), (6, iV x.1)], [boxR t])) (fun x => x.1 ≤ t.l.length ∧ Tm.withV l t = Tm.withVL x.2 (t.l.drop x.1) ∧ x.2.length + Tm.sizeL (t.l.drop x.1) ≤ l.length + Tm.sizeL t.l) (fun x => t.l.length - x.1) (0, l) ⟨Nat.zero_le _, by rw [Tm.withV_eq, if_neg hk]; rfl, Nat.le_refl _⟩ ⟨.refl _, .refl _, .refl _, trivial⟩ rfl ?_
  rintro ⟨k, a⟩ ⟨hk0, hm, hal⟩
  simp only at hk0 hm hal
  refine R_run hg.ok 1000 rfl rfl ?_
  refine R_if rfl rfl (fun h => ?_) (fun h => ?_) <;> refine R_run hg.ok 1000 rfl rfl ?_
  ·have hk1 : k < t.l.length := lt_dec h (by rw [Tm.rows_length])
   have e1 : t.l[k]? = some t.l[k] := List.getElem?_eq_getElem hk1
   rw [List.drop_eq_getElem_cons hk1] at hm hal
   simp only [Tm.withVL] at hm
   simp only [Tm.sizeL] at hal
   refine R_index hg.ok rfl rfl rfl rfl rfl rfl (Int.natCast_nonneg k) (Tm.rows_get e1) rfl ?_
   refine R_run hg.ok 1000 rfl rfl ?_
   refine R_call hg.ok (ih _ (List.getElem_mem hk1) a (by omega)) rfl rfl rfl rfl rfl rfl ?_
   refine R_run hg.ok 1000 rfl rfl ?_
   have hwl := Tm.withV_len t.l[k] a
   exact R_next (k + 1, Tm.withV a t.l[k]) ⟨hk1, hm, by simp only; omega⟩ (by simp only; omega) ⟨.refl _, .refl _, Ent.wrap (by simp only; omega) (by simp only; omega) (by simp only; omega), trivial⟩ rfl
  ·have hk1 : t.l.length ≤ k := ge_dec h (by rw [Tm.rows_length])
   refine R_ret hg 5 rfl rfl ?_
   rw [hm, List.drop_eq_nil_of_le hk1]; rfl

set_option maxRecDepth 100000 in
theorem refVars_ok (l : List Tm) (hsz : Tm.sizeL l < 1000000000) : PCtr Tryz.prog 59 [.d (.sl (Tm.rows l))] (.d (.sl (irows (Tm.withVL [] l)))) := by
 have hl := Tm.len_le_sizeL l
 refine PCtr.of_R (pf := pfB) tyOk mixed Tryz.func59 rfl (by kernel_rfl) (by kernel_rfl) (by simp [Tryz.ntmps59]) fun w S hg => ?_
 refine R_run hg.ok 1000 rfl rfl ?_
 refine R_loop (fun x : Nat × List Int => ([(0, .d (.sl (Tm.rows l))), (3, .d (.sl (irows x.2))), (4, iV x.1)], [])) (fun x => x.1 ≤ l.length ∧ Tm.withVL [] l = Tm.withVL x.2 (l.drop x.1) ∧ x.2.length + Tm.sizeL (l.drop x.1) ≤ Tm.sizeL l) (fun x => l.length - x.1) (0, []) ⟨Nat.zero_le _, rfl, by simp⟩ ⟨.refl _, .nil, .refl _, trivial⟩ rfl ?_
 rintro ⟨k, a⟩ ⟨hk0, hm, hal⟩
 simp only at hk0 hm hal
 refine R_run hg.ok 1000 rfl rfl ?_
 refine R_if rfl rfl (fun h => ?_) (fun h => ?_) <;> refine R_run hg.ok 1000 rfl rfl ?_
 ·have hk1 : k < l.length := lt_dec h (by rw [Tm.rows_length])
  have e1 : l[k]? = some l[k] := List.getElem?_eq_getElem hk1
  rw [List.drop_eq_getElem_cons hk1] at hm hal
  simp only [Tm.withVL] at hm
  simp only [Tm.sizeL] at hal
  refine R_index hg.ok rfl rfl rfl rfl rfl rfl (Int.natCast_nonneg k) (Tm.rows_get e1) rfl ?_
  refine R_run hg.ok 1000 rfl rfl ?_
  refine R_call hg.ok (with_ok l[k] a (by omega)) rfl rfl rfl rfl rfl rfl ?_
  refine R_run hg.ok 1000 rfl rfl ?_
  have hwl := Tm.withV_len l[k] a
  exact R_next (k + 1, Tm.withV a l[k]) ⟨hk1, hm, by simp only; omega⟩ (by simp only; omega) ⟨.refl _, .refl _, Ent.wrap (by simp only; omega) (by simp only; omega) (by simp only; omega), trivial⟩ rfl
 ·have hk1 : l.length ≤ k := ge_dec h (by rw [Tm.rows_length])
  refine R_ret hg 5 rfl rfl ?_
  rw [hm, List.drop_eq_nil_of_le hk1]; rfl
end Go.Proofs.YthdpfglpdgmphaaGreat

namespace Go.Proofs.YthdpfglpdgmphaaGreat
open Go PSL Go.Proofs

set_option maxHeartbeats 4000000 in
set_option maxRecDepth 100000 in
theorem refBuiltin_ok (s : ByteArray) (n : Int) : PCtr Tryz.prog 61 [.d (.v (.string s)), .d (.v (.int .i64 n))] (bV (bltB (s, n))) := by
 rw [bltX_eq]
 unfold bltX
 refine PCtr.of_R (pf := fun _ => .still) tyOk mixed Tryz.func61 rfl (by kernel_rfl) (by kernel_rfl) (by simp [Tryz.ntmps61]) fun w S hg => ?_
 refine R_run hg.ok 1000 rfl rfl ?_
 repeat' (refine R_if rfl rfl (fun _ => ?_) (fun _ => ?_) <;> refine R_run hg.ok 1000 rfl rfl ?_)
 all_goals (
  refine R_ret hg 5 rfl rfl ?_
  simp_all [bV])

set_option maxHeartbeats 4000000 in
set_option maxRecDepth 100000 in
theorem refControl_ok (s : ByteArray) (n : Int) : PCtr Tryz.prog 62 [.d (.v (.string s)), .d (.v (.int .i64 n))] (bV (ctlB (s, n))) := by
 rw [ctlX_eq]
 unfold ctlX
 refine PCtr.of_R (pf := fun _ => .still) tyOk mixed Tryz.func62 rfl (by kernel_rfl) (by kernel_rfl) (by simp [Tryz.ntmps62]) fun w S hg => ?_
 refine R_run hg.ok 1000 rfl rfl ?_
 repeat' (refine R_if rfl rfl (fun _ => ?_) (fun _ => ?_) <;> refine R_run hg.ok 1000 rfl rfl ?_)
 all_goals (
  refine R_ret hg 5 rfl rfl ?_
  simp_all [bV])
end Go.Proofs.YthdpfglpdgmphaaGreat

namespace Go.Proofs.YthdpfglpdgmphaaGreat
open Go PSL Go.Proofs

theorem refBuiltinT_ok (t : Tm) : PCtr Tryz.prog 61 [.d (.v (.string t.s)), .d (.v (.int .i64 ((Tm.rows t.l).length : Int)))] (bV (bltB (sgOf t))) := by
 rw [Tm.rows_length]; exact refBuiltin_ok t.s t.l.length

theorem refControlT_ok (t : Tm) : PCtr Tryz.prog 62 [.d (.v (.string t.s)), .d (.v (.int .i64 ((Tm.rows t.l).length : Int)))] (bV (ctlB (sgOf t))) := by
 rw [Tm.rows_length]; exact refControl_ok t.s t.l.length

set_option maxRecDepth 100000 in
theorem refOwn_ok (t : Tm) : PCtr Tryz.prog 37 [t.av] (bV (ownB t)) := by
 refine PCtr.of_R (pf := fun _ => .eff) tyOk mixed Tryz.func37 rfl (by kernel_rfl) (by kernel_rfl) (by simp [Tryz.ntmps37]) fun w S hg => ?_
 refine R_run hg.ok 1000 rfl rfl ?_
 refine R_if rfl rfl (fun h => ?_) (fun h => ?_) <;> refine R_run hg.ok 1000 rfl rfl ?_
 ·refine R_call hg.ok (refBuiltinT_ok t) rfl rfl rfl rfl rfl rfl ?_
  refine R_run hg.ok 1000 rfl rfl ?_
  refine R_if rfl rfl (fun h2 => ?_) (fun h2 => ?_) <;> refine R_run hg.ok 1000 rfl rfl ?_
  ·refine R_call hg.ok (refControlT_ok t) rfl rfl rfl rfl rfl rfl ?_
   refine R_run hg.ok 1000 rfl rfl ?_
   refine R_ret hg 5 rfl rfl ?_
   unfold ownB
   rw [h, h2]; rfl
  ·refine R_ret hg 5 rfl rfl ?_
   unfold ownB
   rw [h, h2]; rfl
 ·refine R_ret hg 5 rfl rfl ?_
  unfold ownB
  rw [h]; rfl

set_option maxRecDepth 100000 in
theorem refVarsB_ok (t : Tm) (v : Int) (ht : SmT t) : PCtr Tryz.prog 36 [t.av, iV v] (bV (varsB v t)) := by
 have hs := ht.1
 have hv := (refVars_ok [t] (by simp [Tm.sizeL]; omega)).one
 have hr := refRight_ok t (by omega) ht.2
 have hlen : (Tm.withVL [] [t]).length ≤ t.size := by have := Tm.withVL_len [t] []; simpa [Tm.sizeL] using this
 have hw : varsB v t = ((Tm.withVL [] [t]).all (fun x => decide (x < v)) && t.rightB) := by
  unfold varsB
  cases h : t.rightB with
  | false => simp
  | true => rw [varsT_with [t] (Tm.fairL_plain _ (fairL_of (by simpa using h)))]
 rw [hw]
 generalize Tm.withVL [] [t] = V at *
 refine PCtr.of_R (pf := fun _ => .eff) tyOk mixed Tryz.func36 rfl (by kernel_rfl) (by kernel_rfl) (by simp [Tryz.ntmps36]) fun w S hg => ?_
 refine R_run hg.ok 1000 rfl rfl ?_
 refine R_call hg.ok (hv) rfl rfl rfl rfl rfl rfl ?_
 refine R_run hg.ok 1000 rfl rfl ?_
 refine R_loop (fun k : Nat => ([(1, iV v), (2, .lo 0 0), (5, .d (.sl (irows V))), (6, iV k)], [boxR t])) (fun k => k ≤ V.length ∧ V.all (fun x => decide (x < v)) = (V.drop k).all fun x => decide (x < v)) (fun k => V.length - k) 0 ⟨Nat.zero_le _, rfl⟩ ⟨.refl _, .refl _, .refl _, .refl _, trivial⟩ rfl ?_
 rintro k ⟨hk, hm⟩
 refine R_run hg.ok 1000 rfl rfl ?_
 refine R_if rfl rfl (fun h => ?_) (fun h => ?_) <;> refine R_run hg.ok 1000 rfl rfl ?_
 ·have hk1 : k < V.length := lt_dec h (by rw [irows_length])
  have e1 : V[k]? = some V[k] := List.getElem?_eq_getElem hk1
  rw [List.drop_eq_getElem_cons hk1, List.all_cons] at hm
  generalize V[k] = x at e1 hm
  refine R_index hg.ok rfl rfl rfl rfl rfl rfl (Int.natCast_nonneg _) (irows_get e1) rfl ?_
  refine R_run hg.ok 1000 rfl rfl ?_
  refine R_if rfl rfl (fun h => ?_) (fun h => ?_) <;> refine R_run hg.ok 1000 rfl rfl ?_
  ·refine R_ret hg 5 rfl rfl ?_
   rw [hm, show decide (x < v) = false by simpa using h]; rfl
  ·exact R_next (k + 1) ⟨hk1, by rw [hm, show decide (x < v) = true by simpa using h, Bool.true_and]⟩ (by omega) ⟨.refl _, .refl _, .refl _, Ent.wrap (by omega) (by omega) (by omega), trivial⟩ rfl
 ·have hk1 : V.length ≤ k := ge_dec h (by rw [irows_length])
  refine R_call hg.ok (hr) rfl rfl rfl rfl rfl rfl ?_
  refine R_run hg.ok 1000 rfl rfl ?_
  refine R_ret hg 5 rfl rfl ?_
  rw [hm, List.drop_eq_nil_of_le hk1]; rfl

theorem noneL_eq (a b c : List Gl) : noneG a b c = (decide (a.length = 0) && decide (b.length = 0) && decide (c.length = 0)) := by
 unfold noneG
 rw [Bool.eq_iff_iff]
 simp only [decide_eq_true_eq, Bool.and_eq_true]
 omega

set_option maxHeartbeats 4000000 in
set_option maxRecDepth 100000 in
theorem refFair_ok (g : Gl) (v : Int) (ht : SmT g.t) : PCtr Tryz.prog 58 [g.av, iV v] (bV (fairB v g)) := by
 have hs := refSame_ok g.t zeroT (by have := ht.1; omega)
 rw [noth_zero] at hs
 have hf : fairB v g = if g.k = 1 then noneG g.a g.b g.c && ownB g.t && varsB v g.t
  else if g.k = 2 then noneG g.a g.b g.c && (g.t.k == 3) && bltB (sgOf g.t) && varsB v g.t
  else if g.k = 3 then noneG g.a g.b g.c && nothB g.t
  else nothB g.t && ((g.k == 4) || (g.k == 5) && decide (g.b.length + g.c.length = 0)) := by cases g; rw [fairB]; rfl
 rw [hf]
 refine PCtr.of_R (pf := fun _ => .eff) tyOk mixed Tryz.func58 rfl (by kernel_rfl) (by kernel_rfl) (by simp [Tryz.ntmps58]) fun w S hg => ?_
 refine R_run hg.ok 1000 rfl rfl ?_
 refine R_call hg.ok (hs) rfl rfl rfl rfl rfl rfl ?_
 refine R_run hg.ok 1000 rfl rfl ?_
 have z : ∀ l : List Gl, (((Gl.rows l).length : Int) == 0) = decide (l.length = 0) := fun l => by
  rw [Gl.rows_length, Bool.eq_iff_iff]; simp
 refine R_cut1 (fun _ : Unit => ([(1, iV v), (2, .lo 0 0), (5, bV (nothB g.t)), (6, bV (noneG g.a g.b g.c))], [glBox g])) (fun _ => True) rfl ?_ ?_
 ·rw [noneL_eq, z]
  cases ha : decide (g.a.length = 0) with
  | false =>
   refine R_if rfl rfl (fun h => absurd h (by simp)) (fun _ => ?_) <;> refine R_run hg.ok 1000 rfl rfl ?_
   exact R_to () trivial ⟨.refl _, .refl _, .refl _, (by first | exact .refl _ | exact .ff), trivial⟩ rfl
  | true =>
   refine R_if rfl rfl (fun _ => ?_) (fun h => absurd h (by simp)) <;> refine R_run hg.ok 1000 rfl rfl ?_
   rw [z]
   cases hb : decide (g.b.length = 0) with
   | false =>
    refine R_if rfl rfl (fun h => absurd h (by simp)) (fun _ => ?_) <;> refine R_run hg.ok 1000 rfl rfl ?_
    exact R_to () trivial ⟨.refl _, .refl _, .refl _, (by first | exact .refl _ | exact .ff), trivial⟩ rfl
   | true =>
    refine R_if rfl rfl (fun _ => ?_) (fun h => absurd h (by simp)) <;> refine R_run hg.ok 1000 rfl rfl ?_
    rw [z]
    exact R_to () trivial ⟨.refl _, .refl _, .refl _, (by first | exact .refl _ | exact .ff), trivial⟩ rfl
 rintro _ _
 refine R_run hg.ok 1000 rfl rfl ?_
 by_cases c1 : g.k = 1
 ·rw [if_pos c1]
  refine R_if rfl rfl (fun _ => ?_) (fun h => absurd h (by simp [c1])) <;> refine R_run hg.ok 1000 rfl rfl ?_
  refine R_if rfl rfl (fun n1 => ?_) (fun n1 => ?_) <;> refine R_run hg.ok 1000 rfl rfl ?_
  ·refine R_call hg.ok (refOwn_ok g.t) rfl rfl rfl rfl rfl rfl ?_
   refine R_run hg.ok 1000 rfl rfl ?_
   refine R_if rfl rfl (fun n2 => ?_) (fun n2 => ?_) <;> refine R_run hg.ok 1000 rfl rfl ?_
   ·refine R_call hg.ok (refVarsB_ok g.t v ht) rfl rfl rfl rfl rfl rfl ?_
    refine R_run hg.ok 1000 rfl rfl ?_
    refine R_ret hg 5 rfl rfl ?_
    rw [n1, n2]; rfl
   ·refine R_ret hg 5 rfl rfl ?_
    rw [n1, n2]; rfl
  ·refine R_ret hg 5 rfl rfl ?_
   rw [n1]; rfl
 rw [if_neg c1]
 refine R_if rfl rfl (fun h => absurd h (by simp [c1])) (fun _ => ?_) <;> refine R_run hg.ok 1000 rfl rfl ?_
 by_cases c2 : g.k = 2
 ·rw [if_pos c2]
  refine R_if rfl rfl (fun _ => ?_) (fun h => absurd h (by simp [c2])) <;> refine R_run hg.ok 1000 rfl rfl ?_
  refine R_if rfl rfl (fun n1 => ?_) (fun n1 => ?_) <;> refine R_run hg.ok 1000 rfl rfl ?_
  ·refine R_if rfl rfl (fun n2 => ?_) (fun n2 => ?_) <;> refine R_run hg.ok 1000 rfl rfl ?_
   ·refine R_call hg.ok (refBuiltinT_ok g.t) rfl rfl rfl rfl rfl rfl ?_
    refine R_run hg.ok 1000 rfl rfl ?_
    refine R_if rfl rfl (fun n3 => ?_) (fun n3 => ?_) <;> refine R_run hg.ok 1000 rfl rfl ?_
    ·refine R_call hg.ok (refVarsB_ok g.t v ht) rfl rfl rfl rfl rfl rfl ?_
     refine R_run hg.ok 1000 rfl rfl ?_
     refine R_ret hg 5 rfl rfl ?_
     rw [n1, n2, n3]; rfl
    ·refine R_ret hg 5 rfl rfl ?_
     rw [n1, n2, n3]; rfl
   ·refine R_ret hg 5 rfl rfl ?_
    rw [n1, n2]; rfl
  ·refine R_ret hg 5 rfl rfl ?_
   rw [n1]; rfl
 rw [if_neg c2]
 refine R_if rfl rfl (fun h => absurd h (by simp [c2])) (fun _ => ?_) <;> refine R_run hg.ok 1000 rfl rfl ?_
 by_cases c3 : g.k = 3
 ·rw [if_pos c3]
  refine R_if rfl rfl (fun _ => ?_) (fun h => absurd h (by simp [c3])) <;> refine R_run hg.ok 1000 rfl rfl ?_
  refine R_if rfl rfl (fun n1 => ?_) (fun n1 => ?_) <;> refine R_run hg.ok 1000 rfl rfl ?_
  ·refine R_ret hg 5 rfl rfl ?_
   rw [n1]; rfl
  ·refine R_ret hg 5 rfl rfl ?_
   rw [n1]; rfl
 rw [if_neg c3]
 refine R_if rfl rfl (fun h => absurd h (by simp [c3])) (fun _ => ?_) <;> refine R_run hg.ok 1000 rfl rfl ?_
 refine R_if rfl rfl (fun n1 => ?_) (fun n1 => ?_) <;> refine R_run hg.ok 1000 rfl rfl ?_
 rotate_left
 ·refine R_ret hg 5 rfl rfl ?_
  rw [n1]; rfl
 rw [n1]
 refine R_if rfl rfl (fun n2 => ?_) (fun n2 => ?_) <;> refine R_run hg.ok 1000 rfl rfl ?_
 ·refine R_ret hg 5 rfl rfl ?_
  rw [n2]; rfl
 rw [n2]
 refine R_if rfl rfl (fun n3 => ?_) (fun n3 => ?_) <;> refine R_run hg.ok 1000 rfl rfl ?_
 rotate_left
 ·refine R_ret hg 5 rfl rfl ?_
  rw [n3]; rfl
 rw [n3, z]
 cases hb : decide (g.b.length = 0) with
 | false =>
  refine R_if rfl rfl (fun h => absurd h (by simp)) (fun _ => ?_) <;> refine R_run hg.ok 1000 rfl rfl ?_
  refine R_ret hg 5 rfl rfl ?_
  rw [decide_eq_false (show ¬ g.b.length + g.c.length = 0 by have := of_decide_eq_false hb; omega)]; rfl
 | true =>
  have hb := of_decide_eq_true hb
  refine R_if rfl rfl (fun _ => ?_) (fun h => absurd h (by simp)) <;> refine R_run hg.ok 1000 rfl rfl ?_
  rw [z]
  refine R_ret hg 5 rfl rfl ?_
  rw [hb, Nat.zero_add]; rfl

set_option maxHeartbeats 4000000 in
set_option maxRecDepth 100000 in
theorem refCount_ok (v : Int) (l : List Gl) : ∀ (deep : Int) (cuts : Bool), allGL SmT l → Gl.sizeL l ≤ 1000000 → 0 ≤ deep → deep + Gl.sizeL l ≤ 1000000000 → PCtr Tryz.prog 35 [.d (.sl (Gl.rows l)), iV v, iV deep, bV cuts] (iV (cntL v l deep cuts)) := by
 refine Gl.indL (p := fun l => ∀ (deep : Int) (cuts : Bool), allGL SmT l → Gl.sizeL l ≤ 1000000 → 0 ≤ deep → deep + Gl.sizeL l ≤ 1000000000 → PCtr Tryz.prog 35 [.d (.sl (Gl.rows l)), iV v, iV deep, bV cuts] (iV (cntL v l deep cuts))) (fun l hsub => ?_) l
 intro deep cuts hl hz h3 h4
 have hlen := Gl.len_size l
 have hrl := Gl.rows_length l
 refine PCtr.of_R (pf := fun _ => .eff) tyOk mixed Tryz.func35 rfl (by kernel_rfl) (by kernel_rfl) (by simp [Tryz.ntmps35]) fun w S hg => ?_
 refine R_run hg.ok 1000 rfl rfl ?_
 by_cases hd : l.length ≠ 0 ∧ 10 < deep
 ·refine R_if rfl rfl (fun _ => ?_) (fun h => absurd (of_decide_eq_false h) (by omega)) <;> refine R_run hg.ok 1000 rfl rfl ?_
  refine R_if rfl rfl (fun _ => ?_) (fun h => absurd (of_decide_eq_false h) (by omega)) <;> refine R_run hg.ok 1000 rfl rfl ?_
  refine R_ret hg 5 rfl rfl ?_
  unfold cntL; rw [if_pos hd]; rfl
 have hcnt : cntL v l deep cuts = cntG v l deep cuts := by unfold cntL; rw [if_neg hd]
 have hwd : IntKind.i64.wrap (deep + 1) = deep + 1 := w64 (by omega) (by omega)
 rw [hcnt]
 refine R_cut1 (fun _ : Unit => ([(0, .d (.sl (Gl.rows l))), (1, iV v), (2, iV deep), (3, bV cuts), (9, iV 0), (21, bV false)], [])) (fun _ => True) rfl ?_ ?_
 ·by_cases h0 : l.length = 0
  ·refine R_if rfl rfl (fun h => absurd (of_decide_eq_true h) (by omega)) (fun _ => ?_) <;> refine R_run hg.ok 1000 rfl rfl ?_
   exact R_to () trivial ⟨.refl _, .refl _, .refl _, .refl _, .refl _, (by first | exact .refl _ | exact .ff), trivial⟩ rfl
  ·refine R_if rfl rfl (fun _ => ?_) (fun h => absurd (of_decide_eq_false h) (by omega)) <;> refine R_run hg.ok 1000 rfl rfl ?_
   rw [decide_eq_false (show ¬ deep > 10 by omega)]
   exact R_to () trivial ⟨.refl _, .refl _, .refl _, .refl _, .refl _, (by first | exact .refl _ | exact .ff), trivial⟩ rfl
 rintro _ _
 refine R_if rfl rfl (fun h => absurd h (by simp)) (fun _ => ?_) <;> refine R_run hg.ok 1000 rfl rfl ?_
 refine R_loop (fun x : Nat × Int => ([(0, .d (.sl (Gl.rows l))), (1, iV v), (2, iV deep), (3, bV cuts), (9, iV x.2), (10, iV x.1)], [])) (fun x => x.1 ≤ l.length ∧ cntG v l deep cuts = cmbG v (l.drop x.1) deep cuts x.2 ∧ 0 ≤ x.2 ∧ x.2 + Gl.sizeL (l.drop x.1) ≤ Gl.sizeL l) (fun x => l.length - x.1) (0, 0) ⟨Nat.zero_le _, by
  show cntG v l deep cuts = cmbG v l deep cuts 0
  unfold cmbG
  have := cnt_ge v l deep cuts
  rw [hcnt] at this
  split <;> omega, Int.le_refl _, by simp⟩ ⟨.refl _, .refl _, .refl _, .refl _, .refl _, .refl _, trivial⟩ rfl ?_
 rintro ⟨k, m⟩ ⟨hk, hm, hm0, hms⟩
 refine R_run hg.ok 1000 rfl rfl ?_
 refine R_if rfl rfl (fun h => ?_) (fun h => ?_) <;> refine R_run hg.ok 1000 rfl rfl ?_
 ·have hk1 : k < l.length := lt_dec h (by rw [hrl])
  have e1 : l[k]? = some l[k] := List.getElem?_eq_getElem hk1
  have hmem := List.getElem_mem hk1
  rw [List.drop_eq_getElem_cons hk1] at hm hms
  generalize l[k] = g at e1 hm hms hmem
  have hsz := Gl.size_mem hmem
  have hge := Gl.size_eq g
  have htp := Gl.tmPos g.t
  obtain ⟨sa, sb, sc⟩ := hsub g hmem
  obtain ⟨st, ma, mb, mc⟩ := allGL_mem hl g hmem
  rw [cmbG_cons, cnt1_eq] at hm
  simp only [Gl.sizeL] at hms
  have la := cnt_le v g.a (deep + 1) false
  have lb := cnt_le v g.b (deep + 1) cuts
  have lc := cnt_le v g.c (deep + 1) cuts
  have ga := cnt_ge v g.a (deep + 1) false
  have gb := cnt_ge v g.b (deep + 1) cuts
  have gc := cnt_ge v g.c (deep + 1) cuts
  have ca := sa (deep + 1) false ma (by omega) (by omega) (by omega)
  have cb := sb (deep + 1) cuts mb (by omega) (by omega) (by omega)
  have cc := sc (deep + 1) cuts mc (by omega) (by omega) (by omega)
  refine R_index hg.ok rfl rfl rfl rfl rfl rfl (Int.natCast_nonneg _) (Gl.rows_get e1) rfl ?_
  refine R_run hg.ok 1000 rfl rfl ?_
  have hF := refFair_ok g v st
  cases hf : fairB v g with
  | false =>
   rw [hf] at hF hm
   refine R_call hg.ok (hF) rfl rfl rfl rfl rfl rfl ?_
   refine R_run hg.ok 1000 rfl rfl ?_
   refine R_if rfl rfl (fun _ => ?_) (fun h => absurd h (by simp)) <;> refine R_run hg.ok 1000 rfl rfl ?_
   refine R_ret hg 5 rfl rfl ?_
   rw [hm]; rfl
  | true =>
   rw [hf] at hF hm
   refine R_call hg.ok (hF) rfl rfl rfl rfl rfl rfl ?_
   refine R_run hg.ok 1000 rfl rfl ?_
   refine R_if rfl rfl (fun h => absurd h (by simp)) (fun _ => ?_) <;> refine R_run hg.ok 1000 rfl rfl ?_
   cases h3k : (g.k == 3) with
   | false =>
    rw [h3k] at hm
    refine R_if rfl rfl (fun h => absurd h (by simp [h3k])) (fun _ => ?_) <;> refine R_run hg.ok 1000 rfl rfl ?_
    simp only [Bool.not_true, Bool.false_or, Bool.false_and, Bool.and_false, Bool.not_false, Bool.and_self, Bool.false_eq_true, if_false] at hm
    rw [hwd]
    refine R_call hg.ok (ca) rfl rfl rfl rfl rfl rfl ?_
    refine R_run hg.ok 1000 rfl rfl ?_
    rw [hwd]
    refine R_call hg.ok (cb) rfl rfl rfl rfl rfl rfl ?_
    refine R_run hg.ok 1000 rfl rfl ?_
    rw [hwd]
    refine R_call hg.ok (cc) rfl rfl rfl rfl rfl rfl ?_
    refine R_run hg.ok 1000 rfl rfl ?_
    generalize cntL v g.a (deep + 1) false = qa at *
    generalize cntL v g.b (deep + 1) cuts = qb at *
    generalize cntL v g.c (deep + 1) cuts = qc at *
    by_cases h1 : qa < 0
    ·rw [show (if qa < 0 ∨ qb < 0 ∨ qc < 0 then (-1 : Int) else 1 + qa + qb + qc) = -1 from if_pos (.inl h1), if_pos (by decide)] at hm
     refine R_if rfl rfl (fun _ => ?_) (fun h => absurd (of_decide_eq_false h) (by omega)) <;> refine R_run hg.ok 1000 rfl rfl ?_
     refine R_ret hg 5 rfl rfl ?_
     rw [hm]; rfl
    refine R_if rfl rfl (fun h => absurd (of_decide_eq_true h) (by omega)) (fun _ => ?_) <;> refine R_run hg.ok 1000 rfl rfl ?_
    by_cases h2 : qb < 0
    ·rw [show (if qa < 0 ∨ qb < 0 ∨ qc < 0 then (-1 : Int) else 1 + qa + qb + qc) = -1 from if_pos (.inr (.inl h2)), if_pos (by decide)] at hm
     refine R_if rfl rfl (fun _ => ?_) (fun h => absurd (of_decide_eq_false h) (by omega)) <;> refine R_run hg.ok 1000 rfl rfl ?_
     refine R_ret hg 5 rfl rfl ?_
     rw [hm]; rfl
    refine R_if rfl rfl (fun h => absurd (of_decide_eq_true h) (by omega)) (fun _ => ?_) <;> refine R_run hg.ok 1000 rfl rfl ?_
    by_cases h3 : qc < 0
    ·rw [show (if qa < 0 ∨ qb < 0 ∨ qc < 0 then (-1 : Int) else 1 + qa + qb + qc) = -1 from if_pos (.inr (.inr h3)), if_pos (by decide)] at hm
     refine R_if rfl rfl (fun _ => ?_) (fun h => absurd (of_decide_eq_false h) (by omega)) <;> refine R_run hg.ok 1000 rfl rfl ?_
     refine R_ret hg 5 rfl rfl ?_
     rw [hm]; rfl
    refine R_if rfl rfl (fun h => absurd (of_decide_eq_true h) (by omega)) (fun _ => ?_) <;> refine R_run hg.ok 1000 rfl rfl ?_
    rw [show (if qa < 0 ∨ qb < 0 ∨ qc < 0 then (-1 : Int) else 1 + qa + qb + qc) = 1 + qa + qb + qc from if_neg (by omega), if_neg (by omega), show m + (1 + qa + qb + qc) = m + 1 + qa + qb + qc by omega] at hm
    rw [w64 (n := m + 1) (by omega) (by omega), w64 (n := m + 1 + qa) (by omega) (by omega), w64 (n := m + 1 + qa + qb) (by omega) (by omega), w64 (n := m + 1 + qa + qb + qc) (by omega) (by omega)]
    refine R_dropO 0 [] (Nat.zero_le _) rfl rfl ?_
    exact R_next (k + 1, m + 1 + qa + qb + qc) ⟨hk1, hm, by simp only; omega, by simp only; omega⟩ (by simp only; omega) ⟨.refl _, .refl _, .refl _, .refl _, .refl _, Ent.wrap (by simp only; omega) (by simp only; omega) (by simp only; omega), trivial⟩ rfl
   | true =>
    rw [h3k] at hm
    refine R_if rfl rfl (fun _ => ?_) (fun h => absurd h (by simp [h3k])) <;> refine R_run hg.ok 1000 rfl rfl ?_
    cases cuts with
    | false =>
     refine R_if rfl rfl (fun _ => ?_) (fun h => absurd h (by simp)) <;> refine R_run hg.ok 1000 rfl rfl ?_
     refine R_ret hg 5 rfl rfl ?_
     rw [hm]; rfl
    | true =>
     refine R_if rfl rfl (fun h => absurd h (by simp)) (fun _ => ?_) <;> refine R_run hg.ok 1000 rfl rfl ?_
     simp only [Bool.not_true, Bool.false_or, Bool.false_and, Bool.and_false, Bool.not_false, Bool.and_self, Bool.false_eq_true, if_false] at hm
     rw [hwd]
     refine R_call hg.ok (ca) rfl rfl rfl rfl rfl rfl ?_
     refine R_run hg.ok 1000 rfl rfl ?_
     rw [hwd]
     refine R_call hg.ok (cb) rfl rfl rfl rfl rfl rfl ?_
     refine R_run hg.ok 1000 rfl rfl ?_
     rw [hwd]
     refine R_call hg.ok (cc) rfl rfl rfl rfl rfl rfl ?_
     refine R_run hg.ok 1000 rfl rfl ?_
     generalize cntL v g.a (deep + 1) false = qa at *
     generalize cntL v g.b (deep + 1) true = qb at *
     generalize cntL v g.c (deep + 1) true = qc at *
     by_cases h1 : qa < 0
     ·rw [show (if qa < 0 ∨ qb < 0 ∨ qc < 0 then (-1 : Int) else 1 + qa + qb + qc) = -1 from if_pos (.inl h1), if_pos (by decide)] at hm
      refine R_if rfl rfl (fun _ => ?_) (fun h => absurd (of_decide_eq_false h) (by omega)) <;> refine R_run hg.ok 1000 rfl rfl ?_
      refine R_ret hg 5 rfl rfl ?_
      rw [hm]; rfl
     refine R_if rfl rfl (fun h => absurd (of_decide_eq_true h) (by omega)) (fun _ => ?_) <;> refine R_run hg.ok 1000 rfl rfl ?_
     by_cases h2 : qb < 0
     ·rw [show (if qa < 0 ∨ qb < 0 ∨ qc < 0 then (-1 : Int) else 1 + qa + qb + qc) = -1 from if_pos (.inr (.inl h2)), if_pos (by decide)] at hm
      refine R_if rfl rfl (fun _ => ?_) (fun h => absurd (of_decide_eq_false h) (by omega)) <;> refine R_run hg.ok 1000 rfl rfl ?_
      refine R_ret hg 5 rfl rfl ?_
      rw [hm]; rfl
     refine R_if rfl rfl (fun h => absurd (of_decide_eq_true h) (by omega)) (fun _ => ?_) <;> refine R_run hg.ok 1000 rfl rfl ?_
     by_cases h3 : qc < 0
     ·rw [show (if qa < 0 ∨ qb < 0 ∨ qc < 0 then (-1 : Int) else 1 + qa + qb + qc) = -1 from if_pos (.inr (.inr h3)), if_pos (by decide)] at hm
      refine R_if rfl rfl (fun _ => ?_) (fun h => absurd (of_decide_eq_false h) (by omega)) <;> refine R_run hg.ok 1000 rfl rfl ?_
      refine R_ret hg 5 rfl rfl ?_
      rw [hm]; rfl
     refine R_if rfl rfl (fun h => absurd (of_decide_eq_true h) (by omega)) (fun _ => ?_) <;> refine R_run hg.ok 1000 rfl rfl ?_
     rw [show (if qa < 0 ∨ qb < 0 ∨ qc < 0 then (-1 : Int) else 1 + qa + qb + qc) = 1 + qa + qb + qc from if_neg (by omega), if_neg (by omega), show m + (1 + qa + qb + qc) = m + 1 + qa + qb + qc by omega] at hm
     rw [w64 (n := m + 1) (by omega) (by omega), w64 (n := m + 1 + qa) (by omega) (by omega), w64 (n := m + 1 + qa + qb) (by omega) (by omega), w64 (n := m + 1 + qa + qb + qc) (by omega) (by omega)]
     refine R_dropO 0 [] (Nat.zero_le _) rfl rfl ?_
     exact R_next (k + 1, m + 1 + qa + qb + qc) ⟨hk1, hm, by simp only; omega, by simp only; omega⟩ (by simp only; omega) ⟨.refl _, .refl _, .refl _, .refl _, .refl _, Ent.wrap (by simp only; omega) (by simp only; omega) (by simp only; omega), trivial⟩ rfl
 ·have hk1 : l.length ≤ k := ge_dec h (by rw [hrl])
  refine R_ret hg 5 rfl rfl ?_
  have hm : cntG v l deep cuts = cmbG v (l.drop k) deep cuts m := hm
  rw [List.drop_eq_nil_of_le hk1] at hm
  rw [hm, show cmbG v [] deep cuts m = m by simp [cmbG, cntG]]
  rfl

set_option maxRecDepth 100000 in
theorem refClause_ok (x : Cs) (hx : SmC x) : PCtr Tryz.prog 12 [x.av] (bV (clsD x)) := by
 have hb := hx.size
 have hc := refCount_ok x.vars x.body 1 true hx.body (by omega) (by omega) (by omega)
 refine PCtr.of_R (pf := fun _ => .eff) tyOk mixed Tryz.func12 rfl (by kernel_rfl) (by kernel_rfl) (by simp [Tryz.ntmps12]) fun w S hg => ?_
 refine R_run hg.ok 1000 rfl rfl ?_
 refine R_call hg.ok (hc) rfl rfl rfl rfl rfl rfl ?_
 refine R_run hg.ok 1000 rfl rfl ?_
 unfold clsD
 refine R_if rfl rfl (fun n1 => ?_) (fun n1 => ?_) <;> refine R_run hg.ok 1000 rfl rfl ?_
 rotate_left
 ·refine R_ret hg 5 rfl rfl ?_
  rw [show decide (0 ≤ x.vars) = false from n1]; rfl
 rw [show decide (0 ≤ x.vars) = true from n1]
 refine R_if rfl rfl (fun n2 => ?_) (fun n2 => ?_) <;> refine R_run hg.ok 1000 rfl rfl ?_
 rotate_left
 ·refine R_ret hg 5 rfl rfl ?_
  rw [show decide (x.vars ≤ 1000) = false from n2]; rfl
 rw [show decide (x.vars ≤ 1000) = true from n2]
 refine R_call hg.ok (refVarsB_ok x.head x.vars hx.head) rfl rfl rfl rfl rfl rfl ?_
 refine R_run hg.ok 1000 rfl rfl ?_
 refine R_if rfl rfl (fun n3 => ?_) (fun n3 => ?_) <;> refine R_run hg.ok 1000 rfl rfl ?_
 rotate_left
 ·refine R_ret hg 5 rfl rfl ?_
  rw [n3]; rfl
 rw [n3]
 refine R_call hg.ok (refOwn_ok x.head) rfl rfl rfl rfl rfl rfl ?_
 refine R_run hg.ok 1000 rfl rfl ?_
 refine R_if rfl rfl (fun n4 => ?_) (fun n4 => ?_) <;> refine R_run hg.ok 1000 rfl rfl ?_
 rotate_left
 ·refine R_ret hg 5 rfl rfl ?_
  rw [n4]; rfl
 rw [n4]
 refine R_if rfl rfl (fun n5 => ?_) (fun n5 => ?_) <;> refine R_run hg.ok 1000 rfl rfl ?_
 rotate_left
 ·refine R_ret hg 5 rfl rfl ?_
  rw [show decide (0 ≤ cntL x.vars x.body 1 true) = false from n5]; rfl
 rw [show decide (0 ≤ cntL x.vars x.body 1 true) = true from n5]
 refine R_ret hg 5 rfl rfl ?_
 rfl
end Go.Proofs.YthdpfglpdgmphaaGreat
