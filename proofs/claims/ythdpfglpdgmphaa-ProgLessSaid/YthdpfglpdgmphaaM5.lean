import Derived.Test.YthdpfglpdgmphaaM4
namespace Go.Proofs.Ythdpfglpdgmphaa
open Go PSL Go.Proofs
def clRow (x : Clau) : List D := [.v (.int .i64 x.1.k), .v (.string x.1.s), .v (.int .i64 x.1.n), .sl (Tm.rows x.1.l), .sl (strRows x.2)]
def clRows (l : List Clau) : List (List D) := l.map clRow
theorem clRows_len (l : List Clau) : (clRows l).length = l.length := by simp [clRows]

/-- A reader between two clauses. -/
def cl1 (S : Bs) (L : List Tk) (st : RSt) : Ob := .box [.d (.v (.string (Tx S))), .d (.sl (tkRows L)), iV st.at_, .d (.sl (strRows st.names)), iV 0, iV st.bad, iV st.e, .d (.v (.int .u32 (if st.lay then 1 else 0))), .d (.v (.int .i32 0)), .d (.v (.int .u32 0)), tblV st.lay]
def cl2 (S : Bs) (L : List Tk) (st : RSt) : Ob := .box [.d (.v (.string (Tx S))), .d (.sl (tkRows L)), iV st.at_, .ow 2 st.names.length, iV 0, iV st.bad, iV st.e, .d (.v (.int .u32 (if st.lay then 1 else 0))), .d (.v (.int .i32 0)), .d (.v (.int .u32 0)), tblV st.lay]
def clO (S : Bs) (L : List Tk) (st : RSt) (j : Nat) (out : List Clau) : List Ob := [cl2 S L st, .arr 5 j (clRows out), .arr 1 st.names.length (strRows st.names)]
theorem rdX_ren02 (S : Bs) (L : List Tk) (st : RSt) (n : Nat) : (rdX S L st 0).map (renOb (rn [0, 2] n)) = [cl2 S L st, .arr 1 st.names.length (strRows st.names)] := robj_ren _ _ _ _ _ _ _ _ _ _ _

theorem cl1_keep (S : Bs) (L : List Tk) (st : RSt) (o : List Ob) : [cl1 S L st].map (mapOb (sealT false 1 o 5)) = [cl1 S L st] := by
  unfold cl1; generalize st.lay = b; cases b <;> rfl

theorem cl1_ren (S : Bs) (L : List Tk) (st : RSt) (n : Nat) : [cl1 S L st].map (renOb (rn [0] n)) = [cl1 S L st] := by
  unfold cl1; generalize st.lay = b; cases b <;> rfl

set_option maxRecDepth 100000 in
theorem clPlace_ok (Y : YP) (S0 : Bs) (L : List Tk) (st : RSt) : SCtr Try.prog Y 20 [.lo 0 0] [cl1 S0 L st] (iV (plcR L S0.length st.at_)) [cl1 S0 L st] := by
  refine SCtr.of_R (pf := fun _ => .eff) tyOk mixed Try.func20 rfl (by kernel_rfl) (by kernel_rfl) (by simp [Try.ntmps20]) (by simp) fun w S φ hg => ?_
  have hk : ∀ o : List Ob, [cl1 S0 L st].map (mapOb (sealT false 1 o 5)) = [cl1 S0 L st] := fun o => cl1_keep _ _ _ _
  refine R_run hg.ok 1000 rfl rfl ?_
  refine R_if rfl rfl (fun h => ?_) (fun h => ?_) <;> refine R_run hg.ok 1000 rfl rfl ?_
  · have hl : st.at_ < L.length := by have := of_decide_eq_true h; rw [tkRows_len] at this; omega
    have e1 : L[st.at_]? = some L[st.at_] := List.getElem?_eq_getElem hl
    rw [show plcR L S0.length st.at_ = L[st.at_].at_ by unfold plcR; rw [e1]]
    generalize L[st.at_] = t at e1
    refine R_index hg.ok rfl rfl rfl rfl rfl rfl (Int.natCast_nonneg _) (tkRows_get e1) rfl ?_
    refine R_run hg.ok 1000 rfl rfl ?_
    exact R_retS hg 1 5 (Nat.le_refl _) rfl rfl (hk _)
  · have hl : L.length ≤ st.at_ := by have := of_decide_eq_false h; rw [tkRows_len] at this; omega
    rw [show plcR L S0.length st.at_ = (S0.length : Int) by unfold plcR; rw [List.getElem?_eq_none hl]]
    refine R_see 2 rfl (v' := iV S0.length) (by rw [show ((Tx S0).size : Int) = S0.length by rw [Tx_size]]; exact .refl _) ?_
    exact R_retS hg 1 5 (Nat.le_refl _) rfl rfl (hk _)

def clsE (S0 : Bs) (L : List Tk) : (Nat × RSt × List Clau × Nat) → Env × List Ob
  | (_, st, out, j) => ([(5, .d (.sl (tkRows L))), (8, .lo 0 0), (9, .ow 1 j)], [cl1 S0 L st, .arr 5 j (clRows out)])

set_option maxRecDepth 100000 in
theorem clauses_ok (S0 : Bs) (hS : S0.length ≤ 9000) (L : List Tk) (hL : L.length ≤ 9000) (hpl : ∀ t ∈ L, 0 ≤ t.at_ ∧ t.at_ < S0.length ∧ 0 ≤ t.n ∧ t.n ≤ 9223372036854775807) (htk : tokR S0 = .tup [.d (.sl (tkRows L)), iV 0, iV 0])
    (n : Nat) (hb : ∀ st t st', RInv L st → termR false S0 L n 0 1200 st = some (t, st') → st'.e = 0 → t.size < 1000000000 ∧ ∀ e ∈ t.els 1, e.2.s.size < 1000000000) (c : List Clau) (a e : Int) (h : clsR rightT L S0.length (termR false S0 L n) (L.length + 1) ⟨0, [], 0, 0, false⟩ [] = some (c, a, e)) :
    PCtr Try.prog 9 [txA S0] (.tup [.d (.sl (clRows c)), iV a, iV e]) := by
  have hT := rdTerm_ok ⟨[], fun _ => true⟩ S0 L hL hS hpl n
  have hG := term_inv false S0 L n
  have hTk := tokens_ok S0 hS
  rw [htk] at hTk
  refine PCtr.of_R (pf := fun _ => .eff) tyOk mixed Try.func9 rfl (by kernel_rfl) (by kernel_rfl) (by simp [Try.ntmps9]) fun w S hg => ?_
  refine R_run hg.ok 1000 rfl rfl ?_
  refine R_call hg.ok (hTk) rfl rfl rfl rfl rfl rfl ?_
  refine R_run hg.ok 1000 rfl rfl ?_
  refine R_if rfl rfl (fun h => absurd h (by simp)) (fun _ => ?_)
  first
  | (refine R_run hg.ok 1 rfl rfl ?_; refine R_own 9 5 rfl rfl ?_)
  | (refine R_run hg.ok 2 rfl rfl ?_; refine R_own 9 5 rfl rfl ?_)
  | (refine R_run hg.ok 3 rfl rfl ?_; refine R_own 9 5 rfl rfl ?_)
  | (refine R_run hg.ok 4 rfl rfl ?_; refine R_own 9 5 rfl rfl ?_)
  | (refine R_run hg.ok 5 rfl rfl ?_; refine R_own 9 5 rfl rfl ?_)
  | (refine R_run hg.ok 6 rfl rfl ?_; refine R_own 9 5 rfl rfl ?_)
  | (refine R_run hg.ok 7 rfl rfl ?_; refine R_own 9 5 rfl rfl ?_)
  | (refine R_run hg.ok 8 rfl rfl ?_; refine R_own 9 5 rfl rfl ?_)
  | (refine R_run hg.ok 9 rfl rfl ?_; refine R_own 9 5 rfl rfl ?_)
  refine R_obs [cl1 S0 L ⟨0, [], 0, 0, false⟩, .arr 5 0 []] ⟨⟨.refl _, .refl _, .refl _, Ent.nil, .refl _, .refl _, .refl _, .refl _, .refl _, .refl _, .refl _, trivial⟩, .refl _, trivial⟩ rfl ?_
  refine R_run hg.ok 1000 rfl rfl ?_
  refine R_loop (clsE S0 L) (fun x => clsR rightT L S0.length (termR false S0 L n) x.1 x.2.1 x.2.2.1 = some (c, a, e) ∧ x.2.1.e = 0 ∧ x.2.2.1.length + x.1 ≤ L.length + 1 ∧ x.2.1.at_ ≤ L.length) (fun x => x.1) (L.length + 1, ⟨0, [], 0, 0, false⟩, [], 0) ⟨h, rfl, by simp, Nat.zero_le _⟩ ⟨.refl _, .refl _, .refl _, trivial⟩ rfl ?_
  rintro ⟨f, st, out, j⟩ ⟨hm, he0, hlo, hat⟩
  simp only at hm he0 hlo hat
  cases f with
  | zero => cases hm
  | succ f =>
  simp only [clsR] at hm
  refine R_run hg.ok 1000 rfl rfl ?_
  by_cases hat2 : st.at_ < L.length
  · rw [if_pos hat2] at hm
    refine R_if rfl rfl (fun _ => ?_) (fun h => absurd h (by simp [tkRows_len]; omega)) <;> refine R_run hg.ok 1000 rfl rfl ?_
    refine R_callSO hg.ok hg.gup ⟨rfl, rfl⟩ (fun _ _ _ _ h => by cases h) [0] [cl1 S0 L st, .arr 5 j (clRows out)] (clPlace_ok ⟨[], fun _ => true⟩ S0 L st) (fun _ => rfl) rfl rfl rfl rfl rfl (by rw [cl1_ren]; rfl) rfl (by rw [cl1_ren]; rfl) ?_
    first
    | (refine R_run hg.ok 1 rfl rfl ?_; refine R_ownB 0 3 1 rfl rfl rfl ?_)
    | (refine R_run hg.ok 2 rfl rfl ?_; refine R_ownB 0 3 1 rfl rfl rfl ?_)
    | (refine R_run hg.ok 3 rfl rfl ?_; refine R_ownB 0 3 1 rfl rfl rfl ?_)
    | (refine R_run hg.ok 4 rfl rfl ?_; refine R_ownB 0 3 1 rfl rfl rfl ?_)
    | (refine R_run hg.ok 5 rfl rfl ?_; refine R_ownB 0 3 1 rfl rfl rfl ?_)
    | (refine R_run hg.ok 6 rfl rfl ?_; refine R_ownB 0 3 1 rfl rfl rfl ?_)
    | (refine R_run hg.ok 7 rfl rfl ?_; refine R_ownB 0 3 1 rfl rfl rfl ?_)
    | (refine R_run hg.ok 8 rfl rfl ?_; refine R_ownB 0 3 1 rfl rfl rfl ?_)
    | (refine R_run hg.ok 9 rfl rfl ?_; refine R_ownB 0 3 1 rfl rfl rfl ?_)
    obtain ⟨⟨t, st1⟩, ht, hm⟩ := Option.bind_eq_some_iff.1 hm
    have hi0 : RInv L { st with names := [] } := ⟨Nat.zero_le _, hat⟩
    have hi1 := hG _ _ _ _ _ ht hi0
    have hc1 : SCtr Try.prog ⟨[], fun _ => true⟩ 21 [.lo 0 0, iV 1200] (rdX S0 L { st with names := [] } 0) t.av (rdX S0 L st1 0) := hT 0 1200 { st with names := [] } t st1 ht (by decide) hi0
    refine R_run hg.ok 1000 rfl rfl ?_
    refine R_callSO hg.ok hg.gup ⟨rfl, rfl⟩ (fun _ _ _ _ h => by cases h) [0, 2] (clO S0 L st1 j out) (hc1) (fun _ => rfl) rfl rfl rfl rfl rfl (by rw [rdX_ren02]; rfl) rfl (by rw [rdX_ren02]; rfl) ?_
    refine R_run hg.ok 1000 rfl rfl ?_
    refine R_callSO hg.ok hg.gup ⟨rfl, rfl⟩ (fun _ _ _ _ h => by cases h) [0, 2] (clO S0 L st1 j out ++ [bxT t]) (xPeek ⟨[], fun _ => true⟩ S0 L st1 0) (fun _ => rfl) rfl rfl rfl rfl rfl (by rw [rdX_ren02]; rfl) rfl (by rw [rdX_ren02]; rfl) ?_
    refine R_run hg.ok 1000 rfl rfl ?_
    simp only at hm
    obtain ⟨st2, hst2⟩ : ∃ st2, st2 = (if (peekR L st1).kind ≠ 5 then failR L S0.length st1 2 else st1) := ⟨_, rfl⟩
    rw [← hst2] at hm
    have h2 : st2.e = 0 → st1.e = 0 ∧ st1.at_ < L.length ∧ st2 = st1 := fun h => by
      by_cases hk5 : (peekR L st1).kind ≠ 5
      · rw [if_pos hk5] at hst2; subst hst2
        unfold failR at h; split at h
        · cases h
        · rename_i hne; exact absurd h hne
      · rw [if_neg hk5] at hst2
        have := peek_lt (L := L) (st := st1) (by rw [Decidable.not_not.1 hk5]; decide)
        exact ⟨this.1, this.2, hst2⟩
    refine R_cut1 (fun _ : Unit => ([(5, .d (.sl (tkRows L))), (8, .lo 0 0), (9, .ow 1 j), (10, iV (plcR L S0.length st.at_)), (11, .lo 3 0)], clO S0 L st2 j out ++ [bxT t])) (fun _ => True) rfl ?_ ?_
    · by_cases hk5 : (peekR L st1).kind ≠ 5
      · rw [if_pos hk5] at hst2
        refine R_if rfl rfl (fun _ => ?_) (fun h => absurd h (by simp [hk5])) <;> refine R_run hg.ok 1000 rfl rfl ?_
        refine R_callSO hg.ok hg.gup ⟨rfl, rfl⟩ (fun _ _ _ _ h => by cases h) [0, 2] (clO S0 L (failR L S0.length st1 2) j out ++ [bxT t]) (xFail ⟨[], fun _ => true⟩ S0 L st1 0 2) (fun _ => rfl) rfl rfl rfl rfl rfl (by rw [rdX_ren02]; rfl) rfl (by rw [rdX_ren02]; rfl) ?_
        refine R_run hg.ok 1000 rfl rfl ?_
        rw [← hst2]
        exact R_to () trivial ⟨.refl _, .refl _, .refl _, .refl _, .refl _, trivial⟩ rfl
      · rw [if_neg hk5] at hst2
        refine R_if rfl rfl (fun h => absurd h (by simp [hk5])) (fun _ => ?_) <;> refine R_run hg.ok 1000 rfl rfl ?_
        rw [hst2]
        exact R_to () trivial ⟨.refl _, .refl _, .refl _, .refl _, .refl _, trivial⟩ rfl
    rintro _ _
    obtain ⟨st3, hst3⟩ : ∃ st3, st3 = (if st2.e = 0 ∧ rightT t = false then { st2 with e := 3, bad := plcR L S0.length st.at_ } else st2) := ⟨_, rfl⟩
    rw [← hst3] at hm
    refine R_run hg.ok 1000 rfl rfl ?_
    by_cases h0 : st2.e = 0
    · obtain ⟨h3, h4, h5⟩ := h2 h0
      have hbt := hb _ _ _ hi0 ht h3
      have hR := right_ok t hbt.1 hbt.2
      refine R_if rfl rfl (fun _ => ?_) (fun h => absurd h (by simp [h0])) <;> refine R_run hg.ok 1000 rfl rfl ?_
      cases hr : rightT t with
      | false =>
        have hst3 : st3 = { st2 with e := 3, bad := plcR L S0.length st.at_ } := by rw [hst3, hr]; exact if_pos ⟨h0, rfl⟩
        subst hst3
        rw [hr] at hR
        rw [if_pos (show ((3 : Int) ≠ 0) by decide)] at hm
        cases hm
        refine R_call hg.ok (hR) rfl rfl rfl rfl rfl rfl ?_
        refine R_run hg.ok 1000 rfl rfl ?_
        refine R_if rfl rfl (fun _ => ?_) (fun h => absurd h (by simp)) <;> refine R_run hg.ok 1000 rfl rfl ?_
        refine R_if rfl rfl (fun _ => ?_) (fun h => absurd h (by simp)) <;> refine R_run hg.ok 1000 rfl rfl ?_
        refine R_ret hg 5 rfl rfl ?_
        rfl
      | true =>
        have hst3 : st3 = st2 := by rw [hst3, hr]; exact if_neg (by simp)
        rw [hst3] at hm
        rw [hr] at hR
        rw [if_neg (by simp [h0])] at hm
        refine R_call hg.ok (hR) rfl rfl rfl rfl rfl rfl ?_
        refine R_run hg.ok 1000 rfl rfl ?_
        refine R_if rfl rfl (fun h => absurd h (by simp)) (fun _ => ?_) <;> refine R_run hg.ok 1000 rfl rfl ?_
        refine R_if rfl rfl (fun h => absurd h (by simp [h0])) (fun _ => ?_)
        refine R_freezeO hg.gup 2 [(5, .d (.sl (tkRows L))), (8, .lo 0 0), (9, .ow 1 j), (11, .lo 3 0), (67, .ff)] [cl1 S0 L st2, .arr 5 j (clRows out), .dead, bxT t] rfl rfl ⟨.refl _, .refl _, .refl _, .refl _, .refl _, trivial⟩ ⟨⟨.refl _, .refl _, .refl _, Ent.frz 2 _ _, .refl _, .refl _, .refl _, .refl _, .refl _, .refl _, Ent.tblFrz 2 _ _ st2.lay, trivial⟩, rfl, by simp [ObIn], ⟨.refl _, .refl _, .refl _, .refl _, trivial⟩, trivial⟩ ?_
        have hnat : (nxR st2).at_ = st1.at_ + 1 := by rw [h5]; rfl
        first
        | (refine R_run hg.ok 1 rfl rfl ?_; refine R_obs [cl1 S0 L (nxR st2), .arr 5 j (clRows out), .dead, bxT t] ⟨⟨.refl _, .refl _, Ent.wrap rfl (by omega) (by omega), .refl _, .refl _, .refl _, .refl _, .refl _, .refl _, .refl _, .refl _, trivial⟩, .refl _, .refl _, .refl _, trivial⟩ rfl ?_)
        | (refine R_run hg.ok 2 rfl rfl ?_; refine R_obs [cl1 S0 L (nxR st2), .arr 5 j (clRows out), .dead, bxT t] ⟨⟨.refl _, .refl _, Ent.wrap rfl (by omega) (by omega), .refl _, .refl _, .refl _, .refl _, .refl _, .refl _, .refl _, .refl _, trivial⟩, .refl _, .refl _, .refl _, trivial⟩ rfl ?_)
        | (refine R_run hg.ok 3 rfl rfl ?_; refine R_obs [cl1 S0 L (nxR st2), .arr 5 j (clRows out), .dead, bxT t] ⟨⟨.refl _, .refl _, Ent.wrap rfl (by omega) (by omega), .refl _, .refl _, .refl _, .refl _, .refl _, .refl _, .refl _, .refl _, trivial⟩, .refl _, .refl _, .refl _, trivial⟩ rfl ?_)
        | (refine R_run hg.ok 4 rfl rfl ?_; refine R_obs [cl1 S0 L (nxR st2), .arr 5 j (clRows out), .dead, bxT t] ⟨⟨.refl _, .refl _, Ent.wrap rfl (by omega) (by omega), .refl _, .refl _, .refl _, .refl _, .refl _, .refl _, .refl _, .refl _, trivial⟩, .refl _, .refl _, .refl _, trivial⟩ rfl ?_)
        | (refine R_run hg.ok 5 rfl rfl ?_; refine R_obs [cl1 S0 L (nxR st2), .arr 5 j (clRows out), .dead, bxT t] ⟨⟨.refl _, .refl _, Ent.wrap rfl (by omega) (by omega), .refl _, .refl _, .refl _, .refl _, .refl _, .refl _, .refl _, .refl _, trivial⟩, .refl _, .refl _, .refl _, trivial⟩ rfl ?_)
        | (refine R_run hg.ok 6 rfl rfl ?_; refine R_obs [cl1 S0 L (nxR st2), .arr 5 j (clRows out), .dead, bxT t] ⟨⟨.refl _, .refl _, Ent.wrap rfl (by omega) (by omega), .refl _, .refl _, .refl _, .refl _, .refl _, .refl _, .refl _, .refl _, trivial⟩, .refl _, .refl _, .refl _, trivial⟩ rfl ?_)
        | (refine R_run hg.ok 7 rfl rfl ?_; refine R_obs [cl1 S0 L (nxR st2), .arr 5 j (clRows out), .dead, bxT t] ⟨⟨.refl _, .refl _, Ent.wrap rfl (by omega) (by omega), .refl _, .refl _, .refl _, .refl _, .refl _, .refl _, .refl _, .refl _, trivial⟩, .refl _, .refl _, .refl _, trivial⟩ rfl ?_)
        | (refine R_run hg.ok 8 rfl rfl ?_; refine R_obs [cl1 S0 L (nxR st2), .arr 5 j (clRows out), .dead, bxT t] ⟨⟨.refl _, .refl _, Ent.wrap rfl (by omega) (by omega), .refl _, .refl _, .refl _, .refl _, .refl _, .refl _, .refl _, .refl _, trivial⟩, .refl _, .refl _, .refl _, trivial⟩ rfl ?_)
        refine R_run hg.ok 1000 rfl rfl ?_
        refine R_appendO hg.ok (clRows (out ++ [(t, st2.names)])) rfl rfl rfl rfl rfl rfl rfl rfl rfl (by simp) (by simp [one1]) (by rw [clRows, clRows, List.map_append]; rfl) (by rw [clRows_len]; simp; omega) (by rw [clRows_len]; simp; omega) ?_
        refine R_run hg.ok 1000 rfl rfl ?_
        refine R_dropO 2 [cl1 S0 L (nxR st2), .arr 5 (j + 1) (clRows (out ++ [(t, st2.names)]))] (Nat.zero_le _) rfl ?_ ?_
        · unfold cl1 nxR; simp only; generalize st2.lay = b; cases b <;> rfl
        exact R_next (f, nxR st2, out ++ [(t, st2.names)], j + 1) ⟨hm, h0, by simp; omega, by rw [h5]; exact h4⟩ (by simp only; omega) ⟨.refl _, .refl _, .refl _, trivial⟩ rfl
    · have hst3 : st3 = st2 := by rw [hst3]; exact if_neg (fun h => h0 h.1)
      rw [hst3, if_pos h0] at hm
      cases hm
      refine R_if rfl rfl (fun h => absurd h (by simp [h0])) (fun _ => ?_) <;> refine R_run hg.ok 1000 rfl rfl ?_
      refine R_if rfl rfl (fun _ => ?_) (fun h => absurd h (by simp [h0])) <;> refine R_run hg.ok 1000 rfl rfl ?_
      refine R_ret hg 5 rfl rfl ?_
      rfl
  · rw [if_neg hat2] at hm
    cases hm
    refine R_if rfl rfl (fun h => absurd h (by simp [tkRows_len]; omega)) (fun _ => ?_) <;> refine R_run hg.ok 1000 rfl rfl ?_
    exact R_ret hg 5 rfl (sealA_tup (mapO_cons (sealA_ow rfl) rfl)) rfl
end Go.Proofs.Ythdpfglpdgmphaa

namespace Go.Proofs.Ythdpfglpdgmphaa
open Go PSL Go.Proofs
end Go.Proofs.Ythdpfglpdgmphaa

namespace Go.Proofs.Ythdpfglpdgmphaa
open Go PSL Go.Proofs
end Go.Proofs.Ythdpfglpdgmphaa

namespace Go.Proofs.Ythdpfglpdgmphaa
open Go PSL Go.Proofs
end Go.Proofs.Ythdpfglpdgmphaa

namespace Go.Proofs.Ythdpfglpdgmphaa
open Go PSL Go.Proofs
end Go.Proofs.Ythdpfglpdgmphaa

namespace Go.Proofs.Ythdpfglpdgmphaa
open Go PSL Go.Proofs
end Go.Proofs.Ythdpfglpdgmphaa

namespace Go.Proofs.Ythdpfglpdgmphaa
open Go PSL Go.Proofs
end Go.Proofs.Ythdpfglpdgmphaa

namespace Go.Proofs.Ythdpfglpdgmphaa
open Go PSL Go.Proofs
end Go.Proofs.Ythdpfglpdgmphaa

namespace Go.Proofs.Ythdpfglpdgmphaa
open Go PSL Go.Proofs
end Go.Proofs.Ythdpfglpdgmphaa

namespace Go.Proofs.Ythdpfglpdgmphaa
open Go PSL Go.Proofs

/-- A clause by itself. -/
def clA (x : Clau) : AV := .agg [.d (.v (.int .i64 x.1.k)), .d (.v (.string x.1.s)), .d (.v (.int .i64 x.1.n)), .d (.sl (Tm.rows x.1.l)), .d (.sl (strRows x.2))]

def oneR (n : Nat) : List Clau × Int × Int → Clau × Int × Int
  | (c, a, e) => if e ≠ 0 then ((zeroT, []), a, e) else match c with
    | [x] => (x, 0, 0)
    | _ => ((zeroT, []), n, 2)

set_option maxRecDepth 100000 in
theorem one_ok (S0 : Bs) (c : List Clau) (a e : Int) (h : PCtr Try.prog 9 [txA S0] (.tup [.d (.sl (clRows c)), iV a, iV e])) : PCtr Try.prog 13 [txA S0] (.tup [clA (oneR S0.length (c, a, e)).1, iV (oneR S0.length (c, a, e)).2.1, iV (oneR S0.length (c, a, e)).2.2]) := by
  unfold oneR
  simp only
  refine PCtr.of_R (pf := fun _ => .eff) tyOk mixed Try.func13 rfl (by kernel_rfl) (by kernel_rfl) (by simp [Try.ntmps13]) fun w S hg => ?_
  refine R_run hg.ok 1000 rfl rfl ?_
  refine R_call hg.ok (h) rfl rfl rfl rfl rfl rfl ?_
  refine R_run hg.ok 1000 rfl rfl ?_
  by_cases he : e ≠ 0
  · rw [if_pos he]
    refine R_if rfl rfl (fun _ => ?_) (fun h => absurd h (by simp [he])) <;> refine R_run hg.ok 1000 rfl rfl ?_
    refine R_ret hg 5 rfl rfl ?_
    rfl
  rw [if_neg he]
  refine R_if rfl rfl (fun h => absurd h (by simpa using he)) (fun _ => ?_) <;> refine R_run hg.ok 1000 rfl rfl ?_
  match c with
  | [x] =>
    refine R_if rfl rfl (fun h => absurd h (by simp [clRows])) (fun _ => ?_) <;> refine R_run hg.ok 1000 rfl rfl ?_
    refine R_index hg.ok rfl rfl rfl rfl rfl rfl (by decide) (show (clRows [x])[Int.toNat 0]? = some (clRow x) from rfl) rfl ?_
    refine R_run hg.ok 1000 rfl rfl ?_
    refine R_ret hg 5 rfl rfl ?_
    rfl
  | [] =>
    refine R_if rfl rfl (fun _ => ?_) (fun h => absurd h (by simp [clRows])) <;> refine R_run hg.ok 1000 rfl rfl ?_
    refine R_ret hg 5 rfl rfl ?_
    rw [Tx_size]; rfl
  | x :: y :: l =>
    refine R_if rfl rfl (fun _ => ?_) (fun h => absurd h (by simp [clRows]; omega)) <;> refine R_run hg.ok 1000 rfl rfl ?_
    refine R_ret hg 5 rfl rfl ?_
    rw [Tx_size]; rfl
end Go.Proofs.Ythdpfglpdgmphaa

namespace PSL
open Go
end PSL

namespace PSL
open Go
def st0 : RSt := ⟨0, [], 0, 0, false⟩
end PSL

namespace Go.Proofs.Ythdpfglpdgmphaa
open Go PSL Go.Proofs
end Go.Proofs.Ythdpfglpdgmphaa

namespace Go.Proofs.Ythdpfglpdgmphaa
open Go PSL Go.Proofs
end Go.Proofs.Ythdpfglpdgmphaa

namespace Go.Proofs.Ythdpfglpdgmphaa
open Go PSL Go.Proofs
end Go.Proofs.Ythdpfglpdgmphaa

namespace Go.Proofs.Ythdpfglpdgmphaa
open Go PSL Go.Proofs
end Go.Proofs.Ythdpfglpdgmphaa

namespace Go.Proofs.Ythdpfglpdgmphaa
open Go PSL Go.Proofs
end Go.Proofs.Ythdpfglpdgmphaa

namespace Go.Proofs.Ythdpfglpdgmphaa
open Go PSL Go.Proofs
theorem clRows_get {c : List Clau} {i : Nat} {x : Clau} (h : c[i]? = some x) : (clRows c)[i]? = some (clRow x) := by simp [clRows, h]
theorem rightT_fun : rightT = Tm.rightB := funext rightT_eq

set_option maxRecDepth 100000 in
theorem clausesBad_ok (S0 : Bs) (a e : Int) (he : e ≠ 0) (h : PCtr Try.prog 19 [txA S0] (.tup [.d (.sl (tkRows [])), iV a, iV e])) : PCtr Try.prog 9 [txA S0] (.tup [.d (.sl (clRows [])), iV a, iV e]) := by
  refine PCtr.of_R (pf := fun _ => .eff) tyOk mixed Try.func9 rfl (by kernel_rfl) (by kernel_rfl) (by simp [Try.ntmps9]) fun w S hg => ?_
  refine R_run hg.ok 1000 rfl rfl ?_
  refine R_call hg.ok (h) rfl rfl rfl rfl rfl rfl ?_
  refine R_run hg.ok 1000 rfl rfl ?_
  refine R_if rfl rfl (fun _ => ?_) (fun h => absurd h (by simp [he])) <;> refine R_run hg.ok 1000 rfl rfl ?_
  refine R_ret hg 5 rfl rfl ?_
  rfl

/-- The clauses of a text. -/
theorem clausesT_ok (S0 : Bs) (hS : S0.length ≤ 9000) {c : List Clau} {a e : Int} (h : clauR rightT false S0 = some (c, a, e)) : PCtr Try.prog 9 [txA S0] (.tup [.d (.sl (clRows c)), iV a, iV e]) := by
  unfold clauR at h
  by_cases he : (tokT S0).2.2 ≠ 0
  · rw [if_pos he] at h
    have ht := tokens_ok S0 hS
    unfold tokR at ht
    rw [(tok_bad he).1] at ht
    cases h
    exact clausesBad_ok S0 _ _ he ht
  · rw [if_neg he] at h
    obtain ⟨h8, ht, _⟩ := tok_ok (Decidable.not_not.1 he)
    have hpl := toks_plc ht
    have hgd := toks_good _ _ _ _ ht
    have hlen := toks_len _ S0 0 _ ht
    refine clauses_ok S0 hS _ (by omega) (fun t ht => ⟨(hpl t ht).1, (hpl t ht).2, (hgd t ht).lo, (hgd t ht).hi⟩) (tokR_ok (by omega) ht) _ (fun st t st' hi hx he => ?_) c a e h
    have := read_small (by omega) hS hgd hi hx he
    exact ⟨by have := this.1; omega, fun e he => by have := this.2 1 e he; omega⟩
theorem oneT_ok9 (S0 : Bs) (hS : S0.length ≤ 9000) {c : List Clau} {a e : Int} (h : clauR rightT false S0 = some (c, a, e)) : PCtr Try.prog 13 [txA S0] (.tup [clA (oneR S0.length (c, a, e)).1, iV (oneR S0.length (c, a, e)).2.1, iV (oneR S0.length (c, a, e)).2.2]) := one_ok S0 c a e (clausesT_ok S0 hS h)
end Go.Proofs.Ythdpfglpdgmphaa

namespace Go.Proofs.Ythdpfglpdgmphaa
open Go PSL Go.Proofs

set_option maxRecDepth 100000 in
theorem goals_ok (t : Tm) (ht : SmT t) (hc : noCh t = true) : PCtr Try.prog 58 [t.av] (.tup [.d (.sl (Gl.rows (goalsT t).1)), iV (goalsT t).2]) := by
  have hs := ht.1
  have hD := (gol_ok ⟨[], fun _ => true⟩ t.size).2 t (20, 0) 1 true ht hc (Nat.le_refl _) (by simp only; omega) (by simp only; omega) (by omega) (by omega)
  refine PCtr.of_R (pf := fun _ => .eff) tyOk mixed Try.func58 rfl (by kernel_rfl) (by kernel_rfl) (by simp [Try.ntmps58]) fun w S hg => ?_
  refine R_run hg.ok 1000 rfl rfl ?_
  refine R_call hg.ok (right_ok t (by omega) (ht.2 1)) rfl rfl rfl rfl rfl rfl ?_
  refine R_run hg.ok 1000 rfl rfl ?_
  unfold goalsT
  by_cases hr : rightT t = true
  rotate_left
  · rw [if_neg hr]
    have hr : rightT t = false := by simpa using hr
    refine R_if rfl rfl (fun _ => ?_) (fun h => absurd h (by simp [hr])) <;> refine R_run hg.ok 1000 rfl rfl ?_
    refine R_ret hg 5 rfl rfl ?_
    rfl
  rw [if_pos hr]
  refine R_if rfl rfl (fun h => absurd h (by simp [hr])) (fun _ => ?_) <;> refine R_run hg.ok 1000 rfl rfl ?_
  generalize golF t.size t (20, 0) 1 true = A at *
  refine R_callSO hg.ok hg.gup ⟨rfl, rfl⟩ (fun _ _ _ _ h => by cases h) [1] ([boxR t] ++ mkO A.2) (hD) (fun _ => rfl) rfl rfl rfl rfl rfl rfl rfl rfl ?_
  refine R_run hg.ok 1000 rfl rfl ?_
  by_cases he : A.2.2 ≠ 0
  · rw [if_pos he]
    refine R_if rfl rfl (fun _ => ?_) (fun h => absurd h (by simp [he])) <;> refine R_run hg.ok 1000 rfl rfl ?_
    refine R_ret hg 5 rfl rfl ?_
    rfl
  · rw [if_neg he]
    refine R_if rfl rfl (fun h => absurd h (by simp at he; simp [he])) (fun _ => ?_) <;> refine R_run hg.ok 1000 rfl rfl ?_
    refine R_ret hg 5 rfl rfl ?_
    rfl
end Go.Proofs.Ythdpfglpdgmphaa

namespace Go.Proofs.Ythdpfglpdgmphaa
open Go PSL Go.Proofs
theorem csRows_snoc (l : List Cs) (c : Cs) : Cs.rows l ++ [c.row] = Cs.rows (l ++ [c]) := by simp [Cs.rows]
def csB (x : Cs) : Ob := .box [.d (.v (.int .i64 x.head.k)), .d (.v (.string x.head.s)), .d (.v (.int .i64 x.head.n)), .d (.sl (Tm.rows x.head.l)), .d (.sl (Gl.rows x.body)), .d (.v (.int .i64 x.vars))]
theorem smT_right {t : Tm} (h : t.rightB = true) : SmT t := ⟨by have := (Tm.rightB_iff.1 h).2.1; omega, fun x e he => fair_names (right_fair h) x e he⟩
def clB (x : Clau) : Ob := .box [.d (.v (.int .i64 x.1.k)), .d (.v (.string x.1.s)), .d (.v (.int .i64 x.1.n)), .d (.sl (Tm.rows x.1.l)), .d (.sl (strRows x.2))]
def loadE (x : Clau) : Int := if sgOf x.1 = sgR then (goalsT (argT x.1 1)).2 else 0

theorem loadE_own (x : Clau) : (loadOne x).2 = if ownB (loadOne x).1.head = true then loadE x else 5 := by
  unfold loadOne loadE
  split <;> rfl

theorem loadOne_sm {x : Clau} (hx : ClG x) (hc : noCh x.1 = true) : SmC (loadOne x).1 := by
  have hs := smT_right hx.right
  have h3 := (Tm.rightB_iff.1 hx.right).2.1
  unfold loadOne
  by_cases h : sgOf x.1 = sgR
  · rw [if_pos h]
    have hl : x.1.l.length = 2 := sg_len (n := 2) h
    have h1 : SmT (argT x.1 1) := hs.arg (by omega)
    have h2 := size_arg (t := x.1) (i := 1) (by omega)
    obtain ⟨g1, g2, _⟩ := golF_ok (argT x.1 1).size (argT x.1 1) (20, 0) 1 true h1
    refine ⟨hs.arg (by omega), ?_, ?_⟩
    · simp only [goalsT]
      split
      · split
        · simp only [allGL]
        · exact g1
      · simp only [allGL]
    · simp only [goalsT]
      split
      · split
        · simp [Gl.sizeL]
        · simp only; omega
      · simp [Gl.sizeL]
  · rw [if_neg h]
    exact ⟨hs, by simp only [allGL], by simp [Gl.sizeL]⟩

set_option maxHeartbeats 4000000 in
set_option maxRecDepth 100000 in
theorem load_ok (S0 : Bs) (hS : S0.length ≤ 9000) {c : List Clau} {a e : Int} (h : clauR rightT false S0 = some (c, a, e)) (hc : ∀ x ∈ c, noCh x.1 = true) : PCtr Try.prog 36 [txA S0] (if e ≠ 0 then .tup [prV [], iV a, iV e] else .tup [prV (loadL c 0 []).1, iV (loadL c 0 []).2.1, iV (loadL c 0 []).2.2]) := by
  obtain ⟨_, f2, _, _⟩ := clau_facts hS h
  have hct := clau_count h
  have hrl := clRows_len c
  refine PCtr.of_R (pf := fun _ => .eff) tyOk mixed Try.func36 rfl (by kernel_rfl) (by kernel_rfl) (by simp [Try.ntmps36]) fun w S hg => ?_
  refine R_run hg.ok 1000 rfl rfl ?_
  refine R_call hg.ok (clausesT_ok S0 hS h) rfl rfl rfl rfl rfl rfl ?_
  refine R_run hg.ok 1000 rfl rfl ?_
  by_cases he : e ≠ 0
  · rw [if_pos he]
    refine R_if rfl rfl (fun _ => ?_) (fun h => absurd h (by simp [he])) <;> refine R_run hg.ok 1000 rfl rfl ?_
    refine R_ret hg 5 rfl rfl ?_
    rfl
  rw [if_neg he]
  have he : e = 0 := Decidable.not_not.1 he
  subst he
  obtain ⟨_, hcn⟩ := f2 rfl
  refine R_if rfl rfl (fun h => absurd h (by simp)) (fun _ => ?_) <;> refine R_run hg.ok 1000 rfl rfl ?_
  refine R_ownB 1 0 6 rfl rfl rfl ?_
  refine R_loop (fun x : Nat × Nat × List Cs => ([(2, .lo 0 0), (8, .lo 1 0), (26, .d (.sl (clRows c))), (27, iV c.length), (28, iV x.1)], [.box [.d (.v (.slice none 0 0))], .box [.ow 2 x.2.1], .arr 6 x.2.1 (Cs.rows x.2.2)])) (fun x => x.1 ≤ c.length ∧ loadL c 0 [] = loadL (c.drop x.1) x.1 x.2.2 ∧ x.2.2.length ≤ x.1 ∧ ∀ y ∈ x.2.2, SmC y) (fun x => c.length - x.1) (0, 0, []) ⟨Nat.zero_le _, rfl, Nat.le_refl _, by simp⟩ ⟨.refl _, .refl _, .refl _, by rw [hrl]; exact .refl _, .refl _, trivial⟩ rfl ?_
  rintro ⟨k, s, out⟩ ⟨hk, hm, hol, hsm⟩
  have hm : loadL c 0 [] = loadL (c.drop k) k out := hm
  have hk : k ≤ c.length := hk
  have hol : out.length ≤ k := hol
  have hro := Cs.rows_len out
  refine R_run hg.ok 1000 rfl rfl ?_
  refine R_if rfl rfl (fun h => ?_) (fun h => ?_)
  · refine R_run hg.ok 1000 rfl rfl ?_
    have hk1 : k < c.length := lt_dec h rfl
    have e1 : c[k]? = some c[k] := List.getElem?_eq_getElem hk1
    have hmem := List.getElem_mem hk1
    rw [List.drop_eq_getElem_cons hk1] at hm
    generalize c[k] = x at e1 hm hmem
    have hx := hcn x hmem
    have hnc := hc x hmem
    have hs := smT_right hx.right
    have hsm1 := loadOne_sm hx hnc
    simp only [loadL] at hm
    refine R_index hg.ok rfl rfl rfl rfl rfl rfl (Int.natCast_nonneg _) (clRows_get e1) rfl ?_
    refine R_run hg.ok 1000 rfl rfl ?_
    refine R_call hg.ok (signOf_ok x.1) rfl rfl rfl rfl rfl rfl ?_
    refine R_run hg.ok 1000 rfl rfl ?_
    refine R_eqK hg.ok (sgOf x.1) sgR signCmp rfl rfl rfl rfl ?_
    refine R_run hg.ok 1000 rfl rfl ?_
    refine R_cut1 (fun _ : Unit => ([(2, .lo 0 0), (8, .lo 1 0), (9, iV k), (11, .lo 4 0), (12, iV (loadE x)), (26, .d (.sl (clRows c))), (27, iV c.length), (28, iV k)], [.box [.d (.v (.slice none 0 0))], .box [.ow 2 s], .arr 6 s (Cs.rows out), clB x, csB (loadOne x).1])) (fun _ => True) rfl ?_ ?_
    · by_cases hq : sgOf x.1 = sgR
      · have hl : x.1.l.length = 2 := sg_len (n := 2) hq
        have hl0 : 0 < x.1.l.length := by omega
        have hl1 : 1 < x.1.l.length := by omega
        rw [show loadE x = (goalsT (argT x.1 1)).2 by unfold loadE; rw [if_pos hq], show (loadOne x).1 = ⟨argT x.1 0, (goalsT (argT x.1 1)).1, x.2.length⟩ by unfold loadOne; rw [if_pos hq]]
        refine R_if rfl rfl (fun _ => ?_) (fun h => absurd h (by simp [hq])) <;> refine R_run hg.ok 1000 rfl rfl ?_
        refine R_index hg.ok rfl rfl rfl rfl rfl rfl (by decide) (Tm.rows_get (i := 0) (argT_get hl0)) rfl ?_
        refine R_run hg.ok 1000 rfl rfl ?_
        refine R_index hg.ok rfl rfl rfl rfl rfl rfl (by decide) (Tm.rows_get (i := 1) (argT_get hl1)) rfl ?_
        refine R_run hg.ok 1000 rfl rfl ?_
        refine R_call hg.ok (goals_ok (argT x.1 1) (hs.arg hl1) (noCh_arg hnc hl1)) rfl rfl rfl rfl rfl rfl ?_
        refine R_run hg.ok 1000 rfl rfl ?_
        rw [strRows_len]
        exact R_to () trivial ⟨.refl _, .refl _, .refl _, .refl _, .refl _, .refl _, .refl _, .refl _, trivial⟩ rfl
      · rw [show loadE x = 0 by unfold loadE; rw [if_neg hq], show (loadOne x).1 = ⟨x.1, [], x.2.length⟩ by unfold loadOne; rw [if_neg hq]]
        refine R_if rfl rfl (fun h => absurd h (by simp [hq])) (fun _ => ?_) <;> refine R_run hg.ok 1000 rfl rfl ?_
        rw [strRows_len]
        refine R_obs [.box [.d (.v (.slice none 0 0))], .box [.ow 2 s], .arr 6 s (Cs.rows out), clB x, csB ⟨x.1, [], x.2.length⟩] (show ObsIn [.box [.d (.v (.slice none 0 0))], .box [.ow 2 s], .arr 6 s (Cs.rows out), clB x, .box [.d (.v (.int .i64 x.1.k)), .d (.v (.string x.1.s)), .d (.v (.int .i64 x.1.n)), .d (.sl (Tm.rows x.1.l)), .d (.v (.slice none 0 0)), .d (.v (.int .i64 x.2.length))]] _ from ⟨⟨.refl _, trivial⟩, ⟨.refl _, trivial⟩, rfl, ⟨.refl _, .refl _, .refl _, .refl _, .refl _, trivial⟩, ⟨.refl _, .refl _, .refl _, .refl _, Ent.nrm _, .refl _, trivial⟩, trivial⟩) rfl ?_
        exact R_to () trivial ⟨.refl _, .refl _, .refl _, .refl _, .refl _, .refl _, .refl _, .refl _, trivial⟩ rfl
    rintro _ _
    refine R_run hg.ok 1000 rfl rfl ?_
    have hown := loadE_own x
    cases ho : ownB (loadOne x).1.head with
    | false =>
      have hc1 := own_ok11 (loadOne x).1.head
      rw [ho] at hc1 hown
      rw [if_neg (by simp)] at hown
      rw [hown, if_pos (by decide)] at hm
      refine R_call hg.ok (hc1) rfl rfl rfl rfl rfl rfl ?_
      refine R_run hg.ok 1000 rfl rfl ?_
      refine R_if rfl rfl (fun _ => ?_) (fun h => absurd h (by simp)) <;> refine R_run hg.ok 1000 rfl rfl ?_
      refine R_if rfl rfl (fun _ => ?_) (fun h => absurd h (by simp)) <;> refine R_run hg.ok 1000 rfl rfl ?_
      refine R_ret hg 5 rfl rfl ?_
      rw [hm]; rfl
    | true =>
      have hc1 := own_ok11 (loadOne x).1.head
      rw [ho] at hc1 hown
      rw [if_pos rfl] at hown
      rw [hown] at hm
      refine R_call hg.ok (hc1) rfl rfl rfl rfl rfl rfl ?_
      refine R_run hg.ok 1000 rfl rfl ?_
      refine R_if rfl rfl (fun h => absurd h (by simp)) (fun _ => ?_) <;> refine R_run hg.ok 1000 rfl rfl ?_
      by_cases hle : loadE x ≠ 0
      · rw [if_pos hle] at hm
        refine R_if rfl rfl (fun _ => ?_) (fun h => absurd h (by simp [hle])) <;> refine R_run hg.ok 1000 rfl rfl ?_
        refine R_ret hg 5 rfl rfl ?_
        rw [hm]; rfl
      · rw [if_neg hle] at hm
        refine R_if rfl rfl (fun h => absurd h (by simp at hle; simp [hle])) (fun _ => ?_) <;> refine R_run hg.ok 1000 rfl rfl ?_
        refine R_appendO hg.ok (Cs.rows (out ++ [(loadOne x).1])) rfl rfl rfl rfl rfl rfl rfl rfl rfl (by simp) (by simp [one1]) (csRows_snoc _ _) (by rw [hro]; simp; omega) (by rw [hro]; simp; omega) ?_
        refine R_run hg.ok 1000 rfl rfl ?_
        refine R_dropO 3 [.box [.d (.v (.slice none 0 0))], .box [.ow 2 (Nat.succ s)], .arr 6 (Nat.succ s) (Cs.rows (out ++ [(loadOne x).1]))] (Nat.zero_le _) rfl rfl ?_
        exact R_next (k + 1, Nat.succ s, out ++ [(loadOne x).1]) ⟨hk1, hm, by simp only [List.length_append, List.length_singleton]; omega, fun y hy => (List.mem_append.1 hy).elim (hsm y) (fun h => by rw [List.mem_singleton.1 h]; exact hsm1)⟩ (by simp only; omega) ⟨.refl _, .refl _, .refl _, .refl _, Ent.wrap (by simp only; omega) (by simp only; omega) (by simp only; omega), trivial⟩ rfl
  · have hk1 : c.length ≤ k := ge_dec h rfl
    rw [List.drop_eq_nil_of_le hk1] at hm
    simp only [loadL] at hm
    refine R_freezeO hg.gup 2 [(2, .lo 0 0), (8, .lo 1 0), (29, .ff)] [.box [.d (.v (.slice none 0 0))], .box [.d (.sl (Cs.rows out))], .dead] rfl rfl ⟨.refl _, .refl _, .refl _, trivial⟩ ⟨⟨.refl _, trivial⟩, ⟨Ent.frz 2 s _, trivial⟩, trivial, trivial⟩ ?_
    refine R_run hg.ok 1000 rfl rfl ?_
    refine R_call hg.ok (check_ok out hsm) rfl rfl rfl rfl rfl rfl ?_
    refine R_run hg.ok 1000 rfl rfl ?_
    by_cases hce : (checkR out).2 ≠ 0
    · rw [if_pos hce] at hm
      refine R_if rfl rfl (fun _ => ?_) (fun h => absurd h (by simp [hce])) <;> refine R_run hg.ok 1000 rfl rfl ?_
      refine R_ret hg 5 rfl rfl ?_
      rw [hm]; rfl
    · rw [if_neg hce] at hm
      refine R_if rfl rfl (fun h => absurd h (by simp at hce; simp [hce])) (fun _ => ?_) <;> refine R_run hg.ok 1000 rfl rfl ?_
      refine R_ret hg 5 rfl rfl ?_
      rw [hm]; rfl
end Go.Proofs.Ythdpfglpdgmphaa

namespace Go.Proofs.Ythdpfglpdgmphaa
open Go PSL Go.Proofs
def pfQry : Nat → Cls := fun f => bif Nat.beq f 4000200004 then .turn 101 else bif Nat.beq f 4000100081 then .look 102 else .eff
theorem vT_entQ (v : Int) : Ent (.d (.sl [[.v (.int .i64 1), .v (.string ByteArray.empty), .v (.int .i64 v), .v (.slice none 0 0)]])) (.d (.sl [[.v (.int .i64 1), .v (.string ByteArray.empty), .v (.int .i64 v), .sl []]])) := fun _ _ _ _ h => aLe_ok (by simp [aLe, dLe, rowLe, rowsLe, vLe, kEq, Tm.strEq_iff]) h

set_option maxHeartbeats 4000000 in
set_option maxRecDepth 100000 in
theorem query_ok (S0 : Bs) (hS : S0.length ≤ 9000) {x : Clau} {q : Int} (h : clauR rightT false S0 = some ([x], q, 0)) (hnc : noCh x.1 = true) (p : List Cs) (hp : ∀ c ∈ p, SmC c) (hpl : p.length ≤ 1000000) (hck : (checkR p).2 = 0) (hg0 : (goalsT x.1).2 = 0) (h8 : x.2.length ≤ 8) (hth : thereL (hasH p) (goalsT x.1).1 = true) :
    PCtr Try.prog 37 [txA S0, prV p] (.tup [(qryC x).av, .d (.sl (strRows x.2)), iV 0, iV 0]) := by
  obtain ⟨_, f2, _, _⟩ := clau_facts hS h
  have hx := (f2 rfl).2 x (by simp)
  have hs := smT_right hx.right
  have h3 := (Tm.rightB_iff.1 hx.right).2.1
  have hc1 := check_ok p hp
  rw [hck] at hc1
  have hone := oneT_ok9 S0 hS h
  rw [show oneR S0.length ([x], q, 0) = (x, 0, 0) from rfl] at hone
  have hgo := goals_ok x.1 hs hnc
  rw [hg0] at hgo
  have hsz : Gl.sizeL (goalsT x.1).1 ≤ 1000000 := by
    obtain ⟨_, g2, _⟩ := golF_ok x.1.size x.1 (20, 0) 1 true hs
    unfold goalsT
    split
    · split
      · simp [Gl.sizeL]
      · simp only; omega
    · simp [Gl.sizeL]
  have hto := theres_ok (goalsT x.1).1 p hsz hpl
  rw [hth] at hto
  have hrn := strRows_len x.2
  unfold qryC
  generalize (goalsT x.1).1 = B at *
  refine PCtr.of_R (pf := pfQry) tyOk mixed Try.func37 rfl (by kernel_rfl) (by kernel_rfl) (by simp [Try.ntmps37]) fun w S hg => ?_
  refine R_run hg.ok 1000 rfl rfl ?_
  refine R_call hg.ok (hc1) rfl rfl rfl rfl rfl rfl ?_
  refine R_run hg.ok 1000 rfl rfl ?_
  refine R_if rfl rfl (fun h => absurd h (by simp)) (fun _ => ?_) <;> refine R_run hg.ok 1000 rfl rfl ?_
  refine R_call hg.ok (hone) rfl rfl rfl rfl rfl rfl ?_
  refine R_run hg.ok 1000 rfl rfl ?_
  refine R_if rfl rfl (fun h => absurd h (by simp)) (fun _ => ?_) <;> refine R_run hg.ok 1000 rfl rfl ?_
  refine R_call hg.ok (hgo) rfl rfl rfl rfl rfl rfl ?_
  refine R_run hg.ok 1000 rfl rfl ?_
  refine R_if rfl rfl (fun h => absurd h (by simp)) (fun _ => ?_) <;> refine R_run hg.ok 1000 rfl rfl ?_
  rw [hrn]
  refine R_if rfl rfl (fun h => absurd (of_decide_eq_true h) (by omega)) (fun _ => ?_) <;> refine R_run hg.ok 1000 rfl rfl ?_
  refine R_call hg.ok (hto) rfl rfl rfl rfl rfl rfl ?_
  refine R_run hg.ok 1000 rfl rfl ?_
  refine R_if rfl rfl (fun h => absurd h (by simp)) (fun _ => ?_) <;> refine R_run hg.ok 1000 rfl rfl ?_
  refine R_ownB 3 3 4 rfl rfl rfl ?_
  refine R_loop (fun y : Nat × Nat => ([(4, .lo 1 0), (10, .lo 2 0), (13, .lo 3 0), (66, iV x.2.length), (67, iV y.1)], [.box [.d (.sl (Cs.rows p))], .box [.d (.v (.int .i64 0)), .d (.v (.string ByteArray.empty)), .d (.v (.int .i64 0)), .d (.v (.slice none 0 0)), .d (.v (.slice none 0 0)), .d (.v (.int .i64 0))], clB x, .box [.d (.v (.int .i64 3)), .d (.v (.string (Tx [63]))), .d (.v (.int .i64 0)), .ow 4 y.2, .d (.sl (Gl.rows B)), .d (.v (.int .i64 x.2.length))], .arr 4 y.2 (Tm.rows (varL y.1))])) (fun y => y.1 ≤ x.2.length) (fun y => x.2.length - y.1) (0, 0) (Nat.zero_le _) ⟨.refl _, .refl _, .refl _, .refl _, .refl _, trivial⟩ rfl ?_
  rintro ⟨k, s⟩ hk
  have hk : k ≤ x.2.length := hk
  refine R_run hg.ok 1000 rfl rfl ?_
  refine R_if rfl rfl (fun h => ?_) (fun h => ?_)
  · refine R_run hg.ok 1000 rfl rfl ?_
    have hk1 : k < x.2.length := lt_dec h rfl
    refine R_see 75 rfl ((Ent.fs _).trans (vT_entQ (k : Int))) ?_
    refine R_appendO hg.ok (Tm.rows (varL (k + 1))) rfl rfl rfl rfl rfl rfl rfl rfl rfl (by simp) (by simp [one1]) (by rw [← varL_snoc, Tm.rows_eq, Tm.rows_eq, List.map_append]; rfl) (by rw [Tm.rows_length, varL_len]; simp; omega) (by rw [Tm.rows_length, varL_len]; simp; omega) ?_
    refine R_run hg.ok 1000 rfl rfl ?_
    exact R_next (k + 1, Nat.succ s) hk1 (by simp only; omega) ⟨.refl _, .refl _, .refl _, .refl _, Ent.wrap (by simp only; omega) (by simp only; omega) (by simp only; omega), trivial⟩ rfl
  · have hk1 : x.2.length ≤ k := ge_dec h rfl
    have hke : k = x.2.length := by omega
    subst hke
    refine R_freezeO hg.gup 4 [(4, .lo 1 0), (10, .lo 2 0), (13, .lo 3 0), (68, .ff)] [.box [.d (.sl (Cs.rows p))], .box [.d (.v (.int .i64 0)), .d (.v (.string ByteArray.empty)), .d (.v (.int .i64 0)), .d (.v (.slice none 0 0)), .d (.v (.slice none 0 0)), .d (.v (.int .i64 0))], clB x, .box [.d (.v (.int .i64 3)), .d (.v (.string (Tx [63]))), .d (.v (.int .i64 0)), .d (.sl (Tm.rows (varL x.2.length))), .d (.sl (Gl.rows B)), .d (.v (.int .i64 x.2.length))], .dead] rfl rfl ⟨.refl _, .refl _, .refl _, .refl _, trivial⟩ ⟨⟨.refl _, trivial⟩, ⟨.refl _, .refl _, .refl _, .refl _, .refl _, .refl _, trivial⟩, ⟨.refl _, .refl _, .refl _, .refl _, .refl _, trivial⟩, ⟨.refl _, .refl _, .refl _, Ent.frz 4 s _, .refl _, .refl _, trivial⟩, trivial, trivial⟩ ?_
    refine R_run hg.ok 1000 rfl rfl ?_
    refine R_loadJ hg.ok 101 (by rintro (⟨h, _⟩ | h | ⟨h, _⟩) <;> omega) rfl rfl rfl rfl rfl rfl rfl ?_
    refine R_run hg.ok 1000 rfl rfl ?_
    refine R_storeJ hg.ok rfl rfl rfl rfl rfl rfl rfl rfl rfl ?_
    refine R_run hg.ok 1000 rfl rfl ?_
    refine R_ret hg 5 rfl rfl ?_
    rfl
end Go.Proofs.Ythdpfglpdgmphaa

namespace Go.Proofs.Ythdpfglpdgmphaa
open Go PSL Go.Proofs
def k11a : Bs := [112, 40, 88, 41, 32, 58, 45, 32, 113, 40, 88, 41, 44, 32, 33, 46, 32, 113, 40, 97, 41, 46]
def k11b : Bs := [112, 32, 58, 45, 32, 113, 46]
def k11c : Bs := [112, 40, 89, 41, 46]
def k11aC : List Clau := [(fnT [58, 45] [fnT [112] [Tm.vT 0], fnT [44] [fnT [113] [Tm.vT 0], fnT [33] []]], [[88]]), (fnT [113] [fnT [97] []], [])]
def k11bC : List Clau := [(fnT [58, 45] [fnT [112] [], fnT [113] []], [])]
def k11cC : Clau := (fnT [112] [Tm.vT 0], [[89]])
def k11P : List Cs := [⟨fnT [112] [Tm.vT 0], [.mk 1 (fnT [113] [Tm.vT 0]) [] [] [], .mk 3 zeroT [] [] []], 1⟩, ⟨fnT [113] [fnT [97] []], [], 0⟩]
theorem k11a_read : clauR rightT false k11a = some (k11aC, 0, 0) := by rw [rightT_fun]; kernel_rfl
theorem k11b_read : clauR rightT false k11b = some (k11bC, 0, 0) := by rw [rightT_fun]; kernel_rfl
theorem k11c_read : clauR rightT false k11c = some ([k11cC], 0, 0) := by rw [rightT_fun]; kernel_rfl
theorem k11a_load : loadL k11aC 0 [] = (k11P, 0, 0) := by kernel_rfl
theorem k11b_load : loadL k11bC 0 [] = ([], 0, 9) := by kernel_rfl

theorem k11a_ctr : PCtr Try.prog 36 [txA k11a] (.tup [prV k11P, iV 0, iV 0]) := by
  have h := load_ok k11a (by decide) k11a_read (List.all_eq_true.1 (show (k11aC.all fun x => noCh x.1) = true by kernel_rfl))
  rw [if_neg (by decide), k11a_load] at h
  exact h

theorem k11b_ctr : PCtr Try.prog 36 [txA k11b] (.tup [prV [], iV 0, iV 9]) := by
  have h := load_ok k11b (by decide) k11b_read (List.all_eq_true.1 (show (k11bC.all fun x => noCh x.1) = true by kernel_rfl))
  rw [if_neg (by decide), k11b_load] at h
  exact h

theorem k11P_sm : ∀ c ∈ k11P, SmC c := by
  have h1 : SmT (fnT [112] [Tm.vT 0]) := smT_right (by kernel_rfl)
  have h2 : SmT (fnT [113] [Tm.vT 0]) := smT_right (by kernel_rfl)
  have h3 : SmT (fnT [113] [fnT [97] []]) := smT_right (by kernel_rfl)
  have h4 : SmT zeroT := ⟨by decide, fun x e he => by
    simp only [zeroT, Tm.els, Tm.elsL, List.mem_singleton] at he
    subst he; show (0 : Nat) < 1000000000; decide⟩
  intro c hc
  simp only [k11P, List.mem_cons, List.not_mem_nil, or_false] at hc
  rcases hc with rfl | rfl
  · exact ⟨h1, by simp only [allGL, allG]; exact ⟨⟨h2, trivial, trivial, trivial⟩, ⟨h4, trivial, trivial, trivial⟩, trivial⟩, by decide⟩
  · exact ⟨h3, by simp only [allGL], by decide⟩

theorem k11c_ctr : PCtr Try.prog 37 [txA k11c, prV k11P] (.tup [(qryC k11cC).av, .d (.sl (strRows k11cC.2)), iV 0, iV 0]) :=
  query_ok k11c (by decide) k11c_read (by kernel_rfl) k11P k11P_sm (by decide) (by kernel_rfl) (by kernel_rfl) (by decide) (by kernel_rfl)

set_option maxRecDepth 100000 in
theorem knows11_ok : PCtr Try.prog 17 [] (bV true) := by
  have hb := builtin_ok (Tx [105, 115], 2)
  have hc := control_ok (Tx [105, 115], 2)
  rw [show bltB (Tx [105, 115], 2) = true by kernel_rfl] at hb
  rw [show ctlB (Tx [105, 115], 2) = false by kernel_rfl] at hc
  refine PCtr.of_R (pf := fun _ => .eff) tyOk mixed Try.func17 rfl (by kernel_rfl) (by kernel_rfl) (by simp [Try.ntmps17]) fun w S hg => ?_
  refine R_run hg.ok 1000 rfl rfl ?_
  refine R_call hg.ok (k11a_ctr) rfl rfl rfl rfl rfl rfl ?_
  refine R_run hg.ok 1000 rfl rfl ?_
  refine R_call hg.ok (k11b_ctr) rfl rfl rfl rfl rfl rfl ?_
  refine R_run hg.ok 1000 rfl rfl ?_
  refine R_call hg.ok (k11c_ctr) rfl rfl rfl rfl rfl rfl ?_
  refine R_run hg.ok 1000 rfl rfl ?_
  repeat
    first
    | (refine R_if rfl rfl (fun _ => ?_) (fun h => absurd h (by decide +kernel)); refine R_run hg.ok 1000 rfl rfl ?_)
    | (refine R_index hg.ok rfl rfl rfl rfl rfl rfl (by decide) rfl rfl ?_; refine R_run hg.ok 1000 rfl rfl ?_)
    | (refine R_call hg.ok hb rfl rfl rfl rfl rfl rfl ?_; refine R_run hg.ok 1000 rfl rfl ?_)
    | (refine R_call hg.ok hc rfl rfl rfl rfl rfl rfl ?_; refine R_run hg.ok 1000 rfl rfl ?_)
  refine R_ret hg 5 rfl rfl ?_
  rfl
end Go.Proofs.Ythdpfglpdgmphaa

namespace Go.Proofs.Ythdpfglpdgmphaa
open Go PSL Go.Proofs
end Go.Proofs.Ythdpfglpdgmphaa

namespace Go.Proofs.Ythdpfglpdgmphaa
open Go PSL Go.Proofs
end Go.Proofs.Ythdpfglpdgmphaa

namespace Go.Proofs.Ythdpfglpdgmphaa
open Go PSL Go.Proofs
end Go.Proofs.Ythdpfglpdgmphaa

namespace Go.Proofs.Ythdpfglpdgmphaa
open Go PSL Go.Proofs

set_option maxRecDepth 100000 in
theorem refFewG_ok (l : List Gl) : ∀ (m d : Int), (∀ g ∈ l, g.Ok) → l.length ≤ 140737488355328 → -1000 ≤ d ∧ d ≤ 1000 → PCtr Try.prog 35 [.d (.sl (Gl.rows l)), iV m, iV d] (iV (fewGL l m d)) := by
  refine Gl.indL (p := fun l => ∀ (m d : Int), (∀ g ∈ l, g.Ok) → l.length ≤ 140737488355328 → -1000 ≤ d ∧ d ≤ 1000 → PCtr Try.prog 35 [.d (.sl (Gl.rows l)), iV m, iV d] (iV (fewGL l m d))) (fun l hsub => ?_) l
  intro m d hok hlen hd0
  have hrl := Gl.rows_length l
  refine PCtr.of_R (pf := fun _ => .still) tyOk mixed Try.func35 rfl (by kernel_rfl) (by kernel_rfl) (by simp [Try.ntmps35]) fun w S hg => ?_
  refine R_run hg.ok 1000 rfl rfl ?_
  by_cases hd : d < 1
  · refine R_if rfl rfl (fun _ => ?_) (fun h => absurd (of_decide_eq_false h) (by omega)) <;> refine R_run hg.ok 1000 rfl rfl ?_
    refine R_ret hg 5 rfl rfl ?_
    unfold fewGL; rw [if_pos hd]; rfl
  refine R_if rfl rfl (fun h => absurd (of_decide_eq_true h) (by omega)) (fun _ => ?_) <;> refine R_run hg.ok 1000 rfl rfl ?_
  have hfe : fewGL l m d = fewGo l m d := by unfold fewGL; rw [if_neg hd]
  rw [hfe]
  have hwd : IntKind.i64.wrap (d - 1) = d - 1 := w64 (by omega) (by omega)
  refine R_loop (fun x : Nat × Int => ([(0, .d (.sl (Gl.rows l))), (1, iV x.2), (2, iV d), (7, iV x.1)], [])) (fun x => x.1 ≤ l.length ∧ fewGo l m d = fewGo (l.drop x.1) x.2 d) (fun x => l.length - x.1) (0, m) ⟨Nat.zero_le _, rfl⟩ ⟨.refl _, .refl _, .refl _, .refl _, trivial⟩ rfl ?_
  rintro ⟨k, q⟩ ⟨hk, hm⟩
  have hm : fewGo l m d = fewGo (l.drop k) q d := hm
  have hk : k ≤ l.length := hk
  refine R_run hg.ok 1000 rfl rfl ?_
  refine R_if rfl rfl (fun h => ?_) (fun h => ?_) <;> refine R_run hg.ok 1000 rfl rfl ?_
  rotate_left
  · have hk1 : l.length ≤ k := ge_dec h (by rw [hrl])
    refine R_ret hg 5 rfl rfl ?_
    rw [hm, List.drop_eq_nil_of_le hk1]; rfl
  have hk1 : k < l.length := lt_dec h (by rw [hrl])
  have e1 : l[k]? = some l[k] := List.getElem?_eq_getElem hk1
  have hmem := List.getElem_mem hk1
  rw [List.drop_eq_getElem_cons hk1, fewGo] at hm
  generalize l[k] = g at e1 hm hmem
  obtain ⟨sa, sb, sc⟩ := hsub g hmem
  have ho := hok g hmem
  refine R_if rfl rfl (fun h2 => ?_) (fun h2 => ?_) <;> refine R_run hg.ok 1000 rfl rfl ?_
  · rw [if_pos (of_decide_eq_true h2), fewG1_eq] at hm
    refine R_index hg.ok rfl rfl rfl rfl rfl rfl (Int.natCast_nonneg _) (Gl.rows_get e1) rfl ?_
    refine R_run hg.ok 1000 rfl rfl ?_
    refine R_call hg.ok (few_ok g.t ho.tm.1 q 200) rfl rfl rfl rfl rfl rfl ?_
    refine R_run hg.ok 1000 rfl rfl ?_
    refine R_index hg.ok rfl rfl rfl rfl rfl rfl (Int.natCast_nonneg _) (Gl.rows_get e1) rfl ?_
    refine R_run hg.ok 1000 rfl rfl ?_
    rw [hwd]
    refine R_call hg.ok (sa (g.t.few q 200) (d - 1) ho.ma ho.la (by omega)) rfl rfl rfl rfl rfl rfl ?_
    refine R_run hg.ok 1000 rfl rfl ?_
    refine R_index hg.ok rfl rfl rfl rfl rfl rfl (Int.natCast_nonneg _) (Gl.rows_get e1) rfl ?_
    refine R_run hg.ok 1000 rfl rfl ?_
    rw [hwd]
    refine R_call hg.ok (sb (fewGL g.a (g.t.few q 200) (d - 1)) (d - 1) ho.mb ho.lb (by omega)) rfl rfl rfl rfl rfl rfl ?_
    refine R_run hg.ok 1000 rfl rfl ?_
    refine R_index hg.ok rfl rfl rfl rfl rfl rfl (Int.natCast_nonneg _) (Gl.rows_get e1) rfl ?_
    refine R_run hg.ok 1000 rfl rfl ?_
    rw [hwd]
    refine R_call hg.ok (sc (fewGL g.b (fewGL g.a (g.t.few q 200) (d - 1)) (d - 1)) (d - 1) ho.mc ho.lc (by omega)) rfl rfl rfl rfl rfl rfl ?_
    refine R_run hg.ok 1000 rfl rfl ?_
    exact R_next (k + 1, fewGL g.c (fewGL g.b (fewGL g.a (g.t.few q 200) (d - 1)) (d - 1)) (d - 1)) ⟨hk1, hm⟩ (by simp only; omega) ⟨.refl _, .refl _, .refl _, Ent.wrap (by simp only; omega) (by simp only; omega) (by simp only; omega), trivial⟩ rfl
  · rw [if_neg (of_decide_eq_false h2)] at hm
    refine R_ret hg 5 rfl rfl ?_
    rw [hm]; rfl

set_option maxRecDepth 100000 in
theorem refSomeP_ok (l : List Cs) (hok : ∀ c ∈ l, c.Ok) (hlen : l.length ≤ 140737488355328) : PCtr Try.prog 16 [prV l] (bV (somP l)) := by
  have hrl := Cs.rows_len l
  refine PCtr.of_R (pf := fun _ => .eff) tyOk mixed Try.func16 rfl (by kernel_rfl) (by kernel_rfl) (by simp [Try.ntmps16]) fun w S hg => ?_
  refine R_run hg.ok 1000 rfl rfl ?_
  refine R_cut2 (fun _ : Unit => ([(1, .lo 0 0), (3, iV (somGo l 3000))], [.box [.d (.sl (Cs.rows l))]])) (fun _ => True) rfl ?_ ?_
  · refine R_loop (fun x : Nat × Int => ([(1, .lo 0 0), (3, iV x.2), (4, iV x.1)], [.box [.d (.sl (Cs.rows l))]])) (fun x => x.1 ≤ l.length ∧ somGo l 3000 = somGo (l.drop x.1) x.2) (fun x => l.length - x.1) (0, 3000) ⟨Nat.zero_le _, rfl⟩ ⟨.refl _, .refl _, .refl _, trivial⟩ rfl ?_
    rintro ⟨k, q⟩ ⟨hk, hm⟩
    have hm : somGo l 3000 = somGo (l.drop k) q := hm
    have hk : k ≤ l.length := hk
    refine R_run hg.ok 1000 rfl rfl ?_
    refine R_if rfl rfl (fun h => ?_) (fun h => ?_) <;> refine R_run hg.ok 1000 rfl rfl ?_
    rotate_left
    · have hk1 : l.length ≤ k := ge_dec h (by rw [hrl])
      refine R_to () trivial ⟨.refl _, ?_, trivial⟩ rfl
      rw [hm, List.drop_eq_nil_of_le hk1]; exact .refl _
    have hk1 : k < l.length := lt_dec h (by rw [hrl])
    have e1 : l[k]? = some l[k] := List.getElem?_eq_getElem hk1
    have hmem := List.getElem_mem hk1
    rw [List.drop_eq_getElem_cons hk1, somGo] at hm
    generalize l[k] = c at e1 hm hmem
    have ho := hok c hmem
    refine R_if rfl rfl (fun h2 => ?_) (fun h2 => ?_) <;> refine R_run hg.ok 1000 rfl rfl ?_
    · rw [if_pos (of_decide_eq_true h2)] at hm
      refine R_index hg.ok rfl rfl rfl rfl rfl rfl (Int.natCast_nonneg _) (Cs.rows_get e1) rfl ?_
      refine R_run hg.ok 1000 rfl rfl ?_
      refine R_call hg.ok (few_ok c.head ho.head.1 q 200) rfl rfl rfl rfl rfl rfl ?_
      refine R_run hg.ok 1000 rfl rfl ?_
      refine R_index hg.ok rfl rfl rfl rfl rfl rfl (Int.natCast_nonneg _) (Cs.rows_get e1) rfl ?_
      refine R_run hg.ok 1000 rfl rfl ?_
      refine R_call hg.ok (refFewG_ok c.body (c.head.few q 200) 30 ho.body ho.len (by omega)) rfl rfl rfl rfl rfl rfl ?_
      refine R_run hg.ok 1000 rfl rfl ?_
      exact R_next (k + 1, fewGL c.body (c.head.few q 200) 30) ⟨hk1, hm⟩ (by simp only; omega) ⟨.refl _, .refl _, Ent.wrap (by simp only; omega) (by simp only; omega) (by simp only; omega), trivial⟩ rfl
    · rw [if_neg (of_decide_eq_false h2)] at hm
      refine R_to () trivial ⟨.refl _, ?_, trivial⟩ rfl
      rw [hm]; exact .refl _
  rintro _ _
  refine R_run hg.ok 1000 rfl rfl ?_
  unfold somP
  refine R_if rfl rfl (fun h2 => ?_) (fun h2 => ?_) <;> refine R_run hg.ok 1000 rfl rfl ?_
  · refine R_ret hg 5 rfl rfl ?_
    rw [show decide (somGo l 3000 ≥ 0) = true from h2, Bool.true_and]
    rw [show decide (((Cs.rows l).length : Int) ≤ 210) = decide (l.length ≤ 210) by rw [hrl]; exact decide_eq_decide.2 (by omega)]
    rfl
  · refine R_ret hg 5 rfl rfl ?_
    rw [show decide (somGo l 3000 ≥ 0) = false from h2]; rfl
end Go.Proofs.Ythdpfglpdgmphaa

namespace Go.Proofs.Ythdpfglpdgmphaa
open Go PSL Go.Proofs

theorem firstN_none {α : Type} {p : α → Bool} : ∀ {l : List α} {i : Nat}, firstN p l i = none ↔ ∀ x ∈ l, p x = true
  | [], i => by simp [firstN]
  | x :: r, i => by
    simp only [firstN]
    cases h : p x with
    | true => simp only [if_true]; rw [firstN_none]; simp [h]
    | false => simp [h]

theorem firstN_lt {α : Type} {p : α → Bool} : ∀ {l : List α} {i j : Nat}, firstN p l i = some j → i ≤ j ∧ j < i + l.length
  | [], i, j, h => by simp [firstN] at h
  | x :: r, i, j, h => by
    simp only [firstN] at h
    split at h
    · have := firstN_lt h; simp only [List.length_cons]; omega
    · cases h; simp only [List.length_cons]; omega

/-- A program without its last clause. -/
theorem check_less {l : List Cs} (h : (checkR l).2 = 0) (r : List Cs) (hr : r = l.take (l.length - 1)) : ((checkR r).2 = 0 ∧ (checkR r).1 = 0) ∨ ((checkR r).2 = 9 ∧ 0 ≤ (checkR r).1 ∧ (checkR r).1 < r.length) := by
  unfold checkR at h
  split at h
  · cases h
  rename_i h2
  have hrl : r.length ≤ 200 := by rw [hr, List.length_take]; omega
  cases h3 : firstN clsB l 0 with
  | some i => rw [h3] at h; cases h
  | none =>
    have hr2 : firstN clsB r 0 = none := firstN_none.2 fun x hx => firstN_none.1 h3 x (by rw [hr] at hx; exact List.mem_of_mem_take hx)
    unfold checkR
    rw [if_neg (by omega), hr2]
    simp only
    cases h4 : firstN (fun c => thereL (hasH r) c.body) r 0 with
    | none => exact .inl ⟨rfl, rfl⟩
    | some i =>
      have := firstN_lt h4
      exact .inr ⟨rfl, by simp only; omega, by simp only; omega⟩
end Go.Proofs.Ythdpfglpdgmphaa

namespace Go.Proofs.Ythdpfglpdgmphaa
open Go PSL Go.Proofs

set_option maxRecDepth 100000 in
theorem progLess_ok (l : List Cs) (hok : ∀ c ∈ l, c.Ok) (hlen : l.length ≤ 140737488355328) : PCtr Try.prog 7 [prV l] (bV true) := by
  have hs := refSomeP_ok l hok hlen
  have hrl := Cs.rows_len l
  refine PCtr.of_R (pf := fun _ => .eff) tyOk mixed Try.func7 rfl (by kernel_rfl) (by kernel_rfl) (by simp [Try.ntmps7]) fun w S hg => ?_
  refine R_run hg.ok 1000 rfl rfl ?_
  cases hp : somP l with
  | false =>
    rw [hp] at hs
    refine R_call hg.ok (hs) rfl rfl rfl rfl rfl rfl ?_
    refine R_run hg.ok 1000 rfl rfl ?_
    refine R_if rfl rfl (fun _ => ?_) (fun h => absurd h (by simp)) <;> refine R_run hg.ok 1000 rfl rfl ?_
    refine R_call hg.ok (knows11_ok) rfl rfl rfl rfl rfl rfl ?_
    refine R_run hg.ok 1000 rfl rfl ?_
    refine R_ret hg 5 rfl rfl ?_
    rfl
  | true =>
    rw [hp] at hs
    obtain ⟨hsm, h2, _⟩ := somP_sm hp
    refine R_call hg.ok (hs) rfl rfl rfl rfl rfl rfl ?_
    refine R_run hg.ok 1000 rfl rfl ?_
    refine R_if rfl rfl (fun h => absurd h (by simp)) (fun _ => ?_) <;> refine R_run hg.ok 1000 rfl rfl ?_
    by_cases h0 : l.length = 0
    · refine R_if rfl rfl (fun _ => ?_) (fun h => absurd h (by rw [hrl, h0]; simp)) <;> refine R_run hg.ok 1000 rfl rfl ?_
      refine R_call hg.ok (knows11_ok) rfl rfl rfl rfl rfl rfl ?_
      refine R_run hg.ok 1000 rfl rfl ?_
      refine R_ret hg 5 rfl rfl ?_
      rfl
    refine R_if rfl rfl (fun h => absurd h (by rw [hrl]; intro h; have := eq_of_beq h; omega)) (fun _ => ?_) <;> refine R_run hg.ok 1000 rfl rfl ?_
    obtain ⟨r, hr⟩ : ∃ r, r = l.take (l.length - 1) := ⟨_, rfl⟩
    have hrs : ∀ c ∈ r, SmC c := fun c hc => hsm c (by rw [hr] at hc; exact List.mem_of_mem_take hc)
    have hrr : Cs.rows r = (Cs.rows l).take (l.length - 1) := by rw [hr]; unfold Cs.rows; rw [List.map_take]
    have hrn := Cs.rows_len r
    have hrlen : r.length = l.length - 1 := by rw [hr, List.length_take]; omega
    refine R_call hg.ok (check_ok l hsm) rfl rfl rfl rfl rfl rfl ?_
    refine R_run hg.ok 1000 rfl rfl ?_
    rw [hrl, w64 (n := (l.length : Int) - 1) (by omega) (by omega), show (l.length : Int) - 1 = ((l.length - 1 : Nat) : Int) by omega]
    refine R_sliceO hg.ok (Cs.rows r) rfl rfl rfl (l := 0) (h := ((l.length - 1 : Nat) : Int)) rfl rfl rfl rfl (fun x hx => by
      obtain ⟨c, _, rfl⟩ := List.mem_map.1 hx
      rfl) (Int.le_refl _) (by omega) (by rw [hrl]; omega) (by rw [hrr]; simp) ?_
    refine R_run hg.ok 1000 rfl rfl ?_
    refine R_call hg.ok (check_ok r hrs) rfl rfl rfl rfl rfl rfl ?_
    refine R_run hg.ok 1000 rfl rfl ?_
    by_cases he : (checkR l).2 = 0
    · refine R_if rfl rfl (fun h => absurd h (by simp [he])) (fun _ => ?_) <;> refine R_run hg.ok 1000 rfl rfl ?_
      rcases check_less he r hr with ⟨a, b⟩ | ⟨a, b, c⟩
      · rw [a, b]
        refine R_if rfl rfl (fun _ => ?_) (fun h => absurd h (by simp)) <;> refine R_run hg.ok 1000 rfl rfl ?_
        refine R_if rfl rfl (fun _ => ?_) (fun h => absurd h (by simp)) <;> refine R_run hg.ok 1000 rfl rfl ?_
        refine R_call hg.ok (knows11_ok) rfl rfl rfl rfl rfl rfl ?_
        refine R_run hg.ok 1000 rfl rfl ?_
        refine R_ret hg 5 rfl rfl ?_
        rfl
      · rw [a]
        refine R_if rfl rfl (fun h => absurd h (by simp)) (fun _ => ?_) <;> refine R_run hg.ok 1000 rfl rfl ?_
        refine R_if rfl rfl (fun _ => ?_) (fun h => absurd h (by simp)) <;> refine R_run hg.ok 1000 rfl rfl ?_
        rw [hrn]
        refine R_if rfl rfl (fun _ => ?_) (fun h => absurd (of_decide_eq_false h) (by omega)) <;> refine R_run hg.ok 1000 rfl rfl ?_
        refine R_call hg.ok (knows11_ok) rfl rfl rfl rfl rfl rfl ?_
        refine R_run hg.ok 1000 rfl rfl ?_
        refine R_ret hg 5 rfl rfl ?_
        rfl
    · refine R_if rfl rfl (fun _ => ?_) (fun h => absurd h (by simp [he])) <;> refine R_run hg.ok 1000 rfl rfl ?_
      refine R_call hg.ok (knows11_ok) rfl rfl rfl rfl rfl rfl ?_
      refine R_run hg.ok 1000 rfl rfl ?_
      refine R_ret hg 5 rfl rfl ?_
      rfl
end Go.Proofs.Ythdpfglpdgmphaa
