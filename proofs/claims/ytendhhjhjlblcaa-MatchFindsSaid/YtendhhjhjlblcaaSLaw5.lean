import Derived.Test.YtendhhjhjlblcaaSFill2
import Derived.Test.YtendhhjhjlblcaaSRefM
import Derived.Test.YtendhhjhjlblcaaSRefF
import Derived.Test.YtendhhjhjlblcaaPlInst2
import Derived.Test.YtendhhjhjlblcaaPlLe
namespace Go.Proofs.Ytendhhjhjlblcaa
open Go PSL Go.Proofs

def mX : Tm := .mk 1 ByteArray.empty 0 []
def mF : Tm := .mk 3 ⟨#[102]⟩ 0 [mX, mX]
def mG : Tm := .mk 3 ⟨#[103]⟩ 0 [mX]
def mFG : Tm := .mk 3 ⟨#[102]⟩ 0 [mG, mG]
def mA : Tm := .mk 3 ⟨#[97]⟩ 0 []
def mB : Tm := .mk 3 ⟨#[98]⟩ 0 []
def mFA : Tm := .mk 3 ⟨#[102]⟩ 0 [mA, mB]

theorem match_f (p t : Tm) (hp : p.fairR = true) (ht : t.fairR = true) (sp : p.size < 400000000) (st : t.size < 400000000) : PCtr Try.prog 30 [p.av, t.av] (.tup [.d (.sl (bindRows (matchT p t).1)), bV (matchT p t).2.1, iV (matchT p t).2.2]) := match_ok p t sp st (fun e he => fair_names hp 1 e he) (fun e he => fair_names ht 1 e he)

set_option maxRecDepth 100000 in
theorem knows5_ok : PCtr Try.prog 29 [] (bV true) := by
  have hM := match_f mF mFG (by kernel_rfl) (by kernel_rfl) (by decide) (by decide)
  rw [show matchT mF mFG = ([(0, mG)], true, 0) by kernel_rfl] at hM
  have hN := match_f mF mFA (by kernel_rfl) (by kernel_rfl) (by decide) (by decide)
  rw [show matchT mF mFA = ([], false, 0) by kernel_rfl] at hN
  have hI := instance_ok mA mX (by decide) (by decide) (fun e he => fair_names (t := mX) (by kernel_rfl) 1 e he) (fun e he => fair_names (t := mA) (by kernel_rfl) 1 e he)
  rw [show matchT mX mA = ([(0, mA)], true, 0) by kernel_rfl] at hI
  have hF := fill_ok mX [(0, mG)] (by decide) (fun e he => fair_names (t := mX) (by kernel_rfl) 1 e he) (by decide) (by
    intro b hb; simp at hb; subst hb; exact ⟨by decide, fun e he => fair_names (t := mG) (by kernel_rfl) 1 e he⟩)
  rw [show fillT mX [(0, mG)] = (mG, 0) by kernel_rfl] at hF
  refine PCtr.of_R (pf := fun _ => .still) tyOk mixed Try.func29 rfl (by kernel_rfl) (by kernel_rfl) (by simp [Try.ntmps29]) fun w S hg => ?_
  refine R_run hg.ok 1000 rfl rfl ?_
  refine R_callN hg.ok (fun5_ok ⟨#[102]⟩ [mX, mX]) rfl rfl rfl rfl (by kernel_rfl) rfl rfl ?_
  refine R_run hg.ok 1000 rfl rfl ?_
  refine R_callN hg.ok (fun5_ok ⟨#[103]⟩ [mX]) rfl rfl rfl rfl (by kernel_rfl) rfl rfl ?_
  refine R_run hg.ok 1000 rfl rfl ?_
  refine R_callN hg.ok (fun5_ok ⟨#[103]⟩ [mX]) rfl rfl rfl rfl (by kernel_rfl) rfl rfl ?_
  refine R_run hg.ok 1000 rfl rfl ?_
  refine R_callN hg.ok (fun5_ok ⟨#[102]⟩ [mG, mG]) rfl rfl rfl rfl (by kernel_rfl) rfl rfl ?_
  refine R_run hg.ok 1000 rfl rfl ?_
  refine R_callN hg.ok hM rfl rfl rfl rfl (by kernel_rfl) rfl rfl ?_
  refine R_run hg.ok 1000 rfl rfl ?_
  refine R_callN hg.ok hF rfl rfl rfl rfl (by kernel_rfl) rfl rfl ?_
  refine R_run hg.ok 1000 rfl rfl ?_
  refine R_callN hg.ok (fun5_ok ⟨#[102]⟩ [mX, mX]) rfl rfl rfl rfl (by kernel_rfl) rfl rfl ?_
  refine R_run hg.ok 1000 rfl rfl ?_
  refine R_callN hg.ok (fun5_ok ⟨#[97]⟩ []) rfl rfl rfl rfl (by kernel_rfl) rfl rfl ?_
  refine R_run hg.ok 1000 rfl rfl ?_
  refine R_callN hg.ok (fun5_ok ⟨#[98]⟩ []) rfl rfl rfl rfl (by kernel_rfl) rfl rfl ?_
  refine R_run hg.ok 1000 rfl rfl ?_
  refine R_callN hg.ok (fun5_ok ⟨#[102]⟩ [mA, mB]) rfl rfl rfl rfl (by kernel_rfl) rfl rfl ?_
  refine R_run hg.ok 1000 rfl rfl ?_
  refine R_callN hg.ok hN rfl rfl rfl rfl (by kernel_rfl) rfl rfl ?_
  refine R_run hg.ok 1000 rfl rfl ?_
  repeat
    first
    | (refine R_if rfl rfl (fun _ => ?_) (fun h => absurd h (by decide)); refine R_run hg.ok 1000 rfl rfl ?_)
    | (refine R_index hg.ok rfl rfl rfl rfl rfl rfl (by decide) rfl rfl ?_; refine R_run hg.ok 1000 rfl rfl ?_)
    | (refine R_if rfl rfl (fun _ => ?_) (fun h => absurd (h.symm.trans (Tm.strEq_iff.2 rfl)) (by simp)); refine R_run hg.ok 1000 rfl rfl ?_)
  refine R_callN hg.ok (fun5_ok ⟨#[97]⟩ []) rfl rfl rfl rfl (by kernel_rfl) rfl rfl ?_
  refine R_run hg.ok 1000 rfl rfl ?_
  refine R_callN hg.ok hI rfl rfl rfl rfl (by kernel_rfl) rfl rfl ?_
  refine R_run hg.ok 1000 rfl rfl ?_
  refine R_ret hg 5 rfl rfl ?_
  rfl

theorem some_b {l : List Tm} (h : Tm.someT l = true) : ∀ t ∈ l, t.size ≤ 4000 ∧ (∀ x e, e ∈ t.els x → e.2.s.size < 1000000000) := by
  obtain ⟨h1, _, _, h4⟩ := Tm.someT_ok h
  intro t ht
  refine ⟨by have := Tm.size_mem ht; omega, fun x e he => by have := h4 x e (Tm.els_memL ht he); omega⟩

set_option maxRecDepth 100000 in
theorem matchFinds_ok (p t : Tm) (hp : p.Ok) (ht : t.Ok) : PCtr Try.prog 8 [p.av, t.av] (bV true) := by
  refine PCtr.of_R (pf := fun _ => .still) tyOk mixed Try.func8 rfl (by kernel_rfl) (by kernel_rfl) (by simp [Try.ntmps8]) fun w S hg => ?_
  refine R_run hg.ok 1000 rfl rfl ?_
  refine R_call hg.ok (some_ok [p, t] (by simp; exact ⟨hp, ht⟩) (by simp)).two rfl rfl rfl rfl rfl rfl ?_
  refine R_run hg.ok 1000 rfl rfl ?_
  refine R_if rfl rfl (fun h => ?_) (fun h => ?_) <;> refine R_run hg.ok 1000 rfl rfl ?_
  · refine R_call hg.ok knows5_ok rfl rfl rfl rfl rfl rfl ?_
    refine R_run hg.ok 1000 rfl rfl ?_
    refine R_ret hg 5 rfl rfl ?_
    rfl
  have hs : Tm.someT [p, t] = true := by simpa using h
  obtain ⟨sp, np⟩ := some_b hs p (by simp)
  obtain ⟨st, nt⟩ := some_b hs t (by simp)
  refine R_call hg.ok (match_ok p t (by omega) (by omega) (np 1) (nt 1)) rfl rfl rfl rfl rfl rfl ?_
  refine R_run hg.ok 1000 rfl rfl ?_
  refine R_call hg.ok (refRight_ok p (by omega) np) rfl rfl rfl rfl rfl rfl ?_
  refine R_run hg.ok 1000 rfl rfl ?_
  have hi := instance_ok t p (by omega) (by omega) (np 1) (nt 1)
  refine R_if rfl rfl (fun h1 => ?_) (fun h1 => ?_) <;> refine R_run hg.ok 1000 rfl rfl ?_
  · have hb := (instT_bad (p := p) (t := t) (.inl (by simpa using h1))).2
    rw [hb] at hi
    rw [hb]
    refine R_if rfl rfl (fun _ => ?_) (fun h => absurd h (by simp [bindRows])) <;> refine R_run hg.ok 1000 rfl rfl ?_
    refine R_if rfl rfl (fun _ => ?_) (fun h => absurd h (by simp)) <;> refine R_run hg.ok 1000 rfl rfl ?_
    refine R_if rfl rfl (fun _ => ?_) (fun h => absurd h (by simp)) <;> refine R_run hg.ok 1000 rfl rfl ?_
    refine R_call hg.ok hi rfl rfl rfl rfl rfl rfl ?_
    refine R_run hg.ok 1000 rfl rfl ?_
    refine R_if rfl rfl (fun _ => ?_) (fun h => absurd h (by simp)) <;> refine R_run hg.ok 1000 rfl rfl ?_
    refine R_call hg.ok knows5_ok rfl rfl rfl rfl rfl rfl ?_
    refine R_run hg.ok 1000 rfl rfl ?_
    refine R_ret hg 5 rfl rfl ?_
    rfl
  have h1 : p.rightB = true := by simpa using h1
  refine R_call hg.ok (refRight_ok t (by omega) nt) rfl rfl rfl rfl rfl rfl ?_
  refine R_run hg.ok 1000 rfl rfl ?_
  refine R_if rfl rfl (fun h2 => ?_) (fun h2 => ?_) <;> refine R_run hg.ok 1000 rfl rfl ?_
  · have hb := (instT_bad (p := p) (t := t) (.inr (by simpa using h2))).2
    rw [hb] at hi
    rw [hb]
    refine R_if rfl rfl (fun _ => ?_) (fun h => absurd h (by simp [bindRows])) <;> refine R_run hg.ok 1000 rfl rfl ?_
    refine R_if rfl rfl (fun _ => ?_) (fun h => absurd h (by simp)) <;> refine R_run hg.ok 1000 rfl rfl ?_
    refine R_if rfl rfl (fun _ => ?_) (fun h => absurd h (by simp)) <;> refine R_run hg.ok 1000 rfl rfl ?_
    refine R_call hg.ok hi rfl rfl rfl rfl rfl rfl ?_
    refine R_run hg.ok 1000 rfl rfl ?_
    refine R_if rfl rfl (fun _ => ?_) (fun h => absurd h (by simp)) <;> refine R_run hg.ok 1000 rfl rfl ?_
    refine R_call hg.ok knows5_ok rfl rfl rfl rfl rfl rfl ?_
    refine R_run hg.ok 1000 rfl rfl ?_
    refine R_ret hg 5 rfl rfl ?_
    rfl
  have h2 : t.rightB = true := by simpa using h2
  rw [match_same h1 h2] at hi ⊢
  have hlen := Tm.collect_len p t
  have hgr := Tm.fitM_grow p t []
  have hmm : ((matchR p t).1.length ≤ p.size) ∧ ∀ b ∈ (matchR p t).1, b.2.size ≤ t.size := by
    have e := congrArg Prod.fst (match_same h1 h2)
    simp only at e
    rw [← e]
    unfold matchT
    rw [rightT_eq, rightT_eq, h1, h2]
    simp only [Bool.and_self, if_true]
    split
    · refine ⟨by have := hgr.1; simpa using this, fun b hb => ?_⟩
      exact (hgr.2 b hb).resolve_left (by simp)
    · exact ⟨by simp, fun b hb => by simp at hb⟩
  refine R_call hg.ok (refMatch_ok p t (by omega) (by omega)) rfl rfl rfl rfl rfl rfl ?_
  refine R_run hg.ok 1000 rfl rfl ?_
  refine R_call hg.ok (sameB_ok (matchR p t).1 (matchR p t).1 (by omega) (fun b hb => by have := hmm.2 b hb; omega)) rfl rfl rfl rfl rfl rfl ?_
  refine R_run hg.ok 1000 rfl rfl ?_
  have hsb : sameB (matchR p t).1 (matchR p t).1 = true := (sameB_iff _ _).2 rfl
  refine R_if rfl rfl (fun _ => ?_) (fun h => absurd h (by rw [hsb]; simp)) <;> refine R_run hg.ok 1000 rfl rfl ?_
  refine R_if rfl rfl (fun _ => ?_) (fun h => absurd h (by simp)) <;> refine R_run hg.ok 1000 rfl rfl ?_
  refine R_if rfl rfl (fun _ => ?_) (fun h => absurd h (by simp)) <;> refine R_run hg.ok 1000 rfl rfl ?_
  refine R_call hg.ok hi rfl rfl rfl rfl rfl rfl ?_
  refine R_run hg.ok 1000 rfl rfl ?_
  refine R_if rfl rfl (fun _ => ?_) (fun h => absurd h (by simp)) <;> refine R_run hg.ok 1000 rfl rfl ?_
  refine R_call hg.ok knows5_ok rfl rfl rfl rfl rfl rfl ?_
  refine R_run hg.ok 1000 rfl rfl ?_
  refine R_ret hg 5 rfl rfl ?_
  rfl
end Go.Proofs.Ytendhhjhjlblcaa
