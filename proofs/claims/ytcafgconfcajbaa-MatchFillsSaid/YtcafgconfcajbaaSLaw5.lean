import Derived.Test.YtcafgconfcajbaaSFill2
import Derived.Test.YtcafgconfcajbaaSRefM
import Derived.Test.YtcafgconfcajbaaSRefF
import Derived.Test.YtcafgconfcajbaaPlC
import Derived.Test.YtcafgconfcajbaaPlA
namespace Go.Proofs.Ytcafgconfcajbaa
open Go PSL Go.Proofs

def mX : Tm := .mk 1 ByteArray.empty 0 []
def mF : Tm := .mk 3 ⟨#[102]⟩ 0 [mX, mX]
def mG : Tm := .mk 3 ⟨#[103]⟩ 0 [mX]
def mFG : Tm := .mk 3 ⟨#[102]⟩ 0 [mG, mG]
def mA : Tm := .mk 3 ⟨#[97]⟩ 0 []
def mB : Tm := .mk 3 ⟨#[98]⟩ 0 []
def mFA : Tm := .mk 3 ⟨#[102]⟩ 0 [mA, mB]

theorem match_f (p t : Tm) (hp : p.fairR = true) (ht : t.fairR = true) (sp : p.size < 400000000) (st : t.size < 400000000) : PCtr Try.prog 23 [p.av, t.av] (.tup [.d (.sl (bindRows (matchT p t).1)), bV (matchT p t).2.1, iV (matchT p t).2.2]) := match_ok p t sp st (fun e he => fair_names hp 1 e he) (fun e he => fair_names ht 1 e he)

set_option maxRecDepth 100000 in
theorem knows5_ok : PCtr Try.prog 15 [] (bV true) := by
  have hM := match_f mF mFG (by kernel_rfl) (by kernel_rfl) (by decide) (by decide)
  rw [show matchT mF mFG = ([(0, mG)], true, 0) by kernel_rfl] at hM
  have hN := match_f mF mFA (by kernel_rfl) (by kernel_rfl) (by decide) (by decide)
  rw [show matchT mF mFA = ([], false, 0) by kernel_rfl] at hN
  have hI := instance_ok mA mX (by decide) (by decide) (fun e he => fair_names (t := mX) (by kernel_rfl) 1 e he) (fun e he => fair_names (t := mA) (by kernel_rfl) 1 e he)
  rw [show matchT mX mA = ([(0, mA)], true, 0) by kernel_rfl] at hI
  have hF := fill_ok mX [(0, mG)] (by decide) (fun e he => fair_names (t := mX) (by kernel_rfl) 1 e he) (by decide) (by
    intro b hb; simp at hb; subst hb; exact ⟨by decide, fun e he => fair_names (t := mG) (by kernel_rfl) 1 e he⟩)
  rw [show fillT mX [(0, mG)] = (mG, 0) by kernel_rfl] at hF
  refine PCtr.of_R (pf := fun _ => .still) tyOk mixed Try.func15 rfl (by kernel_rfl) (by kernel_rfl) (by simp [Try.ntmps15]) fun w S hg => ?_
  refine R_run hg.ok 1000 rfl rfl ?_
  refine R_callN hg.ok (fun5_ok ⟨#[102]⟩ [mX, mX]) rfl rfl rfl rfl (by kernel_rfl) rfl rfl ?_
  refine R_run hg.ok 1000 rfl rfl ?_
  refine R_callN hg.ok (fun5_ok ⟨#[103]⟩ [mX]) rfl rfl rfl rfl (by kernel_rfl) rfl rfl ?_
  refine R_run hg.ok 1000 rfl rfl ?_
  refine R_callN hg.ok (fun5_ok ⟨#[103]⟩ [mX]) rfl rfl rfl rfl (by kernel_rfl) rfl rfl ?_
  refine R_run hg.ok 1000 rfl rfl ?_
  refine R_callN hg.ok (fun5_ok ⟨#[102]⟩ [mG, mG]) rfl rfl rfl rfl (by kernel_rfl) rfl rfl ?_
  refine R_run hg.ok 1000 rfl rfl ?_
  refine R_callN hg.ok hM rfl rfl rfl rfl (by kernel_rfl) rfl rfl ?_
  refine R_run hg.ok 1000 rfl rfl ?_
  refine R_callN hg.ok hF rfl rfl rfl rfl (by kernel_rfl) rfl rfl ?_
  refine R_run hg.ok 1000 rfl rfl ?_
  refine R_callN hg.ok (fun5_ok ⟨#[102]⟩ [mX, mX]) rfl rfl rfl rfl (by kernel_rfl) rfl rfl ?_
  refine R_run hg.ok 1000 rfl rfl ?_
  refine R_callN hg.ok (fun5_ok ⟨#[97]⟩ []) rfl rfl rfl rfl (by kernel_rfl) rfl rfl ?_
  refine R_run hg.ok 1000 rfl rfl ?_
  refine R_callN hg.ok (fun5_ok ⟨#[98]⟩ []) rfl rfl rfl rfl (by kernel_rfl) rfl rfl ?_
  refine R_run hg.ok 1000 rfl rfl ?_
  refine R_callN hg.ok (fun5_ok ⟨#[102]⟩ [mA, mB]) rfl rfl rfl rfl (by kernel_rfl) rfl rfl ?_
  refine R_run hg.ok 1000 rfl rfl ?_
  refine R_callN hg.ok hN rfl rfl rfl rfl (by kernel_rfl) rfl rfl ?_
  refine R_run hg.ok 1000 rfl rfl ?_
  repeat
    first
    | (refine R_if rfl rfl (fun _ => ?_) (fun h => absurd h (by decide)); refine R_run hg.ok 1000 rfl rfl ?_)
    | (refine R_index hg.ok rfl rfl rfl rfl rfl rfl (by decide) rfl rfl ?_; refine R_run hg.ok 1000 rfl rfl ?_)
    | (refine R_if rfl rfl (fun _ => ?_) (fun h => absurd (h.symm.trans (Tm.strEq_iff.2 rfl)) (by simp)); refine R_run hg.ok 1000 rfl rfl ?_)
  refine R_callN hg.ok (fun5_ok ⟨#[97]⟩ []) rfl rfl rfl rfl (by kernel_rfl) rfl rfl ?_
  refine R_run hg.ok 1000 rfl rfl ?_
  refine R_callN hg.ok hI rfl rfl rfl rfl (by kernel_rfl) rfl rfl ?_
  refine R_run hg.ok 1000 rfl rfl ?_
  refine R_ret hg 5 rfl rfl ?_
  rfl

theorem some_b {l : List Tm} (h : Tm.someT l = true) : ∀ t ∈ l, t.size ≤ 4000 ∧ (∀ x e, e ∈ t.els x → e.2.s.size < 1000000000) := by
  obtain ⟨h1, _, _, h4⟩ := Tm.someT_ok h
  intro t ht
  refine ⟨by have := Tm.size_mem ht; omega, fun x e he => by have := h4 x e (Tm.els_memL ht he); omega⟩
end Go.Proofs.Ytcafgconfcajbaa
