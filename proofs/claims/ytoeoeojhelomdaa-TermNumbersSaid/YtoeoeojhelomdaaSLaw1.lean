import Derived.Test.YtoeoeojhelomdaaSNumber
import Derived.Test.YtoeoeojhelomdaaPlLe
namespace Go.Proofs.Ytoeoeojhelomdaa
open Go PSL Go.Proofs

def kA : Tm := .mk 1 ByteArray.empty 3 []
def kB : Tm := .mk 1 ByteArray.empty 1 []
def kT : Tm := .mk 3 ⟨#[102]⟩ 0 [kA, .mk 3 ⟨#[103]⟩ 0 [kB, kA]]
def kZ : Tm := .mk 0 ByteArray.empty 0 []
def kN : Tm := .mk 3 ⟨#[102]⟩ 0 [.mk 1 ByteArray.empty 0 [], .mk 3 ⟨#[103]⟩ 0 [.mk 1 ByteArray.empty 1 [], .mk 1 ByteArray.empty 0 []]]

theorem kT_els : ∀ e ∈ kT.els 1, e.2.s.size < 1000000000 := by
  have : (kT.els 1).all (fun e => decide (e.2.s.size < 1000000000)) = true := by kernel_rfl
  intro e he; simpa using List.all_eq_true.1 this e he
theorem kZ_els : ∀ e ∈ kZ.els 1, e.2.s.size < 1000000000 := by
  have : (kZ.els 1).all (fun e => decide (e.2.s.size < 1000000000)) = true := by kernel_rfl
  intro e he; simpa using List.all_eq_true.1 this e he

theorem kNum : numberT [kT] = ([kN], 2, 0) := by
  have h1 : varsT [kT] = [3, 1] := by kernel_rfl
  have h2 : [kT].all rightT = true := by kernel_rfl
  simp only [numberT, h1, h2, if_true]
  rfl

set_option maxRecDepth 100000 in
theorem knows1_ok : PCtr Try.prog 17 [] (bV true) := by
  have hN := number_ok [kT] (by decide) (by intro t ht; simp at ht; subst ht; exact kT_els)
  rw [kNum] at hN
  have hR := right_ok kT (by decide) kT_els
  rw [show rightT kT = true by kernel_rfl] at hR
  have hR0 := right_ok kZ (by decide) kZ_els
  rw [show rightT kZ = false by kernel_rfl] at hR0
  have hS := size_ok kT (by decide)
  rw [show kT.size = 5 by kernel_rfl] at hS
  have hV := vars_ok [kT] (by decide)
  rw [show varsT [kT] = [3, 1] by kernel_rfl] at hV
  have hE := numbers_ok [3, 1] [3, 1] (by decide)
  have hG := ground_ok kT (by decide)
  rw [show groundT kT = false by kernel_rfl] at hG
  refine PCtr.of_R (pf := fun _ => .still) tyOk mixed Try.func17 rfl (by kernel_rfl) (by kernel_rfl) (by simp [Try.ntmps17]) fun w S hg => ?_
  refine R_run hg.ok 1000 rfl rfl ?_
  refine R_callN hg.ok hN rfl rfl rfl rfl (by kernel_rfl) rfl rfl ?_
  refine R_run hg.ok 1000 rfl rfl ?_
  refine R_callN hg.ok hR rfl rfl rfl rfl (by kernel_rfl) rfl rfl ?_
  refine R_run hg.ok 1000 rfl rfl ?_
  refine R_if rfl rfl (fun _ => ?_) (fun h => absurd h (by decide))
  refine R_run hg.ok 1000 rfl rfl ?_
  refine R_callN hg.ok hR0 rfl rfl rfl rfl (by kernel_rfl) rfl rfl ?_
  refine R_run hg.ok 1000 rfl rfl ?_
  refine R_if rfl rfl (fun _ => ?_) (fun h => absurd h (by decide))
  refine R_run hg.ok 1000 rfl rfl ?_
  refine R_callN hg.ok hS rfl rfl rfl rfl (by kernel_rfl) rfl rfl ?_
  refine R_run hg.ok 1000 rfl rfl ?_
  refine R_if rfl rfl (fun _ => ?_) (fun h => absurd h (by decide))
  refine R_run hg.ok 1000 rfl rfl ?_
  refine R_callN hg.ok hV rfl rfl rfl rfl (by kernel_rfl) rfl rfl ?_
  refine R_run hg.ok 1000 rfl rfl ?_
  refine R_callN hg.ok hE rfl rfl rfl rfl (by kernel_rfl) rfl rfl ?_
  refine R_run hg.ok 1000 rfl rfl ?_
  iterate 4
    refine R_if rfl rfl (fun _ => ?_) (fun h => absurd h (by decide))
    refine R_run hg.ok 1000 rfl rfl ?_
  refine R_index hg.ok rfl rfl rfl rfl rfl rfl (by decide) rfl rfl ?_
  refine R_run hg.ok 1000 rfl rfl ?_
  refine R_if rfl rfl (fun _ => ?_) (fun h => absurd h (by decide))
  refine R_run hg.ok 1000 rfl rfl ?_
  refine R_index hg.ok rfl rfl rfl rfl rfl rfl (by decide) rfl rfl ?_
  refine R_run hg.ok 1000 rfl rfl ?_
  refine R_index hg.ok rfl rfl rfl rfl rfl rfl (by decide) rfl rfl ?_
  refine R_run hg.ok 1000 rfl rfl ?_
  refine R_if rfl rfl (fun _ => ?_) (fun h => absurd h (by decide))
  refine R_run hg.ok 1000 rfl rfl ?_
  refine R_callN hg.ok hG rfl rfl rfl rfl (by kernel_rfl) rfl rfl ?_
  refine R_run hg.ok 1000 rfl rfl ?_
  refine R_ret hg 5 rfl rfl ?_
  rfl

theorem els_of_some {l : List Tm} (h : Tm.someT l = true) : ∀ t ∈ l, t.size < 1000000000 ∧ (∀ x e, e ∈ t.els x → e.2.s.size < 1000000000) := by
  obtain ⟨h1, _, _, h4⟩ := Tm.someT_ok h
  intro t ht
  refine ⟨by have := Tm.size_mem ht; omega, fun x e he => by have := h4 x e (Tm.els_memL ht he); omega⟩

set_option maxRecDepth 100000 in
theorem termTells_ok (a b : Tm) (ha : a.Ok) (hb : b.Ok) : PCtr Try.prog 9 [a.av, b.av] (bV true) := by
  refine PCtr.of_R (pf := fun _ => .still) tyOk mixed Try.func9 rfl (by kernel_rfl) (by kernel_rfl) (by simp [Try.ntmps9]) fun w S hg => ?_
  refine R_run hg.ok 1000 rfl rfl ?_
  refine R_call hg.ok (some_ok [a, b] (by simp; exact ⟨ha, hb⟩) (by simp)).two rfl rfl rfl rfl rfl rfl ?_
  refine R_run hg.ok 1000 rfl rfl ?_
  refine R_if rfl rfl (fun h => ?_) (fun h => ?_) <;> refine R_run hg.ok 1000 rfl rfl ?_
  · refine R_call hg.ok knows1_ok rfl rfl rfl rfl rfl rfl ?_
    refine R_run hg.ok 1000 rfl rfl ?_
    refine R_ret hg 5 rfl rfl ?_
    rfl
  have hs : Tm.someT [a, b] = true := by simpa using h
  obtain ⟨ha1, ha2⟩ := els_of_some hs a (by simp)
  obtain ⟨hb1, hb2⟩ := els_of_some hs b (by simp)
  refine R_call hg.ok (right_ok a ha1 (ha2 1)) rfl rfl rfl rfl rfl rfl ?_
  refine R_run hg.ok 1000 rfl rfl ?_
  refine R_call hg.ok (refRight_ok a ha1 ha2) rfl rfl rfl rfl rfl rfl ?_
  refine R_run hg.ok 1000 rfl rfl ?_
  refine R_if rfl rfl (fun _ => ?_) (fun h => absurd h (by rw [rightT_eq]; simp)) <;> refine R_run hg.ok 1000 rfl rfl ?_
  refine R_call hg.ok (size_ok a ha1) rfl rfl rfl rfl rfl rfl ?_
  refine R_run hg.ok 1000 rfl rfl ?_
  refine R_call hg.ok (refSize_ok a ha1) rfl rfl rfl rfl rfl rfl ?_
  refine R_run hg.ok 1000 rfl rfl ?_
  refine R_if rfl rfl (fun _ => ?_) (fun h => absurd h (by simp)) <;> refine R_run hg.ok 1000 rfl rfl ?_
  refine R_call hg.ok (same_ok a b ha1) rfl rfl rfl rfl rfl rfl ?_
  refine R_run hg.ok 1000 rfl rfl ?_
  refine R_call hg.ok (refSame_ok a b ha1) rfl rfl rfl rfl rfl rfl ?_
  refine R_run hg.ok 1000 rfl rfl ?_
  refine R_if rfl rfl (fun _ => ?_) (fun h => absurd h (by simp)) <;> refine R_run hg.ok 1000 rfl rfl ?_
  refine R_call hg.ok (same_ok a a ha1) rfl rfl rfl rfl rfl rfl ?_
  refine R_run hg.ok 1000 rfl rfl ?_
  refine R_if rfl rfl (fun _ => ?_) (fun h => absurd h (by rw [Tm.same_refl]; simp)) <;> refine R_run hg.ok 1000 rfl rfl ?_
  refine R_call hg.ok knows1_ok rfl rfl rfl rfl rfl rfl ?_
  refine R_run hg.ok 1000 rfl rfl ?_
  refine R_ret hg 5 rfl rfl ?_
  rfl
end Go.Proofs.Ytoeoeojhelomdaa
