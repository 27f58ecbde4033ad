import Derived.Test.YtppghekipbnjhaaSNumber
import Derived.Test.YtppghekipbnjhaaPlA
namespace Go.Proofs.Ytppghekipbnjhaa
open Go PSL Go.Proofs

def kA : Tm := .mk 1 ByteArray.empty 3 []
def kB : Tm := .mk 1 ByteArray.empty 1 []
def kT : Tm := .mk 3 ⟨#[102]⟩ 0 [kA, .mk 3 ⟨#[103]⟩ 0 [kB, kA]]
def kZ : Tm := .mk 0 ByteArray.empty 0 []
def kN : Tm := .mk 3 ⟨#[102]⟩ 0 [.mk 1 ByteArray.empty 0 [], .mk 3 ⟨#[103]⟩ 0 [.mk 1 ByteArray.empty 1 [], .mk 1 ByteArray.empty 0 []]]

theorem kT_els : ∀ e ∈ kT.els 1, e.2.s.size < 1000000000 := by
  have : (kT.els 1).all (fun e => decide (e.2.s.size < 1000000000)) = true := by kernel_rfl
  intro e he; simpa using List.all_eq_true.1 this e he
theorem kZ_els : ∀ e ∈ kZ.els 1, e.2.s.size < 1000000000 := by
  have : (kZ.els 1).all (fun e => decide (e.2.s.size < 1000000000)) = true := by kernel_rfl
  intro e he; simpa using List.all_eq_true.1 this e he

theorem kNum : numberT [kT] = ([kN], 2, 0) := by
  have h1 : varsT [kT] = [3, 1] := by kernel_rfl
  have h2 : [kT].all rightT = true := by kernel_rfl
  simp only [numberT, h1, h2, if_true]
  rfl

theorem els_of_some {l : List Tm} (h : Tm.someT l = true) : ∀ t ∈ l, t.size < 1000000000 ∧ (∀ x e, e ∈ t.els x → e.2.s.size < 1000000000) := by
  obtain ⟨h1, _, _, h4⟩ := Tm.someT_ok h
  intro t ht
  refine ⟨by have := Tm.size_mem ht; omega, fun x e he => by have := h4 x e (Tm.els_memL ht he); omega⟩
end Go.Proofs.Ytppghekipbnjhaa
