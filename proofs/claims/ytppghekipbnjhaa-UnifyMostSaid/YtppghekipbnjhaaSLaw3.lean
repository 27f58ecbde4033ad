import Derived.Test.YtppghekipbnjhaaSSubst3
import Derived.Test.YtppghekipbnjhaaSRefV
import Derived.Test.YtppghekipbnjhaaPlA
namespace Go.Proofs.Ytppghekipbnjhaa
open Go PSL Go.Proofs

def sY : Tm := Tm.vT 1
def sB : Binds := [(0, .mk 3 ⟨#[102]⟩ 0 [sY]), (1, .mk 3 ⟨#[97]⟩ 0 [])]
def sG : Tm := .mk 3 ⟨#[103]⟩ 0 [Tm.vT 0, Tm.vT 2]

theorem smallFair {B : Binds} (hl : B.length ≤ 4000) (h : B.all (fun b => b.2.fairR) = true) (hs : B.all (fun b => decide (b.2.size < 400000000)) = true) : Small B :=
  ⟨hl, fun b hb => by simpa using List.all_eq_true.1 hs b hb, fun b hb x e he => fair_names (List.all_eq_true.1 h b hb) x e he⟩

theorem some_one {t : Tm} (h : Tm.someT [t] = true) : t.size ≤ 4000 ∧ ∀ x e, e ∈ t.els x → e.2.s.size < 1000000000 := by
  obtain ⟨h1, _, _, h4⟩ := Tm.someT_ok h
  refine ⟨by have := Tm.size_mem (l := [t]) (x := t) (by simp); omega, fun x e he => by have := h4 x e (Tm.els_memL (by simp) he); omega⟩

theorem someS_small {B : Binds} (h : someS B = true) : Small B := by
  obtain ⟨h1, h2⟩ := someS_ok h
  exact ⟨by omega, fun b hb => by have := (h2 b hb).1; omega, fun b hb x e he => by have := (h2 b hb).2 x e he; omega⟩
end Go.Proofs.Ytppghekipbnjhaa
