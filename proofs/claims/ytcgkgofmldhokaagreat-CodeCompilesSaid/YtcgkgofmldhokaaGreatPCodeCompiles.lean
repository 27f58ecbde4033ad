/- CodeCompiles: for every program and every clause, the law returns true and leaves its arguments unchanged. Conditions: none. -/
import Derived.Test.YtcgkgofmldhokaaGreatM6
namespace Go.Proofs.YtcgkgofmldhokaaGreat
open Go PSL Go.Proofs Go.ChangeShapes Go.WideShapes Go.ChangeAt Go.RowKit

theorem codeCompiles_ctr (xs : List AV) (h : ArgsAre tyT.get reachBytes Tryz.f3.params.toList xs) : PCtr Tryz.prog 3 xs (bV true) := by
  rw [Tryz.params3] at h
  obtain ⟨_, _, _, _, xs, rfl, h1a, h1b, h1c, h⟩ := argsC h
  obtain ⟨_, _, _, _, xs, rfl, h2a, h2b, h2c, h⟩ := argsC h
  rw [args0 h]
  obtain ⟨x1, rfl, h1⟩ := arg_progB isTerm isGoal isClause reach47 h1a (sh_of h1a rfl) rfl rfl rfl h1b h1c
  obtain ⟨x2, rfl, h2⟩ := arg_cs isTerm isGoal isClause reach47 h2a h2b h2c
  exact codeCompiles_ok x1 x2 h1.1 h2 (by have := h1.2.2; simp [reachBytes] at this; omega)

set_option maxRecDepth 100000 in
theorem codeCompiles_lifted (os : Os) (started : os.Started) (H : Type) (enc : TypeId × Value → H) :
    ReturnsInHanded {} Tryz.checked os 3 .any (Rows.codeCompilesSpec.pre6 enc Tryz.prog Tryz.f3 Rows.codeCompilesRow.domain false) (Rows.codeCompilesSpec.post enc Tryz.prog Tryz.f3 false true false false) := by
  refine returnsInHanded_of_change_sized (C := Tryz.checked) ownK started (by kernel_rfl) Tryz.func3
    (ChangeSpec.witness6 (enc := enc) (C := Tryz.checked) false ⟨#[], #[.agg #[.slice none 0 0], .agg #[.int .i64 0, .string ⟨#[]⟩, .int .i64 0, .slice none 0 0, .slice none 0 0, .int .i64 0]], []⟩ 8 (by kernel_rfl) (by kernel_rfl) (by kernel_rfl) (by kernel_rfl)) ?_
  intro W base args ds gs before hval hW _ hwt _
  exact law_calls tyOk lawTysOk laidK ⟨rfl, fun H ds h => by match ds, h with | [a0, a1], _ => rfl⟩ rfl Tryz.underlying4 (by rw [Tryz.params3]; decide) (by rw [Tryz.params3]; decide) codeCompiles_ctr (AmbOk.none (by kernel_rfl) (by kernel_rfl) _ _) hval hW hwt

theorem codeCompiles_holds : Rows.CodeCompilesSaid :=
  OpenClaim.holds_of_wide 3 Tryz.f3 rfl rfl rfl rfl rfl rfl rfl ⟨rfl, rfl, rfl, rfl, rfl⟩ rfl rfl rfl rfl rfl (by kernel_rfl) Tryz.func3 (by kernel_rfl)
    (of_decide_eq_true (by kernel_rfl)) (by unfold Func.isWrapper; rw [if_neg (by decide +kernel)]; exact ⟨rfl, rfl⟩)
    (fun os started H enc _ => codeCompiles_lifted os started H enc)
end Go.Proofs.YtcgkgofmldhokaaGreat
