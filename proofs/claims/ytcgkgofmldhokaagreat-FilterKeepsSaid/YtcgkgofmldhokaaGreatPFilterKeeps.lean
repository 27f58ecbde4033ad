/- FilterKeeps: for every program, the law returns true and leaves its arguments unchanged. Conditions: none. -/
import Derived.Test.YtcgkgofmldhokaaGreatM6
namespace Go.Proofs.YtcgkgofmldhokaaGreat
open Go PSL Go.Proofs Go.ChangeShapes Go.WideShapes Go.ChangeAt Go.RowKit

theorem filterKeeps_ctr (xs : List AV) (h : ArgsAre tyT.get reachBytes Tryz.f7.params.toList xs) : PCtr Tryz.prog 7 xs (bV true) := by
  rw [Tryz.params7] at h
  obtain ⟨_, _, _, _, xs, rfl, h1a, h1b, h1c, h⟩ := argsC h
  rw [args0 h]
  obtain ⟨x1, rfl, h1⟩ := arg_progB isTerm isGoal isClause reach47 h1a (sh_of h1a rfl) rfl rfl rfl h1b h1c
  exact filterKeeps_ok x1 h1.1 (by have := h1.2.2; simp [reachBytes] at this; omega)

set_option maxRecDepth 100000 in
theorem filterKeeps_lifted (os : Os) (started : os.Started) (H : Type) (enc : TypeId × Value → H) :
    ReturnsInHanded {} Tryz.checked os 7 .any (Rows.filterKeepsSpec.pre6 enc Tryz.prog Tryz.f7 Rows.filterKeepsRow.domain false) (Rows.filterKeepsSpec.post enc Tryz.prog Tryz.f7 false true false false) := by
  refine returnsInHanded_of_change_sized (C := Tryz.checked) ownK started (by kernel_rfl) Tryz.func7
    (ChangeSpec.witness6 (enc := enc) (C := Tryz.checked) false ⟨#[], #[.agg #[.slice none 0 0]], []⟩ 8 (by kernel_rfl) (by kernel_rfl) (by kernel_rfl) (by kernel_rfl)) ?_
  intro W base args ds gs before hval hW _ hwt _
  exact law_calls tyOk lawTysOk laidK ⟨rfl, fun H ds h => by match ds, h with | [a0], _ => rfl⟩ rfl Tryz.underlying4 (by rw [Tryz.params7]; decide) (by rw [Tryz.params7]; decide) filterKeeps_ctr (AmbOk.none (by kernel_rfl) (by kernel_rfl) _ _) hval hW hwt

theorem filterKeeps_holds : Rows.FilterKeepsSaid :=
  OpenClaim.holds_of_wide 7 Tryz.f7 rfl rfl rfl rfl rfl rfl rfl ⟨rfl, rfl, rfl, rfl, rfl⟩ rfl rfl rfl rfl rfl (by kernel_rfl) Tryz.func7 (by kernel_rfl)
    (of_decide_eq_true (by kernel_rfl)) (by unfold Func.isWrapper; rw [if_neg (by decide +kernel)]; exact ⟨rfl, rfl⟩)
    (fun os started H enc _ => filterKeeps_lifted os started H enc)
end Go.Proofs.YtcgkgofmldhokaaGreat
