/- ProgChecks: for every program, the law returns true and leaves its arguments unchanged. Conditions: none. -/
import Derived.Test.YthdpfglpdgmphaaGreatM5
namespace Go.Proofs.YthdpfglpdgmphaaGreat
open Go PSL Go.Proofs Go.ChangeShapes Go.WideShapes Go.ChangeAt Go.RowKit

theorem progChecks_ctr (xs : List AV) (h : ArgsAre tyT.get reachBytes Tryz.f3.params.toList xs) : PCtr Tryz.prog 3 xs (bV true) := by
  rw [Tryz.params3] at h
  obtain ⟨_, _, _, _, xs, rfl, h1a, h1b, h1c, h⟩ := argsC h
  rw [args0 h]
  obtain ⟨x1, rfl, h1⟩ := arg_prog isTerm isGoal isClause reach47 h1a (sh_of h1a rfl) rfl rfl h1b h1c
  exact progChecks_ok x1 h1.1 h1.2

set_option maxRecDepth 100000 in
theorem progChecks_lifted (os : Os) (started : os.Started) (H : Type) (enc : TypeId × Value → H) :
    ReturnsInHanded {} Tryz.checked os 3 .any (Rows.progChecksSpec.pre6 enc Tryz.prog Tryz.f3 Rows.progChecksRow.domain false) (Rows.progChecksSpec.post enc Tryz.prog Tryz.f3 false true false false) := by
  refine returnsInHanded_of_change_sized (C := Tryz.checked) ownK started (by kernel_rfl) Tryz.func3
    (ChangeSpec.witness6 (enc := enc) (C := Tryz.checked) false ⟨#[], #[.agg #[.slice none 0 0]], []⟩ 8 (by kernel_rfl) (by kernel_rfl) (by kernel_rfl) (by kernel_rfl)) ?_
  intro W base args ds gs before hval hW _ hwt _
  exact law_calls tyOk lawTysOk laidK ⟨rfl, fun H ds h => by match ds, h with | [a0], _ => rfl⟩ rfl Tryz.underlying4 (by rw [Tryz.params3]; decide) (by rw [Tryz.params3]; decide) progChecks_ctr hval hW hwt

theorem progChecks_holds : Rows.ProgChecksSaid :=
  OpenClaim.holds_of_wide 3 Tryz.f3 rfl rfl rfl rfl rfl rfl rfl ⟨rfl, rfl, rfl, rfl, rfl⟩ rfl rfl rfl rfl rfl (by kernel_rfl) Tryz.func3 (by kernel_rfl)
    (of_decide_eq_true (by kernel_rfl)) (by unfold Func.isWrapper; rw [if_neg (by decide +kernel)]; exact ⟨rfl, rfl⟩)
    (fun os started H enc _ => progChecks_lifted os started H enc)
end Go.Proofs.YthdpfglpdgmphaaGreat
