/- ProgLess: for every program, the law returns true and leaves its arguments unchanged. Conditions: none. -/
import Derived.Test.YthdpfglpdgmphaaM5
namespace Go.Proofs.Ythdpfglpdgmphaa
open Go PSL Go.Proofs Go.ChangeShapes Go.WideShapes Go.ChangeAt Go.RowKit

theorem progLess_ctr (xs : List AV) (h : ArgsAre tyT.get reachBytes Try.f7.params.toList xs) : PCtr Try.prog 7 xs (bV true) := by
  rw [Try.params7] at h
  obtain ⟨_, _, _, _, xs, rfl, h1a, h1b, h1c, h⟩ := argsC h
  rw [args0 h]
  obtain ⟨x1, rfl, h1⟩ := arg_prog isTerm isGoal isClause reach47 h1a (sh_of h1a rfl) rfl rfl h1b h1c
  exact progLess_ok x1 h1.1 h1.2

set_option maxRecDepth 100000 in
theorem progLess_lifted (os : Os) (started : os.Started) (H : Type) (enc : TypeId × Value → H) :
    ReturnsInHanded {} Try.checked os 7 .any (Rows.progLessSpec.pre6 enc Try.prog Try.f7 Rows.progLessRow.domain false) (Rows.progLessSpec.post enc Try.prog Try.f7 false true false false) := by
  refine returnsInHanded_of_change_sized (C := Try.checked) ownK started (by kernel_rfl) Try.func7
    (ChangeSpec.witness6 (enc := enc) (C := Try.checked) false ⟨#[], #[.agg #[.slice none 0 0]], []⟩ 8 (by kernel_rfl) (by kernel_rfl) (by kernel_rfl) (by kernel_rfl)) ?_
  intro W base args ds gs before hval hW _ hwt _
  exact law_calls tyOk lawTysOk laidK ⟨rfl, fun H ds h => by match ds, h with | [a0], _ => rfl⟩ rfl Try.underlying4 (by rw [Try.params7]; decide) (by rw [Try.params7]; decide) progLess_ctr hval hW hwt

theorem progLess_holds : Rows.ProgLessSaid :=
  OpenClaim.holds_of_wide 7 Try.f7 rfl rfl rfl rfl rfl rfl rfl ⟨rfl, rfl, rfl, rfl, rfl⟩ rfl rfl rfl rfl rfl (by kernel_rfl) Try.func7 (by kernel_rfl)
    (of_decide_eq_true (by kernel_rfl)) (by unfold Func.isWrapper; rw [if_neg (by decide +kernel)]; exact ⟨rfl, rfl⟩)
    (fun os started H enc _ => progLess_lifted os started H enc)
end Go.Proofs.Ythdpfglpdgmphaa
