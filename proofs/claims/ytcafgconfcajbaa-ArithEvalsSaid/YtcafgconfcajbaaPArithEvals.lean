import Derived.Test.YtcafgconfcajbaaSCommon
import Derived.Test.YtcafgconfcajbaaSLaw12
/- ArithEvals: for every term, the law returns true and leaves its arguments unchanged. Conditions: none. -/
namespace Go.Proofs.Ytcafgconfcajbaa
open Go PSL Go.Proofs Go.ChangeShapes Go.WideShapes Go.ChangeAt Go.RowKit

theorem arithEvals_ctr (xs : List AV) (h : ArgsAre tyT.get reachBytes Try.f10.params.toList xs) : PCtr Try.prog 10 xs (bV true) := by
  rw [Try.params10] at h
  obtain ⟨_, _, _, _, xs, rfl, h1a, h1b, h1c, h⟩ := argsC h
  rw [args0 h]
  obtain ⟨x1, rfl, h1⟩ := arg_tm isTerm reach47 h1a h1b h1c
  exact arithEvals_ok x1 h1.1 h1.2

set_option maxRecDepth 100000 in
theorem arithEvals_lifted (os : Os) (started : os.Started) (H : Type) (enc : TypeId × Value → H) :
    ReturnsInHanded {} Try.checked os 10 .any (Rows.arithEvalsSpec.pre6 enc Try.prog Try.f10 Rows.arithEvalsRow.domain false) (Rows.arithEvalsSpec.post enc Try.prog Try.f10 false true false false) := by
  refine returnsInHanded_of_change_sized (C := Try.checked) ownK started (by kernel_rfl) Try.func10
    (ChangeSpec.witness6 (enc := enc) (C := Try.checked) false ⟨#[], #[.agg #[.int .i64 0, .string ⟨#[]⟩, .int .i64 0, .slice none 0 0]], []⟩ 8 (by kernel_rfl) (by kernel_rfl) (by kernel_rfl) (by kernel_rfl)) ?_
  intro W base args ds gs before hval hW _ hwt _
  exact law_calls tyOk lawTysOk laidK ⟨rfl, fun H ds h => by match ds, h with | [a0], _ => rfl⟩ rfl Try.underlying4 (by rw [Try.params10]; decide) (by rw [Try.params10]; decide) arithEvals_ctr hval hW hwt

theorem arithEvals_holds : Rows.ArithEvalsSaid :=
  OpenClaim.holds_of_wide 10 Try.f10 rfl rfl rfl rfl rfl rfl rfl ⟨rfl, rfl, rfl, rfl, rfl⟩ rfl rfl rfl rfl rfl (by kernel_rfl) Try.func10 (by kernel_rfl)
    (of_decide_eq_true (by kernel_rfl)) (by unfold Func.isWrapper; rw [if_neg (by decide +kernel)]; exact ⟨rfl, rfl⟩)
    (fun os started H enc _ => arithEvals_lifted os started H enc)
end Go.Proofs.Ytcafgconfcajbaa
