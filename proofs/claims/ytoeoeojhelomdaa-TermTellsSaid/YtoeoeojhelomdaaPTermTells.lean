import Derived.Test.YtoeoeojhelomdaaSCommon
import Derived.Test.YtoeoeojhelomdaaSLaw1
/- TermTells: for every two terms that lie in memory, the law returns true and leaves its arguments unchanged. Conditions: none. -/
namespace Go.Proofs.Ytoeoeojhelomdaa
open Go PSL Go.Proofs Go.ChangeShapes Go.WideShapes Go.ChangeAt Go.RowKit

theorem termTells_ctr (xs : List AV) (h : ArgsAre tyT.get reachBytes Try.f9.params.toList xs) : PCtr Try.prog 9 xs (bV true) := by
  rw [Try.params9] at h
  obtain ⟨n, τ, row, a, xs, rfl, h1, h2, h3, h⟩ := argsC h
  obtain ⟨n', τ', row', b, xs, rfl, g1, g2, g3, h⟩ := argsC h
  rw [args0 h]
  obtain ⟨x, rfl, hx, _⟩ := arg_tm isTerm reach47 h1 h2 h3
  obtain ⟨y, rfl, hy, _⟩ := arg_tm isTerm reach47 g1 g2 g3
  exact termTells_ok x y hx hy

set_option maxRecDepth 100000 in
theorem termTells_lifted (os : Os) (started : os.Started) (H : Type) (enc : TypeId × Value → H) :
    ReturnsInHanded {} Try.checked os 9 .any (Rows.termTellsSpec.pre6 enc Try.prog Try.f9 Rows.termTellsRow.domain false) (Rows.termTellsSpec.post enc Try.prog Try.f9 false true false false) := by
  refine returnsInHanded_of_change_sized (C := Try.checked) ownK started (by kernel_rfl) Try.func9
    (ChangeSpec.witness6 (enc := enc) (C := Try.checked) false ⟨#[], #[.agg #[.int .i64 0, .string ⟨#[]⟩, .int .i64 0, .slice none 0 0], .agg #[.int .i64 0, .string ⟨#[]⟩, .int .i64 0, .slice none 0 0]], []⟩ 8 (by kernel_rfl) (by kernel_rfl) (by kernel_rfl) (by kernel_rfl)) ?_
  intro W base args ds gs before hval hW _ hwt _
  exact law_calls tyOk lawTysOk laidK ⟨rfl, fun H ds h => by match ds, h with | [a, b], _ => rfl⟩ rfl Try.underlying4 (by rw [Try.params9]; decide) (by rw [Try.params9]; decide) termTells_ctr hval hW hwt

theorem termTells_holds : Rows.TermTellsSaid :=
  OpenClaim.holds_of_wide 9 Try.f9 rfl rfl rfl rfl rfl rfl rfl ⟨rfl, rfl, rfl, rfl, rfl⟩ rfl rfl rfl rfl rfl (by kernel_rfl) Try.func9 (by kernel_rfl)
    (of_decide_eq_true (by kernel_rfl)) (by unfold Func.isWrapper; rw [if_neg (by decide +kernel)]; exact ⟨rfl, rfl⟩)
    (fun os started H enc _ => termTells_lifted os started H enc)
end Go.Proofs.Ytoeoeojhelomdaa
