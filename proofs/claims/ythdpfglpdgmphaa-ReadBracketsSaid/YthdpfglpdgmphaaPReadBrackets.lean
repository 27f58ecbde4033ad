/- ReadBrackets: for every text, the law returns true and leaves its arguments unchanged. Conditions: none. -/
import Derived.Test.YthdpfglpdgmphaaM4
namespace Go.Proofs.Ythdpfglpdgmphaa
open Go PSL Go.Proofs Go.ChangeShapes Go.WideShapes Go.ChangeAt Go.RowKit

theorem readBrackets_ctr (xs : List AV) (h : ArgsAre tyT.get reachBytes Try.f4.params.toList xs) : PCtr Try.prog 4 xs (bV true) := by
  rw [Try.params4] at h
  obtain ⟨_, _, _, _, xs, rfl, h1a, h1b, h1c, h⟩ := argsC h
  rw [args0 h]
  obtain ⟨x1, rfl, h1⟩ := arg_str h1a (sh_of h1a rfl) h1b h1c
  exact readBrackets_ok x1

set_option maxRecDepth 100000 in
theorem readBrackets_lifted (os : Os) (started : os.Started) (H : Type) (enc : TypeId × Value → H) :
    ReturnsInHanded {} Try.checked os 4 .any (Rows.readBracketsSpec.pre6 enc Try.prog Try.f4 Rows.readBracketsRow.domain false) (Rows.readBracketsSpec.post enc Try.prog Try.f4 false true false false) := by
  refine returnsInHanded_of_change_sized (C := Try.checked) ownK started (by kernel_rfl) Try.func4
    (ChangeSpec.witness6 (enc := enc) (C := Try.checked) false ⟨#[], #[.string ⟨#[]⟩], []⟩ 8 (by kernel_rfl) (by kernel_rfl) (by kernel_rfl) (by kernel_rfl)) ?_
  intro W base args ds gs before hval hW _ hwt _
  exact law_calls tyOk lawTysOk laidK ⟨rfl, fun H ds h => by match ds, h with | [a0], _ => rfl⟩ rfl Try.underlying4 (by rw [Try.params4]; decide) (by rw [Try.params4]; decide) readBrackets_ctr hval hW hwt

theorem readBrackets_holds : Rows.ReadBracketsSaid :=
  OpenClaim.holds_of_wide 4 Try.f4 rfl rfl rfl rfl rfl rfl rfl ⟨rfl, rfl, rfl, rfl, rfl⟩ rfl rfl rfl rfl rfl (by kernel_rfl) Try.func4 (by kernel_rfl)
    (of_decide_eq_true (by kernel_rfl)) (by unfold Func.isWrapper; rw [if_neg (by decide +kernel)]; exact ⟨rfl, rfl⟩)
    (fun os started H enc _ => readBrackets_lifted os started H enc)
end Go.Proofs.Ythdpfglpdgmphaa
