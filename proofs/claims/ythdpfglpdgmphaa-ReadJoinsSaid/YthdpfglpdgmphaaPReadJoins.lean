/- ReadJoins: for every text and every text, the law returns true and leaves its arguments unchanged. Conditions: none. -/
import Derived.Test.YthdpfglpdgmphaaM4
namespace Go.Proofs.Ythdpfglpdgmphaa
open Go PSL Go.Proofs Go.ChangeShapes Go.WideShapes Go.ChangeAt Go.RowKit

theorem readJoins_ctr (xs : List AV) (h : ArgsAre tyT.get reachBytes Try.f5.params.toList xs) : PCtr Try.prog 5 xs (bV true) := by
  rw [Try.params5] at h
  obtain ⟨_, _, _, _, xs, rfl, h1a, h1b, h1c, h⟩ := argsC h
  obtain ⟨_, _, _, _, xs, rfl, h2a, h2b, h2c, h⟩ := argsC h
  rw [args0 h]
  obtain ⟨x1, rfl, h1⟩ := arg_str h1a (sh_of h1a rfl) h1b h1c
  obtain ⟨x2, rfl, h2⟩ := arg_str h2a (sh_of h2a rfl) h2b h2c
  exact readJoins_ok x1 x2

set_option maxRecDepth 100000 in
theorem readJoins_lifted (os : Os) (started : os.Started) (H : Type) (enc : TypeId × Value → H) :
    ReturnsInHanded {} Try.checked os 5 .any (Rows.readJoinsSpec.pre6 enc Try.prog Try.f5 Rows.readJoinsRow.domain false) (Rows.readJoinsSpec.post enc Try.prog Try.f5 false true false false) := by
  refine returnsInHanded_of_change_sized (C := Try.checked) ownK started (by kernel_rfl) Try.func5
    (ChangeSpec.witness6 (enc := enc) (C := Try.checked) false ⟨#[], #[.string ⟨#[]⟩, .string ⟨#[]⟩], []⟩ 8 (by kernel_rfl) (by kernel_rfl) (by kernel_rfl) (by kernel_rfl)) ?_
  intro W base args ds gs before hval hW _ hwt _
  exact law_calls tyOk lawTysOk laidK ⟨rfl, fun H ds h => by match ds, h with | [a0, a1], _ => rfl⟩ rfl Try.underlying4 (by rw [Try.params5]; decide) (by rw [Try.params5]; decide) readJoins_ctr hval hW hwt

theorem readJoins_holds : Rows.ReadJoinsSaid :=
  OpenClaim.holds_of_wide 5 Try.f5 rfl rfl rfl rfl rfl rfl rfl ⟨rfl, rfl, rfl, rfl, rfl⟩ rfl rfl rfl rfl rfl (by kernel_rfl) Try.func5 (by kernel_rfl)
    (of_decide_eq_true (by kernel_rfl)) (by unfold Func.isWrapper; rw [if_neg (by decide +kernel)]; exact ⟨rfl, rfl⟩)
    (fun os started H enc _ => readJoins_lifted os started H enc)
end Go.Proofs.Ythdpfglpdgmphaa
