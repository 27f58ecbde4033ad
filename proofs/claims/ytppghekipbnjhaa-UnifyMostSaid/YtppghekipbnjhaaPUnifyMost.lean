import Derived.Test.YtppghekipbnjhaaSCommon
import Derived.Test.YtppghekipbnjhaaSLaw4
/- UnifyMost: for every term and every term and every row of binds, the law returns true and leaves its arguments unchanged. Conditions: none. -/
namespace Go.Proofs.Ytppghekipbnjhaa
open Go PSL Go.Proofs Go.ChangeShapes Go.WideShapes Go.ChangeAt Go.RowKit

theorem unifyMost_ctr (xs : List AV) (h : ArgsAre tyT.get reachBytes Try.f11.params.toList xs) : PCtr Try.prog 11 xs (bV true) := by
  rw [Try.params11] at h
  obtain ⟨_, _, _, _, xs, rfl, h1a, h1b, h1c, h⟩ := argsC h
  obtain ⟨_, _, _, _, xs, rfl, h2a, h2b, h2c, h⟩ := argsC h
  obtain ⟨_, _, _, _, xs, rfl, h3a, h3b, h3c, h⟩ := argsC h
  rw [args0 h]
  obtain ⟨x1, rfl, h1⟩ := arg_tm isTerm reach47 h1a h1b h1c
  obtain ⟨x2, rfl, h2⟩ := arg_tm isTerm reach47 h2a h2b h2c
  obtain ⟨x3, rfl, h3⟩ := arg_binds isTerm isBind reach47 h3a (sh_of h3a rfl) h3b h3c
  exact unifyMost_ok x1 x2 x3 h1.1 h2.1 (fun b hb => (h3.1 b hb).2.1) h3.2

set_option maxRecDepth 100000 in
theorem unifyMost_lifted (os : Os) (started : os.Started) (H : Type) (enc : TypeId × Value → H) :
    ReturnsInHanded {} Try.checked os 11 .any (Rows.unifyMostSpec.pre6 enc Try.prog Try.f11 Rows.unifyMostRow.domain false) (Rows.unifyMostSpec.post enc Try.prog Try.f11 false true false false) := by
  refine returnsInHanded_of_change_sized (C := Try.checked) ownK started (by kernel_rfl) Try.func11
    (ChangeSpec.witness6 (enc := enc) (C := Try.checked) false ⟨#[], #[.agg #[.int .i64 0, .string ⟨#[]⟩, .int .i64 0, .slice none 0 0], .agg #[.int .i64 0, .string ⟨#[]⟩, .int .i64 0, .slice none 0 0], .slice none 0 0], []⟩ 8 (by kernel_rfl) (by kernel_rfl) (by kernel_rfl) (by kernel_rfl)) ?_
  intro W base args ds gs before hval hW _ hwt _
  exact law_calls tyOk lawTysOk laidK ⟨rfl, fun H ds h => by match ds, h with | [a0, a1, a2], _ => rfl⟩ rfl Try.underlying4 (by rw [Try.params11]; decide) (by rw [Try.params11]; decide) unifyMost_ctr hval hW hwt

theorem unifyMost_holds : Rows.UnifyMostSaid :=
  OpenClaim.holds_of_wide 11 Try.f11 rfl rfl rfl rfl rfl rfl rfl ⟨rfl, rfl, rfl, rfl, rfl⟩ rfl rfl rfl rfl rfl (by kernel_rfl) Try.func11 (by kernel_rfl)
    (of_decide_eq_true (by kernel_rfl)) (by unfold Func.isWrapper; rw [if_neg (by decide +kernel)]; exact ⟨rfl, rfl⟩)
    (fun os started H enc _ => unifyMost_lifted os started H enc)
end Go.Proofs.Ytppghekipbnjhaa
