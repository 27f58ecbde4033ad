/- CodeFits: for every key and every term, the law returns true and leaves its arguments unchanged. Conditions: none. -/
import Derived.Test.YtcgkgofmldhokaaGreatM5
namespace Go.Proofs.YtcgkgofmldhokaaGreat
open Go PSL Go.Proofs Go.ChangeShapes Go.WideShapes Go.ChangeAt Go.RowKit

theorem codeFits_ctr (xs : List AV) (h : ArgsAre tyT.get reachBytes Tryz.f5.params.toList xs) : PCtr Tryz.prog 5 xs (bV true) := by
  rw [Tryz.params5] at h
  obtain ⟨_, _, _, _, xs, rfl, h1a, h1b, h1c, h⟩ := argsC h
  obtain ⟨_, _, _, _, xs, rfl, h2a, h2b, h2c, h⟩ := argsC h
  rw [args0 h]
  obtain ⟨x1, rfl⟩ := arg_key h1a (sh_of h1a rfl) rfl rfl rfl rfl h1b h1c
  obtain ⟨x2, rfl, h2⟩ := arg_tm isTerm reach47 h2a h2b h2c
  exact codeFits_ok x1 x2 h2.1

set_option maxRecDepth 100000 in
theorem codeFits_lifted (os : Os) (started : os.Started) (H : Type) (enc : TypeId × Value → H) :
    ReturnsInHanded {} Tryz.checked os 5 .any (Rows.codeFitsSpec.pre6 enc Tryz.prog Tryz.f5 Rows.codeFitsRow.domain false) (Rows.codeFitsSpec.post enc Tryz.prog Tryz.f5 false true false false) := by
  refine returnsInHanded_of_change_sized (C := Tryz.checked) ownK started (by kernel_rfl) Tryz.func5
    (ChangeSpec.witness6 (enc := enc) (C := Tryz.checked) false ⟨#[], #[.agg #[.int .i64 0, .int .i64 0, .string ⟨#[]⟩], .agg #[.int .i64 0, .string ⟨#[]⟩, .int .i64 0, .slice none 0 0]], []⟩ 8 (by kernel_rfl) (by kernel_rfl) (by kernel_rfl) (by kernel_rfl)) ?_
  intro W base args ds gs before hval hW _ hwt _
  exact law_calls tyOk lawTysOk laidK ⟨rfl, fun H ds h => by match ds, h with | [a0, a1], _ => rfl⟩ rfl Tryz.underlying4 (by rw [Tryz.params5]; decide) (by rw [Tryz.params5]; decide) codeFits_ctr hval hW hwt

theorem codeFits_holds : Rows.CodeFitsSaid :=
  OpenClaim.holds_of_wide 5 Tryz.f5 rfl rfl rfl rfl rfl rfl rfl ⟨rfl, rfl, rfl, rfl, rfl⟩ rfl rfl rfl rfl rfl (by kernel_rfl) Tryz.func5 (by kernel_rfl)
    (of_decide_eq_true (by kernel_rfl)) (by unfold Func.isWrapper; rw [if_neg (by decide +kernel)]; exact ⟨rfl, rfl⟩)
    (fun os started H enc _ => codeFits_lifted os started H enc)
end Go.Proofs.YtcgkgofmldhokaaGreat
