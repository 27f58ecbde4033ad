/- UnifyStores: for every row of pairs of terms and every term, the law returns true and leaves its arguments unchanged. Conditions: none. -/
import Derived.Test.YtppghekipbnjhaaM4
namespace Go.Proofs.Ytppghekipbnjhaa
open Go PSL Go.Proofs Go.ChangeShapes Go.WideShapes Go.ChangeAt Go.RowKit

theorem unifyStores_ctr (xs : List AV) (h : ArgsAre tyT.get reachBytes Try.f12.params.toList xs) : PCtr Try.prog 12 xs (bV true) := by
  rw [Try.params12] at h
  obtain ⟨_, _, _, _, xs, rfl, h1a, h1b, h1c, h⟩ := argsC h
  obtain ⟨_, _, _, _, xs, rfl, h2a, h2b, h2c, h⟩ := argsC h
  rw [args0 h]
  obtain ⟨x1, rfl, h1⟩ := arg_backs isTerm isBack reach47 h1a (sh_of h1a rfl) h1b h1c
  obtain ⟨x2, rfl, h2⟩ := arg_tm isTerm reach47 h2a h2b h2c
  exact unifyStores_ok x1 x2 h1.1 h1.2 h2.1

set_option maxRecDepth 100000 in
theorem unifyStores_lifted (os : Os) (started : os.Started) (H : Type) (enc : TypeId × Value → H) :
    ReturnsInHanded {} Try.checked os 12 .any (Rows.unifyStoresSpec.pre6 enc Try.prog Try.f12 Rows.unifyStoresRow.domain false) (Rows.unifyStoresSpec.post enc Try.prog Try.f12 false true false false) := by
  refine returnsInHanded_of_change_sized (C := Try.checked) ownK started (by kernel_rfl) Try.func12
    (ChangeSpec.witness6 (enc := enc) (C := Try.checked) false ⟨#[], #[.slice none 0 0, .agg #[.int .i64 0, .string ⟨#[]⟩, .int .i64 0, .slice none 0 0]], []⟩ 8 (by kernel_rfl) (by kernel_rfl) (by kernel_rfl) (by kernel_rfl)) ?_
  intro W base args ds gs before hval hW _ hwt _
  exact law_calls tyOk lawTysOk laidK ⟨rfl, fun H ds h => by match ds, h with | [a0, a1], _ => rfl⟩ rfl Try.underlying4 (by rw [Try.params12]; decide) (by rw [Try.params12]; decide) unifyStores_ctr hval hW hwt

theorem unifyStores_holds : Rows.UnifyStoresSaid :=
  OpenClaim.holds_of_wide 12 Try.f12 rfl rfl rfl rfl rfl rfl rfl ⟨rfl, rfl, rfl, rfl, rfl⟩ rfl rfl rfl rfl rfl (by kernel_rfl) Try.func12 (by kernel_rfl)
    (of_decide_eq_true (by kernel_rfl)) (by unfold Func.isWrapper; rw [if_neg (by decide +kernel)]; exact ⟨rfl, rfl⟩)
    (fun os started H enc _ => unifyStores_lifted os started H enc)
end Go.Proofs.Ytppghekipbnjhaa
