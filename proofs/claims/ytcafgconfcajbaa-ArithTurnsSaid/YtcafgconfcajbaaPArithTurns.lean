import Derived.Test.YtcafgconfcajbaaSCommon
import Derived.Test.YtcafgconfcajbaaSLaw12
/- ArithTurns: for every int and every int, the law returns true and leaves its arguments unchanged. Conditions: none. -/
namespace Go.Proofs.Ytcafgconfcajbaa
open Go PSL Go.Proofs Go.ChangeShapes Go.WideShapes Go.ChangeAt Go.RowKit

theorem arithTurns_ctr (xs : List AV) (h : ArgsAre tyT.get reachBytes Try.f13.params.toList xs) : PCtr Try.prog 13 xs (bV true) := by
  rw [Try.params13] at h
  obtain ⟨_, _, _, _, xs, rfl, h1a, h1b, h1c, h⟩ := argsC h
  obtain ⟨_, _, _, _, xs, rfl, h2a, h2b, h2c, h⟩ := argsC h
  rw [args0 h]
  obtain ⟨x1, rfl, h1⟩ := arg_int h1a (sh_of h1a rfl) h1b h1c
  obtain ⟨x2, rfl, h2⟩ := arg_int h2a (sh_of h2a rfl) h2b h2c
  exact arithTurns_ok x1 x2 (by have := h1; simp [IntKind.min, IntKind.max, IntKind.signed, IntKind.bits] at this; exact this) (by have := h2; simp [IntKind.min, IntKind.max, IntKind.signed, IntKind.bits] at this; exact this)

set_option maxRecDepth 100000 in
theorem arithTurns_lifted (os : Os) (started : os.Started) (H : Type) (enc : TypeId × Value → H) :
    ReturnsInHanded {} Try.checked os 13 .any (Rows.arithTurnsSpec.pre6 enc Try.prog Try.f13 Rows.arithTurnsRow.domain false) (Rows.arithTurnsSpec.post enc Try.prog Try.f13 false true false false) := by
  refine returnsInHanded_of_change_sized (C := Try.checked) ownK started (by kernel_rfl) Try.func13
    (ChangeSpec.witness6 (enc := enc) (C := Try.checked) false ⟨#[], #[.int .i64 0, .int .i64 0], []⟩ 8 (by kernel_rfl) (by kernel_rfl) (by kernel_rfl) (by kernel_rfl)) ?_
  intro W base args ds gs before hval hW _ hwt _
  exact law_calls tyOk lawTysOk laidK ⟨rfl, fun H ds h => by match ds, h with | [a0, a1], _ => rfl⟩ rfl Try.underlying4 (by rw [Try.params13]; decide) (by rw [Try.params13]; decide) arithTurns_ctr hval hW hwt

theorem arithTurns_holds : Rows.ArithTurnsSaid :=
  OpenClaim.holds_of_wide 13 Try.f13 rfl rfl rfl rfl rfl rfl rfl ⟨rfl, rfl, rfl, rfl, rfl⟩ rfl rfl rfl rfl rfl (by kernel_rfl) Try.func13 (by kernel_rfl)
    (of_decide_eq_true (by kernel_rfl)) (by unfold Func.isWrapper; rw [if_neg (by decide +kernel)]; exact ⟨rfl, rfl⟩)
    (fun os started H enc _ => arithTurns_lifted os started H enc)
end Go.Proofs.Ytcafgconfcajbaa
