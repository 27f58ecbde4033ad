/- ModelMore: for every program and every clause and every uint8 and every uint8, the law returns true and leaves its arguments unchanged. Conditions: those of the card alone (its listed variables hold what the program's text lays). -/
import Derived.Test.YtaagocopollacaaGreatDoorM6
import Derived.Test.YtaagocopollacaaGreatDoorCards
import Derived.Test.YtaagocopollacaaGreatDoorTie
import Derived.SevenTiedAt
import Derived.Test.YtaagocopollacaaGreatDoorPModelMoreI
namespace Go.Proofs.YtaagocopollacaaGreatDoor
open Go aw Go.Proofs Go.ChangeShapes Go.WideShapes Go.ChangeAt Go.RowKit

theorem Ed (xs : List AV) (h : lF tyT.get reachBytes Tryz.f3.params.toList xs) : bD Tryz.prog 3 xs (bV true) := by
  rw [Tryz.params3] at h;obtain ⟨_, _, _, _, xs, rfl, h1a, h1b, h1c, h⟩ := QP h;obtain ⟨_, _, _, _, xs, rfl, h2a, h2b, h2c, h⟩ := QP h;obtain ⟨_, _, _, _, xs, rfl, h3a, h3b, h3c, h⟩ := QP h;obtain ⟨_, _, _, _, xs, rfl, h4a, h4b, h4c, h⟩ := QP h;rw [alZ h];obtain ⟨x1, rfl, h1⟩ := U7 isTerm XP Km QY h1a (XC h1a rfl) rfl rfl rfl h1b h1c;obtain ⟨x2, rfl, h2⟩ := ahC isTerm XP Km QY h2a h2b h2c;obtain ⟨x3, rfl, h3⟩ := QO h3a (XC h3a rfl) h3b h3c;obtain ⟨x4, rfl, h4⟩ := QO h4a (XC h4a rfl) h4b h4c;exact Ec x1 x2 h1.1 h2 (by have := h1.2.2; simp [reachBytes] at this; omega) x3 x4 (by have := h3; simp [IntKind.min, IntKind.max, IntKind.signed, IntKind.bits] at this; omega) (by have := h4; simp [IntKind.min, IntKind.max, IntKind.signed, IntKind.bits] at this; omega)

theorem ai2 {W : World} (hL : laidMetH Tryz.prog Rows.modelMoreRow.laid W) (hs : W.ShapedOpen Tryz.prog) : gx Tryz.prog (fun _ => True) W := by
  rw [MakeChecks.laidMetH_plain _ _ _ (by kernel_rfl)] at hL
  exact XT (i := 0) (t := 293) (e := 285) (n := 20) (j := 1) (tj := 3) (zero := #[.int .i64 0]) hL hs (List.mem_of_getElem? (i := 2) rfl)
    (by kernel_rfl) (by kernel_rfl) (by kernel_rfl) (by kernel_rfl) (by kernel_rfl) (by kernel_rfl) (by kernel_rfl) (of_decide_eq_true (by kernel_rfl)) (by kernel_rfl) rfl (by kernel_rfl) (by kernel_rfl) (by kernel_rfl)

set_option maxRecDepth 100000 in
theorem yF (os : Os) (started : os.Started) (H : Type) (enc : TypeId × Value → H) :
    ReturnsInHanded {} Tryz.checked os 3 .any (fun w args => (Rows.modelMoreSpec.pre enc Tryz.prog Tryz.f3 Rows.modelMoreRow.domain false w args ∧ laidMetH Tryz.prog Rows.modelMoreRow.laid w) ∧ sizedMet enc Tryz.prog Tryz.f3 (OpenSpec.ofChange Rows.modelMoreSpec) false w args)
      (Rows.modelMoreSpec.post enc Tryz.prog Tryz.f3 false true false false) := by
  refine qy (C := Tryz.checked) (X := fun w _ => laidMetH Tryz.prog Rows.modelMoreRow.laid w) (fun _ _ _ hh h => h.of_heap hh) aoV started (by kernel_rfl) Tryz.func3
    (ChangeSpec.witness_shaped (enc := enc) (C := Tryz.checked) (os := os) (X := fun w _ => laidMetH Tryz.prog Rows.modelMoreRow.laid w) false (World.laidAll Tryz.prog os Rows.modelMoreRow.laid) #[.agg #[.slice none 0 0], .agg #[.int .i64 0, .string ⟨#[]⟩, .int .i64 0, .slice none 0 0, .slice none 0 0, .int .i64 0], .int .u8 0, .int .u8 0] 8 (World.laidAll_os _ _ _)
      (World.shaped_of_ZipB (by kernel_rfl) (by kernel_rfl)) (by kernel_rfl) (by kernel_rfl) (by kernel_rfl)
      (by rw [MakeChecks.laidMetH_plain _ _ _ (by kernel_rfl)]; exact laidMet_laidAll _ (by kernel_rfl) (by kernel_rfl))) ?_
  intro W base args ds gs before ahE hW Xr hL hs;exact S4 gK XQ al2 ⟨rfl, fun H ds h => by match ds, h with | [a0, a1, a2, a3], _ => rfl⟩ rfl Tryz.underlying4 (by rw [Tryz.params3]; decide) (by rw [Tryz.params3]; decide) Ed (ai2 hL hs) ahE hW Xr

theorem yG : joinedFacts Tryz.prog 3 Tryz.f3 Rows.modelMoreSpec Rows.modelMoreRow = true := by
  simp only [joinedFacts, H4, H5, H6, H7, Bool.and_true, Bool.true_and]
  kernel_rfl

theorem Ee : Rows.ModelMoreSaid :=
  OpenClaim.holds_of_wide 3 Tryz.f3 rfl rfl rfl rfl rfl rfl rfl ⟨rfl, rfl, rfl, rfl, rfl⟩ rfl rfl rfl rfl rfl (by kernel_rfl) Tryz.func3 yG
    (of_decide_eq_true (by kernel_rfl)) (by unfold Func.isWrapper; rw [if_neg (by decide +kernel)]; exact ⟨rfl, rfl⟩)
    (fun os started H enc _ => yF os started H enc)
end Go.Proofs.YtaagocopollacaaGreatDoor
