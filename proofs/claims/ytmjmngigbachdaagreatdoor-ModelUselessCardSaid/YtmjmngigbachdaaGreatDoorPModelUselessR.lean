/- ModelUseless: for every program and every clause and every uint8 and every uint8, the law returns true and leaves its arguments unchanged. Conditions: those of the card alone (its listed variables hold what the program's text lays). -/
import Derived.Test.YtmjmngigbachdaaGreatDoorM6
import Derived.Test.YtmjmngigbachdaaGreatDoorCards
import Derived.Test.YtmjmngigbachdaaGreatDoorTie
import Derived.SevenTiedAt
import Derived.Test.YtmjmngigbachdaaGreatDoorPModelUselessI
namespace Go.Proofs.YtmjmngigbachdaaGreatDoor
open Go ax Go.Proofs Go.ChangeShapes Go.WideShapes Go.ChangeAt Go.RowKit
theorem za (xs : List AV) (h : lT tyT.get reachBytes Tryz.f3.params.toList xs) : br Tryz.prog 3 xs (bV true) := by rw [Tryz.params3]at h;obtain ⟨_, _, _, _, xs, rfl, h1a, h1b, h1c, h⟩ := R1 h;obtain ⟨_, _, _, _, xs, rfl, h2a, h2b, h2c, h⟩ := R1 h;obtain ⟨_, _, _, _, xs, rfl, h3a, h3b, h3c, h⟩ := R1 h;obtain ⟨_, _, _, _, xs, rfl, h4a, h4b, h4c, h⟩ := R1 h;rw [ani h];obtain ⟨x1, rfl, h1⟩ := VX isTerm YV Ls Sb h1a (YJ h1a rfl) rfl rfl rfl h1b h1c;obtain ⟨x2, rfl, h2⟩ := aiM isTerm YV Ls Sb h2a h2b h2c;obtain ⟨x3, rfl, h3⟩ := RZ h3a (YJ h3a rfl) h3b h3c;obtain ⟨x4, rfl, h4⟩ := RZ h4a (YJ h4a rfl) h4b h4c;exact y9 x1 x2 h1.1 h2 (by have := h1.2.2; simp [reachBytes]at this; omega) x3 x4 (by have := h3; simp [IntKind.min, IntKind.max, IntKind.signed, IntKind.bits]at this; omega) (by have := h4; simp [IntKind.min, IntKind.max, IntKind.signed, IntKind.bits]at this; omega)
theorem akd {W : World} (hL : laidMetH Tryz.prog Rows.modelUselessRow.laid W) (hs : W.ShapedOpen Tryz.prog) : gI Tryz.prog (λ_=> True) W := by
  rw [MakeChecks.laidMetH_plain _ _ _ (by kernel_rfl)]at hL
  exact YY (i := 0) (t := 298) (e := 290) (n := 20) (j := 1) (tj := 3) (zero := #[.int .i64 0]) hL hs (List.mem_of_getElem? (i := 2) rfl)
    (by kernel_rfl) (by kernel_rfl) (by kernel_rfl) (by kernel_rfl) (by kernel_rfl) (by kernel_rfl) (by kernel_rfl) (of_decide_eq_true (by kernel_rfl)) (by kernel_rfl) rfl (by kernel_rfl) (by kernel_rfl) (by kernel_rfl)
set_option maxRecDepth 100000 in
theorem uG (os : Os) (started : os.Started) (H : Type) (enc : TypeId×Value -> H) :
    ReturnsInHanded {} Tryz.checked os 3 .any (λw args=> (Rows.modelUselessSpec.pre enc Tryz.prog Tryz.f3 Rows.modelUselessRow.domain false w args /\ laidMetH Tryz.prog Rows.modelUselessRow.laid w) /\ sizedMet enc Tryz.prog Tryz.f3 (OpenSpec.ofChange Rows.modelUselessSpec) false w args)
      (Rows.modelUselessSpec.post enc Tryz.prog Tryz.f3 false true false false) := by
  refine q0 (C := Tryz.checked) (X := λw _=> laidMetH Tryz.prog Rows.modelUselessRow.laid w) (λ_ _ _ hh h=> h.of_heap hh) aqe started (by kernel_rfl) Tryz.func3
    (ChangeSpec.witness_shaped (enc := enc) (C := Tryz.checked) (os := os) (X := λw _=> laidMetH Tryz.prog Rows.modelUselessRow.laid w) false (World.laidAll Tryz.prog os Rows.modelUselessRow.laid) #[.agg #[.slice none 0 0], .agg #[.int .i64 0, .string ⟨#[]⟩, .int .i64 0, .slice none 0 0, .slice none 0 0, .int .i64 0], .int .u8 0, .int .u8 0] 8 (World.laidAll_os _ _ _)
      (World.shaped_of_ZipB (by kernel_rfl) (by kernel_rfl)) (by kernel_rfl) (by kernel_rfl) (by kernel_rfl)
      (by rw [MakeChecks.laidMetH_plain _ _ _ (by kernel_rfl)]; exact laidMet_laidAll _ (by kernel_rfl) (by kernel_rfl))) ?_
  intro W base args ds gs before aiO hW Yy hL hs;exact Ud gK YW anl ⟨rfl, λH ds h=> by match ds, h with| [a0, a1, a2, a3], _=> rfl⟩ rfl Tryz.underlying4 (by rw [Tryz.params3]; decide) (by rw [Tryz.params3]; decide) za (akd hL hs) aiO hW Yy
theorem uH : joinedFacts Tryz.prog 3 Tryz.f3 Rows.modelUselessSpec Rows.modelUselessRow = true := by simp only [joinedFacts, Au, Av, Aw, Ax, Bool.and_true, Bool.true_and];kernel_rfl
theorem zb : Rows.ModelUselessSaid :=
  OpenClaim.holds_of_wide 3 Tryz.f3 rfl rfl rfl rfl rfl rfl rfl ⟨rfl, rfl, rfl, rfl, rfl⟩ rfl rfl rfl rfl rfl (by kernel_rfl) Tryz.func3 uH
    (of_decide_eq_true (by kernel_rfl)) (by unfold Func.isWrapper; rw [if_neg (by decide +kernel)]; exact ⟨rfl, rfl⟩)
    (λos started H enc _=> uG os started H enc)
end Go.Proofs.YtmjmngigbachdaaGreatDoor
