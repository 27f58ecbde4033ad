/- WriteBack: for every term, the law returns true and leaves its arguments unchanged. Conditions: those of the card alone (its listed variables hold what the program's text lays). -/
import Derived.Test.YtchhahnajgfeaaaGreatDoorM4
import Derived.Test.YtchhahnajgfeaaaGreatDoorCards
import Derived.Test.YtchhahnajgfeaaaGreatDoorTie
import Derived.SevenTiedAt
namespace Go.Proofs.YtchhahnajgfeaaaGreatDoor
open Go PSL Go.Proofs Go.ChangeShapes Go.WideShapes Go.ChangeAt Go.RowKit

theorem writeBack_ctr (xs : List AV) (h : ArgsAre tyT.get reachBytes Tryz.f3.params.toList xs) : PCtr Tryz.prog 3 xs (bV true) := by
  rw [Tryz.params3] at h
  obtain ⟨_, _, _, _, xs, rfl, h1a, h1b, h1c, h⟩ := argsC h
  rw [args0 h]
  obtain ⟨x1, rfl, h1⟩ := arg_tm isTerm reach47 h1a h1b h1c
  exact writeBack_ok x1 h1.1 h1.2

theorem amb_at {W : World} (hL : laidMetH Tryz.prog Rows.writeBackRow.laid W) (hs : W.ShapedOpen Tryz.prog) : AmbOk Tryz.prog (fun _ => True) W := by
  rw [MakeChecks.laidMetH_plain _ _ _ (by kernel_rfl)] at hL
  exact amb_door (i := 1) (t := 154) (e := 142) (n := 20) (j := 0) (tj := 3) (zero := #[.int .i64 0]) hL hs (List.mem_of_getElem? (i := 2) rfl)
    (by kernel_rfl) (by kernel_rfl) (by kernel_rfl) (by kernel_rfl) (by kernel_rfl) (by kernel_rfl) (by kernel_rfl) (of_decide_eq_true (by kernel_rfl)) (by kernel_rfl) rfl (by kernel_rfl) (by kernel_rfl) (by kernel_rfl)

set_option maxRecDepth 100000 in
theorem writeBack_lifted (os : Os) (started : os.Started) (H : Type) (enc : TypeId × Value → H) :
    ReturnsInHanded {} Tryz.checked os 3 .any (fun w args => (Rows.writeBackSpec.pre enc Tryz.prog Tryz.f3 Rows.writeBackRow.domain false w args ∧ laidMetH Tryz.prog Rows.writeBackRow.laid w) ∧ sizedMet enc Tryz.prog Tryz.f3 (OpenSpec.ofChange Rows.writeBackSpec) false w args)
      (Rows.writeBackSpec.post enc Tryz.prog Tryz.f3 false true false false) := by
  refine returns_of_change_door (C := Tryz.checked) (X := fun w _ => laidMetH Tryz.prog Rows.writeBackRow.laid w) (fun _ _ _ hh h => h.of_heap hh) ownK started (by kernel_rfl) Tryz.func3
    (ChangeSpec.witness_shaped (enc := enc) (C := Tryz.checked) (os := os) (X := fun w _ => laidMetH Tryz.prog Rows.writeBackRow.laid w) false (World.laidAll Tryz.prog os Rows.writeBackRow.laid) #[.agg #[.int .i64 0, .string ⟨#[]⟩, .int .i64 0, .slice none 0 0]] 8 (World.laidAll_os _ _ _)
      (World.shaped_of_ZipB (by kernel_rfl) (by kernel_rfl)) (by kernel_rfl) (by kernel_rfl) (by kernel_rfl)
      (by rw [MakeChecks.laidMetH_plain _ _ _ (by kernel_rfl)]; exact laidMet_laidAll _ (by kernel_rfl) (by kernel_rfl))) ?_
  intro W base args ds gs before hval hW hwt hL hs
  exact law_calls tyOk lawTysOk laidK ⟨rfl, fun H ds h => by match ds, h with | [a0], _ => rfl⟩ rfl Tryz.underlying4 (by rw [Tryz.params3]; decide) (by rw [Tryz.params3]; decide) writeBack_ctr (amb_at hL hs) hval hW hwt

theorem writeBack_row : Rows.WriteBackSaid :=
  OpenClaim.holds_of_wide 3 Tryz.f3 rfl rfl rfl rfl rfl rfl rfl ⟨rfl, rfl, rfl, rfl, rfl⟩ rfl rfl rfl rfl rfl (by kernel_rfl) Tryz.func3 (by kernel_rfl)
    (of_decide_eq_true (by kernel_rfl)) (by unfold Func.isWrapper; rw [if_neg (by decide +kernel)]; exact ⟨rfl, rfl⟩)
    (fun os started H enc _ => writeBack_lifted os started H enc)

theorem writeBack_holds : Rows.WriteBackCardSaid :=
  Claim7.holds_tied_plain_at .later [] [.data, .data, .data, .data, .pinned] true (true, _) false writeBack_row (fun _ h => by cases h) (by kernel_rfl) (fun _ h => by cases h) writeBack_row_tie rfl ⟨rfl, rfl⟩ (by kernel_rfl) rfl
    (fun f fn hf hfn => by
      obtain rfl : f = 3 := Option.some.inj ((show Tryz.prog.funcNamed "finial/finiallaw10.WriteBack" = some 3 by kernel_rfl).symm.trans hf) |>.symm
      obtain rfl : fn = Tryz.f3 := (Option.some.inj (Tryz.func3.symm.trans hfn)).symm
      exact ⟨by kernel_rfl, fun j t ht => by
        rw [Tryz.params3] at ht
        have hm : t ∈ lawTys := by
          have h1 : (Tryz.f3.params.toList.all fun u => lawTys.contains u) = true := by kernel_rfl
          rw [Tryz.params3] at h1
          simpa using List.all_eq_true.1 h1 t (by simpa using Array.mem_of_getElem? ht)
        have hall : (lawTys.all fun u => !Tryz.prog.wantsStandIn u) = true := by kernel_rfl
        exact (show Tryz.prog.wantsStandIn t = false by simpa using List.all_eq_true.1 hall t hm)⟩)
    (by kernel_rfl)
end Go.Proofs.YtchhahnajgfeaaaGreatDoor
