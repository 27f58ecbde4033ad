/- WriteGoals: for every row of goals and every term, the law returns true and leaves its arguments unchanged. Conditions: those of the card alone (its listed variables hold what the program's text lays). -/
import Derived.Test.YtchhahnajgfeaaaDoorM2
import Derived.Test.YtchhahnajgfeaaaDoorCards
import Derived.Test.YtchhahnajgfeaaaDoorTie
import Derived.SevenTiedAt
namespace Go.Proofs.YtchhahnajgfeaaaDoor
open Go PSL Go.Proofs Go.ChangeShapes Go.WideShapes Go.ChangeAt Go.RowKit

theorem writeGoals_ctr (xs : List AV) (h : ArgsAre tyT.get reachBytes Tryd.f4.params.toList xs) : PCtr Tryd.prog 4 xs (bV true) := by
  rw [Tryd.params4] at h
  obtain ⟨_, _, _, _, xs, rfl, h1a, h1b, h1c, h⟩ := argsC h
  obtain ⟨_, _, _, _, xs, rfl, h2a, h2b, h2c, h⟩ := argsC h
  rw [args0 h]
  obtain ⟨x1, rfl, h1⟩ := arg_gls isTerm isGoal reach47 h1a (sh_of h1a rfl) h1b h1c
  obtain ⟨x2, rfl, h2⟩ := arg_tm isTerm reach47 h2a h2b h2c
  exact writeGoals_ok x1 x2 h1.1 h1.2 h2.1 h2.2

theorem amb_at {W : World} (hL : laidMetH Tryd.prog Rows.writeGoalsRow.laid W) (hs : W.ShapedOpen Tryd.prog) : AmbOk Tryd.prog (fun _ => True) W := by
  rw [MakeChecks.laidMetH_plain _ _ _ (by kernel_rfl)] at hL
  exact amb_door (i := 1) (t := 91) (e := 81) (n := 20) (j := 0) (tj := 3) (zero := #[.int .i64 0]) hL hs (List.mem_of_getElem? (i := 2) rfl)
    (by kernel_rfl) (by kernel_rfl) (by kernel_rfl) (by kernel_rfl) (by kernel_rfl) (by kernel_rfl) (by kernel_rfl) (of_decide_eq_true (by kernel_rfl)) (by kernel_rfl) rfl (by kernel_rfl) (by kernel_rfl) (by kernel_rfl)

set_option maxRecDepth 100000 in
theorem writeGoals_lifted (os : Os) (started : os.Started) (H : Type) (enc : TypeId × Value → H) :
    ReturnsInHanded {} Tryd.checked os 4 .any (fun w args => (Rows.writeGoalsSpec.pre enc Tryd.prog Tryd.f4 Rows.writeGoalsRow.domain false w args ∧ laidMetH Tryd.prog Rows.writeGoalsRow.laid w) ∧ sizedMet enc Tryd.prog Tryd.f4 (OpenSpec.ofChange Rows.writeGoalsSpec) false w args)
      (Rows.writeGoalsSpec.post enc Tryd.prog Tryd.f4 false true false false) := by
  refine returns_of_change_door (C := Tryd.checked) (X := fun w _ => laidMetH Tryd.prog Rows.writeGoalsRow.laid w) (fun _ _ _ hh h => h.of_heap hh) ownK started (by kernel_rfl) Tryd.func4
    (ChangeSpec.witness_shaped (enc := enc) (C := Tryd.checked) (os := os) (X := fun w _ => laidMetH Tryd.prog Rows.writeGoalsRow.laid w) false (World.laidAll Tryd.prog os Rows.writeGoalsRow.laid) #[.slice none 0 0, .agg #[.int .i64 0, .string ⟨#[]⟩, .int .i64 0, .slice none 0 0]] 8 (World.laidAll_os _ _ _)
      (World.shaped_of_ZipB (by kernel_rfl) (by kernel_rfl)) (by kernel_rfl) (by kernel_rfl) (by kernel_rfl)
      (by rw [MakeChecks.laidMetH_plain _ _ _ (by kernel_rfl)]; exact laidMet_laidAll _ (by kernel_rfl) (by kernel_rfl))) ?_
  intro W base args ds gs before hval hW hwt hL hs
  exact law_calls tyOk lawTysOk laidK ⟨rfl, fun H ds h => by match ds, h with | [a0, a1], _ => rfl⟩ rfl Tryd.underlying4 (by rw [Tryd.params4]; decide) (by rw [Tryd.params4]; decide) writeGoals_ctr (amb_at hL hs) hval hW hwt

theorem writeGoals_row : Rows.WriteGoalsSaid :=
  OpenClaim.holds_of_wide 4 Tryd.f4 rfl rfl rfl rfl rfl rfl rfl ⟨rfl, rfl, rfl, rfl, rfl⟩ rfl rfl rfl rfl rfl (by kernel_rfl) Tryd.func4 (by kernel_rfl)
    (of_decide_eq_true (by kernel_rfl)) (by unfold Func.isWrapper; rw [if_neg (by decide +kernel)]; exact ⟨rfl, rfl⟩)
    (fun os started H enc _ => writeGoals_lifted os started H enc)

theorem writeGoals_holds : Rows.WriteGoalsCardSaid :=
  Claim7.holds_tied_plain_at .later [] [.data, .data, .data, .data, .pinned] true (true, _) false writeGoals_row (fun _ h => by cases h) (by kernel_rfl) (fun _ h => by cases h) writeGoals_row_tie rfl ⟨rfl, rfl⟩ (by kernel_rfl) rfl
    (fun f fn hf hfn => by
      obtain rfl : f = 4 := Option.some.inj ((show Tryd.prog.funcNamed "finial/finiallaw10.WriteGoals" = some 4 by kernel_rfl).symm.trans hf) |>.symm
      obtain rfl : fn = Tryd.f4 := (Option.some.inj (Tryd.func4.symm.trans hfn)).symm
      exact ⟨by kernel_rfl, fun j t ht => by
        rw [Tryd.params4] at ht
        have hm : t ∈ lawTys := by
          have h1 : (Tryd.f4.params.toList.all fun u => lawTys.contains u) = true := by kernel_rfl
          rw [Tryd.params4] at h1
          simpa using List.all_eq_true.1 h1 t (by simpa using Array.mem_of_getElem? ht)
        have hall : (lawTys.all fun u => !Tryd.prog.wantsStandIn u) = true := by kernel_rfl
        exact (show Tryd.prog.wantsStandIn t = false by simpa using List.all_eq_true.1 hall t hm)⟩)
    (by kernel_rfl)
end Go.Proofs.YtchhahnajgfeaaaDoor
