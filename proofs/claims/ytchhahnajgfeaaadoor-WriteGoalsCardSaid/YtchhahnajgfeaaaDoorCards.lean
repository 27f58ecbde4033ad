/-
  DERIVED. GIVEN WITH THE SEED: THE CARDS: each row of YtchhahnajgfeaaaDoorRows.lean that lists a variable, with what it lists TIED to the program's text (the seventh form; the later family's looks); each row that meets fmt, with fmt's text TOLD by the authors' own Lean function (tested against real Go, not proved from fmt's source: count such statements apart). THE CARD IS WHAT COUNTS. Prove the row's statement (the work); the ties are given (YtchhahnajgfeaaaDoorTie.lean); close each card by the builder's one call (the guide's Derived/Test/ToyasCard.lean, 'card_holds'). Laid BY PROGRAM, IN A SANDBOX (cutbox-door.mjs). By AI agents, Wed Nov 11 2026. No macro, syntax, notation, axiom, sorry.
-/
import Derived.Test.YtchhahnajgfeaaaDoorRows
import GoSem.ClaimSeven
namespace Go.Proofs.YtchhahnajgfeaaaDoor
namespace Rows

/-- THE TIED CARD OF 'finiallaw10.WriteTerms'. -/
def writeTermsCard : Claim7 := { stood := { row := writeTermsRow, standIns := [], harness := (true, "ea8653281fc5b7aec92063e40a9fe0d4a04c583fae40b65f40d4b4c7c8d02667"), looks := false }, kinds := [], alts := [], laidByText := true, laidKinds := [.data, .data, .data, .data, .pinned], laidTests := true, laidLooks := .later }
def WriteTermsCardSaid : Prop := Claim7.holds Tryd.pinned (.plain (OpenSpec.ofChange writeTermsSpec)) writeTermsCard

/-- THE TIED CARD OF 'finiallaw10.WriteGoals'. -/
def writeGoalsCard : Claim7 := { stood := { row := writeGoalsRow, standIns := [], harness := (true, "ea8653281fc5b7aec92063e40a9fe0d4a04c583fae40b65f40d4b4c7c8d02667"), looks := false }, kinds := [], alts := [], laidByText := true, laidKinds := [.data, .data, .data, .data, .pinned], laidTests := true, laidLooks := .later }
def WriteGoalsCardSaid : Prop := Claim7.holds Tryd.pinned (.plain (OpenSpec.ofChange writeGoalsSpec)) writeGoalsCard

/-- THE SECOND FORM's CARD OF 'finiallaw10.WriteTerms'. -/
def writeTermsUptoCard : Claim7 := { stood := { row := writeTermsUptoRow, standIns := [], harness := (true, "ea8653281fc5b7aec92063e40a9fe0d4a04c583fae40b65f40d4b4c7c8d02667"), looks := false }, kinds := [], alts := [], laidByText := true, laidKinds := [.data, .data, .data, .data, .pinned], laidTests := true, laidLooks := .later }
def WriteTermsUptoCardSaid : Prop := Claim7.holds Tryd.pinned (.plain (OpenSpec.upto writeTermsSpec)) writeTermsUptoCard

/-- THE SECOND FORM's CARD OF 'finiallaw10.WriteGoals'. -/
def writeGoalsUptoCard : Claim7 := { stood := { row := writeGoalsUptoRow, standIns := [], harness := (true, "ea8653281fc5b7aec92063e40a9fe0d4a04c583fae40b65f40d4b4c7c8d02667"), looks := false }, kinds := [], alts := [], laidByText := true, laidKinds := [.data, .data, .data, .data, .pinned], laidTests := true, laidLooks := .later }
def WriteGoalsUptoCardSaid : Prop := Claim7.holds Tryd.pinned (.plain (OpenSpec.upto writeGoalsSpec)) writeGoalsUptoCard
end Rows
end Go.Proofs.YtchhahnajgfeaaaDoor
