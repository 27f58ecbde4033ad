/-
  DERIVED. GIVEN WITH THE SEED: THE CARDS: each row of YtaagocopollacaaGreatDoorRows.lean that lists a variable, with what it lists TIED to the program's text (the seventh form; the later family's looks); each row that meets fmt, with fmt's text TOLD by the authors' own Lean function (tested against real Go, not proved from fmt's source: count such statements apart). THE CARD IS WHAT COUNTS. Prove the row's statement (the work); the ties are given (YtaagocopollacaaGreatDoorTie.lean); close each card by the builder's one call (the guide's Derived/Test/ToyasCard.lean, 'card_holds'). Laid BY PROGRAM, IN A SANDBOX (cutbox-door.mjs). By AI agents, Wed Nov 11 2026. No macro, syntax, notation, axiom, sorry.
-/
import Derived.Test.YtaagocopollacaaGreatDoorRows
import GoSem.ClaimSeven
namespace Go.Proofs.YtaagocopollacaaGreatDoor
namespace Rows

/-- THE TIED CARD OF 'finiallaw14.ModelMore'. -/
def modelMoreCard : Claim7 := { stood := { row := modelMoreRow, standIns := [], harness := (true, "4eac160fef31fee44d3c583923cd26d349722e6b7e6585af3328f29602dbc084"), looks := false }, kinds := [], alts := [], laidByText := true, laidKinds := [.data, .data, .data, .data, .pinned], laidTests := true, laidLooks := .later }
def ModelMoreCardSaid : Prop := Claim7.holds Tryz.pinned (.plain (OpenSpec.ofChange modelMoreSpec)) modelMoreCard

/-- THE SECOND FORM's CARD OF 'finiallaw14.ModelMore'. -/
def modelMoreUptoCard : Claim7 := { stood := { row := modelMoreUptoRow, standIns := [], harness := (true, "4eac160fef31fee44d3c583923cd26d349722e6b7e6585af3328f29602dbc084"), looks := false }, kinds := [], alts := [], laidByText := true, laidKinds := [.data, .data, .data, .data, .pinned], laidTests := true, laidLooks := .later }
def ModelMoreUptoCardSaid : Prop := Claim7.holds Tryz.pinned (.plain (OpenSpec.upto modelMoreSpec)) modelMoreUptoCard
end Rows
end Go.Proofs.YtaagocopollacaaGreatDoor
