/-
  DERIVED. GIVEN WITH THE SEED: THE CARDS: each row of YtmjmngigbachdaaGreatDoorRows.lean that lists a variable, with what it lists TIED to the program's text (the seventh form; the later family's looks); each row that meets fmt, with fmt's text TOLD by the authors' own Lean function (tested against real Go, not proved from fmt's source: count such statements apart). THE CARD IS WHAT COUNTS. Prove the row's statement (the work); the ties are given (YtmjmngigbachdaaGreatDoorTie.lean); close each card by the builder's one call (the guide's Derived/Test/ToyasCard.lean, 'card_holds'). Laid BY PROGRAM, IN A SANDBOX (cutbox-door.mjs). By AI agents, Wed Nov 11 2026. No macro, syntax, notation, axiom, sorry.
-/
import Derived.Test.YtmjmngigbachdaaGreatDoorRows
import GoSem.ClaimSeven
namespace Go.Proofs.YtmjmngigbachdaaGreatDoor
namespace Rows

/-- THE TIED CARD OF 'finiallaw14.ModelUseless'. -/
def modelUselessCard : Claim7 := { stood := { row := modelUselessRow, standIns := [], harness := (true, "049c6662a591dc2b03d7b108e44cb1a5d18894556edce562f838e08a800a3a6f"), looks := false }, kinds := [], alts := [], laidByText := true, laidKinds := [.data, .data, .data, .data, .pinned], laidTests := true, laidLooks := .later }
def ModelUselessCardSaid : Prop := Claim7.holds Tryz.pinned (.plain (OpenSpec.ofChange modelUselessSpec)) modelUselessCard

/-- THE SECOND FORM's CARD OF 'finiallaw14.ModelUseless'. -/
def modelUselessUptoCard : Claim7 := { stood := { row := modelUselessUptoRow, standIns := [], harness := (true, "049c6662a591dc2b03d7b108e44cb1a5d18894556edce562f838e08a800a3a6f"), looks := false }, kinds := [], alts := [], laidByText := true, laidKinds := [.data, .data, .data, .data, .pinned], laidTests := true, laidLooks := .later }
def ModelUselessUptoCardSaid : Prop := Claim7.holds Tryz.pinned (.plain (OpenSpec.upto modelUselessSpec)) modelUselessUptoCard
end Rows
end Go.Proofs.YtmjmngigbachdaaGreatDoor
