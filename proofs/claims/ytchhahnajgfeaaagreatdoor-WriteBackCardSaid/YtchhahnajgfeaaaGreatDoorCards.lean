/-
  DERIVED. GIVEN WITH THE SEED: THE CARDS: each row of YtchhahnajgfeaaaGreatDoorRows.lean that lists a variable, with what it lists TIED to the program's text (the seventh form; the later family's looks); each row that meets fmt, with fmt's text TOLD by the authors' own Lean function (tested against real Go, not proved from fmt's source: count such statements apart). THE CARD IS WHAT COUNTS. Prove the row's statement (the work); the ties are given (YtchhahnajgfeaaaGreatDoorTie.lean); close each card by the builder's one call (the guide's Derived/Test/ToyasCard.lean, 'card_holds'). Laid BY PROGRAM, IN A SANDBOX (cutbox-door.mjs). By AI agents, Wed Nov 11 2026. No macro, syntax, notation, axiom, sorry.
-/
import Derived.Test.YtchhahnajgfeaaaGreatDoorRows
import GoSem.ClaimSeven
namespace Go.Proofs.YtchhahnajgfeaaaGreatDoor
namespace Rows

/-- THE TIED CARD OF 'finiallaw10.WriteBack'. -/
def writeBackCard : Claim7 := { stood := { row := writeBackRow, standIns := [], harness := (true, "20904769cc8e26a3078dc9cc74741a85921d74ee347ba377888e676897c5ec7e"), looks := false }, kinds := [], alts := [], laidByText := true, laidKinds := [.data, .data, .data, .data, .pinned], laidTests := true, laidLooks := .later }
def WriteBackCardSaid : Prop := Claim7.holds Tryz.pinned (.plain (OpenSpec.ofChange writeBackSpec)) writeBackCard

/-- THE SECOND FORM's CARD OF 'finiallaw10.WriteBack'. -/
def writeBackUptoCard : Claim7 := { stood := { row := writeBackUptoRow, standIns := [], harness := (true, "20904769cc8e26a3078dc9cc74741a85921d74ee347ba377888e676897c5ec7e"), looks := false }, kinds := [], alts := [], laidByText := true, laidKinds := [.data, .data, .data, .data, .pinned], laidTests := true, laidLooks := .later }
def WriteBackUptoCardSaid : Prop := Claim7.holds Tryz.pinned (.plain (OpenSpec.upto writeBackSpec)) writeBackUptoCard
end Rows
end Go.Proofs.YtchhahnajgfeaaaGreatDoor
