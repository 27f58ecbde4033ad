/- ModelMore: for every program and every clause and every uint8 and every uint8, the law returns true and leaves its arguments unchanged. Conditions: those of the card alone (its listed variables hold what the program's text lays). -/
import Derived.Test.YtaagocopollacaaGreatDoorM6
import Derived.Test.YtaagocopollacaaGreatDoorPModelMoreR
import Derived.Test.YtaagocopollacaaGreatDoorPModelMoreK
import Derived.Test.YtaagocopollacaaGreatDoorCards
import Derived.Test.YtaagocopollacaaGreatDoorTie
import Derived.SevenTiedAt
namespace Go.Proofs.YtaagocopollacaaGreatDoor
open Go aw Go.Proofs Go.ChangeShapes Go.WideShapes Go.ChangeAt Go.RowKit

theorem modelMore_holds : Rows.ModelMoreCardSaid :=
  Claim7.holds_tied_plain_at .later [] [.data, .data, .data, .data, .pinned] true (true, _) false Ee (fun _ h => by cases h) H8 (fun _ h => by cases h) modelMore_row_tie rfl ⟨rfl, rfl⟩ H9 rfl
    (fun f fn hf hfn => by
      obtain rfl : f = 3 := Option.some.inj (Ia.symm.trans hf) |>.symm
      obtain rfl : fn = Tryz.f3 := (Option.some.inj (Tryz.func3.symm.trans hfn)).symm
      exact ⟨Ib, fun j t ht => by
        rw [Tryz.params3] at ht
        have hm : t ∈ u0 := by
          have h1 : (Tryz.f3.params.toList.all fun u => u0.contains u) = true := by kernel_rfl
          rw [Tryz.params3] at h1;simpa using List.all_eq_true.1 h1 t (by simpa using Array.mem_of_getElem? ht)
        exact (show Tryz.prog.wantsStandIn t = false by simpa using List.all_eq_true.1 Ic t hm)⟩)
    Ie
end Go.Proofs.YtaagocopollacaaGreatDoor
