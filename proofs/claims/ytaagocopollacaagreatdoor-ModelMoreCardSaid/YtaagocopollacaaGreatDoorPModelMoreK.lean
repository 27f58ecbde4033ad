import Derived.Test.YtaagocopollacaaGreatDoorM6
import Derived.Test.YtaagocopollacaaGreatDoorCards
import Derived.SevenTiedAt
namespace Go.Proofs.YtaagocopollacaaGreatDoor
open Go aw Go.Proofs Go.ChangeShapes Go.WideShapes Go.ChangeAt Go.RowKit
theorem H8 : Rows.modelMoreRow.wfByText (OpenSpec.ofChange Rows.modelMoreSpec) = true := by kernel_rfl
theorem H9 : Tryz.prog.mainIs = some (Rows.modelMoreCard.stood.harness.1, Rows.modelMoreCard.stood.harness.2.toList) := by kernel_rfl
theorem Ia : Tryz.prog.funcNamed "finial/finiallaw14.ModelMore" = some 3 := by kernel_rfl
theorem Ib : false = Tryz.prog.looks [] := by kernel_rfl
theorem Ic : (u0.all fun u => !Tryz.prog.wantsStandIn u) = true := by kernel_rfl
theorem Ie : false = Rows.modelMoreRow.goesBy Tryz.prog := by kernel_rfl
end Go.Proofs.YtaagocopollacaaGreatDoor
