import Derived.Test.YtmjmngigbachdaaGreatDoorM6
import Derived.Test.YtmjmngigbachdaaGreatDoorCards
import Derived.SevenTiedAt
namespace Go.Proofs.YtmjmngigbachdaaGreatDoor
open Go ax Go.Proofs Go.ChangeShapes Go.WideShapes Go.ChangeAt Go.RowKit
theorem Ay : Rows.modelUselessRow.wfByText (OpenSpec.ofChange Rows.modelUselessSpec) = true := by kernel_rfl
theorem Az : Tryz.prog.mainIs = some (Rows.modelUselessCard.stood.harness.1, Rows.modelUselessCard.stood.harness.2.toList) := by kernel_rfl
theorem AA : Tryz.prog.funcNamed "finial/finiallaw14.ModelUseless" = some 3 := by kernel_rfl
theorem AB : false = Tryz.prog.looks [] := by kernel_rfl
theorem AD : (vI.all λu=> !Tryz.prog.wantsStandIn u) = true := by kernel_rfl
theorem AE : false = Rows.modelUselessRow.goesBy Tryz.prog := by kernel_rfl
end Go.Proofs.YtmjmngigbachdaaGreatDoor
