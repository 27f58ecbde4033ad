import Derived.Test.YtmjmngigbachdaaGreatDoorM6
import Derived.Test.YtmjmngigbachdaaGreatDoorRows
import Derived.SevenTiedAt
namespace Go.Proofs.YtmjmngigbachdaaGreatDoor
open Go ax Go.Proofs Go.ChangeShapes Go.WideShapes Go.ChangeAt Go.RowKit
theorem Au : (Rows.modelUselessRow.inPlace == Tryz.prog.inPlace 3) = true := by kernel_rfl
theorem Av : (Rows.modelUselessRow.unfollowed == Tryz.prog.unfollowed 3) = true := by kernel_rfl
theorem Aw : (Rows.modelUselessRow.recurses == Tryz.prog.recurses 3) = true := by kernel_rfl
theorem Ax : (Rows.modelUselessRow.named == Tryz.prog.varsNamed 3) = true := by kernel_rfl
end Go.Proofs.YtmjmngigbachdaaGreatDoor
