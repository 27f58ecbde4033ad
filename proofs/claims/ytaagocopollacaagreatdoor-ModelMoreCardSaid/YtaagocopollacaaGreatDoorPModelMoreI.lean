import Derived.Test.YtaagocopollacaaGreatDoorM6
import Derived.Test.YtaagocopollacaaGreatDoorRows
import Derived.SevenTiedAt
namespace Go.Proofs.YtaagocopollacaaGreatDoor
open Go aw Go.Proofs Go.ChangeShapes Go.WideShapes Go.ChangeAt Go.RowKit
theorem H4 : (Rows.modelMoreRow.inPlace == Tryz.prog.inPlace 3) = true := by kernel_rfl
theorem H5 : (Rows.modelMoreRow.unfollowed == Tryz.prog.unfollowed 3) = true := by kernel_rfl
theorem H6 : (Rows.modelMoreRow.recurses == Tryz.prog.recurses 3) = true := by kernel_rfl
theorem H7 : (Rows.modelMoreRow.named == Tryz.prog.varsNamed 3) = true := by kernel_rfl
end Go.Proofs.YtaagocopollacaaGreatDoor
