import Derived.Test.YtppghekipbnjhaaSTy
import Derived.Test.YtppghekipbnjhaaPlC
import Derived.Test.YtppghekipbnjhaaRows
import Derived.ProofKit
namespace Go.Proofs.Ytppghekipbnjhaa
open Go PSL Go.Proofs Go.ChangeShapes Go.WideShapes Go.ChangeAt Go.RowKit

theorem ownK : ownKnob Try.prog.godebug = none := by kernel_rfl
theorem laidK : laidOutB Try.prog = true := by kernel_rfl

theorem isTerm : IsTerm tyT.get 24 := isTermB_ok (by kernel_rfl)

theorem isBind : IsBind tyT.get 54 24 := isBindB_ok (by kernel_rfl)

/-- The types that laws are handed. -/
def lawTys : List Nat := [3, 9, 24, 22, 54, 45]
theorem lawTysOk : ∀ t ∈ lawTys, dT tyT.get lawTys t = true := by
  have h : lawTys.all (fun t => dT tyT.get lawTys t) = true := by kernel_rfl
  exact fun t ht => List.all_eq_true.1 h t ht
theorem reach47 : reachBytes ≤ 140737488355328 := by decide
end Go.Proofs.Ytppghekipbnjhaa
