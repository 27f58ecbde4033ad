/- ModelUseless: for every program and every clause and every uint8 and every uint8, the law returns true and leaves its arguments unchanged. Conditions: those of the card alone (its listed variables hold what the program's text lays). -/
import Derived.Test.YtmjmngigbachdaaGreatDoorM6
import Derived.Test.YtmjmngigbachdaaGreatDoorPModelUselessR
import Derived.Test.YtmjmngigbachdaaGreatDoorPModelUselessK
import Derived.Test.YtmjmngigbachdaaGreatDoorCards
import Derived.Test.YtmjmngigbachdaaGreatDoorTie
import Derived.SevenTiedAt
namespace Go.Proofs.YtmjmngigbachdaaGreatDoor
open Go ax Go.Proofs Go.ChangeShapes Go.WideShapes Go.ChangeAt Go.RowKit
theorem modelUseless_holds : Rows.ModelUselessCardSaid :=
  Claim7.holds_tied_plain_at .later [] [.data, .data, .data, .data, .pinned] true (true, _) false zb (λ_ h=> by cases h) Ay (λ_ h=> by cases h) modelUseless_row_tie rfl ⟨rfl, rfl⟩ Az rfl
    (fun f fn hf hfn=> by
      obtain rfl : f = 3 := Option.some.inj (AA.symm.trans hf) |>.symm
      obtain rfl : fn = Tryz.f3 := (Option.some.inj (Tryz.func3.symm.trans hfn)).symm
      exact ⟨AB, λj t ht=> by
        rw [Tryz.params3]at ht
        have hm : t ∈ vI := by
          have h1 : (Tryz.f3.params.toList.all λu=> vI.contains u) = true := by kernel_rfl
          rw [Tryz.params3]at h1;simpa using List.all_eq_true.1 h1 t (by simpa using Array.mem_of_getElem? ht)
        exact (show Tryz.prog.wantsStandIn t = false by simpa using List.all_eq_true.1 AD t hm)⟩)
    AE
end Go.Proofs.YtmjmngigbachdaaGreatDoor
