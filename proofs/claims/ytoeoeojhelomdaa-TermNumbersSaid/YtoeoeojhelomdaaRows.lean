/-
  NARROWER THAN 'FOR EVERY INPUT', by the rows' own cells (each row's printed sentence says how): TermVars: loops · EmbedTells: loops · EmbedOrders: loops · TermTells: loops · MsgFinds: loops · TermShifts: loops · TermNumbers: loops · EmbedGrows: loops · SubstApplies: loops.
  DERIVED. THE GIVEN ROWS OF THIS SEAT. 12 by the template 'for every input the law returns true; each argument reads behind the call as it read before'; 0 by the template 'total and deterministic' (their statements: YtoeoeojhelomdaaTotals.lean).
  GIVEN WITH THE SEED: the statements are not yours to turn. If you find one false, say at which input.
  Laid BY PROGRAM, IN A SANDBOX (cutbox-rows.mjs): the forced cells as the released guide's own fill.sh prints them over the translation 47dc89284b6b1e6e… (all of the seat's roots in one cut). By AI agents, Wed Nov 11 2026. No macro, syntax, notation, axiom, sorry.
-/
import Derived.Test.YtoeoeojhelomdaaChecked
import GoSem.Claim
import GoSem.ClaimJoined
import GoSem.ClaimMapViews
import Derived.JoinedTies
import Derived.KernelRfl
namespace Go.Proofs.Ytoeoeojhelomdaa
/- THE CELL 'sum', in the pinned program and in every row, IS THE sha256 OF THE DUMP (.gsa) THAT YtoeoeojhelomdaaProg.lean LOADS. Nothing in Lean hashes anything: it is a label: what it is worth is what the hold of that sum in a sandbox is worth. -/
noncomputable def Try.pinned : Pinned := { name := "ytoeoeojhelomdaa", sum := "47dc89284b6b1e6e429bedace35419b428d4e56a880fe68342c3c513d7e32892", checked := Try.checked }
namespace Rows
def none {H : Type} : Left H := { results := [], args := [] }

/-- 'finiallaw01.TermVars': WHATEVER THE INPUT: true; the input reads as it did. -/
def termVarsSpec : ChangeSpec := { name := "termVars", fn := fun _ => fun
  | [d] => { results := [.lit (.bool true)], args := [d] }
  | _ => none }
def termVarsRow : OpenClaim := { program := "ytoeoeojhelomdaa", sum := "47dc89284b6b1e6e429bedace35419b428d4e56a880fe68342c3c513d7e32892", func := "finial/finiallaw01.TermVars", spec := "termVars", unfollowed := true, recurses := true, loops := true, apart := false }
def TermVarsSaid : Prop := termVarsRow.holds Try.pinned (OpenSpec.ofChange termVarsSpec)

/-- ITS FALSE NEIGHBOUR: 'it returns false'. Refute it at one input. -/
def termVarsWrong : ChangeSpec := { name := "termVars", fn := fun _ => fun
  | [d] => { results := [.lit (.bool false)], args := [d] }
  | _ => none }
def TermVarsWrongFalsely : Prop := termVarsRow.holds Try.pinned (OpenSpec.ofChange termVarsWrong)

/-- 'finiallaw07.EmbedTells': WHATEVER THE INPUT: true; the input reads as it did. -/
def embedTellsSpec : ChangeSpec := { name := "embedTells", fn := fun _ => fun
  | [d1, d2] => { results := [.lit (.bool true)], args := [d1, d2] }
  | _ => none }
def embedTellsRow : OpenClaim := { program := "ytoeoeojhelomdaa", sum := "47dc89284b6b1e6e429bedace35419b428d4e56a880fe68342c3c513d7e32892", func := "finial/finiallaw07.EmbedTells", spec := "embedTells", unfollowed := true, recurses := true, loops := true, apart := false }
def EmbedTellsSaid : Prop := embedTellsRow.holds Try.pinned (OpenSpec.ofChange embedTellsSpec)

/-- ITS FALSE NEIGHBOUR: 'it returns false'. Refute it at one input. -/
def embedTellsWrong : ChangeSpec := { name := "embedTells", fn := fun _ => fun
  | [d1, d2] => { results := [.lit (.bool false)], args := [d1, d2] }
  | _ => none }
def EmbedTellsWrongFalsely : Prop := embedTellsRow.holds Try.pinned (OpenSpec.ofChange embedTellsWrong)

/-- 'finiallaw07.EmbedOrders': WHATEVER THE INPUT: true; the input reads as it did. -/
def embedOrdersSpec : ChangeSpec := { name := "embedOrders", fn := fun _ => fun
  | [d1, d2, d3] => { results := [.lit (.bool true)], args := [d1, d2, d3] }
  | _ => none }
def embedOrdersRow : OpenClaim := { program := "ytoeoeojhelomdaa", sum := "47dc89284b6b1e6e429bedace35419b428d4e56a880fe68342c3c513d7e32892", func := "finial/finiallaw07.EmbedOrders", spec := "embedOrders", unfollowed := true, recurses := true, loops := true, apart := false }
def EmbedOrdersSaid : Prop := embedOrdersRow.holds Try.pinned (OpenSpec.ofChange embedOrdersSpec)

/-- ITS FALSE NEIGHBOUR: 'it returns false'. Refute it at one input. -/
def embedOrdersWrong : ChangeSpec := { name := "embedOrders", fn := fun _ => fun
  | [d1, d2, d3] => { results := [.lit (.bool false)], args := [d1, d2, d3] }
  | _ => none }
def EmbedOrdersWrongFalsely : Prop := embedOrdersRow.holds Try.pinned (OpenSpec.ofChange embedOrdersWrong)

/-- 'finiallaw08.LexCuts': WHATEVER THE INPUT: true; the input reads as it did. -/
def lexCutsSpec : ChangeSpec := { name := "lexCuts", fn := fun _ => fun
  | [d] => { results := [.lit (.bool true)], args := [d] }
  | _ => none }
def lexCutsRow : OpenClaim := { program := "ytoeoeojhelomdaa", sum := "47dc89284b6b1e6e429bedace35419b428d4e56a880fe68342c3c513d7e32892", func := "finial/finiallaw08.LexCuts", spec := "lexCuts", unfollowed := true, recurses := true, apart := false }
def LexCutsSaid : Prop := lexCutsRow.holds Try.pinned (OpenSpec.ofChange lexCutsSpec)

/-- ITS FALSE NEIGHBOUR: 'it returns false'. Refute it at one input. -/
def lexCutsWrong : ChangeSpec := { name := "lexCuts", fn := fun _ => fun
  | [d] => { results := [.lit (.bool false)], args := [d] }
  | _ => none }
def LexCutsWrongFalsely : Prop := lexCutsRow.holds Try.pinned (OpenSpec.ofChange lexCutsWrong)

/-- 'finiallaw08.LexJoins': WHATEVER THE INPUT: true; the input reads as it did. -/
def lexJoinsSpec : ChangeSpec := { name := "lexJoins", fn := fun _ => fun
  | [d1, d2] => { results := [.lit (.bool true)], args := [d1, d2] }
  | _ => none }
def lexJoinsRow : OpenClaim := { program := "ytoeoeojhelomdaa", sum := "47dc89284b6b1e6e429bedace35419b428d4e56a880fe68342c3c513d7e32892", func := "finial/finiallaw08.LexJoins", spec := "lexJoins", unfollowed := true, recurses := true, apart := false }
def LexJoinsSaid : Prop := lexJoinsRow.holds Try.pinned (OpenSpec.ofChange lexJoinsSpec)

/-- ITS FALSE NEIGHBOUR: 'it returns false'. Refute it at one input. -/
def lexJoinsWrong : ChangeSpec := { name := "lexJoins", fn := fun _ => fun
  | [d1, d2] => { results := [.lit (.bool false)], args := [d1, d2] }
  | _ => none }
def LexJoinsWrongFalsely : Prop := lexJoinsRow.holds Try.pinned (OpenSpec.ofChange lexJoinsWrong)

/-- 'finiallaw08.LexPlaces': WHATEVER THE INPUT: true; the input reads as it did. -/
def lexPlacesSpec : ChangeSpec := { name := "lexPlaces", fn := fun _ => fun
  | [d] => { results := [.lit (.bool true)], args := [d] }
  | _ => none }
def lexPlacesRow : OpenClaim := { program := "ytoeoeojhelomdaa", sum := "47dc89284b6b1e6e429bedace35419b428d4e56a880fe68342c3c513d7e32892", func := "finial/finiallaw08.LexPlaces", spec := "lexPlaces", unfollowed := true, recurses := true, apart := false }
def LexPlacesSaid : Prop := lexPlacesRow.holds Try.pinned (OpenSpec.ofChange lexPlacesSpec)

/-- ITS FALSE NEIGHBOUR: 'it returns false'. Refute it at one input. -/
def lexPlacesWrong : ChangeSpec := { name := "lexPlaces", fn := fun _ => fun
  | [d] => { results := [.lit (.bool false)], args := [d] }
  | _ => none }
def LexPlacesWrongFalsely : Prop := lexPlacesRow.holds Try.pinned (OpenSpec.ofChange lexPlacesWrong)

/-- 'finiallaw01.TermTells': WHATEVER THE INPUT: true; the input reads as it did. -/
def termTellsSpec : ChangeSpec := { name := "termTells", fn := fun _ => fun
  | [d1, d2] => { results := [.lit (.bool true)], args := [d1, d2] }
  | _ => none }
def termTellsRow : OpenClaim := { program := "ytoeoeojhelomdaa", sum := "47dc89284b6b1e6e429bedace35419b428d4e56a880fe68342c3c513d7e32892", func := "finial/finiallaw01.TermTells", spec := "termTells", unfollowed := true, recurses := true, loops := true, apart := false }
def TermTellsSaid : Prop := termTellsRow.holds Try.pinned (OpenSpec.ofChange termTellsSpec)

/-- ITS FALSE NEIGHBOUR: 'it returns false'. Refute it at one input. -/
def termTellsWrong : ChangeSpec := { name := "termTells", fn := fun _ => fun
  | [d1, d2] => { results := [.lit (.bool false)], args := [d1, d2] }
  | _ => none }
def TermTellsWrongFalsely : Prop := termTellsRow.holds Try.pinned (OpenSpec.ofChange termTellsWrong)

/-- 'finiallaw06.MsgFinds': WHATEVER THE INPUT: true; the input reads as it did. -/
def msgFindsSpec : ChangeSpec := { name := "msgFinds", fn := fun _ => fun
  | [d1, d2] => { results := [.lit (.bool true)], args := [d1, d2] }
  | _ => none }
def msgFindsRow : OpenClaim := { program := "ytoeoeojhelomdaa", sum := "47dc89284b6b1e6e429bedace35419b428d4e56a880fe68342c3c513d7e32892", func := "finial/finiallaw06.MsgFinds", spec := "msgFinds", unfollowed := true, recurses := true, loops := true, apart := false }
def MsgFindsSaid : Prop := msgFindsRow.holds Try.pinned (OpenSpec.ofChange msgFindsSpec)

/-- ITS FALSE NEIGHBOUR: 'it returns false'. Refute it at one input. -/
def msgFindsWrong : ChangeSpec := { name := "msgFinds", fn := fun _ => fun
  | [d1, d2] => { results := [.lit (.bool false)], args := [d1, d2] }
  | _ => none }
def MsgFindsWrongFalsely : Prop := msgFindsRow.holds Try.pinned (OpenSpec.ofChange msgFindsWrong)

/-- 'finiallaw01.TermShifts': WHATEVER THE INPUT: true; the input reads as it did. -/
def termShiftsSpec : ChangeSpec := { name := "termShifts", fn := fun _ => fun
  | [d1, d2, d3] => { results := [.lit (.bool true)], args := [d1, d2, d3] }
  | _ => none }
def termShiftsRow : OpenClaim := { program := "ytoeoeojhelomdaa", sum := "47dc89284b6b1e6e429bedace35419b428d4e56a880fe68342c3c513d7e32892", func := "finial/finiallaw01.TermShifts", spec := "termShifts", unfollowed := true, recurses := true, loops := true, apart := false }
def TermShiftsSaid : Prop := termShiftsRow.holds Try.pinned (OpenSpec.ofChange termShiftsSpec)

/-- ITS FALSE NEIGHBOUR: 'it returns false'. Refute it at one input. -/
def termShiftsWrong : ChangeSpec := { name := "termShifts", fn := fun _ => fun
  | [d1, d2, d3] => { results := [.lit (.bool false)], args := [d1, d2, d3] }
  | _ => none }
def TermShiftsWrongFalsely : Prop := termShiftsRow.holds Try.pinned (OpenSpec.ofChange termShiftsWrong)

/-- 'finiallaw01.TermNumbers': WHATEVER THE INPUT: true; the input reads as it did. -/
def termNumbersSpec : ChangeSpec := { name := "termNumbers", fn := fun _ => fun
  | [d1, d2] => { results := [.lit (.bool true)], args := [d1, d2] }
  | _ => none }
def termNumbersRow : OpenClaim := { program := "ytoeoeojhelomdaa", sum := "47dc89284b6b1e6e429bedace35419b428d4e56a880fe68342c3c513d7e32892", func := "finial/finiallaw01.TermNumbers", spec := "termNumbers", unfollowed := true, recurses := true, loops := true, apart := false }
def TermNumbersSaid : Prop := termNumbersRow.holds Try.pinned (OpenSpec.ofChange termNumbersSpec)

/-- ITS FALSE NEIGHBOUR: 'it returns false'. Refute it at one input. -/
def termNumbersWrong : ChangeSpec := { name := "termNumbers", fn := fun _ => fun
  | [d1, d2] => { results := [.lit (.bool false)], args := [d1, d2] }
  | _ => none }
def TermNumbersWrongFalsely : Prop := termNumbersRow.holds Try.pinned (OpenSpec.ofChange termNumbersWrong)

/-- 'finiallaw07.EmbedGrows': WHATEVER THE INPUT: true; the input reads as it did. -/
def embedGrowsSpec : ChangeSpec := { name := "embedGrows", fn := fun _ => fun
  | [d1, d2] => { results := [.lit (.bool true)], args := [d1, d2] }
  | _ => none }
def embedGrowsRow : OpenClaim := { program := "ytoeoeojhelomdaa", sum := "47dc89284b6b1e6e429bedace35419b428d4e56a880fe68342c3c513d7e32892", func := "finial/finiallaw07.EmbedGrows", spec := "embedGrows", unfollowed := true, recurses := true, loops := true, apart := false }
def EmbedGrowsSaid : Prop := embedGrowsRow.holds Try.pinned (OpenSpec.ofChange embedGrowsSpec)

/-- ITS FALSE NEIGHBOUR: 'it returns false'. Refute it at one input. -/
def embedGrowsWrong : ChangeSpec := { name := "embedGrows", fn := fun _ => fun
  | [d1, d2] => { results := [.lit (.bool false)], args := [d1, d2] }
  | _ => none }
def EmbedGrowsWrongFalsely : Prop := embedGrowsRow.holds Try.pinned (OpenSpec.ofChange embedGrowsWrong)

/-- 'finiallaw03.SubstApplies': WHATEVER THE INPUT: true; the input reads as it did. -/
def substAppliesSpec : ChangeSpec := { name := "substApplies", fn := fun _ => fun
  | [d1, d2] => { results := [.lit (.bool true)], args := [d1, d2] }
  | _ => none }
def substAppliesRow : OpenClaim := { program := "ytoeoeojhelomdaa", sum := "47dc89284b6b1e6e429bedace35419b428d4e56a880fe68342c3c513d7e32892", func := "finial/finiallaw03.SubstApplies", spec := "substApplies", unfollowed := true, recurses := true, loops := true, apart := false }
def SubstAppliesSaid : Prop := substAppliesRow.holds Try.pinned (OpenSpec.ofChange substAppliesSpec)

/-- ITS FALSE NEIGHBOUR: 'it returns false'. Refute it at one input. -/
def substAppliesWrong : ChangeSpec := { name := "substApplies", fn := fun _ => fun
  | [d1, d2] => { results := [.lit (.bool false)], args := [d1, d2] }
  | _ => none }
def SubstAppliesWrongFalsely : Prop := substAppliesRow.holds Try.pinned (OpenSpec.ofChange substAppliesWrong)

/- THE SECOND FORM. 'bulk': how many values and letters a reading holds, each counted each time it is reached (what is shared counts as often as it is met; a slice's spare places count too). A statement '..UptoSaid' is the law's where the arguments, and the package variables that the reading takes, are together of bulk at most 1048576: NARROWER than '..Said'. Prove '..Said' where nothing that the law and all that it calls make is longer than what came in: it says more and counts as full. Else prove '..UptoSaid'. A law counts once. -/
mutual
def uptoBulk {H : Type} : DataW H → Nat
  | .lit (.string bytes) => bytes.length + 1
  | .lit _ => 1
  | .nil => 1
  | .ptr d => uptoBulk d + 1
  | .slice elems spare => uptoBulkAll elems + uptoBulkAll spare + 1
  | .agg parts => uptoBulkAll parts + 1
  | .iface _ d => uptoBulk d + 1
  | .map entries => uptoBulkEntries entries + 1
  | .held _ => 1
def uptoBulkAll {H : Type} : List (DataW H) → Nat
  | [] => 0
  | d :: r => uptoBulk d + uptoBulkAll r
def uptoBulkEntries {H : Type} : List (Lit × DataW H) → Nat
  | [] => 0
  | x :: r => uptoBulkEntry x + uptoBulkEntries r
def uptoBulkEntry {H : Type} : Lit × DataW H → Nat
  | (.string bytes, d) => bytes.length + uptoBulk d + 1
  | (_, d) => uptoBulk d + 1
 end
def uptoSmall : (H : Type) → List (DataW H) → Bool := fun _ ds => decide (uptoBulkAll ds ≤ 1048576)
def OpenSpec.upto (s : _root_.Go.ChangeSpec) : _root_.Go.OpenSpec := { _root_.Go.OpenSpec.ofChange s with cond := some uptoSmall }

/-- 'finiallaw01.TermVars', WHERE WHAT IT READS IS OF BULK AT MOST 1048576: true; the input reads as it did. -/
def termVarsUptoRow : OpenClaim := { program := "ytoeoeojhelomdaa", sum := "47dc89284b6b1e6e429bedace35419b428d4e56a880fe68342c3c513d7e32892", func := "finial/finiallaw01.TermVars", spec := "termVars", unfollowed := true, recurses := true, loops := true, apart := false, narrowed := true }
def TermVarsUptoSaid : Prop := termVarsUptoRow.holds Try.pinned (OpenSpec.upto termVarsSpec)

/-- 'finiallaw07.EmbedTells', WHERE WHAT IT READS IS OF BULK AT MOST 1048576: true; the input reads as it did. -/
def embedTellsUptoRow : OpenClaim := { program := "ytoeoeojhelomdaa", sum := "47dc89284b6b1e6e429bedace35419b428d4e56a880fe68342c3c513d7e32892", func := "finial/finiallaw07.EmbedTells", spec := "embedTells", unfollowed := true, recurses := true, loops := true, apart := false, narrowed := true }
def EmbedTellsUptoSaid : Prop := embedTellsUptoRow.holds Try.pinned (OpenSpec.upto embedTellsSpec)

/-- 'finiallaw07.EmbedOrders', WHERE WHAT IT READS IS OF BULK AT MOST 1048576: true; the input reads as it did. -/
def embedOrdersUptoRow : OpenClaim := { program := "ytoeoeojhelomdaa", sum := "47dc89284b6b1e6e429bedace35419b428d4e56a880fe68342c3c513d7e32892", func := "finial/finiallaw07.EmbedOrders", spec := "embedOrders", unfollowed := true, recurses := true, loops := true, apart := false, narrowed := true }
def EmbedOrdersUptoSaid : Prop := embedOrdersUptoRow.holds Try.pinned (OpenSpec.upto embedOrdersSpec)

/-- 'finiallaw08.LexCuts', WHERE WHAT IT READS IS OF BULK AT MOST 1048576: true; the input reads as it did. -/
def lexCutsUptoRow : OpenClaim := { program := "ytoeoeojhelomdaa", sum := "47dc89284b6b1e6e429bedace35419b428d4e56a880fe68342c3c513d7e32892", func := "finial/finiallaw08.LexCuts", spec := "lexCuts", unfollowed := true, recurses := true, apart := false, narrowed := true }
def LexCutsUptoSaid : Prop := lexCutsUptoRow.holds Try.pinned (OpenSpec.upto lexCutsSpec)

/-- 'finiallaw08.LexJoins', WHERE WHAT IT READS IS OF BULK AT MOST 1048576: true; the input reads as it did. -/
def lexJoinsUptoRow : OpenClaim := { program := "ytoeoeojhelomdaa", sum := "47dc89284b6b1e6e429bedace35419b428d4e56a880fe68342c3c513d7e32892", func := "finial/finiallaw08.LexJoins", spec := "lexJoins", unfollowed := true, recurses := true, apart := false, narrowed := true }
def LexJoinsUptoSaid : Prop := lexJoinsUptoRow.holds Try.pinned (OpenSpec.upto lexJoinsSpec)

/-- 'finiallaw08.LexPlaces', WHERE WHAT IT READS IS OF BULK AT MOST 1048576: true; the input reads as it did. -/
def lexPlacesUptoRow : OpenClaim := { program := "ytoeoeojhelomdaa", sum := "47dc89284b6b1e6e429bedace35419b428d4e56a880fe68342c3c513d7e32892", func := "finial/finiallaw08.LexPlaces", spec := "lexPlaces", unfollowed := true, recurses := true, apart := false, narrowed := true }
def LexPlacesUptoSaid : Prop := lexPlacesUptoRow.holds Try.pinned (OpenSpec.upto lexPlacesSpec)

/-- 'finiallaw01.TermTells', WHERE WHAT IT READS IS OF BULK AT MOST 1048576: true; the input reads as it did. -/
def termTellsUptoRow : OpenClaim := { program := "ytoeoeojhelomdaa", sum := "47dc89284b6b1e6e429bedace35419b428d4e56a880fe68342c3c513d7e32892", func := "finial/finiallaw01.TermTells", spec := "termTells", unfollowed := true, recurses := true, loops := true, apart := false, narrowed := true }
def TermTellsUptoSaid : Prop := termTellsUptoRow.holds Try.pinned (OpenSpec.upto termTellsSpec)

/-- 'finiallaw06.MsgFinds', WHERE WHAT IT READS IS OF BULK AT MOST 1048576: true; the input reads as it did. -/
def msgFindsUptoRow : OpenClaim := { program := "ytoeoeojhelomdaa", sum := "47dc89284b6b1e6e429bedace35419b428d4e56a880fe68342c3c513d7e32892", func := "finial/finiallaw06.MsgFinds", spec := "msgFinds", unfollowed := true, recurses := true, loops := true, apart := false, narrowed := true }
def MsgFindsUptoSaid : Prop := msgFindsUptoRow.holds Try.pinned (OpenSpec.upto msgFindsSpec)

/-- 'finiallaw01.TermShifts', WHERE WHAT IT READS IS OF BULK AT MOST 1048576: true; the input reads as it did. -/
def termShiftsUptoRow : OpenClaim := { program := "ytoeoeojhelomdaa", sum := "47dc89284b6b1e6e429bedace35419b428d4e56a880fe68342c3c513d7e32892", func := "finial/finiallaw01.TermShifts", spec := "termShifts", unfollowed := true, recurses := true, loops := true, apart := false, narrowed := true }
def TermShiftsUptoSaid : Prop := termShiftsUptoRow.holds Try.pinned (OpenSpec.upto termShiftsSpec)

/-- 'finiallaw01.TermNumbers', WHERE WHAT IT READS IS OF BULK AT MOST 1048576: true; the input reads as it did. -/
def termNumbersUptoRow : OpenClaim := { program := "ytoeoeojhelomdaa", sum := "47dc89284b6b1e6e429bedace35419b428d4e56a880fe68342c3c513d7e32892", func := "finial/finiallaw01.TermNumbers", spec := "termNumbers", unfollowed := true, recurses := true, loops := true, apart := false, narrowed := true }
def TermNumbersUptoSaid : Prop := termNumbersUptoRow.holds Try.pinned (OpenSpec.upto termNumbersSpec)

/-- 'finiallaw07.EmbedGrows', WHERE WHAT IT READS IS OF BULK AT MOST 1048576: true; the input reads as it did. -/
def embedGrowsUptoRow : OpenClaim := { program := "ytoeoeojhelomdaa", sum := "47dc89284b6b1e6e429bedace35419b428d4e56a880fe68342c3c513d7e32892", func := "finial/finiallaw07.EmbedGrows", spec := "embedGrows", unfollowed := true, recurses := true, loops := true, apart := false, narrowed := true }
def EmbedGrowsUptoSaid : Prop := embedGrowsUptoRow.holds Try.pinned (OpenSpec.upto embedGrowsSpec)

/-- 'finiallaw03.SubstApplies', WHERE WHAT IT READS IS OF BULK AT MOST 1048576: true; the input reads as it did. -/
def substAppliesUptoRow : OpenClaim := { program := "ytoeoeojhelomdaa", sum := "47dc89284b6b1e6e429bedace35419b428d4e56a880fe68342c3c513d7e32892", func := "finial/finiallaw03.SubstApplies", spec := "substApplies", unfollowed := true, recurses := true, loops := true, apart := false, narrowed := true }
def SubstAppliesUptoSaid : Prop := substAppliesUptoRow.holds Try.pinned (OpenSpec.upto substAppliesSpec)

end Rows
end Go.Proofs.Ytoeoeojhelomdaa
