/-
  NARROWER THAN 'FOR EVERY INPUT', by the rows' own cells (each row's printed sentence says how): MsgFinds: loops · MsgAll: loops · MsgLeast: loops · MsgTurns: loops · EmbedTells: loops · EmbedOrders: loops · EmbedGrows: loops · UnifyFinds: loops · UnifyMost: loops · UnifyStores: loops · UnifyTurns: loops.
  DERIVED. THE GIVEN ROWS OF THIS SEAT. 11 by the template 'for every input the law returns true; each argument reads behind the call as it read before'; 0 by the template 'total and deterministic' (their statements: YtppghekipbnjhaaTotals.lean).
  GIVEN WITH THE SEED: the statements are not yours to turn. If you find one false, say at which input.
  Laid BY PROGRAM, IN A SANDBOX (cutbox-rows.mjs): the forced cells as the released guide's own fill.sh prints them over the translation 6082f7c9153d7e0b… (all of the seat's roots in one cut). By AI agents, Wed Nov 11 2026. No macro, syntax, notation, axiom, sorry.
-/
import Derived.Test.YtppghekipbnjhaaChecked
import GoSem.Claim
import GoSem.ClaimJoined
import GoSem.ClaimMapViews
import Derived.JoinedTies
import Derived.KernelRfl
namespace Go.Proofs.Ytppghekipbnjhaa
/- THE CELL 'sum', in the pinned program and in every row, IS THE sha256 OF THE DUMP (.gsa) THAT YtppghekipbnjhaaProg.lean LOADS. Nothing in Lean hashes anything: it is a label: what it is worth is what the hold of that sum in a sandbox is worth. -/
noncomputable def Try.pinned : Pinned := { name := "ytppghekipbnjhaa", sum := "6082f7c9153d7e0be1a18bd42b825888993ecf40b580ba6cf18367dd182af0e7", checked := Try.checked }
namespace Rows
def none {H : Type} : Left H := { results := [], args := [] }

/-- 'finiallaw06.MsgFinds': WHATEVER THE INPUT: true; the input reads as it did. -/
def msgFindsSpec : ChangeSpec := { name := "msgFinds", fn := fun _ => fun
  | [d1, d2] => { results := [.lit (.bool true)], args := [d1, d2] }
  | _ => none }
def msgFindsRow : OpenClaim := { program := "ytppghekipbnjhaa", sum := "6082f7c9153d7e0be1a18bd42b825888993ecf40b580ba6cf18367dd182af0e7", func := "finial/finiallaw06.MsgFinds", spec := "msgFinds", unfollowed := true, recurses := true, loops := true, plainKeys := false, apart := false }
def MsgFindsSaid : Prop := msgFindsRow.holds Try.pinned (OpenSpec.ofChange msgFindsSpec)

/-- ITS FALSE NEIGHBOUR: 'it returns false'. Refute it at one input. -/
def msgFindsWrong : ChangeSpec := { name := "msgFinds", fn := fun _ => fun
  | [d1, d2] => { results := [.lit (.bool false)], args := [d1, d2] }
  | _ => none }
def MsgFindsWrongFalsely : Prop := msgFindsRow.holds Try.pinned (OpenSpec.ofChange msgFindsWrong)

/-- 'finiallaw06.MsgAll': WHATEVER THE INPUT: true; the input reads as it did. -/
def msgAllSpec : ChangeSpec := { name := "msgAll", fn := fun _ => fun
  | [d] => { results := [.lit (.bool true)], args := [d] }
  | _ => none }
def msgAllRow : OpenClaim := { program := "ytppghekipbnjhaa", sum := "6082f7c9153d7e0be1a18bd42b825888993ecf40b580ba6cf18367dd182af0e7", func := "finial/finiallaw06.MsgAll", spec := "msgAll", unfollowed := true, recurses := true, loops := true, plainKeys := false, apart := false }
def MsgAllSaid : Prop := msgAllRow.holds Try.pinned (OpenSpec.ofChange msgAllSpec)

/-- ITS FALSE NEIGHBOUR: 'it returns false'. Refute it at one input. -/
def msgAllWrong : ChangeSpec := { name := "msgAll", fn := fun _ => fun
  | [d] => { results := [.lit (.bool false)], args := [d] }
  | _ => none }
def MsgAllWrongFalsely : Prop := msgAllRow.holds Try.pinned (OpenSpec.ofChange msgAllWrong)

/-- 'finiallaw06.MsgLeast': WHATEVER THE INPUT: true; the input reads as it did. -/
def msgLeastSpec : ChangeSpec := { name := "msgLeast", fn := fun _ => fun
  | [d1, d2, d3] => { results := [.lit (.bool true)], args := [d1, d2, d3] }
  | _ => none }
def msgLeastRow : OpenClaim := { program := "ytppghekipbnjhaa", sum := "6082f7c9153d7e0be1a18bd42b825888993ecf40b580ba6cf18367dd182af0e7", func := "finial/finiallaw06.MsgLeast", spec := "msgLeast", unfollowed := true, recurses := true, loops := true, plainKeys := false, apart := false }
def MsgLeastSaid : Prop := msgLeastRow.holds Try.pinned (OpenSpec.ofChange msgLeastSpec)

/-- ITS FALSE NEIGHBOUR: 'it returns false'. Refute it at one input. -/
def msgLeastWrong : ChangeSpec := { name := "msgLeast", fn := fun _ => fun
  | [d1, d2, d3] => { results := [.lit (.bool false)], args := [d1, d2, d3] }
  | _ => none }
def MsgLeastWrongFalsely : Prop := msgLeastRow.holds Try.pinned (OpenSpec.ofChange msgLeastWrong)

/-- 'finiallaw06.MsgTurns': WHATEVER THE INPUT: true; the input reads as it did. -/
def msgTurnsSpec : ChangeSpec := { name := "msgTurns", fn := fun _ => fun
  | [d1, d2] => { results := [.lit (.bool true)], args := [d1, d2] }
  | _ => none }
def msgTurnsRow : OpenClaim := { program := "ytppghekipbnjhaa", sum := "6082f7c9153d7e0be1a18bd42b825888993ecf40b580ba6cf18367dd182af0e7", func := "finial/finiallaw06.MsgTurns", spec := "msgTurns", unfollowed := true, recurses := true, loops := true, plainKeys := false, apart := false }
def MsgTurnsSaid : Prop := msgTurnsRow.holds Try.pinned (OpenSpec.ofChange msgTurnsSpec)

/-- ITS FALSE NEIGHBOUR: 'it returns false'. Refute it at one input. -/
def msgTurnsWrong : ChangeSpec := { name := "msgTurns", fn := fun _ => fun
  | [d1, d2] => { results := [.lit (.bool false)], args := [d1, d2] }
  | _ => none }
def MsgTurnsWrongFalsely : Prop := msgTurnsRow.holds Try.pinned (OpenSpec.ofChange msgTurnsWrong)

/-- 'finiallaw07.EmbedTells': WHATEVER THE INPUT: true; the input reads as it did. -/
def embedTellsSpec : ChangeSpec := { name := "embedTells", fn := fun _ => fun
  | [d1, d2] => { results := [.lit (.bool true)], args := [d1, d2] }
  | _ => none }
def embedTellsRow : OpenClaim := { program := "ytppghekipbnjhaa", sum := "6082f7c9153d7e0be1a18bd42b825888993ecf40b580ba6cf18367dd182af0e7", func := "finial/finiallaw07.EmbedTells", spec := "embedTells", unfollowed := true, recurses := true, loops := true, plainKeys := false, apart := false }
def EmbedTellsSaid : Prop := embedTellsRow.holds Try.pinned (OpenSpec.ofChange embedTellsSpec)

/-- ITS FALSE NEIGHBOUR: 'it returns false'. Refute it at one input. -/
def embedTellsWrong : ChangeSpec := { name := "embedTells", fn := fun _ => fun
  | [d1, d2] => { results := [.lit (.bool false)], args := [d1, d2] }
  | _ => none }
def EmbedTellsWrongFalsely : Prop := embedTellsRow.holds Try.pinned (OpenSpec.ofChange embedTellsWrong)

/-- 'finiallaw07.EmbedOrders': WHATEVER THE INPUT: true; the input reads as it did. -/
def embedOrdersSpec : ChangeSpec := { name := "embedOrders", fn := fun _ => fun
  | [d1, d2, d3] => { results := [.lit (.bool true)], args := [d1, d2, d3] }
  | _ => none }
def embedOrdersRow : OpenClaim := { program := "ytppghekipbnjhaa", sum := "6082f7c9153d7e0be1a18bd42b825888993ecf40b580ba6cf18367dd182af0e7", func := "finial/finiallaw07.EmbedOrders", spec := "embedOrders", unfollowed := true, recurses := true, loops := true, plainKeys := false, apart := false }
def EmbedOrdersSaid : Prop := embedOrdersRow.holds Try.pinned (OpenSpec.ofChange embedOrdersSpec)

/-- ITS FALSE NEIGHBOUR: 'it returns false'. Refute it at one input. -/
def embedOrdersWrong : ChangeSpec := { name := "embedOrders", fn := fun _ => fun
  | [d1, d2, d3] => { results := [.lit (.bool false)], args := [d1, d2, d3] }
  | _ => none }
def EmbedOrdersWrongFalsely : Prop := embedOrdersRow.holds Try.pinned (OpenSpec.ofChange embedOrdersWrong)

/-- 'finiallaw07.EmbedGrows': WHATEVER THE INPUT: true; the input reads as it did. -/
def embedGrowsSpec : ChangeSpec := { name := "embedGrows", fn := fun _ => fun
  | [d1, d2] => { results := [.lit (.bool true)], args := [d1, d2] }
  | _ => none }
def embedGrowsRow : OpenClaim := { program := "ytppghekipbnjhaa", sum := "6082f7c9153d7e0be1a18bd42b825888993ecf40b580ba6cf18367dd182af0e7", func := "finial/finiallaw07.EmbedGrows", spec := "embedGrows", unfollowed := true, recurses := true, loops := true, plainKeys := false, apart := false }
def EmbedGrowsSaid : Prop := embedGrowsRow.holds Try.pinned (OpenSpec.ofChange embedGrowsSpec)

/-- ITS FALSE NEIGHBOUR: 'it returns false'. Refute it at one input. -/
def embedGrowsWrong : ChangeSpec := { name := "embedGrows", fn := fun _ => fun
  | [d1, d2] => { results := [.lit (.bool false)], args := [d1, d2] }
  | _ => none }
def EmbedGrowsWrongFalsely : Prop := embedGrowsRow.holds Try.pinned (OpenSpec.ofChange embedGrowsWrong)

/-- 'finiallaw04.UnifyFinds': WHATEVER THE INPUT: true; the input reads as it did. -/
def unifyFindsSpec : ChangeSpec := { name := "unifyFinds", fn := fun _ => fun
  | [d1, d2] => { results := [.lit (.bool true)], args := [d1, d2] }
  | _ => none }
def unifyFindsRow : OpenClaim := { program := "ytppghekipbnjhaa", sum := "6082f7c9153d7e0be1a18bd42b825888993ecf40b580ba6cf18367dd182af0e7", func := "finial/finiallaw04.UnifyFinds", spec := "unifyFinds", unfollowed := true, recurses := true, loops := true, plainKeys := false, apart := false }
def UnifyFindsSaid : Prop := unifyFindsRow.holds Try.pinned (OpenSpec.ofChange unifyFindsSpec)

/-- ITS FALSE NEIGHBOUR: 'it returns false'. Refute it at one input. -/
def unifyFindsWrong : ChangeSpec := { name := "unifyFinds", fn := fun _ => fun
  | [d1, d2] => { results := [.lit (.bool false)], args := [d1, d2] }
  | _ => none }
def UnifyFindsWrongFalsely : Prop := unifyFindsRow.holds Try.pinned (OpenSpec.ofChange unifyFindsWrong)

/-- 'finiallaw04.UnifyMost': WHATEVER THE INPUT: true; the input reads as it did. -/
def unifyMostSpec : ChangeSpec := { name := "unifyMost", fn := fun _ => fun
  | [d1, d2, d3] => { results := [.lit (.bool true)], args := [d1, d2, d3] }
  | _ => none }
def unifyMostRow : OpenClaim := { program := "ytppghekipbnjhaa", sum := "6082f7c9153d7e0be1a18bd42b825888993ecf40b580ba6cf18367dd182af0e7", func := "finial/finiallaw04.UnifyMost", spec := "unifyMost", unfollowed := true, recurses := true, loops := true, plainKeys := false, apart := false }
def UnifyMostSaid : Prop := unifyMostRow.holds Try.pinned (OpenSpec.ofChange unifyMostSpec)

/-- ITS FALSE NEIGHBOUR: 'it returns false'. Refute it at one input. -/
def unifyMostWrong : ChangeSpec := { name := "unifyMost", fn := fun _ => fun
  | [d1, d2, d3] => { results := [.lit (.bool false)], args := [d1, d2, d3] }
  | _ => none }
def UnifyMostWrongFalsely : Prop := unifyMostRow.holds Try.pinned (OpenSpec.ofChange unifyMostWrong)

/-- 'finiallaw04.UnifyStores': WHATEVER THE INPUT: true; the input reads as it did. -/
def unifyStoresSpec : ChangeSpec := { name := "unifyStores", fn := fun _ => fun
  | [d1, d2] => { results := [.lit (.bool true)], args := [d1, d2] }
  | _ => none }
def unifyStoresRow : OpenClaim := { program := "ytppghekipbnjhaa", sum := "6082f7c9153d7e0be1a18bd42b825888993ecf40b580ba6cf18367dd182af0e7", func := "finial/finiallaw04.UnifyStores", spec := "unifyStores", unfollowed := true, recurses := true, loops := true, plainKeys := false, apart := false }
def UnifyStoresSaid : Prop := unifyStoresRow.holds Try.pinned (OpenSpec.ofChange unifyStoresSpec)

/-- ITS FALSE NEIGHBOUR: 'it returns false'. Refute it at one input. -/
def unifyStoresWrong : ChangeSpec := { name := "unifyStores", fn := fun _ => fun
  | [d1, d2] => { results := [.lit (.bool false)], args := [d1, d2] }
  | _ => none }
def UnifyStoresWrongFalsely : Prop := unifyStoresRow.holds Try.pinned (OpenSpec.ofChange unifyStoresWrong)

/-- 'finiallaw04.UnifyTurns': WHATEVER THE INPUT: true; the input reads as it did. -/
def unifyTurnsSpec : ChangeSpec := { name := "unifyTurns", fn := fun _ => fun
  | [d1, d2, d3] => { results := [.lit (.bool true)], args := [d1, d2, d3] }
  | _ => none }
def unifyTurnsRow : OpenClaim := { program := "ytppghekipbnjhaa", sum := "6082f7c9153d7e0be1a18bd42b825888993ecf40b580ba6cf18367dd182af0e7", func := "finial/finiallaw04.UnifyTurns", spec := "unifyTurns", unfollowed := true, recurses := true, loops := true, plainKeys := false, apart := false }
def UnifyTurnsSaid : Prop := unifyTurnsRow.holds Try.pinned (OpenSpec.ofChange unifyTurnsSpec)

/-- ITS FALSE NEIGHBOUR: 'it returns false'. Refute it at one input. -/
def unifyTurnsWrong : ChangeSpec := { name := "unifyTurns", fn := fun _ => fun
  | [d1, d2, d3] => { results := [.lit (.bool false)], args := [d1, d2, d3] }
  | _ => none }
def UnifyTurnsWrongFalsely : Prop := unifyTurnsRow.holds Try.pinned (OpenSpec.ofChange unifyTurnsWrong)

/- THE SECOND FORM. 'bulk': how many values and letters a reading holds, each counted each time it is reached (what is shared counts as often as it is met; a slice's spare places count too). A statement '..UptoSaid' is the law's where the arguments, and the package variables that the reading takes, are together of bulk at most 1048576: NARROWER than '..Said'. Prove '..Said' where nothing that the law and all that it calls make is longer than what came in: it says more and counts as full. Else prove '..UptoSaid'. A law counts once. -/
mutual
def uptoBulk {H : Type} : DataW H → Nat
  | .lit (.string bytes) => bytes.length + 1
  | .lit _ => 1
  | .nil => 1
  | .ptr d => uptoBulk d + 1
  | .slice elems spare => uptoBulkAll elems + uptoBulkAll spare + 1
  | .agg parts => uptoBulkAll parts + 1
  | .iface _ d => uptoBulk d + 1
  | .map entries => uptoBulkEntries entries + 1
  | .held _ => 1
def uptoBulkAll {H : Type} : List (DataW H) → Nat
  | [] => 0
  | d :: r => uptoBulk d + uptoBulkAll r
def uptoBulkEntries {H : Type} : List (Lit × DataW H) → Nat
  | [] => 0
  | x :: r => uptoBulkEntry x + uptoBulkEntries r
def uptoBulkEntry {H : Type} : Lit × DataW H → Nat
  | (.string bytes, d) => bytes.length + uptoBulk d + 1
  | (_, d) => uptoBulk d + 1
 end
def uptoSmall : (H : Type) → List (DataW H) → Bool := fun _ ds => decide (uptoBulkAll ds ≤ 1048576)
def OpenSpec.upto (s : _root_.Go.ChangeSpec) : _root_.Go.OpenSpec := { _root_.Go.OpenSpec.ofChange s with cond := some uptoSmall }

/-- 'finiallaw06.MsgFinds', WHERE WHAT IT READS IS OF BULK AT MOST 1048576: true; the input reads as it did. -/
def msgFindsUptoRow : OpenClaim := { program := "ytppghekipbnjhaa", sum := "6082f7c9153d7e0be1a18bd42b825888993ecf40b580ba6cf18367dd182af0e7", func := "finial/finiallaw06.MsgFinds", spec := "msgFinds", unfollowed := true, recurses := true, loops := true, plainKeys := false, apart := false, narrowed := true }
def MsgFindsUptoSaid : Prop := msgFindsUptoRow.holds Try.pinned (OpenSpec.upto msgFindsSpec)

/-- 'finiallaw06.MsgAll', WHERE WHAT IT READS IS OF BULK AT MOST 1048576: true; the input reads as it did. -/
def msgAllUptoRow : OpenClaim := { program := "ytppghekipbnjhaa", sum := "6082f7c9153d7e0be1a18bd42b825888993ecf40b580ba6cf18367dd182af0e7", func := "finial/finiallaw06.MsgAll", spec := "msgAll", unfollowed := true, recurses := true, loops := true, plainKeys := false, apart := false, narrowed := true }
def MsgAllUptoSaid : Prop := msgAllUptoRow.holds Try.pinned (OpenSpec.upto msgAllSpec)

/-- 'finiallaw06.MsgLeast', WHERE WHAT IT READS IS OF BULK AT MOST 1048576: true; the input reads as it did. -/
def msgLeastUptoRow : OpenClaim := { program := "ytppghekipbnjhaa", sum := "6082f7c9153d7e0be1a18bd42b825888993ecf40b580ba6cf18367dd182af0e7", func := "finial/finiallaw06.MsgLeast", spec := "msgLeast", unfollowed := true, recurses := true, loops := true, plainKeys := false, apart := false, narrowed := true }
def MsgLeastUptoSaid : Prop := msgLeastUptoRow.holds Try.pinned (OpenSpec.upto msgLeastSpec)

/-- 'finiallaw06.MsgTurns', WHERE WHAT IT READS IS OF BULK AT MOST 1048576: true; the input reads as it did. -/
def msgTurnsUptoRow : OpenClaim := { program := "ytppghekipbnjhaa", sum := "6082f7c9153d7e0be1a18bd42b825888993ecf40b580ba6cf18367dd182af0e7", func := "finial/finiallaw06.MsgTurns", spec := "msgTurns", unfollowed := true, recurses := true, loops := true, plainKeys := false, apart := false, narrowed := true }
def MsgTurnsUptoSaid : Prop := msgTurnsUptoRow.holds Try.pinned (OpenSpec.upto msgTurnsSpec)

/-- 'finiallaw07.EmbedTells', WHERE WHAT IT READS IS OF BULK AT MOST 1048576: true; the input reads as it did. -/
def embedTellsUptoRow : OpenClaim := { program := "ytppghekipbnjhaa", sum := "6082f7c9153d7e0be1a18bd42b825888993ecf40b580ba6cf18367dd182af0e7", func := "finial/finiallaw07.EmbedTells", spec := "embedTells", unfollowed := true, recurses := true, loops := true, plainKeys := false, apart := false, narrowed := true }
def EmbedTellsUptoSaid : Prop := embedTellsUptoRow.holds Try.pinned (OpenSpec.upto embedTellsSpec)

/-- 'finiallaw07.EmbedOrders', WHERE WHAT IT READS IS OF BULK AT MOST 1048576: true; the input reads as it did. -/
def embedOrdersUptoRow : OpenClaim := { program := "ytppghekipbnjhaa", sum := "6082f7c9153d7e0be1a18bd42b825888993ecf40b580ba6cf18367dd182af0e7", func := "finial/finiallaw07.EmbedOrders", spec := "embedOrders", unfollowed := true, recurses := true, loops := true, plainKeys := false, apart := false, narrowed := true }
def EmbedOrdersUptoSaid : Prop := embedOrdersUptoRow.holds Try.pinned (OpenSpec.upto embedOrdersSpec)

/-- 'finiallaw07.EmbedGrows', WHERE WHAT IT READS IS OF BULK AT MOST 1048576: true; the input reads as it did. -/
def embedGrowsUptoRow : OpenClaim := { program := "ytppghekipbnjhaa", sum := "6082f7c9153d7e0be1a18bd42b825888993ecf40b580ba6cf18367dd182af0e7", func := "finial/finiallaw07.EmbedGrows", spec := "embedGrows", unfollowed := true, recurses := true, loops := true, plainKeys := false, apart := false, narrowed := true }
def EmbedGrowsUptoSaid : Prop := embedGrowsUptoRow.holds Try.pinned (OpenSpec.upto embedGrowsSpec)

/-- 'finiallaw04.UnifyFinds', WHERE WHAT IT READS IS OF BULK AT MOST 1048576: true; the input reads as it did. -/
def unifyFindsUptoRow : OpenClaim := { program := "ytppghekipbnjhaa", sum := "6082f7c9153d7e0be1a18bd42b825888993ecf40b580ba6cf18367dd182af0e7", func := "finial/finiallaw04.UnifyFinds", spec := "unifyFinds", unfollowed := true, recurses := true, loops := true, plainKeys := false, apart := false, narrowed := true }
def UnifyFindsUptoSaid : Prop := unifyFindsUptoRow.holds Try.pinned (OpenSpec.upto unifyFindsSpec)

/-- 'finiallaw04.UnifyMost', WHERE WHAT IT READS IS OF BULK AT MOST 1048576: true; the input reads as it did. -/
def unifyMostUptoRow : OpenClaim := { program := "ytppghekipbnjhaa", sum := "6082f7c9153d7e0be1a18bd42b825888993ecf40b580ba6cf18367dd182af0e7", func := "finial/finiallaw04.UnifyMost", spec := "unifyMost", unfollowed := true, recurses := true, loops := true, plainKeys := false, apart := false, narrowed := true }
def UnifyMostUptoSaid : Prop := unifyMostUptoRow.holds Try.pinned (OpenSpec.upto unifyMostSpec)

/-- 'finiallaw04.UnifyStores', WHERE WHAT IT READS IS OF BULK AT MOST 1048576: true; the input reads as it did. -/
def unifyStoresUptoRow : OpenClaim := { program := "ytppghekipbnjhaa", sum := "6082f7c9153d7e0be1a18bd42b825888993ecf40b580ba6cf18367dd182af0e7", func := "finial/finiallaw04.UnifyStores", spec := "unifyStores", unfollowed := true, recurses := true, loops := true, plainKeys := false, apart := false, narrowed := true }
def UnifyStoresUptoSaid : Prop := unifyStoresUptoRow.holds Try.pinned (OpenSpec.upto unifyStoresSpec)

/-- 'finiallaw04.UnifyTurns', WHERE WHAT IT READS IS OF BULK AT MOST 1048576: true; the input reads as it did. -/
def unifyTurnsUptoRow : OpenClaim := { program := "ytppghekipbnjhaa", sum := "6082f7c9153d7e0be1a18bd42b825888993ecf40b580ba6cf18367dd182af0e7", func := "finial/finiallaw04.UnifyTurns", spec := "unifyTurns", unfollowed := true, recurses := true, loops := true, plainKeys := false, apart := false, narrowed := true }
def UnifyTurnsUptoSaid : Prop := unifyTurnsUptoRow.holds Try.pinned (OpenSpec.upto unifyTurnsSpec)

end Rows
end Go.Proofs.Ytppghekipbnjhaa
