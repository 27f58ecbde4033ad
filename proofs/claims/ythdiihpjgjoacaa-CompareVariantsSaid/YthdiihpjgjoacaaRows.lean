/-
  NARROWER THAN 'FOR EVERY INPUT', by the rows' own cells (each row's printed sentence says how): CompareTells: loops · CompareSorts: loops · MsgAll: loops · MsgLeast: loops · CompareOrders: loops · MsgTurns: loops · CompareVariants: loops · UnifyFinds: loops · UnifyMost: loops · UnifyStores: loops · UnifyTurns: loops.
  DERIVED. THE GIVEN ROWS OF THIS SEAT. 11 by the template 'for every input the law returns true; each argument reads behind the call as it read before'; 0 by the template 'total and deterministic' (their statements: YthdiihpjgjoacaaTotals.lean).
  GIVEN WITH THE SEED: the statements are not yours to turn. If you find one false, say at which input.
  Laid BY PROGRAM, IN A SANDBOX (cutbox-rows.mjs): the forced cells as the released guide's own fill.sh prints them over the translation f355fb8dcd6036ac… (all of the seat's roots in one cut). By AI agents, Wed Nov 11 2026. No macro, syntax, notation, axiom, sorry.
-/
import Derived.Test.YthdiihpjgjoacaaChecked
import GoSem.Claim
import GoSem.ClaimJoined
import GoSem.ClaimMapViews
import Derived.JoinedTies
import Derived.KernelRfl
namespace Go.Proofs.Ythdiihpjgjoacaa
/- THE CELL 'sum', in the pinned program and in every row, IS THE sha256 OF THE DUMP (.gsa) THAT YthdiihpjgjoacaaProg.lean LOADS. Nothing in Lean hashes anything: it is a label: what it is worth is what the hold of that sum in a sandbox is worth. -/
noncomputable def Try.pinned : Pinned := { name := "ythdiihpjgjoacaa", sum := "f355fb8dcd6036acaf24097e3c9c06cb90a532a2a3e20fddd89c31b855f85ef3", checked := Try.checked }
namespace Rows
def none {H : Type} : Left H := { results := [], args := [] }

/-- 'finiallaw02.CompareTells': WHATEVER THE INPUT: true; the input reads as it did. -/
def compareTellsSpec : ChangeSpec := { name := "compareTells", fn := fun _ => fun
  | [d1, d2] => { results := [.lit (.bool true)], args := [d1, d2] }
  | _ => none }
def compareTellsRow : OpenClaim := { program := "ythdiihpjgjoacaa", sum := "f355fb8dcd6036acaf24097e3c9c06cb90a532a2a3e20fddd89c31b855f85ef3", func := "finial/finiallaw02.CompareTells", spec := "compareTells", unfollowed := true, recurses := true, loops := true, plainKeys := false, apart := false }
def CompareTellsSaid : Prop := compareTellsRow.holds Try.pinned (OpenSpec.ofChange compareTellsSpec)

/-- ITS FALSE NEIGHBOUR: 'it returns false'. Refute it at one input. -/
def compareTellsWrong : ChangeSpec := { name := "compareTells", fn := fun _ => fun
  | [d1, d2] => { results := [.lit (.bool false)], args := [d1, d2] }
  | _ => none }
def CompareTellsWrongFalsely : Prop := compareTellsRow.holds Try.pinned (OpenSpec.ofChange compareTellsWrong)

/-- 'finiallaw02.CompareSorts': WHATEVER THE INPUT: true; the input reads as it did. -/
def compareSortsSpec : ChangeSpec := { name := "compareSorts", fn := fun _ => fun
  | [d] => { results := [.lit (.bool true)], args := [d] }
  | _ => none }
def compareSortsRow : OpenClaim := { program := "ythdiihpjgjoacaa", sum := "f355fb8dcd6036acaf24097e3c9c06cb90a532a2a3e20fddd89c31b855f85ef3", func := "finial/finiallaw02.CompareSorts", spec := "compareSorts", unfollowed := true, recurses := true, loops := true, plainKeys := false, apart := false }
def CompareSortsSaid : Prop := compareSortsRow.holds Try.pinned (OpenSpec.ofChange compareSortsSpec)

/-- ITS FALSE NEIGHBOUR: 'it returns false'. Refute it at one input. -/
def compareSortsWrong : ChangeSpec := { name := "compareSorts", fn := fun _ => fun
  | [d] => { results := [.lit (.bool false)], args := [d] }
  | _ => none }
def CompareSortsWrongFalsely : Prop := compareSortsRow.holds Try.pinned (OpenSpec.ofChange compareSortsWrong)

/-- 'finiallaw06.MsgAll': WHATEVER THE INPUT: true; the input reads as it did. -/
def msgAllSpec : ChangeSpec := { name := "msgAll", fn := fun _ => fun
  | [d] => { results := [.lit (.bool true)], args := [d] }
  | _ => none }
def msgAllRow : OpenClaim := { program := "ythdiihpjgjoacaa", sum := "f355fb8dcd6036acaf24097e3c9c06cb90a532a2a3e20fddd89c31b855f85ef3", func := "finial/finiallaw06.MsgAll", spec := "msgAll", unfollowed := true, recurses := true, loops := true, plainKeys := false, apart := false }
def MsgAllSaid : Prop := msgAllRow.holds Try.pinned (OpenSpec.ofChange msgAllSpec)

/-- ITS FALSE NEIGHBOUR: 'it returns false'. Refute it at one input. -/
def msgAllWrong : ChangeSpec := { name := "msgAll", fn := fun _ => fun
  | [d] => { results := [.lit (.bool false)], args := [d] }
  | _ => none }
def MsgAllWrongFalsely : Prop := msgAllRow.holds Try.pinned (OpenSpec.ofChange msgAllWrong)

/-- 'finiallaw06.MsgLeast': WHATEVER THE INPUT: true; the input reads as it did. -/
def msgLeastSpec : ChangeSpec := { name := "msgLeast", fn := fun _ => fun
  | [d1, d2, d3] => { results := [.lit (.bool true)], args := [d1, d2, d3] }
  | _ => none }
def msgLeastRow : OpenClaim := { program := "ythdiihpjgjoacaa", sum := "f355fb8dcd6036acaf24097e3c9c06cb90a532a2a3e20fddd89c31b855f85ef3", func := "finial/finiallaw06.MsgLeast", spec := "msgLeast", unfollowed := true, recurses := true, loops := true, plainKeys := false, apart := false }
def MsgLeastSaid : Prop := msgLeastRow.holds Try.pinned (OpenSpec.ofChange msgLeastSpec)

/-- ITS FALSE NEIGHBOUR: 'it returns false'. Refute it at one input. -/
def msgLeastWrong : ChangeSpec := { name := "msgLeast", fn := fun _ => fun
  | [d1, d2, d3] => { results := [.lit (.bool false)], args := [d1, d2, d3] }
  | _ => none }
def MsgLeastWrongFalsely : Prop := msgLeastRow.holds Try.pinned (OpenSpec.ofChange msgLeastWrong)

/-- 'finiallaw02.CompareOrders': WHATEVER THE INPUT: true; the input reads as it did. -/
def compareOrdersSpec : ChangeSpec := { name := "compareOrders", fn := fun _ => fun
  | [d1, d2, d3] => { results := [.lit (.bool true)], args := [d1, d2, d3] }
  | _ => none }
def compareOrdersRow : OpenClaim := { program := "ythdiihpjgjoacaa", sum := "f355fb8dcd6036acaf24097e3c9c06cb90a532a2a3e20fddd89c31b855f85ef3", func := "finial/finiallaw02.CompareOrders", spec := "compareOrders", unfollowed := true, recurses := true, loops := true, plainKeys := false, apart := false }
def CompareOrdersSaid : Prop := compareOrdersRow.holds Try.pinned (OpenSpec.ofChange compareOrdersSpec)

/-- ITS FALSE NEIGHBOUR: 'it returns false'. Refute it at one input. -/
def compareOrdersWrong : ChangeSpec := { name := "compareOrders", fn := fun _ => fun
  | [d1, d2, d3] => { results := [.lit (.bool false)], args := [d1, d2, d3] }
  | _ => none }
def CompareOrdersWrongFalsely : Prop := compareOrdersRow.holds Try.pinned (OpenSpec.ofChange compareOrdersWrong)

/-- 'finiallaw06.MsgTurns': WHATEVER THE INPUT: true; the input reads as it did. -/
def msgTurnsSpec : ChangeSpec := { name := "msgTurns", fn := fun _ => fun
  | [d1, d2] => { results := [.lit (.bool true)], args := [d1, d2] }
  | _ => none }
def msgTurnsRow : OpenClaim := { program := "ythdiihpjgjoacaa", sum := "f355fb8dcd6036acaf24097e3c9c06cb90a532a2a3e20fddd89c31b855f85ef3", func := "finial/finiallaw06.MsgTurns", spec := "msgTurns", unfollowed := true, recurses := true, loops := true, plainKeys := false, apart := false }
def MsgTurnsSaid : Prop := msgTurnsRow.holds Try.pinned (OpenSpec.ofChange msgTurnsSpec)

/-- ITS FALSE NEIGHBOUR: 'it returns false'. Refute it at one input. -/
def msgTurnsWrong : ChangeSpec := { name := "msgTurns", fn := fun _ => fun
  | [d1, d2] => { results := [.lit (.bool false)], args := [d1, d2] }
  | _ => none }
def MsgTurnsWrongFalsely : Prop := msgTurnsRow.holds Try.pinned (OpenSpec.ofChange msgTurnsWrong)

/-- 'finiallaw02.CompareVariants': WHATEVER THE INPUT: true; the input reads as it did. -/
def compareVariantsSpec : ChangeSpec := { name := "compareVariants", fn := fun _ => fun
  | [d1, d2, d3] => { results := [.lit (.bool true)], args := [d1, d2, d3] }
  | _ => none }
def compareVariantsRow : OpenClaim := { program := "ythdiihpjgjoacaa", sum := "f355fb8dcd6036acaf24097e3c9c06cb90a532a2a3e20fddd89c31b855f85ef3", func := "finial/finiallaw02.CompareVariants", spec := "compareVariants", unfollowed := true, recurses := true, loops := true, plainKeys := false, apart := false }
def CompareVariantsSaid : Prop := compareVariantsRow.holds Try.pinned (OpenSpec.ofChange compareVariantsSpec)

/-- ITS FALSE NEIGHBOUR: 'it returns false'. Refute it at one input. -/
def compareVariantsWrong : ChangeSpec := { name := "compareVariants", fn := fun _ => fun
  | [d1, d2, d3] => { results := [.lit (.bool false)], args := [d1, d2, d3] }
  | _ => none }
def CompareVariantsWrongFalsely : Prop := compareVariantsRow.holds Try.pinned (OpenSpec.ofChange compareVariantsWrong)

/-- 'finiallaw04.UnifyFinds': WHATEVER THE INPUT: true; the input reads as it did. -/
def unifyFindsSpec : ChangeSpec := { name := "unifyFinds", fn := fun _ => fun
  | [d1, d2] => { results := [.lit (.bool true)], args := [d1, d2] }
  | _ => none }
def unifyFindsRow : OpenClaim := { program := "ythdiihpjgjoacaa", sum := "f355fb8dcd6036acaf24097e3c9c06cb90a532a2a3e20fddd89c31b855f85ef3", func := "finial/finiallaw04.UnifyFinds", spec := "unifyFinds", unfollowed := true, recurses := true, loops := true, plainKeys := false, apart := false }
def UnifyFindsSaid : Prop := unifyFindsRow.holds Try.pinned (OpenSpec.ofChange unifyFindsSpec)

/-- ITS FALSE NEIGHBOUR: 'it returns false'. Refute it at one input. -/
def unifyFindsWrong : ChangeSpec := { name := "unifyFinds", fn := fun _ => fun
  | [d1, d2] => { results := [.lit (.bool false)], args := [d1, d2] }
  | _ => none }
def UnifyFindsWrongFalsely : Prop := unifyFindsRow.holds Try.pinned (OpenSpec.ofChange unifyFindsWrong)

/-- 'finiallaw04.UnifyMost': WHATEVER THE INPUT: true; the input reads as it did. -/
def unifyMostSpec : ChangeSpec := { name := "unifyMost", fn := fun _ => fun
  | [d1, d2, d3] => { results := [.lit (.bool true)], args := [d1, d2, d3] }
  | _ => none }
def unifyMostRow : OpenClaim := { program := "ythdiihpjgjoacaa", sum := "f355fb8dcd6036acaf24097e3c9c06cb90a532a2a3e20fddd89c31b855f85ef3", func := "finial/finiallaw04.UnifyMost", spec := "unifyMost", unfollowed := true, recurses := true, loops := true, plainKeys := false, apart := false }
def UnifyMostSaid : Prop := unifyMostRow.holds Try.pinned (OpenSpec.ofChange unifyMostSpec)

/-- ITS FALSE NEIGHBOUR: 'it returns false'. Refute it at one input. -/
def unifyMostWrong : ChangeSpec := { name := "unifyMost", fn := fun _ => fun
  | [d1, d2, d3] => { results := [.lit (.bool false)], args := [d1, d2, d3] }
  | _ => none }
def UnifyMostWrongFalsely : Prop := unifyMostRow.holds Try.pinned (OpenSpec.ofChange unifyMostWrong)

/-- 'finiallaw04.UnifyStores': WHATEVER THE INPUT: true; the input reads as it did. -/
def unifyStoresSpec : ChangeSpec := { name := "unifyStores", fn := fun _ => fun
  | [d1, d2] => { results := [.lit (.bool true)], args := [d1, d2] }
  | _ => none }
def unifyStoresRow : OpenClaim := { program := "ythdiihpjgjoacaa", sum := "f355fb8dcd6036acaf24097e3c9c06cb90a532a2a3e20fddd89c31b855f85ef3", func := "finial/finiallaw04.UnifyStores", spec := "unifyStores", unfollowed := true, recurses := true, loops := true, plainKeys := false, apart := false }
def UnifyStoresSaid : Prop := unifyStoresRow.holds Try.pinned (OpenSpec.ofChange unifyStoresSpec)

/-- ITS FALSE NEIGHBOUR: 'it returns false'. Refute it at one input. -/
def unifyStoresWrong : ChangeSpec := { name := "unifyStores", fn := fun _ => fun
  | [d1, d2] => { results := [.lit (.bool false)], args := [d1, d2] }
  | _ => none }
def UnifyStoresWrongFalsely : Prop := unifyStoresRow.holds Try.pinned (OpenSpec.ofChange unifyStoresWrong)

/-- 'finiallaw04.UnifyTurns': WHATEVER THE INPUT: true; the input reads as it did. -/
def unifyTurnsSpec : ChangeSpec := { name := "unifyTurns", fn := fun _ => fun
  | [d1, d2, d3] => { results := [.lit (.bool true)], args := [d1, d2, d3] }
  | _ => none }
def unifyTurnsRow : OpenClaim := { program := "ythdiihpjgjoacaa", sum := "f355fb8dcd6036acaf24097e3c9c06cb90a532a2a3e20fddd89c31b855f85ef3", func := "finial/finiallaw04.UnifyTurns", spec := "unifyTurns", unfollowed := true, recurses := true, loops := true, plainKeys := false, apart := false }
def UnifyTurnsSaid : Prop := unifyTurnsRow.holds Try.pinned (OpenSpec.ofChange unifyTurnsSpec)

/-- ITS FALSE NEIGHBOUR: 'it returns false'. Refute it at one input. -/
def unifyTurnsWrong : ChangeSpec := { name := "unifyTurns", fn := fun _ => fun
  | [d1, d2, d3] => { results := [.lit (.bool false)], args := [d1, d2, d3] }
  | _ => none }
def UnifyTurnsWrongFalsely : Prop := unifyTurnsRow.holds Try.pinned (OpenSpec.ofChange unifyTurnsWrong)

/- THE SECOND FORM. 'bulk': how many values and letters a reading holds, each counted each time it is reached (what is shared counts as often as it is met; a slice's spare places count too). A statement '..UptoSaid' is the law's where the arguments, and the package variables that the reading takes, are together of bulk at most 1048576: NARROWER than '..Said'. Prove '..Said' where nothing that the law and all that it calls make is longer than what came in: it says more and counts as full. Else prove '..UptoSaid'. A law counts once. -/
mutual
def uptoBulk {H : Type} : DataW H → Nat
  | .lit (.string bytes) => bytes.length + 1
  | .lit _ => 1
  | .nil => 1
  | .ptr d => uptoBulk d + 1
  | .slice elems spare => uptoBulkAll elems + uptoBulkAll spare + 1
  | .agg parts => uptoBulkAll parts + 1
  | .iface _ d => uptoBulk d + 1
  | .map entries => uptoBulkEntries entries + 1
  | .held _ => 1
def uptoBulkAll {H : Type} : List (DataW H) → Nat
  | [] => 0
  | d :: r => uptoBulk d + uptoBulkAll r
def uptoBulkEntries {H : Type} : List (Lit × DataW H) → Nat
  | [] => 0
  | x :: r => uptoBulkEntry x + uptoBulkEntries r
def uptoBulkEntry {H : Type} : Lit × DataW H → Nat
  | (.string bytes, d) => bytes.length + uptoBulk d + 1
  | (_, d) => uptoBulk d + 1
 end
def uptoSmall : (H : Type) → List (DataW H) → Bool := fun _ ds => decide (uptoBulkAll ds ≤ 1048576)
def OpenSpec.upto (s : _root_.Go.ChangeSpec) : _root_.Go.OpenSpec := { _root_.Go.OpenSpec.ofChange s with cond := some uptoSmall }

/-- 'finiallaw02.CompareTells', WHERE WHAT IT READS IS OF BULK AT MOST 1048576: true; the input reads as it did. -/
def compareTellsUptoRow : OpenClaim := { program := "ythdiihpjgjoacaa", sum := "f355fb8dcd6036acaf24097e3c9c06cb90a532a2a3e20fddd89c31b855f85ef3", func := "finial/finiallaw02.CompareTells", spec := "compareTells", unfollowed := true, recurses := true, loops := true, plainKeys := false, apart := false, narrowed := true }
def CompareTellsUptoSaid : Prop := compareTellsUptoRow.holds Try.pinned (OpenSpec.upto compareTellsSpec)

/-- 'finiallaw02.CompareSorts', WHERE WHAT IT READS IS OF BULK AT MOST 1048576: true; the input reads as it did. -/
def compareSortsUptoRow : OpenClaim := { program := "ythdiihpjgjoacaa", sum := "f355fb8dcd6036acaf24097e3c9c06cb90a532a2a3e20fddd89c31b855f85ef3", func := "finial/finiallaw02.CompareSorts", spec := "compareSorts", unfollowed := true, recurses := true, loops := true, plainKeys := false, apart := false, narrowed := true }
def CompareSortsUptoSaid : Prop := compareSortsUptoRow.holds Try.pinned (OpenSpec.upto compareSortsSpec)

/-- 'finiallaw06.MsgAll', WHERE WHAT IT READS IS OF BULK AT MOST 1048576: true; the input reads as it did. -/
def msgAllUptoRow : OpenClaim := { program := "ythdiihpjgjoacaa", sum := "f355fb8dcd6036acaf24097e3c9c06cb90a532a2a3e20fddd89c31b855f85ef3", func := "finial/finiallaw06.MsgAll", spec := "msgAll", unfollowed := true, recurses := true, loops := true, plainKeys := false, apart := false, narrowed := true }
def MsgAllUptoSaid : Prop := msgAllUptoRow.holds Try.pinned (OpenSpec.upto msgAllSpec)

/-- 'finiallaw06.MsgLeast', WHERE WHAT IT READS IS OF BULK AT MOST 1048576: true; the input reads as it did. -/
def msgLeastUptoRow : OpenClaim := { program := "ythdiihpjgjoacaa", sum := "f355fb8dcd6036acaf24097e3c9c06cb90a532a2a3e20fddd89c31b855f85ef3", func := "finial/finiallaw06.MsgLeast", spec := "msgLeast", unfollowed := true, recurses := true, loops := true, plainKeys := false, apart := false, narrowed := true }
def MsgLeastUptoSaid : Prop := msgLeastUptoRow.holds Try.pinned (OpenSpec.upto msgLeastSpec)

/-- 'finiallaw02.CompareOrders', WHERE WHAT IT READS IS OF BULK AT MOST 1048576: true; the input reads as it did. -/
def compareOrdersUptoRow : OpenClaim := { program := "ythdiihpjgjoacaa", sum := "f355fb8dcd6036acaf24097e3c9c06cb90a532a2a3e20fddd89c31b855f85ef3", func := "finial/finiallaw02.CompareOrders", spec := "compareOrders", unfollowed := true, recurses := true, loops := true, plainKeys := false, apart := false, narrowed := true }
def CompareOrdersUptoSaid : Prop := compareOrdersUptoRow.holds Try.pinned (OpenSpec.upto compareOrdersSpec)

/-- 'finiallaw06.MsgTurns', WHERE WHAT IT READS IS OF BULK AT MOST 1048576: true; the input reads as it did. -/
def msgTurnsUptoRow : OpenClaim := { program := "ythdiihpjgjoacaa", sum := "f355fb8dcd6036acaf24097e3c9c06cb90a532a2a3e20fddd89c31b855f85ef3", func := "finial/finiallaw06.MsgTurns", spec := "msgTurns", unfollowed := true, recurses := true, loops := true, plainKeys := false, apart := false, narrowed := true }
def MsgTurnsUptoSaid : Prop := msgTurnsUptoRow.holds Try.pinned (OpenSpec.upto msgTurnsSpec)

/-- 'finiallaw02.CompareVariants', WHERE WHAT IT READS IS OF BULK AT MOST 1048576: true; the input reads as it did. -/
def compareVariantsUptoRow : OpenClaim := { program := "ythdiihpjgjoacaa", sum := "f355fb8dcd6036acaf24097e3c9c06cb90a532a2a3e20fddd89c31b855f85ef3", func := "finial/finiallaw02.CompareVariants", spec := "compareVariants", unfollowed := true, recurses := true, loops := true, plainKeys := false, apart := false, narrowed := true }
def CompareVariantsUptoSaid : Prop := compareVariantsUptoRow.holds Try.pinned (OpenSpec.upto compareVariantsSpec)

/-- 'finiallaw04.UnifyFinds', WHERE WHAT IT READS IS OF BULK AT MOST 1048576: true; the input reads as it did. -/
def unifyFindsUptoRow : OpenClaim := { program := "ythdiihpjgjoacaa", sum := "f355fb8dcd6036acaf24097e3c9c06cb90a532a2a3e20fddd89c31b855f85ef3", func := "finial/finiallaw04.UnifyFinds", spec := "unifyFinds", unfollowed := true, recurses := true, loops := true, plainKeys := false, apart := false, narrowed := true }
def UnifyFindsUptoSaid : Prop := unifyFindsUptoRow.holds Try.pinned (OpenSpec.upto unifyFindsSpec)

/-- 'finiallaw04.UnifyMost', WHERE WHAT IT READS IS OF BULK AT MOST 1048576: true; the input reads as it did. -/
def unifyMostUptoRow : OpenClaim := { program := "ythdiihpjgjoacaa", sum := "f355fb8dcd6036acaf24097e3c9c06cb90a532a2a3e20fddd89c31b855f85ef3", func := "finial/finiallaw04.UnifyMost", spec := "unifyMost", unfollowed := true, recurses := true, loops := true, plainKeys := false, apart := false, narrowed := true }
def UnifyMostUptoSaid : Prop := unifyMostUptoRow.holds Try.pinned (OpenSpec.upto unifyMostSpec)

/-- 'finiallaw04.UnifyStores', WHERE WHAT IT READS IS OF BULK AT MOST 1048576: true; the input reads as it did. -/
def unifyStoresUptoRow : OpenClaim := { program := "ythdiihpjgjoacaa", sum := "f355fb8dcd6036acaf24097e3c9c06cb90a532a2a3e20fddd89c31b855f85ef3", func := "finial/finiallaw04.UnifyStores", spec := "unifyStores", unfollowed := true, recurses := true, loops := true, plainKeys := false, apart := false, narrowed := true }
def UnifyStoresUptoSaid : Prop := unifyStoresUptoRow.holds Try.pinned (OpenSpec.upto unifyStoresSpec)

/-- 'finiallaw04.UnifyTurns', WHERE WHAT IT READS IS OF BULK AT MOST 1048576: true; the input reads as it did. -/
def unifyTurnsUptoRow : OpenClaim := { program := "ythdiihpjgjoacaa", sum := "f355fb8dcd6036acaf24097e3c9c06cb90a532a2a3e20fddd89c31b855f85ef3", func := "finial/finiallaw04.UnifyTurns", spec := "unifyTurns", unfollowed := true, recurses := true, loops := true, plainKeys := false, apart := false, narrowed := true }
def UnifyTurnsUptoSaid : Prop := unifyTurnsUptoRow.holds Try.pinned (OpenSpec.upto unifyTurnsSpec)

end Rows
end Go.Proofs.Ythdiihpjgjoacaa
