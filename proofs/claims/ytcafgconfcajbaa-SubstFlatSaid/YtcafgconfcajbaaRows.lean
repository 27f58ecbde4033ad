/-
  NARROWER THAN 'FOR EVERY INPUT', by the rows' own cells (each row's printed sentence says how): MatchFills: loops · MatchBack: loops · MatchOrders: loops · SubstApplies: loops · SubstEnds: loops · SubstRights: loops · SubstFlat: loops · ArithEvals: loops.
  DERIVED. THE GIVEN ROWS OF THIS SEAT. 11 by the template 'for every input the law returns true; each argument reads behind the call as it read before'; 0 by the template 'total and deterministic' (their statements: YtcafgconfcajbaaTotals.lean).
  GIVEN WITH THE SEED: the statements are not yours to turn. If you find one false, say at which input.
  Laid BY PROGRAM, IN A SANDBOX (cutbox-rows.mjs): the forced cells as the released guide's own fill.sh prints them over the translation ff8455108311d664… (all of the seat's roots in one cut). By AI agents, Wed Nov 11 2026. No macro, syntax, notation, axiom, sorry.
-/
import Derived.Test.YtcafgconfcajbaaChecked
import GoSem.Claim
import GoSem.ClaimJoined
import GoSem.ClaimMapViews
import Derived.JoinedTies
import Derived.KernelRfl
namespace Go.Proofs.Ytcafgconfcajbaa
/- THE CELL 'sum', in the pinned program and in every row, IS THE sha256 OF THE DUMP (.gsa) THAT YtcafgconfcajbaaProg.lean LOADS. Nothing in Lean hashes anything: it is a label: what it is worth is what the hold of that sum in a sandbox is worth. -/
noncomputable def Try.pinned : Pinned := { name := "ytcafgconfcajbaa", sum := "ff8455108311d6647b1b9a0a3aefc1230324740d12f744bfa3a335c99791a58a", checked := Try.checked }
namespace Rows
def none {H : Type} : Left H := { results := [], args := [] }

/-- 'finiallaw05.MatchFills': WHATEVER THE INPUT: true; the input reads as it did. -/
def matchFillsSpec : ChangeSpec := { name := "matchFills", fn := fun _ => fun
  | [d1, d2] => { results := [.lit (.bool true)], args := [d1, d2] }
  | _ => none }
def matchFillsRow : OpenClaim := { program := "ytcafgconfcajbaa", sum := "ff8455108311d6647b1b9a0a3aefc1230324740d12f744bfa3a335c99791a58a", func := "finial/finiallaw05.MatchFills", spec := "matchFills", unfollowed := true, recurses := true, loops := true, apart := false }
def MatchFillsSaid : Prop := matchFillsRow.holds Try.pinned (OpenSpec.ofChange matchFillsSpec)

/-- ITS FALSE NEIGHBOUR: 'it returns false'. Refute it at one input. -/
def matchFillsWrong : ChangeSpec := { name := "matchFills", fn := fun _ => fun
  | [d1, d2] => { results := [.lit (.bool false)], args := [d1, d2] }
  | _ => none }
def MatchFillsWrongFalsely : Prop := matchFillsRow.holds Try.pinned (OpenSpec.ofChange matchFillsWrong)

/-- 'finiallaw05.MatchBack': WHATEVER THE INPUT: true; the input reads as it did. -/
def matchBackSpec : ChangeSpec := { name := "matchBack", fn := fun _ => fun
  | [d1, d2] => { results := [.lit (.bool true)], args := [d1, d2] }
  | _ => none }
def matchBackRow : OpenClaim := { program := "ytcafgconfcajbaa", sum := "ff8455108311d6647b1b9a0a3aefc1230324740d12f744bfa3a335c99791a58a", func := "finial/finiallaw05.MatchBack", spec := "matchBack", unfollowed := true, recurses := true, loops := true, apart := false }
def MatchBackSaid : Prop := matchBackRow.holds Try.pinned (OpenSpec.ofChange matchBackSpec)

/-- ITS FALSE NEIGHBOUR: 'it returns false'. Refute it at one input. -/
def matchBackWrong : ChangeSpec := { name := "matchBack", fn := fun _ => fun
  | [d1, d2] => { results := [.lit (.bool false)], args := [d1, d2] }
  | _ => none }
def MatchBackWrongFalsely : Prop := matchBackRow.holds Try.pinned (OpenSpec.ofChange matchBackWrong)

/-- 'finiallaw05.MatchOrders': WHATEVER THE INPUT: true; the input reads as it did. -/
def matchOrdersSpec : ChangeSpec := { name := "matchOrders", fn := fun _ => fun
  | [d1, d2, d3] => { results := [.lit (.bool true)], args := [d1, d2, d3] }
  | _ => none }
def matchOrdersRow : OpenClaim := { program := "ytcafgconfcajbaa", sum := "ff8455108311d6647b1b9a0a3aefc1230324740d12f744bfa3a335c99791a58a", func := "finial/finiallaw05.MatchOrders", spec := "matchOrders", unfollowed := true, recurses := true, loops := true, apart := false }
def MatchOrdersSaid : Prop := matchOrdersRow.holds Try.pinned (OpenSpec.ofChange matchOrdersSpec)

/-- ITS FALSE NEIGHBOUR: 'it returns false'. Refute it at one input. -/
def matchOrdersWrong : ChangeSpec := { name := "matchOrders", fn := fun _ => fun
  | [d1, d2, d3] => { results := [.lit (.bool false)], args := [d1, d2, d3] }
  | _ => none }
def MatchOrdersWrongFalsely : Prop := matchOrdersRow.holds Try.pinned (OpenSpec.ofChange matchOrdersWrong)

/-- 'finiallaw03.SubstApplies': WHATEVER THE INPUT: true; the input reads as it did. -/
def substAppliesSpec : ChangeSpec := { name := "substApplies", fn := fun _ => fun
  | [d1, d2] => { results := [.lit (.bool true)], args := [d1, d2] }
  | _ => none }
def substAppliesRow : OpenClaim := { program := "ytcafgconfcajbaa", sum := "ff8455108311d6647b1b9a0a3aefc1230324740d12f744bfa3a335c99791a58a", func := "finial/finiallaw03.SubstApplies", spec := "substApplies", unfollowed := true, recurses := true, loops := true, apart := false }
def SubstAppliesSaid : Prop := substAppliesRow.holds Try.pinned (OpenSpec.ofChange substAppliesSpec)

/-- ITS FALSE NEIGHBOUR: 'it returns false'. Refute it at one input. -/
def substAppliesWrong : ChangeSpec := { name := "substApplies", fn := fun _ => fun
  | [d1, d2] => { results := [.lit (.bool false)], args := [d1, d2] }
  | _ => none }
def SubstAppliesWrongFalsely : Prop := substAppliesRow.holds Try.pinned (OpenSpec.ofChange substAppliesWrong)

/-- 'finiallaw03.SubstEnds': WHATEVER THE INPUT: true; the input reads as it did. -/
def substEndsSpec : ChangeSpec := { name := "substEnds", fn := fun _ => fun
  | [d1, d2] => { results := [.lit (.bool true)], args := [d1, d2] }
  | _ => none }
def substEndsRow : OpenClaim := { program := "ytcafgconfcajbaa", sum := "ff8455108311d6647b1b9a0a3aefc1230324740d12f744bfa3a335c99791a58a", func := "finial/finiallaw03.SubstEnds", spec := "substEnds", unfollowed := true, recurses := true, loops := true, apart := false }
def SubstEndsSaid : Prop := substEndsRow.holds Try.pinned (OpenSpec.ofChange substEndsSpec)

/-- ITS FALSE NEIGHBOUR: 'it returns false'. Refute it at one input. -/
def substEndsWrong : ChangeSpec := { name := "substEnds", fn := fun _ => fun
  | [d1, d2] => { results := [.lit (.bool false)], args := [d1, d2] }
  | _ => none }
def SubstEndsWrongFalsely : Prop := substEndsRow.holds Try.pinned (OpenSpec.ofChange substEndsWrong)

/-- 'finiallaw03.SubstRights': WHATEVER THE INPUT: true; the input reads as it did. -/
def substRightsSpec : ChangeSpec := { name := "substRights", fn := fun _ => fun
  | [d1, d2] => { results := [.lit (.bool true)], args := [d1, d2] }
  | _ => none }
def substRightsRow : OpenClaim := { program := "ytcafgconfcajbaa", sum := "ff8455108311d6647b1b9a0a3aefc1230324740d12f744bfa3a335c99791a58a", func := "finial/finiallaw03.SubstRights", spec := "substRights", unfollowed := true, recurses := true, loops := true, apart := false }
def SubstRightsSaid : Prop := substRightsRow.holds Try.pinned (OpenSpec.ofChange substRightsSpec)

/-- ITS FALSE NEIGHBOUR: 'it returns false'. Refute it at one input. -/
def substRightsWrong : ChangeSpec := { name := "substRights", fn := fun _ => fun
  | [d1, d2] => { results := [.lit (.bool false)], args := [d1, d2] }
  | _ => none }
def SubstRightsWrongFalsely : Prop := substRightsRow.holds Try.pinned (OpenSpec.ofChange substRightsWrong)

/-- 'finiallaw03.SubstFlat': WHATEVER THE INPUT: true; the input reads as it did. -/
def substFlatSpec : ChangeSpec := { name := "substFlat", fn := fun _ => fun
  | [d1, d2] => { results := [.lit (.bool true)], args := [d1, d2] }
  | _ => none }
def substFlatRow : OpenClaim := { program := "ytcafgconfcajbaa", sum := "ff8455108311d6647b1b9a0a3aefc1230324740d12f744bfa3a335c99791a58a", func := "finial/finiallaw03.SubstFlat", spec := "substFlat", unfollowed := true, recurses := true, loops := true, apart := false }
def SubstFlatSaid : Prop := substFlatRow.holds Try.pinned (OpenSpec.ofChange substFlatSpec)

/-- ITS FALSE NEIGHBOUR: 'it returns false'. Refute it at one input. -/
def substFlatWrong : ChangeSpec := { name := "substFlat", fn := fun _ => fun
  | [d1, d2] => { results := [.lit (.bool false)], args := [d1, d2] }
  | _ => none }
def SubstFlatWrongFalsely : Prop := substFlatRow.holds Try.pinned (OpenSpec.ofChange substFlatWrong)

/-- 'finiallaw12.ArithEvals': WHATEVER THE INPUT: true; the input reads as it did. -/
def arithEvalsSpec : ChangeSpec := { name := "arithEvals", fn := fun _ => fun
  | [d] => { results := [.lit (.bool true)], args := [d] }
  | _ => none }
def arithEvalsRow : OpenClaim := { program := "ytcafgconfcajbaa", sum := "ff8455108311d6647b1b9a0a3aefc1230324740d12f744bfa3a335c99791a58a", func := "finial/finiallaw12.ArithEvals", spec := "arithEvals", unfollowed := true, recurses := true, loops := true, apart := false }
def ArithEvalsSaid : Prop := arithEvalsRow.holds Try.pinned (OpenSpec.ofChange arithEvalsSpec)

/-- ITS FALSE NEIGHBOUR: 'it returns false'. Refute it at one input. -/
def arithEvalsWrong : ChangeSpec := { name := "arithEvals", fn := fun _ => fun
  | [d] => { results := [.lit (.bool false)], args := [d] }
  | _ => none }
def ArithEvalsWrongFalsely : Prop := arithEvalsRow.holds Try.pinned (OpenSpec.ofChange arithEvalsWrong)

/-- 'finiallaw12.ArithDoes': WHATEVER THE INPUT: true; the input reads as it did. -/
def arithDoesSpec : ChangeSpec := { name := "arithDoes", fn := fun _ => fun
  | [d1, d2, d3] => { results := [.lit (.bool true)], args := [d1, d2, d3] }
  | _ => none }
def arithDoesRow : OpenClaim := { program := "ytcafgconfcajbaa", sum := "ff8455108311d6647b1b9a0a3aefc1230324740d12f744bfa3a335c99791a58a", func := "finial/finiallaw12.ArithDoes", spec := "arithDoes", unfollowed := true, recurses := true, apart := false }
def ArithDoesSaid : Prop := arithDoesRow.holds Try.pinned (OpenSpec.ofChange arithDoesSpec)

/-- ITS FALSE NEIGHBOUR: 'it returns false'. Refute it at one input. -/
def arithDoesWrong : ChangeSpec := { name := "arithDoes", fn := fun _ => fun
  | [d1, d2, d3] => { results := [.lit (.bool false)], args := [d1, d2, d3] }
  | _ => none }
def ArithDoesWrongFalsely : Prop := arithDoesRow.holds Try.pinned (OpenSpec.ofChange arithDoesWrong)

/-- 'finiallaw12.ArithParts': WHATEVER THE INPUT: true; the input reads as it did. -/
def arithPartsSpec : ChangeSpec := { name := "arithParts", fn := fun _ => fun
  | [d1, d2] => { results := [.lit (.bool true)], args := [d1, d2] }
  | _ => none }
def arithPartsRow : OpenClaim := { program := "ytcafgconfcajbaa", sum := "ff8455108311d6647b1b9a0a3aefc1230324740d12f744bfa3a335c99791a58a", func := "finial/finiallaw12.ArithParts", spec := "arithParts", unfollowed := true, recurses := true, apart := false }
def ArithPartsSaid : Prop := arithPartsRow.holds Try.pinned (OpenSpec.ofChange arithPartsSpec)

/-- ITS FALSE NEIGHBOUR: 'it returns false'. Refute it at one input. -/
def arithPartsWrong : ChangeSpec := { name := "arithParts", fn := fun _ => fun
  | [d1, d2] => { results := [.lit (.bool false)], args := [d1, d2] }
  | _ => none }
def ArithPartsWrongFalsely : Prop := arithPartsRow.holds Try.pinned (OpenSpec.ofChange arithPartsWrong)

/-- 'finiallaw12.ArithTurns': WHATEVER THE INPUT: true; the input reads as it did. -/
def arithTurnsSpec : ChangeSpec := { name := "arithTurns", fn := fun _ => fun
  | [d1, d2] => { results := [.lit (.bool true)], args := [d1, d2] }
  | _ => none }
def arithTurnsRow : OpenClaim := { program := "ytcafgconfcajbaa", sum := "ff8455108311d6647b1b9a0a3aefc1230324740d12f744bfa3a335c99791a58a", func := "finial/finiallaw12.ArithTurns", spec := "arithTurns", unfollowed := true, recurses := true, apart := false }
def ArithTurnsSaid : Prop := arithTurnsRow.holds Try.pinned (OpenSpec.ofChange arithTurnsSpec)

/-- ITS FALSE NEIGHBOUR: 'it returns false'. Refute it at one input. -/
def arithTurnsWrong : ChangeSpec := { name := "arithTurns", fn := fun _ => fun
  | [d1, d2] => { results := [.lit (.bool false)], args := [d1, d2] }
  | _ => none }
def ArithTurnsWrongFalsely : Prop := arithTurnsRow.holds Try.pinned (OpenSpec.ofChange arithTurnsWrong)

/- THE SECOND FORM. 'bulk': how many values and letters a reading holds, each counted each time it is reached (what is shared counts as often as it is met; a slice's spare places count too). A statement '..UptoSaid' is the law's where the arguments, and the package variables that the reading takes, are together of bulk at most 1048576: NARROWER than '..Said'. Prove '..Said' where nothing that the law and all that it calls make is longer than what came in: it says more and counts as full. Else prove '..UptoSaid'. A law counts once. -/
mutual
def uptoBulk {H : Type} : DataW H → Nat
  | .lit (.string bytes) => bytes.length + 1
  | .lit _ => 1
  | .nil => 1
  | .ptr d => uptoBulk d + 1
  | .slice elems spare => uptoBulkAll elems + uptoBulkAll spare + 1
  | .agg parts => uptoBulkAll parts + 1
  | .iface _ d => uptoBulk d + 1
  | .map entries => uptoBulkEntries entries + 1
  | .held _ => 1
def uptoBulkAll {H : Type} : List (DataW H) → Nat
  | [] => 0
  | d :: r => uptoBulk d + uptoBulkAll r
def uptoBulkEntries {H : Type} : List (Lit × DataW H) → Nat
  | [] => 0
  | x :: r => uptoBulkEntry x + uptoBulkEntries r
def uptoBulkEntry {H : Type} : Lit × DataW H → Nat
  | (.string bytes, d) => bytes.length + uptoBulk d + 1
  | (_, d) => uptoBulk d + 1
 end
def uptoSmall : (H : Type) → List (DataW H) → Bool := fun _ ds => decide (uptoBulkAll ds ≤ 1048576)
def OpenSpec.upto (s : _root_.Go.ChangeSpec) : _root_.Go.OpenSpec := { _root_.Go.OpenSpec.ofChange s with cond := some uptoSmall }

/-- 'finiallaw05.MatchFills', WHERE WHAT IT READS IS OF BULK AT MOST 1048576: true; the input reads as it did. -/
def matchFillsUptoRow : OpenClaim := { program := "ytcafgconfcajbaa", sum := "ff8455108311d6647b1b9a0a3aefc1230324740d12f744bfa3a335c99791a58a", func := "finial/finiallaw05.MatchFills", spec := "matchFills", unfollowed := true, recurses := true, loops := true, apart := false, narrowed := true }
def MatchFillsUptoSaid : Prop := matchFillsUptoRow.holds Try.pinned (OpenSpec.upto matchFillsSpec)

/-- 'finiallaw05.MatchBack', WHERE WHAT IT READS IS OF BULK AT MOST 1048576: true; the input reads as it did. -/
def matchBackUptoRow : OpenClaim := { program := "ytcafgconfcajbaa", sum := "ff8455108311d6647b1b9a0a3aefc1230324740d12f744bfa3a335c99791a58a", func := "finial/finiallaw05.MatchBack", spec := "matchBack", unfollowed := true, recurses := true, loops := true, apart := false, narrowed := true }
def MatchBackUptoSaid : Prop := matchBackUptoRow.holds Try.pinned (OpenSpec.upto matchBackSpec)

/-- 'finiallaw05.MatchOrders', WHERE WHAT IT READS IS OF BULK AT MOST 1048576: true; the input reads as it did. -/
def matchOrdersUptoRow : OpenClaim := { program := "ytcafgconfcajbaa", sum := "ff8455108311d6647b1b9a0a3aefc1230324740d12f744bfa3a335c99791a58a", func := "finial/finiallaw05.MatchOrders", spec := "matchOrders", unfollowed := true, recurses := true, loops := true, apart := false, narrowed := true }
def MatchOrdersUptoSaid : Prop := matchOrdersUptoRow.holds Try.pinned (OpenSpec.upto matchOrdersSpec)

/-- 'finiallaw03.SubstApplies', WHERE WHAT IT READS IS OF BULK AT MOST 1048576: true; the input reads as it did. -/
def substAppliesUptoRow : OpenClaim := { program := "ytcafgconfcajbaa", sum := "ff8455108311d6647b1b9a0a3aefc1230324740d12f744bfa3a335c99791a58a", func := "finial/finiallaw03.SubstApplies", spec := "substApplies", unfollowed := true, recurses := true, loops := true, apart := false, narrowed := true }
def SubstAppliesUptoSaid : Prop := substAppliesUptoRow.holds Try.pinned (OpenSpec.upto substAppliesSpec)

/-- 'finiallaw03.SubstEnds', WHERE WHAT IT READS IS OF BULK AT MOST 1048576: true; the input reads as it did. -/
def substEndsUptoRow : OpenClaim := { program := "ytcafgconfcajbaa", sum := "ff8455108311d6647b1b9a0a3aefc1230324740d12f744bfa3a335c99791a58a", func := "finial/finiallaw03.SubstEnds", spec := "substEnds", unfollowed := true, recurses := true, loops := true, apart := false, narrowed := true }
def SubstEndsUptoSaid : Prop := substEndsUptoRow.holds Try.pinned (OpenSpec.upto substEndsSpec)

/-- 'finiallaw03.SubstRights', WHERE WHAT IT READS IS OF BULK AT MOST 1048576: true; the input reads as it did. -/
def substRightsUptoRow : OpenClaim := { program := "ytcafgconfcajbaa", sum := "ff8455108311d6647b1b9a0a3aefc1230324740d12f744bfa3a335c99791a58a", func := "finial/finiallaw03.SubstRights", spec := "substRights", unfollowed := true, recurses := true, loops := true, apart := false, narrowed := true }
def SubstRightsUptoSaid : Prop := substRightsUptoRow.holds Try.pinned (OpenSpec.upto substRightsSpec)

/-- 'finiallaw03.SubstFlat', WHERE WHAT IT READS IS OF BULK AT MOST 1048576: true; the input reads as it did. -/
def substFlatUptoRow : OpenClaim := { program := "ytcafgconfcajbaa", sum := "ff8455108311d6647b1b9a0a3aefc1230324740d12f744bfa3a335c99791a58a", func := "finial/finiallaw03.SubstFlat", spec := "substFlat", unfollowed := true, recurses := true, loops := true, apart := false, narrowed := true }
def SubstFlatUptoSaid : Prop := substFlatUptoRow.holds Try.pinned (OpenSpec.upto substFlatSpec)

/-- 'finiallaw12.ArithEvals', WHERE WHAT IT READS IS OF BULK AT MOST 1048576: true; the input reads as it did. -/
def arithEvalsUptoRow : OpenClaim := { program := "ytcafgconfcajbaa", sum := "ff8455108311d6647b1b9a0a3aefc1230324740d12f744bfa3a335c99791a58a", func := "finial/finiallaw12.ArithEvals", spec := "arithEvals", unfollowed := true, recurses := true, loops := true, apart := false, narrowed := true }
def ArithEvalsUptoSaid : Prop := arithEvalsUptoRow.holds Try.pinned (OpenSpec.upto arithEvalsSpec)

/-- 'finiallaw12.ArithDoes', WHERE WHAT IT READS IS OF BULK AT MOST 1048576: true; the input reads as it did. -/
def arithDoesUptoRow : OpenClaim := { program := "ytcafgconfcajbaa", sum := "ff8455108311d6647b1b9a0a3aefc1230324740d12f744bfa3a335c99791a58a", func := "finial/finiallaw12.ArithDoes", spec := "arithDoes", unfollowed := true, recurses := true, apart := false, narrowed := true }
def ArithDoesUptoSaid : Prop := arithDoesUptoRow.holds Try.pinned (OpenSpec.upto arithDoesSpec)

/-- 'finiallaw12.ArithParts', WHERE WHAT IT READS IS OF BULK AT MOST 1048576: true; the input reads as it did. -/
def arithPartsUptoRow : OpenClaim := { program := "ytcafgconfcajbaa", sum := "ff8455108311d6647b1b9a0a3aefc1230324740d12f744bfa3a335c99791a58a", func := "finial/finiallaw12.ArithParts", spec := "arithParts", unfollowed := true, recurses := true, apart := false, narrowed := true }
def ArithPartsUptoSaid : Prop := arithPartsUptoRow.holds Try.pinned (OpenSpec.upto arithPartsSpec)

/-- 'finiallaw12.ArithTurns', WHERE WHAT IT READS IS OF BULK AT MOST 1048576: true; the input reads as it did. -/
def arithTurnsUptoRow : OpenClaim := { program := "ytcafgconfcajbaa", sum := "ff8455108311d6647b1b9a0a3aefc1230324740d12f744bfa3a335c99791a58a", func := "finial/finiallaw12.ArithTurns", spec := "arithTurns", unfollowed := true, recurses := true, apart := false, narrowed := true }
def ArithTurnsUptoSaid : Prop := arithTurnsUptoRow.holds Try.pinned (OpenSpec.upto arithTurnsSpec)

end Rows
end Go.Proofs.Ytcafgconfcajbaa
