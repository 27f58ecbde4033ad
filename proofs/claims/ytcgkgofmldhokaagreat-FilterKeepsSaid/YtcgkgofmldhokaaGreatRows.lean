/-
  NARROWER THAN 'FOR EVERY INPUT', by the rows' own cells (each row's printed sentence says how): CodeCompiles: loops · CodeParts: loops · CodeFits: loops · CodeKeys: loops · FilterKeeps: loops.
  DERIVED. THE GIVEN ROWS OF THIS SEAT. 5 by the template 'for every input the law returns true; each argument reads behind the call as it read before'; 0 by the template 'total and deterministic' (their statements: YtcgkgofmldhokaaGreatTotals.lean).
  GIVEN WITH THE SEED: the statements are not yours to turn. If you find one false, say at which input.
  Laid BY PROGRAM, IN A SANDBOX (cutbox-rows.mjs): the forced cells as the released guide's own fill.sh prints them over the translation b8eda3bf49759fc1… (all of the seat's roots in one cut). By AI agents, Wed Nov 11 2026. No macro, syntax, notation, axiom, sorry.
-/
import Derived.Test.YtcgkgofmldhokaaGreatChecked
import GoSem.Claim
import GoSem.ClaimJoined
import GoSem.ClaimMapViews
import Derived.JoinedTies
import Derived.KernelRfl
namespace Go.Proofs.YtcgkgofmldhokaaGreat
/- THE CELL 'sum', in the pinned program and in every row, IS THE sha256 OF THE DUMP (.gsa) THAT YtcgkgofmldhokaaGreatProg.lean LOADS. Nothing in Lean hashes anything: it is a label: what it is worth is what the hold of that sum in a sandbox is worth. -/
noncomputable def Tryz.pinned : Pinned := { name := "ytcgkgofmldhokaagreat", sum := "b8eda3bf49759fc11603dd3427b2e8ff323d51409878cc888e4c8f12589188b5", checked := Tryz.checked }
namespace Rows
def none {H : Type} : Left H := { results := [], args := [] }

/-- 'finiallaw15.CodeCompiles': WHATEVER THE INPUT: true; the input reads as it did. -/
def codeCompilesSpec : ChangeSpec := { name := "codeCompiles", fn := fun _ => fun
  | [d1, d2] => { results := [.lit (.bool true)], args := [d1, d2] }
  | _ => none }
def codeCompilesRow : OpenClaim := { program := "ytcgkgofmldhokaagreat", sum := "b8eda3bf49759fc11603dd3427b2e8ff323d51409878cc888e4c8f12589188b5", func := "finial/finiallaw15.CodeCompiles", spec := "codeCompiles", inPlace := ["sync/atomic.LoadUint32", "(*internal/sync.Mutex).Lock", "internal/race.Disable", "sync/atomic.CompareAndSwapInt32", "internal/race.Enable", "internal/race.Acquire", "(*internal/sync.Mutex).lockSlow", "internal/sync.runtime_canSpin", "internal/sync.runtime_doSpin", "internal/sync.throw", "internal/sync.runtime_nanotime", "internal/sync.runtime_SemacquireMutex", "sync/atomic.AddInt32", "(*internal/sync.Mutex).Unlock", "internal/race.ReleaseMerge", "(*internal/sync.Mutex).unlockSlow", "internal/sync.fatal", "internal/sync.runtime_Semrelease", "sync/atomic.StoreUint32"], unfollowed := true, recurses := true, loops := true, plainKeys := false, apart := false }
def CodeCompilesSaid : Prop := codeCompilesRow.holds Tryz.pinned (OpenSpec.ofChange codeCompilesSpec)

/-- ITS FALSE NEIGHBOUR: 'it returns false'. Refute it at one input. -/
def codeCompilesWrong : ChangeSpec := { name := "codeCompiles", fn := fun _ => fun
  | [d1, d2] => { results := [.lit (.bool false)], args := [d1, d2] }
  | _ => none }
def CodeCompilesWrongFalsely : Prop := codeCompilesRow.holds Tryz.pinned (OpenSpec.ofChange codeCompilesWrong)

/-- 'finiallaw15.CodeParts': WHATEVER THE INPUT: true; the input reads as it did. -/
def codePartsSpec : ChangeSpec := { name := "codeParts", fn := fun _ => fun
  | [d1, d2, d3] => { results := [.lit (.bool true)], args := [d1, d2, d3] }
  | _ => none }
def codePartsRow : OpenClaim := { program := "ytcgkgofmldhokaagreat", sum := "b8eda3bf49759fc11603dd3427b2e8ff323d51409878cc888e4c8f12589188b5", func := "finial/finiallaw15.CodeParts", spec := "codeParts", inPlace := ["sync/atomic.LoadUint32", "(*internal/sync.Mutex).Lock", "internal/race.Disable", "sync/atomic.CompareAndSwapInt32", "internal/race.Enable", "internal/race.Acquire", "(*internal/sync.Mutex).lockSlow", "internal/sync.runtime_canSpin", "internal/sync.runtime_doSpin", "internal/sync.throw", "internal/sync.runtime_nanotime", "internal/sync.runtime_SemacquireMutex", "sync/atomic.AddInt32", "(*internal/sync.Mutex).Unlock", "internal/race.ReleaseMerge", "(*internal/sync.Mutex).unlockSlow", "internal/sync.fatal", "internal/sync.runtime_Semrelease", "sync/atomic.StoreUint32"], unfollowed := true, recurses := true, loops := true, plainKeys := false, apart := false }
def CodePartsSaid : Prop := codePartsRow.holds Tryz.pinned (OpenSpec.ofChange codePartsSpec)

/-- ITS FALSE NEIGHBOUR: 'it returns false'. Refute it at one input. -/
def codePartsWrong : ChangeSpec := { name := "codeParts", fn := fun _ => fun
  | [d1, d2, d3] => { results := [.lit (.bool false)], args := [d1, d2, d3] }
  | _ => none }
def CodePartsWrongFalsely : Prop := codePartsRow.holds Tryz.pinned (OpenSpec.ofChange codePartsWrong)

/-- 'finiallaw15.CodeFits': WHATEVER THE INPUT: true; the input reads as it did. -/
def codeFitsSpec : ChangeSpec := { name := "codeFits", fn := fun _ => fun
  | [d1, d2] => { results := [.lit (.bool true)], args := [d1, d2] }
  | _ => none }
def codeFitsRow : OpenClaim := { program := "ytcgkgofmldhokaagreat", sum := "b8eda3bf49759fc11603dd3427b2e8ff323d51409878cc888e4c8f12589188b5", func := "finial/finiallaw15.CodeFits", spec := "codeFits", inPlace := ["sync/atomic.LoadUint32", "(*internal/sync.Mutex).Lock", "internal/race.Disable", "sync/atomic.CompareAndSwapInt32", "internal/race.Enable", "internal/race.Acquire", "(*internal/sync.Mutex).lockSlow", "internal/sync.runtime_canSpin", "internal/sync.runtime_doSpin", "internal/sync.throw", "internal/sync.runtime_nanotime", "internal/sync.runtime_SemacquireMutex", "sync/atomic.AddInt32", "(*internal/sync.Mutex).Unlock", "internal/race.ReleaseMerge", "(*internal/sync.Mutex).unlockSlow", "internal/sync.fatal", "internal/sync.runtime_Semrelease", "sync/atomic.StoreUint32"], unfollowed := true, recurses := true, loops := true, plainKeys := false, apart := false }
def CodeFitsSaid : Prop := codeFitsRow.holds Tryz.pinned (OpenSpec.ofChange codeFitsSpec)

/-- ITS FALSE NEIGHBOUR: 'it returns false'. Refute it at one input. -/
def codeFitsWrong : ChangeSpec := { name := "codeFits", fn := fun _ => fun
  | [d1, d2] => { results := [.lit (.bool false)], args := [d1, d2] }
  | _ => none }
def CodeFitsWrongFalsely : Prop := codeFitsRow.holds Tryz.pinned (OpenSpec.ofChange codeFitsWrong)

/-- 'finiallaw15.CodeKeys': WHATEVER THE INPUT: true; the input reads as it did. -/
def codeKeysSpec : ChangeSpec := { name := "codeKeys", fn := fun _ => fun
  | [d1, d2, d3] => { results := [.lit (.bool true)], args := [d1, d2, d3] }
  | _ => none }
def codeKeysRow : OpenClaim := { program := "ytcgkgofmldhokaagreat", sum := "b8eda3bf49759fc11603dd3427b2e8ff323d51409878cc888e4c8f12589188b5", func := "finial/finiallaw15.CodeKeys", spec := "codeKeys", inPlace := ["sync/atomic.LoadUint32", "(*internal/sync.Mutex).Lock", "internal/race.Disable", "sync/atomic.CompareAndSwapInt32", "internal/race.Enable", "internal/race.Acquire", "(*internal/sync.Mutex).lockSlow", "internal/sync.runtime_canSpin", "internal/sync.runtime_doSpin", "internal/sync.throw", "internal/sync.runtime_nanotime", "internal/sync.runtime_SemacquireMutex", "sync/atomic.AddInt32", "(*internal/sync.Mutex).Unlock", "internal/race.ReleaseMerge", "(*internal/sync.Mutex).unlockSlow", "internal/sync.fatal", "internal/sync.runtime_Semrelease", "sync/atomic.StoreUint32"], unfollowed := true, recurses := true, loops := true, plainKeys := false, apart := false }
def CodeKeysSaid : Prop := codeKeysRow.holds Tryz.pinned (OpenSpec.ofChange codeKeysSpec)

/-- ITS FALSE NEIGHBOUR: 'it returns false'. Refute it at one input. -/
def codeKeysWrong : ChangeSpec := { name := "codeKeys", fn := fun _ => fun
  | [d1, d2, d3] => { results := [.lit (.bool false)], args := [d1, d2, d3] }
  | _ => none }
def CodeKeysWrongFalsely : Prop := codeKeysRow.holds Tryz.pinned (OpenSpec.ofChange codeKeysWrong)

/-- 'finiallaw20.FilterKeeps': WHATEVER THE INPUT: true; the input reads as it did. -/
def filterKeepsSpec : ChangeSpec := { name := "filterKeeps", fn := fun _ => fun
  | [d] => { results := [.lit (.bool true)], args := [d] }
  | _ => none }
def filterKeepsRow : OpenClaim := { program := "ytcgkgofmldhokaagreat", sum := "b8eda3bf49759fc11603dd3427b2e8ff323d51409878cc888e4c8f12589188b5", func := "finial/finiallaw20.FilterKeeps", spec := "filterKeeps", inPlace := ["sync/atomic.LoadUint32", "(*internal/sync.Mutex).Lock", "internal/race.Disable", "sync/atomic.CompareAndSwapInt32", "internal/race.Enable", "internal/race.Acquire", "(*internal/sync.Mutex).lockSlow", "internal/sync.runtime_canSpin", "internal/sync.runtime_doSpin", "internal/sync.throw", "internal/sync.runtime_nanotime", "internal/sync.runtime_SemacquireMutex", "sync/atomic.AddInt32", "(*internal/sync.Mutex).Unlock", "internal/race.ReleaseMerge", "(*internal/sync.Mutex).unlockSlow", "internal/sync.fatal", "internal/sync.runtime_Semrelease", "sync/atomic.StoreUint32"], unfollowed := true, recurses := true, loops := true, plainKeys := false, apart := false }
def FilterKeepsSaid : Prop := filterKeepsRow.holds Tryz.pinned (OpenSpec.ofChange filterKeepsSpec)

/-- ITS FALSE NEIGHBOUR: 'it returns false'. Refute it at one input. -/
def filterKeepsWrong : ChangeSpec := { name := "filterKeeps", fn := fun _ => fun
  | [d] => { results := [.lit (.bool false)], args := [d] }
  | _ => none }
def FilterKeepsWrongFalsely : Prop := filterKeepsRow.holds Tryz.pinned (OpenSpec.ofChange filterKeepsWrong)

/- THE SECOND FORM. 'bulk': how many values and letters a reading holds, each counted each time it is reached (what is shared counts as often as it is met; a slice's spare places count too). A statement '..UptoSaid' is the law's where the arguments, and the package variables that the reading takes, are together of bulk at most 1048576: NARROWER than '..Said'. Prove '..Said' where nothing that the law and all that it calls make is longer than what came in: it says more and counts as full. Else prove '..UptoSaid'. A law counts once. -/
mutual
def uptoBulk {H : Type} : DataW H → Nat
  | .lit (.string bytes) => bytes.length + 1
  | .lit _ => 1
  | .nil => 1
  | .ptr d => uptoBulk d + 1
  | .slice elems spare => uptoBulkAll elems + uptoBulkAll spare + 1
  | .agg parts => uptoBulkAll parts + 1
  | .iface _ d => uptoBulk d + 1
  | .map entries => uptoBulkEntries entries + 1
  | .held _ => 1
def uptoBulkAll {H : Type} : List (DataW H) → Nat
  | [] => 0
  | d :: r => uptoBulk d + uptoBulkAll r
def uptoBulkEntries {H : Type} : List (Lit × DataW H) → Nat
  | [] => 0
  | x :: r => uptoBulkEntry x + uptoBulkEntries r
def uptoBulkEntry {H : Type} : Lit × DataW H → Nat
  | (.string bytes, d) => bytes.length + uptoBulk d + 1
  | (_, d) => uptoBulk d + 1
 end
def uptoSmall : (H : Type) → List (DataW H) → Bool := fun _ ds => decide (uptoBulkAll ds ≤ 1048576)
def OpenSpec.upto (s : _root_.Go.ChangeSpec) : _root_.Go.OpenSpec := { _root_.Go.OpenSpec.ofChange s with cond := some uptoSmall }

/-- 'finiallaw15.CodeCompiles', WHERE WHAT IT READS IS OF BULK AT MOST 1048576: true; the input reads as it did. -/
def codeCompilesUptoRow : OpenClaim := { program := "ytcgkgofmldhokaagreat", sum := "b8eda3bf49759fc11603dd3427b2e8ff323d51409878cc888e4c8f12589188b5", func := "finial/finiallaw15.CodeCompiles", spec := "codeCompiles", inPlace := ["sync/atomic.LoadUint32", "(*internal/sync.Mutex).Lock", "internal/race.Disable", "sync/atomic.CompareAndSwapInt32", "internal/race.Enable", "internal/race.Acquire", "(*internal/sync.Mutex).lockSlow", "internal/sync.runtime_canSpin", "internal/sync.runtime_doSpin", "internal/sync.throw", "internal/sync.runtime_nanotime", "internal/sync.runtime_SemacquireMutex", "sync/atomic.AddInt32", "(*internal/sync.Mutex).Unlock", "internal/race.ReleaseMerge", "(*internal/sync.Mutex).unlockSlow", "internal/sync.fatal", "internal/sync.runtime_Semrelease", "sync/atomic.StoreUint32"], unfollowed := true, recurses := true, loops := true, plainKeys := false, apart := false, narrowed := true }
def CodeCompilesUptoSaid : Prop := codeCompilesUptoRow.holds Tryz.pinned (OpenSpec.upto codeCompilesSpec)

/-- 'finiallaw15.CodeParts', WHERE WHAT IT READS IS OF BULK AT MOST 1048576: true; the input reads as it did. -/
def codePartsUptoRow : OpenClaim := { program := "ytcgkgofmldhokaagreat", sum := "b8eda3bf49759fc11603dd3427b2e8ff323d51409878cc888e4c8f12589188b5", func := "finial/finiallaw15.CodeParts", spec := "codeParts", inPlace := ["sync/atomic.LoadUint32", "(*internal/sync.Mutex).Lock", "internal/race.Disable", "sync/atomic.CompareAndSwapInt32", "internal/race.Enable", "internal/race.Acquire", "(*internal/sync.Mutex).lockSlow", "internal/sync.runtime_canSpin", "internal/sync.runtime_doSpin", "internal/sync.throw", "internal/sync.runtime_nanotime", "internal/sync.runtime_SemacquireMutex", "sync/atomic.AddInt32", "(*internal/sync.Mutex).Unlock", "internal/race.ReleaseMerge", "(*internal/sync.Mutex).unlockSlow", "internal/sync.fatal", "internal/sync.runtime_Semrelease", "sync/atomic.StoreUint32"], unfollowed := true, recurses := true, loops := true, plainKeys := false, apart := false, narrowed := true }
def CodePartsUptoSaid : Prop := codePartsUptoRow.holds Tryz.pinned (OpenSpec.upto codePartsSpec)

/-- 'finiallaw15.CodeFits', WHERE WHAT IT READS IS OF BULK AT MOST 1048576: true; the input reads as it did. -/
def codeFitsUptoRow : OpenClaim := { program := "ytcgkgofmldhokaagreat", sum := "b8eda3bf49759fc11603dd3427b2e8ff323d51409878cc888e4c8f12589188b5", func := "finial/finiallaw15.CodeFits", spec := "codeFits", inPlace := ["sync/atomic.LoadUint32", "(*internal/sync.Mutex).Lock", "internal/race.Disable", "sync/atomic.CompareAndSwapInt32", "internal/race.Enable", "internal/race.Acquire", "(*internal/sync.Mutex).lockSlow", "internal/sync.runtime_canSpin", "internal/sync.runtime_doSpin", "internal/sync.throw", "internal/sync.runtime_nanotime", "internal/sync.runtime_SemacquireMutex", "sync/atomic.AddInt32", "(*internal/sync.Mutex).Unlock", "internal/race.ReleaseMerge", "(*internal/sync.Mutex).unlockSlow", "internal/sync.fatal", "internal/sync.runtime_Semrelease", "sync/atomic.StoreUint32"], unfollowed := true, recurses := true, loops := true, plainKeys := false, apart := false, narrowed := true }
def CodeFitsUptoSaid : Prop := codeFitsUptoRow.holds Tryz.pinned (OpenSpec.upto codeFitsSpec)

/-- 'finiallaw15.CodeKeys', WHERE WHAT IT READS IS OF BULK AT MOST 1048576: true; the input reads as it did. -/
def codeKeysUptoRow : OpenClaim := { program := "ytcgkgofmldhokaagreat", sum := "b8eda3bf49759fc11603dd3427b2e8ff323d51409878cc888e4c8f12589188b5", func := "finial/finiallaw15.CodeKeys", spec := "codeKeys", inPlace := ["sync/atomic.LoadUint32", "(*internal/sync.Mutex).Lock", "internal/race.Disable", "sync/atomic.CompareAndSwapInt32", "internal/race.Enable", "internal/race.Acquire", "(*internal/sync.Mutex).lockSlow", "internal/sync.runtime_canSpin", "internal/sync.runtime_doSpin", "internal/sync.throw", "internal/sync.runtime_nanotime", "internal/sync.runtime_SemacquireMutex", "sync/atomic.AddInt32", "(*internal/sync.Mutex).Unlock", "internal/race.ReleaseMerge", "(*internal/sync.Mutex).unlockSlow", "internal/sync.fatal", "internal/sync.runtime_Semrelease", "sync/atomic.StoreUint32"], unfollowed := true, recurses := true, loops := true, plainKeys := false, apart := false, narrowed := true }
def CodeKeysUptoSaid : Prop := codeKeysUptoRow.holds Tryz.pinned (OpenSpec.upto codeKeysSpec)

/-- 'finiallaw20.FilterKeeps', WHERE WHAT IT READS IS OF BULK AT MOST 1048576: true; the input reads as it did. -/
def filterKeepsUptoRow : OpenClaim := { program := "ytcgkgofmldhokaagreat", sum := "b8eda3bf49759fc11603dd3427b2e8ff323d51409878cc888e4c8f12589188b5", func := "finial/finiallaw20.FilterKeeps", spec := "filterKeeps", inPlace := ["sync/atomic.LoadUint32", "(*internal/sync.Mutex).Lock", "internal/race.Disable", "sync/atomic.CompareAndSwapInt32", "internal/race.Enable", "internal/race.Acquire", "(*internal/sync.Mutex).lockSlow", "internal/sync.runtime_canSpin", "internal/sync.runtime_doSpin", "internal/sync.throw", "internal/sync.runtime_nanotime", "internal/sync.runtime_SemacquireMutex", "sync/atomic.AddInt32", "(*internal/sync.Mutex).Unlock", "internal/race.ReleaseMerge", "(*internal/sync.Mutex).unlockSlow", "internal/sync.fatal", "internal/sync.runtime_Semrelease", "sync/atomic.StoreUint32"], unfollowed := true, recurses := true, loops := true, plainKeys := false, apart := false, narrowed := true }
def FilterKeepsUptoSaid : Prop := filterKeepsUptoRow.holds Tryz.pinned (OpenSpec.upto filterKeepsSpec)

end Rows
end Go.Proofs.YtcgkgofmldhokaaGreat
