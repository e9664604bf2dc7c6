/-
  No cell of these rows narrows 'for every input' (looked for: loops, veiled, ifaces, maps, wideKeys, modest, calm, conditions, laid).
  DERIVED. THE GIVEN ROWS OF THIS SEAT. 11 by the template 'for every input the law returns true; each argument reads behind the call as it read before'; 0 by the template 'total and deterministic' (their statements: YtkffgdccjgdiaaaTotals.lean).
  GIVEN WITH THE SEED: the statements are not yours to turn. If you find one false, say at which input.
  Laid BY PROGRAM, IN A SANDBOX (cutbox-rows.mjs): the forced cells as the released guide's own fill.sh prints them over the translation 31f05af34d5628f5… (all of the seat's roots in one cut). By AI agents, Wed Nov 11 2026. No macro, syntax, notation, axiom, sorry.
-/
import Derived.Test.YtkffgdccjgdiaaaChecked
import GoSem.Claim
import GoSem.ClaimJoined
import GoSem.ClaimMapViews
import Derived.JoinedTies
import Derived.KernelRfl
namespace Go.Proofs.Ytkffgdccjgdiaaa
/- THE CELL 'sum', in the pinned program and in every row, IS THE sha256 OF THE DUMP (.gsa) THAT YtkffgdccjgdiaaaProg.lean LOADS. Nothing in Lean hashes anything: it is a label: what it is worth is what the hold of that sum in a sandbox is worth. -/
noncomputable def Try.pinned : Pinned := { name := "ytkffgdccjgdiaaa", sum := "31f05af34d5628f53908c8ba415e2c1036056c1a8bd2b95ee021e160d615070d", checked := Try.checked }
namespace Rows
def none {H : Type} : Left H := { results := [], args := [] }

/-- 'firkinlaw01.GfLeast': WHATEVER THE INPUT: true; the input reads as it did. -/
def gfLeastSpec : ChangeSpec := { name := "gfLeast", fn := fun _ => fun
  | [d1, d2, d3] => { results := [.lit (.bool true)], args := [d1, d2, d3] }
  | _ => none }
def gfLeastRow : OpenClaim := { program := "ytkffgdccjgdiaaa", sum := "31f05af34d5628f53908c8ba415e2c1036056c1a8bd2b95ee021e160d615070d", func := "firkin/firkinlaw01.GfLeast", spec := "gfLeast", inPlace := ["sync/atomic.LoadUint32", "(*internal/sync.Mutex).Lock", "internal/race.Disable", "sync/atomic.CompareAndSwapInt32", "internal/race.Enable", "internal/race.Acquire", "(*internal/sync.Mutex).lockSlow", "internal/sync.runtime_canSpin", "internal/sync.runtime_doSpin", "internal/sync.throw", "internal/sync.runtime_nanotime", "internal/sync.runtime_SemacquireMutex", "sync/atomic.AddInt32", "(*internal/sync.Mutex).Unlock", "internal/race.ReleaseMerge", "(*internal/sync.Mutex).unlockSlow", "internal/sync.fatal", "internal/sync.runtime_Semrelease", "sync/atomic.StoreUint32"], unfollowed := true, recurses := true, apart := false }
def GfLeastSaid : Prop := gfLeastRow.holds Try.pinned (OpenSpec.ofChange gfLeastSpec)

/-- ITS FALSE NEIGHBOUR: 'it returns false'. Refute it at one input. -/
def gfLeastWrong : ChangeSpec := { name := "gfLeast", fn := fun _ => fun
  | [d1, d2, d3] => { results := [.lit (.bool false)], args := [d1, d2, d3] }
  | _ => none }
def GfLeastWrongFalsely : Prop := gfLeastRow.holds Try.pinned (OpenSpec.ofChange gfLeastWrong)

/-- 'firkinlaw01.GfRound': WHATEVER THE INPUT: true; the input reads as it did. -/
def gfRoundSpec : ChangeSpec := { name := "gfRound", fn := fun _ => fun
  | [d1, d2, d3] => { results := [.lit (.bool true)], args := [d1, d2, d3] }
  | _ => none }
def gfRoundRow : OpenClaim := { program := "ytkffgdccjgdiaaa", sum := "31f05af34d5628f53908c8ba415e2c1036056c1a8bd2b95ee021e160d615070d", func := "firkin/firkinlaw01.GfRound", spec := "gfRound", inPlace := ["sync/atomic.LoadUint32", "(*internal/sync.Mutex).Lock", "internal/race.Disable", "sync/atomic.CompareAndSwapInt32", "internal/race.Enable", "internal/race.Acquire", "(*internal/sync.Mutex).lockSlow", "internal/sync.runtime_canSpin", "internal/sync.runtime_doSpin", "internal/sync.throw", "internal/sync.runtime_nanotime", "internal/sync.runtime_SemacquireMutex", "sync/atomic.AddInt32", "(*internal/sync.Mutex).Unlock", "internal/race.ReleaseMerge", "(*internal/sync.Mutex).unlockSlow", "internal/sync.fatal", "internal/sync.runtime_Semrelease", "sync/atomic.StoreUint32"], unfollowed := true, recurses := true, apart := false }
def GfRoundSaid : Prop := gfRoundRow.holds Try.pinned (OpenSpec.ofChange gfRoundSpec)

/-- ITS FALSE NEIGHBOUR: 'it returns false'. Refute it at one input. -/
def gfRoundWrong : ChangeSpec := { name := "gfRound", fn := fun _ => fun
  | [d1, d2, d3] => { results := [.lit (.bool false)], args := [d1, d2, d3] }
  | _ => none }
def GfRoundWrongFalsely : Prop := gfRoundRow.holds Try.pinned (OpenSpec.ofChange gfRoundWrong)

/-- 'firkinlaw01.GfLaws': WHATEVER THE INPUT: true; the input reads as it did. -/
def gfLawsSpec : ChangeSpec := { name := "gfLaws", fn := fun _ => fun
  | [d1, d2, d3, d4] => { results := [.lit (.bool true)], args := [d1, d2, d3, d4] }
  | _ => none }
def gfLawsRow : OpenClaim := { program := "ytkffgdccjgdiaaa", sum := "31f05af34d5628f53908c8ba415e2c1036056c1a8bd2b95ee021e160d615070d", func := "firkin/firkinlaw01.GfLaws", spec := "gfLaws", inPlace := ["sync/atomic.LoadUint32", "(*internal/sync.Mutex).Lock", "internal/race.Disable", "sync/atomic.CompareAndSwapInt32", "internal/race.Enable", "internal/race.Acquire", "(*internal/sync.Mutex).lockSlow", "internal/sync.runtime_canSpin", "internal/sync.runtime_doSpin", "internal/sync.throw", "internal/sync.runtime_nanotime", "internal/sync.runtime_SemacquireMutex", "sync/atomic.AddInt32", "(*internal/sync.Mutex).Unlock", "internal/race.ReleaseMerge", "(*internal/sync.Mutex).unlockSlow", "internal/sync.fatal", "internal/sync.runtime_Semrelease", "sync/atomic.StoreUint32"], unfollowed := true, recurses := true, apart := false }
def GfLawsSaid : Prop := gfLawsRow.holds Try.pinned (OpenSpec.ofChange gfLawsSpec)

/-- ITS FALSE NEIGHBOUR: 'it returns false'. Refute it at one input. -/
def gfLawsWrong : ChangeSpec := { name := "gfLaws", fn := fun _ => fun
  | [d1, d2, d3, d4] => { results := [.lit (.bool false)], args := [d1, d2, d3, d4] }
  | _ => none }
def GfLawsWrongFalsely : Prop := gfLawsRow.holds Try.pinned (OpenSpec.ofChange gfLawsWrong)

/-- 'firkinlaw01.GfSquares': WHATEVER THE INPUT: true; the input reads as it did. -/
def gfSquaresSpec : ChangeSpec := { name := "gfSquares", fn := fun _ => fun
  | [d1, d2, d3, d4, d5] => { results := [.lit (.bool true)], args := [d1, d2, d3, d4, d5] }
  | _ => none }
def gfSquaresRow : OpenClaim := { program := "ytkffgdccjgdiaaa", sum := "31f05af34d5628f53908c8ba415e2c1036056c1a8bd2b95ee021e160d615070d", func := "firkin/firkinlaw01.GfSquares", spec := "gfSquares", inPlace := ["sync/atomic.LoadUint32", "(*internal/sync.Mutex).Lock", "internal/race.Disable", "sync/atomic.CompareAndSwapInt32", "internal/race.Enable", "internal/race.Acquire", "(*internal/sync.Mutex).lockSlow", "internal/sync.runtime_canSpin", "internal/sync.runtime_doSpin", "internal/sync.throw", "internal/sync.runtime_nanotime", "internal/sync.runtime_SemacquireMutex", "sync/atomic.AddInt32", "(*internal/sync.Mutex).Unlock", "internal/race.ReleaseMerge", "(*internal/sync.Mutex).unlockSlow", "internal/sync.fatal", "internal/sync.runtime_Semrelease", "sync/atomic.StoreUint32"], unfollowed := true, recurses := true, apart := false }
def GfSquaresSaid : Prop := gfSquaresRow.holds Try.pinned (OpenSpec.ofChange gfSquaresSpec)

/-- ITS FALSE NEIGHBOUR: 'it returns false'. Refute it at one input. -/
def gfSquaresWrong : ChangeSpec := { name := "gfSquares", fn := fun _ => fun
  | [d1, d2, d3, d4, d5] => { results := [.lit (.bool false)], args := [d1, d2, d3, d4, d5] }
  | _ => none }
def GfSquaresWrongFalsely : Prop := gfSquaresRow.holds Try.pinned (OpenSpec.ofChange gfSquaresWrong)

/-- 'firkinlaw01.GfMakes': WHATEVER THE INPUT: true; the input reads as it did. -/
def gfMakesSpec : ChangeSpec := { name := "gfMakes", fn := fun _ => fun
  | [d] => { results := [.lit (.bool true)], args := [d] }
  | _ => none }
def gfMakesRow : OpenClaim := { program := "ytkffgdccjgdiaaa", sum := "31f05af34d5628f53908c8ba415e2c1036056c1a8bd2b95ee021e160d615070d", func := "firkin/firkinlaw01.GfMakes", spec := "gfMakes", inPlace := ["sync/atomic.LoadUint32", "(*internal/sync.Mutex).Lock", "internal/race.Disable", "sync/atomic.CompareAndSwapInt32", "internal/race.Enable", "internal/race.Acquire", "(*internal/sync.Mutex).lockSlow", "internal/sync.runtime_canSpin", "internal/sync.runtime_doSpin", "internal/sync.throw", "internal/sync.runtime_nanotime", "internal/sync.runtime_SemacquireMutex", "sync/atomic.AddInt32", "(*internal/sync.Mutex).Unlock", "internal/race.ReleaseMerge", "(*internal/sync.Mutex).unlockSlow", "internal/sync.fatal", "internal/sync.runtime_Semrelease", "sync/atomic.StoreUint32"], unfollowed := true, recurses := true, apart := false }
def GfMakesSaid : Prop := gfMakesRow.holds Try.pinned (OpenSpec.ofChange gfMakesSpec)

/-- ITS FALSE NEIGHBOUR: 'it returns false'. Refute it at one input. -/
def gfMakesWrong : ChangeSpec := { name := "gfMakes", fn := fun _ => fun
  | [d] => { results := [.lit (.bool false)], args := [d] }
  | _ => none }
def GfMakesWrongFalsely : Prop := gfMakesRow.holds Try.pinned (OpenSpec.ofChange gfMakesWrong)

/-- 'firkinlaw01.GfReckons': WHATEVER THE INPUT: true; the input reads as it did. -/
def gfReckonsSpec : ChangeSpec := { name := "gfReckons", fn := fun _ => fun
  | [d1, d2, d3, d4] => { results := [.lit (.bool true)], args := [d1, d2, d3, d4] }
  | _ => none }
def gfReckonsRow : OpenClaim := { program := "ytkffgdccjgdiaaa", sum := "31f05af34d5628f53908c8ba415e2c1036056c1a8bd2b95ee021e160d615070d", func := "firkin/firkinlaw01.GfReckons", spec := "gfReckons", inPlace := ["sync/atomic.LoadUint32", "(*internal/sync.Mutex).Lock", "internal/race.Disable", "sync/atomic.CompareAndSwapInt32", "internal/race.Enable", "internal/race.Acquire", "(*internal/sync.Mutex).lockSlow", "internal/sync.runtime_canSpin", "internal/sync.runtime_doSpin", "internal/sync.throw", "internal/sync.runtime_nanotime", "internal/sync.runtime_SemacquireMutex", "sync/atomic.AddInt32", "(*internal/sync.Mutex).Unlock", "internal/race.ReleaseMerge", "(*internal/sync.Mutex).unlockSlow", "internal/sync.fatal", "internal/sync.runtime_Semrelease", "sync/atomic.StoreUint32"], unfollowed := true, recurses := true, apart := false }
def GfReckonsSaid : Prop := gfReckonsRow.holds Try.pinned (OpenSpec.ofChange gfReckonsSpec)

/-- ITS FALSE NEIGHBOUR: 'it returns false'. Refute it at one input. -/
def gfReckonsWrong : ChangeSpec := { name := "gfReckons", fn := fun _ => fun
  | [d1, d2, d3, d4] => { results := [.lit (.bool false)], args := [d1, d2, d3, d4] }
  | _ => none }
def GfReckonsWrongFalsely : Prop := gfReckonsRow.holds Try.pinned (OpenSpec.ofChange gfReckonsWrong)

/-- 'firkinlaw01.GfLogs': WHATEVER THE INPUT: true; the input reads as it did. -/
def gfLogsSpec : ChangeSpec := { name := "gfLogs", fn := fun _ => fun
  | [d1, d2, d3, d4, d5] => { results := [.lit (.bool true)], args := [d1, d2, d3, d4, d5] }
  | _ => none }
def gfLogsRow : OpenClaim := { program := "ytkffgdccjgdiaaa", sum := "31f05af34d5628f53908c8ba415e2c1036056c1a8bd2b95ee021e160d615070d", func := "firkin/firkinlaw01.GfLogs", spec := "gfLogs", inPlace := ["sync/atomic.LoadUint32", "(*internal/sync.Mutex).Lock", "internal/race.Disable", "sync/atomic.CompareAndSwapInt32", "internal/race.Enable", "internal/race.Acquire", "(*internal/sync.Mutex).lockSlow", "internal/sync.runtime_canSpin", "internal/sync.runtime_doSpin", "internal/sync.throw", "internal/sync.runtime_nanotime", "internal/sync.runtime_SemacquireMutex", "sync/atomic.AddInt32", "(*internal/sync.Mutex).Unlock", "internal/race.ReleaseMerge", "(*internal/sync.Mutex).unlockSlow", "internal/sync.fatal", "internal/sync.runtime_Semrelease", "sync/atomic.StoreUint32"], unfollowed := true, recurses := true, apart := false }
def GfLogsSaid : Prop := gfLogsRow.holds Try.pinned (OpenSpec.ofChange gfLogsSpec)

/-- ITS FALSE NEIGHBOUR: 'it returns false'. Refute it at one input. -/
def gfLogsWrong : ChangeSpec := { name := "gfLogs", fn := fun _ => fun
  | [d1, d2, d3, d4, d5] => { results := [.lit (.bool false)], args := [d1, d2, d3, d4, d5] }
  | _ => none }
def GfLogsWrongFalsely : Prop := gfLogsRow.holds Try.pinned (OpenSpec.ofChange gfLogsWrong)

/-- 'firkinlaw01.GfPolys': WHATEVER THE INPUT: true; the input reads as it did. -/
def gfPolysSpec : ChangeSpec := { name := "gfPolys", fn := fun _ => fun
  | [d1, d2, d3, d4] => { results := [.lit (.bool true)], args := [d1, d2, d3, d4] }
  | _ => none }
def gfPolysRow : OpenClaim := { program := "ytkffgdccjgdiaaa", sum := "31f05af34d5628f53908c8ba415e2c1036056c1a8bd2b95ee021e160d615070d", func := "firkin/firkinlaw01.GfPolys", spec := "gfPolys", inPlace := ["sync/atomic.LoadUint32", "(*internal/sync.Mutex).Lock", "internal/race.Disable", "sync/atomic.CompareAndSwapInt32", "internal/race.Enable", "internal/race.Acquire", "(*internal/sync.Mutex).lockSlow", "internal/sync.runtime_canSpin", "internal/sync.runtime_doSpin", "internal/sync.throw", "internal/sync.runtime_nanotime", "internal/sync.runtime_SemacquireMutex", "sync/atomic.AddInt32", "(*internal/sync.Mutex).Unlock", "internal/race.ReleaseMerge", "(*internal/sync.Mutex).unlockSlow", "internal/sync.fatal", "internal/sync.runtime_Semrelease", "sync/atomic.StoreUint32"], unfollowed := true, recurses := true, apart := false }
def GfPolysSaid : Prop := gfPolysRow.holds Try.pinned (OpenSpec.ofChange gfPolysSpec)

/-- ITS FALSE NEIGHBOUR: 'it returns false'. Refute it at one input. -/
def gfPolysWrong : ChangeSpec := { name := "gfPolys", fn := fun _ => fun
  | [d1, d2, d3, d4] => { results := [.lit (.bool false)], args := [d1, d2, d3, d4] }
  | _ => none }
def GfPolysWrongFalsely : Prop := gfPolysRow.holds Try.pinned (OpenSpec.ofChange gfPolysWrong)

/-- 'firkinlaw01.GfZeros': WHATEVER THE INPUT: true; the input reads as it did. -/
def gfZerosSpec : ChangeSpec := { name := "gfZeros", fn := fun _ => fun
  | [d1, d2] => { results := [.lit (.bool true)], args := [d1, d2] }
  | _ => none }
def gfZerosRow : OpenClaim := { program := "ytkffgdccjgdiaaa", sum := "31f05af34d5628f53908c8ba415e2c1036056c1a8bd2b95ee021e160d615070d", func := "firkin/firkinlaw01.GfZeros", spec := "gfZeros", inPlace := ["sync/atomic.LoadUint32", "(*internal/sync.Mutex).Lock", "internal/race.Disable", "sync/atomic.CompareAndSwapInt32", "internal/race.Enable", "internal/race.Acquire", "(*internal/sync.Mutex).lockSlow", "internal/sync.runtime_canSpin", "internal/sync.runtime_doSpin", "internal/sync.throw", "internal/sync.runtime_nanotime", "internal/sync.runtime_SemacquireMutex", "sync/atomic.AddInt32", "(*internal/sync.Mutex).Unlock", "internal/race.ReleaseMerge", "(*internal/sync.Mutex).unlockSlow", "internal/sync.fatal", "internal/sync.runtime_Semrelease", "sync/atomic.StoreUint32"], unfollowed := true, recurses := true, apart := false }
def GfZerosSaid : Prop := gfZerosRow.holds Try.pinned (OpenSpec.ofChange gfZerosSpec)

/-- ITS FALSE NEIGHBOUR: 'it returns false'. Refute it at one input. -/
def gfZerosWrong : ChangeSpec := { name := "gfZeros", fn := fun _ => fun
  | [d1, d2] => { results := [.lit (.bool false)], args := [d1, d2] }
  | _ => none }
def GfZerosWrongFalsely : Prop := gfZerosRow.holds Try.pinned (OpenSpec.ofChange gfZerosWrong)

/-- 'firkinlaw01.GfDivides': WHATEVER THE INPUT: true; the input reads as it did. -/
def gfDividesSpec : ChangeSpec := { name := "gfDivides", fn := fun _ => fun
  | [d1, d2, d3, d4] => { results := [.lit (.bool true)], args := [d1, d2, d3, d4] }
  | _ => none }
def gfDividesRow : OpenClaim := { program := "ytkffgdccjgdiaaa", sum := "31f05af34d5628f53908c8ba415e2c1036056c1a8bd2b95ee021e160d615070d", func := "firkin/firkinlaw01.GfDivides", spec := "gfDivides", inPlace := ["sync/atomic.LoadUint32", "(*internal/sync.Mutex).Lock", "internal/race.Disable", "sync/atomic.CompareAndSwapInt32", "internal/race.Enable", "internal/race.Acquire", "(*internal/sync.Mutex).lockSlow", "internal/sync.runtime_canSpin", "internal/sync.runtime_doSpin", "internal/sync.throw", "internal/sync.runtime_nanotime", "internal/sync.runtime_SemacquireMutex", "sync/atomic.AddInt32", "(*internal/sync.Mutex).Unlock", "internal/race.ReleaseMerge", "(*internal/sync.Mutex).unlockSlow", "internal/sync.fatal", "internal/sync.runtime_Semrelease", "sync/atomic.StoreUint32"], unfollowed := true, recurses := true, apart := false }
def GfDividesSaid : Prop := gfDividesRow.holds Try.pinned (OpenSpec.ofChange gfDividesSpec)

/-- ITS FALSE NEIGHBOUR: 'it returns false'. Refute it at one input. -/
def gfDividesWrong : ChangeSpec := { name := "gfDivides", fn := fun _ => fun
  | [d1, d2, d3, d4] => { results := [.lit (.bool false)], args := [d1, d2, d3, d4] }
  | _ => none }
def GfDividesWrongFalsely : Prop := gfDividesRow.holds Try.pinned (OpenSpec.ofChange gfDividesWrong)

/-- 'firkinlaw01.GfNothing': WHATEVER THE INPUT: true; the input reads as it did. -/
def gfNothingSpec : ChangeSpec := { name := "gfNothing", fn := fun _ => fun
  | [d1, d2, d3] => { results := [.lit (.bool true)], args := [d1, d2, d3] }
  | _ => none }
def gfNothingRow : OpenClaim := { program := "ytkffgdccjgdiaaa", sum := "31f05af34d5628f53908c8ba415e2c1036056c1a8bd2b95ee021e160d615070d", func := "firkin/firkinlaw01.GfNothing", spec := "gfNothing", inPlace := ["sync/atomic.LoadUint32", "(*internal/sync.Mutex).Lock", "internal/race.Disable", "sync/atomic.CompareAndSwapInt32", "internal/race.Enable", "internal/race.Acquire", "(*internal/sync.Mutex).lockSlow", "internal/sync.runtime_canSpin", "internal/sync.runtime_doSpin", "internal/sync.throw", "internal/sync.runtime_nanotime", "internal/sync.runtime_SemacquireMutex", "sync/atomic.AddInt32", "(*internal/sync.Mutex).Unlock", "internal/race.ReleaseMerge", "(*internal/sync.Mutex).unlockSlow", "internal/sync.fatal", "internal/sync.runtime_Semrelease", "sync/atomic.StoreUint32"], unfollowed := true, recurses := true, apart := false }
def GfNothingSaid : Prop := gfNothingRow.holds Try.pinned (OpenSpec.ofChange gfNothingSpec)

/-- ITS FALSE NEIGHBOUR: 'it returns false'. Refute it at one input. -/
def gfNothingWrong : ChangeSpec := { name := "gfNothing", fn := fun _ => fun
  | [d1, d2, d3] => { results := [.lit (.bool false)], args := [d1, d2, d3] }
  | _ => none }
def GfNothingWrongFalsely : Prop := gfNothingRow.holds Try.pinned (OpenSpec.ofChange gfNothingWrong)

/- THE SECOND FORM. 'bulk': how many values and letters a reading holds, each counted each time it is reached (what is shared counts as often as it is met; a slice's spare places count too). A statement '..UptoSaid' is the law's where the arguments, and the package variables that the reading takes, are together of bulk at most 1048576: NARROWER than '..Said'. Prove '..Said' where nothing that the law and all that it calls make is longer than what came in: it says more and counts as full. Else prove '..UptoSaid'. A law counts once. -/
mutual
def uptoBulk {H : Type} : DataW H → Nat
  | .lit (.string bytes) => bytes.length + 1
  | .lit _ => 1
  | .nil => 1
  | .ptr d => uptoBulk d + 1
  | .slice elems spare => uptoBulkAll elems + uptoBulkAll spare + 1
  | .agg parts => uptoBulkAll parts + 1
  | .iface _ d => uptoBulk d + 1
  | .map entries => uptoBulkEntries entries + 1
  | .held _ => 1
def uptoBulkAll {H : Type} : List (DataW H) → Nat
  | [] => 0
  | d :: r => uptoBulk d + uptoBulkAll r
def uptoBulkEntries {H : Type} : List (Lit × DataW H) → Nat
  | [] => 0
  | x :: r => uptoBulkEntry x + uptoBulkEntries r
def uptoBulkEntry {H : Type} : Lit × DataW H → Nat
  | (.string bytes, d) => bytes.length + uptoBulk d + 1
  | (_, d) => uptoBulk d + 1
 end
def uptoSmall : (H : Type) → List (DataW H) → Bool := fun _ ds => decide (uptoBulkAll ds ≤ 1048576)
def OpenSpec.upto (s : _root_.Go.ChangeSpec) : _root_.Go.OpenSpec := { _root_.Go.OpenSpec.ofChange s with cond := some uptoSmall }

/-- 'firkinlaw01.GfLeast', WHERE WHAT IT READS IS OF BULK AT MOST 1048576: true; the input reads as it did. -/
def gfLeastUptoRow : OpenClaim := { program := "ytkffgdccjgdiaaa", sum := "31f05af34d5628f53908c8ba415e2c1036056c1a8bd2b95ee021e160d615070d", func := "firkin/firkinlaw01.GfLeast", spec := "gfLeast", inPlace := ["sync/atomic.LoadUint32", "(*internal/sync.Mutex).Lock", "internal/race.Disable", "sync/atomic.CompareAndSwapInt32", "internal/race.Enable", "internal/race.Acquire", "(*internal/sync.Mutex).lockSlow", "internal/sync.runtime_canSpin", "internal/sync.runtime_doSpin", "internal/sync.throw", "internal/sync.runtime_nanotime", "internal/sync.runtime_SemacquireMutex", "sync/atomic.AddInt32", "(*internal/sync.Mutex).Unlock", "internal/race.ReleaseMerge", "(*internal/sync.Mutex).unlockSlow", "internal/sync.fatal", "internal/sync.runtime_Semrelease", "sync/atomic.StoreUint32"], unfollowed := true, recurses := true, apart := false, narrowed := true }
def GfLeastUptoSaid : Prop := gfLeastUptoRow.holds Try.pinned (OpenSpec.upto gfLeastSpec)

/-- 'firkinlaw01.GfRound', WHERE WHAT IT READS IS OF BULK AT MOST 1048576: true; the input reads as it did. -/
def gfRoundUptoRow : OpenClaim := { program := "ytkffgdccjgdiaaa", sum := "31f05af34d5628f53908c8ba415e2c1036056c1a8bd2b95ee021e160d615070d", func := "firkin/firkinlaw01.GfRound", spec := "gfRound", inPlace := ["sync/atomic.LoadUint32", "(*internal/sync.Mutex).Lock", "internal/race.Disable", "sync/atomic.CompareAndSwapInt32", "internal/race.Enable", "internal/race.Acquire", "(*internal/sync.Mutex).lockSlow", "internal/sync.runtime_canSpin", "internal/sync.runtime_doSpin", "internal/sync.throw", "internal/sync.runtime_nanotime", "internal/sync.runtime_SemacquireMutex", "sync/atomic.AddInt32", "(*internal/sync.Mutex).Unlock", "internal/race.ReleaseMerge", "(*internal/sync.Mutex).unlockSlow", "internal/sync.fatal", "internal/sync.runtime_Semrelease", "sync/atomic.StoreUint32"], unfollowed := true, recurses := true, apart := false, narrowed := true }
def GfRoundUptoSaid : Prop := gfRoundUptoRow.holds Try.pinned (OpenSpec.upto gfRoundSpec)

/-- 'firkinlaw01.GfLaws', WHERE WHAT IT READS IS OF BULK AT MOST 1048576: true; the input reads as it did. -/
def gfLawsUptoRow : OpenClaim := { program := "ytkffgdccjgdiaaa", sum := "31f05af34d5628f53908c8ba415e2c1036056c1a8bd2b95ee021e160d615070d", func := "firkin/firkinlaw01.GfLaws", spec := "gfLaws", inPlace := ["sync/atomic.LoadUint32", "(*internal/sync.Mutex).Lock", "internal/race.Disable", "sync/atomic.CompareAndSwapInt32", "internal/race.Enable", "internal/race.Acquire", "(*internal/sync.Mutex).lockSlow", "internal/sync.runtime_canSpin", "internal/sync.runtime_doSpin", "internal/sync.throw", "internal/sync.runtime_nanotime", "internal/sync.runtime_SemacquireMutex", "sync/atomic.AddInt32", "(*internal/sync.Mutex).Unlock", "internal/race.ReleaseMerge", "(*internal/sync.Mutex).unlockSlow", "internal/sync.fatal", "internal/sync.runtime_Semrelease", "sync/atomic.StoreUint32"], unfollowed := true, recurses := true, apart := false, narrowed := true }
def GfLawsUptoSaid : Prop := gfLawsUptoRow.holds Try.pinned (OpenSpec.upto gfLawsSpec)

/-- 'firkinlaw01.GfSquares', WHERE WHAT IT READS IS OF BULK AT MOST 1048576: true; the input reads as it did. -/
def gfSquaresUptoRow : OpenClaim := { program := "ytkffgdccjgdiaaa", sum := "31f05af34d5628f53908c8ba415e2c1036056c1a8bd2b95ee021e160d615070d", func := "firkin/firkinlaw01.GfSquares", spec := "gfSquares", inPlace := ["sync/atomic.LoadUint32", "(*internal/sync.Mutex).Lock", "internal/race.Disable", "sync/atomic.CompareAndSwapInt32", "internal/race.Enable", "internal/race.Acquire", "(*internal/sync.Mutex).lockSlow", "internal/sync.runtime_canSpin", "internal/sync.runtime_doSpin", "internal/sync.throw", "internal/sync.runtime_nanotime", "internal/sync.runtime_SemacquireMutex", "sync/atomic.AddInt32", "(*internal/sync.Mutex).Unlock", "internal/race.ReleaseMerge", "(*internal/sync.Mutex).unlockSlow", "internal/sync.fatal", "internal/sync.runtime_Semrelease", "sync/atomic.StoreUint32"], unfollowed := true, recurses := true, apart := false, narrowed := true }
def GfSquaresUptoSaid : Prop := gfSquaresUptoRow.holds Try.pinned (OpenSpec.upto gfSquaresSpec)

/-- 'firkinlaw01.GfMakes', WHERE WHAT IT READS IS OF BULK AT MOST 1048576: true; the input reads as it did. -/
def gfMakesUptoRow : OpenClaim := { program := "ytkffgdccjgdiaaa", sum := "31f05af34d5628f53908c8ba415e2c1036056c1a8bd2b95ee021e160d615070d", func := "firkin/firkinlaw01.GfMakes", spec := "gfMakes", inPlace := ["sync/atomic.LoadUint32", "(*internal/sync.Mutex).Lock", "internal/race.Disable", "sync/atomic.CompareAndSwapInt32", "internal/race.Enable", "internal/race.Acquire", "(*internal/sync.Mutex).lockSlow", "internal/sync.runtime_canSpin", "internal/sync.runtime_doSpin", "internal/sync.throw", "internal/sync.runtime_nanotime", "internal/sync.runtime_SemacquireMutex", "sync/atomic.AddInt32", "(*internal/sync.Mutex).Unlock", "internal/race.ReleaseMerge", "(*internal/sync.Mutex).unlockSlow", "internal/sync.fatal", "internal/sync.runtime_Semrelease", "sync/atomic.StoreUint32"], unfollowed := true, recurses := true, apart := false, narrowed := true }
def GfMakesUptoSaid : Prop := gfMakesUptoRow.holds Try.pinned (OpenSpec.upto gfMakesSpec)

/-- 'firkinlaw01.GfReckons', WHERE WHAT IT READS IS OF BULK AT MOST 1048576: true; the input reads as it did. -/
def gfReckonsUptoRow : OpenClaim := { program := "ytkffgdccjgdiaaa", sum := "31f05af34d5628f53908c8ba415e2c1036056c1a8bd2b95ee021e160d615070d", func := "firkin/firkinlaw01.GfReckons", spec := "gfReckons", inPlace := ["sync/atomic.LoadUint32", "(*internal/sync.Mutex).Lock", "internal/race.Disable", "sync/atomic.CompareAndSwapInt32", "internal/race.Enable", "internal/race.Acquire", "(*internal/sync.Mutex).lockSlow", "internal/sync.runtime_canSpin", "internal/sync.runtime_doSpin", "internal/sync.throw", "internal/sync.runtime_nanotime", "internal/sync.runtime_SemacquireMutex", "sync/atomic.AddInt32", "(*internal/sync.Mutex).Unlock", "internal/race.ReleaseMerge", "(*internal/sync.Mutex).unlockSlow", "internal/sync.fatal", "internal/sync.runtime_Semrelease", "sync/atomic.StoreUint32"], unfollowed := true, recurses := true, apart := false, narrowed := true }
def GfReckonsUptoSaid : Prop := gfReckonsUptoRow.holds Try.pinned (OpenSpec.upto gfReckonsSpec)

/-- 'firkinlaw01.GfLogs', WHERE WHAT IT READS IS OF BULK AT MOST 1048576: true; the input reads as it did. -/
def gfLogsUptoRow : OpenClaim := { program := "ytkffgdccjgdiaaa", sum := "31f05af34d5628f53908c8ba415e2c1036056c1a8bd2b95ee021e160d615070d", func := "firkin/firkinlaw01.GfLogs", spec := "gfLogs", inPlace := ["sync/atomic.LoadUint32", "(*internal/sync.Mutex).Lock", "internal/race.Disable", "sync/atomic.CompareAndSwapInt32", "internal/race.Enable", "internal/race.Acquire", "(*internal/sync.Mutex).lockSlow", "internal/sync.runtime_canSpin", "internal/sync.runtime_doSpin", "internal/sync.throw", "internal/sync.runtime_nanotime", "internal/sync.runtime_SemacquireMutex", "sync/atomic.AddInt32", "(*internal/sync.Mutex).Unlock", "internal/race.ReleaseMerge", "(*internal/sync.Mutex).unlockSlow", "internal/sync.fatal", "internal/sync.runtime_Semrelease", "sync/atomic.StoreUint32"], unfollowed := true, recurses := true, apart := false, narrowed := true }
def GfLogsUptoSaid : Prop := gfLogsUptoRow.holds Try.pinned (OpenSpec.upto gfLogsSpec)

/-- 'firkinlaw01.GfPolys', WHERE WHAT IT READS IS OF BULK AT MOST 1048576: true; the input reads as it did. -/
def gfPolysUptoRow : OpenClaim := { program := "ytkffgdccjgdiaaa", sum := "31f05af34d5628f53908c8ba415e2c1036056c1a8bd2b95ee021e160d615070d", func := "firkin/firkinlaw01.GfPolys", spec := "gfPolys", inPlace := ["sync/atomic.LoadUint32", "(*internal/sync.Mutex).Lock", "internal/race.Disable", "sync/atomic.CompareAndSwapInt32", "internal/race.Enable", "internal/race.Acquire", "(*internal/sync.Mutex).lockSlow", "internal/sync.runtime_canSpin", "internal/sync.runtime_doSpin", "internal/sync.throw", "internal/sync.runtime_nanotime", "internal/sync.runtime_SemacquireMutex", "sync/atomic.AddInt32", "(*internal/sync.Mutex).Unlock", "internal/race.ReleaseMerge", "(*internal/sync.Mutex).unlockSlow", "internal/sync.fatal", "internal/sync.runtime_Semrelease", "sync/atomic.StoreUint32"], unfollowed := true, recurses := true, apart := false, narrowed := true }
def GfPolysUptoSaid : Prop := gfPolysUptoRow.holds Try.pinned (OpenSpec.upto gfPolysSpec)

/-- 'firkinlaw01.GfZeros', WHERE WHAT IT READS IS OF BULK AT MOST 1048576: true; the input reads as it did. -/
def gfZerosUptoRow : OpenClaim := { program := "ytkffgdccjgdiaaa", sum := "31f05af34d5628f53908c8ba415e2c1036056c1a8bd2b95ee021e160d615070d", func := "firkin/firkinlaw01.GfZeros", spec := "gfZeros", inPlace := ["sync/atomic.LoadUint32", "(*internal/sync.Mutex).Lock", "internal/race.Disable", "sync/atomic.CompareAndSwapInt32", "internal/race.Enable", "internal/race.Acquire", "(*internal/sync.Mutex).lockSlow", "internal/sync.runtime_canSpin", "internal/sync.runtime_doSpin", "internal/sync.throw", "internal/sync.runtime_nanotime", "internal/sync.runtime_SemacquireMutex", "sync/atomic.AddInt32", "(*internal/sync.Mutex).Unlock", "internal/race.ReleaseMerge", "(*internal/sync.Mutex).unlockSlow", "internal/sync.fatal", "internal/sync.runtime_Semrelease", "sync/atomic.StoreUint32"], unfollowed := true, recurses := true, apart := false, narrowed := true }
def GfZerosUptoSaid : Prop := gfZerosUptoRow.holds Try.pinned (OpenSpec.upto gfZerosSpec)

/-- 'firkinlaw01.GfDivides', WHERE WHAT IT READS IS OF BULK AT MOST 1048576: true; the input reads as it did. -/
def gfDividesUptoRow : OpenClaim := { program := "ytkffgdccjgdiaaa", sum := "31f05af34d5628f53908c8ba415e2c1036056c1a8bd2b95ee021e160d615070d", func := "firkin/firkinlaw01.GfDivides", spec := "gfDivides", inPlace := ["sync/atomic.LoadUint32", "(*internal/sync.Mutex).Lock", "internal/race.Disable", "sync/atomic.CompareAndSwapInt32", "internal/race.Enable", "internal/race.Acquire", "(*internal/sync.Mutex).lockSlow", "internal/sync.runtime_canSpin", "internal/sync.runtime_doSpin", "internal/sync.throw", "internal/sync.runtime_nanotime", "internal/sync.runtime_SemacquireMutex", "sync/atomic.AddInt32", "(*internal/sync.Mutex).Unlock", "internal/race.ReleaseMerge", "(*internal/sync.Mutex).unlockSlow", "internal/sync.fatal", "internal/sync.runtime_Semrelease", "sync/atomic.StoreUint32"], unfollowed := true, recurses := true, apart := false, narrowed := true }
def GfDividesUptoSaid : Prop := gfDividesUptoRow.holds Try.pinned (OpenSpec.upto gfDividesSpec)

/-- 'firkinlaw01.GfNothing', WHERE WHAT IT READS IS OF BULK AT MOST 1048576: true; the input reads as it did. -/
def gfNothingUptoRow : OpenClaim := { program := "ytkffgdccjgdiaaa", sum := "31f05af34d5628f53908c8ba415e2c1036056c1a8bd2b95ee021e160d615070d", func := "firkin/firkinlaw01.GfNothing", spec := "gfNothing", inPlace := ["sync/atomic.LoadUint32", "(*internal/sync.Mutex).Lock", "internal/race.Disable", "sync/atomic.CompareAndSwapInt32", "internal/race.Enable", "internal/race.Acquire", "(*internal/sync.Mutex).lockSlow", "internal/sync.runtime_canSpin", "internal/sync.runtime_doSpin", "internal/sync.throw", "internal/sync.runtime_nanotime", "internal/sync.runtime_SemacquireMutex", "sync/atomic.AddInt32", "(*internal/sync.Mutex).Unlock", "internal/race.ReleaseMerge", "(*internal/sync.Mutex).unlockSlow", "internal/sync.fatal", "internal/sync.runtime_Semrelease", "sync/atomic.StoreUint32"], unfollowed := true, recurses := true, apart := false, narrowed := true }
def GfNothingUptoSaid : Prop := gfNothingUptoRow.holds Try.pinned (OpenSpec.upto gfNothingSpec)

end Rows
end Go.Proofs.Ytkffgdccjgdiaaa
