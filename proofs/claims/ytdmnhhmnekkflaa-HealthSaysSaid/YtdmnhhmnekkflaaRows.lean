/-
  No cell of these rows narrows 'for every input' (looked for: loops, veiled, ifaces, maps, wideKeys, modest, calm, conditions, laid).
  DERIVED. THE GIVEN ROWS OF THIS SEAT. 5 by the template 'for every input the law returns true; each argument reads behind the call as it read before'; 0 by the template 'total and deterministic' (their statements: YtdmnhhmnekkflaaTotals.lean).
  GIVEN WITH THE SEED: the statements are not yours to turn. If you find one false, say at which input.
  Laid BY PROGRAM, IN A SANDBOX (cutbox-rows.mjs): the forced cells as the released guide's own fill.sh prints them over the translation 064581e627d76c1f… (all of the seat's roots in one cut). By AI agents, Wed Nov 11 2026. No macro, syntax, notation, axiom, sorry.
-/
import Derived.Test.YtdmnhhmnekkflaaChecked
import GoSem.Claim
import GoSem.ClaimJoined
import GoSem.ClaimMapViews
import Derived.JoinedTies
import Derived.KernelRfl
namespace Go.Proofs.Ytdmnhhmnekkflaa
/- THE CELL 'sum', in the pinned program and in every row, IS THE sha256 OF THE DUMP (.gsa) THAT YtdmnhhmnekkflaaProg.lean LOADS. Nothing in Lean hashes anything: it is a label: what it is worth is what the hold of that sum in a sandbox is worth. -/
noncomputable def Try.pinned : Pinned := { name := "ytdmnhhmnekkflaa", sum := "064581e627d76c1fc249b91195cf12affdbada1868f8921deee96779ccccf663", checked := Try.checked }
namespace Rows
def none {H : Type} : Left H := { results := [], args := [] }

/-- 'firkinlaw15.HealthCounts': WHATEVER THE INPUT: true; the input reads as it did. -/
def healthCountsSpec : ChangeSpec := { name := "healthCounts", fn := fun _ => fun
  | [d1, d2, d3] => { results := [.lit (.bool true)], args := [d1, d2, d3] }
  | _ => none }
def healthCountsRow : OpenClaim := { program := "ytdmnhhmnekkflaa", sum := "064581e627d76c1fc249b91195cf12affdbada1868f8921deee96779ccccf663", func := "firkin/firkinlaw15.HealthCounts", spec := "healthCounts", inPlace := ["sync/atomic.LoadUint64", "sync/atomic.CompareAndSwapUint64", "sync/atomic.LoadUint32", "sync/atomic.StoreUint32"], apart := false }
def HealthCountsSaid : Prop := healthCountsRow.holds Try.pinned (OpenSpec.ofChange healthCountsSpec)

/-- ITS FALSE NEIGHBOUR: 'it returns false'. Refute it at one input. -/
def healthCountsWrong : ChangeSpec := { name := "healthCounts", fn := fun _ => fun
  | [d1, d2, d3] => { results := [.lit (.bool false)], args := [d1, d2, d3] }
  | _ => none }
def HealthCountsWrongFalsely : Prop := healthCountsRow.holds Try.pinned (OpenSpec.ofChange healthCountsWrong)

/-- 'firkinlaw15.HealthSays': WHATEVER THE INPUT: true; the input reads as it did. -/
def healthSaysSpec : ChangeSpec := { name := "healthSays", fn := fun _ => fun
  | [d1, d2, d3] => { results := [.lit (.bool true)], args := [d1, d2, d3] }
  | _ => none }
def healthSaysRow : OpenClaim := { program := "ytdmnhhmnekkflaa", sum := "064581e627d76c1fc249b91195cf12affdbada1868f8921deee96779ccccf663", func := "firkin/firkinlaw15.HealthSays", spec := "healthSays", inPlace := ["sync/atomic.LoadUint64", "sync/atomic.CompareAndSwapUint64", "sync/atomic.LoadUint32"], unfollowed := true, recurses := true, apart := false }
def HealthSaysSaid : Prop := healthSaysRow.holds Try.pinned (OpenSpec.ofChange healthSaysSpec)

/-- ITS FALSE NEIGHBOUR: 'it returns false'. Refute it at one input. -/
def healthSaysWrong : ChangeSpec := { name := "healthSays", fn := fun _ => fun
  | [d1, d2, d3] => { results := [.lit (.bool false)], args := [d1, d2, d3] }
  | _ => none }
def HealthSaysWrongFalsely : Prop := healthSaysRow.holds Try.pinned (OpenSpec.ofChange healthSaysWrong)

/-- 'firkinlaw15.HealthParses': WHATEVER THE INPUT: true; the input reads as it did. -/
def healthParsesSpec : ChangeSpec := { name := "healthParses", fn := fun _ => fun
  | [d1, d2] => { results := [.lit (.bool true)], args := [d1, d2] }
  | _ => none }
def healthParsesRow : OpenClaim := { program := "ytdmnhhmnekkflaa", sum := "064581e627d76c1fc249b91195cf12affdbada1868f8921deee96779ccccf663", func := "firkin/firkinlaw15.HealthParses", spec := "healthParses", inPlace := ["sync/atomic.LoadUint64", "sync/atomic.CompareAndSwapUint64", "sync/atomic.LoadUint32", "sync/atomic.StoreUint64", "sync/atomic.StoreUint32"], apart := false }
def HealthParsesSaid : Prop := healthParsesRow.holds Try.pinned (OpenSpec.ofChange healthParsesSpec)

/-- ITS FALSE NEIGHBOUR: 'it returns false'. Refute it at one input. -/
def healthParsesWrong : ChangeSpec := { name := "healthParses", fn := fun _ => fun
  | [d1, d2] => { results := [.lit (.bool false)], args := [d1, d2] }
  | _ => none }
def HealthParsesWrongFalsely : Prop := healthParsesRow.holds Try.pinned (OpenSpec.ofChange healthParsesWrong)

/-- 'firkinlaw15.HealthBack': WHATEVER THE INPUT: true; the input reads as it did. -/
def healthBackSpec : ChangeSpec := { name := "healthBack", fn := fun _ => fun
  | [d1, d2] => { results := [.lit (.bool true)], args := [d1, d2] }
  | _ => none }
def healthBackRow : OpenClaim := { program := "ytdmnhhmnekkflaa", sum := "064581e627d76c1fc249b91195cf12affdbada1868f8921deee96779ccccf663", func := "firkin/firkinlaw15.HealthBack", spec := "healthBack", inPlace := ["sync/atomic.LoadUint64", "sync/atomic.CompareAndSwapUint64", "sync/atomic.LoadUint32", "sync/atomic.StoreUint64", "sync/atomic.StoreUint32"], apart := false }
def HealthBackSaid : Prop := healthBackRow.holds Try.pinned (OpenSpec.ofChange healthBackSpec)

/-- ITS FALSE NEIGHBOUR: 'it returns false'. Refute it at one input. -/
def healthBackWrong : ChangeSpec := { name := "healthBack", fn := fun _ => fun
  | [d1, d2] => { results := [.lit (.bool false)], args := [d1, d2] }
  | _ => none }
def HealthBackWrongFalsely : Prop := healthBackRow.holds Try.pinned (OpenSpec.ofChange healthBackWrong)

/-- 'firkinlaw15.HealthTurned': WHATEVER THE INPUT: true; the input reads as it did. -/
def healthTurnedSpec : ChangeSpec := { name := "healthTurned", fn := fun _ => fun
  | [d1, d2, d3, d4] => { results := [.lit (.bool true)], args := [d1, d2, d3, d4] }
  | _ => none }
def healthTurnedRow : OpenClaim := { program := "ytdmnhhmnekkflaa", sum := "064581e627d76c1fc249b91195cf12affdbada1868f8921deee96779ccccf663", func := "firkin/firkinlaw15.HealthTurned", spec := "healthTurned", inPlace := ["sync/atomic.LoadUint64", "sync/atomic.CompareAndSwapUint64", "sync/atomic.LoadUint32", "sync/atomic.StoreUint64", "sync/atomic.StoreUint32"], apart := false }
def HealthTurnedSaid : Prop := healthTurnedRow.holds Try.pinned (OpenSpec.ofChange healthTurnedSpec)

/-- ITS FALSE NEIGHBOUR: 'it returns false'. Refute it at one input. -/
def healthTurnedWrong : ChangeSpec := { name := "healthTurned", fn := fun _ => fun
  | [d1, d2, d3, d4] => { results := [.lit (.bool false)], args := [d1, d2, d3, d4] }
  | _ => none }
def HealthTurnedWrongFalsely : Prop := healthTurnedRow.holds Try.pinned (OpenSpec.ofChange healthTurnedWrong)

/- THE SECOND FORM. 'bulk': how many values and letters a reading holds, each counted each time it is reached (what is shared counts as often as it is met; a slice's spare places count too). A statement '..UptoSaid' is the law's where the arguments, and the package variables that the reading takes, are together of bulk at most 1048576: NARROWER than '..Said'. Prove '..Said' where nothing that the law and all that it calls make is longer than what came in: it says more and counts as full. Else prove '..UptoSaid'. A law counts once. -/
mutual
def uptoBulk {H : Type} : DataW H → Nat
  | .lit (.string bytes) => bytes.length + 1
  | .lit _ => 1
  | .nil => 1
  | .ptr d => uptoBulk d + 1
  | .slice elems spare => uptoBulkAll elems + uptoBulkAll spare + 1
  | .agg parts => uptoBulkAll parts + 1
  | .iface _ d => uptoBulk d + 1
  | .map entries => uptoBulkEntries entries + 1
  | .held _ => 1
def uptoBulkAll {H : Type} : List (DataW H) → Nat
  | [] => 0
  | d :: r => uptoBulk d + uptoBulkAll r
def uptoBulkEntries {H : Type} : List (Lit × DataW H) → Nat
  | [] => 0
  | x :: r => uptoBulkEntry x + uptoBulkEntries r
def uptoBulkEntry {H : Type} : Lit × DataW H → Nat
  | (.string bytes, d) => bytes.length + uptoBulk d + 1
  | (_, d) => uptoBulk d + 1
 end
def uptoSmall : (H : Type) → List (DataW H) → Bool := fun _ ds => decide (uptoBulkAll ds ≤ 1048576)
def OpenSpec.upto (s : _root_.Go.ChangeSpec) : _root_.Go.OpenSpec := { _root_.Go.OpenSpec.ofChange s with cond := some uptoSmall }

/-- 'firkinlaw15.HealthCounts', WHERE WHAT IT READS IS OF BULK AT MOST 1048576: true; the input reads as it did. -/
def healthCountsUptoRow : OpenClaim := { program := "ytdmnhhmnekkflaa", sum := "064581e627d76c1fc249b91195cf12affdbada1868f8921deee96779ccccf663", func := "firkin/firkinlaw15.HealthCounts", spec := "healthCounts", inPlace := ["sync/atomic.LoadUint64", "sync/atomic.CompareAndSwapUint64", "sync/atomic.LoadUint32", "sync/atomic.StoreUint32"], apart := false, narrowed := true }
def HealthCountsUptoSaid : Prop := healthCountsUptoRow.holds Try.pinned (OpenSpec.upto healthCountsSpec)

/-- 'firkinlaw15.HealthSays', WHERE WHAT IT READS IS OF BULK AT MOST 1048576: true; the input reads as it did. -/
def healthSaysUptoRow : OpenClaim := { program := "ytdmnhhmnekkflaa", sum := "064581e627d76c1fc249b91195cf12affdbada1868f8921deee96779ccccf663", func := "firkin/firkinlaw15.HealthSays", spec := "healthSays", inPlace := ["sync/atomic.LoadUint64", "sync/atomic.CompareAndSwapUint64", "sync/atomic.LoadUint32"], unfollowed := true, recurses := true, apart := false, narrowed := true }
def HealthSaysUptoSaid : Prop := healthSaysUptoRow.holds Try.pinned (OpenSpec.upto healthSaysSpec)

/-- 'firkinlaw15.HealthParses', WHERE WHAT IT READS IS OF BULK AT MOST 1048576: true; the input reads as it did. -/
def healthParsesUptoRow : OpenClaim := { program := "ytdmnhhmnekkflaa", sum := "064581e627d76c1fc249b91195cf12affdbada1868f8921deee96779ccccf663", func := "firkin/firkinlaw15.HealthParses", spec := "healthParses", inPlace := ["sync/atomic.LoadUint64", "sync/atomic.CompareAndSwapUint64", "sync/atomic.LoadUint32", "sync/atomic.StoreUint64", "sync/atomic.StoreUint32"], apart := false, narrowed := true }
def HealthParsesUptoSaid : Prop := healthParsesUptoRow.holds Try.pinned (OpenSpec.upto healthParsesSpec)

/-- 'firkinlaw15.HealthBack', WHERE WHAT IT READS IS OF BULK AT MOST 1048576: true; the input reads as it did. -/
def healthBackUptoRow : OpenClaim := { program := "ytdmnhhmnekkflaa", sum := "064581e627d76c1fc249b91195cf12affdbada1868f8921deee96779ccccf663", func := "firkin/firkinlaw15.HealthBack", spec := "healthBack", inPlace := ["sync/atomic.LoadUint64", "sync/atomic.CompareAndSwapUint64", "sync/atomic.LoadUint32", "sync/atomic.StoreUint64", "sync/atomic.StoreUint32"], apart := false, narrowed := true }
def HealthBackUptoSaid : Prop := healthBackUptoRow.holds Try.pinned (OpenSpec.upto healthBackSpec)

/-- 'firkinlaw15.HealthTurned', WHERE WHAT IT READS IS OF BULK AT MOST 1048576: true; the input reads as it did. -/
def healthTurnedUptoRow : OpenClaim := { program := "ytdmnhhmnekkflaa", sum := "064581e627d76c1fc249b91195cf12affdbada1868f8921deee96779ccccf663", func := "firkin/firkinlaw15.HealthTurned", spec := "healthTurned", inPlace := ["sync/atomic.LoadUint64", "sync/atomic.CompareAndSwapUint64", "sync/atomic.LoadUint32", "sync/atomic.StoreUint64", "sync/atomic.StoreUint32"], apart := false, narrowed := true }
def HealthTurnedUptoSaid : Prop := healthTurnedUptoRow.holds Try.pinned (OpenSpec.upto healthTurnedSpec)

end Rows
end Go.Proofs.Ytdmnhhmnekkflaa
