/-
  No cell of these rows narrows 'for every input' (looked for: loops, veiled, ifaces, maps, wideKeys, modest, calm, conditions, laid).
  DERIVED. THE GIVEN ROWS OF THIS SEAT. 5 by the template 'for every input the law returns true; each argument reads behind the call as it read before'; 0 by the template 'total and deterministic' (their statements: YtaapnfoimcccjaaTotals.lean).
  GIVEN WITH THE SEED: the statements are not yours to turn. If you find one false, say at which input.
  Laid BY PROGRAM, IN A SANDBOX (cutbox-rows.mjs): the forced cells as the released guide's own fill.sh prints them over the translation eff934cfde7dc015… (all of the seat's roots in one cut). By AI agents, Wed Nov 11 2026. No macro, syntax, notation, axiom, sorry.
-/
import Derived.Test.YtaapnfoimcccjaaChecked
import GoSem.Claim
import GoSem.ClaimJoined
import GoSem.ClaimMapViews
import Derived.JoinedTies
import Derived.KernelRfl
namespace Go.Proofs.Ytaapnfoimcccjaa
/- THE CELL 'sum', in the pinned program and in every row, IS THE sha256 OF THE DUMP (.gsa) THAT YtaapnfoimcccjaaProg.lean LOADS. Nothing in Lean hashes anything: it is a label: what it is worth is what the hold of that sum in a sandbox is worth. -/
noncomputable def Try.pinned : Pinned := { name := "ytaapnfoimcccjaa", sum := "eff934cfde7dc0157cc2e6611580d9c3bf514c87b04bc6296d5929153de72425", checked := Try.checked }
namespace Rows
def none {H : Type} : Left H := { results := [], args := [] }

/-- 'firkinlaw07.BlocksWear': WHATEVER THE INPUT: true; the input reads as it did. -/
def blocksWearSpec : ChangeSpec := { name := "blocksWear", fn := fun _ => fun
  | [d1, d2] => { results := [.lit (.bool true)], args := [d1, d2] }
  | _ => none }
def blocksWearRow : OpenClaim := { program := "ytaapnfoimcccjaa", sum := "eff934cfde7dc0157cc2e6611580d9c3bf514c87b04bc6296d5929153de72425", func := "firkin/firkinlaw07.BlocksWear", spec := "blocksWear", unfollowed := true, recurses := true, apart := false }
def BlocksWearSaid : Prop := blocksWearRow.holds Try.pinned (OpenSpec.ofChange blocksWearSpec)

/-- ITS FALSE NEIGHBOUR: 'it returns false'. Refute it at one input. -/
def blocksWearWrong : ChangeSpec := { name := "blocksWear", fn := fun _ => fun
  | [d1, d2] => { results := [.lit (.bool false)], args := [d1, d2] }
  | _ => none }
def BlocksWearWrongFalsely : Prop := blocksWearRow.holds Try.pinned (OpenSpec.ofChange blocksWearWrong)

/-- 'firkinlaw07.BlocksOnce': WHATEVER THE INPUT: true; the input reads as it did. -/
def blocksOnceSpec : ChangeSpec := { name := "blocksOnce", fn := fun _ => fun
  | [d1, d2] => { results := [.lit (.bool true)], args := [d1, d2] }
  | _ => none }
def blocksOnceRow : OpenClaim := { program := "ytaapnfoimcccjaa", sum := "eff934cfde7dc0157cc2e6611580d9c3bf514c87b04bc6296d5929153de72425", func := "firkin/firkinlaw07.BlocksOnce", spec := "blocksOnce", unfollowed := true, recurses := true, apart := false }
def BlocksOnceSaid : Prop := blocksOnceRow.holds Try.pinned (OpenSpec.ofChange blocksOnceSpec)

/-- ITS FALSE NEIGHBOUR: 'it returns false'. Refute it at one input. -/
def blocksOnceWrong : ChangeSpec := { name := "blocksOnce", fn := fun _ => fun
  | [d1, d2] => { results := [.lit (.bool false)], args := [d1, d2] }
  | _ => none }
def BlocksOnceWrongFalsely : Prop := blocksOnceRow.holds Try.pinned (OpenSpec.ofChange blocksOnceWrong)

/-- 'firkinlaw07.BlocksPlay': WHATEVER THE INPUT: true; the input reads as it did. -/
def blocksPlaySpec : ChangeSpec := { name := "blocksPlay", fn := fun _ => fun
  | [d1, d2, d3] => { results := [.lit (.bool true)], args := [d1, d2, d3] }
  | _ => none }
def blocksPlayRow : OpenClaim := { program := "ytaapnfoimcccjaa", sum := "eff934cfde7dc0157cc2e6611580d9c3bf514c87b04bc6296d5929153de72425", func := "firkin/firkinlaw07.BlocksPlay", spec := "blocksPlay", unfollowed := true, recurses := true, apart := false }
def BlocksPlaySaid : Prop := blocksPlayRow.holds Try.pinned (OpenSpec.ofChange blocksPlaySpec)

/-- ITS FALSE NEIGHBOUR: 'it returns false'. Refute it at one input. -/
def blocksPlayWrong : ChangeSpec := { name := "blocksPlay", fn := fun _ => fun
  | [d1, d2, d3] => { results := [.lit (.bool false)], args := [d1, d2, d3] }
  | _ => none }
def BlocksPlayWrongFalsely : Prop := blocksPlayRow.holds Try.pinned (OpenSpec.ofChange blocksPlayWrong)

/-- 'firkinlaw07.BlocksBack': WHATEVER THE INPUT: true; the input reads as it did. -/
def blocksBackSpec : ChangeSpec := { name := "blocksBack", fn := fun _ => fun
  | [d1, d2, d3] => { results := [.lit (.bool true)], args := [d1, d2, d3] }
  | _ => none }
def blocksBackRow : OpenClaim := { program := "ytaapnfoimcccjaa", sum := "eff934cfde7dc0157cc2e6611580d9c3bf514c87b04bc6296d5929153de72425", func := "firkin/firkinlaw07.BlocksBack", spec := "blocksBack", unfollowed := true, recurses := true, apart := false }
def BlocksBackSaid : Prop := blocksBackRow.holds Try.pinned (OpenSpec.ofChange blocksBackSpec)

/-- ITS FALSE NEIGHBOUR: 'it returns false'. Refute it at one input. -/
def blocksBackWrong : ChangeSpec := { name := "blocksBack", fn := fun _ => fun
  | [d1, d2, d3] => { results := [.lit (.bool false)], args := [d1, d2, d3] }
  | _ => none }
def BlocksBackWrongFalsely : Prop := blocksBackRow.holds Try.pinned (OpenSpec.ofChange blocksBackWrong)

/-- 'firkinlaw07.BlocksParse': WHATEVER THE INPUT: true; the input reads as it did. -/
def blocksParseSpec : ChangeSpec := { name := "blocksParse", fn := fun _ => fun
  | [d1, d2] => { results := [.lit (.bool true)], args := [d1, d2] }
  | _ => none }
def blocksParseRow : OpenClaim := { program := "ytaapnfoimcccjaa", sum := "eff934cfde7dc0157cc2e6611580d9c3bf514c87b04bc6296d5929153de72425", func := "firkin/firkinlaw07.BlocksParse", spec := "blocksParse", unfollowed := true, recurses := true, apart := false }
def BlocksParseSaid : Prop := blocksParseRow.holds Try.pinned (OpenSpec.ofChange blocksParseSpec)

/-- ITS FALSE NEIGHBOUR: 'it returns false'. Refute it at one input. -/
def blocksParseWrong : ChangeSpec := { name := "blocksParse", fn := fun _ => fun
  | [d1, d2] => { results := [.lit (.bool false)], args := [d1, d2] }
  | _ => none }
def BlocksParseWrongFalsely : Prop := blocksParseRow.holds Try.pinned (OpenSpec.ofChange blocksParseWrong)

/- THE SECOND FORM. 'bulk': how many values and letters a reading holds, each counted each time it is reached (what is shared counts as often as it is met; a slice's spare places count too). A statement '..UptoSaid' is the law's where the arguments, and the package variables that the reading takes, are together of bulk at most 1048576: NARROWER than '..Said'. Prove '..Said' where nothing that the law and all that it calls make is longer than what came in: it says more and counts as full. Else prove '..UptoSaid'. A law counts once. -/
mutual
def uptoBulk {H : Type} : DataW H → Nat
  | .lit (.string bytes) => bytes.length + 1
  | .lit _ => 1
  | .nil => 1
  | .ptr d => uptoBulk d + 1
  | .slice elems spare => uptoBulkAll elems + uptoBulkAll spare + 1
  | .agg parts => uptoBulkAll parts + 1
  | .iface _ d => uptoBulk d + 1
  | .map entries => uptoBulkEntries entries + 1
  | .held _ => 1
def uptoBulkAll {H : Type} : List (DataW H) → Nat
  | [] => 0
  | d :: r => uptoBulk d + uptoBulkAll r
def uptoBulkEntries {H : Type} : List (Lit × DataW H) → Nat
  | [] => 0
  | x :: r => uptoBulkEntry x + uptoBulkEntries r
def uptoBulkEntry {H : Type} : Lit × DataW H → Nat
  | (.string bytes, d) => bytes.length + uptoBulk d + 1
  | (_, d) => uptoBulk d + 1
 end
def uptoSmall : (H : Type) → List (DataW H) → Bool := fun _ ds => decide (uptoBulkAll ds ≤ 1048576)
def OpenSpec.upto (s : _root_.Go.ChangeSpec) : _root_.Go.OpenSpec := { _root_.Go.OpenSpec.ofChange s with cond := some uptoSmall }

/-- 'firkinlaw07.BlocksWear', WHERE WHAT IT READS IS OF BULK AT MOST 1048576: true; the input reads as it did. -/
def blocksWearUptoRow : OpenClaim := { program := "ytaapnfoimcccjaa", sum := "eff934cfde7dc0157cc2e6611580d9c3bf514c87b04bc6296d5929153de72425", func := "firkin/firkinlaw07.BlocksWear", spec := "blocksWear", unfollowed := true, recurses := true, apart := false, narrowed := true }
def BlocksWearUptoSaid : Prop := blocksWearUptoRow.holds Try.pinned (OpenSpec.upto blocksWearSpec)

/-- 'firkinlaw07.BlocksOnce', WHERE WHAT IT READS IS OF BULK AT MOST 1048576: true; the input reads as it did. -/
def blocksOnceUptoRow : OpenClaim := { program := "ytaapnfoimcccjaa", sum := "eff934cfde7dc0157cc2e6611580d9c3bf514c87b04bc6296d5929153de72425", func := "firkin/firkinlaw07.BlocksOnce", spec := "blocksOnce", unfollowed := true, recurses := true, apart := false, narrowed := true }
def BlocksOnceUptoSaid : Prop := blocksOnceUptoRow.holds Try.pinned (OpenSpec.upto blocksOnceSpec)

/-- 'firkinlaw07.BlocksPlay', WHERE WHAT IT READS IS OF BULK AT MOST 1048576: true; the input reads as it did. -/
def blocksPlayUptoRow : OpenClaim := { program := "ytaapnfoimcccjaa", sum := "eff934cfde7dc0157cc2e6611580d9c3bf514c87b04bc6296d5929153de72425", func := "firkin/firkinlaw07.BlocksPlay", spec := "blocksPlay", unfollowed := true, recurses := true, apart := false, narrowed := true }
def BlocksPlayUptoSaid : Prop := blocksPlayUptoRow.holds Try.pinned (OpenSpec.upto blocksPlaySpec)

/-- 'firkinlaw07.BlocksBack', WHERE WHAT IT READS IS OF BULK AT MOST 1048576: true; the input reads as it did. -/
def blocksBackUptoRow : OpenClaim := { program := "ytaapnfoimcccjaa", sum := "eff934cfde7dc0157cc2e6611580d9c3bf514c87b04bc6296d5929153de72425", func := "firkin/firkinlaw07.BlocksBack", spec := "blocksBack", unfollowed := true, recurses := true, apart := false, narrowed := true }
def BlocksBackUptoSaid : Prop := blocksBackUptoRow.holds Try.pinned (OpenSpec.upto blocksBackSpec)

/-- 'firkinlaw07.BlocksParse', WHERE WHAT IT READS IS OF BULK AT MOST 1048576: true; the input reads as it did. -/
def blocksParseUptoRow : OpenClaim := { program := "ytaapnfoimcccjaa", sum := "eff934cfde7dc0157cc2e6611580d9c3bf514c87b04bc6296d5929153de72425", func := "firkin/firkinlaw07.BlocksParse", spec := "blocksParse", unfollowed := true, recurses := true, apart := false, narrowed := true }
def BlocksParseUptoSaid : Prop := blocksParseUptoRow.holds Try.pinned (OpenSpec.upto blocksParseSpec)

end Rows
end Go.Proofs.Ytaapnfoimcccjaa
