/-
  EntryKnows, EntryReads: walks.
-/
import Derived.Test.YtaengifldfgjcaaEntG
namespace Go.Proofs.Ytaengifldfgjcaa
open Go.Fk Go.RowKit
attribute [local irreducible] Wp WpL Det thenQ blockQ

theorem fit_done (result : Nat) (head queue id : Int) (phase : Bool) (status : Int) : fitCells Try.prog (Try.prog.fieldsOf 45).toList [.int .u32 result, .int .i64 head, .int .i64 queue, .int .i64 id, .bool phase, .int .i64 status] = true := by kernel_rfl
end Go.Proofs.Ytaengifldfgjcaa
