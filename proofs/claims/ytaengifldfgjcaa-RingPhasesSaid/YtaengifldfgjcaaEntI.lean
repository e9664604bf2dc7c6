/-
  EntryReads: the walk.
-/
import Derived.Test.YtaengifldfgjcaaEntH
namespace Go.Proofs.Ytaengifldfgjcaa
open Go.Fk Go.RowKit
attribute [local irreducible] Wp WpL Det thenQ blockQ

theorem cmdR_form (l : List UInt8) : ∃ (op id space : Int) (addr lba : Nat) (count : Int) (force : Bool) (r : Int), cmdR l = .tuple #[cmdV op id space addr lba count force, .int .i64 r] := by
  unfold cmdR
  split
  · exact ⟨_, _, _, _, _, _, _, _, rfl⟩
  · exact ⟨0, 0, 0, 0, 0, 0, false, 1, rfl⟩
theorem doneR_form (l : List UInt8) : ∃ (result : Nat) (head queue id : Int) (phase : Bool) (status : Int) (r : Int), doneR l = .tuple #[doneV result head queue id phase status, .int .i64 r] := by
  unfold doneR
  split
  · exact ⟨_, _, _, _, _, _, _, rfl⟩
  · exact ⟨0, 0, 0, 0, false, 0, 1, rfl⟩
theorem eq_cmd (op id space : Int) (addr lba : Nat) (count : Int) (force : Bool) : eqCells [.int .i64 op, .int .i64 id, .int .i64 space, .int .u64 addr, .int .u64 lba, .int .i64 count, .bool force] [.int .i64 op, .int .i64 id, .int .i64 space, .int .u64 addr, .int .u64 lba, .int .i64 count, .bool force] = true := by
  simp [eqCells, eqCell]
theorem eq_done (result : Nat) (head queue id : Int) (phase : Bool) (status : Int) : eqCells [.int .u32 result, .int .i64 head, .int .i64 queue, .int .i64 id, .bool phase, .int .i64 status] [.int .u32 result, .int .i64 head, .int .i64 queue, .int .i64 id, .bool phase, .int .i64 status] = true := by
  simp [eqCells, eqCell]

end Go.Proofs.Ytaengifldfgjcaa
