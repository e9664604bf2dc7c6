/-
  Walks over what writes commands and completions.
-/
import Derived.Test.YtaengifldfgjcaaEntA
namespace Go.Proofs.Ytaengifldfgjcaa
open Go.Fk Go.RowKit
attribute [local irreducible] Wp WpL Det thenQ blockQ
instance : FieldT Try.prog 45 0 0 := ⟨by kernel_rfl⟩
instance : FieldT Try.prog 45 1 1 := ⟨by kernel_rfl⟩
instance : FieldT Try.prog 45 2 2 := ⟨by kernel_rfl⟩
instance : FieldT Try.prog 45 3 3 := ⟨by kernel_rfl⟩
instance : FieldT Try.prog 45 4 4 := ⟨by kernel_rfl⟩
instance : FieldT Try.prog 45 5 5 := ⟨by kernel_rfl⟩

abbrev cmdV (op id space : Int) (addr lba : Nat) (count : Int) (force : Bool) : Value := .agg #[.int .i64 op, .int .i64 id, .int .i64 space, .int .u64 addr, .int .u64 lba, .int .i64 count, .bool force]
abbrev doneV (result : Nat) (head queue id : Int) (phase : Bool) (status : Int) : Value := .agg #[.int .u32 result, .int .i64 head, .int .i64 queue, .int .i64 id, .bool phase, .int .i64 status]

theorem in_any (n most : Int) (b : Bool) (h : b = decide (0 ≤ n ∧ n ≤ most)) (w : World) : Calls Try.prog 35 #[.int .i64 n, .int .i64 most] w fun x w' => x = .returned (.bool b) ∧ w = w' := by
  (refine calls_of (P := Try.prog) _ Try.func35 rfl Try.ntmps35 (Nat.le_of_ble_eq_true rfl) ?_; dsimp only [argE, Nat.reduceAdd])
  repeat (first | ((with_reducible apply WpL.det); (· exact rfl); (· exact Det.found)) | ((with_reducible apply WpL.nilN)) | ((with_reducible apply WpL.nil)) | ((with_reducible apply Wp.seq)) | ((with_reducible apply Wp.region)) | ((with_reducible apply thenQ_normal)) | ((with_reducible apply Wp.block)) | ((with_reducible apply Wp.skip)) | ((with_reducible apply Wp.ret)) | ((with_reducible apply Wp.exit)) | ((with_reducible apply thenQ_exit)) | ((with_reducible apply thenQ_ret)) | ((with_reducible apply blockQ_normal)) | ((with_reducible apply blockQ_ret)) | ((with_reducible apply blockQ_same)) | ((with_reducible apply blockQ_other); (· exact rfl)) | ((with_reducible apply WpL.unguard); (· exact rfl); (· exact rfl); (· exact boolFound)) | ((with_reducible apply WpL.skipG); (· exact rfl); (· exact rfl); (· exact boolFound); (· exact rfl)) | ((with_reducible apply Wp.condT); (· exact rfl); (· exact boolFound)) | ((with_reducible apply Wp.condF); (· exact rfl); (· exact boolFound)))
  by_cases h0 : 0 ≤ n
  · by_cases h1 : n ≤ most
    · repeat (first | ((with_reducible apply WpL.det); (· exact rfl); (· exact Det.found)) | ((with_reducible apply WpL.nilN)) | ((with_reducible apply WpL.nil)) | ((with_reducible apply Wp.seq)) | ((with_reducible apply Wp.region)) | ((with_reducible apply thenQ_normal)) | ((with_reducible apply Wp.block)) | ((with_reducible apply Wp.skip)) | ((with_reducible apply Wp.ret)) | ((with_reducible apply Wp.exit)) | ((with_reducible apply thenQ_exit)) | ((with_reducible apply thenQ_ret)) | ((with_reducible apply blockQ_normal)) | ((with_reducible apply blockQ_ret)) | ((with_reducible apply blockQ_same)) | ((with_reducible apply blockQ_other); (· exact rfl)) | ((with_reducible apply WpL.unguard); (· exact rfl); (· exact rfl); (· exact boolFound)) | ((with_reducible apply WpL.skipG); (· exact rfl); (· exact rfl); (· exact boolFound); (· exact rfl)) | ((with_reducible apply Wp.condT); (· exact rfl); (· exact boolFound)) | ((with_reducible apply Wp.condF); (· exact rfl); (· exact boolFound)))
      (with_reducible apply doneQ_one Try.results35); (· exact slotFound)
      rw [h]; exact ⟨by simp [h0, h1], rfl⟩
    · repeat (first | ((with_reducible apply WpL.det); (· exact rfl); (· exact Det.found)) | ((with_reducible apply WpL.nilN)) | ((with_reducible apply WpL.nil)) | ((with_reducible apply Wp.seq)) | ((with_reducible apply Wp.region)) | ((with_reducible apply thenQ_normal)) | ((with_reducible apply Wp.block)) | ((with_reducible apply Wp.skip)) | ((with_reducible apply Wp.ret)) | ((with_reducible apply Wp.exit)) | ((with_reducible apply thenQ_exit)) | ((with_reducible apply thenQ_ret)) | ((with_reducible apply blockQ_normal)) | ((with_reducible apply blockQ_ret)) | ((with_reducible apply blockQ_same)) | ((with_reducible apply blockQ_other); (· exact rfl)) | ((with_reducible apply WpL.unguard); (· exact rfl); (· exact rfl); (· exact boolFound)) | ((with_reducible apply WpL.skipG); (· exact rfl); (· exact rfl); (· exact boolFound); (· exact rfl)) | ((with_reducible apply Wp.condT); (· exact rfl); (· exact boolFound)) | ((with_reducible apply Wp.condF); (· exact rfl); (· exact boolFound)))
      (with_reducible apply doneQ_one Try.results35); (· exact slotFound)
      rw [h]; exact ⟨by simp [h0, h1], rfl⟩
  · repeat (first | ((with_reducible apply WpL.det); (· exact rfl); (· exact Det.found)) | ((with_reducible apply WpL.nilN)) | ((with_reducible apply WpL.nil)) | ((with_reducible apply Wp.seq)) | ((with_reducible apply Wp.region)) | ((with_reducible apply thenQ_normal)) | ((with_reducible apply Wp.block)) | ((with_reducible apply Wp.skip)) | ((with_reducible apply Wp.ret)) | ((with_reducible apply Wp.exit)) | ((with_reducible apply thenQ_exit)) | ((with_reducible apply thenQ_ret)) | ((with_reducible apply blockQ_normal)) | ((with_reducible apply blockQ_ret)) | ((with_reducible apply blockQ_same)) | ((with_reducible apply blockQ_other); (· exact rfl)) | ((with_reducible apply WpL.unguard); (· exact rfl); (· exact rfl); (· exact boolFound)) | ((with_reducible apply WpL.skipG); (· exact rfl); (· exact rfl); (· exact boolFound); (· exact rfl)) | ((with_reducible apply Wp.condT); (· exact rfl); (· exact boolFound)) | ((with_reducible apply Wp.condF); (· exact rfl); (· exact boolFound)))
    (with_reducible apply doneQ_one Try.results35); (· exact slotFound)
    rw [h]; exact ⟨by simp [h0], rfl⟩

end Go.Proofs.Ytaengifldfgjcaa
