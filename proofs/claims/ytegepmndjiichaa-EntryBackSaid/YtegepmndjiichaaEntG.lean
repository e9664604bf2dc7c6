/-
  What the statements on commands and completions call first; the contracts in one form.
-/
import Derived.Test.YtegepmndjiichaaEntC
import Derived.Test.YtegepmndjiichaaEntE
import Derived.Test.YtegepmndjiichaaEntF
namespace Go.Proofs.Ytegepmndjiichaa
open Go.Fk Go.RowKit
attribute [local irreducible] Wp WpL Det thenQ blockQ
instance : EqT Try.prog 26 := ⟨by kernel_rfl, by kernel_rfl, by kernel_rfl, by kernel_rfl⟩
instance : EqT Try.prog 32 := ⟨by kernel_rfl, by kernel_rfl, by kernel_rfl, by kernel_rfl⟩
instance : BoolT Try.prog 4 := ⟨Try.underlying4⟩
instance (op id space count : Int) : Decidable (Ent.cmdOk op id space count) := by unfold Ent.cmdOk; infer_instance
instance (head queue id status : Int) : Decidable (Ent.doneOk head queue id status) := by unfold Ent.doneOk; infer_instance

def cmdL (op id space : Int) (addr lba : Nat) (count : Int) (force : Bool) : List UInt8 := if Ent.cmdOk op id space count then Ent.cmdBytes op.toNat id.toNat space.toNat addr lba (count - 1).toNat force else []
def cmdE (op id space count : Int) : Int := if Ent.cmdOk op id space count then 0 else 1
def doneL (result : Nat) (head queue id : Int) (phase : Bool) (status : Int) : List UInt8 := if Ent.doneOk head queue id status then Ent.doneBytes result head.toNat queue.toNat id.toNat status.toNat phase else []
def doneE (head queue id status : Int) : Int := if Ent.doneOk head queue id status then 0 else 1

theorem cmdBytes_length (op id space addr lba cnt : Nat) (force : Bool) : (Ent.cmdBytes op id space addr lba cnt force).length = 64 := by
  unfold Ent.cmdBytes
  cases force <;> simp [Ent.over, Crc.loB_length]
theorem doneBytes_length (result head queue id status : Nat) (phase : Bool) : (Ent.doneBytes result head queue id status phase).length = 16 := by
  unfold Ent.doneBytes
  simp [Ent.over, Crc.loB_length]

section
variable (op id space count : Int) (addr lba : Nat) (force : Bool) (ha : addr < 18446744073709551616) (hl : lba < 18446744073709551616) (hcnt : -9223372036854775808 ≤ count ∧ count ≤ 9223372036854775807) (w : World)
include ha hl hcnt
theorem bytesR : Calls Try.prog 13 #[cmdV op id space addr lba count force] w fun x w' => Below w.heap.size w w' ∧
    ∃ v', x = .returned (.tuple #[v', .int .i64 (cmdE op id space count)]) ∧ SlB w' w.heap.size 5 v' (cmdL op id space addr lba count force) := by
  refine (bytes_any op id space count addr lba force ha hl hcnt w).mono ?_
  rintro x w' ⟨hb, ⟨hok, v, rfl, hv⟩ | ⟨hok, rfl⟩⟩
  · exact ⟨hb, v, by rw [cmdE, if_pos hok], by rw [cmdL, if_pos hok]; exact hv⟩
  · exact ⟨hb, _, by rw [cmdE, if_neg hok], by rw [cmdL, if_neg hok]; exact SlB.nil _ _ _⟩
theorem refBytesR : Calls Try.prog 14 #[cmdV op id space addr lba count force] w fun x w' => Below w.heap.size w w' ∧
    ∃ v', x = .returned (.tuple #[v', .int .i64 (cmdE op id space count)]) ∧ SlB w' w.heap.size 5 v' (cmdL op id space addr lba count force) := by
  refine (refBytes_any op id space count addr lba force ha hl hcnt w).mono ?_
  rintro x w' ⟨hb, ⟨hok, v, rfl, hv⟩ | ⟨hok, rfl⟩⟩
  · exact ⟨hb, v, by rw [cmdE, if_pos hok], by rw [cmdL, if_pos hok]; exact hv⟩
  · exact ⟨hb, _, by rw [cmdE, if_neg hok], by rw [cmdL, if_neg hok]; exact SlB.nil _ _ _⟩
end
section
variable (result : Nat) (head queue id status : Int) (phase : Bool) (hres : result < 4294967296) (w : World)
include hres
theorem postedR : Calls Try.prog 15 #[doneV result head queue id phase status] w fun x w' => Below w.heap.size w w' ∧
    ∃ v', x = .returned (.tuple #[v', .int .i64 (doneE head queue id status)]) ∧ SlB w' w.heap.size 5 v' (doneL result head queue id phase status) := by
  refine (posted_any result head queue id status phase hres w).mono ?_
  rintro x w' ⟨hb, ⟨hok, v, rfl, hv⟩ | ⟨hok, rfl⟩⟩
  · exact ⟨hb, v, by rw [doneE, if_pos hok], by rw [doneL, if_pos hok]; exact hv⟩
  · exact ⟨hb, _, by rw [doneE, if_neg hok], by rw [doneL, if_neg hok]; exact SlB.nil _ _ _⟩
theorem refPostedR : Calls Try.prog 16 #[doneV result head queue id phase status] w fun x w' => Below w.heap.size w w' ∧
    ∃ v', x = .returned (.tuple #[v', .int .i64 (doneE head queue id status)]) ∧ SlB w' w.heap.size 5 v' (doneL result head queue id phase status) := by
  refine (refPosted_any result head queue id status phase hres w).mono ?_
  rintro x w' ⟨hb, ⟨hok, v, rfl, hv⟩ | ⟨hok, rfl⟩⟩
  · exact ⟨hb, v, by rw [doneE, if_pos hok], by rw [doneL, if_pos hok]; exact hv⟩
  · exact ⟨hb, _, by rw [doneE, if_neg hok], by rw [doneL, if_neg hok]; exact SlB.nil _ _ _⟩
end

def wakeL : List UInt8 := Ent.cmdBytes 1 7 1 0 9 1 true
theorem wake_cmd : cmdOf wakeL = cmdV 1 7 1 0 9 2 true := by kernel_rfl
theorem wake_byte : (bv wakeL)[2]? = some (.int .u8 7) ∧ (bv wakeL)[40]? = some (.int .u8 9) ∧ (bv wakeL)[48]? = some (.int .u8 1) ∧ (bv wakeL)[51]? = some (.int .u8 64) := ⟨by kernel_rfl, by kernel_rfl, by kernel_rfl, by kernel_rfl⟩

theorem awake_any (w : World) : Calls Try.prog 8 #[] w fun x w' => x = .returned (.bool true) ∧ Below w.heap.size w w' := by
  (refine calls_of (P := Try.prog) _ Try.func8 rfl Try.ntmps8 (Nat.le_of_ble_eq_true rfl) ?_; dsimp only [argE, Nat.reduceAdd])
  repeat (first | ((with_reducible apply WpL.det); (· exact rfl); (· exact Det.found)) | ((with_reducible apply WpL.nilN)) | ((with_reducible apply WpL.nil)) | ((with_reducible apply Wp.seq)) | ((with_reducible apply Wp.region)) | ((with_reducible apply thenQ_normal)) | ((with_reducible apply Wp.block)) | ((with_reducible apply Wp.skip)) | ((with_reducible apply Wp.ret)) | ((with_reducible apply Wp.exit)) | ((with_reducible apply thenQ_exit)) | ((with_reducible apply thenQ_ret)) | ((with_reducible apply blockQ_normal)) | ((with_reducible apply blockQ_ret)) | ((with_reducible apply blockQ_same)) | ((with_reducible apply blockQ_other); (· exact rfl)) | ((with_reducible apply WpL.unguard); (· exact rfl); (· exact rfl); (· exact boolFound)) | ((with_reducible apply WpL.skipG); (· exact rfl); (· exact rfl); (· exact boolFound); (· exact rfl)) | ((with_reducible apply Wp.condT); (· exact rfl); (· exact boolFound)) | ((with_reducible apply Wp.condF); (· exact rfl); (· exact boolFound)))
  refine WpL.det rfl (Det.build (cells := [.int .i64 1, .int .i64 7, .int .i64 1, .int .u64 0, .int .u64 9, .int .i64 2, .bool true]) PVals.found rfl) ?_
  repeat (first | ((with_reducible apply WpL.det); (· exact rfl); (· exact Det.found)) | ((with_reducible apply WpL.nilN)) | ((with_reducible apply WpL.nil)) | ((with_reducible apply Wp.seq)) | ((with_reducible apply Wp.region)) | ((with_reducible apply thenQ_normal)) | ((with_reducible apply Wp.block)) | ((with_reducible apply Wp.skip)) | ((with_reducible apply Wp.ret)) | ((with_reducible apply Wp.exit)) | ((with_reducible apply thenQ_exit)) | ((with_reducible apply thenQ_ret)) | ((with_reducible apply blockQ_normal)) | ((with_reducible apply blockQ_ret)) | ((with_reducible apply blockQ_same)) | ((with_reducible apply blockQ_other); (· exact rfl)) | ((with_reducible apply WpL.unguard); (· exact rfl); (· exact rfl); (· exact boolFound)) | ((with_reducible apply WpL.skipG); (· exact rfl); (· exact rfl); (· exact boolFound); (· exact rfl)) | ((with_reducible apply Wp.condT); (· exact rfl); (· exact boolFound)) | ((with_reducible apply Wp.condF); (· exact rfl); (· exact boolFound)))
  (with_reducible apply WpL.call); (· exact rfl); (· exact Try.call13); (· exact Vals.found)
  refine (bytes_any 1 7 1 2 0 9 true (by decide) (by decide) (by decide) w).mono ?_
  rintro x w1 ⟨hb1, ⟨-, v1, rfl, hv1⟩ | ⟨hok, -⟩⟩
  rotate_left
  · exact absurd (by decide) hok
  refine ⟨_, rfl, ?_⟩
  have hv1 : SlB w1 w.heap.size 5 v1 wakeL := hv1
  obtain ⟨A1, c1, rfl, hc1, -, -, hr1⟩ := hv1.form
  have hl : wakeL.length = 64 := cmdBytes_length _ _ _ _ _ _ _
  obtain ⟨a, rfl, hat⟩ := hr1.at_ (i := 0) (by simp [hl])
  rw [hl]
  repeat (first | ((with_reducible apply WpL.det); (· exact rfl); (· exact Det.found)) | ((with_reducible apply WpL.nilN)) | ((with_reducible apply WpL.nil)) | ((with_reducible apply Wp.seq)) | ((with_reducible apply Wp.region)) | ((with_reducible apply thenQ_normal)) | ((with_reducible apply Wp.block)) | ((with_reducible apply Wp.skip)) | ((with_reducible apply Wp.ret)) | ((with_reducible apply Wp.exit)) | ((with_reducible apply thenQ_exit)) | ((with_reducible apply thenQ_ret)) | ((with_reducible apply blockQ_normal)) | ((with_reducible apply blockQ_ret)) | ((with_reducible apply blockQ_same)) | ((with_reducible apply blockQ_other); (· exact rfl)) | ((with_reducible apply WpL.unguard); (· exact rfl); (· exact rfl); (· exact boolFound)) | ((with_reducible apply WpL.skipG); (· exact rfl); (· exact rfl); (· exact boolFound); (· exact rfl)) | ((with_reducible apply Wp.condT); (· exact rfl); (· exact boolFound)) | ((with_reducible apply Wp.condF); (· exact rfl); (· exact boolFound)))
  (with_reducible apply WpL.call); (· exact rfl); (· exact Try.call9); (· exact Vals.found)
  refine (command_any _ wakeL 64 c1 hl (by omega) (by decide) w1 hr1).mono ?_
  rintro x w2 ⟨rfl, hb2⟩
  refine ⟨_, rfl, ?_⟩
  rw [cmdR, if_pos hl, wake_cmd]
  repeat (first | ((with_reducible apply WpL.det); (· exact rfl); (· exact Det.found)) | ((with_reducible apply WpL.nilN)) | ((with_reducible apply WpL.nil)) | ((with_reducible apply Wp.seq)) | ((with_reducible apply Wp.region)) | ((with_reducible apply thenQ_normal)) | ((with_reducible apply Wp.block)) | ((with_reducible apply Wp.skip)) | ((with_reducible apply Wp.ret)) | ((with_reducible apply Wp.exit)) | ((with_reducible apply thenQ_exit)) | ((with_reducible apply thenQ_ret)) | ((with_reducible apply blockQ_normal)) | ((with_reducible apply blockQ_ret)) | ((with_reducible apply blockQ_same)) | ((with_reducible apply blockQ_other); (· exact rfl)) | ((with_reducible apply WpL.unguard); (· exact rfl); (· exact rfl); (· exact boolFound)) | ((with_reducible apply WpL.skipG); (· exact rfl); (· exact rfl); (· exact boolFound); (· exact rfl)) | ((with_reducible apply Wp.condT); (· exact rfl); (· exact boolFound)) | ((with_reducible apply Wp.condF); (· exact rfl); (· exact boolFound)))
  refine WpL.alloc rfl ?_
  intro w3 hb3 hs3 hg3
  repeat (first | ((with_reducible apply WpL.det); (· exact rfl); (· exact Det.found)) | ((with_reducible apply WpL.nilN)) | ((with_reducible apply WpL.nil)) | ((with_reducible apply Wp.seq)) | ((with_reducible apply Wp.region)) | ((with_reducible apply thenQ_normal)) | ((with_reducible apply Wp.block)) | ((with_reducible apply Wp.skip)) | ((with_reducible apply Wp.ret)) | ((with_reducible apply Wp.exit)) | ((with_reducible apply thenQ_exit)) | ((with_reducible apply thenQ_ret)) | ((with_reducible apply blockQ_normal)) | ((with_reducible apply blockQ_ret)) | ((with_reducible apply blockQ_same)) | ((with_reducible apply blockQ_other); (· exact rfl)) | ((with_reducible apply WpL.unguard); (· exact rfl); (· exact rfl); (· exact boolFound)) | ((with_reducible apply WpL.skipG); (· exact rfl); (· exact rfl); (· exact boolFound); (· exact rfl)) | ((with_reducible apply Wp.condT); (· exact rfl); (· exact boolFound)) | ((with_reducible apply Wp.condF); (· exact rfl); (· exact boolFound)))
  refine WpL.storeRow (n := 7) rfl rfl rfl rfl (oneAll_spec rfl) hg3 ?_
  intro w4 hgr4 hs4 hg4
  have hb4 : Below w.heap.size w w4 := ((hb1.on hb2).on hb3).write hgr4 (by have := hb1.size; have := hb2.size; omega)
  have hat4 : At w4 a (bv wakeL) := hat.below ((hb2.on hb3).write hgr4 (by have := hb2.size; omega))
  repeat (first | ((with_reducible apply WpL.det); (· exact rfl); (· exact Det.found)) | ((with_reducible apply WpL.nilN)) | ((with_reducible apply WpL.nil)) | ((with_reducible apply Wp.seq)) | ((with_reducible apply Wp.region)) | ((with_reducible apply thenQ_normal)) | ((with_reducible apply Wp.block)) | ((with_reducible apply Wp.skip)) | ((with_reducible apply Wp.ret)) | ((with_reducible apply Wp.exit)) | ((with_reducible apply thenQ_exit)) | ((with_reducible apply thenQ_ret)) | ((with_reducible apply blockQ_normal)) | ((with_reducible apply blockQ_ret)) | ((with_reducible apply blockQ_same)) | ((with_reducible apply blockQ_other); (· exact rfl)) | ((with_reducible apply WpL.unguard); (· exact rfl); (· exact rfl); (· exact boolFound)) | ((with_reducible apply WpL.skipG); (· exact rfl); (· exact rfl); (· exact boolFound); (· exact rfl)) | ((with_reducible apply Wp.condT); (· exact rfl); (· exact boolFound)) | ((with_reducible apply Wp.condF); (· exact rfl); (· exact boolFound)))
  refine WpL.loadA rfl rfl hat4 wake_byte.1 ?_
  repeat (first | ((with_reducible apply WpL.det); (· exact rfl); (· exact Det.found)) | ((with_reducible apply WpL.nilN)) | ((with_reducible apply WpL.nil)) | ((with_reducible apply Wp.seq)) | ((with_reducible apply Wp.region)) | ((with_reducible apply thenQ_normal)) | ((with_reducible apply Wp.block)) | ((with_reducible apply Wp.skip)) | ((with_reducible apply Wp.ret)) | ((with_reducible apply Wp.exit)) | ((with_reducible apply thenQ_exit)) | ((with_reducible apply thenQ_ret)) | ((with_reducible apply blockQ_normal)) | ((with_reducible apply blockQ_ret)) | ((with_reducible apply blockQ_same)) | ((with_reducible apply blockQ_other); (· exact rfl)) | ((with_reducible apply WpL.unguard); (· exact rfl); (· exact rfl); (· exact boolFound)) | ((with_reducible apply WpL.skipG); (· exact rfl); (· exact rfl); (· exact boolFound); (· exact rfl)) | ((with_reducible apply Wp.condT); (· exact rfl); (· exact boolFound)) | ((with_reducible apply Wp.condF); (· exact rfl); (· exact boolFound)))
  refine WpL.loadA rfl rfl hat4 wake_byte.2.1 ?_
  repeat (first | ((with_reducible apply WpL.det); (· exact rfl); (· exact Det.found)) | ((with_reducible apply WpL.nilN)) | ((with_reducible apply WpL.nil)) | ((with_reducible apply Wp.seq)) | ((with_reducible apply Wp.region)) | ((with_reducible apply thenQ_normal)) | ((with_reducible apply Wp.block)) | ((with_reducible apply Wp.skip)) | ((with_reducible apply Wp.ret)) | ((with_reducible apply Wp.exit)) | ((with_reducible apply thenQ_exit)) | ((with_reducible apply thenQ_ret)) | ((with_reducible apply blockQ_normal)) | ((with_reducible apply blockQ_ret)) | ((with_reducible apply blockQ_same)) | ((with_reducible apply blockQ_other); (· exact rfl)) | ((with_reducible apply WpL.unguard); (· exact rfl); (· exact rfl); (· exact boolFound)) | ((with_reducible apply WpL.skipG); (· exact rfl); (· exact rfl); (· exact boolFound); (· exact rfl)) | ((with_reducible apply Wp.condT); (· exact rfl); (· exact boolFound)) | ((with_reducible apply Wp.condF); (· exact rfl); (· exact boolFound)))
  refine WpL.loadA rfl rfl hat4 wake_byte.2.2.1 ?_
  repeat (first | ((with_reducible apply WpL.det); (· exact rfl); (· exact Det.found)) | ((with_reducible apply WpL.nilN)) | ((with_reducible apply WpL.nil)) | ((with_reducible apply Wp.seq)) | ((with_reducible apply Wp.region)) | ((with_reducible apply thenQ_normal)) | ((with_reducible apply Wp.block)) | ((with_reducible apply Wp.skip)) | ((with_reducible apply Wp.ret)) | ((with_reducible apply Wp.exit)) | ((with_reducible apply thenQ_exit)) | ((with_reducible apply thenQ_ret)) | ((with_reducible apply blockQ_normal)) | ((with_reducible apply blockQ_ret)) | ((with_reducible apply blockQ_same)) | ((with_reducible apply blockQ_other); (· exact rfl)) | ((with_reducible apply WpL.unguard); (· exact rfl); (· exact rfl); (· exact boolFound)) | ((with_reducible apply WpL.skipG); (· exact rfl); (· exact rfl); (· exact boolFound); (· exact rfl)) | ((with_reducible apply Wp.condT); (· exact rfl); (· exact boolFound)) | ((with_reducible apply Wp.condF); (· exact rfl); (· exact boolFound)))
  refine WpL.loadA rfl rfl hat4 wake_byte.2.2.2 ?_
  repeat (first | ((with_reducible apply WpL.det); (· exact rfl); (· exact Det.found)) | ((with_reducible apply WpL.nilN)) | ((with_reducible apply WpL.nil)) | ((with_reducible apply Wp.seq)) | ((with_reducible apply Wp.region)) | ((with_reducible apply thenQ_normal)) | ((with_reducible apply Wp.block)) | ((with_reducible apply Wp.skip)) | ((with_reducible apply Wp.ret)) | ((with_reducible apply Wp.exit)) | ((with_reducible apply thenQ_exit)) | ((with_reducible apply thenQ_ret)) | ((with_reducible apply blockQ_normal)) | ((with_reducible apply blockQ_ret)) | ((with_reducible apply blockQ_same)) | ((with_reducible apply blockQ_other); (· exact rfl)) | ((with_reducible apply WpL.unguard); (· exact rfl); (· exact rfl); (· exact boolFound)) | ((with_reducible apply WpL.skipG); (· exact rfl); (· exact rfl); (· exact boolFound); (· exact rfl)) | ((with_reducible apply Wp.condT); (· exact rfl); (· exact boolFound)) | ((with_reducible apply Wp.condF); (· exact rfl); (· exact boolFound)))
  refine WpL.loadRow (n := 7) rfl rfl hg4 rfl ?_
  repeat (first | ((with_reducible apply WpL.det); (· exact rfl); (· exact Det.found)) | ((with_reducible apply WpL.nilN)) | ((with_reducible apply WpL.nil)) | ((with_reducible apply Wp.seq)) | ((with_reducible apply Wp.region)) | ((with_reducible apply thenQ_normal)) | ((with_reducible apply Wp.block)) | ((with_reducible apply Wp.skip)) | ((with_reducible apply Wp.ret)) | ((with_reducible apply Wp.exit)) | ((with_reducible apply thenQ_exit)) | ((with_reducible apply thenQ_ret)) | ((with_reducible apply blockQ_normal)) | ((with_reducible apply blockQ_ret)) | ((with_reducible apply blockQ_same)) | ((with_reducible apply blockQ_other); (· exact rfl)) | ((with_reducible apply WpL.unguard); (· exact rfl); (· exact rfl); (· exact boolFound)) | ((with_reducible apply WpL.skipG); (· exact rfl); (· exact rfl); (· exact boolFound); (· exact rfl)) | ((with_reducible apply Wp.condT); (· exact rfl); (· exact boolFound)) | ((with_reducible apply Wp.condF); (· exact rfl); (· exact boolFound)))
  refine WpL.det rfl (Det.build (cells := [.int .i64 1, .int .i64 7, .int .i64 1, .int .u64 0, .int .u64 9, .int .i64 2, .bool true]) PVals.found rfl) ?_
  repeat (first | ((with_reducible apply WpL.det); (· exact rfl); (· exact Det.found)) | ((with_reducible apply WpL.nilN)) | ((with_reducible apply WpL.nil)) | ((with_reducible apply Wp.seq)) | ((with_reducible apply Wp.region)) | ((with_reducible apply thenQ_normal)) | ((with_reducible apply Wp.block)) | ((with_reducible apply Wp.skip)) | ((with_reducible apply Wp.ret)) | ((with_reducible apply Wp.exit)) | ((with_reducible apply thenQ_exit)) | ((with_reducible apply thenQ_ret)) | ((with_reducible apply blockQ_normal)) | ((with_reducible apply blockQ_ret)) | ((with_reducible apply blockQ_same)) | ((with_reducible apply blockQ_other); (· exact rfl)) | ((with_reducible apply WpL.unguard); (· exact rfl); (· exact rfl); (· exact boolFound)) | ((with_reducible apply WpL.skipG); (· exact rfl); (· exact rfl); (· exact boolFound); (· exact rfl)) | ((with_reducible apply Wp.condT); (· exact rfl); (· exact boolFound)) | ((with_reducible apply Wp.condF); (· exact rfl); (· exact boolFound)))
  refine WpL.det rfl (Det.eqlRow rfl rfl rfl rfl) ?_
  have he : eqCells [.int .i64 1, .int .i64 7, .int .i64 1, .int .u64 0, .int .u64 9, .int .i64 2, .bool true] [.int .i64 1, .int .i64 7, .int .i64 1, .int .u64 0, .int .u64 9, .int .i64 2, .bool true] = true := rfl
  repeat (first | ((with_reducible apply WpL.det); (· exact rfl); (· exact Det.found)) | ((with_reducible apply WpL.nilN)) | ((with_reducible apply WpL.nil)) | ((with_reducible apply Wp.seq)) | ((with_reducible apply Wp.region)) | ((with_reducible apply thenQ_normal)) | ((with_reducible apply Wp.block)) | ((with_reducible apply Wp.skip)) | ((with_reducible apply Wp.ret)) | ((with_reducible apply Wp.exit)) | ((with_reducible apply thenQ_exit)) | ((with_reducible apply thenQ_ret)) | ((with_reducible apply blockQ_normal)) | ((with_reducible apply blockQ_ret)) | ((with_reducible apply blockQ_same)) | ((with_reducible apply blockQ_other); (· exact rfl)) | ((with_reducible apply WpL.unguard); (· exact rfl); (· exact rfl); (· exact boolFound)) | ((with_reducible apply WpL.skipG); (· exact rfl); (· exact rfl); (· exact boolFound); (· exact rfl)) | ((with_reducible apply Wp.condT); (· exact rfl); (· exact boolFound)) | ((with_reducible apply Wp.condF); (· exact rfl); (· exact boolFound)))
  (with_reducible apply WpL.call); (· exact rfl); (· exact Try.call17); (· exact Vals.found)
  refine (known_any 13 w4).mono ?_
  rintro x w5 ⟨rfl, rfl⟩
  refine ⟨_, rfl, ?_⟩
  rw [show knownB 13 = true from rfl]
  repeat (first | ((with_reducible apply WpL.det); (· exact rfl); (· exact Det.found)) | ((with_reducible apply WpL.nilN)) | ((with_reducible apply WpL.nil)) | ((with_reducible apply Wp.seq)) | ((with_reducible apply Wp.region)) | ((with_reducible apply thenQ_normal)) | ((with_reducible apply Wp.block)) | ((with_reducible apply Wp.skip)) | ((with_reducible apply Wp.ret)) | ((with_reducible apply Wp.exit)) | ((with_reducible apply thenQ_exit)) | ((with_reducible apply thenQ_ret)) | ((with_reducible apply blockQ_normal)) | ((with_reducible apply blockQ_ret)) | ((with_reducible apply blockQ_same)) | ((with_reducible apply blockQ_other); (· exact rfl)) | ((with_reducible apply WpL.unguard); (· exact rfl); (· exact rfl); (· exact boolFound)) | ((with_reducible apply WpL.skipG); (· exact rfl); (· exact rfl); (· exact boolFound); (· exact rfl)) | ((with_reducible apply Wp.condT); (· exact rfl); (· exact boolFound)) | ((with_reducible apply Wp.condF); (· exact rfl); (· exact boolFound)))
  (with_reducible apply WpL.call); (· exact rfl); (· exact Try.call17); (· exact Vals.found)
  refine (known_any 3 w4).mono ?_
  rintro x w5 ⟨rfl, rfl⟩
  refine ⟨_, rfl, ?_⟩
  rw [show knownB 3 = false from rfl]
  repeat (first | ((with_reducible apply WpL.det); (· exact rfl); (· exact Det.found)) | ((with_reducible apply WpL.nilN)) | ((with_reducible apply WpL.nil)) | ((with_reducible apply Wp.seq)) | ((with_reducible apply Wp.region)) | ((with_reducible apply thenQ_normal)) | ((with_reducible apply Wp.block)) | ((with_reducible apply Wp.skip)) | ((with_reducible apply Wp.ret)) | ((with_reducible apply Wp.exit)) | ((with_reducible apply thenQ_exit)) | ((with_reducible apply thenQ_ret)) | ((with_reducible apply blockQ_normal)) | ((with_reducible apply blockQ_ret)) | ((with_reducible apply blockQ_same)) | ((with_reducible apply blockQ_other); (· exact rfl)) | ((with_reducible apply WpL.unguard); (· exact rfl); (· exact rfl); (· exact boolFound)) | ((with_reducible apply WpL.skipG); (· exact rfl); (· exact rfl); (· exact boolFound); (· exact rfl)) | ((with_reducible apply Wp.condT); (· exact rfl); (· exact boolFound)) | ((with_reducible apply Wp.condF); (· exact rfl); (· exact boolFound)))
  (with_reducible apply doneQ_one Try.results8); (· exact slotFound)
  exact ⟨rfl, hb4⟩
end Go.Proofs.Ytegepmndjiichaa
