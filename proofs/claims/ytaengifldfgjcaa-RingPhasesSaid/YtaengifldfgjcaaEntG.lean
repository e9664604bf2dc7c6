/-
  What the statements on commands and completions call first; the contracts in one form.
-/
import Derived.Test.YtaengifldfgjcaaEntC
import Derived.Test.YtaengifldfgjcaaEntE
import Derived.Test.YtaengifldfgjcaaEntF
namespace Go.Proofs.Ytaengifldfgjcaa
open Go.Fk Go.RowKit
attribute [local irreducible] Wp WpL Det thenQ blockQ
instance : EqT Try.prog 45 := ⟨by kernel_rfl, by kernel_rfl, by kernel_rfl, by kernel_rfl⟩
instance : BoolT Try.prog 4 := ⟨Try.underlying4⟩
instance (op id space count : Int) : Decidable (Ent.cmdOk op id space count) := by unfold Ent.cmdOk; infer_instance
instance (head queue id status : Int) : Decidable (Ent.doneOk head queue id status) := by unfold Ent.doneOk; infer_instance

def cmdL (op id space : Int) (addr lba : Nat) (count : Int) (force : Bool) : List UInt8 := if Ent.cmdOk op id space count then Ent.cmdBytes op.toNat id.toNat space.toNat addr lba (count - 1).toNat force else []
def cmdE (op id space count : Int) : Int := if Ent.cmdOk op id space count then 0 else 1
def doneL (result : Nat) (head queue id : Int) (phase : Bool) (status : Int) : List UInt8 := if Ent.doneOk head queue id status then Ent.doneBytes result head.toNat queue.toNat id.toNat status.toNat phase else []
def doneE (head queue id status : Int) : Int := if Ent.doneOk head queue id status then 0 else 1

theorem cmdBytes_length (op id space addr lba cnt : Nat) (force : Bool) : (Ent.cmdBytes op id space addr lba cnt force).length = 64 := by
  unfold Ent.cmdBytes
  cases force <;> simp [Ent.over, Crc.loB_length]
theorem doneBytes_length (result head queue id status : Nat) (phase : Bool) : (Ent.doneBytes result head queue id status phase).length = 16 := by
  unfold Ent.doneBytes
  simp [Ent.over, Crc.loB_length]

section
variable (op id space count : Int) (addr lba : Nat) (force : Bool) (ha : addr < 18446744073709551616) (hl : lba < 18446744073709551616) (hcnt : -9223372036854775808 ≤ count ∧ count ≤ 9223372036854775807) (w : World)
include ha hl hcnt
end
section
variable (result : Nat) (head queue id status : Int) (phase : Bool) (hres : result < 4294967296) (w : World)
include hres
theorem postedR : Calls Try.prog 32 #[doneV result head queue id phase status] w fun x w' => Below w.heap.size w w' ∧
    ∃ v', x = .returned (.tuple #[v', .int .i64 (doneE head queue id status)]) ∧ SlB w' w.heap.size 5 v' (doneL result head queue id phase status) := by
  refine (posted_any result head queue id status phase hres w).mono ?_
  rintro x w' ⟨hb, ⟨hok, v, rfl, hv⟩ | ⟨hok, rfl⟩⟩
  · exact ⟨hb, v, by rw [doneE, if_pos hok], by rw [doneL, if_pos hok]; exact hv⟩
  · exact ⟨hb, _, by rw [doneE, if_neg hok], by rw [doneL, if_neg hok]; exact SlB.nil _ _ _⟩
theorem refPostedR : Calls Try.prog 33 #[doneV result head queue id phase status] w fun x w' => Below w.heap.size w w' ∧
    ∃ v', x = .returned (.tuple #[v', .int .i64 (doneE head queue id status)]) ∧ SlB w' w.heap.size 5 v' (doneL result head queue id phase status) := by
  refine (refPosted_any result head queue id status phase hres w).mono ?_
  rintro x w' ⟨hb, ⟨hok, v, rfl, hv⟩ | ⟨hok, rfl⟩⟩
  · exact ⟨hb, v, by rw [doneE, if_pos hok], by rw [doneL, if_pos hok]; exact hv⟩
  · exact ⟨hb, _, by rw [doneE, if_neg hok], by rw [doneL, if_neg hok]; exact SlB.nil _ _ _⟩
end

def wakeL : List UInt8 := Ent.cmdBytes 1 7 1 0 9 1 true
theorem wake_cmd : cmdOf wakeL = cmdV 1 7 1 0 9 2 true := by kernel_rfl
theorem wake_byte : (bv wakeL)[2]? = some (.int .u8 7) ∧ (bv wakeL)[40]? = some (.int .u8 9) ∧ (bv wakeL)[48]? = some (.int .u8 1) ∧ (bv wakeL)[51]? = some (.int .u8 64) := ⟨by kernel_rfl, by kernel_rfl, by kernel_rfl, by kernel_rfl⟩

end Go.Proofs.Ytaengifldfgjcaa
