/-
  Commands and completions over the parts of memory; what is written is read as it was.
-/
import Derived.Test.YtaengifldfgjcaaEntI
import Derived.Test.YtaengifldfgjcaaStX
namespace Go.Proofs.Ytaengifldfgjcaa
open Go.Fk Go.RowKit
attribute [local irreducible] Wp WpL Det thenQ blockQ

section
variable {w w0 : World} {M : Nat → Prop} {L : List Ch}
theorem slOf {m : Nat} {v' : Value} {w' : World} {l : List UInt8} (hS : St w0 M w L) (hb : Below w.heap.size w w') (hv : SlB w' w.heap.size 5 v' l) (hm : l.length = m) :
    ∃ A c, v' = .slice A m c ∧ IsVw A m c A 0 ∧ St w0 M w' (.own A m c 5 1 (bv l) :: L) := by
  subst hm
  exact hS.newSl hb hv
theorem cmdL_length (op id space : Int) (addr lba : Nat) (count : Int) (force : Bool) : (cmdL op id space addr lba count force).length = if Ent.cmdOk op id space count then 64 else 0 := by
  unfold cmdL; split
  · exact cmdBytes_length _ _ _ _ _ _ _
  · rfl
theorem doneL_length (result : Nat) (head queue id : Int) (phase : Bool) (status : Int) : (doneL result head queue id phase status).length = if Ent.doneOk head queue id status then 16 else 0 := by
  unfold doneL; split
  · exact doneBytes_length _ _ _ _ _ _
  · rfl
variable (op id space count : Int) (addr lba : Nat) (force : Bool) (ha : addr < 18446744073709551616) (hl : lba < 18446744073709551616) (hcnt : -9223372036854775808 ≤ count ∧ count ≤ 9223372036854775807)
end
section
variable {w w0 : World} {M : Nat → Prop} {L : List Ch} (result : Nat) (head queue id status : Int) (phase : Bool) (hres : result < 4294967296)
include hres
theorem postedS (hS : St w0 M w L) : Calls Try.prog 32 #[doneV result head queue id phase status] w fun x w' => ∃ A c, x = .returned (.tuple #[.slice A (if Ent.doneOk head queue id status then 16 else 0) c, .int .i64 (doneE head queue id status)]) ∧
    IsVw A (if Ent.doneOk head queue id status then 16 else 0) c A 0 ∧ St w0 M w' (.own A (if Ent.doneOk head queue id status then 16 else 0) c 5 1 (bv (doneL result head queue id phase status)) :: L) := by
  refine (postedR result head queue id status phase hres w).mono ?_
  rintro x w' ⟨hb, v', rfl, hv⟩
  obtain ⟨A, c, rfl, hV, hS'⟩ := slOf hS hb hv (doneL_length _ _ _ _ _ _)
  exact ⟨A, c, rfl, hV, hS'⟩
theorem refPostedS (hS : St w0 M w L) : Calls Try.prog 33 #[doneV result head queue id phase status] w fun x w' => ∃ A c, x = .returned (.tuple #[.slice A (if Ent.doneOk head queue id status then 16 else 0) c, .int .i64 (doneE head queue id status)]) ∧
    IsVw A (if Ent.doneOk head queue id status then 16 else 0) c A 0 ∧ St w0 M w' (.own A (if Ent.doneOk head queue id status then 16 else 0) c 5 1 (bv (doneL result head queue id phase status)) :: L) := by
  refine (refPostedR result head queue id status phase hres w).mono ?_
  rintro x w' ⟨hb, v', rfl, hv⟩
  obtain ⟨A, c, rfl, hV, hS'⟩ := slOf hS hb hv (doneL_length _ _ _ _ _ _)
  exact ⟨A, c, rfl, hV, hS'⟩
end
/-! ### In plain Lean -/
theorem byteAt_over_off {l bs : List UInt8} {k o : Nat} (h : o + bs.length ≤ l.length) (hd : k < o ∨ o + bs.length ≤ k) : Ent.byteAt (Ent.over l o bs) k = Ent.byteAt l k := by
  unfold Ent.byteAt
  rw [List.getD_eq_getElem?_getD, Ent.over_get h, if_neg (by omega), List.getD_eq_getElem?_getD]
theorem byteAt_set_off {l : List UInt8} {b : UInt8} {k o : Nat} (hd : k ≠ o) : Ent.byteAt (l.set o b) k = Ent.byteAt l k := by
  unfold Ent.byteAt
  rw [List.getD_eq_getElem?_getD, List.getElem?_set_ne (Ne.symm hd), List.getD_eq_getElem?_getD]
theorem byteAt_set {l : List UInt8} {b : UInt8} {k : Nat} (h : k < l.length) : Ent.byteAt (l.set k b) k = b.toNat := by
  unfold Ent.byteAt
  rw [List.getD_eq_getElem?_getD, List.getElem?_set_self h]; rfl
theorem forceOf_64 : Ent.forceOf 64 = true := by decide
theorem forceOf_0 : Ent.forceOf 0 = false := by decide

theorem cmdOf_bytes {op id space cnt : Nat} {addr lba : Nat} (force : Bool) (h1 : op < 256) (h2 : id < 65536) (h3 : space < 4294967296) (h4 : cnt < 65536) (ha : addr < 18446744073709551616) (hl : lba < 18446744073709551616) :
    cmdOf (Ent.cmdBytes op id space addr lba cnt force) = cmdV op id space addr lba ((cnt + 1 : Nat) : Int) force := by
  have key : ∀ b : List UInt8, b.length = 64 → Ent.byteAt b 0 = op → Ent.rd b 2 2 = id → Ent.rd b 4 4 = space → Ent.rd b 24 8 = addr → Ent.rd b 40 8 = lba → Ent.rd b 48 2 = cnt → Ent.byteAt b 51 = 0 →
      cmdOf (if force then b.set 51 64 else b) = cmdV op id space addr lba ((cnt + 1 : Nat) : Int) force := by
    intro b hb e1 e2 e3 e4 e5 e6 e7
    cases force with
    | false => simp only [Bool.false_eq_true, if_false, cmdOf, e1, e2, e3, e4, e5, e6, e7, forceOf_0]
    | true =>
      simp only [if_true, cmdOf]
      rw [byteAt_set_off (by decide), Ent.rd_set_off (by decide), Ent.rd_set_off (by decide), Ent.rd_set_off (by decide), Ent.rd_set_off (by decide), Ent.rd_set_off (by decide), byteAt_set (by omega), e1, e2, e3, e4, e5, e6]
      rw [show (64 : UInt8).toNat = 64 from rfl, forceOf_64]
  unfold Ent.cmdBytes
  have l0 : ((List.replicate 64 (0 : UInt8)).set 0 (UInt8.ofNat op)).length = 64 := by simp
  have b0 : Ent.byteAt ((List.replicate 64 (0 : UInt8)).set 0 (UInt8.ofNat op)) 0 = op := by rw [byteAt_set (by simp)]; simp; omega
  have b51 : Ent.byteAt ((List.replicate 64 (0 : UInt8)).set 0 (UInt8.ofNat op)) 51 = 0 := by rw [byteAt_set_off (by decide)]; rfl
  generalize (List.replicate 64 (0 : UInt8)).set 0 (UInt8.ofNat op) = c0 at *
  have hlb := Crc.loB_length
  have l1 : (Ent.over c0 2 (Crc.loB id 2)).length = 64 := by rw [Ent.over_length (by rw [hlb]; omega)]; exact l0
  have l2 : (Ent.over (Ent.over c0 2 (Crc.loB id 2)) 4 (Crc.loB space 4)).length = 64 := by rw [Ent.over_length (by rw [hlb]; omega)]; exact l1
  have l3 : (Ent.over (Ent.over (Ent.over c0 2 (Crc.loB id 2)) 4 (Crc.loB space 4)) 24 (Crc.loB addr 8)).length = 64 := by rw [Ent.over_length (by rw [hlb]; omega)]; exact l2
  have l4 : (Ent.over (Ent.over (Ent.over (Ent.over c0 2 (Crc.loB id 2)) 4 (Crc.loB space 4)) 24 (Crc.loB addr 8)) 40 (Crc.loB lba 8)).length = 64 := by rw [Ent.over_length (by rw [hlb]; omega)]; exact l3
  refine key _ ?_ ?_ ?_ ?_ ?_ ?_ ?_ ?_
  · rw [Ent.over_length (by rw [hlb]; omega)]; exact l4
  all_goals
    repeat (first
      | rw [byteAt_over_off (by (try simp only [hlb]); omega) (by simp only [hlb]; decide)]
      | rw [Ent.rd_over_off (by (try simp only [hlb]); omega) (by simp only [hlb]; decide)]
      | rw [Ent.rd_over (by (try simp only [hlb]); omega)])
  · exact b0
  · exact Nat.mod_eq_of_lt h2
  · exact Nat.mod_eq_of_lt h3
  · exact Nat.mod_eq_of_lt ha
  · exact Nat.mod_eq_of_lt hl
  · exact Nat.mod_eq_of_lt h4
  · exact b51
theorem doneOf_bytes {result head queue id status : Nat} (phase : Bool) (h0 : result < 4294967296) (h1 : head < 65536) (h2 : queue < 65536) (h3 : id < 65536) (h4 : status < 32768) :
    doneOf (Ent.doneBytes result head queue id status phase) = doneV result head queue id phase status := by
  have hp : phase.toNat ≤ 1 := by cases phase <;> decide
  have key : ∀ b : List UInt8, Ent.rd b 0 4 = result → Ent.rd b 8 2 = head → Ent.rd b 10 2 = queue → Ent.rd b 12 2 = id → Ent.rd b 14 2 = 2 * status + phase.toNat → doneOf b = doneV result head queue id phase status := by
    intro b e1 e2 e3 e4 e5
    simp only [doneOf, e1, e2, e3, e4, e5]
    have e6 : (2 * status + phase.toNat) / 2 = status := by omega
    have e7 : decide ((((2 * status + phase.toNat) % 2 : Nat) : Int) = 1) = phase := by
      cases phase
      · exact decide_eq_false (by simp only [Bool.toNat_false]; omega)
      · exact decide_eq_true (by simp only [Bool.toNat_true]; omega)
    rw [e6, e7]
  unfold Ent.doneBytes
  have l0 : (List.replicate 16 (0 : UInt8)).length = 16 := by simp
  generalize List.replicate 16 (0 : UInt8) = c0 at *
  have hlb := Crc.loB_length
  have l1 : (Ent.over c0 0 (Crc.loB result 4)).length = 16 := by rw [Ent.over_length (by rw [hlb]; omega)]; exact l0
  have l2 : (Ent.over (Ent.over c0 0 (Crc.loB result 4)) 8 (Crc.loB head 2)).length = 16 := by rw [Ent.over_length (by rw [hlb]; omega)]; exact l1
  have l3 : (Ent.over (Ent.over (Ent.over c0 0 (Crc.loB result 4)) 8 (Crc.loB head 2)) 10 (Crc.loB queue 2)).length = 16 := by rw [Ent.over_length (by rw [hlb]; omega)]; exact l2
  have l4 : (Ent.over (Ent.over (Ent.over (Ent.over c0 0 (Crc.loB result 4)) 8 (Crc.loB head 2)) 10 (Crc.loB queue 2)) 12 (Crc.loB id 2)).length = 16 := by rw [Ent.over_length (by rw [hlb]; omega)]; exact l3
  refine key _ ?_ ?_ ?_ ?_ ?_
  all_goals
    repeat (first
      | rw [Ent.rd_over_off (by (try simp only [hlb]); omega) (by simp only [hlb]; decide)]
      | rw [Ent.rd_over (by (try simp only [hlb]); omega)])
  · exact Nat.mod_eq_of_lt h0
  · exact Nat.mod_eq_of_lt h1
  · exact Nat.mod_eq_of_lt h2
  · exact Nat.mod_eq_of_lt h3
  · exact Nat.mod_eq_of_lt (by omega)
end Go.Proofs.Ytaengifldfgjcaa
