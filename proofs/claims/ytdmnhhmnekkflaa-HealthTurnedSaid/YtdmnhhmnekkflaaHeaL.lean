/-
  What is written of a log is read as it was; in plain Lean.
-/
import Derived.Test.YtdmnhhmnekkflaaHeaC
namespace Go.Proofs.Ytdmnhhmnekkflaa
open Go.Fk Go.RowKit

theorem numsB_at : ∀ (ns : List Nat) (i : Nat), i < ns.length → ((numsB ns).drop (8 * i)).take 8 = Crc.loB (ns.getD i 0) 8
  | [], i, h => absurd h (Nat.not_lt_zero _)
  | n :: r, 0, _ => by
    simp only [numsB, List.flatMap_cons, Nat.mul_zero, List.drop_zero]
    rw [List.take_append_of_le_length (by rw [Crc.loB_length]; exact Nat.le_refl _), List.take_of_length_le (by rw [Crc.loB_length]; exact Nat.le_refl _)]
    rfl
  | n :: r, i + 1, h => by
    have ih := numsB_at r i (by simpa using h)
    have e1 : (numsB (n :: r)).drop (8 * (i + 1)) = (numsB r).drop (8 * i) := by
      simp only [numsB, List.flatMap_cons]
      rw [List.drop_append, Crc.loB_length, List.drop_of_length_le (by rw [Crc.loB_length]; omega), List.nil_append, show 8 * (i + 1) - 8 = 8 * i by omega]
    rw [e1, ih]
    rfl
theorem numAt_log {ns : List Nat} (hs : Small ns) (only : Bool) {i : Nat} (h : i < 10) : numAt (logB ns only) i = ns.getD i 0 := by
  have hl := hs.1
  have hx := hs.2 i
  unfold numAt logB
  rw [List.append_assoc, List.drop_append, show magicB.length = 4 from rfl, List.drop_of_length_le (by show 4 ≤ _; omega), List.nil_append, show 4 + 8 * i - 4 = 8 * i by omega,
    List.drop_append_of_le_length (by rw [numsB_length]; omega), List.take_append_of_le_length (by rw [List.length_drop, numsB_length]; omega), numsB_at ns i (by omega), Crc.loN_loB]
  exact Nat.mod_eq_of_lt (by omega)
theorem log_84 {ns : List Nat} (hl : ns.length = 10) (only : Bool) : (logB ns only).getD 84 0 = if only then 1 else 0 := by
  unfold logB
  rw [List.getD_eq_getElem?_getD, List.getElem?_append_right (by simp [magicB, numsB_length, hl])]
  simp [magicB, numsB_length, hl]
theorem log_ok {ns : List Nat} (hs : Small ns) (only : Bool) : logOk (logB ns only) := by
  refine ⟨logB_length hs.1 only, rfl, ?_, fun i hi => ?_⟩
  · rw [log_84 hs.1]; cases only <;> decide
  · rw [numAt_log hs only hi]; exact hs.2 i
theorem sealed_take (l : List UInt8) : (Crc.sealed l).take ((Crc.sealed l).length - 4) = l := by
  rw [Crc.sealed_length, Nat.add_sub_cancel, Crc.sealed]
  exact List.take_left
theorem parseE_log {ns : List Nat} (hs : Small ns) (only : Bool) : parseE (Crc.sealed (logB ns only)) = 0 := by
  rw [parseE, if_pos (Crc.good_sealed _), sealed_take, if_pos (log_ok hs only)]
theorem parseNs_log {ns : List Nat} (hs : Small ns) (only : Bool) : parseNs (Crc.sealed (logB ns only)) = ns := by
  rw [parseNs, sealed_take, numsOf]
  have hl := hs.1
  refine List.ext_getElem (by simp [hl]) fun i h1 h2 => ?_
  have h3 : i < 10 := by omega
  rw [List.getElem_append_left (by simpa using h3)]
  simp only [List.getElem_map, List.getElem_range]
  rw [numAt_log hs only h3, List.getD_eq_getElem?_getD, List.getElem?_eq_getElem h2]
  rfl
theorem parseOnly_log {ns : List Nat} (hs : Small ns) (only : Bool) : parseOnly (Crc.sealed (logB ns only)) = only := by
  rw [parseOnly, sealed_take, onlyOf, log_84 hs.1]
  cases only <;> decide
theorem cOf_rises {ns : List Nat} (hs : Small ns) (what n : Int) : cOf ns what ≤ cOf (addN ns what n) what := by
  have hl := hs.1
  unfold cOf
  by_cases h : 0 ≤ what ∧ what < 10
  · rw [if_pos h, if_pos h]
    have hx := hs.2 what.toNat
    unfold addN
    by_cases h2 : 0 ≤ what ∧ what < 10 ∧ 1 ≤ n
    · rw [if_pos h2, List.getD_eq_getElem?_getD (l := ns.set _ _), List.getElem?_set_self (by omega)]
      simp only [Option.getD_some]
      omega
    · rw [if_neg h2]; exact Nat.le_refl _
  · rw [if_neg h, if_neg h]; exact Nat.le_refl _
theorem parse_small {l : List UInt8} (h : parseE l = 0) : Small (parseNs l) := by
  have hok : logOk (l.take (l.length - 4)) := by
    unfold parseE at h
    split at h
    · split at h
      · assumption
      · cases h
    · cases h
  refine ⟨numsOf_length _ (Nat.le_refl _), fun i => ?_⟩
  unfold parseNs numsOf
  simp only [Nat.sub_self, List.replicate_zero, List.append_nil]
  rw [List.getD_eq_getElem?_getD]
  by_cases hi : i < 10
  · rw [List.getElem?_map, List.getElem?_range hi]
    exact hok.2.2.2 i hi
  · rw [List.getElem?_eq_none (by simp; omega)]
    exact Nat.zero_le _
end Go.Proofs.Ytdmnhhmnekkflaa
