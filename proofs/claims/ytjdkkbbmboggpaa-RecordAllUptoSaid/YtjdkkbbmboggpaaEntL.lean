/-
  Bytes put over others, in plain Lean.
-/
import Derived.Test.YtjdkkbbmboggpaaCrcL
import Derived.Test.YtjdkkbbmboggpaaMem
namespace Go.Fk.Ent
open Go.Fk.Crc

def over (l : List UInt8) (k : Nat) (bs : List UInt8) : List UInt8 := l.take k ++ bs ++ l.drop (k + bs.length)
theorem over_nil (l : List UInt8) (k : Nat) : over l k [] = l := by simp [over]
theorem over_length {l bs : List UInt8} {k : Nat} (h : k + bs.length ≤ l.length) : (over l k bs).length = l.length := by simp [over]; omega
theorem over_get {l bs : List UInt8} {k : Nat} (h : k + bs.length ≤ l.length) (j : Nat) : (over l k bs)[j]? = if k ≤ j ∧ j < k + bs.length then bs[j - k]? else l[j]? := by
  unfold over
  by_cases h1 : j < k
  · rw [if_neg (by omega), List.append_assoc, List.getElem?_append_left (by simp; omega), List.getElem?_take, if_pos h1]
  · by_cases h2 : j < k + bs.length
    · rw [if_pos ⟨by omega, h2⟩, List.append_assoc, List.getElem?_append_right (by simp; omega), List.getElem?_append_left (by simp; omega)]
      congr 1; simp; omega
    · rw [if_neg (by omega), List.getElem?_append_right (by simp; omega), List.getElem?_drop]
      congr 1; simp; omega
theorem over_snoc {l bs : List UInt8} {k : Nat} {b : UInt8} (h : k + bs.length < l.length) : over l k (bs ++ [b]) = (over l k bs).set (k + bs.length) b := by
  refine List.ext_getElem? fun j => ?_
  rw [over_get (by simp; omega), List.getElem?_set, over_length (by omega), over_get (by omega)]
  simp only [List.length_append, List.length_singleton]
  by_cases h1 : k + bs.length = j
  · subst h1
    rw [if_pos (by omega), if_pos rfl, if_pos (by omega), List.getElem?_append_right (by omega)]
    simp
  · rw [if_neg h1]
    by_cases h2 : k ≤ j ∧ j < k + bs.length
    · rw [if_pos (by omega), if_pos h2, List.getElem?_append_left (by omega)]
    · rw [if_neg (by omega), if_neg h2]
/-- So many bytes from a place on. -/
def rd (l : List UInt8) (at_ k : Nat) : Nat := loN ((l.drop at_).take k)
theorem rd_lt {l : List UInt8} {at_ k : Nat} : rd l at_ k < 2 ^ (8 * k) := Nat.lt_of_lt_of_le (loN_lt _) (Nat.pow_le_pow_right (by decide) (by simp; omega))
theorem rd_over {l : List UInt8} {at_ k m : Nat} (h : at_ + k ≤ l.length) : rd (over l at_ (loB m k)) at_ k = m % 2 ^ (8 * k) := by
  unfold rd over
  rw [List.append_assoc, List.drop_left' (by simp; omega), List.take_left' (loB_length _ _), loN_loB]
theorem rd_over_off {l bs : List UInt8} {at_ k o : Nat} (h : o + bs.length ≤ l.length) (hd : at_ + k ≤ o ∨ o + bs.length ≤ at_) : rd (over l o bs) at_ k = rd l at_ k := by
  unfold rd
  congr 1
  refine List.ext_getElem? fun j => ?_
  rw [List.getElem?_take, List.getElem?_take, List.getElem?_drop, List.getElem?_drop, over_get h]
  by_cases hj : j < k
  · rw [if_pos hj, if_pos hj, if_neg (by omega)]
  · rw [if_neg hj, if_neg hj]
theorem rd_set_off {l : List UInt8} {b : UInt8} {at_ k o : Nat} (hd : at_ + k ≤ o ∨ o + 1 ≤ at_) : rd (l.set o b) at_ k = rd l at_ k := by
  unfold rd
  congr 1
  refine List.ext_getElem? fun j => ?_
  rw [List.getElem?_take, List.getElem?_take, List.getElem?_drop, List.getElem?_drop]
  by_cases hj : j < k
  · rw [if_pos hj, if_pos hj, List.getElem?_set_ne (by omega)]
  · rw [if_neg hj, if_neg hj]
theorem loN_snoc (l : List UInt8) (b : UInt8) : loN (l ++ [b]) = loN l ||| (b.toNat <<< (8 * l.length)) := by
  have hl := loN_lt l
  rw [loN_append, Nat.or_comm, ← Nat.shiftLeft_add_eq_or_of_lt hl, Nat.shiftLeft_eq]
  simp only [loN]
  rw [Nat.mul_zero, Nat.add_zero, Nat.mul_comm, Nat.add_comm]
theorem rd_succ {l : List UInt8} {at_ i : Nat} (h : at_ + i < l.length) : rd l at_ (i + 1) = rd l at_ i ||| ((l[at_ + i]'h).toNat <<< (8 * i)) := by
  unfold rd
  rw [List.take_succ_eq_append_getElem (by simp; omega), loN_snoc, List.getElem_drop, List.length_take, Nat.min_eq_left (by simp; omega)]
theorem rd_lt64 {l : List UInt8} {at_ k : Nat} (hk : k ≤ 8) : rd l at_ k < 18446744073709551616 := by
  have h : (2 : Nat) ^ (8 * k) ≤ 2 ^ 64 := Nat.pow_le_pow_right (by decide) (by omega)
  exact Nat.lt_of_lt_of_le rd_lt (by simpa using h)
theorem rd_zero (l : List UInt8) (at_ : Nat) : rd l at_ 0 = 0 := by simp [rd, loN]

def cmdOk (op id space count : Int) : Prop := (0 ≤ op ∧ op ≤ 255) ∧ (0 ≤ id ∧ id ≤ 65535) ∧ (0 ≤ space ∧ space ≤ 4294967295) ∧ (1 ≤ count ∧ count ≤ 65536)
/-- A command's bytes. -/
def cmdBytes (op id space addr lba cnt : Nat) (force : Bool) : List UInt8 :=
  let b := over (over (over (over (over ((List.replicate 64 0).set 0 (UInt8.ofNat op)) 2 (loB id 2)) 4 (loB space 4)) 24 (loB addr 8)) 40 (loB lba 8)) 48 (loB cnt 2)
  if force then b.set 51 64 else b
def doneOk (head queue id status : Int) : Prop := (0 ≤ head ∧ head ≤ 65535) ∧ (0 ≤ queue ∧ queue ≤ 65535) ∧ (0 ≤ id ∧ id ≤ 65535) ∧ (0 ≤ status ∧ status ≤ 32767)
/-- A completion's bytes. -/
def doneBytes (result head queue id status : Nat) (phase : Bool) : List UInt8 :=
  over (over (over (over (over (List.replicate 16 0) 0 (loB result 4)) 8 (loB head 2)) 10 (loB queue 2)) 12 (loB id 2)) 14 (loB (2 * status + phase.toNat) 2)

def forceOf (x : Nat) : Bool := decide (((x / 64 % 2 : Nat) : Int) = 1)
theorem force_and : ∀ x : Nat, x < 256 → decide (((x &&& 64 : Nat) : Int) ≠ 0) = forceOf x := by
  have h : ∀ x : Fin 256, decide (((x.val &&& 64 : Nat) : Int) ≠ 0) = forceOf x.val := by decide +kernel
  exact fun x hx => h ⟨x, hx⟩
def byteAt (l : List UInt8) (k : Nat) : Nat := (l.getD k 0).toNat
theorem byteAt_lt (l : List UInt8) (k : Nat) : byteAt l k < 256 := UInt8.toNat_lt _
theorem byteAt_get {l : List UInt8} {k : Nat} (h : k < l.length) : (bv l)[k]? = some (.int .u8 (byteAt l k : Int)) := by
  rw [bv_get h]; simp [byteAt, List.getD_eq_getElem?_getD, h]
end Go.Fk.Ent
