/-
  Bits that are turned, in plain Lean: what stands in the bytes behind it.
-/
import Derived.Test.YtjdkkbbmboggpaaCrcL
namespace Go.Fk.Crc

theorem testBit_cons (b : UInt8) (r : List UInt8) (k : Nat) : (loN (b :: r)).testBit k = if k < 8 then b.toNat.testBit k else (loN r).testBit (k - 8) := by
  have h : loN (b :: r) = 2 ^ 8 * loN r + b.toNat := by simp only [loN]; omega
  rw [h, Nat.testBit_two_pow_mul_add _ (UInt8.toNat_lt b)]

theorem flip_at (m : Nat) (hm : m < 8) (f : UInt8) (hf : f.toNat = 2 ^ m) : ∀ (l : List UInt8) (j : Nat) (hj : j < l.length), loN (l.set j (l[j] ^^^ f)) = loN l ^^^ 2 ^ (8 * j + m)
  | [], j, hj => by simp at hj
  | b :: r, 0, _ => by
    refine Nat.eq_of_testBit_eq fun k => ?_
    simp only [List.set_cons_zero, List.getElem_cons_zero, Nat.testBit_xor, testBit_cons, UInt8.toNat_xor, hf, Nat.testBit_two_pow]
    by_cases hk : k < 8
    · simp [hk]
    · have : ¬ m = k := by omega
      simp [hk, this]
  | b :: r, j + 1, hj => by
    have hj' : j < r.length := by simpa using hj
    have ih := flip_at m hm f hf r j hj'
    refine Nat.eq_of_testBit_eq fun k => ?_
    simp only [List.set_cons_succ, List.getElem_cons_succ, Nat.testBit_xor, testBit_cons, ih, Nat.testBit_two_pow]
    by_cases hk : k < 8
    · have : ¬ 8 * (j + 1) + m = k := by omega
      simp [hk, this]
    · have : (8 * (j + 1) + m = k) ↔ (8 * j + m = k - 8) := by omega
      simp [hk, this]

/-- The first k of 32 bits have been turned. -/
def Turned (l c : List UInt8) (bits at_ k : Nat) : Prop := c.length = l.length ∧ loN l ^^^ loN c = (bits % 2 ^ k) <<< at_
theorem Turned.zero (l : List UInt8) (bits at_ : Nat) : Turned l l bits at_ 0 := ⟨rfl, by simp [Nat.mod_one]⟩
theorem mod_succ (bits k : Nat) : bits % 2 ^ (k + 1) = bits % 2 ^ k ^^^ (if bits.testBit k then 2 ^ k else 0) := by
  refine Nat.eq_of_testBit_eq fun j => ?_
  rw [Nat.testBit_xor, Nat.testBit_mod_two_pow, Nat.testBit_mod_two_pow]
  have h2 : (if bits.testBit k then 2 ^ k else 0).testBit j = (decide (k = j) && bits.testBit j) := by
    by_cases hj : k = j
    · subst hj
      cases hb : bits.testBit k <;> simp [Nat.testBit_two_pow]
    · cases hb : bits.testBit k <;> simp [Nat.testBit_two_pow, hj]
  rw [h2]
  by_cases h1 : j < k
  · have h3 : ¬ k = j := by omega
    have h4 : j < k + 1 := by omega
    simp [h1, h3, h4]
  · by_cases h3 : k = j
    · subst h3; simp
    · have h4 : ¬ j < k + 1 := by omega
      simp [h1, h3, h4]
theorem Turned.skip {l c : List UInt8} {bits at_ k : Nat} (h : Turned l c bits at_ k) (hb : bits.testBit k = false) : Turned l c bits at_ (k + 1) :=
  ⟨h.1, by rw [h.2, mod_succ, hb]; simp⟩
theorem Turned.flip {l c : List UInt8} {bits at_ k : Nat} (h : Turned l c bits at_ k) (hb : bits.testBit k = true) {j m : Nat} (hm : m < 8) (hjm : 8 * j + m = at_ + k) (hj : j < c.length) {f : UInt8} (hf : f.toNat = 2 ^ m) :
    Turned l (c.set j (c[j] ^^^ f)) bits at_ (k + 1) := by
  refine ⟨by simp [h.1], ?_⟩
  rw [flip_at m hm f hf c j hj, ← Nat.xor_assoc, h.2, mod_succ, if_pos hb, hjm, Nat.shiftLeft_xor_distrib, Nat.shiftLeft_eq (2 ^ k), ← Nat.pow_add, Nat.add_comm at_ k]
theorem Turned.all {l c : List UInt8} {bits at_ : Nat} (h : Turned l c bits at_ 32) (hb : bits < 2 ^ 32) : loN l ^^^ loN c = bits <<< at_ := by
  rw [h.2, Nat.mod_eq_of_lt hb]
theorem bit_and (bits k : Nat) : (bits >>> k) &&& 1 = if bits.testBit k then 1 else 0 := by
  rw [Nat.and_one_is_mod, Nat.testBit_eq_decide_div_mod_eq, Nat.shiftRight_eq_div_pow]
  by_cases h : bits / 2 ^ k % 2 = 1
  · simp [h]
  · have : bits / 2 ^ k % 2 = 0 := by omega
    simp [this]
end Go.Fk.Crc
namespace Go.Fk.Crc
/-- Two rows of bytes together. -/
def xor2 (l r : List UInt8) : List UInt8 := List.zipWith (· ^^^ ·) l r
theorem xor2_length {l r : List UInt8} {n : Nat} (hl : l.length = n) (hr : r.length = n) : (xor2 l r).length = n := by simp [xor2, hl, hr]
theorem loN_xor2 : ∀ {l r : List UInt8}, l.length = r.length → loN (xor2 l r) = loN l ^^^ loN r
  | [], [], _ => by simp [xor2, loN]
  | a :: l, b :: r, h => by
    have ih := loN_xor2 (l := l) (r := r) (by simpa using h)
    have e1 : xor2 (a :: l) (b :: r) = (a ^^^ b) :: xor2 l r := rfl
    rw [e1]
    refine Nat.eq_of_testBit_eq fun k => ?_
    simp only [Nat.testBit_xor, testBit_cons, ih, UInt8.toNat_xor]
    split <;> rfl
  | [], _ :: _, h => by simp at h
  | _ :: _, [], h => by simp at h
theorem sum_three {a b c : List UInt8} {n : Nat} (ha : a.length = n) (hb : b.length = n) (hc : c.length = n) : sum a ^^^ sum b ^^^ sum c = sum (xor2 (xor2 a b) c) := by
  have hab := xor2_length ha hb
  have habc := xor2_length hab hc
  unfold sum more
  simp only [Nat.xor_zero]
  rw [run_bits, run_bits, run_bits, run_bits, ha, hb, hc, habc, loN_xor2 (by rw [hab, hc]), loN_xor2 (by rw [ha, hb])]
  simp only [bits1_xor]
  generalize bits1 (8 * n) full = F
  generalize bits1 (8 * n) (loN a) = A
  generalize bits1 (8 * n) (loN b) = B
  generalize bits1 (8 * n) (loN c) = C
  have key : full ^^^ (F ^^^ A) ^^^ (full ^^^ (F ^^^ B)) ^^^ (full ^^^ (F ^^^ C)) = (full ^^^ full) ^^^ (F ^^^ F) ^^^ (full ^^^ (F ^^^ (A ^^^ B ^^^ C))) := by ac_rfl
  rw [key]; simp
theorem xor2_take_succ {a b c : List UInt8} {i : Nat} (ha : i < a.length) (hb : i < b.length) (hc : i < c.length) :
    xor2 (xor2 (a.take (i + 1)) (b.take (i + 1))) (c.take (i + 1)) = xor2 (xor2 (a.take i) (b.take i)) (c.take i) ++ [a[i] ^^^ b[i] ^^^ c[i]] := by
  rw [List.take_succ_eq_append_getElem ha, List.take_succ_eq_append_getElem hb, List.take_succ_eq_append_getElem hc]
  unfold xor2
  rw [List.zipWith_append (by simp; omega), List.zipWith_append (by simp; omega)]
  rfl
end Go.Fk.Crc
