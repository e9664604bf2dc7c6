/-
  The sum of bytes, in plain words: nibble by nibble as the program has it, bit by bit as the document has it; that the two are one.
-/
namespace Go.Fk.Crc

def tabN : List Nat := [0x00000000, 0x1db71064, 0x3b6e20c8, 0x26d930ac, 0x76dc4190, 0x6b6b51f4, 0x4db26158, 0x5005713c,
    0xedb88320, 0xf00f9344, 0xd6d6a3e8, 0xcb61b38c, 0x9b64c2b0, 0x86d3d2d4, 0xa00ae278, 0xbdbdf21c]

/-- One step of the register: moved down, and the polynomial added if the lowest bit was 1. -/
def bit1 (x : Nat) : Nat := (x >>> 1) ^^^ (if x.testBit 0 then 3988292384 else 0)
/-- One bit of a byte comes in, as the document has it. -/
def bitStep (x c : Nat) : Nat := if x &&& 1 ≠ c then (x >>> 1) ^^^ 3988292384 else x >>> 1
def refBits (x b : Nat) : Nat → Nat
  | 0 => x
  | k + 1 => bitStep (refBits x b k) ((b >>> k) &&& 1)
def nib (x : Nat) : Nat := (x >>> 4) ^^^ tabN.getD (x &&& 15) 0
def byteStep (x : Nat) (b : UInt8) : Nat := nib (nib (x ^^^ b.toNat))
def refByte (x : Nat) (b : UInt8) : Nat := refBits x b.toNat 8
def refRun (x : Nat) (l : List UInt8) : Nat := l.foldl refByte x
def run (x : Nat) (l : List UInt8) : Nat := l.foldl byteStep x
def full : Nat := 4294967295
def more (s : Nat) (l : List UInt8) : Nat := full ^^^ run (full ^^^ s) l
def sum (l : List UInt8) : Nat := more 0 l

theorem tab_lt : ∀ i, tabN.getD i 0 < 2 ^ 32 := fun i => by
  by_cases h : i < 16
  · have : ∀ i, i < 16 → tabN.getD i 0 < 2 ^ 32 := by decide
    exact this i h
  · rw [List.getD_eq_getElem?_getD, List.getElem?_eq_none (by simp [tabN]; omega)]; decide
theorem nib_lt {x : Nat} (h : x < 2 ^ 32) : nib x < 2 ^ 32 := Nat.xor_lt_two_pow (Nat.lt_of_le_of_lt (by rw [Nat.shiftRight_eq_div_pow]; exact Nat.div_le_self _ _) h) (tab_lt _)
theorem xorb_lt {x : Nat} (h : x < 2 ^ 32) (b : UInt8) : x ^^^ b.toNat < 2 ^ 32 := Nat.xor_lt_two_pow h (by have := UInt8.toNat_lt b; omega)
theorem byteStep_lt {x : Nat} (h : x < 2 ^ 32) (b : UInt8) : byteStep x b < 2 ^ 32 := nib_lt (nib_lt (xorb_lt h b))
theorem run_lt {x : Nat} (h : x < 2 ^ 32) : ∀ (l : List UInt8), run x l < 2 ^ 32 := fun l => by
  induction l generalizing x with
  | nil => exact h
  | cons b l ih => exact ih (byteStep_lt h b)
theorem full_lt {x : Nat} (h : x < 2 ^ 32) : full ^^^ x < 2 ^ 32 := Nat.xor_lt_two_pow (by decide) h
theorem more_lt {s : Nat} (h : s < 2 ^ 32) (l : List UInt8) : more s l < 2 ^ 32 := full_lt (run_lt (full_lt h) l)
theorem sum_lt (l : List UInt8) : sum l < 2 ^ 32 := more_lt (by decide) l
theorem run_nil (x : Nat) : run x [] = x := rfl
theorem full_eq : (4294967295 : Nat) = full := rfl
theorem run_snoc (x : Nat) (l : List UInt8) (b : UInt8) : run x (l ++ [b]) = byteStep (run x l) b := by simp [run]
theorem run_append (x : Nat) (l r : List UInt8) : run x (l ++ r) = run (run x l) r := by simp [run]

/-! ### The two are one -/
theorem bit1_xor (x y : Nat) : bit1 (x ^^^ y) = bit1 x ^^^ bit1 y := by
  unfold bit1
  rw [Nat.testBit_xor, Nat.shiftRight_xor_distrib]
  cases x.testBit 0 <;> cases y.testBit 0 <;> simp only [Bool.xor_false, Bool.xor_true, Bool.false_xor, Bool.true_xor, Bool.not_true, Bool.not_false, if_true, if_false, Bool.false_eq_true, Nat.xor_zero, Nat.xor_self]
  · ac_rfl
  · ac_rfl
  · rw [show (x >>> 1 ^^^ 3988292384) ^^^ (y >>> 1 ^^^ 3988292384) = (x >>> 1 ^^^ y >>> 1) ^^^ (3988292384 ^^^ 3988292384) by ac_rfl, Nat.xor_self, Nat.xor_zero]
def bits1 : Nat → Nat → Nat
  | 0, x => x
  | k + 1, x => bit1 (bits1 k x)
theorem bits1_xor (k x y : Nat) : bits1 k (x ^^^ y) = bits1 k x ^^^ bits1 k y := by
  induction k with
  | zero => rfl
  | succ k ih => rw [bits1, bits1, bits1, ih, bit1_xor]
theorem bit1_shl (h : Nat) : bit1 (2 * h) = h := by
  unfold bit1
  rw [Nat.testBit_zero, if_neg (by simp), Nat.xor_zero, Nat.shiftRight_eq_div_pow]; omega
theorem bits1_add (j k x : Nat) : bits1 (j + k) x = bits1 j (bits1 k x) := by
  induction j with
  | zero => rw [Nat.zero_add]; rfl
  | succ j ih => rw [Nat.succ_add, bits1, bits1, ih]
theorem nib_eq (x : Nat) : nib x = bits1 4 x := by
  have hsplit : x = (x / 16 * 16) ^^^ (x &&& 15) := by
    have h1 : x &&& 15 = x % 16 := Nat.and_two_pow_sub_one_eq_mod x 4
    rw [h1]
    have h2 : (x / 16 * 16) ^^^ (x % 16) = x / 16 * 16 + x % 16 := by
      have h3 := Nat.two_pow_add_eq_or_of_lt (i := 4) (b := x % 16) (by omega) (x / 16)
      have h4 : (x / 16 * 16) ^^^ (x % 16) = (2 ^ 4 * (x / 16)) ||| (x % 16) := by
        apply Nat.eq_of_testBit_eq
        intro j
        rw [Nat.testBit_xor, Nat.testBit_or, Nat.mul_comm (x / 16) 16, show (16 : Nat) = 2 ^ 4 from rfl, Nat.testBit_two_pow_mul, Nat.testBit_mod_two_pow]
        by_cases hj : j < 4
        · simp [hj, Nat.not_le.2 hj]
        · simp [hj, Nat.le_of_not_lt hj]
      rw [h4, ← h3]; omega
    omega
  have hlow : ∀ j, j < 16 → bits1 4 j = tabN.getD j 0 := by decide
  have hhigh : ∀ h, bits1 4 (h * 16) = h := fun h => by
    rw [show h * 16 = 2 * (2 * (2 * (2 * h))) by omega]
    simp only [bits1, bit1_shl]
  have h15 : x &&& 15 < 16 := Nat.lt_of_le_of_lt Nat.and_le_right (by decide)
  conv => rhs; rw [hsplit]
  rw [bits1_xor, hhigh, hlow _ h15, nib, Nat.shiftRight_eq_div_pow]
theorem byteStep_eq (x : Nat) (b : UInt8) : byteStep x b = bits1 8 (x ^^^ b.toNat) := by
  rw [byteStep, nib_eq, nib_eq, ← bits1_add]
theorem bitStep_eq (s c : Nat) : bit1 (s ^^^ c) = bitStep s (c &&& 1) ^^^ (c >>> 1) := by
  unfold bit1 bitStep
  rw [Nat.testBit_xor, Nat.shiftRight_xor_distrib, Nat.testBit_zero, Nat.testBit_zero, Nat.and_one_is_mod, Nat.and_one_is_mod]
  rcases Nat.mod_two_eq_zero_or_one s with h1 | h1 <;> rcases Nat.mod_two_eq_zero_or_one c with h2 | h2 <;> rw [h1, h2] <;> simp
  · ac_rfl
  · ac_rfl
theorem refBits_eq (x b : Nat) (k : Nat) : bits1 k (x ^^^ b) = refBits x b k ^^^ (b >>> k) := by
  induction k with
  | zero => rfl
  | succ k ih => rw [bits1, ih, bitStep_eq, refBits, ← Nat.shiftRight_add]
theorem refByte_eq (x : Nat) (b : UInt8) : refByte x b = byteStep x b := by
  rw [byteStep_eq, refBits_eq, refByte, show b.toNat >>> 8 = 0 by rw [Nat.shiftRight_eq_div_pow]; have := UInt8.toNat_lt b; omega, Nat.xor_zero]
theorem refRun_eq (x : Nat) (l : List UInt8) : refRun x l = run x l := by
  unfold refRun run
  congr 1
  funext x b
  exact refByte_eq x b
theorem refRun_snoc (x : Nat) (l : List UInt8) (b : UInt8) : refRun x (l ++ [b]) = refByte (refRun x l) b := by simp [refRun]
theorem bitStep_lt {x : Nat} (h : x < 2 ^ 32) (c : Nat) : bitStep x c < 2 ^ 32 := by
  unfold bitStep
  have h1 : x >>> 1 < 2 ^ 32 := Nat.lt_of_le_of_lt (by rw [Nat.shiftRight_eq_div_pow]; exact Nat.div_le_self _ _) h
  split
  · exact Nat.xor_lt_two_pow h1 (by decide)
  · exact h1
theorem refBits_lt {x : Nat} (h : x < 2 ^ 32) (b k : Nat) : refBits x b k < 2 ^ 32 := by
  induction k with
  | zero => exact h
  | succ k ih => exact bitStep_lt ih _
theorem xor_full (x : Nat) : full ^^^ (full ^^^ x) = x := by rw [← Nat.xor_assoc, Nat.xor_self, Nat.zero_xor]
theorem more_sum (l r : List UInt8) : more (sum l) r = sum (l ++ r) := by
  unfold sum more
  rw [xor_full, run_append]

/-! ### Numbers as bytes, the lowest first -/
def loB (n k : Nat) : List UInt8 := (List.range k).map fun i => UInt8.ofNat (n >>> (8 * i))
def loN : List UInt8 → Nat
  | [] => 0
  | b :: r => b.toNat + 256 * loN r
theorem loB_length (n k : Nat) : (loB n k).length = k := by simp [loB]
theorem loB_snoc (n k : Nat) : loB n (k + 1) = loB n k ++ [UInt8.ofNat (n >>> (8 * k))] := by simp [loB, List.range_succ]
theorem loB_zero (n : Nat) : loB n 0 = [] := rfl
theorem loB_cons (n k : Nat) : loB n (k + 1) = UInt8.ofNat n :: loB (n >>> 8) k := by
  simp only [loB, List.range_succ_eq_map, List.map_cons, List.map_map]
  congr 1
  refine List.map_congr_left fun i _ => ?_
  simp only [Function.comp, ← Nat.shiftRight_add]
  congr 2; omega
theorem loN_lt (l : List UInt8) : loN l < 2 ^ (8 * l.length) := by
  induction l with
  | nil => simp [loN]
  | cons b r ih =>
    have hb := UInt8.toNat_lt b
    simp only [loN, List.length_cons, Nat.mul_add, Nat.mul_one, Nat.pow_add]
    omega
theorem loN_loB (n k : Nat) : loN (loB n k) = n % 2 ^ (8 * k) := by
  induction k generalizing n with
  | zero => simp [loB, loN, Nat.mod_one]
  | succ k ih =>
    rw [loB_cons, loN, ih]
    have h1 : (UInt8.ofNat n).toNat = n % 256 := by simp
    rw [h1, Nat.shiftRight_eq_div_pow, show 8 * (k + 1) = 8 + 8 * k by omega, Nat.pow_add, Nat.mod_mul]
theorem loB_loN (l : List UInt8) : loB (loN l) l.length = l := by
  induction l with
  | nil => rfl
  | cons b r ih =>
    rw [List.length_cons, loB_cons, loN]
    have hb := UInt8.toNat_lt b
    have h1 : UInt8.ofNat (b.toNat + 256 * loN r) = b := by
      apply UInt8.toNat_inj.1
      simp
    have h2 : (b.toNat + 256 * loN r) >>> 8 = loN r := by rw [Nat.shiftRight_eq_div_pow]; omega
    rw [h1, h2, ih]
theorem loN_inj {l r : List UInt8} (hl : l.length = r.length) (h : loN l = loN r) : l = r := by rw [← loB_loN l, ← loB_loN r, hl, h]
theorem loN_append (l r : List UInt8) : loN (l ++ r) = loN l + 2 ^ (8 * l.length) * loN r := by
  induction l with
  | nil => simp [loN]
  | cons b l ih =>
    simp only [List.cons_append, loN, ih, List.length_cons, Nat.mul_add, Nat.mul_one, Nat.pow_add]
    rw [← Nat.add_assoc, ← Nat.mul_assoc 256, Nat.mul_comm (2 ^ (8 * l.length)) (2 ^ 8)]

/-! ### The sum over the whole as one number -/
theorem testBit_loN_low (b : UInt8) (r : List UInt8) : (loN (b :: r)) >>> 8 = loN r := by
  have hb := UInt8.toNat_lt b
  rw [loN, Nat.shiftRight_eq_div_pow]; omega
theorem bits1_step (x N : Nat) (k : Nat) : bits1 k (x ^^^ N) = refBits x N k ^^^ (N >>> k) := refBits_eq x N k
theorem refBits_mod (x N : Nat) (k : Nat) (hk : k ≤ 8) : refBits x N k = refBits x (N % 256) k := by
  induction k with
  | zero => rfl
  | succ k ih =>
    rw [refBits, refBits, ih (by omega)]
    congr 1
    rw [Nat.and_one_is_mod, Nat.and_one_is_mod, Nat.shiftRight_eq_div_pow, Nat.shiftRight_eq_div_pow]
    have : ∀ k, k < 8 → ∀ N : Nat, N / 2 ^ k % 2 = N % 256 / 2 ^ k % 2 := fun k hk N => by
      match k, hk with
      | 0, _ => omega
      | 1, _ => omega
      | 2, _ => omega
      | 3, _ => omega
      | 4, _ => omega
      | 5, _ => omega
      | 6, _ => omega
      | 7, _ => omega
    exact this k (by omega) N
theorem run_bits (l : List UInt8) (x : Nat) : run x l = bits1 (8 * l.length) (x ^^^ loN l) := by
  induction l generalizing x with
  | nil => simp [run, loN, bits1]
  | cons b r ih =>
    have hb := UInt8.toNat_lt b
    rw [show run x (b :: r) = run (byteStep x b) r from rfl, ih, List.length_cons, show 8 * (r.length + 1) = 8 * r.length + 8 by omega, bits1_add]
    congr 1
    rw [bits1_step x (loN (b :: r)) 8, testBit_loN_low, refBits_mod x _ 8 (by omega), show loN (b :: r) % 256 = b.toNat by rw [loN]; omega]
    rw [show refBits x b.toNat 8 = refByte x b from rfl, refByte_eq]
theorem bits1_zero (k : Nat) : bits1 k 0 = 0 := by
  induction k with
  | zero => rfl
  | succ k ih => rw [bits1, ih]; rfl
theorem bit1_lt {x : Nat} (h : x < 2 ^ 32) : bit1 x < 2 ^ 32 := by
  unfold bit1
  have h1 : x >>> 1 < 2 ^ 32 := Nat.lt_of_le_of_lt (by rw [Nat.shiftRight_eq_div_pow]; exact Nat.div_le_self _ _) h
  refine Nat.xor_lt_two_pow h1 ?_
  split <;> decide
theorem bit1_ne {x : Nat} (h : x < 2 ^ 32) (h0 : x ≠ 0) : bit1 x ≠ 0 := by
  intro hz
  unfold bit1 at hz
  by_cases hb : x.testBit 0 = true
  · rw [if_pos hb] at hz
    have h1 := congrArg (fun n => n.testBit 31) hz
    simp only [Nat.testBit_xor, Nat.zero_testBit] at h1
    have h2 : (x >>> 1).testBit 31 = false := by
      rw [Nat.testBit_shiftRight]
      exact Nat.testBit_lt_two_pow (Nat.lt_of_lt_of_le h (Nat.pow_le_pow_right (by decide) (by omega)))
    rw [h2] at h1
    revert h1; decide
  · rw [if_neg hb, Nat.xor_zero, Nat.shiftRight_eq_div_pow] at hz
    rw [Nat.testBit_zero] at hb
    simp only [decide_eq_true_eq] at hb
    omega
theorem bits1_ne {x : Nat} (h : x < 2 ^ 32) (h0 : x ≠ 0) (k : Nat) : bits1 k x ≠ 0 ∧ bits1 k x < 2 ^ 32 := by
  induction k with
  | zero => exact ⟨h0, h⟩
  | succ k ih => exact ⟨bit1_ne ih.2 ih.1, bit1_lt ih.2⟩
theorem bits1_shl (k x : Nat) : ∀ j, bits1 (k + j) (x <<< j) = bits1 k x
  | 0 => rfl
  | j + 1 => by
    rw [show k + (j + 1) = (k + j) + 1 by omega, bits1_add (k + j) 1, show bits1 1 (x <<< (j + 1)) = bit1 (x <<< (j + 1)) from rfl,
      show x <<< (j + 1) = 2 * (x <<< j) by rw [Nat.shiftLeft_succ]]
    rw [bit1_shl, bits1_shl k x j]
/-- A change of up to 32 bits side by side is seen. -/
theorem burst {l r : List UInt8} (hl : l.length = r.length) {bits at_ : Nat} (hb : bits < 2 ^ 32) (h0 : bits ≠ 0) (hat : at_ + 32 ≤ 8 * l.length) (hx : loN l ^^^ loN r = bits <<< at_) (x : Nat) : run x l ≠ run x r := by
  intro h
  rw [run_bits, run_bits, ← hl] at h
  have h1 : bits1 (8 * l.length) ((x ^^^ loN l) ^^^ (x ^^^ loN r)) = 0 := by rw [bits1_xor, h, Nat.xor_self]
  rw [show (x ^^^ loN l) ^^^ (x ^^^ loN r) = (x ^^^ x) ^^^ (loN l ^^^ loN r) by ac_rfl, Nat.xor_self, Nat.zero_xor, hx, show 8 * l.length = (8 * l.length - at_) + at_ by omega, bits1_shl] at h1
  exact (bits1_ne hb h0 _).1 h1
theorem sum_inj {l r : List UInt8} (h : sum l = sum r) : run full l = run full r := by
  have h1 : full ^^^ sum l = full ^^^ sum r := by rw [h]
  unfold sum more at h1
  rw [xor_full, xor_full, Nat.xor_zero] at h1
  exact h1

/-! ### What is sealed -/
def sealed (l : List UInt8) : List UInt8 := l ++ loB (sum l) 4
/-- Opened: what stands ahead of the sum, if the sum is right. -/
def good (t : List UInt8) : Prop := 4 ≤ t.length ∧ t.drop (t.length - 4) = loB (sum (t.take (t.length - 4))) 4
theorem sealed_length (l : List UInt8) : (sealed l).length = l.length + 4 := by simp [sealed, loB_length]
theorem good_sealed (l : List UInt8) : good (sealed l) := by
  refine ⟨by rw [sealed_length]; omega, ?_⟩
  rw [sealed_length, Nat.add_sub_cancel, sealed, List.drop_left, List.take_left]
theorem good_eq {t : List UInt8} (h : good t) : t = sealed (t.take (t.length - 4)) := by
  rw [sealed, ← h.2, List.take_append_drop]
/-- The register behind what is sealed is always the same. -/
theorem run_sealed (l : List UInt8) : run full (sealed l) = bits1 32 full := by
  have hs := sum_lt l
  rw [sealed, run_append, run_bits (loB (sum l) 4), loB_length, loN_loB, Nat.mod_eq_of_lt (by simpa using hs)]
  congr 1
  have : sum l = full ^^^ run full l := by unfold sum more; rw [Nat.xor_zero]
  rw [this, ← Nat.xor_assoc, Nat.xor_comm (run full l) full, Nat.xor_assoc, Nat.xor_self, Nat.xor_zero]
theorem turned_bad {l t : List UInt8} (hl : t.length = (sealed l).length) {bits at_ : Nat} (hb : bits < 2 ^ 32) (h0 : bits ≠ 0) (hat : at_ + 32 ≤ 8 * t.length) (hx : loN (sealed l) ^^^ loN t = bits <<< at_) : ¬ good t := by
  intro h
  have h1 := good_eq h
  have h2 := run_sealed (t.take (t.length - 4))
  rw [← h1] at h2
  exact burst hl.symm hb h0 (by omega) hx full ((run_sealed l).trans h2.symm)
end Go.Fk.Crc
