/-
  Fields of 2^m elements, in plain Lean: products, logarithms, inverses, powers.
-/
import Derived.Test.YtkffgdccjgdiaaaGfB
namespace Go.Gf

def mul (m a b : Nat) : Nat := acc m (poly m) a b m
/-- The root's powers. -/
def E (m k : Nat) : Nat := pw m (poly m) k 1
/-- How many elements there are beside 0. -/
def sz (m : Nat) : Nat := 2 ^ m - 1
/-- The logarithm: where the power is found. -/
def lg (m a : Nat) : Nat := ((List.range (sz m)).find? fun j => E m j == a).getD 0

/-- An m that there is. -/
structure Is (m : Nat) : Prop where
  lo : 2 ≤ m
  hi : m ≤ 13
section
variable {m : Nat} (h : Is m)
include h
theorem Is.good : Good m (poly m) := Gf.good h.lo h.hi
theorem sz_add : sz m + 1 = 2 ^ m := by have _ := h; have := Nat.two_pow_pos m; unfold sz; omega
theorem sz_ge : 3 ≤ sz m := h.good.three
theorem sz_le : sz m ≤ 8191 := by
  have : 2 ^ m ≤ 2 ^ 13 := Nat.pow_le_pow_right (by decide) h.hi
  unfold sz; omega
theorem one_lt : 1 < 2 ^ m := h.good.one_lt
theorem mul_lt {a b : Nat} (ha : a < 2 ^ m) : mul m a b < 2 ^ m := acc_lt h.good b ha m
theorem E_lt (k : Nat) : E m k < 2 ^ m := pw_lt h.good h.good.one_lt k
theorem E_ne (k : Nat) : E m k ≠ 0 := pw_ne h.good
theorem E_mod (k : Nat) : E m k = E m (k % sz m) := pw_mod h.good h.good.one_lt k
theorem E_size : E m (sz m) = 1 := h.good.round
theorem mul_E {a : Nat} (ha : a < 2 ^ m) (j : Nat) : mul m a (E m j) = pw m (poly m) j a := acc_power h.good ha j
theorem E_mul (i j : Nat) : mul m (E m i) (E m j) = E m (i + j) := by
  rw [mul_E h (E_lt h i)]
  unfold E
  rw [← pw_add, Nat.add_comm]
theorem E_inj {i j : Nat} (hi : i < sz m) (hj : j < sz m) (he : E m i = E m j) : i = j := pw_inj h.good hi hj he
theorem E_eq_iff {i j : Nat} : E m i = E m j ↔ i % sz m = j % sz m := by
  have hs := sz_ge h
  constructor
  · intro he
    rw [E_mod h i, E_mod h j] at he
    exact E_inj h (Nat.mod_lt _ (by omega)) (Nat.mod_lt _ (by omega)) he
  · intro he
    rw [E_mod h i, E_mod h j, he]
theorem lg_spec {a : Nat} (h0 : a ≠ 0) (ha : a < 2 ^ m) : lg m a < sz m ∧ E m (lg m a) = a := by
  obtain ⟨j, hj, he⟩ := power_of h.good h0 ha
  unfold lg
  cases hf : (List.range (sz m)).find? fun j => E m j == a with
  | none =>
    have := List.find?_eq_none.1 hf j (List.mem_range.2 hj)
    simp only [beq_iff_eq] at this
    exact absurd he this
  | some i =>
    have h1 := List.mem_of_find?_eq_some hf
    have h2 := List.find?_some hf
    simp only [beq_iff_eq] at h2
    exact ⟨List.mem_range.1 h1, h2⟩
theorem lg_E (k : Nat) : lg m (E m k) = k % sz m := by
  have hs := sz_ge h
  have h1 := lg_spec h (E_ne h k) (E_lt h k)
  refine E_inj h h1.1 (Nat.mod_lt _ (by omega)) ?_
  rw [h1.2, ← E_mod h]
theorem mul_zero (a : Nat) : mul m a 0 = 0 := by have _ := h; exact acc_zero_right a m
theorem zero_mul (b : Nat) : mul m 0 b = 0 := by have _ := h; exact acc_zero b m
theorem mul_one (a : Nat) : mul m a 1 = a := acc_by_one h.good
theorem mul_xor (a b c : Nat) : mul m a (b ^^^ c) = mul m a b ^^^ mul m a c := by have _ := h; exact acc_right a b c m
theorem xor_mul (a c b : Nat) : mul m (a ^^^ c) b = mul m a b ^^^ mul m c b := by have _ := h; exact acc_left a c b m
/-- Products by logarithms. -/
theorem mul_lg {a b : Nat} (ha0 : a ≠ 0) (ha : a < 2 ^ m) (hb0 : b ≠ 0) (hb : b < 2 ^ m) : mul m a b = E m (lg m a + lg m b) := by
  have h1 := lg_spec h ha0 ha
  have h2 := lg_spec h hb0 hb
  rw [← E_mul h, h1.2, h2.2]
theorem mul_comm {a b : Nat} (ha : a < 2 ^ m) (hb : b < 2 ^ m) : mul m a b = mul m b a := by
  by_cases ha0 : a = 0
  · subst ha0; rw [mul_zero h, zero_mul h]
  by_cases hb0 : b = 0
  · subst hb0; rw [mul_zero h, zero_mul h]
  rw [mul_lg h ha0 ha hb0 hb, mul_lg h hb0 hb ha0 ha, Nat.add_comm]
theorem one_mul {a : Nat} (ha : a < 2 ^ m) : mul m 1 a = a := by rw [mul_comm h (one_lt h) ha, mul_one h]
theorem mul_ne {a b : Nat} (ha0 : a ≠ 0) (ha : a < 2 ^ m) (hb0 : b ≠ 0) (hb : b < 2 ^ m) : mul m a b ≠ 0 := by
  rw [mul_lg h ha0 ha hb0 hb]; exact E_ne h _
theorem lg_mul {a b : Nat} (ha0 : a ≠ 0) (ha : a < 2 ^ m) (hb0 : b ≠ 0) (hb : b < 2 ^ m) : lg m (mul m a b) = (lg m a + lg m b) % sz m := by
  rw [mul_lg h ha0 ha hb0 hb, lg_E h]
theorem mul_assoc {a b c : Nat} (ha : a < 2 ^ m) (hb : b < 2 ^ m) (hc : c < 2 ^ m) : mul m (mul m a b) c = mul m a (mul m b c) := by
  by_cases ha0 : a = 0
  · subst ha0; rw [zero_mul h, zero_mul h, zero_mul h]
  by_cases hb0 : b = 0
  · subst hb0; rw [mul_zero h, zero_mul h, mul_zero h]
  by_cases hc0 : c = 0
  · subst hc0; rw [mul_zero h, mul_zero h, mul_zero h]
  rw [mul_lg h ha0 ha hb0 hb, mul_lg h hb0 hb hc0 hc, mul_lg h (E_ne h _) (E_lt h _) hc0 hc, mul_lg h ha0 ha (E_ne h _) (E_lt h _), lg_E h, lg_E h, E_eq_iff h]
  rw [Nat.mod_add_mod, Nat.add_mod_mod, Nat.add_assoc]
theorem mul_root {a : Nat} (ha : a < 2 ^ m) : mul m a 2 = tm m (poly m) a := by
  have h1 : E m 1 = 2 := by
    have := pw_one h.good 1 (by have := h.lo; omega)
    exact this
  rw [← h1, mul_E h ha]; rfl

/-- The inverse. -/
def inv (m a : Nat) : Nat := if a = 0 then 0 else E m (sz m - lg m a)
theorem inv_lt (a : Nat) : inv m a < 2 ^ m := by
  unfold inv; split
  · exact Nat.two_pow_pos m
  · exact E_lt h _
theorem mul_inv {a : Nat} (h0 : a ≠ 0) (ha : a < 2 ^ m) : mul m a (inv m a) = 1 := by
  have h1 := lg_spec h h0 ha
  unfold inv
  rw [if_neg h0, mul_lg h h0 ha (E_ne h _) (E_lt h _), lg_E h, E_mod h, Nat.add_mod_mod, show lg m a + (sz m - lg m a) = sz m by omega, ← E_mod h, E_size h]
theorem inv_ne {a : Nat} (h0 : a ≠ 0) : inv m a ≠ 0 := by unfold inv; rw [if_neg h0]; exact E_ne h _
/-- An element k times multiplied. -/
def pown (m a : Nat) : Nat → Nat
  | 0 => 1
  | k + 1 => mul m (pown m a k) a
theorem pown_lt {a : Nat} (ha : a < 2 ^ m) : ∀ k, pown m a k < 2 ^ m
  | 0 => one_lt h
  | k + 1 => mul_lt h (pown_lt ha k)
theorem pown_lg {a : Nat} (h0 : a ≠ 0) (ha : a < 2 ^ m) : ∀ k, pown m a k = E m (lg m a * k)
  | 0 => rfl
  | k + 1 => by
    rw [pown, pown_lg h0 ha k]
    have h1 := lg_spec h h0 ha
    conv => lhs; rw [← h1.2]
    rw [h1.2, Nat.mul_succ]
    conv => lhs; arg 3; rw [← h1.2]
    rw [E_mul h]
theorem pown_add {a : Nat} (ha : a < 2 ^ m) (i : Nat) : ∀ j, pown m a (i + j) = mul m (pown m a i) (pown m a j)
  | 0 => by rw [Nat.add_zero, pown, mul_one h]
  | j + 1 => by rw [← Nat.add_assoc, pown, pown_add ha i j, pown, mul_assoc h (pown_lt h ha i) (pown_lt h ha j) ha]
theorem pown_two {a : Nat} (ha : a < 2 ^ m) (j : Nat) : pown m (mul m a a) j = pown m a (2 * j) := by
  induction j with
  | zero => rfl
  | succ j ih =>
    rw [pown, ih, show 2 * (j + 1) = 2 * j + 2 by omega, pown_add h ha]
    congr 1
    show mul m a a = mul m (mul m 1 a) a
    rw [one_mul h ha]
theorem inv_pown {a : Nat} (h0 : a ≠ 0) (ha : a < 2 ^ m) : inv m a = pown m a (2 ^ m - 2) := by
  have h1 := lg_spec h h0 ha
  have hs := sz_ge h
  have hsa := sz_add h
  unfold inv
  rw [if_neg h0, pown_lg h h0 ha, E_eq_iff h]
  -- s - l and l (s - 1) are the same by s
  have e : sz m - lg m a + sz m * lg m a = lg m a * (2 ^ m - 2) + sz m := by
    rw [show 2 ^ m - 2 = sz m - 1 by omega, Nat.mul_sub_one, Nat.mul_comm (lg m a)]
    have : lg m a ≤ sz m * lg m a := Nat.le_mul_of_pos_left _ (by omega)
    omega
  have := congrArg (· % sz m) e
  simp only [Nat.add_mul_mod_self_left, Nat.add_mod_right] at this
  exact this
end
end Go.Gf
