/-
  Fields of 2^m elements, in plain Lean: what multiplying by the root does; sums; products.
-/
import Derived.Calls
namespace Go.Gf

/-- The field's polynomial. -/
def poly (m : Nat) : Nat := [0, 0, 7, 11, 19, 37, 67, 137, 285, 529, 1033, 2053, 4179, 8219].getD m 0

section
variable {m p : Nat}
/-- By the root: of any number, and linear. -/
def tm (m p a : Nat) : Nat := (a <<< 1) ^^^ (if a.testBit (m - 1) then p else 0)
def pw (m p : Nat) : Nat → Nat → Nat
  | 0, a => a
  | k + 1, a => tm m p (pw m p k a)
/-- The sum of the rows of a at the bits of b. -/
def acc (m p a b : Nat) : Nat → Nat
  | 0 => 0
  | k + 1 => acc m p a b k ^^^ (if b.testBit k then pw m p k a else 0)

theorem xor4 (a b c d : Nat) : (a ^^^ b) ^^^ (c ^^^ d) = (a ^^^ c) ^^^ (b ^^^ d) := by
  apply Nat.eq_of_testBit_eq
  intro i
  simp only [Nat.testBit_xor]
  cases a.testBit i <;> cases b.testBit i <;> cases c.testBit i <;> cases d.testBit i <;> rfl
theorem shl_xor (a b k : Nat) : (a ^^^ b) <<< k = (a <<< k) ^^^ (b <<< k) := by
  apply Nat.eq_of_testBit_eq
  intro i
  simp only [Nat.testBit_xor, Nat.testBit_shiftLeft]
  by_cases h : k ≤ i <;> simp [h]
theorem ite_xor (a b : Bool) (p : Nat) : (if (a ^^ b) = true then p else 0) = (if a = true then p else 0) ^^^ (if b = true then p else 0) := by
  cases a <;> cases b <;> simp
theorem tm_xor (a b : Nat) : tm m p (a ^^^ b) = tm m p a ^^^ tm m p b := by
  unfold tm
  rw [shl_xor, Nat.testBit_xor, ite_xor, xor4]
theorem tm_zero : tm m p 0 = 0 := by simp [tm]
theorem pw_zero : ∀ k, pw m p k 0 = 0
  | 0 => rfl
  | k + 1 => by rw [pw, pw_zero k, tm_zero]
theorem pw_xor (a b : Nat) : ∀ k, pw m p k (a ^^^ b) = pw m p k a ^^^ pw m p k b
  | 0 => rfl
  | k + 1 => by rw [pw, pw, pw, pw_xor a b k, tm_xor]
theorem pw_add (a : Nat) (j : Nat) : ∀ k, pw m p (k + j) a = pw m p k (pw m p j a)
  | 0 => by rw [Nat.zero_add]; rfl
  | k + 1 => by rw [show k + 1 + j = (k + j) + 1 by omega, pw, pw, pw_add a j k]
theorem pw_tm (a k : Nat) : pw m p k (tm m p a) = tm m p (pw m p k a) := by
  have h1 := pw_add (m := m) (p := p) a 1 k
  have h2 := pw_add (m := m) (p := p) a k 1
  rw [Nat.add_comm] at h2
  rw [h1] at h2
  exact h2
theorem xor_ite (t : Bool) (a b : Nat) : (if t = true then a ^^^ b else 0) = (if t = true then a else 0) ^^^ (if t = true then b else 0) := by cases t <;> simp
theorem acc_left (a c b : Nat) : ∀ k, acc m p (a ^^^ c) b k = acc m p a b k ^^^ acc m p c b k
  | 0 => by simp [acc]
  | k + 1 => by rw [acc, acc, acc, acc_left a c b k, pw_xor, xor_ite, xor4]
theorem acc_right (a b c : Nat) : ∀ k, acc m p a (b ^^^ c) k = acc m p a b k ^^^ acc m p a c k
  | 0 => by simp [acc]
  | k + 1 => by rw [acc, acc, acc, acc_right a b c k, Nat.testBit_xor, ite_xor, xor4]
theorem acc_zero (b : Nat) : ∀ k, acc m p 0 b k = 0
  | 0 => rfl
  | k + 1 => by rw [acc, acc_zero b k, pw_zero]; simp
theorem acc_zero_right (a : Nat) : ∀ k, acc m p a 0 k = 0
  | 0 => rfl
  | k + 1 => by rw [acc, acc_zero_right a k]; simp
theorem ite_pw (t : Bool) (j a : Nat) : pw m p j (if t = true then a else 0) = if t = true then pw m p j a else 0 := by cases t <;> simp [pw_zero]
theorem pw_acc (a b j : Nat) : ∀ k, pw m p j (acc m p a b k) = acc m p (pw m p j a) b k
  | 0 => by rw [acc, acc, pw_zero]
  | k + 1 => by
    rw [acc, acc, pw_xor, pw_acc a b j k, ite_pw, ← pw_add, ← pw_add, Nat.add_comm]
theorem tm_acc (a b k : Nat) : tm m p (acc m p a b k) = acc m p (tm m p a) b k := pw_acc a b 1 k
/-- Twice b: one row further on. -/
theorem acc_double (a b : Nat) : ∀ k, acc m p a (b <<< 1) (k + 1) = acc m p (tm m p a) b k
  | 0 => by simp [acc, Nat.testBit_shiftLeft]
  | k + 1 => by
    rw [acc, acc_double a b k, acc, pw_tm]
    congr 1
    have : (b <<< 1).testBit (k + 1) = b.testBit k := by simp [Nat.testBit_shiftLeft]
    rw [this]
    rfl
theorem acc_more (a b : Nat) {k j : Nat} (hb : b < 2 ^ k) : acc m p a b (k + j) = acc m p a b k := by
  induction j with
  | zero => rfl
  | succ j ih =>
    rw [show k + (j + 1) = (k + j) + 1 by omega, acc, ih]
    have : b.testBit (k + j) = false := Nat.testBit_lt_two_pow (Nat.lt_of_lt_of_le hb (Nat.pow_le_pow_right (by decide) (by omega)))
    rw [this]; simp
end

/-- What is known of m and its polynomial: it ends at bit m; 1 goes round behind 2^m - 1 steps, and not ahead of that. -/
structure Good (m p : Nat) : Prop where
  m2 : 2 ≤ m
  lo : 2 ^ m ≤ p
  hi : p < 2 ^ (m + 1)
  root : acc m p 1 p (m + 1) = 0
  round : pw m p (2 ^ m - 1) 1 = 1
  apart : ∀ j, 0 < j → j < 2 ^ m - 1 → pw m p j 1 ≠ 1

section
variable {m p : Nat} (g : Good m p)
include g
theorem Good.one_lt : 1 < 2 ^ m := Nat.lt_of_lt_of_le (by decide) (Nat.pow_le_pow_right (n := 2) (i := 1) (by decide) (by have := g.m2; omega))
theorem Good.three : 3 ≤ 2 ^ m - 1 := by
  have : 2 ^ 2 ≤ 2 ^ m := Nat.pow_le_pow_right (by decide) g.m2
  omega
theorem tm_eq {a : Nat} (ha : a < 2 ^ m) : tm m p a = if 2 ^ m ≤ a <<< 1 then (a <<< 1) ^^^ p else a <<< 1 := by
  have hm := g.m2
  have e : a.testBit (m - 1) = decide (2 ^ m ≤ a <<< 1) := by
    have h1 : 2 ^ m = 2 ^ (m - 1) * 2 := by rw [← Nat.pow_succ]; congr 1; omega
    rw [Nat.shiftLeft_eq, h1]
    rw [h1] at ha
    by_cases h : 2 ^ (m - 1) ≤ a
    · rw [decide_eq_true (by omega)]
      rw [Nat.testBit_eq_decide_div_mod_eq]
      have : a / 2 ^ (m - 1) = 1 := by
        refine Nat.div_eq_of_lt_le ?_ ?_ <;> omega
      rw [this]; rfl
    · rw [decide_eq_false (by omega)]
      exact Nat.testBit_lt_two_pow (by omega)
  unfold tm
  rw [e]
  by_cases h : 2 ^ m ≤ a <<< 1
  · simp [h]
  · simp [h]
theorem xor_top {a : Nat} (h1 : 2 ^ m ≤ a) (h2 : a < 2 ^ (m + 1)) : a ^^^ p < 2 ^ m := by
  have top : ∀ x, 2 ^ m ≤ x → x < 2 ^ (m + 1) → x.testBit m = true := fun x h1 h2 => by
    rw [Nat.testBit_eq_decide_div_mod_eq]
    have : x / 2 ^ m = 1 := by
      rw [Nat.pow_succ] at h2
      refine Nat.div_eq_of_lt_le ?_ ?_ <;> omega
    rw [this]; rfl
  refine Nat.lt_pow_two_of_testBit _ fun i hi => ?_
  rw [Nat.testBit_xor]
  by_cases he : i = m
  · subst he
    rw [top a h1 h2, top p g.lo g.hi]; rfl
  · have hl : 2 ^ (m + 1) ≤ 2 ^ i := Nat.pow_le_pow_right (by decide) (by omega)
    rw [Nat.testBit_lt_two_pow (Nat.lt_of_lt_of_le h2 hl), Nat.testBit_lt_two_pow (Nat.lt_of_lt_of_le g.hi hl)]; rfl
theorem tm_lt {a : Nat} (ha : a < 2 ^ m) : tm m p a < 2 ^ m := by
  rw [tm_eq g ha]
  split
  · rename_i h
    refine xor_top g h ?_
    rw [Nat.shiftLeft_eq, Nat.pow_succ]
    omega
  · omega
theorem pw_lt {a : Nat} (ha : a < 2 ^ m) : ∀ k, pw m p k a < 2 ^ m
  | 0 => ha
  | k + 1 => tm_lt g (pw_lt ha k)

theorem xor_lt {a b : Nat} (ha : a < 2 ^ m) (hb : b < 2 ^ m) : a ^^^ b < 2 ^ m := by have _ := g; exact Nat.xor_lt_two_pow ha hb
theorem acc_lt {a : Nat} (b : Nat) (ha : a < 2 ^ m) : ∀ k, acc m p a b k < 2 ^ m
  | 0 => Nat.two_pow_pos m
  | k + 1 => by
    rw [acc]
    refine Nat.xor_lt_two_pow (acc_lt b ha k) ?_
    split
    · exact pw_lt g ha k
    · exact Nat.two_pow_pos m
theorem pw_one : ∀ k, k < m → pw m p k 1 = 2 ^ k
  | 0, _ => rfl
  | k + 1, h => by
    have h1 := pw_one k (by omega)
    have h2 : 2 ^ (k + 1) ≤ 2 ^ (m - 1) * 2 := by rw [← Nat.pow_succ]; exact Nat.pow_le_pow_right (by decide) (by omega)
    have h3 : 2 ^ m = 2 ^ (m - 1) * 2 := by rw [← Nat.pow_succ]; congr 1; omega
    have h4 : 2 ^ k < 2 ^ m := Nat.pow_lt_pow_right (by decide) (by omega)
    have h5 : 2 ^ (k + 1) < 2 ^ m := Nat.pow_lt_pow_right (by decide) h
    rw [pw, h1, tm_eq g h4, Nat.shiftLeft_eq, Nat.pow_one, ← Nat.pow_succ, if_neg (by omega)]
/-- A number is the sum of its bits. -/
theorem acc_one {a : Nat} : ∀ k, k ≤ m → acc m p 1 a k = a % 2 ^ k
  | 0, _ => by simp [acc, Nat.mod_one]
  | k + 1, h => by
    rw [acc, acc_one k (by omega), pw_one g k (by omega)]
    apply Nat.eq_of_testBit_eq
    intro i
    rw [Nat.testBit_xor, Nat.testBit_mod_two_pow, Nat.testBit_mod_two_pow]
    have e2 : (if a.testBit k then 2 ^ k else 0).testBit i = (a.testBit k && decide (k = i)) := by
      cases a.testBit k
      · simp
      · simp [Nat.testBit_two_pow]
    rw [e2]
    by_cases h1 : i < k
    · simp [h1, show i < k + 1 by omega, show ¬ k = i by omega]
    · by_cases h2 : i = k
      · subst h2; simp
      · simp [h1, show ¬ i < k + 1 by omega, show ¬ k = i by omega]
theorem acc_self {a : Nat} (ha : a < 2 ^ m) : acc m p 1 a m = a := by rw [acc_one g m (Nat.le_refl _), Nat.mod_eq_of_lt ha]
/-- The polynomial's value at the root, on any element, is nought. -/
theorem root_any {a : Nat} (ha : a < 2 ^ m) : acc m p a p (m + 1) = 0 := by
  rw [← acc_self g ha]
  have : ∀ k, acc m p (acc m p 1 a k) p (m + 1) = 0 := fun k => by
    induction k with
    | zero => rw [show acc m p 1 a 0 = 0 from rfl, acc_zero]
    | succ k ih =>
      rw [show acc m p 1 a (k + 1) = acc m p 1 a k ^^^ (if a.testBit k then pw m p k 1 else 0) from rfl, acc_left, ih]
      split
      · rw [← pw_acc, g.root, pw_zero]; rfl
      · rw [acc_zero]; rfl
  exact this m

/-- The product, as the document has it. -/
theorem acc_tm {a b : Nat} (ha : a < 2 ^ m) (hb : b < 2 ^ m) : acc m p a (tm m p b) m = tm m p (acc m p a b m) := by
  have h1 : acc m p a (b <<< 1) (m + 1) = tm m p (acc m p a b m) := by rw [acc_double, tm_acc]
  have h2 : acc m p a (tm m p b) (m + 1) = acc m p a (tm m p b) m := acc_more (j := 1) a _ (tm_lt g hb)
  rw [← h2, ← h1]
  unfold tm
  rw [acc_right]
  split
  · rw [root_any g ha, Nat.xor_zero]
  · rw [acc_zero_right, Nat.xor_zero]
theorem acc_pw {a b : Nat} (ha : a < 2 ^ m) (hb : b < 2 ^ m) : ∀ j, acc m p a (pw m p j b) m = pw m p j (acc m p a b m)
  | 0 => rfl
  | j + 1 => by rw [pw, acc_tm g ha (pw_lt g hb j), acc_pw ha hb j]; rfl
theorem acc_by_one {a : Nat} : acc m p a 1 m = a := by
  have h : ∀ k, acc m p a 1 (k + 1) = a := fun k => by
    induction k with
    | zero => simp [acc, pw]
    | succ k ih =>
      rw [acc, ih]
      have : (1 : Nat).testBit (k + 1) = false := by rw [Nat.testBit_succ]; simp
      rw [this]; simp
  obtain ⟨k, hk⟩ : ∃ k, m = k + 1 := ⟨m - 1, by have := g.m2; omega⟩
  rw [hk] at h ⊢
  exact h k
theorem acc_power {a : Nat} (ha : a < 2 ^ m) (j : Nat) : acc m p a (pw m p j 1) m = pw m p j a := by
  rw [acc_pw g ha g.one_lt, acc_by_one g]
/-- Round and round. -/
theorem pw_round {a : Nat} (ha : a < 2 ^ m) : pw m p (2 ^ m - 1) a = a := by
  have h := acc_power g ha (2 ^ m - 1)
  rw [g.round, acc_by_one g] at h
  exact h.symm
theorem pw_rounds {a : Nat} (ha : a < 2 ^ m) : ∀ k, pw m p (k * (2 ^ m - 1)) a = a
  | 0 => by rw [Nat.zero_mul]; rfl
  | k + 1 => by rw [Nat.succ_mul, pw_add, pw_round g ha, pw_rounds ha k]
theorem pw_mod {a : Nat} (ha : a < 2 ^ m) (k : Nat) : pw m p k a = pw m p (k % (2 ^ m - 1)) a := by
  conv => lhs; rw [← Nat.mod_add_div k (2 ^ m - 1), Nat.mul_comm, pw_add, pw_rounds g ha]
theorem pw_back {a : Nat} (ha : a < 2 ^ m) {k : Nat} (hk : k ≤ 2 ^ m - 1) : pw m p (2 ^ m - 1 - k) (pw m p k a) = a := by
  rw [← pw_add, show 2 ^ m - 1 - k + k = 2 ^ m - 1 by omega, pw_round g ha]
theorem pw_inj {i j : Nat} (hi : i < 2 ^ m - 1) (hj : j < 2 ^ m - 1) (h : pw m p i 1 = pw m p j 1) : i = j := by
  have key : ∀ i j, i < j → j < 2 ^ m - 1 → pw m p i 1 = pw m p j 1 → False := fun i j hij hj h => by
    have h1 := pw_back g g.one_lt (k := i) (by omega)
    rw [h, ← pw_add] at h1
    rw [show 2 ^ m - 1 - i + j = (j - i) + (2 ^ m - 1) by omega, pw_add, g.round] at h1
    exact g.apart (j - i) (by omega) (by omega) h1
  rcases Nat.lt_trichotomy i j with h1 | h1 | h1
  · exact (key i j h1 hj h).elim
  · exact h1
  · exact (key j i h1 hi h.symm).elim
theorem pw_ne {k : Nat} : pw m p k 1 ≠ 0 := fun h => by
  rw [pw_mod g g.one_lt] at h
  have hk : k % (2 ^ m - 1) < 2 ^ m - 1 := Nat.mod_lt _ (by have := g.three; omega)
  have := pw_back g g.one_lt (k := k % (2 ^ m - 1)) (by omega)
  rw [h, pw_zero] at this
  cases this
end

/-- Who is apart and fits is everybody. -/
theorem pigeon : ∀ (n : Nat) (f : Nat → Nat), (∀ i, i < n → f i < n) → (∀ i j, i < n → j < n → f i = f j → i = j) → ∀ y, y < n → ∃ x, x < n ∧ f x = y
  | 0, _, _, _, y, hy => absurd hy (Nat.not_lt_zero _)
  | n + 1, f, hlt, hinj, y, hy => by
    have hn := hlt n (by omega)
    let h : Nat → Nat := fun i => if f i = n then f n else f i
    have h1 : ∀ i, i < n → h i < n := fun i hi => by
      show (if f i = n then f n else f i) < n
      split
      · rename_i he
        have : f n ≠ n := fun e => by have := hinj i n (by omega) (by omega) (he.trans e.symm); omega
        omega
      · have := hlt i (by omega); omega
    have h2 : ∀ i j, i < n → j < n → h i = h j → i = j := fun i j hi hj he => by
      have he' : (if f i = n then f n else f i) = (if f j = n then f n else f j) := he
      split at he' <;> split at he'
      · rename_i a b; exact hinj i j (by omega) (by omega) (a.trans b.symm)
      · have := hinj n j (by omega) (by omega) he'; omega
      · have := hinj i n (by omega) (by omega) he'; omega
      · exact hinj i j (by omega) (by omega) he'
    by_cases hy2 : y = f n
    · exact ⟨n, by omega, hy2.symm⟩
    · by_cases hyn : y = n
      · -- some i ahead of n goes there, else f keeps below n, all of them
        subst hyn
        have hfn : f y < y := by have := hlt y (by omega); omega
        obtain ⟨x, hx, hx2⟩ := pigeon y h h1 h2 (f y) hfn
        have hx3 : (if f x = y then f y else f x) = f y := hx2
        by_cases hfx : f x = y
        · exact ⟨x, by omega, hfx⟩
        · rw [if_neg hfx] at hx3
          have := hinj x y (by omega) (by omega) hx3
          omega
      · obtain ⟨x, hx, hx2⟩ := pigeon n h h1 h2 y (by omega)
        have hx3 : (if f x = n then f n else f x) = y := hx2
        split at hx3
        · exact absurd hx3.symm hy2
        · exact ⟨x, by omega, hx3⟩

section
variable {m p : Nat} (g : Good m p)
include g
/-- Every element but nought is a power of the root. -/
theorem power_of {a : Nat} (h0 : a ≠ 0) (ha : a < 2 ^ m) : ∃ j, j < 2 ^ m - 1 ∧ pw m p j 1 = a := by
  obtain ⟨j, hj, h⟩ := pigeon (2 ^ m - 1) (fun j => pw m p j 1 - 1) (fun i hi => by have h1 := pw_lt g g.one_lt i; have h2 := pw_ne g (k := i); omega)
    (fun i j hi hj h => by have h1 := pw_ne g (k := i); have h2 := pw_ne g (k := j); exact pw_inj g hi hj (by omega)) (a - 1) (by omega)
  have h2 := pw_ne g (k := j)
  exact ⟨j, hj, by omega⟩
end
end Go.Gf
