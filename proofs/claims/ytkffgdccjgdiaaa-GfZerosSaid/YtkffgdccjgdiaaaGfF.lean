/-
  Least polynomials, generators, in plain Lean; what Lean's kernel reckons out of them.
-/
import Derived.Test.YtkffgdccjgdiaaaGfE
namespace Go.Gf

/-- The exponents that doubling makes. -/
def ke (m n i : Nat) : Nat := 2 ^ i * n % sz m
def minP (m n : Nat) : Nat → List Nat
  | 0 => [1]
  | i + 1 => times m (minP m n i) [E m (ke m n i), 1]
/-- How many there are till the first one comes again. -/
def ords (m n : Nat) : Nat := ((List.range m).find? fun i => ke m n (i + 1) == n).getD 0 + 1
def minimal (m n : Nat) : List Nat := minP m n (ords m n)
/-- The least polynomial that is nought at the first n powers. -/
def genP (m : Nat) : Nat → List Nat
  | 0 => [1]
  | n + 1 => if hor m (E m (n + 1)) (genP m n) = 0 then genP m n else times m (genP m n) (minimal m ((n + 1) % sz m))

section
variable {m : Nat} (h : Is m)
include h
theorem ke_full {n : Nat} (hn : n < sz m) : ke m n m = n := by
  have h1 := sz_add h
  unfold ke
  rw [← h1, Nat.add_mul, Nat.one_mul, Nat.mul_add_mod, Nat.mod_eq_of_lt hn]
theorem ke_zero {n : Nat} (hn : n < sz m) : ke m n 0 = n := by
  have _ := h
  unfold ke; rw [Nat.pow_zero, Nat.one_mul, Nat.mod_eq_of_lt hn]
theorem ke_succ (n i : Nat) : ke m n (i + 1) = 2 * ke m n i % sz m := by
  have _ := h
  unfold ke
  rw [Nat.mul_mod_mod, Nat.pow_succ, ← Nat.mul_assoc, Nat.mul_comm 2]
theorem E_ke_succ (n i : Nat) : E m (ke m n (i + 1)) = mul m (E m (ke m n i)) (E m (ke m n i)) := by
  rw [E_mul h, ke_succ h, ← E_mod h, Nat.two_mul]
theorem ords_spec {n : Nat} (hn : n < sz m) : 1 ≤ ords m n ∧ ords m n ≤ m ∧ ke m n (ords m n) = n ∧ ∀ i, 1 ≤ i → i < ords m n → ke m n i ≠ n := by
  have h2 := h.lo
  unfold ords
  cases hf : (List.range m).find? fun i => ke m n (i + 1) == n with
  | none =>
    have := List.find?_eq_none.1 hf (m - 1) (List.mem_range.2 (by omega))
    rw [show m - 1 + 1 = m by omega, ke_full h hn] at this
    simp at this
  | some j =>
    have h1 := List.mem_range.1 (List.mem_of_find?_eq_some hf)
    have h3 := List.find?_some hf
    simp only [beq_iff_eq] at h3
    refine ⟨by simp, by simp only [Option.getD_some]; omega, h3, fun i hi1 hi2 he => ?_⟩
    simp only [Option.getD_some] at hi2
    obtain ⟨_, as, bs, hab, hall⟩ := List.find?_eq_some_iff_append.1 hf
    have hlen : as.length = j := by
      have := congrArg (fun l => l[as.length]?) hab
      simp only [List.getElem?_append_right (Nat.le_refl _), Nat.sub_self, List.getElem?_cons_zero] at this
      obtain ⟨h5, h6⟩ := List.getElem?_eq_some_iff.1 this
      simpa using h6
    have hmem : i - 1 ∈ as := by
      have h7 : (List.range m)[i - 1]? = some (i - 1) := List.getElem?_range (by omega)
      rw [hab, List.getElem?_append_left (by omega)] at h7
      exact List.mem_of_getElem? h7
    have := hall _ hmem
    rw [show i - 1 + 1 = i by omega, he] at this
    simp at this
theorem one_el : El m [1] := fun x hx => by rw [List.mem_singleton.1 hx]; exact one_lt h
theorem minP_el (n : Nat) : ∀ i, El m (minP m n i)
  | 0 => one_el h
  | i + 1 => times_el h (minP_el n i)
theorem genP_el : ∀ n, El m (genP m n)
  | 0 => one_el h
  | n + 1 => by
    rw [genP]
    split
    · exact genP_el n
    · exact times_el h (genP_el n)
end

/-! ### Reckoned fast -/
def strict {α : Type} (x : Nat) (f : Nat → α) : α := match x with
  | 0 => f 0
  | y + 1 => f (y + 1)
theorem strict_eq {α : Type} (x : Nat) (f : Nat → α) : strict x f = f x := by cases x <;> rfl
def mulL (m p : Nat) : Nat → Nat → Nat → Nat → Nat
  | 0, _, _, o => o
  | k + 1, a, b, o => strict (tm m p a) fun a' => strict (if b % 2 = 1 then o ^^^ a else o) fun o' => mulL m p k a' (b / 2) o'
theorem acc_shift {m p : Nat} (a b : Nat) : ∀ k, acc m p a b (k + 1) = (if b % 2 = 1 then a else 0) ^^^ acc m p (tm m p a) (b / 2) k
  | 0 => by
    simp only [acc, Nat.testBit_zero, Nat.xor_zero, Nat.zero_xor, pw]
    simp
  | k + 1 => by
    rw [acc, acc_shift a b k, acc, Nat.testBit_succ, pw_tm, Nat.xor_assoc]
    rfl
theorem mulL_eq {m p : Nat} : ∀ (k a b o : Nat), mulL m p k a b o = o ^^^ acc m p a b k
  | 0, a, b, o => by simp [mulL, acc]
  | k + 1, a, b, o => by
    rw [mulL, strict_eq, strict_eq, mulL_eq k, acc_shift]
    split
    · rw [Nat.xor_assoc]
    · rw [Nat.zero_xor]
def mulK (m a b : Nat) : Nat := match b with
  | 0 => 0
  | c + 1 => match a with
    | 0 => 0
    | d + 1 => if c = 0 then d + 1 else mulL m (poly m) m (d + 1) (c + 1) 0
def addK : List Nat → List Nat → List Nat
  | [], l => l
  | a :: x, [] => a :: x
  | a :: x, b :: y => strict (a ^^^ b) fun s => s :: addK x y
theorem addK_eq : ∀ x y : List Nat, addK x y = addL x y
  | [], l => by simp [addK, addL]
  | a :: x, [] => by simp [addK, addL]
  | a :: x, b :: y => by rw [addK, addL, strict_eq, addK_eq x y]
def mapK (m a : Nat) : List Nat → List Nat
  | [] => []
  | b :: q => strict (mulK m a b) fun s => s :: mapK m a q
def convK (m : Nat) : List Nat → List Nat → List Nat
  | [], _ => []
  | a :: p, q => addK (mapK m a q) (0 :: convK m p q)
def horK (m x : Nat) : List Nat → Nat
  | [] => 0
  | a :: r => strict (horK m x r) fun y => mulK m y x ^^^ a
def minK (m first : Nat) : Nat → Nat → List Nat → List Nat
  | 0, _, p => p
  | k + 1, x, p => strict (mulK m x x) fun y => if Nat.beq y first then trim (convK m p [x, 1]) else minK m first k y (trim (convK m p [x, 1]))
def genK (m : Nat) : Nat → List Nat
  | 0 => [1]
  | n + 1 => match horK m (E m (n + 1)) (genK m n) with
    | 0 => genK m n
    | _ + 1 => trim (convK m (genK m n) (minK m (E m ((n + 1) % sz m)) m (E m ((n + 1) % sz m)) [1]))

section
variable {m : Nat} (h : Is m)
include h
theorem mulK_eq {a b : Nat} : mulK m a b = mul m a b := by
  unfold mulK
  cases b with
  | zero => exact (mul_zero h a).symm
  | succ c =>
    cases a with
    | zero => exact (zero_mul h _).symm
    | succ d =>
      simp only
      split
      · rename_i hc; subst hc; exact (mul_one h _).symm
      · rw [mulL_eq, Nat.zero_xor]; rfl
theorem mapK_eq (a : Nat) : ∀ q, mapK m a q = q.map (mul m a)
  | [] => rfl
  | b :: q => by rw [mapK, strict_eq, mapK_eq a q, mulK_eq h]; rfl
theorem convK_eq : ∀ p q, convK m p q = conv m p q
  | [], _ => rfl
  | a :: p, q => by rw [convK, conv, addK_eq, mapK_eq h, convK_eq p q]
theorem horK_eq (x : Nat) : ∀ l, horK m x l = hor m x l
  | [] => rfl
  | a :: r => by rw [horK, strict_eq, horK_eq x r, mulK_eq h]; rfl
theorem minK_eq {n : Nat} (hn : n < sz m) : ∀ (k i : Nat), i < ords m n → ords m n ≤ i + k → minK m (E m n) k (E m (ke m n i)) (minP m n i) = minimal m n
  | 0, i, h1, h2 => by omega
  | k + 1, i, h1, h2 => by
    obtain ⟨h3, h4, h5, h6⟩ := ords_spec h hn
    have hs := sz_ge h
    rw [minK, strict_eq, mulK_eq h, ← E_ke_succ h, convK_eq h]
    have hlt : ke m n (i + 1) < sz m := Nat.mod_lt _ (by omega)
    by_cases hi : i + 1 = ords m n
    · have e1 : ke m n (i + 1) = n := by rw [hi]; exact h5
      rw [e1, Nat.beq_refl, if_pos rfl]
      unfold minimal
      rw [← hi]; rfl
    · have e1 : ke m n (i + 1) ≠ n := h6 _ (by omega) (by omega)
      have e2 : Nat.beq (E m (ke m n (i + 1))) (E m n) = false := by
        cases hb : Nat.beq (E m (ke m n (i + 1))) (E m n) with
        | false => rfl
        | true => exact absurd (E_inj h hlt hn (Nat.eq_of_beq_eq_true hb)) e1
      rw [e2]
      simp only [Bool.false_eq_true, if_false]
      exact minK_eq hn k (i + 1) (by omega) (by omega)
theorem genK_eq : ∀ n, genK m n = genP m n
  | 0 => rfl
  | n + 1 => by
    have hs := sz_ge h
    have hn : (n + 1) % sz m < sz m := Nat.mod_lt _ (by omega)
    have hm := minK_eq h hn m 0 (ords_spec h hn).1 (by have := (ords_spec h hn).2.1; omega)
    rw [ke_zero h hn] at hm
    have hm' : minK m (E m ((n + 1) % sz m)) m (E m ((n + 1) % sz m)) [1] = minimal m ((n + 1) % sz m) := hm
    rw [genK, genP, genK_eq n, horK_eq h, hm', convK_eq h]
    cases hor m (E m (n + 1)) (genP m n) with
    | zero => rfl
    | succ x => rfl
end

/-! ### Reckoned out -/
/-- At even powers nothing is to be done. -/
def evenB (m : Nat) : Bool := (List.range 8).all fun i => Nat.beq (horK m (E m (2 * i + 2)) (genK m (2 * i + 1))) 0
theorem even2 : evenB 2 = true := by kernel_rfl
theorem even3 : evenB 3 = true := by kernel_rfl
theorem even4 : evenB 4 = true := by kernel_rfl
theorem even5 : evenB 5 = true := by kernel_rfl
theorem even6 : evenB 6 = true := by kernel_rfl
theorem even7 : evenB 7 = true := by kernel_rfl
theorem even8 : evenB 8 = true := by kernel_rfl
theorem even9 : evenB 9 = true := by kernel_rfl
theorem even10 : evenB 10 = true := by kernel_rfl
theorem even11 : evenB 11 = true := by kernel_rfl
theorem even12 : evenB 12 = true := by kernel_rfl
theorem even13 : evenB 13 = true := by kernel_rfl
theorem even_all {m : Nat} (h : Is m) : evenB m = true := by
  have h1 := h.lo
  have h2 := h.hi
  have h : m = 2 ∨ m = 3 ∨ m = 4 ∨ m = 5 ∨ m = 6 ∨ m = 7 ∨ m = 8 ∨ m = 9 ∨ m = 10 ∨ m = 11 ∨ m = 12 ∨ m = 13 := by omega
  rcases h with rfl | rfl | rfl | rfl | rfl | rfl | rfl | rfl | rfl | rfl | rfl | rfl
  · exact even2
  · exact even3
  · exact even4
  · exact even5
  · exact even6
  · exact even7
  · exact even8
  · exact even9
  · exact even10
  · exact even11
  · exact even12
  · exact even13
theorem genP_even {m : Nat} (h : Is m) {i : Nat} (hi : i < 8) : genP m (2 * i + 2) = genP m (2 * i + 1) := by
  have h1 := List.all_eq_true.1 (even_all h) i (List.mem_range.2 hi)
  have h2 := Nat.eq_of_beq_eq_true h1
  rw [horK_eq h, genK_eq h] at h2
  rw [show 2 * i + 2 = (2 * i + 1) + 1 by omega, genP, if_pos h2]
theorem genP4 : genP 4 4 = [1, 0, 0, 0, 1, 0, 1, 1, 1] := by
  rw [← genK_eq ⟨by decide, by decide⟩]
  kernel_rfl

/-- A quotient, reckoned anyhow. -/
def divA (b : List Nat) (lb : Nat) : Nat → List Nat → List Nat → List Nat
  | 0, _, q => q
  | k + 1, a, q => match a with
    | [] => q
    | 0 :: r => divA b lb k r (0 :: q)
    | (x + 1) :: r => divA b lb k (addK b r) ((x + 1) :: q)
def zeroB (m t : Nat) : Bool :=
  let p := genK m (2 * t)
  let all := 1 :: (List.replicate (sz m - 1) 0 ++ [1])
  p.all (fun x => Nat.ble x 1) && (List.range (2 * t)).all (fun i => Nat.beq (horK m (E m (i + 1)) p) 0) && Nat.blt 1 p.length && Nat.beq (cf p (p.length - 1)) 1 &&
    (trim (convK m (divA (p.reverse.drop 1) 0 (sz m + 2 - p.length) all.reverse []) p) == all)
end Go.Gf
