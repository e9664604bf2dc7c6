/-
  Polynomials over a field, in plain Lean: values, products, rests.
-/
import Derived.Test.YtkffgdccjgdiaaaGfC
namespace Go.Gf

/-- A coefficient. -/
def cf (l : List Nat) (t : Nat) : Nat := l.getD t 0
@[simp] theorem cf_nil (t : Nat) : cf [] t = 0 := by simp [cf]
@[simp] theorem cf_zero (a : Nat) (l : List Nat) : cf (a :: l) 0 = a := rfl
@[simp] theorem cf_succ (a : Nat) (l : List Nat) (t : Nat) : cf (a :: l) (t + 1) = cf l t := rfl
theorem cf_over {l : List Nat} {t : Nat} (h : l.length ≤ t) : cf l t = 0 := by simp [cf, List.getD_eq_getElem?_getD, List.getElem?_eq_none h]
theorem cf_get {l : List Nat} {t : Nat} (h : t < l.length) : cf l t = l[t] := by simp [cf, List.getD_eq_getElem?_getD, h]
theorem cf_take (l : List Nat) (n t : Nat) : cf (l.take n) t = if t < n then cf l t else 0 := by
  simp only [cf, List.getD_eq_getElem?_getD, List.getElem?_take]
  split <;> rfl
theorem cf_ext {a b : List Nat} (hl : a.length = b.length) (h : ∀ t, cf a t = cf b t) : a = b := by
  refine List.ext_getElem hl fun i h1 h2 => ?_
  have := h i
  rwa [cf_get h1, cf_get h2] at this
def El (m : Nat) (l : List Nat) : Prop := ∀ x ∈ l, x < 2 ^ m
theorem El.cf {m : Nat} {l : List Nat} (h : El m l) (t : Nat) : Gf.cf l t < 2 ^ m := by
  by_cases ht : t < l.length
  · rw [cf_get ht]; exact h _ (List.getElem_mem ht)
  · rw [cf_over (by omega)]; exact Nat.two_pow_pos m
theorem El.of {m : Nat} {l : List Nat} (h : ∀ t, Gf.cf l t < 2 ^ m) : El m l := fun x hx => by
  obtain ⟨i, hi, rfl⟩ := List.getElem_of_mem hx
  have := h i
  rwa [cf_get hi] at this

/-! ### Without noughts at the end -/
def tl : List Nat → Nat
  | [] => 0
  | a :: r => if tl r = 0 then (if a = 0 then 0 else 1) else tl r + 1
def trim (l : List Nat) : List Nat := l.take (tl l)
theorem tl_le : ∀ l : List Nat, tl l ≤ l.length
  | [] => Nat.le_refl _
  | a :: r => by
    have := tl_le r
    unfold tl
    simp only [List.length_cons]
    split
    · split <;> omega
    · omega
theorem tl_over : ∀ {l : List Nat} {t : Nat}, tl l ≤ t → cf l t = 0
  | [], t, _ => cf_nil t
  | a :: r, t, h => by
    unfold tl at h
    cases t with
    | zero =>
      split at h
      · split at h
        · rename_i h0; rw [cf_zero]; exact h0
        · omega
      · omega
    | succ t =>
      rw [cf_succ]
      refine tl_over ?_
      split at h
      · omega
      · omega
theorem tl_top : ∀ {l : List Nat}, 0 < tl l → cf l (tl l - 1) ≠ 0
  | [], h => absurd h (Nat.lt_irrefl _)
  | a :: r, h => by
    unfold tl at h ⊢
    split
    · rename_i h0
      rw [if_pos h0] at h
      split
      · rename_i h1; rw [if_pos h1] at h; omega
      · rename_i h1; exact h1
    · rename_i h0
      have := tl_top (l := r) (by omega)
      rw [show tl r + 1 - 1 = (tl r - 1) + 1 by omega, cf_succ]
      exact this
theorem tl_of {l : List Nat} {k : Nat} (h1 : ∀ t, k ≤ t → cf l t = 0) (h2 : 0 < k → cf l (k - 1) ≠ 0) : tl l = k := by
  rcases Nat.lt_trichotomy (tl l) k with h | h | h
  · exact absurd (tl_over (l := l) (t := k - 1) (by omega)) (h2 (by omega))
  · exact h
  · exact absurd (h1 (tl l - 1) (by omega)) (tl_top (by omega))
theorem tl_lt {l : List Nat} {k : Nat} (h1 : tl l ≤ k) (h0 : 0 < k) (h : cf l (k - 1) = 0) : tl l ≤ k - 1 := by
  rcases Nat.lt_or_ge (k - 1) (tl l) with h2 | h2
  · have : tl l = k := by omega
    subst this
    exact absurd h (tl_top h0)
  · exact h2
theorem cf_trim (l : List Nat) (t : Nat) : cf (trim l) t = cf l t := by
  unfold trim
  rw [cf_take]
  split
  · rfl
  · rw [tl_over (by omega)]
theorem trim_length (l : List Nat) : (trim l).length = tl l := by
  unfold trim; rw [List.length_take]; exact Nat.min_eq_left (tl_le l)
theorem tl_cf {a b : List Nat} (h : ∀ t, cf a t = cf b t) : tl a = tl b :=
  tl_of (fun t ht => by rw [h]; exact tl_over ht) (fun h0 => by rw [h]; exact tl_top h0)
theorem trim_cf {a b : List Nat} (h : ∀ t, cf a t = cf b t) : trim a = trim b :=
  cf_ext (by rw [trim_length, trim_length, tl_cf h]) fun t => by rw [cf_trim, cf_trim, h]
theorem tl_trim (l : List Nat) : tl (trim l) = tl l := tl_cf (cf_trim l)
theorem trim_trim (l : List Nat) : trim (trim l) = trim l := trim_cf (cf_trim l)
theorem El.trim {m : Nat} {l : List Nat} (h : El m l) : El m (Gf.trim l) := fun x hx => h x (List.mem_of_mem_take hx)
/-- A row without noughts at its end. -/
def Tr (l : List Nat) : Prop := tl l = l.length
theorem Tr.of_trim (l : List Nat) : Tr (trim l) := by unfold Tr; rw [tl_trim, trim_length]
theorem Tr.eq {l : List Nat} (h : Tr l) : Gf.trim l = l := by unfold Gf.trim; rw [show tl l = l.length from h, List.take_length]
theorem Tr.top {l : List Nat} (h : Tr l) (h0 : 0 < l.length) : cf l (l.length - 1) ≠ 0 := by
  have := tl_top (l := l) (by rw [show tl l = l.length from h]; exact h0)
  rwa [show tl l = l.length from h] at this
theorem Tr.ext {a b : List Nat} (ha : Tr a) (hb : Tr b) (h : ∀ t, cf a t = cf b t) : a = b := by rw [← ha.eq, ← hb.eq, trim_cf h]

/-! ### Sums, products -/
def addL : List Nat → List Nat → List Nat
  | [], l => l
  | a :: x, [] => a :: x
  | a :: x, b :: y => (a ^^^ b) :: addL x y
theorem cf_addL : ∀ (x y : List Nat) (t : Nat), cf (addL x y) t = cf x t ^^^ cf y t
  | [], l, t => by simp [addL]
  | a :: x, [], t => by simp [addL]
  | a :: x, b :: y, 0 => rfl
  | a :: x, b :: y, t + 1 => by rw [addL, cf_succ, cf_succ, cf_succ, cf_addL x y t]
theorem cf_map {f : Nat → Nat} (h0 : f 0 = 0) : ∀ (l : List Nat) (t : Nat), cf (l.map f) t = f (cf l t)
  | [], t => by simp [h0]
  | a :: r, 0 => rfl
  | a :: r, t + 1 => by rw [List.map_cons, cf_succ, cf_succ, cf_map h0 r t]
def conv (m : Nat) : List Nat → List Nat → List Nat
  | [], _ => []
  | a :: p, q => addL (q.map (mul m a)) (0 :: conv m p q)
def times (m : Nat) (p q : List Nat) : List Nat := trim (conv m p q)
/-- The value. -/
def hor (m x : Nat) : List Nat → Nat
  | [] => 0
  | a :: r => mul m (hor m x r) x ^^^ a

/-- The rows ahead of i. -/
def rs (m : Nat) (p q : List Nat) : Nat → Nat → Nat
  | 0, _ => 0
  | i + 1, t => rs m p q i t ^^^ (if i ≤ t then mul m (cf p i) (cf q (t - i)) else 0)
theorem rs_cons {m : Nat} (a : Nat) (p q : List Nat) : ∀ (i t : Nat), rs m (a :: p) q (i + 1) t = mul m a (cf q t) ^^^ (if t = 0 then 0 else rs m p q i (t - 1))
  | 0, t => by
    simp only [rs, Nat.zero_le, if_true, Nat.sub_zero, cf_zero, Nat.zero_xor]
    split <;> simp
  | i + 1, t => by
    rw [rs, rs_cons a p q i t, rs]
    cases t with
    | zero => simp
    | succ t =>
      simp only [Nat.add_sub_cancel, Nat.succ_ne_zero, if_false, cf_succ]
      by_cases hi : i ≤ t
      · rw [if_pos (show i + 1 ≤ t + 1 by omega), if_pos hi, show t + 1 - (i + 1) = t - i by omega, Nat.xor_assoc]
      · rw [if_neg (show ¬ i + 1 ≤ t + 1 by omega), if_neg hi, Nat.xor_assoc]

section
variable {m : Nat} (h : Is m)
include h
theorem cf_conv (a : Nat) (p q : List Nat) (t : Nat) : cf (conv m (a :: p) q) t = mul m a (cf q t) ^^^ (if t = 0 then 0 else cf (conv m p q) (t - 1)) := by
  rw [conv, cf_addL, cf_map (mul_zero h a)]
  congr 1
  cases t <;> rfl
theorem conv_lt (p q : List Nat) (hp : El m p) : ∀ t, cf (conv m p q) t < 2 ^ m := by
  induction p with
  | nil => intro t; simp [conv, Nat.two_pow_pos]
  | cons a p ih =>
    intro t
    rw [cf_conv h]
    refine Nat.xor_lt_two_pow (mul_lt h (hp a List.mem_cons_self)) ?_
    split
    · exact Nat.two_pow_pos m
    · exact ih (fun x hx => hp x (List.mem_cons_of_mem _ hx)) _
theorem conv_over : ∀ (p q : List Nat) {t : Nat}, p.length + q.length ≤ t + 1 → cf (conv m p q) t = 0
  | [], q, t, _ => by simp [conv]
  | a :: p, q, t, ht => by
    simp only [List.length_cons] at ht
    rw [cf_conv h, cf_over (by omega), mul_zero h]
    split
    · rfl
    · rw [conv_over p q (by omega)]; rfl
theorem conv_nil (p : List Nat) (t : Nat) : cf (conv m p []) t = 0 := by
  induction p generalizing t with
  | nil => simp [conv]
  | cons a p ih =>
    rw [cf_conv h, cf_nil, mul_zero h]
    split
    · rfl
    · rw [ih]; rfl
theorem rs_conv (p q : List Nat) : ∀ t, rs m p q p.length t = cf (conv m p q) t := by
  induction p with
  | nil => intro t; simp [rs, conv]
  | cons a p ih =>
    intro t
    rw [List.length_cons, rs_cons, cf_conv h]
    congr 1
    split
    · rfl
    · exact ih _

/-- The value of sums, of products. -/
theorem hor_lt {x : Nat} {l : List Nat} (hl : El m l) : hor m x l < 2 ^ m := by
  induction l with
  | nil => exact Nat.two_pow_pos m
  | cons a r ih =>
    exact Nat.xor_lt_two_pow (mul_lt h (ih fun y hy => hl y (List.mem_cons_of_mem _ hy))) (hl a List.mem_cons_self)
theorem hor_zeros (x : Nat) : ∀ {l : List Nat}, (∀ t, cf l t = 0) → hor m x l = 0
  | [], _ => rfl
  | a :: r, hz => by
    have h0 : a = 0 := hz 0
    rw [hor, hor_zeros x (l := r) (fun t => hz (t + 1)), zero_mul h, h0]; rfl
theorem hor_cf (x : Nat) : ∀ {a b : List Nat}, (∀ t, cf a t = cf b t) → hor m x a = hor m x b
  | [], b, hc => (hor_zeros h x fun t => by rw [← hc t, cf_nil]).symm
  | a :: r, [], hc => hor_zeros h x fun t => by rw [hc t, cf_nil]
  | a :: r, b :: s, hc => by
    have h0 : a = b := hc 0
    rw [hor, hor, hor_cf x (a := r) (b := s) (fun t => hc (t + 1)), h0]
theorem hor_trim (x : Nat) (l : List Nat) : hor m x (trim l) = hor m x l := hor_cf h x (cf_trim l)
theorem hor_addL (x : Nat) : ∀ (a b : List Nat), hor m x (addL a b) = hor m x a ^^^ hor m x b
  | [], l => by simp [addL, hor]
  | a :: r, [] => by simp [addL, hor]
  | a :: r, b :: s => by rw [addL, hor, hor, hor, hor_addL x r s, xor_mul h, xor4]
theorem hor_map {a x : Nat} (ha : a < 2 ^ m) (hx : x < 2 ^ m) : ∀ {q : List Nat}, El m q → hor m x (q.map (mul m a)) = mul m a (hor m x q)
  | [], _ => by simp [hor, mul_zero h]
  | b :: q, hq => by
    have hq' : El m q := fun y hy => hq y (List.mem_cons_of_mem _ hy)
    rw [List.map_cons, hor, hor, hor_map ha hx hq', mul_xor h, mul_assoc h ha (hor_lt h hq') hx]
theorem hor_conv {x : Nat} (hx : x < 2 ^ m) {p q : List Nat} (hp : El m p) (hq : El m q) : hor m x (conv m p q) = mul m (hor m x p) (hor m x q) := by
  induction p with
  | nil => simp [conv, hor, zero_mul h]
  | cons a p ih =>
    have hp' : El m p := fun y hy => hp y (List.mem_cons_of_mem _ hy)
    have ha := hp a List.mem_cons_self
    have h1 := hor_lt h (x := x) hp'
    have h2 := hor_lt h (x := x) hq
    rw [conv, hor_addL h, hor_map h ha hx hq, hor, hor, ih hp', Nat.xor_zero, xor_mul h, mul_assoc h h1 h2 hx, mul_comm h h2 hx, ← mul_assoc h h1 hx h2, Nat.xor_comm]
theorem hor_times {x : Nat} (hx : x < 2 ^ m) {p q : List Nat} (hp : El m p) (hq : El m q) : hor m x (times m p q) = mul m (hor m x p) (hor m x q) := by
  rw [times, hor_trim h, hor_conv h hx hp hq]
theorem times_el {p q : List Nat} (hp : El m p) : El m (times m p q) := El.trim (.of (conv_lt h p q hp))
end
end Go.Gf
