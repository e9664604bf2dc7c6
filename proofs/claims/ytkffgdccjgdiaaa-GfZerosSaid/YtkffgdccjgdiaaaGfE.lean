/-
  Polynomials over a field, in plain Lean: what is left by another one.
-/
import Derived.Test.YtkffgdccjgdiaaaGfD
namespace Go.Gf

/-- One step: the other one, c times, taken off from place o on. -/
def sub (m c o : Nat) (a b : List Nat) : List Nat := (List.range a.length).map fun k => cf a k ^^^ (if o ≤ k then mul m c (cf b (k - o)) else 0)
def topC (m : Nat) (a b : List Nat) : Nat := mul m (cf a (a.length - 1)) (inv m (cf b (b.length - 1)))
def stepR (m : Nat) (a b : List Nat) : List Nat := trim (sub m (topC m a b) (a.length - b.length) a b)
def restN (m : Nat) (b : List Nat) : Nat → List Nat → List Nat
  | 0, a => a
  | k + 1, a => if a.length < b.length then a else restN m b k (stepR m a b)
def restL (m : Nat) (b a : List Nat) : List Nat := restN m b a.length a
def rest (m : Nat) (p q : List Nat) : List Nat := if trim q = [] then [] else restL m (trim q) (trim p)

theorem sub_length (m c o : Nat) (a b : List Nat) : (sub m c o a b).length = a.length := by simp [sub]
theorem rs_cf {m : Nat} {p p' q : List Nat} : ∀ (i : Nat), (∀ j, j < i → cf p j = cf p' j) → ∀ t, rs m p q i t = rs m p' q i t
  | 0, _, _ => rfl
  | i + 1, hc, t => by rw [rs, rs, rs_cf i (fun j hj => hc j (by omega)) t, hc i (by omega)]
section
variable {m : Nat} (h : Is m)
include h
theorem cf_sub {c o : Nat} {a b : List Nat} (hab : a.length = o + b.length) (k : Nat) : cf (sub m c o a b) k = cf a k ^^^ (if o ≤ k then mul m c (cf b (k - o)) else 0) := by
  by_cases hk : k < a.length
  · rw [cf_get (by rw [sub_length]; exact hk)]
    simp [sub]
  · rw [cf_over (by rw [sub_length]; omega), cf_over (l := a) (by omega), if_pos (by omega), cf_over (by omega), mul_zero h]
    rfl
theorem sub_el {c o : Nat} {a b : List Nat} (ha : El m a) (hc : c < 2 ^ m) : El m (sub m c o a b) := fun x hx => by
  simp only [sub, List.mem_map, List.mem_range] at hx
  obtain ⟨k, hk, rfl⟩ := hx
  refine Nat.xor_lt_two_pow (ha.cf k) ?_
  split
  · exact mul_lt h hc
  · exact Nat.two_pow_pos m
theorem topC_lt {a b : List Nat} (ha : El m a) : topC m a b < 2 ^ m := mul_lt h (ha.cf _)
theorem stepR_el {a b : List Nat} (ha : El m a) : El m (stepR m a b) := El.trim (sub_el h ha (topC_lt h ha))
theorem stepR_lt {a b : List Nat} (ha : El m a) (hb : El m b) (hbt : Tr b) (hb0 : 0 < b.length) (hlen : b.length ≤ a.length) : (stepR m a b).length < a.length := by
  rw [stepR, trim_length]
  have h1 : tl (sub m (topC m a b) (a.length - b.length) a b) ≤ a.length := by
    have := tl_le (sub m (topC m a b) (a.length - b.length) a b)
    rwa [sub_length] at this
  have h2 := hbt.top hb0
  have h3 := hb.cf (b.length - 1)
  have h4 : cf (sub m (topC m a b) (a.length - b.length) a b) (a.length - 1) = 0 := by
    rw [cf_sub h (by omega), if_pos (by omega), show a.length - 1 - (a.length - b.length) = b.length - 1 by omega, topC,
      mul_assoc h (ha.cf _) (inv_lt h _) h3, mul_comm h (inv_lt h _) h3, mul_inv h h2 h3, mul_one h, Nat.xor_self]
  have := tl_lt h1 (by omega) h4
  omega
theorem restN_more {b : List Nat} (hb : El m b) (hbt : Tr b) (hb0 : 0 < b.length) : ∀ (k : Nat) (a : List Nat), El m a → a.length ≤ k → ∀ j, a.length ≤ j → restN m b k a = restN m b j a
  | 0, a, ha, hk, j, hj => by
    cases j with
    | zero => rfl
    | succ j => rw [restN, restN, if_pos (by omega)]
  | k + 1, a, ha, hk, j, hj => by
    cases j with
    | zero => rw [restN, restN, if_pos (by omega)]
    | succ j =>
      rw [restN, restN]
      split
      · rfl
      · have := stepR_lt h ha hb hbt hb0 (by omega)
        exact restN_more hb hbt hb0 k _ (stepR_el h ha) (by omega) j (by omega)
theorem restL_step {a b : List Nat} (ha : El m a) (hb : El m b) (hbt : Tr b) (hb0 : 0 < b.length) (hlen : b.length ≤ a.length) : restL m b a = restL m b (stepR m a b) := by
  have h1 := stepR_lt h ha hb hbt hb0 hlen
  unfold restL
  obtain ⟨k, hk⟩ : ∃ k, a.length = k + 1 := ⟨a.length - 1, by omega⟩
  rw [hk, restN, if_neg (by omega)]
  exact restN_more h hb hbt hb0 k _ (stepR_el h ha) (by omega) _ (Nat.le_refl _)

theorem restL_done {a b : List Nat} (hlen : a.length < b.length) : restL m b a = a := by
  have _ := h
  unfold restL
  cases ha : a.length with
  | zero => rfl
  | succ k => rw [restN, if_pos (by omega)]

theorem rs_over (p q : List Nat) {t : Nat} : ∀ i, (i + q.length ≤ t + 1) → rs m p q i t = 0
  | 0, _ => rfl
  | i + 1, hi => by
    rw [rs, rs_over p q i (by omega)]
    split
    · rw [cf_over (l := q) (by omega), mul_zero h]; rfl
    · rfl
/-- A product, and something less: that is left. -/
theorem restL_product {b r : List Nat} (hb : El m b) (hbt : Tr b) (hr : Tr r) (hlen : r.length < b.length) : ∀ (n : Nat) (P a : List Nat), El m P → El m a → Tr a → P.length = n → (∀ t, cf a t = rs m P b n t ^^^ cf r t) → restL m b a = r
  | 0, P, a, hP, ha, hat, hn, hc => by
    have : a = r := hat.ext hr fun t => by rw [hc]; simp [rs]
    rw [this]
    exact restL_done h hlen
  | n + 1, P, a, hP, ha, hat, hn, hc => by
    have hd := hP.cf n
    have hPt : El m (P.take n) := fun x hx => hP x (List.mem_of_mem_take hx)
    have hrs : ∀ t, rs m P b n t = rs m (P.take n) b n t := rs_cf n (fun j hj => by rw [cf_take, if_pos hj])
    have hb0 : 0 < b.length := by omega
    have he := hb.cf (b.length - 1)
    have hbe := hbt.top hb0
    by_cases h0 : cf P n = 0
    · refine restL_product hb hbt hr hlen n (P.take n) a hPt ha hat (by rw [List.length_take]; omega) fun t => ?_
      rw [hc, rs, h0, ← hrs]
      split
      · rw [zero_mul h, Nat.xor_zero]
      · rw [Nat.xor_zero]
    · have htop : cf a (n + (b.length - 1)) = mul m (cf P n) (cf b (b.length - 1)) := by
        rw [hc, rs, rs_over h P b n (by omega), if_pos (by omega), cf_over (l := r) (by omega), Nat.add_sub_cancel_left, Nat.zero_xor, Nat.xor_zero]
      have htl : tl a = n + b.length := by
        refine tl_of (fun t ht => ?_) (fun _ => ?_)
        · rw [hc, rs_over h P b (n + 1) (by omega), cf_over (by omega)]; rfl
        · rw [show n + b.length - 1 = n + (b.length - 1) by omega, htop]
          exact mul_ne h h0 hd hbe he
      have hal : a.length = n + b.length := by rw [← htl]; exact hat.symm
      have hcc : topC m a b = cf P n := by
        rw [topC, show a.length - 1 = n + (b.length - 1) by omega, htop, mul_assoc h hd he (inv_lt h _), mul_inv h hbe he, mul_one h]
      rw [restL_step h ha hb hbt hb0 (by omega)]
      refine restL_product hb hbt hr hlen n (P.take n) _ hPt (stepR_el h ha) (Tr.of_trim _) (by rw [List.length_take]; omega) fun t => ?_
      rw [stepR, cf_trim, hcc, show a.length - b.length = n by omega, cf_sub h hal, hc, rs, ← hrs]
      generalize rs m P b n t = x
      generalize (if n ≤ t then mul m (cf P n) (cf b (t - n)) else 0) = y
      generalize cf r t = z
      rw [Nat.xor_assoc, Nat.xor_assoc, Nat.xor_comm z y, ← Nat.xor_assoc y y z, Nat.xor_self, Nat.zero_xor]
theorem restL_el {b : List Nat} : ∀ (k : Nat) {a : List Nat}, El m a → El m (restN m b k a)
  | 0, a, ha => ha
  | k + 1, a, ha => by
    rw [restN]
    split
    · exact ha
    · exact restL_el k (stepR_el h ha)

/-! ### The document's ways -/
theorem inv_step {a : Nat} (ha : a < 2 ^ m) (i : Nat) : mul m (pown m a (2 ^ i)) (pown m a (2 ^ i)) = pown m a (2 ^ (i + 1)) ∧ mul m (pown m a (2 ^ (i + 1) - 2)) (pown m a (2 ^ (i + 1))) = pown m a (2 ^ (i + 2) - 2) := by
  have h1 : 2 ^ 1 ≤ 2 ^ (i + 1) := Nat.pow_le_pow_right (by decide) (by omega)
  rw [← pown_add h ha, ← pown_add h ha]
  constructor
  · congr 1; rw [Nat.pow_succ]; omega
  · congr 1; rw [Nat.pow_succ 2 (i + 1)]; omega
theorem pow_step {a x k : Nat} (ha : a < 2 ^ m) (hx : x < 2 ^ m) : mul m (if k % 2 = 1 then mul m x a else x) (pown m (mul m a a) (k / 2)) = mul m x (pown m a k) := by
  rw [pown_two h ha]
  split
  · rename_i h1
    rw [mul_assoc h hx ha (pown_lt h ha _)]
    congr 1
    have : pown m a 1 = a := one_mul h ha
    conv => lhs; arg 2; rw [← this]
    rw [← pown_add h ha]
    congr 1; omega
  · congr 2; omega
/-- Term by term. -/
theorem eval_step {x pw_ : Nat} (hx : x < 2 ^ m) (hp : pw_ < 2 ^ m) {a : Nat} {r : List Nat} (ha : a < 2 ^ m) (hr : El m r) :
    mul m (hor m x (a :: r)) pw_ = mul m a pw_ ^^^ mul m (hor m x r) (mul m pw_ x) := by
  rw [hor, xor_mul h, Nat.xor_comm, mul_assoc h (hor_lt h hr) hx hp, mul_comm h hx hp]
end
end Go.Gf
