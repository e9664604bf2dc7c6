/-
  Fields of 2^m elements, in plain Lean: there is one for each m from 2 to 13; products, logarithms, inverses, powers.
-/
import Derived.Test.YtkffgdccjgdiaaaGfA
import Derived.KernelRfl
namespace Go.Gf

/-! ### The fields that there are -/
def chk (m p : Nat) : Nat → Nat → Bool
  | 0, x => Nat.beq x 1
  | k + 1, x => match x with
    | 0 => false
    | y + 1 => !(Nat.beq y 0) && chk m p k (tm m p (y + 1))
theorem chk_sound {m p : Nat} : ∀ (k j : Nat), chk m p k (pw m p j 1) = true → pw m p (j + k) 1 = 1 ∧ ∀ i, i < k → pw m p (j + i) 1 ≠ 1
  | 0, j, h => ⟨Nat.eq_of_beq_eq_true h, fun i hi => absurd hi (Nat.not_lt_zero _)⟩
  | k + 1, j, h => by
    unfold chk at h
    cases hx : pw m p j 1 with
    | zero => rw [hx] at h; cases h
    | succ y =>
      rw [hx] at h
      simp only [Bool.and_eq_true, Bool.not_eq_true'] at h
      have h2 : chk m p k (pw m p (j + 1) 1) = true := by rw [pw, hx]; exact h.2
      obtain ⟨h3, h4⟩ := chk_sound k (j + 1) h2
      refine ⟨by rw [show j + (k + 1) = j + 1 + k by omega]; exact h3, fun i hi => ?_⟩
      cases i with
      | zero =>
        rw [Nat.add_zero, hx]
        intro he
        have : y = 0 := by omega
        subst this
        simp at h
      | succ i => rw [show j + (i + 1) = j + 1 + i by omega]; exact h4 i (by omega)
def goodB (m p : Nat) : Bool := Nat.ble 2 m && Nat.ble (2 ^ m) p && Nat.blt p (2 ^ (m + 1)) && Nat.beq (acc m p 1 p (m + 1)) 0 && chk m p (2 ^ m - 2) (tm m p 1)
theorem goodB_good {m p : Nat} (h : goodB m p = true) : Good m p := by
  unfold goodB at h
  simp only [Bool.and_eq_true] at h
  obtain ⟨⟨⟨⟨h1, h2⟩, h3⟩, h4⟩, h5⟩ := h
  have h1 := Nat.le_of_ble_eq_true h1
  have hp : 2 ^ 2 ≤ 2 ^ m := Nat.pow_le_pow_right (by decide) h1
  obtain ⟨h6, h7⟩ := chk_sound (m := m) (p := p) (2 ^ m - 2) 1 h5
  refine ⟨h1, Nat.le_of_ble_eq_true h2, Nat.le_of_ble_eq_true h3, Nat.eq_of_beq_eq_true h4, ?_, fun j h8 h9 => ?_⟩
  · rw [show 2 ^ m - 1 = 1 + (2 ^ m - 2) by omega]; exact h6
  · have := h7 (j - 1) (by omega)
    rwa [show 1 + (j - 1) = j by omega] at this
theorem good2 : Good 2 7 := goodB_good (by kernel_rfl)
theorem good3 : Good 3 11 := goodB_good (by kernel_rfl)
theorem good4 : Good 4 19 := goodB_good (by kernel_rfl)
theorem good5 : Good 5 37 := goodB_good (by kernel_rfl)
theorem good6 : Good 6 67 := goodB_good (by kernel_rfl)
theorem good7 : Good 7 137 := goodB_good (by kernel_rfl)
theorem good8 : Good 8 285 := goodB_good (by kernel_rfl)
theorem good9 : Good 9 529 := goodB_good (by kernel_rfl)
theorem good10 : Good 10 1033 := goodB_good (by kernel_rfl)
theorem good11 : Good 11 2053 := goodB_good (by kernel_rfl)
theorem good12 : Good 12 4179 := goodB_good (by kernel_rfl)
theorem good13 : Good 13 8219 := goodB_good (by kernel_rfl)
theorem good {m : Nat} (h1 : 2 ≤ m) (h2 : m ≤ 13) : Good m (poly m) := by
  have h : m = 2 ∨ m = 3 ∨ m = 4 ∨ m = 5 ∨ m = 6 ∨ m = 7 ∨ m = 8 ∨ m = 9 ∨ m = 10 ∨ m = 11 ∨ m = 12 ∨ m = 13 := by omega
  rcases h with rfl | rfl | rfl | rfl | rfl | rfl | rfl | rfl | rfl | rfl | rfl | rfl
  · exact good2
  · exact good3
  · exact good4
  · exact good5
  · exact good6
  · exact good7
  · exact good8
  · exact good9
  · exact good10
  · exact good11
  · exact good12
  · exact good13
end Go.Gf
