/-
  The document's ways: elements, products, powers, logarithms, inverses.
-/
import Derived.Test.YtkffgdccjgdiaaaGfK
namespace Go.Proofs.Ytkffgdccjgdiaaa
open Go.Fk Go.RowKit
attribute [local irreducible] Wp WpL Det thenQ blockQ
theorem bit1 (b k : Nat) : (b >>> k) &&& 1 = if b.testBit k then 1 else 0 := by
  rw [Nat.and_one_is_mod, Nat.testBit_eq_decide_div_mod_eq, Nat.shiftRight_eq_div_pow]
  rcases Nat.mod_two_eq_zero_or_one (b / 2 ^ k) with h | h <;> simp [h]
section
variable {w : World} {m : Nat}
theorem refPoly_any (h : Gf.Is m) (w : World) : Calls Try.prog 47 #[.int .i64 (m : Int)] w fun x w' => x = .returned (.int .i64 (Gf.poly m : Int)) ∧ w = w' := by
  have h1 := h.lo
  have h2 := h.hi
  have hm : m = 2 ∨ m = 3 ∨ m = 4 ∨ m = 5 ∨ m = 6 ∨ m = 7 ∨ m = 8 ∨ m = 9 ∨ m = 10 ∨ m = 11 ∨ m = 12 ∨ m = 13 := by omega
  (refine calls_of (P := Try.prog) _ Try.func47 rfl Try.ntmps47 (Nat.le_of_ble_eq_true rfl) ?_; dsimp only [argE, Nat.reduceAdd])
  rcases hm with rfl | rfl | rfl | rfl | rfl | rfl | rfl | rfl | rfl | rfl | rfl | rfl
  all_goals
    (refine Reach.walk ?_; (repeat (first | ((with_reducible refine AllSt.mk ?_); (try clear hS); intro w hS) | ((with_reducible refine AllVw.mk ?_); intro V hV))))
    (with_reducible apply doneQ_one Try.results47); (· exact slotFound)
    exact ⟨rfl, rfl⟩
theorem refIn_any (h : Gf.Is m) (z : Int) (w : World) : Calls Try.prog 30 #[.int .i64 (m : Int), .int .i64 z] w fun x w' => x = .returned (.int .i64 (inE m z : Int)) ∧ w = w' := by
  obtain ⟨e1, e2, e3⟩ := shl_sz h
  have hlo := h.lo
  have hhi := h.hi
  (refine calls_of (P := Try.prog) _ Try.func30 rfl Try.ntmps30 (Nat.le_of_ble_eq_true rfl) ?_; dsimp only [argE, Nat.reduceAdd])
  by_cases h0 : z < 0
  · (refine Reach.walk ?_; (repeat (first | ((with_reducible refine AllSt.mk ?_); (try clear hS); intro w hS) | ((with_reducible refine AllVw.mk ?_); intro V hV))))
    (with_reducible apply doneQ_one Try.results30); (· exact slotFound)
    exact ⟨by rw [inE, if_pos (.inl h0)]; rfl, rfl⟩
  by_cases h1 : (Gf.sz m : Int) < z
  · (refine Reach.walk ?_; (repeat (first | ((with_reducible refine AllSt.mk ?_); (try clear hS); intro w hS) | ((with_reducible refine AllVw.mk ?_); intro V hV))))
    (with_reducible apply doneQ_one Try.results30); (· exact slotFound)
    exact ⟨by rw [inE, if_pos (.inr h1)]; rfl, rfl⟩
  · (refine Reach.walk ?_; (repeat (first | ((with_reducible refine AllSt.mk ?_); (try clear hS); intro w hS) | ((with_reducible refine AllVw.mk ?_); intro V hV))))
    (with_reducible apply doneQ_one Try.results30); (· exact slotFound)
    exact ⟨by rw [inE, if_neg (by omega), show ((z.toNat : Nat) : Int) = z by omega], rfl⟩
theorem refMul_any (h : Gf.Is m) (y z : Int) (w : World) : Calls Try.prog 31 #[.int .i64 (m : Int), .int .i64 y, .int .i64 z] w fun x w' => x = .returned (.int .i64 (Gf.mul m (inE m y) (inE m z) : Int)) ∧ w = w' := by
  obtain ⟨e1, e2, e3⟩ := shl_sz h
  have hlo := h.lo
  have hhi := h.hi
  have ha := inE_lt h y
  have hb := inE_lt h z
  have hpl : Gf.poly m < 9223372036854775808 := by have := h.good.hi; have : 2 ^ (m + 1) ≤ 2 ^ 14 := Nat.pow_le_pow_right (by decide) (by omega); omega
  (refine calls_of (P := Try.prog) _ Try.func31 rfl Try.ntmps31 (Nat.le_of_ble_eq_true rfl) ?_; dsimp only [argE, Nat.reduceAdd])
  (refine Reach.walk ?_; (repeat (first | ((with_reducible refine AllSt.mk ?_); (try clear hS); intro w hS) | ((with_reducible refine AllVw.mk ?_); intro V hV))))
  (with_reducible apply WpL.call); (· exact rfl); (· exact Try.call30); (· exact Vals.found)
  refine (refIn_any h y w).mono ?_
  rintro x w1 ⟨rfl, rfl⟩
  refine ⟨_, rfl, ?_⟩
  (refine Reach.walk ?_; (repeat (first | ((with_reducible refine AllSt.mk ?_); (try clear hS); intro w hS) | ((with_reducible refine AllVw.mk ?_); intro V hV))))
  (with_reducible apply WpL.call); (· exact rfl); (· exact Try.call30); (· exact Vals.found)
  refine (refIn_any h z w).mono ?_
  rintro x w1 ⟨rfl, rfl⟩
  refine ⟨_, rfl, ?_⟩
  generalize inE m y = a at *
  generalize inE m z = b at *
  (refine Reach.walk ?_; (repeat (first | ((with_reducible refine AllSt.mk ?_); (try clear hS); intro w hS) | ((with_reducible refine AllVw.mk ?_); intro V hV))))
  (with_reducible apply WpL.call); (· exact rfl); (· exact Try.call47); (· exact Vals.found)
  refine (refPoly_any h w).mono ?_
  rintro x w1 ⟨rfl, rfl⟩
  refine ⟨_, rfl, ?_⟩
  (refine Reach.walk ?_; (repeat (first | ((with_reducible refine AllSt.mk ?_); (try clear hS); intro w hS) | ((with_reducible refine AllVw.mk ?_); intro V hV))))
  apply Wp.loopUp m (fun k e w' => w' = w ∧ e.Has [(9, .int .i64 (k : Nat)), (8, .int .i64 (Gf.acc m (Gf.poly m) a b k : Nat)), (1, .int .i64 (Gf.pw m (Gf.poly m) k a : Nat)), (0, .int .i64 (m : Nat)), (2, .int .i64 (b : Nat)), (7, .int .i64 (Gf.poly m : Nat))]) (Nat.zero_le m)
    ⟨rfl, rfl, rfl, rfl, rfl, rfl, rfl, trivial⟩
  rintro k e w1 hk ⟨rfl, he⟩
  obtain ⟨e0, rfl⟩ := he.eq
  clear he
  dsimp only [Env.sets]
  have hpk := Gf.pw_lt h.good ha k
  have hpk1 := Gf.pw_lt h.good ha (k + 1)
  have hac := Gf.acc_lt h.good b ha k
  have hac1 := Gf.acc_lt h.good b ha (k + 1)
  have hnx : Gf.pw m (Gf.poly m) (k + 1) a = if 2 ^ m ≤ Gf.pw m (Gf.poly m) k a <<< 1 then (Gf.pw m (Gf.poly m) k a <<< 1) ^^^ Gf.poly m else Gf.pw m (Gf.poly m) k a <<< 1 := Gf.tm_eq h.good hpk
  have hsh : Gf.pw m (Gf.poly m) k a <<< 1 < 9223372036854775808 := by rw [Nat.shiftLeft_eq]; omega
  have hacs : Gf.acc m (Gf.poly m) a b (k + 1) = Gf.acc m (Gf.poly m) a b k ^^^ (if b.testBit k then Gf.pw m (Gf.poly m) k a else 0) := rfl
  have hb1 := bit1 b k
  generalize Gf.pw m (Gf.poly m) k a = p at *
  generalize hcc : Gf.acc m (Gf.poly m) a b k = c at *
  by_cases hlt : k < m
  · cases ht : b.testBit k with
    | true =>
      rw [ht, if_pos rfl] at hacs hb1
      by_cases hbig : 2 ^ m ≤ p <<< 1
      · rw [if_pos hbig] at hnx
        (refine Reach.walk ?_; (repeat (first | ((with_reducible refine AllSt.mk ?_); (try clear hS); intro w hS) | ((with_reducible refine AllVw.mk ?_); intro V hV))))
        exact ⟨hlt, rfl, int_eq (by omega), int_eq (by rw [hacs]), int_eq (by rw [hnx]), rfl, rfl, rfl, trivial⟩
      · rw [if_neg hbig] at hnx
        (refine Reach.walk ?_; (repeat (first | ((with_reducible refine AllSt.mk ?_); (try clear hS); intro w hS) | ((with_reducible refine AllVw.mk ?_); intro V hV))))
        exact ⟨hlt, rfl, int_eq (by omega), int_eq (by rw [hacs]), int_eq (by rw [hnx]), rfl, rfl, rfl, trivial⟩
    | false =>
      rw [ht] at hacs hb1
      simp only [Bool.false_eq_true, if_false, Nat.xor_zero] at hacs hb1
      by_cases hbig : 2 ^ m ≤ p <<< 1
      · rw [if_pos hbig] at hnx
        (refine Reach.walk ?_; (repeat (first | ((with_reducible refine AllSt.mk ?_); (try clear hS); intro w hS) | ((with_reducible refine AllVw.mk ?_); intro V hV))))
        exact ⟨hlt, rfl, int_eq (by omega), int_eq (by rw [hacs]), int_eq (by rw [hnx]), rfl, rfl, rfl, trivial⟩
      · rw [if_neg hbig] at hnx
        (refine Reach.walk ?_; (repeat (first | ((with_reducible refine AllSt.mk ?_); (try clear hS); intro w hS) | ((with_reducible refine AllVw.mk ?_); intro V hV))))
        exact ⟨hlt, rfl, int_eq (by omega), int_eq (by rw [hacs]), int_eq (by rw [hnx]), rfl, rfl, rfl, trivial⟩
  · obtain rfl : k = m := by omega
    (refine Reach.walk ?_; (repeat (first | ((with_reducible refine AllSt.mk ?_); (try clear hS); intro w hS) | ((with_reducible refine AllVw.mk ?_); intro V hV))))
    (with_reducible apply doneQ_one Try.results31); (· exact slotFound)
    exact ⟨by rw [← hcc]; rfl, rfl⟩
end
end Go.Proofs.Ytkffgdccjgdiaaa
