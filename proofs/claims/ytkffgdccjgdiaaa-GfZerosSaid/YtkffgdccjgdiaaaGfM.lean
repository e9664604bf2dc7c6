/-
  The document's ways: powers, logarithms, inverses.
-/
import Derived.Test.YtkffgdccjgdiaaaGfL
namespace Go.Proofs.Ytkffgdccjgdiaaa
open Go.Fk Go.RowKit
attribute [local irreducible] Wp WpL Det thenQ blockQ
theorem tmod_turn {m : Nat} (h : Gf.Is m) (n : Int) : (0 ≤ n.tmod (Gf.sz m : Int) ∧ n.tmod (Gf.sz m : Int) = (turn m n : Int)) ∨ (n.tmod (Gf.sz m : Int) < 0 ∧ n.tmod (Gf.sz m : Int) + (Gf.sz m : Int) = (turn m n : Int)) := by
  have hs := Gf.sz_ge h
  have h1 := turn_go2 h n
  have h3 : -(Gf.sz m : Int) < n.tmod (Gf.sz m : Int) ∧ n.tmod (Gf.sz m : Int) < Gf.sz m := by
    have := Int.tmod_lt_of_pos n (show (0 : Int) < Gf.sz m by omega)
    have := Int.lt_tmod_of_pos n (show (0 : Int) < Gf.sz m by omega)
    omega
  rcases Int.lt_or_le (n.tmod (Gf.sz m : Int)) 0 with h5 | h5
  · right
    rw [Int.emod_eq_of_lt (by omega) (by omega)] at h1
    exact ⟨h5, h1⟩
  · left
    rw [Int.add_emod_right, Int.emod_eq_of_lt (by omega) (by omega)] at h1
    exact ⟨h5, h1⟩
section
variable {w : World} {m : Nat}
theorem refTurn_any (h : Gf.Is m) (z : Int) (w : World) : Calls Try.prog 48 #[.int .i64 (m : Int), .int .i64 z] w fun x w' => x = .returned (.int .i64 (turn m z : Int)) ∧ w = w' := by
  obtain ⟨e1, e2, e3⟩ := shl_sz h
  have hlo := h.lo
  have hhi := h.hi
  have hs3 := Gf.sz_ge h
  have ht := tmod_turn h z
  have htl := turn_lt h z
  (refine calls_of (P := Try.prog) _ Try.func48 rfl Try.ntmps48 (Nat.le_of_ble_eq_true rfl) ?_; dsimp only [argE, Nat.reduceAdd])
  (refine Reach.walk ?_; (repeat (first | ((with_reducible refine AllSt.mk ?_); (try clear hS); intro w hS) | ((with_reducible refine AllVw.mk ?_); intro V hV))))
  rw [show 1 <<< m - 1 = Gf.sz m by omega]
  refine WpL.det rfl (Det.remW rfl rfl (by omega)) ?_
  rcases ht with ⟨h1, h2⟩ | ⟨h1, h2⟩
  · (refine Reach.walk ?_; (repeat (first | ((with_reducible refine AllSt.mk ?_); (try clear hS); intro w hS) | ((with_reducible refine AllVw.mk ?_); intro V hV))))
    (with_reducible apply doneQ_one Try.results48); (· exact slotFound)
    exact ⟨by rw [h2], rfl⟩
  · (refine Reach.walk ?_; (repeat (first | ((with_reducible refine AllSt.mk ?_); (try clear hS); intro w hS) | ((with_reducible refine AllVw.mk ?_); intro V hV))))
    (with_reducible apply doneQ_one Try.results48); (· exact slotFound)
    exact ⟨by rw [h2], rfl⟩
theorem refExp0_any (h : Gf.Is m) (n : Nat) (hn : n ≤ 8192) (w : World) : Calls Try.prog 49 #[.int .i64 (m : Int), .int .i64 (n : Int)] w fun x w' => x = .returned (.int .i64 (Gf.E m n : Int)) ∧ w = w' := by
  (refine calls_of (P := Try.prog) _ Try.func49 rfl Try.ntmps49 (Nat.le_of_ble_eq_true rfl) ?_; dsimp only [argE, Nat.reduceAdd])
  (refine Reach.walk ?_; (repeat (first | ((with_reducible refine AllSt.mk ?_); (try clear hS); intro w hS) | ((with_reducible refine AllVw.mk ?_); intro V hV))))
  apply Wp.loopUp n (fun k e w' => w' = w ∧ e.Has [(6, .int .i64 (k : Nat)), (5, .int .i64 (Gf.E m k : Nat)), (0, .int .i64 (m : Nat)), (1, .int .i64 (n : Nat))]) (Nat.zero_le n)
    ⟨rfl, rfl, rfl, rfl, rfl, trivial⟩
  rintro k e w1 hk ⟨rfl, he⟩
  obtain ⟨e0, rfl⟩ := he.eq
  clear he
  dsimp only [Env.sets]
  by_cases hlt : k < n
  · have hE := Gf.E_lt h k
    have h2 : 2 < 2 ^ m := by have := Gf.sz_ge h; have := Gf.sz_add h; omega
    (refine Reach.walk ?_; (repeat (first | ((with_reducible refine AllSt.mk ?_); (try clear hS); intro w hS) | ((with_reducible refine AllVw.mk ?_); intro V hV))))
    (with_reducible apply WpL.call); (· exact rfl); (· exact Try.call31); (· exact Vals.found)
    refine (refMul_any h _ _ w1).mono ?_
    rintro x w2 ⟨rfl, rfl⟩
    refine ⟨_, rfl, ?_⟩
    rw [inE_nat h hE, show (2 : Int) = ((2 : Nat) : Int) from rfl, inE_nat h h2, Gf.mul_root h hE]
    (refine Reach.walk ?_; (repeat (first | ((with_reducible refine AllSt.mk ?_); (try clear hS); intro w hS) | ((with_reducible refine AllVw.mk ?_); intro V hV))))
    exact ⟨hlt, rfl, int_eq (by omega), rfl, rfl, rfl, trivial⟩
  · obtain rfl : k = n := by omega
    (refine Reach.walk ?_; (repeat (first | ((with_reducible refine AllSt.mk ?_); (try clear hS); intro w hS) | ((with_reducible refine AllVw.mk ?_); intro V hV))))
    (with_reducible apply doneQ_one Try.results49); (· exact slotFound)
    exact ⟨rfl, rfl⟩
theorem refExp_any (h : Gf.Is m) (z : Int) (w : World) : Calls Try.prog 37 #[.int .i64 (m : Int), .int .i64 z] w fun x w' => x = .returned (.int .i64 (Gf.E m (turn m z) : Int)) ∧ w = w' := by
  have htl := turn_lt h z
  have hs2 := Gf.sz_le h
  (refine calls_of (P := Try.prog) _ Try.func37 rfl Try.ntmps37 (Nat.le_of_ble_eq_true rfl) ?_; dsimp only [argE, Nat.reduceAdd])
  (refine Reach.walk ?_; (repeat (first | ((with_reducible refine AllSt.mk ?_); (try clear hS); intro w hS) | ((with_reducible refine AllVw.mk ?_); intro V hV))))
  (with_reducible apply WpL.call); (· exact rfl); (· exact Try.call48); (· exact Vals.found)
  refine (refTurn_any h z w).mono ?_
  rintro x w1 ⟨rfl, rfl⟩
  refine ⟨_, rfl, ?_⟩
  (refine Reach.walk ?_; (repeat (first | ((with_reducible refine AllSt.mk ?_); (try clear hS); intro w hS) | ((with_reducible refine AllVw.mk ?_); intro V hV))))
  (with_reducible apply WpL.call); (· exact rfl); (· exact Try.call49); (· exact Vals.found)
  refine (refExp0_any h _ (by omega) w).mono ?_
  rintro x w1 ⟨rfl, rfl⟩
  refine ⟨_, rfl, ?_⟩
  (refine Reach.walk ?_; (repeat (first | ((with_reducible refine AllSt.mk ?_); (try clear hS); intro w hS) | ((with_reducible refine AllVw.mk ?_); intro V hV))))
  (with_reducible apply doneQ_one Try.results37); (· exact slotFound)
  exact ⟨rfl, rfl⟩
theorem refLog_any (h : Gf.Is m) (z : Int) (w : World) : Calls Try.prog 36 #[.int .i64 (m : Int), .int .i64 z] w fun x w' => x = .returned (.int .i64 (logZ m z)) ∧ w = w' := by
  have ha := inE_lt h z
  have hs2 := Gf.sz_le h
  unfold logZ
  (refine calls_of (P := Try.prog) _ Try.func36 rfl Try.ntmps36 (Nat.le_of_ble_eq_true rfl) ?_; dsimp only [argE, Nat.reduceAdd])
  (refine Reach.walk ?_; (repeat (first | ((with_reducible refine AllSt.mk ?_); (try clear hS); intro w hS) | ((with_reducible refine AllVw.mk ?_); intro V hV))))
  (with_reducible apply WpL.call); (· exact rfl); (· exact Try.call30); (· exact Vals.found)
  refine (refIn_any h z w).mono ?_
  rintro x w1 ⟨rfl, rfl⟩
  refine ⟨_, rfl, ?_⟩
  generalize inE m z = a at *
  by_cases h0 : a = 0
  · subst h0
    (refine Reach.walk ?_; (repeat (first | ((with_reducible refine AllSt.mk ?_); (try clear hS); intro w hS) | ((with_reducible refine AllVw.mk ?_); intro V hV))))
    (with_reducible apply doneQ_one Try.results36); (· exact slotFound)
    exact ⟨rfl, rfl⟩
  rw [if_neg h0]
  have hla := Gf.lg_spec h h0 ha
  (refine Reach.walk ?_; (repeat (first | ((with_reducible refine AllSt.mk ?_); (try clear hS); intro w hS) | ((with_reducible refine AllVw.mk ?_); intro V hV))))
  apply Wp.loopUp (Gf.lg m a) (fun k e w' => w' = w ∧ e.Has [(6, .int .i64 (k : Nat)), (5, .int .i64 (Gf.E m k : Nat)), (0, .int .i64 (m : Nat)), (1, .int .i64 (a : Nat))]) (Nat.zero_le _)
    ⟨rfl, rfl, rfl, rfl, rfl, trivial⟩
  rintro k e w1 hk ⟨rfl, he⟩
  obtain ⟨e0, rfl⟩ := he.eq
  clear he
  dsimp only [Env.sets]
  by_cases hlt : k < Gf.lg m a
  · have hE := Gf.E_lt h k
    have h2 : 2 < 2 ^ m := by have := Gf.sz_ge h; have := Gf.sz_add h; omega
    have hne : (Gf.E m k : Int) ≠ (a : Int) := fun he => by
      have : Gf.E m k = Gf.E m (Gf.lg m a) := by rw [hla.2]; omega
      have := Gf.E_inj h (by omega) hla.1 this
      omega
    (refine Reach.walk ?_; (repeat (first | ((with_reducible refine AllSt.mk ?_); (try clear hS); intro w hS) | ((with_reducible refine AllVw.mk ?_); intro V hV))))
    (with_reducible apply WpL.call); (· exact rfl); (· exact Try.call31); (· exact Vals.found)
    refine (refMul_any h _ _ w1).mono ?_
    rintro x w2 ⟨rfl, rfl⟩
    refine ⟨_, rfl, ?_⟩
    rw [inE_nat h hE, show (2 : Int) = ((2 : Nat) : Int) from rfl, inE_nat h h2, Gf.mul_root h hE]
    (refine Reach.walk ?_; (repeat (first | ((with_reducible refine AllSt.mk ?_); (try clear hS); intro w hS) | ((with_reducible refine AllVw.mk ?_); intro V hV))))
    exact ⟨hlt, rfl, int_eq (by omega), rfl, rfl, rfl, trivial⟩
  · obtain rfl : k = Gf.lg m a := by omega
    have heq : ¬ (Gf.E m (Gf.lg m a) : Int) ≠ (a : Int) := fun hn => hn (by rw [hla.2])
    (refine Reach.walk ?_; (repeat (first | ((with_reducible refine AllSt.mk ?_); (try clear hS); intro w hS) | ((with_reducible refine AllVw.mk ?_); intro V hV))))
    (with_reducible apply doneQ_one Try.results36); (· exact slotFound)
    exact ⟨rfl, rfl⟩
theorem refInv_any (h : Gf.Is m) (z : Int) (w : World) : Calls Try.prog 32 #[.int .i64 (m : Int), .int .i64 z] w fun x w' => x = .returned (.int .i64 (Gf.inv m (inE m z) : Int)) ∧ w = w' := by
  have ha := inE_lt h z
  have hs2 := Gf.sz_le h
  have hhi := h.hi
  (refine calls_of (P := Try.prog) _ Try.func32 rfl Try.ntmps32 (Nat.le_of_ble_eq_true rfl) ?_; dsimp only [argE, Nat.reduceAdd])
  (refine Reach.walk ?_; (repeat (first | ((with_reducible refine AllSt.mk ?_); (try clear hS); intro w hS) | ((with_reducible refine AllVw.mk ?_); intro V hV))))
  (with_reducible apply WpL.call); (· exact rfl); (· exact Try.call30); (· exact Vals.found)
  refine (refIn_any h z w).mono ?_
  rintro x w1 ⟨rfl, rfl⟩
  refine ⟨_, rfl, ?_⟩
  generalize inE m z = a at *
  by_cases h0 : a = 0
  · subst h0
    (refine Reach.walk ?_; (repeat (first | ((with_reducible refine AllSt.mk ?_); (try clear hS); intro w hS) | ((with_reducible refine AllVw.mk ?_); intro V hV))))
    (with_reducible apply doneQ_one Try.results32); (· exact slotFound)
    exact ⟨rfl, rfl⟩
  have hlo := h.lo
  have hp1 : Gf.pown m a (2 ^ 0) = a := Gf.one_mul h ha
  (refine Reach.walk ?_; (repeat (first | ((with_reducible refine AllSt.mk ?_); (try clear hS); intro w hS) | ((with_reducible refine AllVw.mk ?_); intro V hV))))
  apply Wp.loopUp m (fun k e w' => w' = w ∧ 1 ≤ k ∧ e.Has [(6, .int .i64 (k : Nat)), (5, .int .i64 (Gf.pown m a (2 ^ k - 2) : Nat)), (0, .int .i64 (m : Nat)), (1, .int .i64 (Gf.pown m a (2 ^ (k - 1)) : Nat))]) (k0 := 1) (by omega)
    ⟨rfl, Nat.le_refl _, rfl, rfl, rfl, int_eq (by rw [hp1]), trivial⟩
  rintro k e w1 hk ⟨rfl, hk1, he⟩
  obtain ⟨e0, rfl⟩ := he.eq
  clear he
  dsimp only [Env.sets]
  by_cases hlt : k < m
  · obtain ⟨j, rfl⟩ : ∃ j, k = j + 1 := ⟨k - 1, by omega⟩
    obtain ⟨hst1, hst2⟩ := Gf.inv_step h ha j
    have hl1 := Gf.pown_lt h ha (2 ^ j)
    have hl2 := Gf.pown_lt h ha (2 ^ (j + 1))
    have hl3 := Gf.pown_lt h ha (2 ^ (j + 1) - 2)
    (refine Reach.walk ?_; (repeat (first | ((with_reducible refine AllSt.mk ?_); (try clear hS); intro w hS) | ((with_reducible refine AllVw.mk ?_); intro V hV))))
    (with_reducible apply WpL.call); (· exact rfl); (· exact Try.call31); (· exact Vals.found)
    refine (refMul_any h _ _ w1).mono ?_
    rintro x w2 ⟨rfl, rfl⟩
    refine ⟨_, rfl, ?_⟩
    rw [show j + 1 - 1 = j from rfl, inE_nat h hl1, hst1]
    (refine Reach.walk ?_; (repeat (first | ((with_reducible refine AllSt.mk ?_); (try clear hS); intro w hS) | ((with_reducible refine AllVw.mk ?_); intro V hV))))
    (with_reducible apply WpL.call); (· exact rfl); (· exact Try.call31); (· exact Vals.found)
    refine (refMul_any h _ _ w1).mono ?_
    rintro x w2 ⟨rfl, rfl⟩
    refine ⟨_, rfl, ?_⟩
    rw [inE_nat h hl3, inE_nat h hl2, hst2]
    (refine Reach.walk ?_; (repeat (first | ((with_reducible refine AllSt.mk ?_); (try clear hS); intro w hS) | ((with_reducible refine AllVw.mk ?_); intro V hV))))
    exact ⟨hlt, rfl, by omega, int_eq (by omega), rfl, rfl, rfl, trivial⟩
  · obtain rfl : k = m := by omega
    (refine Reach.walk ?_; (repeat (first | ((with_reducible refine AllSt.mk ?_); (try clear hS); intro w hS) | ((with_reducible refine AllVw.mk ?_); intro V hV))))
    (with_reducible apply doneQ_one Try.results32); (· exact slotFound)
    exact ⟨by rw [Gf.inv_pown h h0 ha], rfl⟩
theorem refPow_any (h : Gf.Is m) (z n : Int) (w : World) : Calls Try.prog 34 #[.int .i64 (m : Int), .int .i64 z, .int .i64 n] w fun x w' => x = .returned (.int .i64 (powZ m z n : Int)) ∧ w = w' := by
  have ha := inE_lt h z
  unfold powZ
  (refine calls_of (P := Try.prog) _ Try.func34 rfl Try.ntmps34 (Nat.le_of_ble_eq_true rfl) ?_; dsimp only [argE, Nat.reduceAdd])
  (refine Reach.walk ?_; (repeat (first | ((with_reducible refine AllSt.mk ?_); (try clear hS); intro w hS) | ((with_reducible refine AllVw.mk ?_); intro V hV))))
  (with_reducible apply WpL.call); (· exact rfl); (· exact Try.call30); (· exact Vals.found)
  refine (refIn_any h z w).mono ?_
  rintro x w1 ⟨rfl, rfl⟩
  refine ⟨_, rfl, ?_⟩
  generalize inE m z = a at *
  by_cases hn0 : n = 0
  · subst hn0
    (refine Reach.walk ?_; (repeat (first | ((with_reducible refine AllSt.mk ?_); (try clear hS); intro w hS) | ((with_reducible refine AllVw.mk ?_); intro V hV))))
    (with_reducible apply doneQ_one Try.results34); (· exact slotFound)
    exact ⟨rfl, rfl⟩
  rw [if_neg hn0]
  by_cases h0 : a = 0
  · subst h0
    (refine Reach.walk ?_; (repeat (first | ((with_reducible refine AllSt.mk ?_); (try clear hS); intro w hS) | ((with_reducible refine AllVw.mk ?_); intro V hV))))
    (with_reducible apply doneQ_one Try.results34); (· exact slotFound)
    exact ⟨rfl, rfl⟩
  rw [if_neg h0]
  have htl := turn_lt h n
  have hs2 := Gf.sz_le h
  (refine Reach.walk ?_; (repeat (first | ((with_reducible refine AllSt.mk ?_); (try clear hS); intro w hS) | ((with_reducible refine AllVw.mk ?_); intro V hV))))
  (with_reducible apply WpL.call); (· exact rfl); (· exact Try.call48); (· exact Vals.found)
  refine (refTurn_any h n w).mono ?_
  rintro x w1 ⟨rfl, rfl⟩
  refine ⟨_, rfl, ?_⟩
  (refine Reach.walk ?_; (repeat (first | ((with_reducible refine AllSt.mk ?_); (try clear hS); intro w hS) | ((with_reducible refine AllVw.mk ?_); intro V hV))))
  generalize turn m n = t at *
  refine Wp.loopG (fun j e w' => ∃ a' x', w' = w ∧ j ≤ t ∧ a' < 2 ^ m ∧ x' < 2 ^ m ∧ Gf.mul m x' (Gf.pown m a' j) = Gf.pown m a t ∧ e.Has [(7, .int .i64 (j : Nat)), (8, .int .i64 (x' : Nat)), (0, .int .i64 (m : Nat)), (1, .int .i64 (a' : Nat))]) ⟨a, 1, rfl, Nat.le_refl _, ha, Gf.one_lt h, Gf.one_mul h (Gf.pown_lt h ha t), rfl, rfl, rfl, rfl, trivial⟩ ?_
  rintro j e w1 ⟨a', x', rfl, hjt, ha', hx', hinv, he⟩
  obtain ⟨e0, rfl⟩ := he.eq
  clear he
  dsimp only [Env.sets]
  by_cases hj : j = 0
  · subst hj
    have hfin : x' = Gf.pown m a t := by rw [← hinv]; exact (Gf.mul_one h x').symm
    (refine Reach.walk ?_; (repeat (first | ((with_reducible refine AllSt.mk ?_); (try clear hS); intro w hS) | ((with_reducible refine AllVw.mk ?_); intro V hV))))
    (with_reducible apply doneQ_one Try.results34); (· exact slotFound)
    exact ⟨by rw [hfin], rfl⟩
  have hst := Gf.pow_step h (k := j) ha' hx'
  by_cases hodd : j % 2 = 1
  · rw [if_pos hodd] at hst
    (refine Reach.walk ?_; (repeat (first | ((with_reducible refine AllSt.mk ?_); (try clear hS); intro w hS) | ((with_reducible refine AllVw.mk ?_); intro V hV))))
    (with_reducible apply WpL.call); (· exact rfl); (· exact Try.call31); (· exact Vals.found)
    refine (refMul_any h _ _ w1).mono ?_
    rintro x w2 ⟨rfl, rfl⟩
    refine ⟨_, rfl, ?_⟩
    rw [inE_nat h hx', inE_nat h ha']
    (refine Reach.walk ?_; (repeat (first | ((with_reducible refine AllSt.mk ?_); (try clear hS); intro w hS) | ((with_reducible refine AllVw.mk ?_); intro V hV))))
    (with_reducible apply WpL.call); (· exact rfl); (· exact Try.call31); (· exact Vals.found)
    refine (refMul_any h _ _ w1).mono ?_
    rintro x w2 ⟨rfl, rfl⟩
    refine ⟨_, rfl, ?_⟩
    rw [inE_nat h ha']
    (refine Reach.walk ?_; (repeat (first | ((with_reducible refine AllSt.mk ?_); (try clear hS); intro w hS) | ((with_reducible refine AllVw.mk ?_); intro V hV))))
    exact ⟨j / 2, by omega, _, _, rfl, by omega, Gf.mul_lt h ha', Gf.mul_lt h hx', hst.trans hinv, rfl, rfl, rfl, rfl, trivial⟩
  · rw [if_neg hodd] at hst
    (refine Reach.walk ?_; (repeat (first | ((with_reducible refine AllSt.mk ?_); (try clear hS); intro w hS) | ((with_reducible refine AllVw.mk ?_); intro V hV))))
    (with_reducible apply WpL.call); (· exact rfl); (· exact Try.call31); (· exact Vals.found)
    refine (refMul_any h _ _ w1).mono ?_
    rintro x w2 ⟨rfl, rfl⟩
    refine ⟨_, rfl, ?_⟩
    rw [inE_nat h ha']
    (refine Reach.walk ?_; (repeat (first | ((with_reducible refine AllSt.mk ?_); (try clear hS); intro w hS) | ((with_reducible refine AllVw.mk ?_); intro V hV))))
    exact ⟨j / 2, by omega, _, _, rfl, by omega, Gf.mul_lt h ha', hx', hst.trans hinv, rfl, rfl, rfl, rfl, trivial⟩
end
end Go.Proofs.Ytkffgdccjgdiaaa
