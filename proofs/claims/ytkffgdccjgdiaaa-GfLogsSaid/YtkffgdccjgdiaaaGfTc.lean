/-
  Logarithms and powers.
-/
import Derived.Test.YtkffgdccjgdiaaaGfT
namespace Go.Proofs.Ytkffgdccjgdiaaa
open Go.Fk Go.RowKit
attribute [local irreducible] Wp WpL Det thenQ blockQ
theorem tmod_small {z : Int} (k : Int) (hk : 0 < k) : -k < z.tmod k ∧ z.tmod k < k := ⟨Int.lt_tmod_of_pos z hk, Int.tmod_lt_of_pos z hk⟩
theorem turn_add {m : Nat} (h : Gf.Is m) (n k : Int) : turn m (n + k) = (turn m n + turn m k) % Gf.sz m := by
  have hs := Gf.sz_ge h
  have h1 := Int.emod_nonneg n (show (Gf.sz m : Int) ≠ 0 by omega)
  have h2 := Int.emod_nonneg k (show (Gf.sz m : Int) ≠ 0 by omega)
  have h3 := Int.emod_nonneg (n + k) (show (Gf.sz m : Int) ≠ 0 by omega)
  apply Int.ofNat_inj.1
  rw [Int.natCast_emod, Int.natCast_add]
  unfold turn
  rw [Int.toNat_of_nonneg h1, Int.toNat_of_nonneg h2, Int.toNat_of_nonneg h3, ← Int.add_emod]
theorem powZ_ne {m : Nat} {z n : Int} (hA : inE m z ≠ 0) : powZ m z n = Gf.pown m (inE m z) (turn m n) := by
  unfold powZ
  by_cases hn : n = 0
  · subst hn
    rw [if_pos rfl, show turn m 0 = 0 by simp [turn]]; rfl
  · rw [if_neg hn, if_neg hA]
theorem pown_mod {m : Nat} (h : Gf.Is m) {a : Nat} (h0 : a ≠ 0) (ha : a < 2 ^ m) (k : Nat) : Gf.pown m a (k % Gf.sz m) = Gf.pown m a k := by
  rw [Gf.pown_lg h h0 ha, Gf.pown_lg h h0 ha, Gf.E_mod h (Gf.lg m a * k), Gf.E_mod h (Gf.lg m a * (k % Gf.sz m)), Nat.mul_mod_mod]

set_option maxHeartbeats 8000000 in
theorem gfLogs_any {c a b n k : Int} (hc : I64 c) (W : World) : Calls Try.prog 9 #[.int .i64 c, .int .i64 a, .int .i64 b, .int .i64 n, .int .i64 k] W fun x w' => x = .returned (.bool true) ∧ Below W.heap.size W w' := by
  (refine calls_of (P := Try.prog) _ Try.func9 rfl Try.ntmps9 (Nat.le_of_ble_eq_true rfl) ?_; dsimp only [argE, Nat.reduceAdd])
  (refine Reach.walk ?_; (repeat (first | ((with_reducible refine AllSt.mk ?_); (try clear hS); intro w hS) | ((with_reducible refine AllVw.mk ?_); intro V hV))))
  (with_reducible apply WpL.call); (· exact rfl); (· exact Try.call14); (· exact Vals.found)
  refine (awake_any (St.start W)).mono ?_
  rintro x w ⟨rfl, hS⟩
  refine ⟨_, rfl, ?_⟩
  (refine Reach.walk ?_; (repeat (first | ((with_reducible refine AllSt.mk ?_); (try clear hS); intro w hS) | ((with_reducible refine AllVw.mk ?_); intro V hV))))
  (with_reducible apply WpL.call); (· exact rfl); (· exact Try.call15); (· exact Vals.found)
  refine (field_any hc hS).mono ?_
  clear hS
  rintro x w ⟨g, rfl, hI⟩
  refine ⟨_, rfl, ?_⟩
  have h := pickM_is c
  generalize pickM c = m at *
  have hs2 := Gf.sz_le h
  have hs3 := Gf.sz_ge h
  have hsa := Gf.sz_add h
  have hal := inE_lt h a
  have hbl := inE_lt h b
  have h0 : inE m 0 = 0 := inE_nat h (a := 0) (Nat.two_pow_pos m)
  have hn := tmod_small (z := n) 100000 (by decide)
  have hk := tmod_small (z := k) 100000 (by decide)
  (refine Reach.walk ?_; (repeat (first | ((with_reducible refine AllSt.mk ?_); (try clear hS); intro w hS) | ((with_reducible refine AllVw.mk ?_); intro V hV))))
  refine WpL.det rfl (Det.remW rfl rfl (by decide)) ?_
  (refine Reach.walk ?_; (repeat (first | ((with_reducible refine AllSt.mk ?_); (try clear hS); intro w hS) | ((with_reducible refine AllVw.mk ?_); intro V hV))))
  refine WpL.det rfl (Det.remW rfl rfl (by decide)) ?_
  (refine Reach.walk ?_; (repeat (first | ((with_reducible refine AllSt.mk ?_); (try clear hS); intro w hS) | ((with_reducible refine AllVw.mk ?_); intro V hV))))
  generalize Int.tmod n 100000 = n' at *
  generalize Int.tmod k 100000 = k' at *
  have hta := turn_add h n' k'
  have hEn := Gf.E_lt h (turn m n')
  have hEk := Gf.E_lt h (turn m k')
  have hEm : Gf.mul m (Gf.E m (turn m n')) (Gf.E m (turn m k')) = Gf.E m (turn m (n' + k')) := by rw [Gf.E_mul h, hta, ← Gf.E_mod h]
  ((with_reducible apply WpL.call); (· exact rfl); (· exact Try.call22); (· exact Vals.found)); (refine (expF h rfl (by unfold I64; omega) hI).mono ?_); clear hI; rintro x w ⟨rfl, hI⟩; (refine ⟨_, rfl, ?_⟩)
  (refine Reach.walk ?_; (repeat (first | ((with_reducible refine AllSt.mk ?_); (try clear hS); intro w hS) | ((with_reducible refine AllVw.mk ?_); intro V hV))))
  ((with_reducible apply WpL.call); (· exact rfl); (· exact Try.call22); (· exact Vals.found)); (refine (expF h rfl (by unfold I64; omega) hI).mono ?_); clear hI; rintro x w ⟨rfl, hI⟩; (refine ⟨_, rfl, ?_⟩)
  (refine Reach.walk ?_; (repeat (first | ((with_reducible refine AllSt.mk ?_); (try clear hS); intro w hS) | ((with_reducible refine AllVw.mk ?_); intro V hV))))
  ((with_reducible apply WpL.call); (· exact rfl); (· exact Try.call22); (· exact Vals.found)); (refine (expF h rfl (by unfold I64; omega) hI).mono ?_); clear hI; rintro x w ⟨rfl, hI⟩; (refine ⟨_, rfl, ?_⟩)
  (refine Reach.walk ?_; (repeat (first | ((with_reducible refine AllSt.mk ?_); (try clear hS); intro w hS) | ((with_reducible refine AllVw.mk ?_); intro V hV))))
  ((with_reducible apply WpL.call); (· exact rfl); (· exact Try.call23); (· exact Vals.found)); (refine (mulF h (inE_nat h hEn) (inE_nat h hEk) hI).mono ?_); clear hI; rintro x w ⟨rfl, hI⟩; (refine ⟨_, rfl, ?_⟩)
  rw [hEm]
  have hEnk := Gf.E_lt h (turn m (n' + k'))
  generalize Gf.E m (turn m (n' + k')) = Enk at *
  clear hEm hEn hEk
  generalize hA : inE m a = A at *
  generalize hB : inE m b = B at *
  (refine Reach.walk ?_; (repeat (first | ((with_reducible refine AllSt.mk ?_); (try clear hS); intro w hS) | ((with_reducible refine AllVw.mk ?_); intro V hV))))
  ((with_reducible apply WpL.call); (· exact rfl); (· exact Try.call24); (· exact Vals.found)); (refine (addF h hA h0 hI).mono ?_); clear hI; rintro x w ⟨rfl, hI⟩; (refine ⟨_, rfl, ?_⟩)
  rw [Nat.xor_zero]
  by_cases hA0 : A = 0
  · (refine Reach.walk ?_; (repeat (first | ((with_reducible refine AllSt.mk ?_); (try clear hS); intro w hS) | ((with_reducible refine AllVw.mk ?_); intro V hV))))
    (with_reducible apply doneQ_one Try.results9); (· exact slotFound)
    exact ⟨rfl, hI.toBelow⟩
  (refine Reach.walk ?_; (repeat (first | ((with_reducible refine AllSt.mk ?_); (try clear hS); intro w hS) | ((with_reducible refine AllVw.mk ?_); intro V hV))))
  ((with_reducible apply WpL.call); (· exact rfl); (· exact Try.call24); (· exact Vals.found)); (refine (addF h hB h0 hI).mono ?_); clear hI; rintro x w ⟨rfl, hI⟩; (refine ⟨_, rfl, ?_⟩)
  rw [Nat.xor_zero]
  by_cases hB0 : B = 0
  · (refine Reach.walk ?_; (repeat (first | ((with_reducible refine AllSt.mk ?_); (try clear hS); intro w hS) | ((with_reducible refine AllVw.mk ?_); intro V hV))))
    (with_reducible apply doneQ_one Try.results9); (· exact slotFound)
    exact ⟨rfl, hI.toBelow⟩
  have hAB := Gf.mul_lt h (b := B) hal
  have hAB0 := Gf.mul_ne h hA0 hal hB0 hbl
  obtain ⟨hlA, hEA⟩ := Gf.lg_spec h hA0 hal
  obtain ⟨hlB, hEB⟩ := Gf.lg_spec h hB0 hbl
  have hlm := Gf.lg_mul h hA0 hal hB0 hbl
  have z1 : logZ m ((Gf.mul m A B : Nat) : Int) = ((Gf.lg m A + Gf.lg m B) % Gf.sz m : Nat) := by rw [logZ, inE_nat h hAB, if_neg hAB0, hlm]
  have z2 : logZ m a = (Gf.lg m A : Nat) := by rw [logZ, hA, if_neg hA0]
  have z3 : logZ m b = (Gf.lg m B : Nat) := by rw [logZ, hB, if_neg hB0]
  have hp1 : powZ m a (n' + k') = Gf.pown m A (turn m (n' + k')) := by rw [powZ_ne (by rw [hA]; exact hA0), hA]
  have hp2 : powZ m a n' = Gf.pown m A (turn m n') := by rw [powZ_ne (by rw [hA]; exact hA0), hA]
  have hp3 : powZ m a k' = Gf.pown m A (turn m k') := by rw [powZ_ne (by rw [hA]; exact hA0), hA]
  have hp : Gf.mul m (Gf.pown m A (turn m n')) (Gf.pown m A (turn m k')) = Gf.pown m A (turn m (n' + k')) := by rw [← Gf.pown_add h hal, hta, pown_mod h hA0 hal]
  have hl2 := Gf.pown_lt h hal (turn m n')
  have hl3 := Gf.pown_lt h hal (turn m k')
  have hl1 := Gf.pown_lt h hal (turn m (n' + k'))
  have hte : Gf.E m (turn m ((Gf.lg m A : Nat) : Int)) = A := by rw [turn_self hlA, hEA]
  generalize hml : (Gf.lg m A + Gf.lg m B) % Gf.sz m = lAB at *
  have hmlt : lAB < Gf.sz m := by rw [← hml]; exact Nat.mod_lt _ (by omega)
  (refine Reach.walk ?_; (repeat (first | ((with_reducible refine AllSt.mk ?_); (try clear hS); intro w hS) | ((with_reducible refine AllVw.mk ?_); intro V hV))))
  ((with_reducible apply WpL.call); (· exact rfl); (· exact Try.call23); (· exact Vals.found)); (refine (mulF h hA hB hI).mono ?_); clear hI; rintro x w ⟨rfl, hI⟩; (refine ⟨_, rfl, ?_⟩)
  (refine Reach.walk ?_; (repeat (first | ((with_reducible refine AllSt.mk ?_); (try clear hS); intro w hS) | ((with_reducible refine AllVw.mk ?_); intro V hV))))
  ((with_reducible apply WpL.call); (· exact rfl); (· exact Try.call35); (· exact Vals.found)); (refine (logF h z1 hI).mono ?_); clear hI; rintro x w ⟨rfl, hI⟩; (refine ⟨_, rfl, ?_⟩)
  (refine Reach.walk ?_; (repeat (first | ((with_reducible refine AllSt.mk ?_); (try clear hS); intro w hS) | ((with_reducible refine AllVw.mk ?_); intro V hV))))
  ((with_reducible apply WpL.call); (· exact rfl); (· exact Try.call35); (· exact Vals.found)); (refine (logF h z2 hI).mono ?_); clear hI; rintro x w ⟨rfl, hI⟩; (refine ⟨_, rfl, ?_⟩)
  (refine Reach.walk ?_; (repeat (first | ((with_reducible refine AllSt.mk ?_); (try clear hS); intro w hS) | ((with_reducible refine AllVw.mk ?_); intro V hV))))
  ((with_reducible apply WpL.call); (· exact rfl); (· exact Try.call35); (· exact Vals.found)); (refine (logF h z3 hI).mono ?_); clear hI; rintro x w ⟨rfl, hI⟩; (refine ⟨_, rfl, ?_⟩)
  (refine Reach.walk ?_; (repeat (first | ((with_reducible refine AllSt.mk ?_); (try clear hS); intro w hS) | ((with_reducible refine AllVw.mk ?_); intro V hV))))
  ((with_reducible apply WpL.call); (· exact rfl); (· exact Try.call21); (· exact Vals.found)); (refine (sizeF h hI).mono ?_); clear hI; rintro x w ⟨rfl, hI⟩; (refine ⟨_, rfl, ?_⟩)
  have q1 : decide ((lAB : Int) = (((Gf.lg m A + Gf.lg m B) % Gf.sz m : Nat) : Int)) = true := decide_eq_true (by rw [hml])
  (refine Reach.walk ?_; (repeat (first | ((with_reducible refine AllSt.mk ?_); (try clear hS); intro w hS) | ((with_reducible refine AllVw.mk ?_); intro V hV))))
  rw [hml] at *
  have q2 : decide ((lAB : Int) = (lAB : Int)) = true := decide_eq_true rfl
  (refine Reach.walk ?_; (repeat (first | ((with_reducible refine AllSt.mk ?_); (try clear hS); intro w hS) | ((with_reducible refine AllVw.mk ?_); intro V hV))))
  ((with_reducible apply WpL.call); (· exact rfl); (· exact Try.call35); (· exact Vals.found)); (refine (logF h z2 hI).mono ?_); clear hI; rintro x w ⟨rfl, hI⟩; (refine ⟨_, rfl, ?_⟩)
  (refine Reach.walk ?_; (repeat (first | ((with_reducible refine AllSt.mk ?_); (try clear hS); intro w hS) | ((with_reducible refine AllVw.mk ?_); intro V hV))))
  ((with_reducible apply WpL.call); (· exact rfl); (· exact Try.call22); (· exact Vals.found)); (refine (expF h hte (by unfold I64; omega) hI).mono ?_); clear hI; rintro x w ⟨rfl, hI⟩; (refine ⟨_, rfl, ?_⟩)
  (refine Reach.walk ?_; (repeat (first | ((with_reducible refine AllSt.mk ?_); (try clear hS); intro w hS) | ((with_reducible refine AllVw.mk ?_); intro V hV))))
  ((with_reducible apply WpL.call); (· exact rfl); (· exact Try.call24); (· exact Vals.found)); (refine (addF h hA h0 hI).mono ?_); clear hI; rintro x w ⟨rfl, hI⟩; (refine ⟨_, rfl, ?_⟩)
  rw [Nat.xor_zero]
  (refine Reach.walk ?_; (repeat (first | ((with_reducible refine AllSt.mk ?_); (try clear hS); intro w hS) | ((with_reducible refine AllVw.mk ?_); intro V hV))))
  ((with_reducible apply WpL.call); (· exact rfl); (· exact Try.call33); (· exact Vals.found)); (refine (powF h hp1 (by unfold I64; omega) hI).mono ?_); clear hI; rintro x w ⟨rfl, hI⟩; (refine ⟨_, rfl, ?_⟩)
  (refine Reach.walk ?_; (repeat (first | ((with_reducible refine AllSt.mk ?_); (try clear hS); intro w hS) | ((with_reducible refine AllVw.mk ?_); intro V hV))))
  ((with_reducible apply WpL.call); (· exact rfl); (· exact Try.call33); (· exact Vals.found)); (refine (powF h hp2 (by unfold I64; omega) hI).mono ?_); clear hI; rintro x w ⟨rfl, hI⟩; (refine ⟨_, rfl, ?_⟩)
  (refine Reach.walk ?_; (repeat (first | ((with_reducible refine AllSt.mk ?_); (try clear hS); intro w hS) | ((with_reducible refine AllVw.mk ?_); intro V hV))))
  ((with_reducible apply WpL.call); (· exact rfl); (· exact Try.call33); (· exact Vals.found)); (refine (powF h hp3 (by unfold I64; omega) hI).mono ?_); clear hI; rintro x w ⟨rfl, hI⟩; (refine ⟨_, rfl, ?_⟩)
  (refine Reach.walk ?_; (repeat (first | ((with_reducible refine AllSt.mk ?_); (try clear hS); intro w hS) | ((with_reducible refine AllVw.mk ?_); intro V hV))))
  ((with_reducible apply WpL.call); (· exact rfl); (· exact Try.call23); (· exact Vals.found)); (refine (mulF h (inE_nat h hl2) (inE_nat h hl3) hI).mono ?_); clear hI; rintro x w ⟨rfl, hI⟩; (refine ⟨_, rfl, ?_⟩)
  rw [hp]
  (refine Reach.walk ?_; (repeat (first | ((with_reducible refine AllSt.mk ?_); (try clear hS); intro w hS) | ((with_reducible refine AllVw.mk ?_); intro V hV))))
  (with_reducible apply doneQ_one Try.results9); (· exact slotFound)
  exact ⟨by simp, hI.toBelow⟩
end Go.Proofs.Ytkffgdccjgdiaaa
