/-
  A field that is none answers nothing.
-/
import Derived.Test.YtkffgdccjgdiaaaGfT
namespace Go.Proofs.Ytkffgdccjgdiaaa
open Go.Fk Go.RowKit
attribute [local irreducible] Wp WpL Det thenQ blockQ
theorem mN (w : World) : Calls Try.prog 29 #[.pointer none] w fun x w' => x = .returned (.int .i64 0) ∧ w = w' := by
  (refine calls_of (P := Try.prog) _ Try.func29 rfl Try.ntmps29 (Nat.le_of_ble_eq_true rfl) ?_; dsimp only [argE, Nat.reduceAdd])
  (refine Reach.walk ?_; (repeat (first | ((with_reducible refine AllSt.mk ?_); (try clear hS); intro w hS) | ((with_reducible refine AllVw.mk ?_); intro V hV))))
  (with_reducible apply doneQ_one Try.results29); (· exact slotFound)
  exact ⟨rfl, rfl⟩
theorem sizeN (w : World) : Calls Try.prog 21 #[.pointer none] w fun x w' => x = .returned (.int .i64 0) ∧ w = w' := by
  (refine calls_of (P := Try.prog) _ Try.func21 rfl Try.ntmps21 (Nat.le_of_ble_eq_true rfl) ?_; dsimp only [argE, Nat.reduceAdd])
  (refine Reach.walk ?_; (repeat (first | ((with_reducible refine AllSt.mk ?_); (try clear hS); intro w hS) | ((with_reducible refine AllVw.mk ?_); intro V hV))))
  (with_reducible apply doneQ_one Try.results21); (· exact slotFound)
  exact ⟨rfl, rfl⟩
theorem inN (a : Int) (w : World) : Calls Try.prog 45 #[.pointer none, .int .i64 a] w fun x w' => x = .returned (.int .i64 0) ∧ w = w' := by
  (refine calls_of (P := Try.prog) _ Try.func45 rfl Try.ntmps45 (Nat.le_of_ble_eq_true rfl) ?_; dsimp only [argE, Nat.reduceAdd])
  by_cases h0 : a < 0
  · (refine Reach.walk ?_; (repeat (first | ((with_reducible refine AllSt.mk ?_); (try clear hS); intro w hS) | ((with_reducible refine AllVw.mk ?_); intro V hV))))
    (with_reducible apply doneQ_one Try.results45); (· exact slotFound)
    exact ⟨rfl, rfl⟩
  (refine Reach.walk ?_; (repeat (first | ((with_reducible refine AllSt.mk ?_); (try clear hS); intro w hS) | ((with_reducible refine AllVw.mk ?_); intro V hV))))
  (with_reducible apply WpL.call); (· exact rfl); (· exact Try.call21); (· exact Vals.found)
  refine (sizeN _).mono ?_
  rintro x w1 ⟨rfl, rfl⟩
  refine ⟨_, rfl, ?_⟩
  by_cases h1 : 0 < a
  · (refine Reach.walk ?_; (repeat (first | ((with_reducible refine AllSt.mk ?_); (try clear hS); intro w hS) | ((with_reducible refine AllVw.mk ?_); intro V hV))))
    (with_reducible apply doneQ_one Try.results45); (· exact slotFound)
    exact ⟨rfl, rfl⟩
  · obtain rfl : a = 0 := by omega
    (refine Reach.walk ?_; (repeat (first | ((with_reducible refine AllSt.mk ?_); (try clear hS); intro w hS) | ((with_reducible refine AllVw.mk ?_); intro V hV))))
    (with_reducible apply doneQ_one Try.results45); (· exact slotFound)
    exact ⟨rfl, rfl⟩
theorem addN (a : Int)  (b : Int) (w : World) : Calls Try.prog 24 #[.pointer none, .int .i64 a, .int .i64 b] w fun x w' => x = .returned (.int .i64 0) ∧ w = w' := by
  (refine calls_of (P := Try.prog) _ Try.func24 rfl Try.ntmps24 (Nat.le_of_ble_eq_true rfl) ?_; dsimp only [argE, Nat.reduceAdd])
  (refine Reach.walk ?_; (repeat (first | ((with_reducible refine AllSt.mk ?_); (try clear hS); intro w hS) | ((with_reducible refine AllVw.mk ?_); intro V hV))))
  (with_reducible apply WpL.call); (· exact rfl); (· exact Try.call45); (· exact Vals.found)
  refine (inN a _).mono ?_
  rintro x w1 ⟨rfl, rfl⟩
  refine ⟨_, rfl, ?_⟩
  (refine Reach.walk ?_; (repeat (first | ((with_reducible refine AllSt.mk ?_); (try clear hS); intro w hS) | ((with_reducible refine AllVw.mk ?_); intro V hV))))
  (with_reducible apply WpL.call); (· exact rfl); (· exact Try.call45); (· exact Vals.found)
  refine (inN b _).mono ?_
  rintro x w1 ⟨rfl, rfl⟩
  refine ⟨_, rfl, ?_⟩
  (refine Reach.walk ?_; (repeat (first | ((with_reducible refine AllSt.mk ?_); (try clear hS); intro w hS) | ((with_reducible refine AllVw.mk ?_); intro V hV))))
  (with_reducible apply doneQ_one Try.results24); (· exact slotFound)
  exact ⟨rfl, rfl⟩
theorem mulN (a : Int)  (b : Int) (w : World) : Calls Try.prog 23 #[.pointer none, .int .i64 a, .int .i64 b] w fun x w' => x = .returned (.int .i64 0) ∧ w = w' := by
  (refine calls_of (P := Try.prog) _ Try.func23 rfl Try.ntmps23 (Nat.le_of_ble_eq_true rfl) ?_; dsimp only [argE, Nat.reduceAdd])
  (refine Reach.walk ?_; (repeat (first | ((with_reducible refine AllSt.mk ?_); (try clear hS); intro w hS) | ((with_reducible refine AllVw.mk ?_); intro V hV))))
  (with_reducible apply WpL.call); (· exact rfl); (· exact Try.call45); (· exact Vals.found)
  refine (inN a _).mono ?_
  rintro x w1 ⟨rfl, rfl⟩
  refine ⟨_, rfl, ?_⟩
  (refine Reach.walk ?_; (repeat (first | ((with_reducible refine AllSt.mk ?_); (try clear hS); intro w hS) | ((with_reducible refine AllVw.mk ?_); intro V hV))))
  (with_reducible apply WpL.call); (· exact rfl); (· exact Try.call45); (· exact Vals.found)
  refine (inN b _).mono ?_
  rintro x w1 ⟨rfl, rfl⟩
  refine ⟨_, rfl, ?_⟩
  (refine Reach.walk ?_; (repeat (first | ((with_reducible refine AllSt.mk ?_); (try clear hS); intro w hS) | ((with_reducible refine AllVw.mk ?_); intro V hV))))
  (with_reducible apply doneQ_one Try.results23); (· exact slotFound)
  exact ⟨rfl, rfl⟩
theorem invN (a : Int) (w : World) : Calls Try.prog 25 #[.pointer none, .int .i64 a] w fun x w' => x = .returned (.int .i64 0) ∧ w = w' := by
  (refine calls_of (P := Try.prog) _ Try.func25 rfl Try.ntmps25 (Nat.le_of_ble_eq_true rfl) ?_; dsimp only [argE, Nat.reduceAdd])
  (refine Reach.walk ?_; (repeat (first | ((with_reducible refine AllSt.mk ?_); (try clear hS); intro w hS) | ((with_reducible refine AllVw.mk ?_); intro V hV))))
  (with_reducible apply WpL.call); (· exact rfl); (· exact Try.call45); (· exact Vals.found)
  refine (inN a _).mono ?_
  rintro x w1 ⟨rfl, rfl⟩
  refine ⟨_, rfl, ?_⟩
  (refine Reach.walk ?_; (repeat (first | ((with_reducible refine AllSt.mk ?_); (try clear hS); intro w hS) | ((with_reducible refine AllVw.mk ?_); intro V hV))))
  (with_reducible apply doneQ_one Try.results25); (· exact slotFound)
  exact ⟨rfl, rfl⟩
theorem powN (a : Int)  (n : Int) (w : World) : Calls Try.prog 33 #[.pointer none, .int .i64 a, .int .i64 n] w fun x w' => x = .returned (.int .i64 0) ∧ w = w' := by
  (refine calls_of (P := Try.prog) _ Try.func33 rfl Try.ntmps33 (Nat.le_of_ble_eq_true rfl) ?_; dsimp only [argE, Nat.reduceAdd])
  (refine Reach.walk ?_; (repeat (first | ((with_reducible refine AllSt.mk ?_); (try clear hS); intro w hS) | ((with_reducible refine AllVw.mk ?_); intro V hV))))
  (with_reducible apply WpL.call); (· exact rfl); (· exact Try.call45); (· exact Vals.found)
  refine (inN a _).mono ?_
  rintro x w1 ⟨rfl, rfl⟩
  refine ⟨_, rfl, ?_⟩
  (refine Reach.walk ?_; (repeat (first | ((with_reducible refine AllSt.mk ?_); (try clear hS); intro w hS) | ((with_reducible refine AllVw.mk ?_); intro V hV))))
  (with_reducible apply doneQ_one Try.results33); (· exact slotFound)
  exact ⟨rfl, rfl⟩
theorem logN (a : Int) (w : World) : Calls Try.prog 35 #[.pointer none, .int .i64 a] w fun x w' => x = .returned (.int .i64 0) ∧ w = w' := by
  (refine calls_of (P := Try.prog) _ Try.func35 rfl Try.ntmps35 (Nat.le_of_ble_eq_true rfl) ?_; dsimp only [argE, Nat.reduceAdd])
  (refine Reach.walk ?_; (repeat (first | ((with_reducible refine AllSt.mk ?_); (try clear hS); intro w hS) | ((with_reducible refine AllVw.mk ?_); intro V hV))))
  (with_reducible apply WpL.call); (· exact rfl); (· exact Try.call45); (· exact Vals.found)
  refine (inN a _).mono ?_
  rintro x w1 ⟨rfl, rfl⟩
  refine ⟨_, rfl, ?_⟩
  (refine Reach.walk ?_; (repeat (first | ((with_reducible refine AllSt.mk ?_); (try clear hS); intro w hS) | ((with_reducible refine AllVw.mk ?_); intro V hV))))
  (with_reducible apply doneQ_one Try.results35); (· exact slotFound)
  exact ⟨rfl, rfl⟩
theorem expN (n : Int) (w : World) : Calls Try.prog 22 #[.pointer none, .int .i64 n] w fun x w' => x = .returned (.int .i64 0) ∧ w = w' := by
  (refine calls_of (P := Try.prog) _ Try.func22 rfl Try.ntmps22 (Nat.le_of_ble_eq_true rfl) ?_; dsimp only [argE, Nat.reduceAdd])
  (refine Reach.walk ?_; (repeat (first | ((with_reducible refine AllSt.mk ?_); (try clear hS); intro w hS) | ((with_reducible refine AllVw.mk ?_); intro V hV))))
  (with_reducible apply doneQ_one Try.results22); (· exact slotFound)
  exact ⟨rfl, rfl⟩
theorem minimalN (n : Int) (w : World) : Calls Try.prog 19 #[.pointer none, .int .i64 n] w fun x w' => x = .returned (.slice none 0 0) ∧ w = w' := by
  (refine calls_of (P := Try.prog) _ Try.func19 rfl Try.ntmps19 (Nat.le_of_ble_eq_true rfl) ?_; dsimp only [argE, Nat.reduceAdd])
  (refine Reach.walk ?_; (repeat (first | ((with_reducible refine AllSt.mk ?_); (try clear hS); intro w hS) | ((with_reducible refine AllVw.mk ?_); intro V hV))))
  (with_reducible apply doneQ_one Try.results19); (· exact slotFound)
  exact ⟨rfl, rfl⟩
theorem generatorN (n : Int) (w : World) : Calls Try.prog 16 #[.pointer none, .int .i64 n] w fun x w' => x = .returned (.tuple #[.slice none 0 0, .int .i64 1]) ∧ w = w' := by
  (refine calls_of (P := Try.prog) _ Try.func16 rfl Try.ntmps16 (Nat.le_of_ble_eq_true rfl) ?_; dsimp only [argE, Nat.reduceAdd])
  (refine Reach.walk ?_; (repeat (first | ((with_reducible refine AllSt.mk ?_); (try clear hS); intro w hS) | ((with_reducible refine AllVw.mk ?_); intro V hV))))
  (with_reducible apply doneQ_two Try.results16); (· exact slotFound); (· exact slotFound)
  exact ⟨rfl, rfl⟩
theorem timesN (p q : Value) (w : World) : Calls Try.prog 27 #[.pointer none, p, q] w fun x w' => x = .returned (.slice none 0 0) ∧ w = w' := by
  (refine calls_of (P := Try.prog) _ Try.func27 rfl Try.ntmps27 (Nat.le_of_ble_eq_true rfl) ?_; dsimp only [argE, Nat.reduceAdd])
  (refine Reach.walk ?_; (repeat (first | ((with_reducible refine AllSt.mk ?_); (try clear hS); intro w hS) | ((with_reducible refine AllVw.mk ?_); intro V hV))))
  (with_reducible apply doneQ_one Try.results27); (· exact slotFound)
  exact ⟨rfl, rfl⟩
theorem restN (p q : Value) (w : World) : Calls Try.prog 40 #[.pointer none, p, q] w fun x w' => x = .returned (.slice none 0 0) ∧ w = w' := by
  (refine calls_of (P := Try.prog) _ Try.func40 rfl Try.ntmps40 (Nat.le_of_ble_eq_true rfl) ?_; dsimp only [argE, Nat.reduceAdd])
  (refine Reach.walk ?_; (repeat (first | ((with_reducible refine AllSt.mk ?_); (try clear hS); intro w hS) | ((with_reducible refine AllVw.mk ?_); intro V hV))))
  (with_reducible apply doneQ_one Try.results40); (· exact slotFound)
  exact ⟨rfl, rfl⟩
section
variable {w w0 : World} {M : Nat → Prop} {L : List Ch}
theorem evalN {V : Option Addr} {n c : Nat} {p : List Int} {z : Int} (hn : p.length = n) (hV : IsVw V n c V 0) (hm : n ≤ 140737488355328) (hr : RdsV L V n (zv p)) (hS : St w0 M w L) :
    Calls Try.prog 26 #[.pointer none, .slice V n c, .int .i64 z] w fun x w' => x = .returned (.int .i64 0) ∧ St w0 M w' L := by
  (refine calls_of (P := Try.prog) _ Try.func26 rfl Try.ntmps26 (Nat.le_of_ble_eq_true rfl) ?_; dsimp only [argE, Nat.reduceAdd])
  (refine Reach.walk ?_; (repeat (first | ((with_reducible refine AllSt.mk ?_); (try clear hS); intro w hS) | ((with_reducible refine AllVw.mk ?_); intro V hV))))
  apply Wp.loopUp n (fun k e w' => St w0 M w' L ∧ e.Has [(8, .int .i64 ((n : Int) - 1 - (k : Nat))), (7, .int .i64 0), (0, .pointer none), (1, .slice V n c), (2, .int .i64 z)]) (Nat.zero_le n)
    ⟨hS, int_eq (by omega), rfl, rfl, rfl, rfl, trivial⟩
  clear hS
  rintro k e w1 hk ⟨hS, he⟩
  obtain ⟨e0, rfl⟩ := he.eq
  clear he
  dsimp only [Env.sets]
  by_cases hlt : k < n
  · have hi : (n : Int) - 1 - (k : Nat) = ((n - 1 - k : Nat) : Int) := by omega
    rw [hi]
    (refine Reach.walk ?_; (repeat (first | ((with_reducible refine AllSt.mk ?_); (try clear hS); intro w hS) | ((with_reducible refine AllVw.mk ?_); intro V hV))))
    (refine Wp.drawF 12 (fun w => St w0 M w L) ?_ (by kernel_rfl) (by kernel_rfl) rfl ?_; rotate_left; dsimp only [List.take, List.drop]; rotate_left)
    · exact hS.drew
    (repeat (first | ((with_reducible apply RgF.det); (· exact rfl); (· exact rfl); (· exact Det.found2))))
    refine RgF.op (c := .int .i64 0) rfl rfl (fun w2 hS => ?_) ?_
    · (with_reducible apply WpL.call); (· exact rfl); (· exact Try.call23); (· exact Vals.found)
      refine (mulN _ _ _).mono ?_
      rintro x w3 ⟨rfl, rfl⟩
      exact ⟨_, rfl, WpL.nil ⟨hS, Env.set_same _ _ _⟩⟩
    (repeat (first | ((with_reducible apply RgF.det); (· exact rfl); (· exact rfl); (· exact Det.found2))))
    refine RgF.ld (fun w2 hS => hr.cellAt hS (zvg (i := n - 1 - k) (by omega))) rfl rfl ?_
    refine RgF.op (c := .int .i64 0) rfl rfl (fun w2 hS => ?_) ?_
    · (with_reducible apply WpL.call); (· exact rfl); (· exact Try.call45); (· exact Vals.found)
      refine (inN _ _).mono ?_
      rintro x w3 ⟨rfl, rfl⟩
      exact ⟨_, rfl, WpL.nil ⟨hS, Env.set_same _ _ _⟩⟩
    (repeat (first | ((with_reducible apply RgF.det); (· exact rfl); (· exact rfl); (· exact Det.found2))))
    refine RgF.fin ?_
    clear hS
    intro w hS
    (refine Reach.walk ?_; (repeat (first | ((with_reducible refine AllSt.mk ?_); (try clear hS); intro w hS) | ((with_reducible refine AllVw.mk ?_); intro V hV))))
    exact ⟨hlt, hS, int_eq (by omega), rfl, rfl, rfl, rfl, trivial⟩
  · obtain rfl : k = n := by omega
    (refine Reach.walk ?_; (repeat (first | ((with_reducible refine AllSt.mk ?_); (try clear hS); intro w hS) | ((with_reducible refine AllVw.mk ?_); intro V hV))))
    (with_reducible apply doneQ_one Try.results26); (· exact slotFound)
    exact ⟨rfl, hS⟩
end
set_option maxHeartbeats 8000000 in
theorem gfNothing_any {a n : Int} {V : Option Addr} {k c : Nat} {p : List Int} (hk : p.length = k) (hV : IsVw V k c V 0) (hm : k ≤ 140737488355328) (W : World) (hr : Rd W V (zv p)) :
    Calls Try.prog 13 #[.int .i64 a, .int .i64 n, .slice V k c] W fun x w' => x = .returned (.bool true) ∧ Below W.heap.size W w' := by
  have hS0 := (St.start W).startRo hr
  (refine calls_of (P := Try.prog) _ Try.func13 rfl Try.ntmps13 (Nat.le_of_ble_eq_true rfl) ?_; dsimp only [argE, Nat.reduceAdd])
  (refine Reach.walk ?_; (repeat (first | ((with_reducible refine AllSt.mk ?_); (try clear hS); intro w hS) | ((with_reducible refine AllVw.mk ?_); intro V hV))))
  (with_reducible apply WpL.call); (· exact rfl); (· exact Try.call14); (· exact Vals.found)
  refine (awake_any hS0).mono ?_
  clear hS0
  rintro x w ⟨rfl, hS⟩
  refine ⟨_, rfl, ?_⟩
  (refine Reach.walk ?_; (repeat (first | ((with_reducible refine AllSt.mk ?_); (try clear hS); intro w hS) | ((with_reducible refine AllVw.mk ?_); intro V hV))))
  (with_reducible apply WpL.call); (· exact rfl); (· exact Try.call16); (· exact Vals.found)
  refine (generatorN _ _).mono ?_
  rintro x w1 ⟨rfl, rfl⟩
  refine ⟨_, rfl, ?_⟩
  (refine Reach.walk ?_; (repeat (first | ((with_reducible refine AllSt.mk ?_); (try clear hS); intro w hS) | ((with_reducible refine AllVw.mk ?_); intro V hV))))
  (with_reducible apply WpL.call); (· exact rfl); (· exact Try.call29); (· exact Vals.found)
  refine (mN _).mono ?_
  rintro x w1 ⟨rfl, rfl⟩
  refine ⟨_, rfl, ?_⟩
  (refine Reach.walk ?_; (repeat (first | ((with_reducible refine AllSt.mk ?_); (try clear hS); intro w hS) | ((with_reducible refine AllVw.mk ?_); intro V hV))))
  (with_reducible apply WpL.call); (· exact rfl); (· exact Try.call21); (· exact Vals.found)
  refine (sizeN _).mono ?_
  rintro x w1 ⟨rfl, rfl⟩
  refine ⟨_, rfl, ?_⟩
  (refine Reach.walk ?_; (repeat (first | ((with_reducible refine AllSt.mk ?_); (try clear hS); intro w hS) | ((with_reducible refine AllVw.mk ?_); intro V hV))))
  (with_reducible apply WpL.call); (· exact rfl); (· exact Try.call24); (· exact Vals.found)
  refine (addN _ _ _).mono ?_
  rintro x w1 ⟨rfl, rfl⟩
  refine ⟨_, rfl, ?_⟩
  (refine Reach.walk ?_; (repeat (first | ((with_reducible refine AllSt.mk ?_); (try clear hS); intro w hS) | ((with_reducible refine AllVw.mk ?_); intro V hV))))
  (with_reducible apply WpL.call); (· exact rfl); (· exact Try.call23); (· exact Vals.found)
  refine (mulN _ _ _).mono ?_
  rintro x w1 ⟨rfl, rfl⟩
  refine ⟨_, rfl, ?_⟩
  (refine Reach.walk ?_; (repeat (first | ((with_reducible refine AllSt.mk ?_); (try clear hS); intro w hS) | ((with_reducible refine AllVw.mk ?_); intro V hV))))
  (with_reducible apply WpL.call); (· exact rfl); (· exact Try.call25); (· exact Vals.found)
  refine (invN _ _).mono ?_
  rintro x w1 ⟨rfl, rfl⟩
  refine ⟨_, rfl, ?_⟩
  (refine Reach.walk ?_; (repeat (first | ((with_reducible refine AllSt.mk ?_); (try clear hS); intro w hS) | ((with_reducible refine AllVw.mk ?_); intro V hV))))
  (with_reducible apply WpL.call); (· exact rfl); (· exact Try.call33); (· exact Vals.found)
  refine (powN _ _ _).mono ?_
  rintro x w1 ⟨rfl, rfl⟩
  refine ⟨_, rfl, ?_⟩
  (refine Reach.walk ?_; (repeat (first | ((with_reducible refine AllSt.mk ?_); (try clear hS); intro w hS) | ((with_reducible refine AllVw.mk ?_); intro V hV))))
  (with_reducible apply WpL.call); (· exact rfl); (· exact Try.call35); (· exact Vals.found)
  refine (logN _ _).mono ?_
  rintro x w1 ⟨rfl, rfl⟩
  refine ⟨_, rfl, ?_⟩
  (refine Reach.walk ?_; (repeat (first | ((with_reducible refine AllSt.mk ?_); (try clear hS); intro w hS) | ((with_reducible refine AllVw.mk ?_); intro V hV))))
  (with_reducible apply WpL.call); (· exact rfl); (· exact Try.call22); (· exact Vals.found)
  refine (expN _ _).mono ?_
  rintro x w1 ⟨rfl, rfl⟩
  refine ⟨_, rfl, ?_⟩
  (refine Reach.walk ?_; (repeat (first | ((with_reducible refine AllSt.mk ?_); (try clear hS); intro w hS) | ((with_reducible refine AllVw.mk ?_); intro V hV))))
  (with_reducible apply WpL.call); (· exact rfl); (· exact Try.call26); (· exact Vals.found)
  refine (evalN hk hV hm (.whole .ro (by simp [hk])) hS).mono ?_
  clear hS
  rintro x w ⟨rfl, hS⟩
  refine ⟨_, rfl, ?_⟩
  (refine Reach.walk ?_; (repeat (first | ((with_reducible refine AllSt.mk ?_); (try clear hS); intro w hS) | ((with_reducible refine AllVw.mk ?_); intro V hV))))
  (with_reducible apply WpL.call); (· exact rfl); (· exact Try.call27); (· exact Vals.found)
  refine (timesN _ _ _).mono ?_
  rintro x w1 ⟨rfl, rfl⟩
  refine ⟨_, rfl, ?_⟩
  (refine Reach.walk ?_; (repeat (first | ((with_reducible refine AllSt.mk ?_); (try clear hS); intro w hS) | ((with_reducible refine AllVw.mk ?_); intro V hV))))
  (with_reducible apply WpL.call); (· exact rfl); (· exact Try.call40); (· exact Vals.found)
  refine (restN _ _ _).mono ?_
  rintro x w1 ⟨rfl, rfl⟩
  refine ⟨_, rfl, ?_⟩
  (refine Reach.walk ?_; (repeat (first | ((with_reducible refine AllSt.mk ?_); (try clear hS); intro w hS) | ((with_reducible refine AllVw.mk ?_); intro V hV))))
  (with_reducible apply WpL.call); (· exact rfl); (· exact Try.call19); (· exact Vals.found)
  refine (minimalN _ _).mono ?_
  rintro x w1 ⟨rfl, rfl⟩
  refine ⟨_, rfl, ?_⟩
  (refine Reach.walk ?_; (repeat (first | ((with_reducible refine AllSt.mk ?_); (try clear hS); intro w hS) | ((with_reducible refine AllVw.mk ?_); intro V hV))))
  (with_reducible apply doneQ_one Try.results13); (· exact slotFound)
  exact ⟨rfl, hS.toBelow⟩
end Go.Proofs.Ytkffgdccjgdiaaa
