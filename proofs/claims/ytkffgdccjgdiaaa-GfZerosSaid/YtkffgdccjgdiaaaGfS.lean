/-
  Rows that are the same; whether the law is awake; a field of a raw number.
-/
import Derived.Test.YtkffgdccjgdiaaaGfR
namespace Go.Proofs.Ytkffgdccjgdiaaa
open Go.Fk Go.RowKit
attribute [local irreducible] Wp WpL Det thenQ blockQ
section
variable {w w0 : World} {M : Nat → Prop} {L : List Ch} {m g : Nat} {F : FS}
theorem same_any {V : Option Addr} {n c : Nat} {p : List Int} {V' : Option Addr} {n' c' : Nat} {q : List Int} (hn : p.length = n) (hV : IsVw V n c V 0) (hm : n ≤ 1099511627776) (hr : RdsV L V n (zv p))
    (hn' : q.length = n') (hV' : IsVw V' n' c' V' 0) (hm' : n' ≤ 1099511627776) (hr' : RdsV L V' n' (zv q)) (hS : St w0 M w L) :
    Calls Try.prog 18 #[.slice V n c, .slice V' n' c'] w fun x w' => x = .returned (.bool (decide (p = q))) ∧ St w0 M w' L := by
  (refine calls_of (P := Try.prog) _ Try.func18 rfl Try.ntmps18 (Nat.le_of_ble_eq_true rfl) ?_; dsimp only [argE, Nat.reduceAdd])
  by_cases hl : n = n'
  · subst hl
    (refine Reach.walk ?_; (repeat (first | ((with_reducible refine AllSt.mk ?_); (try clear hS); intro w hS) | ((with_reducible refine AllVw.mk ?_); intro V hV))))
    apply Wp.loopUp n (fun k e w' => p.take k = q.take k ∧ St w0 M w' L ∧ e.Has [(5, .int .i64 (k : Nat)), (0, .slice V n c), (1, .slice V' n c')]) (Nat.zero_le _)
      ⟨rfl, hS, rfl, rfl, rfl, trivial⟩
    clear hS
    rintro k e w1 hk ⟨hpq, hS, he⟩
    obtain ⟨e0, rfl⟩ := he.eq
    clear he
    dsimp only [Env.sets]
    by_cases hlt : k < n
    · (refine Reach.walk ?_; (repeat (first | ((with_reducible refine AllSt.mk ?_); (try clear hS); intro w hS) | ((with_reducible refine AllVw.mk ?_); intro V hV))))
      (refine Wp.drawF 8 (fun w => St w0 M w L) ?_ (by kernel_rfl) (by kernel_rfl) rfl ?_; rotate_left; dsimp only [List.take, List.drop]; rotate_left)
      · exact hS.drew
      (repeat (first | ((with_reducible apply RgF.det); (· exact rfl); (· exact rfl); (· exact Det.found2))))
      refine RgF.ld (fun w2 hS => hr.cellAt hS (zvg (i := k) (by omega))) rfl rfl ?_
      (repeat (first | ((with_reducible apply RgF.det); (· exact rfl); (· exact rfl); (· exact Det.found2))))
      refine RgF.ld (fun w2 hS => hr'.cellAt hS (zvg (i := k) (by omega))) rfl rfl ?_
      (repeat (first | ((with_reducible apply RgF.det); (· exact rfl); (· exact rfl); (· exact Det.found2))))
      refine RgF.fin ?_
      clear hS
      intro w hS
      by_cases heq : p.getD k 0 = q.getD k 0
      · (refine Reach.walk ?_; (repeat (first | ((with_reducible refine AllSt.mk ?_); (try clear hS); intro w hS) | ((with_reducible refine AllVw.mk ?_); intro V hV))))
        refine ⟨hlt, ?_, hS, int_eq (by omega), rfl, rfl, trivial⟩
        rw [List.take_add_one, List.take_add_one, hpq]
        congr 1
        rw [List.getElem?_eq_getElem (by omega), List.getElem?_eq_getElem (by omega)]
        rw [List.getD_eq_getElem?_getD, List.getD_eq_getElem?_getD, List.getElem?_eq_getElem (by omega), List.getElem?_eq_getElem (by omega)] at heq
        simpa using heq
      · have hne : ¬ p = q := fun h => heq (by rw [h])
        (refine Reach.walk ?_; (repeat (first | ((with_reducible refine AllSt.mk ?_); (try clear hS); intro w hS) | ((with_reducible refine AllVw.mk ?_); intro V hV))))
        (with_reducible apply doneQ_one Try.results18); (· exact slotFound)
        exact ⟨by rw [decide_eq_false hne], hS⟩
    · obtain rfl : k = n := by omega
      rw [List.take_of_length_le (by omega), List.take_of_length_le (by omega)] at hpq
      (refine Reach.walk ?_; (repeat (first | ((with_reducible refine AllSt.mk ?_); (try clear hS); intro w hS) | ((with_reducible refine AllVw.mk ?_); intro V hV))))
      (with_reducible apply doneQ_one Try.results18); (· exact slotFound)
      exact ⟨by rw [decide_eq_true hpq], hS⟩
  · have hne : ¬ p = q := fun h => hl (by rw [← hn, ← hn', h])
    (refine Reach.walk ?_; (repeat (first | ((with_reducible refine AllSt.mk ?_); (try clear hS); intro w hS) | ((with_reducible refine AllVw.mk ?_); intro V hV))))
    (with_reducible apply doneQ_one Try.results18); (· exact slotFound)
    exact ⟨by rw [decide_eq_false hne], hS⟩

theorem logZ_14 : logZ 4 9 = 14 := by kernel_rfl
theorem mul_2_9 : Gf.mul 4 (inE 4 2) (inE 4 9) = 1 := by kernel_rfl
theorem inv_2 : Gf.inv 4 (inE 4 2) = 9 := by kernel_rfl
theorem awake_any (hS : St w0 M w L) : Calls Try.prog 14 #[] w fun x w' => x = .returned (.bool true) ∧ St w0 M w' L := by
  have h : Gf.Is 4 := ⟨by decide, by decide⟩
  (refine calls_of (P := Try.prog) _ Try.func14 rfl Try.ntmps14 (Nat.le_of_ble_eq_true rfl) ?_; dsimp only [argE, Nat.reduceAdd])
  (refine Reach.walk ?_; (repeat (first | ((with_reducible refine AllSt.mk ?_); (try clear hS); intro w hS) | ((with_reducible refine AllVw.mk ?_); intro V hV))))
  (with_reducible apply WpL.call); (· exact rfl); (· exact Try.call28); (· exact Vals.found)
  refine (new_any hS).mono ?_
  clear hS
  rintro x w (⟨_, g, rfl, hS⟩ | ⟨h, _⟩)
  rotate_left
  · exact absurd ⟨by decide, by decide⟩ h
  refine ⟨_, rfl, ?_⟩
  rw [show (4 : Int).toNat = 4 from rfl] at hS
  have hI : FI w0 M g 4 L w := ⟨_, .inl rfl, hS⟩
  clear hS
  (refine Reach.walk ?_; (repeat (first | ((with_reducible refine AllSt.mk ?_); (try clear hS); intro w hS) | ((with_reducible refine AllVw.mk ?_); intro V hV))))
  (with_reducible apply WpL.call); (· exact rfl); (· exact Try.call16); (· exact Vals.found)
  refine (generator_any h (t := 2) ⟨by decide, by decide, by decide⟩ hI).mono ?_
  clear hI
  rintro x w ⟨A, c, rfl, hA, hI⟩
  refine ⟨_, rfl, ?_⟩
  rw [show 2 * 2 = 4 from rfl, Gf.genP4] at *
  have hsz : Gf.sz 4 = 15 := rfl
  obtain ⟨F, hF, hS⟩ := hI
  (refine Reach.walk ?_; (repeat (first | ((with_reducible refine AllSt.mk ?_); (try clear hS); intro w hS) | ((with_reducible refine AllVw.mk ?_); intro V hV))))
  (with_reducible apply WpL.call); (· exact rfl); (· exact Try.call21); (· exact Vals.found)
  refine (size_any h (lookM F) hS).mono ?_
  rintro x w1 ⟨rfl, rfl⟩
  refine ⟨_, rfl, ?_⟩
  (refine Reach.walk ?_; (repeat (first | ((with_reducible refine AllSt.mk ?_); (try clear hS); intro w hS) | ((with_reducible refine AllVw.mk ?_); intro V hV))))
  (with_reducible apply WpL.call); (· exact rfl); (· exact Try.call23); (· exact Vals.found)
  refine (mul_any h hF hS).mono ?_
  clear hS hF
  rintro x w ⟨rfl, F, hF, hS⟩
  refine ⟨_, rfl, ?_⟩
  rw [mul_2_9]
  (refine Reach.walk ?_; (repeat (first | ((with_reducible refine AllSt.mk ?_); (try clear hS); intro w hS) | ((with_reducible refine AllVw.mk ?_); intro V hV))))
  (with_reducible apply WpL.call); (· exact rfl); (· exact Try.call25); (· exact Vals.found)
  refine (inv_any h hF hS).mono ?_
  clear hS hF
  rintro x w ⟨rfl, F, hF, hS⟩
  refine ⟨_, rfl, ?_⟩
  rw [inv_2]
  (refine Reach.walk ?_; (repeat (first | ((with_reducible refine AllSt.mk ?_); (try clear hS); intro w hS) | ((with_reducible refine AllVw.mk ?_); intro V hV))))
  (with_reducible apply WpL.call); (· exact rfl); (· exact Try.call35); (· exact Vals.found)
  refine (log_any h hF hS).mono ?_
  clear hS hF
  rintro x w ⟨rfl, F, hF, hS⟩
  refine ⟨_, rfl, ?_⟩
  rw [logZ_14]
  (refine Reach.walk ?_; (repeat (first | ((with_reducible refine AllSt.mk ?_); (try clear hS); intro w hS) | ((with_reducible refine AllVw.mk ?_); intro V hV))))
  ((with_reducible apply WpL.bs); (· assumption); (· exact rfl); (· exact BVals.found); (· exact oneAll_spec rfl); (· exact rfl); (· decide); (· exact listFound); clear hS)
  intro B w hB hS
  (refine Reach.walk ?_; (repeat (first | ((with_reducible refine AllSt.mk ?_); (try clear hS); intro w hS) | ((with_reducible refine AllVw.mk ?_); intro V hV))))
  (with_reducible apply WpL.call); (· exact rfl); (· exact Try.call18); (· exact Vals.found)
  refine (same_any (p := nv [1, 0, 0, 0, 1, 0, 1, 1, 1]) (q := [1, 0, 0, 0, 1, 0, 1, 1, 1]) rfl hA (by decide) (.there (.there (.there (.there (.whole .own rfl) _) _) _) _) rfl hB (by decide) (.whole .own rfl) hS).mono ?_
  clear hS
  rintro x w ⟨rfl, hS⟩
  refine ⟨_, rfl, ?_⟩
  rw [decide_eq_true (show nv [1, 0, 0, 0, 1, 0, 1, 1, 1] = [1, 0, 0, 0, 1, 0, 1, 1, 1] from rfl)]
  (refine Reach.walk ?_; (repeat (first | ((with_reducible refine AllSt.mk ?_); (try clear hS); intro w hS) | ((with_reducible refine AllVw.mk ?_); intro V hV))))
  (with_reducible apply doneQ_one Try.results14); (· exact slotFound)
  exact ⟨rfl, hS.tail.tail.tail.tail.tail⟩

def pickM (z : Int) : Nat := 2 + ((if z < 0 then -(z + 1) else z) % 12).toNat
theorem pickM_is (z : Int) : Gf.Is (pickM z) := by
  unfold pickM
  exact ⟨by omega, by omega⟩
theorem picked_any (z : Int) (hz : -9223372036854775808 ≤ z ∧ z ≤ 9223372036854775807) (w : World) : Calls Try.prog 42 #[.int .i64 z] w fun x w' => x = .returned (.int .i64 (pickM z : Int)) ∧ w = w' := by
  unfold pickM
  (refine calls_of (P := Try.prog) _ Try.func42 rfl Try.ntmps42 (Nat.le_of_ble_eq_true rfl) ?_; dsimp only [argE, Nat.reduceAdd])
  by_cases h0 : z < 0
  · rw [if_pos h0]
    (refine Reach.walk ?_; (repeat (first | ((with_reducible refine AllSt.mk ?_); (try clear hS); intro w hS) | ((with_reducible refine AllVw.mk ?_); intro V hV))))
    (with_reducible apply doneQ_one Try.results42); (· exact slotFound)
    exact ⟨by congr 1; exact int_eq (by omega), rfl⟩
  · rw [if_neg h0]
    (refine Reach.walk ?_; (repeat (first | ((with_reducible refine AllSt.mk ?_); (try clear hS); intro w hS) | ((with_reducible refine AllVw.mk ?_); intro V hV))))
    (with_reducible apply doneQ_one Try.results42); (· exact slotFound)
    exact ⟨by congr 1; exact int_eq (by omega), rfl⟩
theorem field_any {z : Int} (hz : -9223372036854775808 ≤ z ∧ z ≤ 9223372036854775807) (hS : St w0 M w L) :
    Calls Try.prog 15 #[.int .i64 z] w fun x w' => ∃ g, x = .returned (.tuple #[.pointer (some ⟨g, 0, none⟩), .int .i64 (pickM z : Int)]) ∧ FI w0 M g (pickM z) L w' := by
  have h := pickM_is z
  have h1 := h.lo
  have h2 := h.hi
  have hp := picked_any z hz
  generalize pickM z = m at *
  (refine calls_of (P := Try.prog) _ Try.func15 rfl Try.ntmps15 (Nat.le_of_ble_eq_true rfl) ?_; dsimp only [argE, Nat.reduceAdd])
  (refine Reach.walk ?_; (repeat (first | ((with_reducible refine AllSt.mk ?_); (try clear hS); intro w hS) | ((with_reducible refine AllVw.mk ?_); intro V hV))))
  (with_reducible apply WpL.call); (· exact rfl); (· exact Try.call42); (· exact Vals.found)
  refine (hp _).mono ?_
  rintro x w1 ⟨rfl, rfl⟩
  refine ⟨_, rfl, ?_⟩
  (refine Reach.walk ?_; (repeat (first | ((with_reducible refine AllSt.mk ?_); (try clear hS); intro w hS) | ((with_reducible refine AllVw.mk ?_); intro V hV))))
  (with_reducible apply WpL.call); (· exact rfl); (· exact Try.call28); (· exact Vals.found)
  refine (new_any hS).mono ?_
  clear hS
  rintro x w (⟨_, g, rfl, hS⟩ | ⟨h, _⟩)
  rotate_left
  · exact absurd ⟨by omega, by omega⟩ h
  refine ⟨_, rfl, ?_⟩
  rw [Int.toNat_natCast] at hS
  (refine Reach.walk ?_; (repeat (first | ((with_reducible refine AllSt.mk ?_); (try clear hS); intro w hS) | ((with_reducible refine AllVw.mk ?_); intro V hV))))
  (with_reducible apply WpL.call); (· exact rfl); (· exact Try.call42); (· exact Vals.found)
  refine (hp _).mono ?_
  rintro x w1 ⟨rfl, rfl⟩
  refine ⟨_, rfl, ?_⟩
  (refine Reach.walk ?_; (repeat (first | ((with_reducible refine AllSt.mk ?_); (try clear hS); intro w hS) | ((with_reducible refine AllVw.mk ?_); intro V hV))))
  (with_reducible apply doneQ_two Try.results15); (· exact slotFound); (· exact slotFound)
  exact ⟨g, rfl, _, .inl rfl, hS⟩
end
end Go.Proofs.Ytkffgdccjgdiaaa
