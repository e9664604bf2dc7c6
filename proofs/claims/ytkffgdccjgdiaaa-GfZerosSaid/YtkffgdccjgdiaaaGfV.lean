/-
  Polynomials: the document's values, products, what is left.
-/
import Derived.Test.YtkffgdccjgdiaaaGfS
import Derived.Test.YtkffgdccjgdiaaaGfM
namespace Go.Proofs.Ytkffgdccjgdiaaa
open Go.Fk Go.RowKit
attribute [local irreducible] Wp WpL Det thenQ blockQ
section
variable {w w0 : World} {M : Nat → Prop} {L : List Ch} {m g : Nat} {F : FS}
theorem refEval_any (h : Gf.Is m) {V : Option Addr} {n c : Nat} {p : List Int} {z : Int} (hn : p.length = n) (hV : IsVw V n c V 0) (hm : n ≤ 1099511627776) (hr : RdsV L V n (zv p)) (hS : St w0 M w L) :
    Calls Try.prog 38 #[.int .i64 (m : Int), .slice V n c, .int .i64 z] w fun x w' => x = .returned (.int .i64 (Gf.hor m (inE m z) (pe m p) : Int)) ∧ w = w' := by
  have hel := pe_el h p
  have hzl := inE_lt h z
  have hs2 := Gf.sz_le h
  have hsa := Gf.sz_add h
  (refine calls_of (P := Try.prog) _ Try.func38 rfl Try.ntmps38 (Nat.le_of_ble_eq_true rfl) ?_; dsimp only [argE, Nat.reduceAdd])
  (refine Reach.walk ?_; (repeat (first | ((with_reducible refine AllSt.mk ?_); (try clear hS); intro w hS) | ((with_reducible refine AllVw.mk ?_); intro V hV))))
  apply Wp.loopUp n (fun k e w' => w' = w ∧ ∃ y x : Nat, y < 2 ^ m ∧ x < 2 ^ m ∧ y ^^^ Gf.mul m (Gf.hor m (inE m z) ((pe m p).drop k)) x = Gf.hor m (inE m z) (pe m p) ∧ e.Has [(9, .int .i64 (k : Nat)), (7, .int .i64 (y : Nat)), (8, .int .i64 (x : Nat)), (0, .int .i64 (m : Int)), (1, .slice V n c), (2, .int .i64 z)]) (Nat.zero_le n)
    ⟨rfl, 0, 1, Nat.two_pow_pos m, Gf.one_lt h, by rw [Nat.zero_xor, Gf.mul_one h, List.drop_zero], rfl, rfl, rfl, rfl, rfl, rfl, trivial⟩
  rintro k e w1 hk ⟨rfl, y, x, hy, hx, hinv, he⟩
  obtain ⟨e0, rfl⟩ := he.eq
  clear he
  dsimp only [Env.sets]
  by_cases hlt : k < n
  · have hdrop : (pe m p).drop k = inE m (p.getD k 0) :: (pe m p).drop (k + 1) := by
      rw [List.drop_eq_getElem_cons (by simp; omega)]
      congr 1
      simp [pe, List.getD_eq_getElem?_getD, show k < p.length by omega]
    have hpk := inE_lt h (p.getD k 0)
    rw [hdrop, Gf.eval_step h hzl hx hpk (El_drop hel (k + 1)), ← Nat.xor_assoc] at hinv
    have hm1 := Gf.mul_lt h (b := x) hpk
    have hm2 := Gf.mul_lt h (b := inE m z) hx
    have hyx : y ^^^ Gf.mul m (inE m (p.getD k 0)) x < 2 ^ m := Nat.xor_lt_two_pow hy hm1
    generalize hP : p.getD k 0 = a at *
    (refine Reach.walk ?_; (repeat (first | ((with_reducible refine AllSt.mk ?_); (try clear hS); intro w hS) | ((with_reducible refine AllVw.mk ?_); intro V hV))))
    refine WpL.ldV hr hS (zvg (i := k) (by omega)) rfl rfl ?_
    rw [hP]
    (refine Reach.walk ?_; (repeat (first | ((with_reducible refine AllSt.mk ?_); (try clear hS); intro w hS) | ((with_reducible refine AllVw.mk ?_); intro V hV))))
    (with_reducible apply WpL.call); (· exact rfl); (· exact Try.call31); (· exact Vals.found)
    refine (refMul_any h _ _ _).mono ?_
    rintro _ w1 ⟨rfl, rfl⟩
    refine ⟨_, rfl, ?_⟩
    rw [inE_nat h hx]
    (refine Reach.walk ?_; (repeat (first | ((with_reducible refine AllSt.mk ?_); (try clear hS); intro w hS) | ((with_reducible refine AllVw.mk ?_); intro V hV))))
    (with_reducible apply WpL.call); (· exact rfl); (· exact Try.call31); (· exact Vals.found)
    refine (refMul_any h _ _ _).mono ?_
    rintro _ w1 ⟨rfl, rfl⟩
    refine ⟨_, rfl, ?_⟩
    rw [inE_nat h hx]
    (refine Reach.walk ?_; (repeat (first | ((with_reducible refine AllSt.mk ?_); (try clear hS); intro w hS) | ((with_reducible refine AllVw.mk ?_); intro V hV))))
    exact ⟨hlt, rfl, _, _, hyx, hm2, hinv, int_eq (by omega), rfl, rfl, rfl, rfl, rfl, trivial⟩
  · obtain rfl : k = n := by omega
    rw [List.drop_of_length_le (by simp [hn]), Gf.hor, Gf.zero_mul h, Nat.xor_zero] at hinv
    subst hinv
    (refine Reach.walk ?_; (repeat (first | ((with_reducible refine AllSt.mk ?_); (try clear hS); intro w hS) | ((with_reducible refine AllVw.mk ?_); intro V hV))))
    (with_reducible apply doneQ_one Try.results38); (· exact slotFound)
    exact ⟨rfl, rfl⟩

theorem refTrim_any {V : Option Addr} {n c : Nat} {l : List Nat} (hn : l.length = n) (hV : IsVw V n c V 0) (hm : n ≤ 1099511627776) (hr : RdsV L V n (zv (nv l))) (hS : St w0 M w L) :
    Calls Try.prog 50 #[.slice V n c] w fun x w' => x = .returned (.slice V (Gf.tl l) c) ∧ w = w' := by
  have hle := Gf.tl_le l
  have hle2 := hV.le
  (refine calls_of (P := Try.prog) _ Try.func50 rfl Try.ntmps50 (Nat.le_of_ble_eq_true rfl) ?_; dsimp only [argE, Nat.reduceAdd])
  (refine Reach.walk ?_; (repeat (first | ((with_reducible refine AllSt.mk ?_); (try clear hS); intro w hS) | ((with_reducible refine AllVw.mk ?_); intro V hV))))
  apply Wp.loopUp (n - Gf.tl l) (fun k e w' => w' = w ∧ Gf.tl l ≤ n - k ∧ e.Has [(3, .int .i64 ((n - k : Nat) : Int)), (0, .slice V n c)]) (Nat.zero_le _)
    ⟨rfl, by omega, rfl, rfl, trivial⟩
  rintro k e w1 hk ⟨rfl, hkl, he⟩
  obtain ⟨e0, rfl⟩ := he.eq
  clear he
  dsimp only [Env.sets]
  have hend : n - k = Gf.tl l → c = 0 ∨ V = V := fun _ => .inr rfl
  by_cases h0 : n - k = 0
  · have ht : Gf.tl l = 0 := by omega
    rw [h0]
    clear hV
    (refine Reach.walk ?_; (repeat (first | ((with_reducible refine AllSt.mk ?_); (try clear hS); intro w hS) | ((with_reducible refine AllVw.mk ?_); intro V hV))))
    refine WpL.det rfl (Det.sliceHi rfl rfl (by omega) (by omega)) ?_
    (refine Reach.walk ?_; (repeat (first | ((with_reducible refine AllSt.mk ?_); (try clear hS); intro w hS) | ((with_reducible refine AllVw.mk ?_); intro V hV))))
    (with_reducible apply doneQ_one Try.results50); (· exact slotFound)
    exact ⟨by rw [ht]; rfl, rfl⟩
  have hget : (zv (nv l))[n - k - 1]? = some (.int .i64 (Gf.cf l (n - k - 1) : Int)) := nv_cell (by omega)
  have hcast : ((n - k : Nat) : Int) - 1 = ((n - k - 1 : Nat) : Int) := by omega
  by_cases hz : Gf.cf l (n - k - 1) = 0
  · have hlt := Gf.tl_lt hkl (by omega) hz
    rw [hz] at hget
    (refine Reach.walk ?_; (repeat (first | ((with_reducible refine AllSt.mk ?_); (try clear hS); intro w hS) | ((with_reducible refine AllVw.mk ?_); intro V hV))))
    refine WpL.ldV hr hS hget rfl rfl ?_
    (refine Reach.walk ?_; (repeat (first | ((with_reducible refine AllSt.mk ?_); (try clear hS); intro w hS) | ((with_reducible refine AllVw.mk ?_); intro V hV))))
    exact ⟨by omega, rfl, by omega, int_eq (by omega), rfl, trivial⟩
  · have ht : Gf.tl l = n - k := by
      refine Nat.le_antisymm hkl (Nat.not_lt.1 fun hlt => hz (Gf.tl_over (by omega)))
    have hz2 : ¬ (Gf.cf l (n - k - 1) : Int) = 0 := by omega
    (refine Reach.walk ?_; (repeat (first | ((with_reducible refine AllSt.mk ?_); (try clear hS); intro w hS) | ((with_reducible refine AllVw.mk ?_); intro V hV))))
    refine WpL.ldV hr hS hget rfl rfl ?_
    clear hV
    (refine Reach.walk ?_; (repeat (first | ((with_reducible refine AllSt.mk ?_); (try clear hS); intro w hS) | ((with_reducible refine AllVw.mk ?_); intro V hV))))
    refine WpL.det rfl (Det.sliceHi rfl rfl (by omega) (by omega)) ?_
    (refine Reach.walk ?_; (repeat (first | ((with_reducible refine AllSt.mk ?_); (try clear hS); intro w hS) | ((with_reducible refine AllVw.mk ?_); intro V hV))))
    (with_reducible apply doneQ_one Try.results50); (· exact slotFound)
    exact ⟨by rw [ht, Int.toNat_natCast], rfl⟩
end
end Go.Proofs.Ytkffgdccjgdiaaa
