/-
  Squares of sums; values of products.
-/
import Derived.Test.YtkffgdccjgdiaaaGfT
namespace Go.Proofs.Ytkffgdccjgdiaaa
open Go.Fk Go.RowKit
attribute [local irreducible] Wp WpL Det thenQ blockQ
set_option maxHeartbeats 8000000 in
theorem gfSquares_any {c a b : Int} (hc : I64 c) {V : Option Addr} {n k : Nat} {p : List Int} (hn : p.length = n) (hV : IsVw V n k V 0) (hm : n ≤ 140737488355328)
    {V' : Option Addr} {n' k' : Nat} {q : List Int} (hn' : q.length = n') (hV' : IsVw V' n' k' V' 0) (hm' : n' ≤ 140737488355328) (W : World) (hr : Rd W V (zv p)) (hr' : Rd W V' (zv q)) :
    Calls Try.prog 6 #[.int .i64 c, .int .i64 a, .int .i64 b, .slice V n k, .slice V' n' k'] W fun x w' => x = .returned (.bool true) ∧ Below W.heap.size W w' := by
  have hS0 := ((St.start W).startRo hr').startRo hr
  have hp : RdsV [Ch.ro V (zv p), .ro V' (zv q)] V n (zv p) := .whole .ro (by simp [hn])
  have hq : RdsV [Ch.ro V (zv p), .ro V' (zv q)] V' n' (zv q) := .there (.whole .ro (by simp [hn'])) _
  (refine calls_of (P := Try.prog) _ Try.func6 rfl Try.ntmps6 (Nat.le_of_ble_eq_true rfl) ?_; dsimp only [argE, Nat.reduceAdd])
  (refine Reach.walk ?_; (repeat (first | ((with_reducible refine AllSt.mk ?_); (try clear hS); intro w hS) | ((with_reducible refine AllVw.mk ?_); intro V hV))))
  (with_reducible apply WpL.call); (· exact rfl); (· exact Try.call14); (· exact Vals.found)
  refine (awake_any hS0).mono ?_
  clear hS0
  rintro x0 w ⟨rfl, hS⟩
  refine ⟨_, rfl, ?_⟩
  (refine Reach.walk ?_; (repeat (first | ((with_reducible refine AllSt.mk ?_); (try clear hS); intro w hS) | ((with_reducible refine AllVw.mk ?_); intro V hV))))
  (with_reducible apply WpL.call); (· exact rfl); (· exact Try.call15); (· exact Vals.found)
  refine (field_any hc hS).mono ?_
  clear hS
  rintro x0 w ⟨g, rfl, hI⟩
  refine ⟨_, rfl, ?_⟩
  have h := pickM_is c
  generalize pickM c = m at *
  have hs2 := Gf.sz_le h
  have hsa := Gf.sz_add h
  by_cases hl1 : 40 < n
  · (refine Reach.walk ?_; (repeat (first | ((with_reducible refine AllSt.mk ?_); (try clear hS); intro w hS) | ((with_reducible refine AllVw.mk ?_); intro V hV))))
    (with_reducible apply doneQ_one Try.results6); (· exact slotFound)
    exact ⟨rfl, hI.toBelow⟩
  by_cases hl2 : 40 < n'
  · (refine Reach.walk ?_; (repeat (first | ((with_reducible refine AllSt.mk ?_); (try clear hS); intro w hS) | ((with_reducible refine AllVw.mk ?_); intro V hV))))
    (with_reducible apply doneQ_one Try.results6); (· exact slotFound)
    exact ⟨rfl, hI.toBelow⟩
  have hal := inE_lt h a
  have hbl := inE_lt h b
  have hpl : (pe m p).length = p.length := by simp [pe]
  have hql : (pe m q).length = q.length := by simp [pe]
  have htl := Gf.times_len h (pe m p) (pe m q)
  have hpe := pe_el h p
  have hqe := pe_el h q
  have htm := Gf.hor_times h hal hpe hqe
  have hte := Gf.times_el h (q := pe m q) hpe
  have hxl : inE m a ^^^ inE m b < 2 ^ m := Nat.xor_lt_two_pow hal hbl
  have hxx : Gf.mul m (inE m a ^^^ inE m b) (inE m a ^^^ inE m b) = Gf.mul m (inE m a) (inE m a) ^^^ Gf.mul m (inE m b) (inE m b) := by
    rw [Gf.mul_xor h, Gf.xor_mul h, Gf.xor_mul h, Gf.mul_comm h hbl hal, Nat.xor_assoc, ← Nat.xor_assoc (Gf.mul m (inE m a) (inE m b)), Nat.xor_self, Nat.zero_xor]
  have hma := Gf.mul_lt h (b := inE m a) hal
  have hmb := Gf.mul_lt h (b := inE m b) hbl
  have hhp := Gf.hor_lt h (x := inE m a) hpe
  have hhq := Gf.hor_lt h (x := inE m a) hqe
  (refine Reach.walk ?_; (repeat (first | ((with_reducible refine AllSt.mk ?_); (try clear hS); intro w hS) | ((with_reducible refine AllVw.mk ?_); intro V hV))))
  ((with_reducible apply WpL.call); (· exact rfl); (· exact Try.call24); (· exact Vals.found)); (refine (addF h rfl rfl hI).mono ?_); clear hI; rintro x w ⟨rfl, hI⟩; (refine ⟨_, rfl, ?_⟩)
  (refine Reach.walk ?_; (repeat (first | ((with_reducible refine AllSt.mk ?_); (try clear hS); intro w hS) | ((with_reducible refine AllVw.mk ?_); intro V hV))))
  ((with_reducible apply WpL.call); (· exact rfl); (· exact Try.call23); (· exact Vals.found)); (refine (mulF h (inE_nat h hxl) (inE_nat h hxl) hI).mono ?_); clear hI; rintro x w ⟨rfl, hI⟩; (refine ⟨_, rfl, ?_⟩)
  (refine Reach.walk ?_; (repeat (first | ((with_reducible refine AllSt.mk ?_); (try clear hS); intro w hS) | ((with_reducible refine AllVw.mk ?_); intro V hV))))
  ((with_reducible apply WpL.call); (· exact rfl); (· exact Try.call23); (· exact Vals.found)); (refine (mulF h rfl rfl hI).mono ?_); clear hI; rintro x w ⟨rfl, hI⟩; (refine ⟨_, rfl, ?_⟩)
  (refine Reach.walk ?_; (repeat (first | ((with_reducible refine AllSt.mk ?_); (try clear hS); intro w hS) | ((with_reducible refine AllVw.mk ?_); intro V hV))))
  ((with_reducible apply WpL.call); (· exact rfl); (· exact Try.call23); (· exact Vals.found)); (refine (mulF h rfl rfl hI).mono ?_); clear hI; rintro x w ⟨rfl, hI⟩; (refine ⟨_, rfl, ?_⟩)
  (refine Reach.walk ?_; (repeat (first | ((with_reducible refine AllSt.mk ?_); (try clear hS); intro w hS) | ((with_reducible refine AllVw.mk ?_); intro V hV))))
  ((with_reducible apply WpL.call); (· exact rfl); (· exact Try.call24); (· exact Vals.found)); (refine (addF h (inE_nat h hma) (inE_nat h hmb) hI).mono ?_); clear hI; rintro x w ⟨rfl, hI⟩; (refine ⟨_, rfl, ?_⟩)
  rw [hxx]
  (refine Reach.walk ?_; (repeat (first | ((with_reducible refine AllSt.mk ?_); (try clear hS); intro w hS) | ((with_reducible refine AllVw.mk ?_); intro V hV))))
  (with_reducible apply WpL.call); (· exact rfl); (· exact Try.call27); (· exact Vals.found)
  refine (times_any h hn hV (by omega) hp hn' hV' (by omega) hq hI).mono ?_
  clear hI
  rintro x0 w ⟨A, ka, rfl, hA, hI⟩
  refine ⟨_, rfl, ?_⟩
  generalize Gf.times m (pe m p) (pe m q) = T at *
  (refine Reach.walk ?_; (repeat (first | ((with_reducible refine AllSt.mk ?_); (try clear hS); intro w hS) | ((with_reducible refine AllVw.mk ?_); intro V hV))))
  ((with_reducible apply WpL.call); (· exact rfl); (· exact Try.call26); (· exact Vals.found)); (refine (eval_any h (p := nv T) (by simp) hA (by omega) (.whole .own (by simp)) hI).mono ?_); clear hI; rintro x w ⟨rfl, hI⟩; (refine ⟨_, rfl, ?_⟩)
  rw [pe_nv h hte]
  (refine Reach.walk ?_; (repeat (first | ((with_reducible refine AllSt.mk ?_); (try clear hS); intro w hS) | ((with_reducible refine AllVw.mk ?_); intro V hV))))
  ((with_reducible apply WpL.call); (· exact rfl); (· exact Try.call26); (· exact Vals.found)); (refine (eval_any h hn hV (by omega) (.there hp _) hI).mono ?_); clear hI; rintro x w ⟨rfl, hI⟩; (refine ⟨_, rfl, ?_⟩)
  (refine Reach.walk ?_; (repeat (first | ((with_reducible refine AllSt.mk ?_); (try clear hS); intro w hS) | ((with_reducible refine AllVw.mk ?_); intro V hV))))
  ((with_reducible apply WpL.call); (· exact rfl); (· exact Try.call26); (· exact Vals.found)); (refine (eval_any h hn' hV' (by omega) (.there hq _) hI).mono ?_); clear hI; rintro x w ⟨rfl, hI⟩; (refine ⟨_, rfl, ?_⟩)
  (refine Reach.walk ?_; (repeat (first | ((with_reducible refine AllSt.mk ?_); (try clear hS); intro w hS) | ((with_reducible refine AllVw.mk ?_); intro V hV))))
  ((with_reducible apply WpL.call); (· exact rfl); (· exact Try.call23); (· exact Vals.found)); (refine (mulF h (inE_nat h hhp) (inE_nat h hhq) hI).mono ?_); clear hI; rintro x w ⟨rfl, hI⟩; (refine ⟨_, rfl, ?_⟩)
  rw [← htm]
  (refine Reach.walk ?_; (repeat (first | ((with_reducible refine AllSt.mk ?_); (try clear hS); intro w hS) | ((with_reducible refine AllVw.mk ?_); intro V hV))))
  (with_reducible apply doneQ_one Try.results6); (· exact slotFound)
  exact ⟨by simp, hI.toBelow⟩
end Go.Proofs.Ytkffgdccjgdiaaa
