/-
  Least polynomials, and generators, are the document's.
-/
import Derived.Test.YtkffgdccjgdiaaaGfT
import Derived.Test.YtkffgdccjgdiaaaGfY
namespace Go.Proofs.Ytkffgdccjgdiaaa
open Go.Fk Go.RowKit
attribute [local irreducible] Wp WpL Det thenQ blockQ
set_option maxHeartbeats 8000000 in
theorem gfLeast_any {c a t : Int} (hc : I64 c) (ha : I64 a) (ht : I64 t) (W : World) :
    Calls Try.prog 3 #[.int .i64 c, .int .i64 a, .int .i64 t] W fun x w' => x = .returned (.bool true) ∧ Below W.heap.size W w' := by
  have hS0 := St.start W
  (refine calls_of (P := Try.prog) _ Try.func3 rfl Try.ntmps3 (Nat.le_of_ble_eq_true rfl) ?_; dsimp only [argE, Nat.reduceAdd])
  (refine Reach.walk ?_; (repeat (first | ((with_reducible refine AllSt.mk ?_); (try clear hS); intro w hS) | ((with_reducible refine AllVw.mk ?_); intro V hV))))
  (with_reducible apply WpL.call); (· exact rfl); (· exact Try.call14); (· exact Vals.found)
  refine (awake_any hS0).mono ?_
  clear hS0
  rintro x0 w ⟨rfl, hS⟩
  refine ⟨_, rfl, ?_⟩
  (refine Reach.walk ?_; (repeat (first | ((with_reducible refine AllSt.mk ?_); (try clear hS); intro w hS) | ((with_reducible refine AllVw.mk ?_); intro V hV))))
  (with_reducible apply WpL.call); (· exact rfl); (· exact Try.call15); (· exact Vals.found)
  refine (field_any hc hS).mono ?_
  clear hS
  rintro x0 w ⟨g, rfl, hI⟩
  refine ⟨_, rfl, ?_⟩
  have h := pickM_is c
  generalize pickM c = m at *
  have hs2 := Gf.sz_le h
  have hsa := Gf.sz_add h
  have hml := Gf.minimal_len h (turn_lt h a)
  have hgl := genR_len h t
  (refine Reach.walk ?_; (repeat (first | ((with_reducible refine AllSt.mk ?_); (try clear hS); intro w hS) | ((with_reducible refine AllVw.mk ?_); intro V hV))))
  (with_reducible apply WpL.call); (· exact rfl); (· exact Try.call16); (· exact Vals.found)
  refine (generatorR_any h hI).mono ?_
  clear hI
  rintro x0 w ⟨A, ka, rfl, hA, F, hF, hS⟩
  refine ⟨_, rfl, ?_⟩
  (refine Reach.walk ?_; (repeat (first | ((with_reducible refine AllSt.mk ?_); (try clear hS); intro w hS) | ((with_reducible refine AllVw.mk ?_); intro V hV))))
  (with_reducible apply WpL.call); (· exact rfl); (· exact Try.call17); (· exact Vals.found)
  refine (refGeneratorR_any h hS).mono ?_
  clear hS
  rintro x0 w ⟨B, kb, rfl, hB, hS⟩
  refine ⟨_, rfl, ?_⟩
  have hI : FI W (feet []) g m [.own B (genR m t).1.length kb 3 1 (zv (nv (genR m t).1)), .own A (genR m t).1.length ka 3 1 (zv (nv (genR m t).1))] w := ⟨F, hF, hS.take (pre := [F.blk g m, F.p, F.l, .own B _ _ _ _ _]) Take.found⟩
  clear hS hF
  generalize genR m t = G at *
  obtain ⟨P, e⟩ := G
  dsimp only at *
  (refine Reach.walk ?_; (repeat (first | ((with_reducible refine AllSt.mk ?_); (try clear hS); intro w hS) | ((with_reducible refine AllVw.mk ?_); intro V hV))))
  (with_reducible apply WpL.call); (· exact rfl); (· exact Try.call19); (· exact Vals.found)
  refine (minimal_any h ha hI).mono ?_
  clear hI
  rintro x0 w ⟨C, kc, rfl, hC, F, hF, hS⟩
  refine ⟨_, rfl, ?_⟩
  (refine Reach.walk ?_; (repeat (first | ((with_reducible refine AllSt.mk ?_); (try clear hS); intro w hS) | ((with_reducible refine AllVw.mk ?_); intro V hV))))
  (with_reducible apply WpL.call); (· exact rfl); (· exact Try.call20); (· exact Vals.found)
  refine (refMinimal_any h hS).mono ?_
  clear hS
  rintro x0 w ⟨D, kd, rfl, hD, hS⟩
  refine ⟨_, rfl, ?_⟩
  generalize Gf.minimal m (turn m a) = T at *
  (refine Reach.walk ?_; (repeat (first | ((with_reducible refine AllSt.mk ?_); (try clear hS); intro w hS) | ((with_reducible refine AllVw.mk ?_); intro V hV))))
  (with_reducible apply WpL.call); (· exact rfl); (· exact Try.call18); (· exact Vals.found)
  refine (same_any (p := nv T) (q := nv T) (by simp) hC (by omega) (.there (.there (.there (.there (.whole .own (by simp)) _) _) _) _) (by simp) hD (by omega) (.whole .own (by simp)) hS).mono ?_
  clear hS
  rintro x0 w ⟨rfl, hS⟩
  refine ⟨_, rfl, ?_⟩
  rw [decide_eq_true (show nv T = nv T from rfl)]
  replace hS := hS.tail.tail.tail.tail.tail
  (refine Reach.walk ?_; (repeat (first | ((with_reducible refine AllSt.mk ?_); (try clear hS); intro w hS) | ((with_reducible refine AllVw.mk ?_); intro V hV))))
  (with_reducible apply WpL.call); (· exact rfl); (· exact Try.call18); (· exact Vals.found)
  refine (same_any (p := nv P) (q := nv P) (by simp) hA (by omega) (.there (.whole .own (by simp)) _) (by simp) hB (by omega) (.whole .own (by simp)) hS).mono ?_
  clear hS
  rintro x0 w ⟨rfl, hS⟩
  refine ⟨_, rfl, ?_⟩
  rw [decide_eq_true (show nv P = nv P from rfl)]
  (refine Reach.walk ?_; (repeat (first | ((with_reducible refine AllSt.mk ?_); (try clear hS); intro w hS) | ((with_reducible refine AllVw.mk ?_); intro V hV))))
  (with_reducible apply doneQ_one Try.results3); (· exact slotFound)
  exact ⟨by simp, (hS.sub (List.nil_sublist _)).toBelow⟩
end Go.Proofs.Ytkffgdccjgdiaaa
