/-
  Elements are reckoned as the document says.
-/
import Derived.Test.YtkffgdccjgdiaaaGfT
namespace Go.Proofs.Ytkffgdccjgdiaaa
open Go.Fk Go.RowKit
attribute [local irreducible] Wp WpL Det thenQ blockQ
set_option maxHeartbeats 8000000 in
theorem gfReckons_any {c a b n : Int} (hc : I64 c) (hn : I64 n) (W : World) : Calls Try.prog 8 #[.int .i64 c, .int .i64 a, .int .i64 b, .int .i64 n] W fun x w' => x = .returned (.bool true) ∧ Below W.heap.size W w' := by
  (refine calls_of (P := Try.prog) _ Try.func8 rfl Try.ntmps8 (Nat.le_of_ble_eq_true rfl) ?_; dsimp only [argE, Nat.reduceAdd])
  (refine Reach.walk ?_; (repeat (first | ((with_reducible refine AllSt.mk ?_); (try clear hS); intro w hS) | ((with_reducible refine AllVw.mk ?_); intro V hV))))
  (with_reducible apply WpL.call); (· exact rfl); (· exact Try.call14); (· exact Vals.found)
  refine (awake_any (St.start W)).mono ?_
  rintro x w ⟨rfl, hS⟩
  refine ⟨_, rfl, ?_⟩
  (refine Reach.walk ?_; (repeat (first | ((with_reducible refine AllSt.mk ?_); (try clear hS); intro w hS) | ((with_reducible refine AllVw.mk ?_); intro V hV))))
  (with_reducible apply WpL.call); (· exact rfl); (· exact Try.call15); (· exact Vals.found)
  refine (field_any hc hS).mono ?_
  clear hS
  rintro x w ⟨g, rfl, hI⟩
  refine ⟨_, rfl, ?_⟩
  have h := pickM_is c
  generalize pickM c = m at *
  have hs2 := Gf.sz_le h
  have hsa := Gf.sz_add h
  have hal := inE_lt h a
  have hbl := inE_lt h b
  (refine Reach.walk ?_; (repeat (first | ((with_reducible refine AllSt.mk ?_); (try clear hS); intro w hS) | ((with_reducible refine AllVw.mk ?_); intro V hV))))
  ((with_reducible apply WpL.call); (· exact rfl); (· exact Try.call30); (· exact Vals.found)); (refine (refIn_any h _ _).mono ?_); (rintro x w1 ⟨rfl, rfl⟩); (refine ⟨_, rfl, ?_⟩)
  (refine Reach.walk ?_; (repeat (first | ((with_reducible refine AllSt.mk ?_); (try clear hS); intro w hS) | ((with_reducible refine AllVw.mk ?_); intro V hV))))
  ((with_reducible apply WpL.call); (· exact rfl); (· exact Try.call30); (· exact Vals.found)); (refine (refIn_any h _ _).mono ?_); (rintro x w1 ⟨rfl, rfl⟩); (refine ⟨_, rfl, ?_⟩)
  (refine Reach.walk ?_; (repeat (first | ((with_reducible refine AllSt.mk ?_); (try clear hS); intro w hS) | ((with_reducible refine AllVw.mk ?_); intro V hV))))
  ((with_reducible apply WpL.call); (· exact rfl); (· exact Try.call24); (· exact Vals.found)); (refine (addF h rfl rfl hI).mono ?_); clear hI; rintro x w ⟨rfl, hI⟩; (refine ⟨_, rfl, ?_⟩)
  (refine Reach.walk ?_; (repeat (first | ((with_reducible refine AllSt.mk ?_); (try clear hS); intro w hS) | ((with_reducible refine AllVw.mk ?_); intro V hV))))
  ((with_reducible apply WpL.call); (· exact rfl); (· exact Try.call23); (· exact Vals.found)); (refine (mulF h rfl rfl hI).mono ?_); clear hI; rintro x w ⟨rfl, hI⟩; (refine ⟨_, rfl, ?_⟩)
  (refine Reach.walk ?_; (repeat (first | ((with_reducible refine AllSt.mk ?_); (try clear hS); intro w hS) | ((with_reducible refine AllVw.mk ?_); intro V hV))))
  ((with_reducible apply WpL.call); (· exact rfl); (· exact Try.call31); (· exact Vals.found)); (refine (refMul_any h _ _ _).mono ?_); (rintro x w1 ⟨rfl, rfl⟩); (refine ⟨_, rfl, ?_⟩)
  (refine Reach.walk ?_; (repeat (first | ((with_reducible refine AllSt.mk ?_); (try clear hS); intro w hS) | ((with_reducible refine AllVw.mk ?_); intro V hV))))
  ((with_reducible apply WpL.call); (· exact rfl); (· exact Try.call25); (· exact Vals.found)); (refine (invF h rfl hI).mono ?_); clear hI; rintro x w ⟨rfl, hI⟩; (refine ⟨_, rfl, ?_⟩)
  (refine Reach.walk ?_; (repeat (first | ((with_reducible refine AllSt.mk ?_); (try clear hS); intro w hS) | ((with_reducible refine AllVw.mk ?_); intro V hV))))
  ((with_reducible apply WpL.call); (· exact rfl); (· exact Try.call32); (· exact Vals.found)); (refine (refInv_any h _ _).mono ?_); (rintro x w1 ⟨rfl, rfl⟩); (refine ⟨_, rfl, ?_⟩)
  (refine Reach.walk ?_; (repeat (first | ((with_reducible refine AllSt.mk ?_); (try clear hS); intro w hS) | ((with_reducible refine AllVw.mk ?_); intro V hV))))
  ((with_reducible apply WpL.call); (· exact rfl); (· exact Try.call33); (· exact Vals.found)); (refine (powF h rfl hn hI).mono ?_); clear hI; rintro x w ⟨rfl, hI⟩; (refine ⟨_, rfl, ?_⟩)
  (refine Reach.walk ?_; (repeat (first | ((with_reducible refine AllSt.mk ?_); (try clear hS); intro w hS) | ((with_reducible refine AllVw.mk ?_); intro V hV))))
  ((with_reducible apply WpL.call); (· exact rfl); (· exact Try.call34); (· exact Vals.found)); (refine (refPow_any h _ _ _).mono ?_); (rintro x w1 ⟨rfl, rfl⟩); (refine ⟨_, rfl, ?_⟩)
  (refine Reach.walk ?_; (repeat (first | ((with_reducible refine AllSt.mk ?_); (try clear hS); intro w hS) | ((with_reducible refine AllVw.mk ?_); intro V hV))))
  ((with_reducible apply WpL.call); (· exact rfl); (· exact Try.call35); (· exact Vals.found)); (refine (logF h rfl hI).mono ?_); clear hI; rintro x w ⟨rfl, hI⟩; (refine ⟨_, rfl, ?_⟩)
  (refine Reach.walk ?_; (repeat (first | ((with_reducible refine AllSt.mk ?_); (try clear hS); intro w hS) | ((with_reducible refine AllVw.mk ?_); intro V hV))))
  ((with_reducible apply WpL.call); (· exact rfl); (· exact Try.call36); (· exact Vals.found)); (refine (refLog_any h _ _).mono ?_); (rintro x w1 ⟨rfl, rfl⟩); (refine ⟨_, rfl, ?_⟩)
  (refine Reach.walk ?_; (repeat (first | ((with_reducible refine AllSt.mk ?_); (try clear hS); intro w hS) | ((with_reducible refine AllVw.mk ?_); intro V hV))))
  ((with_reducible apply WpL.call); (· exact rfl); (· exact Try.call22); (· exact Vals.found)); (refine (expF h rfl hn hI).mono ?_); clear hI; rintro x w ⟨rfl, hI⟩; (refine ⟨_, rfl, ?_⟩)
  (refine Reach.walk ?_; (repeat (first | ((with_reducible refine AllSt.mk ?_); (try clear hS); intro w hS) | ((with_reducible refine AllVw.mk ?_); intro V hV))))
  ((with_reducible apply WpL.call); (· exact rfl); (· exact Try.call37); (· exact Vals.found)); (refine (refExp_any h _ _).mono ?_); (rintro x w1 ⟨rfl, rfl⟩); (refine ⟨_, rfl, ?_⟩)
  (refine Reach.walk ?_; (repeat (first | ((with_reducible refine AllSt.mk ?_); (try clear hS); intro w hS) | ((with_reducible refine AllVw.mk ?_); intro V hV))))
  (with_reducible apply doneQ_one Try.results8); (· exact slotFound)
  exact ⟨by simp, hI.toBelow⟩

end Go.Proofs.Ytkffgdccjgdiaaa
