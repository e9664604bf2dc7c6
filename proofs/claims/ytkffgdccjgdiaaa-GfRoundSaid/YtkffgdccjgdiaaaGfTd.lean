/-
  Powers come round.
-/
import Derived.Test.YtkffgdccjgdiaaaGfTc
namespace Go.Proofs.Ytkffgdccjgdiaaa
open Go.Fk Go.RowKit
attribute [local irreducible] Wp WpL Det thenQ blockQ

theorem round_same {m : Nat} (h : Gf.Is m) (n k : Int) : Gf.E m (turn m n) = Gf.E m (turn m k) ↔ (n - k).tmod (Gf.sz m : Int) = 0 := by
  have hs := Gf.sz_ge h
  rw [Gf.E_eq_iff h, Nat.mod_eq_of_lt (turn_lt h n), Nat.mod_eq_of_lt (turn_lt h k)]
  have h1 := Int.emod_nonneg n (show (Gf.sz m : Int) ≠ 0 by omega)
  have h2 := Int.emod_nonneg k (show (Gf.sz m : Int) ≠ 0 by omega)
  rw [← Int.dvd_iff_tmod_eq_zero]
  have e : turn m n = turn m k ↔ n % (Gf.sz m : Int) = k % (Gf.sz m : Int) := by
    unfold turn
    constructor
    · intro he; omega
    · intro he; rw [he]
  rw [e]
  exact Int.emod_eq_emod_iff_emod_sub_eq_zero.trans Int.dvd_iff_emod_eq_zero.symm

set_option maxHeartbeats 8000000 in
theorem gfRound_any {c n k : Int} (hc : I64 c) (W : World) : Calls Try.prog 4 #[.int .i64 c, .int .i64 n, .int .i64 k] W fun x w' => x = .returned (.bool true) ∧ Below W.heap.size W w' := by
  (refine calls_of (P := Try.prog) _ Try.func4 rfl Try.ntmps4 (Nat.le_of_ble_eq_true rfl) ?_; dsimp only [argE, Nat.reduceAdd])
  (refine Reach.walk ?_; (repeat (first | ((with_reducible refine AllSt.mk ?_); (try clear hS); intro w hS) | ((with_reducible refine AllVw.mk ?_); intro V hV))))
  (with_reducible apply WpL.call); (· exact rfl); (· exact Try.call14); (· exact Vals.found)
  refine (awake_any (St.start W)).mono ?_
  rintro x w ⟨rfl, hS⟩
  refine ⟨_, rfl, ?_⟩
  (refine Reach.walk ?_; (repeat (first | ((with_reducible refine AllSt.mk ?_); (try clear hS); intro w hS) | ((with_reducible refine AllVw.mk ?_); intro V hV))))
  (with_reducible apply WpL.call); (· exact rfl); (· exact Try.call15); (· exact Vals.found)
  refine (field_any hc hS).mono ?_
  clear hS
  rintro x w ⟨g, rfl, hI⟩
  refine ⟨_, rfl, ?_⟩
  have h := pickM_is c
  generalize pickM c = m at *
  have hs2 := Gf.sz_le h
  have hs3 := Gf.sz_ge h
  have hsa := Gf.sz_add h
  have hn := tmod_small (z := n) 1000000 (by decide)
  have hk := tmod_small (z := k) 1000000 (by decide)
  (refine Reach.walk ?_; (repeat (first | ((with_reducible refine AllSt.mk ?_); (try clear hS); intro w hS) | ((with_reducible refine AllVw.mk ?_); intro V hV))))
  ((with_reducible apply WpL.call); (· exact rfl); (· exact Try.call21); (· exact Vals.found)); (refine (sizeF h hI).mono ?_); clear hI; rintro x w ⟨rfl, hI⟩; (refine ⟨_, rfl, ?_⟩)
  (refine Reach.walk ?_; (repeat (first | ((with_reducible refine AllSt.mk ?_); (try clear hS); intro w hS) | ((with_reducible refine AllVw.mk ?_); intro V hV))))
  refine WpL.det rfl (Det.remW rfl rfl (by decide)) ?_
  (refine Reach.walk ?_; (repeat (first | ((with_reducible refine AllSt.mk ?_); (try clear hS); intro w hS) | ((with_reducible refine AllVw.mk ?_); intro V hV))))
  refine WpL.det rfl (Det.remW rfl rfl (by decide)) ?_
  (refine Reach.walk ?_; (repeat (first | ((with_reducible refine AllSt.mk ?_); (try clear hS); intro w hS) | ((with_reducible refine AllVw.mk ?_); intro V hV))))
  generalize Int.tmod n 1000000 = n' at *
  generalize Int.tmod k 1000000 = k' at *
  have hrs := round_same h n' k'
  have hround : turn m (n' + (Gf.sz m : Int)) = turn m n' := by unfold turn; rw [Int.add_emod_right]
  have ht0 : Gf.E m (turn m 0) = 1 := by rw [show turn m 0 = 0 by simp [turn]]; rfl
  have q1 : (decide ((Gf.E m (turn m n') : Int) = (Gf.E m (turn m k') : Int)) == decide ((n' - k').tmod (Gf.sz m : Int) = 0)) = true := by
    have hrs2 : (Gf.E m (turn m n') : Int) = (Gf.E m (turn m k') : Int) ↔ ((n' - k').tmod (Gf.sz m : Int) = 0) := Int.ofNat_inj.trans hrs
    simp only [hrs2, beq_self_eq_true]
  ((with_reducible apply WpL.call); (· exact rfl); (· exact Try.call22); (· exact Vals.found)); (refine (expF h rfl (by unfold I64; omega) hI).mono ?_); clear hI; rintro x w ⟨rfl, hI⟩; (refine ⟨_, rfl, ?_⟩)
  (refine Reach.walk ?_; (repeat (first | ((with_reducible refine AllSt.mk ?_); (try clear hS); intro w hS) | ((with_reducible refine AllVw.mk ?_); intro V hV))))
  ((with_reducible apply WpL.call); (· exact rfl); (· exact Try.call22); (· exact Vals.found)); (refine (expF h rfl (by unfold I64; omega) hI).mono ?_); clear hI; rintro x w ⟨rfl, hI⟩; (refine ⟨_, rfl, ?_⟩)
  (refine Reach.walk ?_; (repeat (first | ((with_reducible refine AllSt.mk ?_); (try clear hS); intro w hS) | ((with_reducible refine AllVw.mk ?_); intro V hV))))
  refine WpL.det rfl (Det.remW rfl rfl (by omega)) ?_
  (refine Reach.walk ?_; (repeat (first | ((with_reducible refine AllSt.mk ?_); (try clear hS); intro w hS) | ((with_reducible refine AllVw.mk ?_); intro V hV))))
  ((with_reducible apply WpL.call); (· exact rfl); (· exact Try.call22); (· exact Vals.found)); (refine (expF h rfl (by unfold I64; omega) hI).mono ?_); clear hI; rintro x w ⟨rfl, hI⟩; (refine ⟨_, rfl, ?_⟩)
  rw [hround]
  (refine Reach.walk ?_; (repeat (first | ((with_reducible refine AllSt.mk ?_); (try clear hS); intro w hS) | ((with_reducible refine AllVw.mk ?_); intro V hV))))
  ((with_reducible apply WpL.call); (· exact rfl); (· exact Try.call22); (· exact Vals.found)); (refine (expF h rfl (by unfold I64; omega) hI).mono ?_); clear hI; rintro x w ⟨rfl, hI⟩; (refine ⟨_, rfl, ?_⟩)
  (refine Reach.walk ?_; (repeat (first | ((with_reducible refine AllSt.mk ?_); (try clear hS); intro w hS) | ((with_reducible refine AllVw.mk ?_); intro V hV))))
  ((with_reducible apply WpL.call); (· exact rfl); (· exact Try.call22); (· exact Vals.found)); (refine (expF h ht0 (by unfold I64; omega) hI).mono ?_); clear hI; rintro x w ⟨rfl, hI⟩; (refine ⟨_, rfl, ?_⟩)
  (refine Reach.walk ?_; (repeat (first | ((with_reducible refine AllSt.mk ?_); (try clear hS); intro w hS) | ((with_reducible refine AllVw.mk ?_); intro V hV))))
  (with_reducible apply doneQ_one Try.results4); (· exact slotFound)
  exact ⟨by rfl, hI.toBelow⟩
end Go.Proofs.Ytkffgdccjgdiaaa
