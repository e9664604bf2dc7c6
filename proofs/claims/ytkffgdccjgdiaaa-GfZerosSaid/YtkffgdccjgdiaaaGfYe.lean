/-
  Generators: 0 and 1 alone, nought at the first powers, and they go into x to the field's size less 1.
-/
import Derived.Test.YtkffgdccjgdiaaaGfT
import Derived.Test.YtkffgdccjgdiaaaGfY
import Derived.Test.YtkffgdccjgdiaaaGfG
namespace Go.Proofs.Ytkffgdccjgdiaaa
open Go.Fk Go.RowKit
attribute [local irreducible] Wp WpL Det thenQ blockQ
end Go.Proofs.Ytkffgdccjgdiaaa
namespace Go.Gf
theorem divA_el {m : Nat} (h : Is m) {b : List Nat} (hb : El m b) {lb : Nat} : ∀ (k : Nat) (a q : List Nat), El m a → El m q → El m (divA b lb k a q)
  | 0, a, q, _, hq => hq
  | k + 1, [], q, _, hq => hq
  | k + 1, 0 :: r, q, ha, hq => divA_el h hb k r (0 :: q) (fun x hx => ha x (List.mem_cons_of_mem _ hx)) (fun x hx => by
      rcases List.mem_cons.1 hx with rfl | hx
      · exact ha 0 (List.mem_cons_self ..)
      · exact hq x hx)
  | k + 1, (x + 1) :: r, q, ha, hq => divA_el h hb k (addK b r) ((x + 1) :: q) (by
      rw [addK_eq]
      exact .of fun t => by rw [cf_addL]; exact Nat.xor_lt_two_pow (hb.cf t) (El.cf (fun x hx => ha x (List.mem_cons_of_mem _ hx)) t)) (fun y hy => by
      rcases List.mem_cons.1 hy with rfl | hy
      · exact ha _ (List.mem_cons_self ..)
      · exact hq y hy)
def allL (m : Nat) : List Nat := 1 :: (List.replicate (sz m - 1) 0 ++ [1])
theorem zeros_all {m : Nat} (h : Is m) (h9 : m ≤ 9) : zerosB m = true := by
  have h2 := h.lo
  obtain rfl | rfl | rfl | rfl | rfl | rfl | rfl | rfl : m = 2 ∨ m = 3 ∨ m = 4 ∨ m = 5 ∨ m = 6 ∨ m = 7 ∨ m = 8 ∨ m = 9 := by omega
  · exact zeros2
  · exact zeros3
  · exact zeros4
  · exact zeros5
  · exact zeros6
  · exact zeros7
  · exact zeros8
  · exact zeros9
theorem zeros_spec {m t : Nat} (h : Is m) (h9 : m ≤ 9) (ht1 : 1 ≤ t) (ht8 : t ≤ 8) (hts : 2 * t ≤ sz m) :
    (∀ i, cf (genP m (2 * t)) i ≤ 1) ∧ (∀ i, i < 2 * t → hor m (E m (i + 1)) (genP m (2 * t)) = 0) ∧ 1 < (genP m (2 * t)).length ∧ cf (genP m (2 * t)) ((genP m (2 * t)).length - 1) = 1 ∧ rest m (allL m) (genP m (2 * t)) = [] := by
  have hz := zeros_all h h9
  unfold zerosB at hz
  have hz1 := List.all_eq_true.1 hz (t - 1) (List.mem_range.2 (by omega))
  rw [show t - 1 + 1 = t by omega, Bool.or_eq_true] at hz1
  rcases hz1 with hz1 | hz1
  · have := Eq.mp Nat.blt_eq hz1; omega
  have hone := one_lt h
  have hpe := genP_el h (2 * t)
  unfold zeroB at hz1
  rw [genK_eq h] at hz1
  generalize genP m (2 * t) = p at *
  dsimp only at hz1
  have hal : El m (1 :: (List.replicate (sz m - 1) 0 ++ [1])) := fun x hx => by
    rcases List.mem_cons.1 hx with rfl | hx
    · exact hone
    · rcases List.mem_append.1 hx with hx | hx
      · rw [List.eq_of_mem_replicate hx]; omega
      · rw [List.mem_singleton.1 hx]; exact hone
  have hQe := divA_el h (b := p.reverse.drop 1) (lb := 0) (fun x hx => hpe x (List.mem_reverse.1 (List.mem_of_mem_drop hx))) (sz m + 2 - p.length) (1 :: (List.replicate (sz m - 1) 0 ++ [1])).reverse [] (fun x hx => hal x (List.mem_reverse.1 hx)) (fun x hx => by cases hx)
  generalize divA (p.reverse.drop 1) 0 (sz m + 2 - p.length) (1 :: (List.replicate (sz m - 1) 0 ++ [1])).reverse [] = Q at *
  rw [convK_eq h] at hz1
  simp only [Bool.and_eq_true] at hz1
  obtain ⟨⟨⟨⟨z1, z2⟩, z3⟩, z4⟩, z5⟩ := hz1
  have e3 : 1 < p.length := Eq.mp Nat.blt_eq z3
  have e4 : cf p (p.length - 1) = 1 := Nat.eq_of_beq_eq_true z4
  have e5 : trim (conv m Q p) = allL m := eq_of_beq z5
  refine ⟨fun i => ?_, fun i hi => ?_, e3, e4, ?_⟩
  · rcases Nat.lt_or_ge i p.length with hi | hi
    · rw [cf_get hi]; exact Nat.le_of_ble_eq_true (List.all_eq_true.1 z1 _ (List.getElem_mem hi))
    · rw [cf_over hi]; omega
  · have := Nat.eq_of_beq_eq_true (List.all_eq_true.1 z2 i (List.mem_range.2 hi))
    rwa [horK_eq h] at this
  · have hpt : Tr p := tl_of (fun t ht => cf_over ht) (fun _ => by rw [e4]; decide)
    unfold rest
    rw [hpt.eq, if_neg (fun e => by rw [e] at e3; exact absurd e3 (by decide)), ← e5, trim_trim]
    refine restL_product h hpe hpt (show Tr [] from (rfl : tl [] = 0)) (by simp; omega) Q.length Q _ hQe (El.trim (.of (conv_lt h Q p hQe))) (Tr.of_trim _) rfl fun t => ?_
    rw [cf_trim, rs_conv h, cf_nil, Nat.xor_zero]
theorem all_set {s : Nat} (hs : 1 ≤ s) : ((List.replicate (s + 1) (0 : Int)).set 0 1).set s 1 = (1 :: (List.replicate (s - 1) 0 ++ [1])) := by
  obtain ⟨k, rfl⟩ : ∃ k, s = k + 1 := ⟨s - 1, by omega⟩
  rw [Nat.add_sub_cancel, List.replicate_succ, List.set_cons_zero, List.set_cons_succ, List.replicate_succ', List.set_append_right _ _ (by simp)]
  simp
end Go.Gf
namespace Go.Proofs.Ytkffgdccjgdiaaa
open Go.Fk Go.RowKit
attribute [local irreducible] Wp WpL Det thenQ blockQ
set_option maxHeartbeats 2000000 in
theorem gfZeros_any {c t : Int} (hc0 : I64 c) (ht : I64 t) (W : World) : Calls Try.prog 11 #[.int .i64 c, .int .i64 t] W fun x w' => x = .returned (.bool true) ∧ Below W.heap.size W w' := by
  have hS0 := St.start W
  have hc8 : -8 < c.tmod 8 ∧ c.tmod 8 < 8 := ⟨Int.lt_tmod_of_pos c (by decide), Int.tmod_lt_of_pos c (by decide)⟩
  have hc : I64 (c.tmod 8) := ⟨by omega, by omega⟩
  have hm9 : pickM (c.tmod 8) ≤ 9 := by
    unfold pickM
    generalize c.tmod 8 = z at *
    split <;> omega
  (refine calls_of (P := Try.prog) _ Try.func11 rfl Try.ntmps11 (Nat.le_of_ble_eq_true rfl) ?_; dsimp only [argE, Nat.reduceAdd])
  (refine Reach.walk ?_; (repeat (first | ((with_reducible refine AllSt.mk ?_); (try clear hS); intro w hS) | ((with_reducible refine AllVw.mk ?_); intro V hV))))
  (with_reducible apply WpL.call); (· exact rfl); (· exact Try.call14); (· exact Vals.found)
  refine (awake_any hS0).mono ?_
  clear hS0
  rintro x0 w ⟨rfl, hS⟩
  refine ⟨_, rfl, ?_⟩
  (refine Reach.walk ?_; (repeat (first | ((with_reducible refine AllSt.mk ?_); (try clear hS); intro w hS) | ((with_reducible refine AllVw.mk ?_); intro V hV))))
  refine WpL.det rfl (Det.remW rfl rfl (by decide)) ?_
  (refine Reach.walk ?_; (repeat (first | ((with_reducible refine AllSt.mk ?_); (try clear hS); intro w hS) | ((with_reducible refine AllVw.mk ?_); intro V hV))))
  (with_reducible apply WpL.call); (· exact rfl); (· exact Try.call15); (· exact Vals.found)
  refine (field_any hc hS).mono ?_
  clear hS
  rintro x0 w ⟨g, rfl, hI⟩
  refine ⟨_, rfl, ?_⟩
  have h := pickM_is (c.tmod 8)
  generalize pickM (c.tmod 8) = m at *
  have hs2 := Gf.sz_le h
  have hs3 := Gf.sz_ge h
  have hsa := Gf.sz_add h
  (refine Reach.walk ?_; (repeat (first | ((with_reducible refine AllSt.mk ?_); (try clear hS); intro w hS) | ((with_reducible refine AllVw.mk ?_); intro V hV))))
  (with_reducible apply WpL.call); (· exact rfl); (· exact Try.call16); (· exact Vals.found)
  refine (generatorR_any h hI).mono ?_
  clear hI
  rintro x0 w ⟨A, ka, rfl, hA, hI⟩
  refine ⟨_, rfl, ?_⟩
  have hgl := genR_len h t
  by_cases hg : GenOk m t
  rotate_left
  · have hgr : genR m t = ([], 1) := by unfold genR; rw [if_neg hg]
    rw [hgr] at *
    dsimp only [List.length_nil] at *
    by_cases h1 : t < 1
    · (refine Reach.walk ?_; (repeat (first | ((with_reducible refine AllSt.mk ?_); (try clear hS); intro w hS) | ((with_reducible refine AllVw.mk ?_); intro V hV))))
      (with_reducible apply doneQ_one Try.results11); (· exact slotFound)
      exact ⟨rfl, hI.toBelow⟩
    by_cases h2 : 8 < t
    · (refine Reach.walk ?_; (repeat (first | ((with_reducible refine AllSt.mk ?_); (try clear hS); intro w hS) | ((with_reducible refine AllVw.mk ?_); intro V hV))))
      (with_reducible apply doneQ_one Try.results11); (· exact slotFound)
      exact ⟨rfl, hI.toBelow⟩
    have h3 : ¬ 2 * t ≤ Gf.sz m := fun h3 => hg ⟨by omega, by omega, h3⟩
    (refine Reach.walk ?_; (repeat (first | ((with_reducible refine AllSt.mk ?_); (try clear hS); intro w hS) | ((with_reducible refine AllVw.mk ?_); intro V hV))))
    ((with_reducible apply WpL.call); (· exact rfl); (· exact Try.call21); (· exact Vals.found)); (refine (sizeF h hI).mono ?_); clear hI; rintro x w ⟨rfl, hI⟩; (refine ⟨_, rfl, ?_⟩)
    (refine Reach.walk ?_; (repeat (first | ((with_reducible refine AllSt.mk ?_); (try clear hS); intro w hS) | ((with_reducible refine AllVw.mk ?_); intro V hV))))
    (with_reducible apply doneQ_one Try.results11); (· exact slotFound)
    exact ⟨by rw [decide_eq_true (by omega)], hI.toBelow⟩
  have hgr : genR m t = (Gf.genP m (2 * t.toNat), 0) := by unfold genR; rw [if_pos hg]
  rw [hgr] at hA hI hgl ⊢
  dsimp only at hA hI hgl ⊢
  clear hgr
  obtain ⟨n, rfl⟩ := Int.eq_ofNat_of_zero_le (show 0 ≤ t by have := hg.1; omega)
  rw [Int.toNat_natCast] at *
  obtain ⟨ht1, ht8, hts⟩ := hg
  obtain ⟨z1, z2, z3, z4, z5⟩ := Gf.zeros_spec h hm9 (t := n) (by omega) (by omega) (by omega)
  have hpe := pe_nv h (Gf.genP_el h (2 * n))
  generalize Gf.genP m (2 * n) = P at *
  (refine Reach.walk ?_; (repeat (first | ((with_reducible refine AllSt.mk ?_); (try clear hS); intro w hS) | ((with_reducible refine AllVw.mk ?_); intro V hV))))
  apply Wp.loopUp P.length (fun k e w' => FI W (feet []) g m [.own A P.length ka 3 1 (zv (nv P))] w' ∧ e.Has [(10, .int .i64 (k : Nat)), (8, .slice A P.length ka), (1, .int .i64 (n : Nat)), (6, .pointer (some ⟨g, 0, none⟩))]) (Nat.zero_le _)
    ⟨hI, rfl, rfl, rfl, rfl, trivial⟩
  clear hI
  rintro k e w hk ⟨hI, he⟩
  obtain ⟨e0, rfl⟩ := he.eq
  clear he
  dsimp only [Env.sets]
  by_cases hlt : k < P.length
  · have hget : (zv (nv P))[k]? = some (.int .i64 (Gf.cf P k : Nat)) := nv_cell hlt
    have hle := z1 k
    generalize Gf.cf P k = y at *
    obtain rfl | rfl : y = 0 ∨ y = 1 := by omega
    · (refine Reach.walk ?_; (repeat (first | ((with_reducible refine AllSt.mk ?_); (try clear hS); intro w hS) | ((with_reducible refine AllVw.mk ?_); intro V hV))))
      refine WpL.ldV (RdsV.whole (n := P.length) .own (by simp)) hI.rest hget rfl rfl ?_
      (refine Reach.walk ?_; (repeat (first | ((with_reducible refine AllSt.mk ?_); (try clear hS); intro w hS) | ((with_reducible refine AllVw.mk ?_); intro V hV))))
      exact ⟨hlt, hI, int_eq (by omega), rfl, rfl, rfl, trivial⟩
    · (refine Reach.walk ?_; (repeat (first | ((with_reducible refine AllSt.mk ?_); (try clear hS); intro w hS) | ((with_reducible refine AllVw.mk ?_); intro V hV))))
      refine WpL.ldV (RdsV.whole (n := P.length) .own (by simp)) hI.rest hget rfl rfl ?_
      (refine Reach.walk ?_; (repeat (first | ((with_reducible refine AllSt.mk ?_); (try clear hS); intro w hS) | ((with_reducible refine AllVw.mk ?_); intro V hV))))
      refine WpL.ldV (RdsV.whole (n := P.length) .own (by simp)) hI.rest hget rfl rfl ?_
      (refine Reach.walk ?_; (repeat (first | ((with_reducible refine AllSt.mk ?_); (try clear hS); intro w hS) | ((with_reducible refine AllVw.mk ?_); intro V hV))))
      exact ⟨hlt, hI, int_eq (by omega), rfl, rfl, rfl, trivial⟩
  obtain rfl : k = P.length := by omega
  (refine Reach.walk ?_; (repeat (first | ((with_reducible refine AllSt.mk ?_); (try clear hS); intro w hS) | ((with_reducible refine AllVw.mk ?_); intro V hV))))
  apply Wp.loopUp (2 * n) (fun k e w' => FI W (feet []) g m [.own A P.length ka 3 1 (zv (nv P))] w' ∧ e.Has [(11, .int .i64 ((k + 1 : Nat) : Int)), (8, .slice A P.length ka), (1, .int .i64 (n : Nat)), (6, .pointer (some ⟨g, 0, none⟩))]) (Nat.zero_le _)
    ⟨hI, rfl, rfl, rfl, rfl, trivial⟩
  clear hI
  rintro k e w hk2 ⟨hI, he⟩
  obtain ⟨e0, rfl⟩ := he.eq
  clear he
  dsimp only [Env.sets]
  by_cases hlt2 : k < 2 * n
  · have hEk : Gf.E m (turn m ((k + 1 : Nat) : Int)) = Gf.E m (k + 1) := by rw [turn_nat, ← Gf.E_mod h]
    have hEl := Gf.E_lt h (k + 1)
    have hz := z2 k hlt2
    generalize Gf.E m (k + 1) = E at *
    (refine Reach.walk ?_; (repeat (first | ((with_reducible refine AllSt.mk ?_); (try clear hS); intro w hS) | ((with_reducible refine AllVw.mk ?_); intro V hV))))
    ((with_reducible apply WpL.call); (· exact rfl); (· exact Try.call22); (· exact Vals.found)); (refine (expF h hEk ⟨by omega, by omega⟩ hI).mono ?_); clear hI; rintro x w ⟨rfl, hI⟩; (refine ⟨_, rfl, ?_⟩)
    (refine Reach.walk ?_; (repeat (first | ((with_reducible refine AllSt.mk ?_); (try clear hS); intro w hS) | ((with_reducible refine AllVw.mk ?_); intro V hV))))
    ((with_reducible apply WpL.call); (· exact rfl); (· exact Try.call26); (· exact Vals.found)); (refine (eval_any h (p := nv P) (by simp) hA (by omega) (.whole .own (by simp)) hI).mono ?_); clear hI; rintro x w ⟨rfl, hI⟩; (refine ⟨_, rfl, ?_⟩)
    rw [hpe, inE_nat h hEl, hz]
    (refine Reach.walk ?_; (repeat (first | ((with_reducible refine AllSt.mk ?_); (try clear hS); intro w hS) | ((with_reducible refine AllVw.mk ?_); intro V hV))))
    exact ⟨hlt2, hI, int_eq (by omega), rfl, rfl, rfl, trivial⟩
  obtain rfl : k = 2 * n := by omega
  (refine Reach.walk ?_; (repeat (first | ((with_reducible refine AllSt.mk ?_); (try clear hS); intro w hS) | ((with_reducible refine AllVw.mk ?_); intro V hV))))
  ((with_reducible apply WpL.call); (· exact rfl); (· exact Try.call21); (· exact Vals.found)); (refine (sizeF h hI).mono ?_); clear hI; rintro x w ⟨rfl, hI⟩; (refine ⟨_, rfl, ?_⟩)
  obtain ⟨F, hF, hS⟩ := hI
  (refine Reach.walk ?_; (repeat (first | ((with_reducible refine AllSt.mk ?_); (try clear hS); intro w hS) | ((with_reducible refine AllVw.mk ?_); intro V hV))))
  refine WpL.mk1 (bytes := 8) (n := Gf.sz m + 1) (z := .int .i64 0) hS rfl rfl rfl rfl rfl rfl (by omega) (by omega) ?_
  clear hS
  intro B w hB hS
  rw [replicate_zv] at hS
  (refine Reach.walk ?_; (repeat (first | ((with_reducible refine AllSt.mk ?_); (try clear hS); intro w hS) | ((with_reducible refine AllVw.mk ?_); intro V hV))))
  (with_reducible apply WpL.call); (· exact rfl); (· exact Try.call21); (· exact Vals.found)
  refine (size_any h (.there (lookM F)) hS).mono ?_
  rintro x0 w1 ⟨rfl, rfl⟩
  refine ⟨_, rfl, ?_⟩
  (refine Reach.walk ?_; (repeat (first | ((with_reducible refine AllSt.mk ?_); (try clear hS); intro w hS) | ((with_reducible refine AllVw.mk ?_); intro V hV))))
  rw [Gf.all_set (by omega)] at hS
  have hall : (1 :: (List.replicate (Gf.sz m - 1) (0 : Int) ++ [1])) = nv (Gf.allL m) := by simp [nv, Gf.allL]
  have halll : (Gf.allL m).length = Gf.sz m + 1 := by simp [Gf.allL]; omega
  have hale : pe m (nv (Gf.allL m)) = Gf.allL m := pe_nv h fun x hx => by
    have hone := Gf.one_lt h
    rcases List.mem_cons.1 hx with rfl | hx
    · exact hone
    · rcases List.mem_append.1 hx with hx | hx
      · rw [List.eq_of_mem_replicate hx]; omega
      · rw [List.mem_singleton.1 hx]; exact hone
  rw [hall] at hS
  clear hall
  have hI : FI W (feet []) g m [.own B (Gf.sz m + 1) (Gf.sz m + 1) 3 1 (zv (nv (Gf.allL m))), .own A P.length ka 3 1 (zv (nv P))] w := ⟨F, hF, hS.take (pre := [F.blk g m, F.p, F.l, .own B _ _ _ _ _]) Take.found⟩
  clear hS hF
  have hget : (zv (nv P))[P.length - 1]? = some (.int .i64 (Gf.cf P (P.length - 1) : Nat)) := nv_cell (by omega)
  rw [z4] at hget
  have hcp : (P.length : Int) - 1 = ((P.length - 1 : Nat) : Int) := by omega
  (refine Reach.walk ?_; (repeat (first | ((with_reducible refine AllSt.mk ?_); (try clear hS); intro w hS) | ((with_reducible refine AllVw.mk ?_); intro V hV))))
  refine WpL.ldV (RdsV.whole (n := P.length) .own (by simp)) hI.rest.tail hget rfl rfl ?_
  (refine Reach.walk ?_; (repeat (first | ((with_reducible refine AllSt.mk ?_); (try clear hS); intro w hS) | ((with_reducible refine AllVw.mk ?_); intro V hV))))
  (with_reducible apply WpL.call); (· exact rfl); (· exact Try.call40); (· exact Vals.found)
  refine (rest_any h (p := nv (Gf.allL m)) (q := nv P) (by simpa using halll) hB (by omega) (.whole .own (by simpa using halll)) (by simp) hA (by omega) (.there (.whole .own (by simp)) _) hI).mono ?_
  clear hI
  rintro x0 w ⟨C, kc, rfl, hC, hI⟩
  refine ⟨_, rfl, ?_⟩
  rw [hpe, hale, z5] at hC hI ⊢
  (refine Reach.walk ?_; (repeat (first | ((with_reducible refine AllSt.mk ?_); (try clear hS); intro w hS) | ((with_reducible refine AllVw.mk ?_); intro V hV))))
  (with_reducible apply doneQ_one Try.results11); (· exact slotFound)
  exact ⟨rfl, hI.toBelow⟩
end Go.Proofs.Ytkffgdccjgdiaaa
