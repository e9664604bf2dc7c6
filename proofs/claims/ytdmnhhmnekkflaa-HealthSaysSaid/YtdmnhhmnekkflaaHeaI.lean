/-
  What the document says of a device; HealthSays: the walks.
-/
import Derived.Test.YtdmnhhmnekkflaaHeaH
namespace Go.Proofs.Ytdmnhhmnekkflaa
open Go.Fk Go.RowKit
attribute [local irreducible] Wp WpL Det thenQ blockQ
theorem four_any (z : Int) {w w0 : World} {M : Nat → Prop} {L : List Ch} (hS : St w0 M w L) :
    Calls Try.prog 32 #[.int .i64 z] w fun x w' => ∃ A c, x = .returned (.slice A 4 c) ∧ IsVw A 4 c A 0 ∧ St w0 M w' (.own A 4 c 5 1 (bv (four z)) :: L) := by
  have hc : z < 0 ∨ 4294967295 < z ∨ (0 ≤ z ∧ z ≤ 4294967295) := by omega
  (refine calls_of (P := Try.prog) _ Try.func32 rfl Try.ntmps32 (Nat.le_of_ble_eq_true rfl) ?_; dsimp only [argE, Nat.reduceAdd])
  rcases hc with h | h | ⟨h, h'⟩
  · have e1 : four z = Crc.loB 0 4 := by unfold four clampN; rw [show (min (max z 0) 4294967295).toNat = 0 by omega]
    (refine Reach.walk ?_; (repeat (first | ((with_reducible refine AllSt.mk ?_); (try clear hS); intro w hS) | ((with_reducible refine AllVw.mk ?_); intro V hV))))
    (with_reducible apply WpL.call); (· exact rfl); (· exact Try.call29); (· exact Vals.found)
    refine (refLow_any 0 4 (by decide) (by decide) hS).mono ?_
    clear hS
    rintro x w ⟨A, c, rfl, hV, hS⟩
    refine ⟨_, rfl, ?_⟩
    (refine Reach.walk ?_; (repeat (first | ((with_reducible refine AllSt.mk ?_); (try clear hS); intro w hS) | ((with_reducible refine AllVw.mk ?_); intro V hV))))
    (with_reducible apply doneQ_one Try.results32); (· exact slotFound)
    rw [e1]
    exact ⟨A, c, rfl, hV, hS⟩
  · have e1 : four z = Crc.loB 4294967295 4 := by unfold four clampN; rw [show (min (max z 0) 4294967295).toNat = 4294967295 by omega]
    (refine Reach.walk ?_; (repeat (first | ((with_reducible refine AllSt.mk ?_); (try clear hS); intro w hS) | ((with_reducible refine AllVw.mk ?_); intro V hV))))
    (with_reducible apply WpL.call); (· exact rfl); (· exact Try.call29); (· exact Vals.found)
    refine (refLow_any 4294967295 4 (by decide) (by decide) hS).mono ?_
    clear hS
    rintro x w ⟨A, c, rfl, hV, hS⟩
    refine ⟨_, rfl, ?_⟩
    (refine Reach.walk ?_; (repeat (first | ((with_reducible refine AllSt.mk ?_); (try clear hS); intro w hS) | ((with_reducible refine AllVw.mk ?_); intro V hV))))
    (with_reducible apply doneQ_one Try.results32); (· exact slotFound)
    rw [e1]
    exact ⟨A, c, rfl, hV, hS⟩
  · obtain ⟨m, rfl⟩ := Int.eq_ofNat_of_zero_le h
    have e1 : four (m : Int) = Crc.loB m 4 := by unfold four clampN; rw [show (min (max (m : Int) 0) 4294967295).toNat = m by omega]
    (refine Reach.walk ?_; (repeat (first | ((with_reducible refine AllSt.mk ?_); (try clear hS); intro w hS) | ((with_reducible refine AllVw.mk ?_); intro V hV))))
    (with_reducible apply WpL.call); (· exact rfl); (· exact Try.call29); (· exact Vals.found)
    refine (refLow_any m 4 (by omega) (by decide) hS).mono ?_
    clear hS
    rintro x w ⟨A, c, rfl, hV, hS⟩
    refine ⟨_, rfl, ?_⟩
    (refine Reach.walk ?_; (repeat (first | ((with_reducible refine AllSt.mk ?_); (try clear hS); intro w hS) | ((with_reducible refine AllVw.mk ?_); intro V hV))))
    (with_reducible apply doneQ_one Try.results32); (· exact slotFound)
    rw [e1]
    exact ⟨A, c, rfl, hV, hS⟩

set_option maxRecDepth 8000 in
theorem refIdentify_any {A : Option Addr} {n c : Nat} {ss : List Sp} {c0 c1 c2 c3 c4 c5 c6 c7 c8 c9 c10 free : Int} {w w0 : World} {M : Nat → Prop} {L : List Ch} (hn : n ≤ ss.length) (hV : IsVw A n c A 0) (hlen : n ≤ 140737488355328) (hS : St w0 M w L) (hr : Rds L A (sv ss)) :
    Calls Try.prog 19 #[.agg #[.int .i64 c0, .int .i64 c1, .int .i64 c2, .int .i64 c3, .int .i64 c4, .int .i64 c5, .int .i64 c6, .int .i64 c7, .int .i64 c8, .int .i64 c9, .int .i64 c10], .int .i64 free, .slice A n c] w fun x w' =>
      ∃ A' c', x = .returned (.slice A' 256 c') ∧ IsVw A' 256 c' A' 0 ∧ St w0 M w' (.app A' 256 c' 5 1 (bv (ident [c7, c4, c5, c6, c0, c1, c2, c8, free, (n : Int)] (ss.take n))) :: L) := by
  (refine calls_of (P := Try.prog) _ Try.func19 rfl Try.ntmps19 (Nat.le_of_ble_eq_true rfl) ?_; dsimp only [argE, Nat.reduceAdd])
  (refine Reach.walk ?_; (repeat (first | ((with_reducible refine AllSt.mk ?_); (try clear hS); intro w hS) | ((with_reducible refine AllVw.mk ?_); intro V hV))))
  ((with_reducible apply WpL.bx); (· assumption); (· exact rfl); (· exact Env.found); (· exact rfl); clear hS)
  intro gc w hS
  (refine Reach.walk ?_; (repeat (first | ((with_reducible refine AllSt.mk ?_); (try clear hS); intro w hS) | ((with_reducible refine AllVw.mk ?_); intro V hV))))
  ((with_reducible apply WpL.bs); (· assumption); (· exact rfl); (· exact BVals.found); (· exact oneAll_spec rfl); (· exact rfl); (· decide); (· exact listFound); clear hS)
  intro Ab w hVb hS
  (refine Reach.walk ?_; (repeat (first | ((with_reducible refine AllSt.mk ?_); (try clear hS); intro w hS) | ((with_reducible refine AllVw.mk ?_); intro V hV))))
  ((with_reducible apply WpL.mark); (· assumption); (· exact rfl); (· exact rfl); (· exact Swap.found); (· decide); clear hS; intro w hS)
  (refine Reach.walk ?_; (repeat (first | ((with_reducible refine AllSt.mk ?_); (try clear hS); intro w hS) | ((with_reducible refine AllVw.mk ?_); intro V hV))))
  ((with_reducible apply WpL.bs); (· assumption); (· exact rfl); (· exact BVals.found); (· exact oneAll_spec rfl); (· exact rfl); (· decide); (· exact listFound); clear hS)
  intro An w hVn hS
  have hnl : [c7, c4, c5, c6, c0, c1, c2, c8, free, (n : Int)].length = 10 := rfl
  generalize [c7, c4, c5, c6, c0, c1, c2, c8, free, (n : Int)] = nums at *
  (refine Reach.walk ?_; (repeat (first | ((with_reducible refine AllSt.mk ?_); (try clear hS); intro w hS) | ((with_reducible refine AllVw.mk ?_); intro V hV))))
  replace hS := (hS.take (pre := [.app Ab _ _ _ _ _, .own An _ _ _ _ _]) Take.found)
  simp only [List.cons_append, List.nil_append] at hS
  replace hS := hS.drop2
  apply Wp.loopUp 10 (fun k e w' => ∃ Ab c', IsVw Ab (8 + 4 * k) c' Ab 0 ∧ St w0 M w' (.app Ab (8 + 4 * k) c' 5 1 (bv (firkinB ++ (nums.take k).flatMap four)) :: .own An 10 10 3 1 (zv nums) :: L) ∧
      e.Has [(9, .int .i64 (k : Nat)), (8, .slice An 10 10), (7, .slice Ab (8 + 4 * k) c'), (2, .slice A n c)]) (Nat.zero_le 10)
    ⟨Ab, 8, hVb, hS, rfl, rfl, rfl, rfl, trivial⟩
  clear hS hVb
  rintro k e w hk ⟨Ab, cb, hVb, hS, he⟩
  obtain ⟨e0, rfl⟩ := he.eq
  clear he
  dsimp only [Env.sets]
  have hfl : firkinB.length = 8 := rfl
  have h4k : ((nums.take k).flatMap four).length = 4 * k := by rw [flat_length four_length, List.length_take]; omega
  by_cases hlt : k < 10
  · have hf4 := four_length (nums.getD k 0)
    (refine Reach.walk ?_; (repeat (first | ((with_reducible refine AllSt.mk ?_); (try clear hS); intro w hS) | ((with_reducible refine AllVw.mk ?_); intro V hV))))
    (with_reducible apply WpL.call); (· exact rfl); (· exact Try.call32); (· exact Vals.found)
    refine (four_any _ hS).mono ?_
    clear hS
    rintro x w ⟨A2, c2', rfl, hV2, hS⟩
    refine ⟨_, rfl, ?_⟩
    (refine Reach.walk ?_; (repeat (first | ((with_reducible refine AllSt.mk ?_); (try clear hS); intro w hS) | ((with_reducible refine AllVw.mk ?_); intro V hV))))
    ((with_reducible apply WpL.appA); (· assumption); (· exact rfl); (· exact rfl); (· exact rfl); (· exact Sel.found); (· simp only [Nat.mul_one]; exact RdsV.found); (· exact onesFound); (· exact catFound); (· omega); (· omega); clear hS)
    intro A3 c3' w hV3 hS
    (refine Reach.walk ?_; (repeat (first | ((with_reducible refine AllSt.mk ?_); (try clear hS); intro w hS) | ((with_reducible refine AllVw.mk ?_); intro V hV))))
    exact ⟨hlt, A3, c3', hV3, by rw [flat_snoc four nums 0 (by omega), ← List.append_assoc]; exact hS.drop1, int_eq (by omega), rfl, rfl, rfl, trivial⟩
  obtain rfl : k = 10 := by omega
  rw [List.take_of_length_le (by omega)] at hS h4k
  generalize hhead : firkinB ++ nums.flatMap four = head at *
  have hhl : head.length = 48 := by rw [← hhead, List.length_append]; omega
  clear h4k
  (refine Reach.walk ?_; (repeat (first | ((with_reducible refine AllSt.mk ?_); (try clear hS); intro w hS) | ((with_reducible refine AllVw.mk ?_); intro V hV))))
  obtain ⟨m, hm0⟩ : ∃ m, m = min n 16 := ⟨_, rfl⟩
  apply Wp.loopUp m (fun j e w' => ∃ Ab c', IsVw Ab (48 + 9 * j) c' Ab 0 ∧ St w0 M w' (.app Ab (48 + 9 * j) c' 5 1 (bv (head ++ (ss.take j).flatMap spaceB)) :: L) ∧
      e.Has [(10, .int .i64 (j : Nat)), (7, .slice Ab (48 + 9 * j) c'), (2, .slice A n c)]) (Nat.zero_le m)
    ⟨Ab, cb, hVb, by simpa using hS.drop1, rfl, rfl, rfl, trivial⟩
  clear hS hVb
  rintro j e w hj ⟨Ab, cb, hVb, hS, he⟩
  obtain ⟨e0, rfl⟩ := he.eq
  clear he
  dsimp only [Env.sets]
  have h9j : ((ss.take j).flatMap spaceB).length = 9 * j := by rw [flat_length spaceB_length, List.length_take]; omega
  (repeat (with_reducible apply Wp.seq))
  refine Wp.cut (fun e' w' => w' = w ∧ e'.Has [(60, .bool (decide (j < m))), (10, .int .i64 (j : Nat)), (7, .slice Ab (48 + 9 * j) cb), (2, .slice A n c)]) ?_ ?_
  · have h : (¬ j < n) ∨ (j < n ∧ ¬ j < 16) ∨ (j < n ∧ j < 16) := by omega
    rcases h with h1 | ⟨h1, h2⟩ | ⟨h1, h2⟩
    all_goals
      (refine Reach.walk ?_; (repeat (first | ((with_reducible refine AllSt.mk ?_); (try clear hS); intro w hS) | ((with_reducible refine AllVw.mk ?_); intro V hV))))
      exact ⟨rfl, bool_eq (by first | exact decide_eq_decide.2 (by omega) | exact (decide_eq_false (by omega)).symm | exact (decide_eq_true (by omega)).symm), rfl, rfl, rfl, trivial⟩
  rintro e w' ⟨rfl, he⟩
  obtain ⟨e0, rfl⟩ := he.eq
  clear he
  dsimp only [Env.sets]
  by_cases hlt : j < m
  · have hk0 : ∀ c, Look (c :: L) ((adr A).add (0 + j * 3 + 0)) (.int .i64 (ss.getD j (0, 0, 0)).1) := fun c => .there (hr.look (by rw [show 0 + j * 3 + 0 = j * 3 + 0 by omega, sv_get (by omega) (by decide)]; rfl))
    have hk1 : ∀ c, Look (c :: L) ((adr A).add (0 + j * 3 + 1)) (.int .i64 (ss.getD j (0, 0, 0)).2.1) := fun c => .there (hr.look (by rw [show 0 + j * 3 + 1 = j * 3 + 1 by omega, sv_get (by omega) (by decide)]; rfl))
    have hk2 : ∀ c, Look (c :: L) ((adr A).add (0 + j * 3 + 2)) (.int .i64 (ss.getD j (0, 0, 0)).2.2) := fun c => .there (hr.look (by rw [show 0 + j * 3 + 2 = j * 3 + 2 by omega, sv_get (by omega) (by decide)]; rfl))
    generalize hsp : ss.getD j (0, 0, 0) = sp at *
    (refine Reach.walk ?_; (repeat (first | ((with_reducible refine AllSt.mk ?_); (try clear hS); intro w hS) | ((with_reducible refine AllVw.mk ?_); intro V hV))))
    refine WpL.ld hS rfl rfl (hk0 _) ?_
    (refine Reach.walk ?_; (repeat (first | ((with_reducible refine AllSt.mk ?_); (try clear hS); intro w hS) | ((with_reducible refine AllVw.mk ?_); intro V hV))))
    refine Wp.cut (fun e' w2 => w2 = w' ∧ e'.Has [(11, .int .i64 (max sp.1 0)), (10, .int .i64 (j : Nat)), (7, .slice Ab (48 + 9 * j) cb), (2, .slice A n c)]) ?_ ?_
    · by_cases h : sp.1 < 0
      · (refine Reach.walk ?_; (repeat (first | ((with_reducible refine AllSt.mk ?_); (try clear hS); intro w hS) | ((with_reducible refine AllVw.mk ?_); intro V hV))))
        exact ⟨rfl, int_eq (by omega), rfl, rfl, rfl, trivial⟩
      · (refine Reach.walk ?_; (repeat (first | ((with_reducible refine AllSt.mk ?_); (try clear hS); intro w hS) | ((with_reducible refine AllVw.mk ?_); intro V hV))))
        exact ⟨rfl, int_eq (by omega), rfl, rfl, rfl, trivial⟩
    rintro e w2 ⟨rfl, he⟩
    obtain ⟨e0, rfl⟩ := he.eq
    clear he
    dsimp only [Env.sets]
    (refine Reach.walk ?_; (repeat (first | ((with_reducible refine AllSt.mk ?_); (try clear hS); intro w hS) | ((with_reducible refine AllVw.mk ?_); intro V hV))))
    refine Wp.cut (fun e' w3 => w3 = w2 ∧ e'.Has [(11, .int .i64 (clamp8 sp.1 : Nat)), (10, .int .i64 (j : Nat)), (7, .slice Ab (48 + 9 * j) cb), (2, .slice A n c)]) ?_ ?_
    · by_cases h : 255 < max sp.1 0
      · (refine Reach.walk ?_; (repeat (first | ((with_reducible refine AllSt.mk ?_); (try clear hS); intro w hS) | ((with_reducible refine AllVw.mk ?_); intro V hV))))
        exact ⟨rfl, int_eq (by unfold clamp8; omega), rfl, rfl, rfl, trivial⟩
      · (refine Reach.walk ?_; (repeat (first | ((with_reducible refine AllSt.mk ?_); (try clear hS); intro w hS) | ((with_reducible refine AllVw.mk ?_); intro V hV))))
        exact ⟨rfl, int_eq (by unfold clamp8; omega), rfl, rfl, rfl, trivial⟩
    rintro e w3 ⟨rfl, he⟩
    obtain ⟨e0, rfl⟩ := he.eq
    clear he
    dsimp only [Env.sets]
    have hc8 : clamp8 sp.1 < 256 := by unfold clamp8; omega
    have hf1 := four_length sp.2.1
    have hf2 := four_length sp.2.2
    (refine Reach.walk ?_; (repeat (first | ((with_reducible refine AllSt.mk ?_); (try clear hS); intro w hS) | ((with_reducible refine AllVw.mk ?_); intro V hV))))
    ((with_reducible apply WpL.bs); (· assumption); (· exact rfl); (· exact BVals.found); (· exact oneAll_spec rfl); (· exact rfl); (· decide); (· exact listFound); clear hS)
    intro A2 w hV2 hS
    (refine Reach.walk ?_; (repeat (first | ((with_reducible refine AllSt.mk ?_); (try clear hS); intro w hS) | ((with_reducible refine AllVw.mk ?_); intro V hV))))
    ((with_reducible apply WpL.appA); (· assumption); (· exact rfl); (· exact rfl); (· exact rfl); (· exact Sel.found); (· simp only [Nat.mul_one]; exact RdsV.found); (· exact onesFound); (· exact catFound); (· omega); (· omega); clear hS)
    intro A3 c3' w hV3 hS
    replace hS := hS.drop1
    (refine Reach.walk ?_; (repeat (first | ((with_reducible refine AllSt.mk ?_); (try clear hS); intro w hS) | ((with_reducible refine AllVw.mk ?_); intro V hV))))
    refine WpL.ld hS rfl rfl (hk2 _) ?_
    (refine Reach.walk ?_; (repeat (first | ((with_reducible refine AllSt.mk ?_); (try clear hS); intro w hS) | ((with_reducible refine AllVw.mk ?_); intro V hV))))
    (with_reducible apply WpL.call); (· exact rfl); (· exact Try.call32); (· exact Vals.found)
    refine (four_any _ hS).mono ?_
    clear hS
    rintro x w ⟨A4, c4', rfl, hV4, hS⟩
    refine ⟨_, rfl, ?_⟩
    (refine Reach.walk ?_; (repeat (first | ((with_reducible refine AllSt.mk ?_); (try clear hS); intro w hS) | ((with_reducible refine AllVw.mk ?_); intro V hV))))
    ((with_reducible apply WpL.appA); (· assumption); (· exact rfl); (· exact rfl); (· exact rfl); (· exact Sel.found); (· simp only [Nat.mul_one]; exact RdsV.found); (· exact onesFound); (· exact catFound); (· omega); (· omega); clear hS)
    intro A5 c5' w hV5 hS
    replace hS := hS.drop1
    (refine Reach.walk ?_; (repeat (first | ((with_reducible refine AllSt.mk ?_); (try clear hS); intro w hS) | ((with_reducible refine AllVw.mk ?_); intro V hV))))
    refine WpL.ld hS rfl rfl (hk1 _) ?_
    (refine Reach.walk ?_; (repeat (first | ((with_reducible refine AllSt.mk ?_); (try clear hS); intro w hS) | ((with_reducible refine AllVw.mk ?_); intro V hV))))
    (with_reducible apply WpL.call); (· exact rfl); (· exact Try.call32); (· exact Vals.found)
    refine (four_any _ hS).mono ?_
    clear hS
    rintro x w ⟨A6, c6', rfl, hV6, hS⟩
    refine ⟨_, rfl, ?_⟩
    (refine Reach.walk ?_; (repeat (first | ((with_reducible refine AllSt.mk ?_); (try clear hS); intro w hS) | ((with_reducible refine AllVw.mk ?_); intro V hV))))
    ((with_reducible apply WpL.appA); (· assumption); (· exact rfl); (· exact rfl); (· exact rfl); (· exact Sel.found); (· simp only [Nat.mul_one]; exact RdsV.found); (· exact onesFound); (· exact catFound); (· omega); (· omega); clear hS)
    intro A7 c7' w hV7 hS
    replace hS := hS.drop1
    (refine Reach.walk ?_; (repeat (first | ((with_reducible refine AllSt.mk ?_); (try clear hS); intro w hS) | ((with_reducible refine AllVw.mk ?_); intro V hV))))
    refine ⟨hlt, A7, c7', hV7, ?_, int_eq (by omega), rfl, rfl, trivial⟩
    rw [flat_snoc spaceB ss (0, 0, 0) (by omega), hsp, ← List.append_assoc]
    simp only [spaceB, ← List.append_assoc]
    exact hS
  · obtain rfl : j = m := by omega
    (refine Reach.walk ?_; (repeat (first | ((with_reducible refine AllSt.mk ?_); (try clear hS); intro w hS) | ((with_reducible refine AllVw.mk ?_); intro V hV))))
    generalize hall : head ++ (ss.take j).flatMap spaceB = all at *
    have hal : all.length = 48 + 9 * j := by rw [← hall, List.length_append]; omega
    apply Wp.loopUp (256 - (48 + 9 * j)) (fun i e w' => ∃ Ab c', IsVw Ab (48 + 9 * j + i) c' Ab 0 ∧ St w0 M w' (.app Ab (48 + 9 * j + i) c' 5 1 (bv (all ++ List.replicate i 0)) :: L) ∧
        e.Has [(7, .slice Ab (48 + 9 * j + i) c')]) (Nat.zero_le _)
      ⟨Ab, cb, hVb, by simpa using hS, rfl, trivial⟩
    clear hS hVb
    rintro i e w hi ⟨Ab, cb, hVb, hS, he⟩
    obtain ⟨e0, rfl⟩ := he.eq
    clear he
    dsimp only [Env.sets]
    by_cases hli : i < 256 - (48 + 9 * j)
    · (refine Reach.walk ?_; (repeat (first | ((with_reducible refine AllSt.mk ?_); (try clear hS); intro w hS) | ((with_reducible refine AllVw.mk ?_); intro V hV))))
      ((with_reducible apply WpL.bs); (· assumption); (· exact rfl); (· exact BVals.found); (· exact oneAll_spec rfl); (· exact rfl); (· decide); (· exact listFound); clear hS)
      intro A2 w hV2 hS
      (refine Reach.walk ?_; (repeat (first | ((with_reducible refine AllSt.mk ?_); (try clear hS); intro w hS) | ((with_reducible refine AllVw.mk ?_); intro V hV))))
      ((with_reducible apply WpL.appA); (· assumption); (· exact rfl); (· exact rfl); (· exact rfl); (· exact Sel.found); (· simp only [Nat.mul_one]; exact RdsV.found); (· exact onesFound); (· exact catFound); (· omega); (· omega); clear hS)
      intro A3 c3' w hV3 hS
      replace hS := hS.drop1
      (refine Reach.walk ?_; (repeat (first | ((with_reducible refine AllSt.mk ?_); (try clear hS); intro w hS) | ((with_reducible refine AllVw.mk ?_); intro V hV))))
      refine ⟨hli, A3, c3', hV3, ?_, rfl, trivial⟩
      rw [List.replicate_succ', ← List.append_assoc]
      exact hS
    · obtain rfl : i = 256 - (48 + 9 * j) := by omega
      (refine Reach.walk ?_; (repeat (first | ((with_reducible refine AllSt.mk ?_); (try clear hS); intro w hS) | ((with_reducible refine AllVw.mk ?_); intro V hV))))
      (with_reducible apply doneQ_one Try.results19); (· exact slotFound)
      have e1 : 48 + 9 * j + (256 - (48 + 9 * j)) = 256 := by omega
      have e2 : ident nums (ss.take n) = all ++ List.replicate (256 - (48 + 9 * j)) 0 := by
        unfold ident identB
        rw [List.take_take, hhead, Nat.min_comm, ← hm0, hall, hal]
      rw [e1] at hVb hS ⊢
      rw [e2]
      exact ⟨Ab, cb, rfl, hVb, hS⟩
end Go.Proofs.Ytdmnhhmnekkflaa
