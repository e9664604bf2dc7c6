/-
  Least polynomials and generators: the document's.
-/
import Derived.Test.YtkffgdccjgdiaaaGfW
import Derived.Test.YtkffgdccjgdiaaaGfX
namespace Go.Proofs.Ytkffgdccjgdiaaa
open Go.Fk Go.RowKit
attribute [local irreducible] Wp WpL Det thenQ blockQ
section
variable {w w0 : World} {M : Nat → Prop} {L : List Ch} {m g : Nat} {F : FS}
theorem refMinimal_any (h : Gf.Is m) {z : Int} (hS : St w0 M w L) :
    Calls Try.prog 20 #[.int .i64 (m : Int), .int .i64 z] w fun x w' => ∃ A k, x = .returned (.slice A (Gf.minimal m (turn m z)).length k) ∧ IsVw A (Gf.minimal m (turn m z)).length k A 0 ∧
      St w0 M w' (.own A (Gf.minimal m (turn m z)).length k 3 1 (zv (nv (Gf.minimal m (turn m z)))) :: L) := by
  have hs3 := Gf.sz_ge h
  have hs2 := Gf.sz_le h
  have hsa := Gf.sz_add h
  have htu := turn_lt h z
  (refine calls_of (P := Try.prog) _ Try.func20 rfl Try.ntmps20 (Nat.le_of_ble_eq_true rfl) ?_; dsimp only [argE, Nat.reduceAdd])
  (refine Reach.walk ?_; (repeat (first | ((with_reducible refine AllSt.mk ?_); (try clear hS); intro w hS) | ((with_reducible refine AllVw.mk ?_); intro V hV))))
  ((with_reducible apply WpL.call); (· exact rfl); (· exact Try.call37); (· exact Vals.found)); (refine (refExp_any h _ _).mono ?_); (rintro x w1 ⟨rfl, rfl⟩); (refine ⟨_, rfl, ?_⟩)
  generalize turn m z = n at *
  (refine Reach.walk ?_; (repeat (first | ((with_reducible refine AllSt.mk ?_); (try clear hS); intro w hS) | ((with_reducible refine AllVw.mk ?_); intro V hV))))
  ((with_reducible apply WpL.bs); (· assumption); (· exact rfl); (· exact BVals.found); (· exact oneAll_spec rfl); (· exact rfl); (· decide); (· exact listFound); clear hS)
  intro A w hA hS
  have h0 := Gf.ke_zero h htu
  obtain ⟨ho1, ho2, ho3, ho4⟩ := Gf.ords_spec h htu
  (refine Reach.walk ?_; (repeat (first | ((with_reducible refine AllSt.mk ?_); (try clear hS); intro w hS) | ((with_reducible refine AllVw.mk ?_); intro V hV))))
  apply Wp.loopUp (Gf.ords m n) (fun i e w' => i < Gf.ords m n ∧ ∃ A c, IsVw A (Gf.minP m n i).length c A 0 ∧ St w0 M w' (.own A (Gf.minP m n i).length c 3 1 (zv (nv (Gf.minP m n i))) :: L) ∧
      e.Has [(7, .slice A (Gf.minP m n i).length c), (6, .int .i64 (Gf.E m (Gf.ke m n i) : Nat)), (5, .int .i64 (Gf.E m n : Nat)), (0, .int .i64 (m : Int))]) (Nat.zero_le _)
    ⟨ho1, A, 1, hA, hS, rfl, int_eq (by rw [h0]), rfl, rfl, trivial⟩
  clear hS hA
  rintro i e w1 hi ⟨hio, A, c, hA, hS, he⟩
  obtain ⟨e0, rfl⟩ := he.eq
  clear he
  dsimp only [Env.sets]
  have hlen := Gf.minP_len h n i
  have hkl2 : Gf.ke m n (i + 1) < Gf.sz m := Nat.mod_lt _ (by omega)
  have hks := Gf.E_ke_succ h n i
  have hEl := Gf.E_lt h (Gf.ke m n i)
  have h13 := h.hi
  have hel := Gf.minP_el h n i
  have hstep : Gf.minP m n (i + 1) = Gf.times m (Gf.minP m n i) [Gf.E m (Gf.ke m n i), 1] := rfl
  have hel2 : Gf.El m [Gf.E m (Gf.ke m n i), 1] := fun x hx => by
    rcases List.mem_cons.1 hx with rfl | hx
    · exact hEl
    · rw [List.mem_singleton.1 hx]; exact Gf.one_lt h
  have hiff : Gf.E m (Gf.ke m n (i + 1)) = Gf.E m n ↔ i + 1 = Gf.ords m n := ⟨fun h1 => Nat.le_antisymm hio (Nat.not_lt.1 fun hlt => ho4 (i + 1) (by omega) hlt (Gf.E_inj h hkl2 htu h1)), fun h1 => by rw [h1, ho3]⟩
  have hmin : i + 1 = Gf.ords m n → Gf.minP m n (i + 1) = Gf.minimal m n := fun h1 => by rw [h1]; rfl
  generalize Gf.minP m n (i + 1) = P' at *
  generalize Gf.minP m n i = P at *
  generalize Gf.minimal m n = tgt at *
  generalize Gf.E m (Gf.ke m n (i + 1)) = E' at *
  generalize Gf.E m (Gf.ke m n i) = E at *
  generalize Gf.E m n = E0 at *
  (refine Reach.walk ?_; (repeat (first | ((with_reducible refine AllSt.mk ?_); (try clear hS); intro w hS) | ((with_reducible refine AllVw.mk ?_); intro V hV))))
  ((with_reducible apply WpL.bs); (· assumption); (· exact rfl); (· exact BVals.found); (· exact oneAll_spec rfl); (· exact rfl); (· decide); (· exact listFound); clear hS)
  intro B w hB hS
  have h2 : St w0 M w (.own B 2 2 3 1 (zv (nv [E, 1])) :: .own A P.length c 3 1 (zv (nv P)) :: L) := hS
  clear hS
  (refine Reach.walk ?_; (repeat (first | ((with_reducible refine AllSt.mk ?_); (try clear hS); intro w hS) | ((with_reducible refine AllVw.mk ?_); intro V hV))))
  (with_reducible apply WpL.call); (· exact rfl); (· exact Try.call39); (· exact Vals.found)
  refine (refTimes_any h (p := nv P) (q := nv [E, 1]) (by simp) hA (by omega) (.there (.whole .own (by simp)) _) (by simp) hB (by omega) (.whole .own (by simp)) h2).mono ?_
  clear h2
  rintro x w3 ⟨A', c', rfl, hA', hS⟩
  refine ⟨_, rfl, ?_⟩
  rw [pe_nv h hel, pe_nv h hel2, ← hstep] at *
  replace hS := hS.sub (.cons_cons _ ((List.sublist_cons_self _ _).trans (List.sublist_cons_self _ _)))
  (refine Reach.walk ?_; (repeat (first | ((with_reducible refine AllSt.mk ?_); (try clear hS); intro w hS) | ((with_reducible refine AllVw.mk ?_); intro V hV))))
  ((with_reducible apply WpL.call); (· exact rfl); (· exact Try.call31); (· exact Vals.found)); (refine (refMul_any h _ _ _).mono ?_); (rintro x w1 ⟨rfl, rfl⟩); (refine ⟨_, rfl, ?_⟩)
  rw [inE_nat h hEl, ← hks]
  by_cases hd : i + 1 = Gf.ords m n
  · have hkn := hiff.2 hd
    have := hmin hd
    subst this
    subst hkn
    (refine Reach.walk ?_; (repeat (first | ((with_reducible refine AllSt.mk ?_); (try clear hS); intro w hS) | ((with_reducible refine AllVw.mk ?_); intro V hV))))
    (with_reducible apply doneQ_one Try.results20); (· exact slotFound)
    exact ⟨A', c', rfl, hA', hS⟩
  · have hkn : ¬ E' = E0 := fun h1 => hd (hiff.1 h1)
    (refine Reach.walk ?_; (repeat (first | ((with_reducible refine AllSt.mk ?_); (try clear hS); intro w hS) | ((with_reducible refine AllVw.mk ?_); intro V hV))))
    exact ⟨hio, by omega, A', c', hA', hS, rfl, rfl, rfl, rfl, trivial⟩

/-- A generator, and its error. -/
def genR (m : Nat) (t : Int) : List Nat × Int := if GenOk m t then (Gf.genP m (2 * t.toNat), 0) else ([], 1)
theorem genR_len (h : Gf.Is m) (t : Int) : (genR m t).1.length ≤ 300 := by
  unfold genR
  split
  · rename_i hg
    obtain ⟨h1, h2, h3⟩ := hg
    have := Gf.genP_len h (2 * t.toNat)
    dsimp only
    omega
  · exact Nat.zero_le _
theorem generatorR_any (h : Gf.Is m) {t : Int} (hI : FI w0 M g m L w) :
    Calls Try.prog 16 #[.pointer (some ⟨g, 0, none⟩), .int .i64 t] w fun x w' => ∃ A k, x = .returned (.tuple #[.slice A (genR m t).1.length k, .int .i64 (genR m t).2]) ∧ IsVw A (genR m t).1.length k A 0 ∧
      FI w0 M g m (.own A (genR m t).1.length k 3 1 (zv (nv (genR m t).1)) :: L) w' := by
  unfold genR
  by_cases hg : GenOk m t
  · obtain ⟨n, rfl⟩ := Int.eq_ofNat_of_zero_le (show 0 ≤ t by have := hg.1; omega)
    rw [if_pos hg, Int.toNat_natCast]
    exact generator_any h hg hI
  · rw [if_neg hg]
    obtain ⟨F, hF, hS⟩ := hI
    refine (generator_not h hg hF hS).mono ?_
    rintro x w1 ⟨rfl, rfl⟩
    exact ⟨none, 0, rfl, IsVw.nil, FI.nil_ ⟨F, hF, hS⟩⟩
theorem refGeneratorR_any (h : Gf.Is m) {t : Int} (hS : St w0 M w L) :
    Calls Try.prog 17 #[.int .i64 (m : Int), .int .i64 t] w fun x w' => ∃ A k, x = .returned (.tuple #[.slice A (genR m t).1.length k, .int .i64 (genR m t).2]) ∧ IsVw A (genR m t).1.length k A 0 ∧
      St w0 M w' (.own A (genR m t).1.length k 3 1 (zv (nv (genR m t).1)) :: L) := by
  have hs2 := Gf.sz_le h
  have hs3 := Gf.sz_ge h
  have hsa := Gf.sz_add h
  obtain ⟨e1, e2, e3⟩ := shl_sz h
  have hlo := h.lo
  have hhi := h.hi
  unfold genR
  by_cases hg : GenOk m t
  rotate_left
  · rw [if_neg hg]
    (refine calls_of (P := Try.prog) _ Try.func17 rfl Try.ntmps17 (Nat.le_of_ble_eq_true rfl) ?_; dsimp only [argE, Nat.reduceAdd])
    by_cases h1 : t < 1
    · (refine Reach.walk ?_; (repeat (first | ((with_reducible refine AllSt.mk ?_); (try clear hS); intro w hS) | ((with_reducible refine AllVw.mk ?_); intro V hV))))
      (with_reducible apply doneQ_two Try.results17); (· exact slotFound); (· exact slotFound)
      exact ⟨none, 0, rfl, IsVw.nil, hS.nil_⟩
    by_cases h2 : 8 < t
    · (refine Reach.walk ?_; (repeat (first | ((with_reducible refine AllSt.mk ?_); (try clear hS); intro w hS) | ((with_reducible refine AllVw.mk ?_); intro V hV))))
      (with_reducible apply doneQ_two Try.results17); (· exact slotFound); (· exact slotFound)
      exact ⟨none, 0, rfl, IsVw.nil, hS.nil_⟩
    have h3 : ¬ 2 * t ≤ Gf.sz m := fun h3 => hg ⟨by omega, by omega, h3⟩
    (refine Reach.walk ?_; (repeat (first | ((with_reducible refine AllSt.mk ?_); (try clear hS); intro w hS) | ((with_reducible refine AllVw.mk ?_); intro V hV))))
    (with_reducible apply doneQ_two Try.results17); (· exact slotFound); (· exact slotFound)
    exact ⟨none, 0, rfl, IsVw.nil, hS.nil_⟩
  obtain ⟨t, rfl⟩ := Int.eq_ofNat_of_zero_le (show 0 ≤ t by have := hg.1; omega)
  rw [if_pos hg, Int.toNat_natCast]
  obtain ⟨ht1, ht8, hts⟩ := hg
  (refine calls_of (P := Try.prog) _ Try.func17 rfl Try.ntmps17 (Nat.le_of_ble_eq_true rfl) ?_; dsimp only [argE, Nat.reduceAdd])
  (refine Reach.walk ?_; (repeat (first | ((with_reducible refine AllSt.mk ?_); (try clear hS); intro w hS) | ((with_reducible refine AllVw.mk ?_); intro V hV))))
  ((with_reducible apply WpL.bs); (· assumption); (· exact rfl); (· exact BVals.found); (· exact oneAll_spec rfl); (· exact rfl); (· decide); (· exact listFound); clear hS)
  intro A w hA hS
  (refine Reach.walk ?_; (repeat (first | ((with_reducible refine AllSt.mk ?_); (try clear hS); intro w hS) | ((with_reducible refine AllVw.mk ?_); intro V hV))))
  apply Wp.loopUp (2 * t) (fun k e w' => ∃ A c, IsVw A (Gf.genP m k).length c A 0 ∧ St w0 M w' (.own A (Gf.genP m k).length c 3 1 (zv (nv (Gf.genP m k))) :: L) ∧
      e.Has [(6, .slice A (Gf.genP m k).length c), (7, .int .i64 ((k + 1 : Nat) : Int)), (1, .int .i64 (t : Nat)), (0, .int .i64 (m : Int))]) (Nat.zero_le _)
    ⟨A, 1, hA, hS, rfl, rfl, rfl, rfl, trivial⟩
  clear hS hA
  rintro k e w1 hk ⟨A, c, hA, hS, he⟩
  obtain ⟨e0, rfl⟩ := he.eq
  clear he
  dsimp only [Env.sets]
  have hlen := Gf.genP_len h k
  have hel := Gf.genP_el h k
  by_cases hlt : k < 2 * t
  · have hstep : Gf.genP m (k + 1) = if Gf.hor m (Gf.E m (k + 1)) (Gf.genP m k) = 0 then Gf.genP m k else Gf.times m (Gf.genP m k) (Gf.minimal m ((k + 1) % Gf.sz m)) := rfl
    have hkm : (k + 1) % Gf.sz m < Gf.sz m := Nat.mod_lt _ (by omega)
    have hEm := Gf.E_mod h (k + 1)
    rw [hEm] at hstep
    clear hEm
    have hEl := Gf.E_lt h ((k + 1) % Gf.sz m)
    have hhl := Gf.hor_lt h (x := Gf.E m ((k + 1) % Gf.sz m)) hel
    have hml := Gf.minimal_len h hkm
    have hmel := Gf.minimal_el h ((k + 1) % Gf.sz m)
    generalize Gf.genP m (k + 1) = P' at *
    generalize Gf.genP m k = P at *
    generalize hQ : Gf.minimal m ((k + 1) % Gf.sz m) = Q at *
    (refine Reach.walk ?_; (repeat (first | ((with_reducible refine AllSt.mk ?_); (try clear hS); intro w hS) | ((with_reducible refine AllVw.mk ?_); intro V hV))))
    ((with_reducible apply WpL.call); (· exact rfl); (· exact Try.call37); (· exact Vals.found)); (refine (refExp_any h _ _).mono ?_); (rintro x w1 ⟨rfl, rfl⟩); (refine ⟨_, rfl, ?_⟩)
    rw [turn_nat]
    generalize hE : Gf.E m ((k + 1) % Gf.sz m) = E at *
    (refine Reach.walk ?_; (repeat (first | ((with_reducible refine AllSt.mk ?_); (try clear hS); intro w hS) | ((with_reducible refine AllVw.mk ?_); intro V hV))))
    (with_reducible apply WpL.call); (· exact rfl); (· exact Try.call38); (· exact Vals.found)
    refine (refEval_any h (p := nv P) (by simp) hA (by omega) (.whole .own (by simp)) hS).mono ?_
    rintro x w3 ⟨rfl, rfl⟩
    refine ⟨_, rfl, ?_⟩
    rw [pe_nv h hel, inE_nat h hEl]
    by_cases hz : Gf.hor m E P = 0
    · rw [if_pos hz] at hstep
      subst hstep
      have hz2 : (Gf.hor m E P' : Int) = 0 := by omega
      (refine Reach.walk ?_; (repeat (first | ((with_reducible refine AllSt.mk ?_); (try clear hS); intro w hS) | ((with_reducible refine AllVw.mk ?_); intro V hV))))
      exact ⟨hlt, A, c, hA, hS, rfl, int_eq (by omega), rfl, rfl, trivial⟩
    · rw [if_neg hz] at hstep
      have hz2 : ¬ (Gf.hor m E P : Int) = 0 := by omega
      (refine Reach.walk ?_; (repeat (first | ((with_reducible refine AllSt.mk ?_); (try clear hS); intro w hS) | ((with_reducible refine AllVw.mk ?_); intro V hV))))
      (with_reducible apply WpL.call); (· exact rfl); (· exact Try.call20); (· exact Vals.found)
      refine (refMinimal_any h hS).mono ?_
      clear hS
      rintro x w4 ⟨B, cb, rfl, hB, hS⟩
      refine ⟨_, rfl, ?_⟩
      rw [turn_nat, hQ] at *
      (refine Reach.walk ?_; (repeat (first | ((with_reducible refine AllSt.mk ?_); (try clear hS); intro w hS) | ((with_reducible refine AllVw.mk ?_); intro V hV))))
      (with_reducible apply WpL.call); (· exact rfl); (· exact Try.call39); (· exact Vals.found)
      refine (refTimes_any h (p := nv P) (q := nv Q) (by simp) hA (by omega) (.there (.whole .own (by simp)) _) (by simp) hB (by omega) (.whole .own (by simp)) hS).mono ?_
      clear hS
      rintro x w5 ⟨A', c', rfl, hA', hS⟩
      refine ⟨_, rfl, ?_⟩
      rw [pe_nv h hel, pe_nv h hmel, ← hstep] at *
      replace hS := hS.sub (.cons_cons _ ((List.sublist_cons_self _ _).trans (List.sublist_cons_self _ _)))
      (refine Reach.walk ?_; (repeat (first | ((with_reducible refine AllSt.mk ?_); (try clear hS); intro w hS) | ((with_reducible refine AllVw.mk ?_); intro V hV))))
      exact ⟨hlt, A', c', hA', hS, rfl, int_eq (by omega), rfl, rfl, trivial⟩
  · obtain rfl : k = 2 * t := by omega
    (refine Reach.walk ?_; (repeat (first | ((with_reducible refine AllSt.mk ?_); (try clear hS); intro w hS) | ((with_reducible refine AllVw.mk ?_); intro V hV))))
    (with_reducible apply doneQ_two Try.results17); (· exact slotFound); (· exact slotFound)
    exact ⟨A, c, rfl, hA, hS⟩
end
end Go.Proofs.Ytkffgdccjgdiaaa
