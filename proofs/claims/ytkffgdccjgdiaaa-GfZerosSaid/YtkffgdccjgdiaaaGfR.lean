/-
  The least polynomials and the generators: the program's.
-/
import Derived.Test.YtkffgdccjgdiaaaGfQ
namespace Go.Gf
section
variable {m : Nat} (h : Is m)
include h
theorem times_len (p q : List Nat) : (times m p q).length ≤ p.length + q.length - 1 := by
  unfold times
  rw [trim_length]
  rcases Nat.lt_or_ge (p.length + q.length - 1) (tl (conv m p q)) with h1 | h1
  · exact absurd (conv_over h p q (t := tl (conv m p q) - 1) (by omega)) (tl_top (by omega))
  · exact h1
theorem minP_len (n : Nat) : ∀ i, (minP m n i).length ≤ i + 1
  | 0 => by simp [minP]
  | i + 1 => by
    rw [minP]
    have h1 := times_len h (minP m n i) [E m (ke m n i), 1]
    have h2 := minP_len n i
    simp only [List.length_cons, List.length_nil] at h1
    omega
theorem minimal_len {n : Nat} (hn : n < sz m) : (minimal m n).length ≤ 14 := by
  have h1 := (ords_spec h hn).2.1
  have h2 := minP_len h n (ords m n)
  have h3 := h.hi
  unfold minimal
  omega
theorem genP_len : ∀ n, (genP m n).length ≤ 1 + 13 * n
  | 0 => by simp [genP]
  | n + 1 => by
    rw [genP]
    have h2 := genP_len n
    have hs := sz_ge h
    split
    · omega
    · have h1 := times_len h (genP m n) (minimal m ((n + 1) % sz m))
      have h3 := minimal_len h (Nat.mod_lt (n + 1) (show 0 < sz m by omega))
      omega
theorem minimal_el (n : Nat) : El m (minimal m n) := minP_el h n _
end
end Go.Gf
namespace Go.Proofs.Ytkffgdccjgdiaaa
open Go.Fk Go.RowKit
attribute [local irreducible] Wp WpL Det thenQ blockQ
theorem turn_self {m k : Nat} (hk : k < Gf.sz m) : turn m (k : Int) = k := by rw [turn_nat, Nat.mod_eq_of_lt hk]
section
variable {w w0 : World} {M : Nat → Prop} {L : List Ch} {m g : Nat} {F : FS}
theorem minimal_any (h : Gf.Is m) {z : Int} (hz : -9223372036854775808 ≤ z ∧ z ≤ 9223372036854775807) (hI : FI w0 M g m L w) :
    Calls Try.prog 19 #[.pointer (some ⟨g, 0, none⟩), .int .i64 z] w fun x w' => ∃ A k, x = .returned (.slice A (Gf.minimal m (turn m z)).length k) ∧ IsVw A (Gf.minimal m (turn m z)).length k A 0 ∧
      FI w0 M g m (.own A (Gf.minimal m (turn m z)).length k 3 1 (zv (nv (Gf.minimal m (turn m z)))) :: L) w' := by
  have hs3 := Gf.sz_ge h
  have hs2 := Gf.sz_le h
  have hsa := Gf.sz_add h
  have htu := turn_lt h z
  have hgo := turn_go2 h z
  have hr1 : -(Gf.sz m : Int) < z.tmod (Gf.sz m : Int) ∧ z.tmod (Gf.sz m : Int) < Gf.sz m := by
    have := Int.tmod_lt_of_pos z (show (0 : Int) < Gf.sz m by omega)
    have := Int.lt_tmod_of_pos z (show (0 : Int) < Gf.sz m by omega)
    omega
  obtain ⟨F, hF, hS⟩ := hI
  (refine calls_of (P := Try.prog) _ Try.func19 rfl Try.ntmps19 (Nat.le_of_ble_eq_true rfl) ?_; dsimp only [argE, Nat.reduceAdd])
  (refine Reach.walk ?_; (repeat (first | ((with_reducible refine AllSt.mk ?_); (try clear hS); intro w hS) | ((with_reducible refine AllVw.mk ?_); intro V hV))))
  (with_reducible apply WpL.call); (· exact rfl); (· exact Try.call21); (· exact Vals.found)
  refine (size_any h (lookM F) hS).mono ?_
  rintro x w1 ⟨rfl, rfl⟩
  refine ⟨_, rfl, ?_⟩
  (refine Reach.walk ?_; (repeat (first | ((with_reducible refine AllSt.mk ?_); (try clear hS); intro w hS) | ((with_reducible refine AllVw.mk ?_); intro V hV))))
  refine WpL.det rfl (Det.remW rfl rfl (by omega)) ?_
  (refine Reach.walk ?_; (repeat (first | ((with_reducible refine AllSt.mk ?_); (try clear hS); intro w hS) | ((with_reducible refine AllVw.mk ?_); intro V hV))))
  rw [hgo]
  (refine Reach.walk ?_; (repeat (first | ((with_reducible refine AllSt.mk ?_); (try clear hS); intro w hS) | ((with_reducible refine AllVw.mk ?_); intro V hV))))
  generalize turn m z = n at *
  ((with_reducible apply WpL.bs); (· assumption); (· exact rfl); (· exact BVals.found); (· exact oneAll_spec rfl); (· exact rfl); (· decide); (· exact listFound); clear hS)
  intro A w hA hS
  (replace hS := (hS.take (pre := [F.blk g m, F.p, F.l]) Take.found); (try simp only [List.cons_append, List.nil_append] at hS))
  have h0 := Gf.ke_zero h htu
  obtain ⟨ho1, ho2, ho3, ho4⟩ := Gf.ords_spec h htu
  (refine Reach.walk ?_; (repeat (first | ((with_reducible refine AllSt.mk ?_); (try clear hS); intro w hS) | ((with_reducible refine AllVw.mk ?_); intro V hV))))
  apply Wp.loopUp (Gf.ords m n) (fun i e w' => i < Gf.ords m n ∧ ∃ A c, IsVw A (Gf.minP m n i).length c A 0 ∧ FI w0 M g m (.own A (Gf.minP m n i).length c 3 1 (zv (nv (Gf.minP m n i))) :: L) w' ∧
      e.Has [(6, .slice A (Gf.minP m n i).length c), (7, .int .i64 (Gf.ke m n i : Nat)), (5, .int .i64 (Gf.sz m : Nat)), (1, .int .i64 (n : Nat)), (0, .pointer (some ⟨g, 0, none⟩))]) (Nat.zero_le _)
    ⟨ho1, A, 1, hA, ⟨F, hF, hS⟩, rfl, int_eq (by rw [h0]), rfl, rfl, rfl, trivial⟩
  clear hS hF hA
  rintro i e w1 hi ⟨hio, A, c, hA, hI, he⟩
  obtain ⟨e0, rfl⟩ := he.eq
  clear he
  dsimp only [Env.sets]
  have hlen := Gf.minP_len h n i
  have hkl : Gf.ke m n i < Gf.sz m := Nat.mod_lt _ (by omega)
  have hkl2 : Gf.ke m n (i + 1) < Gf.sz m := Nat.mod_lt _ (by omega)
  have hks := Gf.ke_succ h n i
  have hEl := Gf.E_lt h (Gf.ke m n i)
  have h13 := h.hi
  have hel := Gf.minP_el h n i
  have hstep : Gf.minP m n (i + 1) = Gf.times m (Gf.minP m n i) [Gf.E m (Gf.ke m n i), 1] := rfl
  have hel2 : Gf.El m [Gf.E m (Gf.ke m n i), 1] := fun x hx => by
    rcases List.mem_cons.1 hx with rfl | hx
    · exact hEl
    · rw [List.mem_singleton.1 hx]; exact Gf.one_lt h
  have hiff : Gf.ke m n (i + 1) = n ↔ i + 1 = Gf.ords m n := ⟨fun h1 => Nat.le_antisymm hio (Nat.not_lt.1 fun hlt => ho4 (i + 1) (by omega) hlt h1), fun h1 => by rw [h1, ho3]⟩
  have hmin : i + 1 = Gf.ords m n → Gf.minP m n (i + 1) = Gf.minimal m n := fun h1 => by rw [h1]; rfl
  generalize Gf.minP m n (i + 1) = P' at *
  generalize Gf.minP m n i = P at *
  generalize Gf.minimal m n = tgt at *
  generalize Gf.ke m n (i + 1) = k' at *
  generalize Gf.ke m n i = k at *
  obtain ⟨F, hF, hS⟩ := hI
  (refine Reach.walk ?_; (repeat (first | ((with_reducible refine AllSt.mk ?_); (try clear hS); intro w hS) | ((with_reducible refine AllVw.mk ?_); intro V hV))))
  (with_reducible apply WpL.call); (· exact rfl); (· exact Try.call22); (· exact Vals.found)
  refine (exp_any h (by omega) hF hS).mono ?_
  clear hS hF
  rintro x w2 ⟨rfl, F, hF, hS⟩
  refine ⟨_, rfl, ?_⟩
  rw [turn_self hkl]
  generalize Gf.E m k = E at *
  (refine Reach.walk ?_; (repeat (first | ((with_reducible refine AllSt.mk ?_); (try clear hS); intro w hS) | ((with_reducible refine AllVw.mk ?_); intro V hV))))
  ((with_reducible apply WpL.bs); (· assumption); (· exact rfl); (· exact BVals.found); (· exact oneAll_spec rfl); (· exact rfl); (· decide); (· exact listFound); clear hS)
  intro B w hB hS
  have h2 : St w0 M w (.own B 2 2 3 1 (zv (nv [E, 1])) :: F.blk g m :: F.p :: F.l :: .own A P.length c 3 1 (zv (nv P)) :: L) := hS
  have hI : FI w0 M g m (.own B 2 2 3 1 (zv (nv [E, 1])) :: .own A P.length c 3 1 (zv (nv P)) :: L) w := ⟨F, hF, h2.take (pre := [F.blk g m, F.p, F.l, .own B _ _ _ _ _]) Take.found⟩
  clear hS h2 hF
  (refine Reach.walk ?_; (repeat (first | ((with_reducible refine AllSt.mk ?_); (try clear hS); intro w hS) | ((with_reducible refine AllVw.mk ?_); intro V hV))))
  (with_reducible apply WpL.call); (· exact rfl); (· exact Try.call27); (· exact Vals.found)
  refine (times_any h (p := nv P) (q := nv [E, 1]) (by simp) hA (by omega) (.there (.whole .own (by simp)) _) (by simp) hB (by omega) (.whole .own (by simp)) hI).mono ?_
  clear hI
  rintro x w3 ⟨A', c', rfl, hA', hI⟩
  refine ⟨_, rfl, ?_⟩
  rw [pe_nv h hel, pe_nv h hel2, ← hstep] at *
  replace hI := hI.sub (.cons_cons _ ((List.sublist_cons_self _ _).trans (List.sublist_cons_self _ _)))
  obtain ⟨F, hF, hS⟩ := hI
  subst hks
  by_cases hd : i + 1 = Gf.ords m n
  · have hkn := hiff.2 hd
    have := hmin hd
    subst this
    (refine Reach.walk ?_; (repeat (first | ((with_reducible refine AllSt.mk ?_); (try clear hS); intro w hS) | ((with_reducible refine AllVw.mk ?_); intro V hV))))
    (with_reducible apply doneQ_one Try.results19); (· exact slotFound)
    exact ⟨A', c', rfl, hA', F, hF, hS⟩
  · have hkn : ¬ 2 * k % Gf.sz m = n := fun h1 => hd (hiff.1 h1)
    (refine Reach.walk ?_; (repeat (first | ((with_reducible refine AllSt.mk ?_); (try clear hS); intro w hS) | ((with_reducible refine AllVw.mk ?_); intro V hV))))
    exact ⟨hio, by omega, A', c', hA', ⟨F, hF, hS⟩, rfl, rfl, rfl, rfl, rfl, trivial⟩

/-- The generator's arguments: those for which there is one. -/
def GenOk (m : Nat) (t : Int) : Prop := 1 ≤ t ∧ t ≤ 8 ∧ 2 * t ≤ Gf.sz m
instance (m : Nat) (t : Int) : Decidable (GenOk m t) := by unfold GenOk; infer_instance
theorem generator_not (h : Gf.Is m) {t : Int} (ht : ¬ GenOk m t) (hF : F.Ok m) (hS : St w0 M w (F.blk g m :: F.p :: F.l :: L)) :
    Calls Try.prog 16 #[.pointer (some ⟨g, 0, none⟩), .int .i64 t] w fun x w' => x = .returned (.tuple #[.slice none 0 0, .int .i64 1]) ∧ w = w' := by
  have hs2 := Gf.sz_le h
  (refine calls_of (P := Try.prog) _ Try.func16 rfl Try.ntmps16 (Nat.le_of_ble_eq_true rfl) ?_; dsimp only [argE, Nat.reduceAdd])
  by_cases h1 : t < 1
  · (refine Reach.walk ?_; (repeat (first | ((with_reducible refine AllSt.mk ?_); (try clear hS); intro w hS) | ((with_reducible refine AllVw.mk ?_); intro V hV))))
    (with_reducible apply doneQ_two Try.results16); (· exact slotFound); (· exact slotFound)
    exact ⟨rfl, rfl⟩
  by_cases h2 : 8 < t
  · (refine Reach.walk ?_; (repeat (first | ((with_reducible refine AllSt.mk ?_); (try clear hS); intro w hS) | ((with_reducible refine AllVw.mk ?_); intro V hV))))
    (with_reducible apply doneQ_two Try.results16); (· exact slotFound); (· exact slotFound)
    exact ⟨rfl, rfl⟩
  have h3 : ¬ 2 * t ≤ Gf.sz m := fun h3 => ht ⟨by omega, by omega, h3⟩
  (refine Reach.walk ?_; (repeat (first | ((with_reducible refine AllSt.mk ?_); (try clear hS); intro w hS) | ((with_reducible refine AllVw.mk ?_); intro V hV))))
  (with_reducible apply WpL.call); (· exact rfl); (· exact Try.call21); (· exact Vals.found)
  refine (size_any h (lookM F) hS).mono ?_
  rintro x w1 ⟨rfl, rfl⟩
  refine ⟨_, rfl, ?_⟩
  (refine Reach.walk ?_; (repeat (first | ((with_reducible refine AllSt.mk ?_); (try clear hS); intro w hS) | ((with_reducible refine AllVw.mk ?_); intro V hV))))
  (with_reducible apply doneQ_two Try.results16); (· exact slotFound); (· exact slotFound)
  exact ⟨rfl, rfl⟩

theorem generator_any (h : Gf.Is m) {t : Nat} (ht : GenOk m (t : Int)) (hI : FI w0 M g m L w) :
    Calls Try.prog 16 #[.pointer (some ⟨g, 0, none⟩), .int .i64 (t : Int)] w fun x w' => ∃ A k, x = .returned (.tuple #[.slice A (Gf.genP m (2 * t)).length k, .int .i64 0]) ∧ IsVw A (Gf.genP m (2 * t)).length k A 0 ∧
      FI w0 M g m (.own A (Gf.genP m (2 * t)).length k 3 1 (zv (nv (Gf.genP m (2 * t)))) :: L) w' := by
  have hs2 := Gf.sz_le h
  have hs3 := Gf.sz_ge h
  have hsa := Gf.sz_add h
  obtain ⟨ht1, ht8, hts⟩ := ht
  obtain ⟨F, hF, hS⟩ := hI
  (refine calls_of (P := Try.prog) _ Try.func16 rfl Try.ntmps16 (Nat.le_of_ble_eq_true rfl) ?_; dsimp only [argE, Nat.reduceAdd])
  (refine Reach.walk ?_; (repeat (first | ((with_reducible refine AllSt.mk ?_); (try clear hS); intro w hS) | ((with_reducible refine AllVw.mk ?_); intro V hV))))
  (with_reducible apply WpL.call); (· exact rfl); (· exact Try.call21); (· exact Vals.found)
  refine (size_any h (lookM F) hS).mono ?_
  rintro x w1 ⟨rfl, rfl⟩
  refine ⟨_, rfl, ?_⟩
  (refine Reach.walk ?_; (repeat (first | ((with_reducible refine AllSt.mk ?_); (try clear hS); intro w hS) | ((with_reducible refine AllVw.mk ?_); intro V hV))))
  ((with_reducible apply WpL.bs); (· assumption); (· exact rfl); (· exact BVals.found); (· exact oneAll_spec rfl); (· exact rfl); (· decide); (· exact listFound); clear hS)
  intro A w hA hS
  (replace hS := (hS.take (pre := [F.blk g m, F.p, F.l]) Take.found); (try simp only [List.cons_append, List.nil_append] at hS))
  (refine Reach.walk ?_; (repeat (first | ((with_reducible refine AllSt.mk ?_); (try clear hS); intro w hS) | ((with_reducible refine AllVw.mk ?_); intro V hV))))
  apply Wp.loopUp t (fun k e w' => ∃ A c, IsVw A (Gf.genP m (2 * k)).length c A 0 ∧ FI w0 M g m (.own A (Gf.genP m (2 * k)).length c 3 1 (zv (nv (Gf.genP m (2 * k)))) :: L) w' ∧
      e.Has [(6, .slice A (Gf.genP m (2 * k)).length c), (7, .int .i64 ((2 * k + 1 : Nat) : Int)), (1, .int .i64 (t : Nat)), (0, .pointer (some ⟨g, 0, none⟩))]) (Nat.zero_le _)
    ⟨A, 1, hA, ⟨F, hF, hS⟩, rfl, rfl, rfl, rfl, trivial⟩
  clear hS hF hA
  rintro k e w1 hk ⟨A, c, hA, hI, he⟩
  obtain ⟨e0, rfl⟩ := he.eq
  clear he
  dsimp only [Env.sets]
  have hlen := Gf.genP_len h (2 * k)
  have hel := Gf.genP_el h (2 * k)
  by_cases hlt : k < t
  · have heven := Gf.genP_even h (i := k) (by omega)
    rw [show 2 * k + 2 = 2 * (k + 1) by omega] at heven
    have hstep : Gf.genP m (2 * k + 1) = if Gf.hor m (Gf.E m (2 * k + 1)) (Gf.genP m (2 * k)) = 0 then Gf.genP m (2 * k) else Gf.times m (Gf.genP m (2 * k)) (Gf.minimal m ((2 * k + 1) % Gf.sz m)) := rfl
    rw [← heven, Nat.mod_eq_of_lt (show 2 * k + 1 < Gf.sz m by omega)] at hstep
    clear heven
    have hEl := Gf.E_lt h (2 * k + 1)
    have hhl := Gf.hor_lt h (x := Gf.E m (2 * k + 1)) hel
    have hml := Gf.minimal_len h (show 2 * k + 1 < Gf.sz m by omega)
    have hmel := Gf.minimal_el h (2 * k + 1)
    generalize Gf.genP m (2 * (k + 1)) = P' at *
    generalize Gf.genP m (2 * k) = P at *
    generalize hQ : Gf.minimal m (2 * k + 1) = Q at *
    obtain ⟨F, hF, hS⟩ := hI
    (refine Reach.walk ?_; (repeat (first | ((with_reducible refine AllSt.mk ?_); (try clear hS); intro w hS) | ((with_reducible refine AllVw.mk ?_); intro V hV))))
    (with_reducible apply WpL.call); (· exact rfl); (· exact Try.call22); (· exact Vals.found)
    refine (exp_any h (by omega) hF hS).mono ?_
    clear hS hF
    rintro x w2 ⟨rfl, hI⟩
    refine ⟨_, rfl, ?_⟩
    rw [turn_self (show 2 * k + 1 < Gf.sz m by omega)]
    generalize hE : Gf.E m (2 * k + 1) = E at *
    (refine Reach.walk ?_; (repeat (first | ((with_reducible refine AllSt.mk ?_); (try clear hS); intro w hS) | ((with_reducible refine AllVw.mk ?_); intro V hV))))
    (with_reducible apply WpL.call); (· exact rfl); (· exact Try.call26); (· exact Vals.found)
    refine (eval_any h (p := nv P) (by simp) hA (by omega) (.whole .own (by simp)) hI).mono ?_
    clear hI
    rintro x w3 ⟨rfl, hI⟩
    refine ⟨_, rfl, ?_⟩
    rw [pe_nv h hel, inE_nat h hEl]
    by_cases hz : Gf.hor m E P = 0
    · rw [if_pos hz] at hstep
      subst hstep
      have hz2 : (Gf.hor m E P' : Int) = 0 := by omega
      (refine Reach.walk ?_; (repeat (first | ((with_reducible refine AllSt.mk ?_); (try clear hS); intro w hS) | ((with_reducible refine AllVw.mk ?_); intro V hV))))
      exact ⟨hlt, A, c, hA, hI, rfl, int_eq (by omega), rfl, rfl, trivial⟩
    · rw [if_neg hz] at hstep
      have hz2 : ¬ (Gf.hor m E P : Int) = 0 := by omega
      (refine Reach.walk ?_; (repeat (first | ((with_reducible refine AllSt.mk ?_); (try clear hS); intro w hS) | ((with_reducible refine AllVw.mk ?_); intro V hV))))
      (with_reducible apply WpL.call); (· exact rfl); (· exact Try.call19); (· exact Vals.found)
      refine (minimal_any h (by omega) hI).mono ?_
      clear hI
      rintro x w4 ⟨B, cb, rfl, hB, hI⟩
      refine ⟨_, rfl, ?_⟩
      rw [turn_self (show 2 * k + 1 < Gf.sz m by omega), hQ] at *
      (refine Reach.walk ?_; (repeat (first | ((with_reducible refine AllSt.mk ?_); (try clear hS); intro w hS) | ((with_reducible refine AllVw.mk ?_); intro V hV))))
      (with_reducible apply WpL.call); (· exact rfl); (· exact Try.call27); (· exact Vals.found)
      refine (times_any h (p := nv P) (q := nv Q) (by simp) hA (by omega) (.there (.whole .own (by simp)) _) (by simp) hB (by omega) (.whole .own (by simp)) hI).mono ?_
      clear hI
      rintro x w5 ⟨A', c', rfl, hA', hI⟩
      refine ⟨_, rfl, ?_⟩
      rw [pe_nv h hel, pe_nv h hmel, ← hstep] at *
      replace hI := hI.sub (.cons_cons _ ((List.sublist_cons_self _ _).trans (List.sublist_cons_self _ _)))
      (refine Reach.walk ?_; (repeat (first | ((with_reducible refine AllSt.mk ?_); (try clear hS); intro w hS) | ((with_reducible refine AllVw.mk ?_); intro V hV))))
      exact ⟨hlt, A', c', hA', hI, rfl, int_eq (by omega), rfl, rfl, trivial⟩
  · obtain rfl : k = t := by omega
    (refine Reach.walk ?_; (repeat (first | ((with_reducible refine AllSt.mk ?_); (try clear hS); intro w hS) | ((with_reducible refine AllVw.mk ?_); intro V hV))))
    (with_reducible apply doneQ_two Try.results16); (· exact slotFound); (· exact slotFound)
    exact ⟨A, c, rfl, hA, hI⟩
end
end Go.Proofs.Ytkffgdccjgdiaaa
