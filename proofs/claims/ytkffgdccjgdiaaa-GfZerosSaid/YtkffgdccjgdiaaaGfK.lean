/-
  Products, logarithms, powers, inverses: the program's.
-/
import Derived.Test.YtkffgdccjgdiaaaGfJ
import Derived.Test.YtkffgdccjgdiaaaRgf
namespace Go.Proofs.Ytkffgdccjgdiaaa
open Go.Fk Go.RowKit
attribute [local irreducible] Wp WpL Det thenQ blockQ
def logZ (m : Nat) (z : Int) : Int := if inE m z = 0 then -1 else (Gf.lg m (inE m z) : Int)
/-- A number by the field's size. -/
def turn (m : Nat) (n : Int) : Nat := (n % (Gf.sz m : Int)).toNat
theorem turn_lt {m : Nat} (h : Gf.Is m) (n : Int) : turn m n < Gf.sz m := by
  have hs := Gf.sz_ge h
  have h1 := Int.emod_nonneg n (show (Gf.sz m : Int) ≠ 0 by omega)
  have h2 := Int.emod_lt_of_pos n (show (0 : Int) < Gf.sz m by omega)
  unfold turn; omega
theorem turn_nat {m : Nat} (k : Nat) : turn m (k : Int) = k % Gf.sz m := by
  unfold turn
  rw [← Int.natCast_emod, Int.toNat_natCast]
/-- As Go reckons it. -/
theorem turn_go {m : Nat} (h : Gf.Is m) (n : Int) : (n.tmod (Gf.sz m : Int) + (Gf.sz m : Int)).tmod (Gf.sz m : Int) = (turn m n : Int) := by
  have hs := Gf.sz_ge h
  have h1 := Int.emod_nonneg n (show (Gf.sz m : Int) ≠ 0 by omega)
  have h2 := Int.emod_lt_of_pos n (show (0 : Int) < Gf.sz m by omega)
  have h3 : -(Gf.sz m : Int) < n.tmod (Gf.sz m : Int) ∧ n.tmod (Gf.sz m : Int) < Gf.sz m := by
    have := Int.tmod_lt_of_pos n (show (0 : Int) < Gf.sz m by omega)
    have := Int.lt_tmod_of_pos n (show (0 : Int) < Gf.sz m by omega)
    omega
  have h4 : n.tmod (Gf.sz m : Int) = n % (Gf.sz m : Int) ∨ n.tmod (Gf.sz m : Int) + (Gf.sz m : Int) = n % (Gf.sz m : Int) := by
    have e1 : (n.tmod (Gf.sz m : Int)) % (Gf.sz m : Int) = n % (Gf.sz m : Int) := by rw [Int.tmod_def, Int.sub_mul_emod_self_left]
    rcases Int.lt_or_le (n.tmod (Gf.sz m : Int)) 0 with h5 | h5
    · right
      rw [← e1, ← Int.add_emod_right]
      exact (Int.emod_eq_of_lt (by omega) (by omega)).symm
    · left
      rw [← e1]
      exact (Int.emod_eq_of_lt (by omega) (by omega)).symm
  rw [Int.tmod_eq_emod_of_nonneg (by omega)]
  unfold turn
  rw [Int.toNat_of_nonneg h1]
  rcases h4 with h4 | h4
  · rw [h4, Int.add_emod_right]; exact Int.emod_eq_of_lt h1 h2
  · rw [h4]; exact Int.emod_eq_of_lt h1 h2

theorem turn_go2 {m : Nat} (h : Gf.Is m) (n : Int) : (n.tmod (Gf.sz m : Int) + (Gf.sz m : Int)) % (Gf.sz m : Int) = (turn m n : Int) := by
  have hs := Gf.sz_ge h
  have := Int.lt_tmod_of_pos n (show (0 : Int) < Gf.sz m by omega)
  have e := Int.tmod_eq_emod_of_nonneg (a := n.tmod (Gf.sz m : Int) + (Gf.sz m : Int)) (b := (Gf.sz m : Int)) (by omega)
  rw [← e, turn_go h]
/-- The field's parts, and others. -/
def FI (w0 : World) (M : Nat → Prop) (g m : Nat) (L : List Ch) (w : World) : Prop := ∃ F : FS, F.Ok m ∧ St w0 M w (F.blk g m :: F.p :: F.l :: L)
section
variable {w w0 : World} {M : Nat → Prop} {L : List Ch} {m g : Nat} {F : FS}
theorem lookM (F : FS) : Look (F.blk g m :: L) ⟨g, 0, none⟩ (.int .i64 (m : Int)) := Look.blk rfl
theorem once_any (h : Gf.Is m) (hF : F.Ok m) (hS : St w0 M w (F.blk g m :: F.p :: F.l :: L)) :
    Calls Try.prog 43 #[.pointer (some ⟨g, 1, none⟩), .func (.func 44) #[.pointer (some ⟨g, 0, none⟩)] #[]] w fun x w' => x = .returned (.tuple #[]) ∧ ∃ F' : FS, F'.Made m ∧ St w0 M w' (F'.blk g m :: F'.p :: F'.l :: L) := by
  rcases hF with rfl | hF
  · refine (do_first (m := m) (f := 44) Try.call44 hS (R := fun L2 => ∃ F : FS, F.Made m ∧ L2 = F.blk g m :: F.p :: F.l :: FS.zero.p :: FS.zero.l :: L) (fun w hS => tables_any h hS)).mono ?_
    rintro x w' ⟨rfl, L2, ⟨F', h1, rfl⟩, hS⟩
    exact ⟨rfl, F', h1, hS.sub (.cons_cons _ (.cons_cons _ (.cons_cons _ ((List.sublist_cons_self _ _).trans (List.sublist_cons_self _ _)))))⟩
  · refine (do_done hS (Look.blk (by rw [hF.d]; rfl))).mono ?_
    rintro x w' ⟨rfl, rfl⟩
    exact ⟨rfl, F, hF, hS⟩

theorem log_any (h : Gf.Is m) {z : Int} (hF : F.Ok m) (hS : St w0 M w (F.blk g m :: F.p :: F.l :: L)) :
    Calls Try.prog 35 #[.pointer (some ⟨g, 0, none⟩), .int .i64 z] w fun x w' => x = .returned (.int .i64 (logZ m z)) ∧ ∃ F' : FS, F'.Ok m ∧ St w0 M w' (F'.blk g m :: F'.p :: F'.l :: L) := by
  have ha := inE_lt h z
  unfold logZ
  (refine calls_of (P := Try.prog) _ Try.func35 rfl Try.ntmps35 (Nat.le_of_ble_eq_true rfl) ?_; dsimp only [argE, Nat.reduceAdd])
  (refine Reach.walk ?_; (repeat (first | ((with_reducible refine AllSt.mk ?_); (try clear hS); intro w hS) | ((with_reducible refine AllVw.mk ?_); intro V hV))))
  (with_reducible apply WpL.call); (· exact rfl); (· exact Try.call45); (· exact Vals.found)
  refine (in_any h (lookM F) hS).mono ?_
  rintro x w1 ⟨rfl, rfl⟩
  refine ⟨_, rfl, ?_⟩
  generalize inE m z = a at *
  by_cases h0 : a = 0
  · subst h0
    (refine Reach.walk ?_; (repeat (first | ((with_reducible refine AllSt.mk ?_); (try clear hS); intro w hS) | ((with_reducible refine AllVw.mk ?_); intro V hV))))
    (with_reducible apply doneQ_one Try.results35); (· exact slotFound)
    exact ⟨rfl, F, hF, hS⟩
  rw [if_neg h0]
  (refine Reach.walk ?_; (repeat (first | ((with_reducible refine AllSt.mk ?_); (try clear hS); intro w hS) | ((with_reducible refine AllVw.mk ?_); intro V hV))))
  (with_reducible apply WpL.call); (· exact rfl); (· exact Try.call43); (· exact Vals.found)
  refine (once_any h hF hS).mono ?_
  clear hS hF
  rintro x w ⟨rfl, F, hM, hS⟩
  refine ⟨_, rfl, ?_⟩
  obtain ⟨d, A1, n1, c1, A2, n2, c2, Pt, Lt⟩ := F
  have hM' := hM
  obtain ⟨rfl, rfl, rfl, v1, v2, rfl, rfl⟩ := hM
  simp only at v1 v2
  have htl := tabL_length m
  have hsa := Gf.sz_add h
  have hget : (tabL m).getD a 0 = (Gf.lg m a : Int) := tabL_get h0 (by omega)
  simp only [FS.blk, FS.p, FS.l] at hS
  (refine Reach.walk ?_; (repeat (first | ((with_reducible refine AllSt.mk ?_); (try clear hS); intro w hS) | ((with_reducible refine AllVw.mk ?_); intro V hV))))
  (with_reducible apply doneQ_one Try.results35); (· exact slotFound)
  exact ⟨by rw [hget], _, .inr hM', hS⟩
theorem exp_any (h : Gf.Is m) {z : Int} (hz : -9223372036854775808 ≤ z ∧ z ≤ 9223372036854775807) (hF : F.Ok m) (hS : St w0 M w (F.blk g m :: F.p :: F.l :: L)) :
    Calls Try.prog 22 #[.pointer (some ⟨g, 0, none⟩), .int .i64 z] w fun x w' => x = .returned (.int .i64 (Gf.E m (turn m z) : Int)) ∧ ∃ F' : FS, F'.Ok m ∧ St w0 M w' (F'.blk g m :: F'.p :: F'.l :: L) := by
  have hs3 := Gf.sz_ge h
  have hs2 := Gf.sz_le h
  (refine calls_of (P := Try.prog) _ Try.func22 rfl Try.ntmps22 (Nat.le_of_ble_eq_true rfl) ?_; dsimp only [argE, Nat.reduceAdd])
  (refine Reach.walk ?_; (repeat (first | ((with_reducible refine AllSt.mk ?_); (try clear hS); intro w hS) | ((with_reducible refine AllVw.mk ?_); intro V hV))))
  (with_reducible apply WpL.call); (· exact rfl); (· exact Try.call43); (· exact Vals.found)
  refine (once_any h hF hS).mono ?_
  clear hS hF
  rintro x w ⟨rfl, F, hM, hS⟩
  refine ⟨_, rfl, ?_⟩
  (refine Reach.walk ?_; (repeat (first | ((with_reducible refine AllSt.mk ?_); (try clear hS); intro w hS) | ((with_reducible refine AllVw.mk ?_); intro V hV))))
  (with_reducible apply WpL.call); (· exact rfl); (· exact Try.call21); (· exact Vals.found)
  refine (size_any h (lookM F) hS).mono ?_
  rintro x w1 ⟨rfl, rfl⟩
  refine ⟨_, rfl, ?_⟩
  obtain ⟨d, A1, n1, c1, A2, n2, c2, Pt, Lt⟩ := F
  have hM' := hM
  obtain ⟨rfl, rfl, rfl, v1, v2, rfl, rfl⟩ := hM
  simp only at v1 v2
  have htp := tabP_length m
  have htu := turn_lt h z
  have hgo := turn_go2 h z
  have hget : (tabP m).getD (turn m z) 0 = (Gf.E m (turn m z) : Int) := tabP_get (by omega)
  have hr1 : -(Gf.sz m : Int) < z.tmod (Gf.sz m : Int) ∧ z.tmod (Gf.sz m : Int) < Gf.sz m := by
    have := Int.tmod_lt_of_pos z (show (0 : Int) < Gf.sz m by omega)
    have := Int.lt_tmod_of_pos z (show (0 : Int) < Gf.sz m by omega)
    omega
  simp only [FS.blk, FS.p, FS.l] at hS
  (refine Reach.walk ?_; (repeat (first | ((with_reducible refine AllSt.mk ?_); (try clear hS); intro w hS) | ((with_reducible refine AllVw.mk ?_); intro V hV))))
  (refine Wp.drawD 14 (by kernel_rfl) (by kernel_rfl) rfl ?_; dsimp only [List.take, List.drop])
  (refine Reach.rwalk ?_; (repeat (first | ((with_reducible refine AllSt.mk ?_); (try clear hS); intro w hS) | ((with_reducible refine AllVw.mk ?_); intro V hV))))
  refine RgD.det rfl rfl rfl rfl (Det.remW rfl rfl (by omega)) ?_
  (refine Reach.rwalk ?_; (repeat (first | ((with_reducible refine AllSt.mk ?_); (try clear hS); intro w hS) | ((with_reducible refine AllVw.mk ?_); intro V hV))))
  (refine RgD.fin0 fun w hb => ?_; replace hS := hS.below hb; clear hb)
  (refine Reach.walk ?_; (repeat (first | ((with_reducible refine AllSt.mk ?_); (try clear hS); intro w hS) | ((with_reducible refine AllVw.mk ?_); intro V hV))))
  (with_reducible apply doneQ_one Try.results22); (· exact slotFound)
  exact ⟨by rw [hget], _, .inr hM', hS⟩
theorem mul_any (h : Gf.Is m) {y z : Int} (hF : F.Ok m) (hS : St w0 M w (F.blk g m :: F.p :: F.l :: L)) :
    Calls Try.prog 23 #[.pointer (some ⟨g, 0, none⟩), .int .i64 y, .int .i64 z] w fun x w' => x = .returned (.int .i64 (Gf.mul m (inE m y) (inE m z) : Int)) ∧ ∃ F' : FS, F'.Ok m ∧ St w0 M w' (F'.blk g m :: F'.p :: F'.l :: L) := by
  have hs3 := Gf.sz_ge h
  have hs2 := Gf.sz_le h
  have hsa := Gf.sz_add h
  have ha := inE_lt h y
  have hb := inE_lt h z
  (refine calls_of (P := Try.prog) _ Try.func23 rfl Try.ntmps23 (Nat.le_of_ble_eq_true rfl) ?_; dsimp only [argE, Nat.reduceAdd])
  (refine Reach.walk ?_; (repeat (first | ((with_reducible refine AllSt.mk ?_); (try clear hS); intro w hS) | ((with_reducible refine AllVw.mk ?_); intro V hV))))
  (with_reducible apply WpL.call); (· exact rfl); (· exact Try.call45); (· exact Vals.found)
  refine (in_any h (lookM F) hS).mono ?_
  rintro x w1 ⟨rfl, rfl⟩
  refine ⟨_, rfl, ?_⟩
  (refine Reach.walk ?_; (repeat (first | ((with_reducible refine AllSt.mk ?_); (try clear hS); intro w hS) | ((with_reducible refine AllVw.mk ?_); intro V hV))))
  (with_reducible apply WpL.call); (· exact rfl); (· exact Try.call45); (· exact Vals.found)
  refine (in_any h (lookM F) hS).mono ?_
  rintro x w1 ⟨rfl, rfl⟩
  refine ⟨_, rfl, ?_⟩
  generalize inE m y = a at *
  generalize inE m z = b at *
  by_cases ha0 : a = 0
  · subst ha0
    (refine Reach.walk ?_; (repeat (first | ((with_reducible refine AllSt.mk ?_); (try clear hS); intro w hS) | ((with_reducible refine AllVw.mk ?_); intro V hV))))
    (with_reducible apply doneQ_one Try.results23); (· exact slotFound)
    exact ⟨by rw [Gf.zero_mul h]; rfl, F, hF, hS⟩
  by_cases hb0 : b = 0
  · subst hb0
    (refine Reach.walk ?_; (repeat (first | ((with_reducible refine AllSt.mk ?_); (try clear hS); intro w hS) | ((with_reducible refine AllVw.mk ?_); intro V hV))))
    (with_reducible apply doneQ_one Try.results23); (· exact slotFound)
    exact ⟨by rw [Gf.mul_zero h]; rfl, F, hF, hS⟩
  (refine Reach.walk ?_; (repeat (first | ((with_reducible refine AllSt.mk ?_); (try clear hS); intro w hS) | ((with_reducible refine AllVw.mk ?_); intro V hV))))
  (with_reducible apply WpL.call); (· exact rfl); (· exact Try.call43); (· exact Vals.found)
  refine (once_any h hF hS).mono ?_
  clear hS hF
  rintro x w ⟨rfl, F, hM, hS⟩
  refine ⟨_, rfl, ?_⟩
  obtain ⟨d, A1, n1, c1, A2, n2, c2, Pt, Lt⟩ := F
  have hM' := hM
  obtain ⟨rfl, rfl, rfl, v1, v2, rfl, rfl⟩ := hM
  simp only at v1 v2
  have htp := tabP_length m
  have htl := tabL_length m
  have hla := Gf.lg_spec h ha0 ha
  have hlb := Gf.lg_spec h hb0 hb
  have hga : (tabL m).getD a 0 = (Gf.lg m a : Int) := tabL_get ha0 (by omega)
  have hgb : (tabL m).getD b 0 = (Gf.lg m b : Int) := tabL_get hb0 (by omega)
  have hget : (tabP m).getD (Gf.lg m a + Gf.lg m b) 0 = (Gf.mul m a b : Int) := by rw [tabP_get (by omega), ← Gf.mul_lg h ha0 ha hb0 hb]
  simp only [FS.blk, FS.p, FS.l] at hS
  (refine Reach.walk ?_; (repeat (first | ((with_reducible refine AllSt.mk ?_); (try clear hS); intro w hS) | ((with_reducible refine AllVw.mk ?_); intro V hV))))
  (refine Wp.drawD 21 (by kernel_rfl) (by kernel_rfl) rfl ?_; dsimp only [List.take, List.drop])
  (refine Reach.rwalk ?_; (repeat (first | ((with_reducible refine AllSt.mk ?_); (try clear hS); intro w hS) | ((with_reducible refine AllVw.mk ?_); intro V hV))))
  (refine RgD.fin0 fun w hb => ?_; replace hS := hS.below hb; clear hb)
  (refine Reach.walk ?_; (repeat (first | ((with_reducible refine AllSt.mk ?_); (try clear hS); intro w hS) | ((with_reducible refine AllVw.mk ?_); intro V hV))))
  (with_reducible apply doneQ_one Try.results23); (· exact slotFound)
  exact ⟨by rw [hget], _, .inr hM', hS⟩
theorem inv_any (h : Gf.Is m) {z : Int} (hF : F.Ok m) (hS : St w0 M w (F.blk g m :: F.p :: F.l :: L)) :
    Calls Try.prog 25 #[.pointer (some ⟨g, 0, none⟩), .int .i64 z] w fun x w' => x = .returned (.int .i64 (Gf.inv m (inE m z) : Int)) ∧ ∃ F' : FS, F'.Ok m ∧ St w0 M w' (F'.blk g m :: F'.p :: F'.l :: L) := by
  have hs3 := Gf.sz_ge h
  have hs2 := Gf.sz_le h
  have ha := inE_lt h z
  (refine calls_of (P := Try.prog) _ Try.func25 rfl Try.ntmps25 (Nat.le_of_ble_eq_true rfl) ?_; dsimp only [argE, Nat.reduceAdd])
  (refine Reach.walk ?_; (repeat (first | ((with_reducible refine AllSt.mk ?_); (try clear hS); intro w hS) | ((with_reducible refine AllVw.mk ?_); intro V hV))))
  (with_reducible apply WpL.call); (· exact rfl); (· exact Try.call45); (· exact Vals.found)
  refine (in_any h (lookM F) hS).mono ?_
  rintro x w1 ⟨rfl, rfl⟩
  refine ⟨_, rfl, ?_⟩
  generalize inE m z = a at *
  by_cases ha0 : a = 0
  · subst ha0
    (refine Reach.walk ?_; (repeat (first | ((with_reducible refine AllSt.mk ?_); (try clear hS); intro w hS) | ((with_reducible refine AllVw.mk ?_); intro V hV))))
    (with_reducible apply doneQ_one Try.results25); (· exact slotFound)
    exact ⟨rfl, F, hF, hS⟩
  have hla := Gf.lg_spec h ha0 ha
  have hlz : logZ m (a : Int) = (Gf.lg m a : Int) := by rw [logZ, inE_nat h ha, if_neg ha0]
  (refine Reach.walk ?_; (repeat (first | ((with_reducible refine AllSt.mk ?_); (try clear hS); intro w hS) | ((with_reducible refine AllVw.mk ?_); intro V hV))))
  (with_reducible apply WpL.call); (· exact rfl); (· exact Try.call35); (· exact Vals.found)
  refine (log_any h hF hS).mono ?_
  clear hS hF
  rintro x w ⟨rfl, F, hF, hS⟩
  refine ⟨_, rfl, ?_⟩
  rw [hlz]
  (refine Reach.walk ?_; (repeat (first | ((with_reducible refine AllSt.mk ?_); (try clear hS); intro w hS) | ((with_reducible refine AllVw.mk ?_); intro V hV))))
  (with_reducible apply WpL.call); (· exact rfl); (· exact Try.call22); (· exact Vals.found)
  refine (exp_any h (z := -(Gf.lg m a : Int)) (by omega) hF hS).mono ?_
  clear hS hF
  rintro x w ⟨rfl, F, hF, hS⟩
  refine ⟨_, rfl, ?_⟩
  (refine Reach.walk ?_; (repeat (first | ((with_reducible refine AllSt.mk ?_); (try clear hS); intro w hS) | ((with_reducible refine AllVw.mk ?_); intro V hV))))
  (with_reducible apply doneQ_one Try.results25); (· exact slotFound)
  refine ⟨?_, F, hF, hS⟩
  have ht : turn m (-(Gf.lg m a : Int)) = (Gf.sz m - Gf.lg m a) % Gf.sz m := by
    rw [← turn_nat, turn, turn, show ((Gf.sz m - Gf.lg m a : Nat) : Int) = -(Gf.lg m a : Int) + (Gf.sz m : Int) by omega, Int.add_emod_right]
  rw [Gf.inv, if_neg ha0, ht, ← Gf.E_mod h]
def powZ (m : Nat) (z n : Int) : Nat := if n = 0 then 1 else if inE m z = 0 then 0 else Gf.pown m (inE m z) (turn m n)
theorem pow_any (h : Gf.Is m) {z n : Int} (hn : -9223372036854775808 ≤ n ∧ n ≤ 9223372036854775807) (hF : F.Ok m) (hS : St w0 M w (F.blk g m :: F.p :: F.l :: L)) :
    Calls Try.prog 33 #[.pointer (some ⟨g, 0, none⟩), .int .i64 z, .int .i64 n] w fun x w' => x = .returned (.int .i64 (powZ m z n : Int)) ∧ ∃ F' : FS, F'.Ok m ∧ St w0 M w' (F'.blk g m :: F'.p :: F'.l :: L) := by
  have hs3 := Gf.sz_ge h
  have hs2 := Gf.sz_le h
  have ha := inE_lt h z
  unfold powZ
  (refine calls_of (P := Try.prog) _ Try.func33 rfl Try.ntmps33 (Nat.le_of_ble_eq_true rfl) ?_; dsimp only [argE, Nat.reduceAdd])
  (refine Reach.walk ?_; (repeat (first | ((with_reducible refine AllSt.mk ?_); (try clear hS); intro w hS) | ((with_reducible refine AllVw.mk ?_); intro V hV))))
  (with_reducible apply WpL.call); (· exact rfl); (· exact Try.call45); (· exact Vals.found)
  refine (in_any h (lookM F) hS).mono ?_
  rintro x w1 ⟨rfl, rfl⟩
  refine ⟨_, rfl, ?_⟩
  generalize inE m z = a at *
  by_cases hn0 : n = 0
  · subst hn0
    (refine Reach.walk ?_; (repeat (first | ((with_reducible refine AllSt.mk ?_); (try clear hS); intro w hS) | ((with_reducible refine AllVw.mk ?_); intro V hV))))
    (with_reducible apply doneQ_one Try.results33); (· exact slotFound)
    exact ⟨rfl, F, hF, hS⟩
  rw [if_neg hn0]
  by_cases ha0 : a = 0
  · subst ha0
    (refine Reach.walk ?_; (repeat (first | ((with_reducible refine AllSt.mk ?_); (try clear hS); intro w hS) | ((with_reducible refine AllVw.mk ?_); intro V hV))))
    (with_reducible apply doneQ_one Try.results33); (· exact slotFound)
    exact ⟨rfl, F, hF, hS⟩
  rw [if_neg ha0]
  have hla := Gf.lg_spec h ha0 ha
  have htu := turn_lt h n
  have hgo := turn_go2 h n
  have hlz : logZ m (a : Int) = (Gf.lg m a : Int) := by rw [logZ, inE_nat h ha, if_neg ha0]
  have hr1 : -(Gf.sz m : Int) < n.tmod (Gf.sz m : Int) ∧ n.tmod (Gf.sz m : Int) < Gf.sz m := by
    have := Int.tmod_lt_of_pos n (show (0 : Int) < Gf.sz m by omega)
    have := Int.lt_tmod_of_pos n (show (0 : Int) < Gf.sz m by omega)
    omega
  have hprod : Gf.lg m a * turn m n < 9223372036854775808 := by
    have := Nat.mul_le_mul (show Gf.lg m a ≤ 8191 by omega) (show turn m n ≤ 8191 by omega)
    omega
  have hF0 := hF
  (refine Reach.walk ?_; (repeat (first | ((with_reducible refine AllSt.mk ?_); (try clear hS); intro w hS) | ((with_reducible refine AllVw.mk ?_); intro V hV))))
  (with_reducible apply WpL.call); (· exact rfl); (· exact Try.call21); (· exact Vals.found)
  refine (size_any h (lookM F) hS).mono ?_
  rintro x w1 ⟨rfl, rfl⟩
  refine ⟨_, rfl, ?_⟩
  (refine Reach.walk ?_; (repeat (first | ((with_reducible refine AllSt.mk ?_); (try clear hS); intro w hS) | ((with_reducible refine AllVw.mk ?_); intro V hV))))
  (refine Wp.drawF 14 (FI w0 M g m L) ?_ (by kernel_rfl) (by kernel_rfl) rfl ?_; rotate_left; dsimp only [List.take, List.drop]; rotate_left)
  · exact ⟨F, hF, hS.drew⟩
  (repeat (first | ((with_reducible apply RgF.det); (· exact rfl); (· exact rfl); (· exact Det.found2))))
  refine RgF.op (c := .int .i64 (Gf.lg m a : Int)) rfl rfl (fun w2 hI => ?_) ?_
  · obtain ⟨F, hF, hS⟩ := hI
    (with_reducible apply WpL.call); (· exact rfl); (· exact Try.call35); (· exact Vals.found)
    refine (log_any h hF hS).mono ?_
    rintro x w3 ⟨rfl, hI⟩
    exact ⟨_, rfl, WpL.nil ⟨hI, by rw [hlz]; exact Env.set_same _ _ _⟩⟩
  (repeat (first | ((with_reducible apply RgF.det); (· exact rfl); (· exact rfl); (· exact Det.found2))))
  refine RgF.det rfl rfl (Det.remW rfl rfl (by omega)) ?_
  (repeat (first | ((with_reducible apply RgF.det); (· exact rfl); (· exact rfl); (· exact Det.found2))))
  refine RgF.op (c := .int .i64 (Gf.E m (turn m ((Gf.lg m a * turn m n : Nat) : Int)) : Int)) rfl rfl (fun w2 hI => ?_) ?_
  · obtain ⟨F, hF, hS⟩ := hI
    (with_reducible apply WpL.call); (· exact rfl); (· exact Try.call22); (· exact Vals.found)
    refine (exp_any h (by omega) hF hS).mono ?_
    rintro x w3 ⟨rfl, hI⟩
    exact ⟨_, rfl, WpL.nil ⟨hI, Env.set_same _ _ _⟩⟩
  (repeat (first | ((with_reducible apply RgF.det); (· exact rfl); (· exact rfl); (· exact Det.found2))))
  refine RgF.fin ?_
  clear hS hF hF0
  rintro w ⟨F, hF, hS⟩
  (refine Reach.walk ?_; (repeat (first | ((with_reducible refine AllSt.mk ?_); (try clear hS); intro w hS) | ((with_reducible refine AllVw.mk ?_); intro V hV))))
  (with_reducible apply doneQ_one Try.results33); (· exact slotFound)
  refine ⟨?_, F, hF, hS⟩
  rw [turn_nat, ← Gf.E_mod h, ← Gf.pown_lg h ha0 ha]
end
end Go.Proofs.Ytkffgdccjgdiaaa
