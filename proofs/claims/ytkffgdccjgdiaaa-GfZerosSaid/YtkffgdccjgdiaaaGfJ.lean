/-
  The tables are made.
-/
import Derived.Test.YtkffgdccjgdiaaaGfI
import Derived.Test.YtkffgdccjgdiaaaRgi
namespace Go.Proofs.Ytkffgdccjgdiaaa
open Go.Fk Go.RowKit
attribute [local irreducible] Wp WpL Det thenQ blockQ
def powK (m k : Nat) : List Int := (List.range (2 * Gf.sz m)).map fun j => if j < k then (Gf.E m j : Int) else 0
def logK (m k : Nat) : List Int := (List.range (Gf.sz m + 1)).map fun a => if a ≠ 0 ∧ Gf.lg m a < k then (Gf.lg m a : Int) else 0
theorem powK_length (m k : Nat) : (powK m k).length = 2 * Gf.sz m := by simp [powK]
theorem logK_length (m k : Nat) : (logK m k).length = Gf.sz m + 1 := by simp [logK]
theorem powK_zero (m : Nat) : powK m 0 = List.replicate (2 * Gf.sz m) 0 := by
  refine List.ext_getElem (by simp [powK]) fun i h1 h2 => by simp [powK]
theorem logK_zero (m : Nat) : logK m 0 = List.replicate (Gf.sz m + 1) 0 := by
  refine List.ext_getElem (by simp [logK]) fun i h1 h2 => by simp [logK]
theorem powK_set {m k : Nat} : (powK m k).set k (Gf.E m k : Int) = powK m (k + 1) := by
  refine List.ext_getElem (by simp [powK]) fun i h1 h2 => ?_
  rw [List.getElem_set]
  simp only [powK, List.getElem_map, List.getElem_range]
  by_cases h : k = i
  · subst h; rw [if_pos rfl, if_pos (by omega)]
  · rw [if_neg h]
    by_cases h3 : i < k
    · rw [if_pos h3, if_pos (by omega)]
    · rw [if_neg h3, if_neg (by omega)]
theorem logK_set {m k : Nat} (h : Gf.Is m) (hk : k < Gf.sz m) : (logK m k).set (Gf.E m k) (k : Int) = logK m (k + 1) := by
  have hs := Gf.sz_add h
  have he : Gf.lg m (Gf.E m k) = k := by rw [Gf.lg_E h, Nat.mod_eq_of_lt hk]
  refine List.ext_getElem (by simp [logK]) fun a h1 h2 => ?_
  have ha : a < 2 ^ m := by simp [logK] at h2; omega
  rw [List.getElem_set]
  simp only [logK, List.getElem_map, List.getElem_range]
  by_cases h3 : Gf.E m k = a
  · subst h3
    rw [if_pos rfl, if_pos ⟨Gf.E_ne h k, by omega⟩, he]
  · rw [if_neg h3]
    have h4 : (a ≠ 0 ∧ Gf.lg m a < k) ↔ (a ≠ 0 ∧ Gf.lg m a < k + 1) := by
      constructor
      · rintro ⟨h5, h6⟩; exact ⟨h5, by omega⟩
      · rintro ⟨h5, h6⟩
        refine ⟨h5, ?_⟩
        rcases Nat.lt_or_ge (Gf.lg m a) k with h7 | h7
        · exact h7
        · have h8 : Gf.lg m a = k := by omega
          have := (Gf.lg_spec h h5 ha).2
          rw [h8] at this
          exact absurd this h3
    by_cases h5 : a ≠ 0 ∧ Gf.lg m a < k
    · rw [if_pos h5, if_pos (h4.1 h5)]
    · rw [if_neg h5, if_neg (fun h6 => h5 (h4.2 h6))]
theorem logK_done {m : Nat} (h : Gf.Is m) : logK m (Gf.sz m) = tabL m := by
  have hs := Gf.sz_add h
  refine List.ext_getElem (by simp [logK, tabL]) fun a h1 h2 => ?_
  have ha : a < 2 ^ m := by simp [tabL] at h2; omega
  simp only [logK, tabL, List.getElem_map, List.getElem_range]
  by_cases h0 : a = 0
  · subst h0; simp
  · rw [if_pos ⟨h0, (Gf.lg_spec h h0 ha).1⟩, if_neg h0]
theorem powK_done {m : Nat} (h : Gf.Is m) : laid (zv (powK m (Gf.sz m))) (Gf.sz m) (zv ((powK m (Gf.sz m)).take (Gf.sz m))) = zv (tabP m) := by
  have hl : (powK m (Gf.sz m)).length = 2 * Gf.sz m := powK_length _ _
  have hlz : (zv ((powK m (Gf.sz m)).take (Gf.sz m))).length = Gf.sz m := by simp [hl]; omega
  rw [laid, hlz, ← zv_take, ← zv_drop, ← zv_append, ← zv_append]
  congr 1
  refine List.ext_getElem (by simp [hl, tabP]; omega) fun i h1 h2 => ?_
  have hi : i < 2 * Gf.sz m := by simpa [tabP] using h2
  have hP : ∀ j (hj : j < (powK m (Gf.sz m)).length), (powK m (Gf.sz m))[j] = if j < Gf.sz m then (Gf.E m j : Int) else 0 := fun j hj => by simp [powK]
  simp only [tabP, List.getElem_map, List.getElem_range]
  rw [List.getElem_append_left (by simp [hl]; omega)]
  by_cases h3 : i < Gf.sz m
  · rw [List.getElem_append_left (by simp [hl]; omega), List.getElem_take, hP, if_pos h3]
  · rw [List.getElem_append_right (by simp [hl]; omega), List.getElem_take, hP]
    simp only [List.length_take, hl]
    rw [show min (Gf.sz m) (2 * Gf.sz m) = Gf.sz m by omega, if_pos (by omega)]
    congr 1
    conv => rhs; rw [Gf.E_mod h, show i = i - Gf.sz m + Gf.sz m by omega, Nat.add_mod_right, ← Gf.E_mod h]

set_option maxHeartbeats 2000000 in
theorem tables_any {m g : Nat} (h : Gf.Is m) {w w0 : World} {M : Nat → Prop} {L : List Ch} (hS : St w0 M w (.blk g 67 (fieldC1 m 0 none 0 0 none 0 0) :: L)) :
    Calls Try.prog 44 #[.pointer (some ⟨g, 0, none⟩)] w fun x w' => x = .returned (.tuple #[]) ∧ ∃ A1 n1 c1 A2 n2 c2 L1,
      (∃ F : FS, F.Made m ∧ (.blk g 67 (fieldC m 1 A1 n1 c1 A2 n2 c2) :: L1) = F.blk g m :: F.p :: F.l :: L) ∧ St w0 M w' (.blk g 67 (fieldC1 m 0 A1 n1 c1 A2 n2 c2) :: L1) := by
  have hs2 := Gf.sz_le h
  have hs3 := Gf.sz_ge h
  have hsa := Gf.sz_add h
  have hlo := h.lo
  have hhi := h.hi
  (refine calls_of (P := Try.prog) _ Try.func44 rfl Try.ntmps44 (Nat.le_of_ble_eq_true rfl) ?_; dsimp only [argE, Nat.reduceAdd])
  (refine Reach.walk ?_; (repeat (first | ((with_reducible refine AllSt.mk ?_); (try clear hS); intro w hS) | ((with_reducible refine AllVw.mk ?_); intro V hV))))
  (with_reducible apply WpL.call); (· exact rfl); (· exact Try.call21); (· exact Vals.found)
  refine (size_any h Look.found hS).mono ?_
  rintro x w1 ⟨rfl, rfl⟩
  refine ⟨_, rfl, ?_⟩
  (refine Reach.walk ?_; (repeat (first | ((with_reducible refine AllSt.mk ?_); (try clear hS); intro w hS) | ((with_reducible refine AllVw.mk ?_); intro V hV))))
  obtain ⟨s, hs⟩ : ∃ s, s = Gf.sz m := ⟨_, rfl⟩
  rw [← hs]
  (refine Wp.drawAB 11 10 11 (LB := fun x => .blk g 67 [.int .i64 (m : Int), .int .u32 0, .int .i32 1, .int .u32 0, x, .slice none 0 0] :: L) hS (by kernel_rfl) (by kernel_rfl) rfl (by kernel_rfl) ?_; dsimp only [List.take, List.drop])
  (repeat (first | ((with_reducible apply RgS.ld); (· exact rfl); (· exact rfl); (· exact rfl); (· exact rfl); (· exact Look.found); (· exact fun _ => Look.found)) | ((with_reducible apply RgS.det); (· exact rfl); (· exact rfl); (· exact rfl); (· exact rfl); (· exact Det.found2))))
  refine RgS.mk (bytes := 8) (k := 2 * s) (z := .int .i64 0) rfl rfl rfl rfl rfl rfl rfl rfl (by omega) (by omega) ?_
  (repeat (first | ((with_reducible apply RgS.ld); (· exact rfl); (· exact rfl); (· exact rfl); (· exact rfl); (· exact Look.found); (· exact fun _ => Look.found)) | ((with_reducible apply RgS.det); (· exact rfl); (· exact rfl); (· exact rfl); (· exact rfl); (· exact Det.found2))))
  refine RgS.mk (bytes := 8) (k := s + 1) (z := .int .i64 0) rfl rfl rfl rfl rfl rfl rfl rfl (by omega) (by omega) ?_
  (repeat (first | ((with_reducible apply RgS.ld); (· exact rfl); (· exact rfl); (· exact rfl); (· exact rfl); (· exact Look.found); (· exact fun _ => Look.found)) | ((with_reducible apply RgS.det); (· exact rfl); (· exact rfl); (· exact rfl); (· exact rfl); (· exact Det.found2))))
  refine RgS.stT (V := _) rfl rfl (by simp) (fun u w ⟨g, h, _⟩ => by rw [h]; rfl) (fun u _ => Upd.found) ?_ ?_
  · exact cell_lt (Look.cell (L := .blk g _ _ :: L) (Look.blk (i := 4) rfl) hS)
  have hft := hS.feet_lt
  refine RgS.finMk2 (Nat.le_trans hS.chg.size (Nat.le_refl _)) (fun x c hc g' hg' => ?_) (by decide) (by omega) (by simp only [maxLen]; omega) (by simp only [maxLen]; omega) ?_
  · rcases List.mem_cons.1 hc with rfl | hc
    · exact hft (.blk g 67 (fieldC1 m 0 none 0 0 none 0 0)) List.mem_cons_self g' hg'
    · exact hft c (List.mem_cons_of_mem _ hc) g' hg'
  clear hS hft
  intro w A1 A2 hV1 hV2 hS
  have hp0 : powK m 0 = List.replicate (2 * s) 0 := by rw [hs]; exact powK_zero m
  have hl0 : logK m 0 = List.replicate (s + 1) 0 := by rw [hs]; exact logK_zero m
  rw [replicate_zv, replicate_zv, ← hp0, ← hl0] at hS
  (refine Reach.walk ?_; (repeat (first | ((with_reducible refine AllSt.mk ?_); (try clear hS); intro w hS) | ((with_reducible refine AllVw.mk ?_); intro V hV))))
  apply Wp.loopUp s (fun k e w' => St w0 M w' (.own A1 (2 * s) (2 * s) 3 1 (zv (powK m k)) :: .own A2 (s + 1) (s + 1) 3 1 (zv (logK m k)) :: .blk g 67 (fieldC1 m 0 A1 (2 * s) (2 * s) A2 (s + 1) (s + 1)) :: L) ∧
      e.Has [(20, .int .i64 (k : Nat)), (19, .int .i64 (s : Nat)), (3, .int .i64 (Gf.E m k : Nat)), (2, .int .i64 (s : Nat)), (0, .pointer (some ⟨g, 0, none⟩))]) (Nat.zero_le s)
    ⟨hS, rfl, rfl, rfl, rfl, rfl, trivial⟩
  clear hS
  rintro k e w hk ⟨hS, he⟩
  obtain ⟨e0, rfl⟩ := he.eq
  clear he
  dsimp only [Env.sets]
  have hE := Gf.E_lt h k
  have hpl : (powK m k).length = 2 * s := by rw [hs]; exact powK_length m k
  have hll : (logK m k).length = s + 1 := by rw [hs]; exact logK_length m k
  by_cases hlt : k < s
  · (refine Reach.walk ?_; (repeat (first | ((with_reducible refine AllSt.mk ?_); (try clear hS); intro w hS) | ((with_reducible refine AllVw.mk ?_); intro V hV))))
    (refine Wp.drawAB 14 13 63 (LB := fun _ => .own A1 (2 * s) (2 * s) 3 1 (zv ((powK m k).set k (Gf.E m k : Int))) :: .own A2 (s + 1) (s + 1) 3 1 (zv (logK m k)) :: .blk g 67 (fieldC1 m 0 A1 (2 * s) (2 * s) A2 (s + 1) (s + 1)) :: L) hS (by kernel_rfl) (by kernel_rfl) rfl (by kernel_rfl) ?_; dsimp only [List.take, List.drop])
    (repeat (first | ((with_reducible apply RgS.ld); (· exact rfl); (· exact rfl); (· exact rfl); (· exact rfl); (· exact Look.found); (· exact fun _ => Look.found)) | ((with_reducible apply RgS.det); (· exact rfl); (· exact rfl); (· exact rfl); (· exact rfl); (· exact Det.found2))))
    refine RgS.st (a := (adr A1).add k) (v := .int .i64 (Gf.E m k : Nat)) rfl rfl rfl rfl (fun _ => Upd.found) ?_ ?_
    · exact cell_lt (Look.cell (L := .own A1 (2 * s) (2 * s) _ 1 (zv (powK m k)) :: _) (Look.own (i := k) (zvg (by omega))) hS)
    refine RgS.fin0 ?_
    clear hS
    intro w hS
    have hsh : Gf.E m k <<< 1 < 9223372036854775808 := by rw [Nat.shiftLeft_eq]; omega
    have hnx : Gf.E m (k + 1) = if 2 ^ m ≤ Gf.E m k <<< 1 then (Gf.E m k <<< 1) ^^^ Gf.poly m else Gf.E m k <<< 1 := Gf.tm_eq h.good hE
    have hnl := Gf.E_lt h (k + 1)
    have hps : (powK m k).set k (Gf.E m k : Int) = powK m (k + 1) := powK_set
    have hls : (logK m k).set (Gf.E m k) (k : Int) = logK m (k + 1) := logK_set h (by omega)
    (refine Reach.walk ?_; (repeat (first | ((with_reducible refine AllSt.mk ?_); (try clear hS); intro w hS) | ((with_reducible refine AllVw.mk ?_); intro V hV))))
    rw [hps, hls] at hS
    by_cases hbig : 2 ^ m ≤ Gf.E m k <<< 1
    · rw [if_pos hbig] at hnx
      (refine Reach.walk ?_; (repeat (first | ((with_reducible refine AllSt.mk ?_); (try clear hS); intro w hS) | ((with_reducible refine AllVw.mk ?_); intro V hV))))
      (with_reducible apply WpL.call); (· exact rfl); (· exact Try.call54); (· exact Vals.found)
      refine (polynomial_any h w).mono ?_
      rintro x w1 ⟨rfl, rfl⟩
      refine ⟨_, rfl, ?_⟩
      have hpl : Gf.poly m < 9223372036854775808 := by have := h.good.hi; have : 2 ^ (m + 1) ≤ 2 ^ 14 := Nat.pow_le_pow_right (by decide) (by omega); omega
      (refine Reach.walk ?_; (repeat (first | ((with_reducible refine AllSt.mk ?_); (try clear hS); intro w hS) | ((with_reducible refine AllVw.mk ?_); intro V hV))))
      exact ⟨hlt, hS, int_eq (by omega), rfl, int_eq (by rw [hnx]), rfl, rfl, trivial⟩
    · rw [if_neg hbig] at hnx
      (refine Reach.walk ?_; (repeat (first | ((with_reducible refine AllSt.mk ?_); (try clear hS); intro w hS) | ((with_reducible refine AllVw.mk ?_); intro V hV))))
      exact ⟨hlt, hS, int_eq (by omega), rfl, int_eq (by rw [hnx]), rfl, rfl, trivial⟩
  · obtain rfl : k = s := by omega
    (refine Reach.walk ?_; (repeat (first | ((with_reducible refine AllSt.mk ?_); (try clear hS); intro w hS) | ((with_reducible refine AllVw.mk ?_); intro V hV))))
    (refine Wp.drawD 12 (by kernel_rfl) (by kernel_rfl) rfl ?_; dsimp only [List.take, List.drop])
    (refine Reach.rwalk ?_; (repeat (first | ((with_reducible refine AllSt.mk ?_); (try clear hS); intro w hS) | ((with_reducible refine AllVw.mk ?_); intro V hV))))
    (refine RgD.fin0 fun w hb => ?_; replace hS := hS.below hb; clear hb)
    have hcp : laid (zv (powK m k)) k (zv ((powK m k).take k)) = zv (tabP m) := by rw [hs]; exact powK_done h
    refine WpL.copy (A := A1) (xs := zv (powK m k)) (zs := zv (tabP m)) hS rfl rfl rfl (by assumption) Swap.found (RdsV.ints (by assumption) .own (by omega)) (zv_one _) (by omega) (by simp; omega) (by rw [List.drop_zero, Nat.zero_add]; exact hcp) ?_
    clear hS
    intro w hS
    (refine Reach.walk ?_; (repeat (first | ((with_reducible refine AllSt.mk ?_); (try clear hS); intro w hS) | ((with_reducible refine AllVw.mk ?_); intro V hV))))
    (try with_reducible apply doneQ_end); (with_reducible apply doneQ_none Try.results44)
    have hlg : logK m k = tabL m := by rw [hs]; exact logK_done h
    rw [hlg] at hS
    refine ⟨rfl, A1, 2 * k, 2 * k, A2, k + 1, k + 1, [.own A1 (2 * k) (2 * k) 3 1 (zv (tabP m)), .own A2 (k + 1) (k + 1) 3 1 (zv (tabL m))] ++ L, ⟨⟨1, A1, 2 * k, 2 * k, A2, k + 1, k + 1, tabP m, tabL m⟩, ⟨rfl, by rw [hs], by rw [hs], hV1, hV2, rfl, rfl⟩, rfl⟩, ?_⟩
    have h3 := hS.take (pre := [.blk g _ _, .own A1 _ _ _ _ _, .own A2 _ _ _ _ _]) Take.found
    exact h3
end Go.Proofs.Ytkffgdccjgdiaaa
