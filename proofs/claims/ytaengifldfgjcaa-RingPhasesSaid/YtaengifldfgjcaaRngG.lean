/-
  What the statements on rings call first.
-/
import Derived.Test.YtaengifldfgjcaaRngF
namespace Go.Proofs.Ytaengifldfgjcaa
open Go.Fk Go.RowKit
attribute [local irreducible] Wp WpL Det thenQ blockQ
def absN (z : Int) : Nat := (if z < 0 then -(z + 1) else z).toNat
theorem absN_le {z : Int} (hz : -9223372036854775808 ≤ z ∧ z ≤ 9223372036854775807) : absN z ≤ 9223372036854775807 := by unfold absN; split <;> omega
theorem abs_any {z : Int} (hz : -9223372036854775808 ≤ z ∧ z ≤ 9223372036854775807) (w : World) : Calls Try.prog 9 #[.int .i64 z] w fun x w' => x = .returned (.int .i64 (absN z : Int)) ∧ w = w' := by
  (refine calls_of (P := Try.prog) _ Try.func9 rfl Try.ntmps9 (Nat.le_of_ble_eq_true rfl) ?_; dsimp only [argE, Nat.reduceAdd])
  by_cases h : z < 0
  · (refine Reach.walk ?_; (repeat (first | ((with_reducible refine AllSt.mk ?_); (try clear hS); intro w hS) | ((with_reducible refine AllVw.mk ?_); intro V hV))))
    (with_reducible apply doneQ_one Try.results9); (· exact slotFound)
    exact ⟨by rw [absN, if_pos h, show (((-(z + 1)).toNat : Nat) : Int) = -(z + 1) by omega], rfl⟩
  · (refine Reach.walk ?_; (repeat (first | ((with_reducible refine AllSt.mk ?_); (try clear hS); intro w hS) | ((with_reducible refine AllVw.mk ?_); intro V hV))))
    (with_reducible apply doneQ_one Try.results9); (· exact slotFound)
    exact ⟨by rw [absN, if_neg h, show ((z.toNat : Nat) : Int) = z by omega], rfl⟩

theorem fine2 : fineR 200 0 2 64 := ⟨by decide, by decide, by decide, by decide, by decide⟩
theorem fine2c : fineR 200 128 2 16 := ⟨by decide, by decide, by decide, by decide, by decide⟩
theorem doneV_ok : Ent.doneOk 0 0 7 0 := by decide
theorem doneV_ok0 : Ent.doneOk 0 0 0 0 := by decide

set_option maxHeartbeats 1000000 in
theorem awake_any (w : World) : Calls Try.prog 8 #[] w fun x w' => x = .returned (.bool true) ∧ Below w.heap.size w w' := by
  have hS := St.start w
  (refine calls_of (P := Try.prog) _ Try.func8 rfl Try.ntmps8 (Nat.le_of_ble_eq_true rfl) ?_; dsimp only [argE, Nat.reduceAdd])
  (refine Reach.walk ?_; (repeat (first | ((with_reducible refine AllSt.mk ?_); (try clear hS); intro w hS) | ((with_reducible refine AllVw.mk ?_); intro V hV))))
  refine WpL.mk1 (bytes := 1) (n := 200) (z := .int .u8 0) hS rfl rfl rfl rfl rfl rfl (by decide) (by decide) ?_
  clear hS
  intro A w hV hS
  rw [replicate_bv] at hS
  have hl : (List.replicate 200 (0 : UInt8)).length = 200 := List.length_replicate
  have em : ((List.replicate 200 (0 : UInt8)).set 64 (UInt8.ofNat 9)).drop 64 = 9 :: List.replicate 135 0 := by rfl
  generalize List.replicate 200 (0 : UInt8) = m0 at *
  (refine Reach.walk ?_; (repeat (first | ((with_reducible refine AllSt.mk ?_); (try clear hS); intro w hS) | ((with_reducible refine AllVw.mk ?_); intro V hV))))
  have hl2 : (m0.set 64 (UInt8.ofNat 9)).length = 200 := by rw [List.length_set]; exact hl
  generalize m0.set 64 (UInt8.ofNat 9) = m1 at *
  (with_reducible apply WpL.call); (· exact rfl); (· exact Try.call10); (· exact Vals.found)
  refine (newSub_any (m := 200) (base := 0) (d := 2) (by decide) hS).mono ?_
  clear hS
  rintro x w (⟨hf, gs, rfl, hS⟩ | ⟨hf, _⟩)
  rotate_left
  · exact absurd fine2 hf
  clear hf
  refine ⟨_, rfl, ?_⟩
  (refine Reach.walk ?_; (repeat (first | ((with_reducible refine AllSt.mk ?_); (try clear hS); intro w hS) | ((with_reducible refine AllVw.mk ?_); intro V hV))))
  (with_reducible apply WpL.call); (· exact rfl); (· exact Try.call14); (· exact Vals.found)
  refine (newComp_any (m := 200) (base := 128) (d := 2) (by decide) hS).mono ?_
  clear hS
  rintro x w (⟨hf, gc, rfl, hS⟩ | ⟨hf, _⟩)
  rotate_left
  · exact absurd fine2c hf
  clear hf
  refine ⟨_, rfl, ?_⟩
  simp only [show (0 : Int).toNat = 0 from rfl, show (2 : Int).toNat = 2 from rfl, show (128 : Int).toNat = 128 from rfl] at hS
  (refine Reach.walk ?_; (repeat (first | ((with_reducible refine AllSt.mk ?_); (try clear hS); intro w hS) | ((with_reducible refine AllVw.mk ?_); intro V hV))))
  (with_reducible apply WpL.call); (· exact rfl); (· exact Try.call11); (· exact Vals.found)
  (replace hS := (hS.take (pre := [.blk gs _ _]) Take.found); (try simp only [List.cons_append, List.nil_append] at hS))
  refine (subBell_any (d := 2) (head := 0) (n := 0) (by decide) (by decide) (by decide) hS).mono ?_
  clear hS
  rintro x w (⟨_, rfl, hS⟩ | ⟨hf, _⟩)
  rotate_left
  · exact absurd (by decide : bellOk 2 0 0 1) hf
  refine ⟨_, rfl, ?_⟩
  rw [show 0 + ahead 2 ((0 + 0) % 2) 1 = 1 from rfl] at hS
  (refine Reach.walk ?_; (repeat (first | ((with_reducible refine AllSt.mk ?_); (try clear hS); intro w hS) | ((with_reducible refine AllVw.mk ?_); intro V hV))))
  (with_reducible apply WpL.call); (· exact rfl); (· exact Try.call13); (· exact Vals.found)
  (replace hS := (hS.take (pre := [.blk gs _ _, .own A _ _ _ _ _]) Take.found); (try simp only [List.cons_append, List.nil_append] at hS))
  refine (fetch_any (m := 200) (d := 2) (head := 0) (n := 1) (by decide) (by decide) (by decide) (by decide) hl2 (by decide) hV hS).mono ?_
  clear hS
  rintro x w (⟨h, _⟩ | ⟨_, A1, c1, rfl, hV1, hS⟩)
  · exact absurd h (by decide)
  refine ⟨_, rfl, ?_⟩
  rw [show (0 + 1) % 2 = 1 from rfl, show (1 - 1 : Nat) = 0 from rfl] at hS
  have hb1 : (List.take 64 (List.drop (0 + 0 * 64) m1)).length = 64 := by simp; omega
  generalize List.take 64 (List.drop (0 + 0 * 64) m1) = b1 at *
  (refine Reach.walk ?_; (repeat (first | ((with_reducible refine AllSt.mk ?_); (try clear hS); intro w hS) | ((with_reducible refine AllVw.mk ?_); intro V hV))))
  (with_reducible apply WpL.call); (· exact rfl); (· exact Try.call11); (· exact Vals.found)
  (replace hS := (hS.take (pre := [.blk gs _ _]) Take.found); (try simp only [List.cons_append, List.nil_append] at hS))
  refine (subBell_any (d := 2) (head := 1) (n := 0) (by decide) (by decide) (by decide) hS).mono ?_
  clear hS
  rintro x w (⟨_, rfl, hS⟩ | ⟨hf, _⟩)
  rotate_left
  · exact absurd (by decide : bellOk 2 1 0 0) hf
  refine ⟨_, rfl, ?_⟩
  rw [show 0 + ahead 2 ((1 + 0) % 2) 0 = 1 from rfl] at hS
  (refine Reach.walk ?_; (repeat (first | ((with_reducible refine AllSt.mk ?_); (try clear hS); intro w hS) | ((with_reducible refine AllVw.mk ?_); intro V hV))))
  (with_reducible apply WpL.call); (· exact rfl); (· exact Try.call13); (· exact Vals.found)
  (replace hS := (hS.take (pre := [.blk gs _ _, .own A _ _ _ _ _]) Take.found); (try simp only [List.cons_append, List.nil_append] at hS))
  refine (fetch_any (m := 200) (d := 2) (head := 1) (n := 1) (by decide) (by decide) (by decide) (by decide) hl2 (by decide) hV hS).mono ?_
  clear hS
  rintro x w (⟨h, _⟩ | ⟨_, A2, c2, rfl, hV2, hS⟩)
  · exact absurd h (by decide)
  refine ⟨_, rfl, ?_⟩
  rw [show (1 + 1) % 2 = 0 from rfl, show (1 - 1 : Nat) = 0 from rfl] at hS
  have eb2 : List.take 64 (List.drop (0 + 1 * 64) m1) = 9 :: List.replicate 63 0 := by rw [show 0 + 1 * 64 = 64 from rfl, em]; rfl
  rw [eb2] at hS
  have hb2 : (9 :: List.replicate 63 (0 : UInt8)).length = 64 := rfl
  have hq2 : ((9 :: List.replicate 63 (0 : UInt8)).getD 0 0).toNat = 9 := rfl
  generalize (9 :: List.replicate 63 (0 : UInt8)) = b2 at *
  (refine Reach.walk ?_; (repeat (first | ((with_reducible refine AllSt.mk ?_); (try clear hS); intro w hS) | ((with_reducible refine AllVw.mk ?_); intro V hV))))
  refine WpL.det rfl (Det.build (cells := [.int .u32 ((0 : Nat) : Int), .int .i64 0, .int .i64 0, .int .i64 7, .bool false, .int .i64 0]) PVals.found rfl) ?_
  (refine Reach.walk ?_; (repeat (first | ((with_reducible refine AllSt.mk ?_); (try clear hS); intro w hS) | ((with_reducible refine AllVw.mk ?_); intro V hV))))
  (with_reducible apply WpL.call); (· exact rfl); (· exact Try.call17); (· exact Vals.found)
  (replace hS := (hS.take (pre := [.blk gc _ _, .own A _ _ _ _ _]) Take.found); (try simp only [List.cons_append, List.nil_append] at hS))
  refine (post_any (m := 200) (base := 128) (d := 2) (head := 0) (n := 0) (p := 0) (result := 0) (h := 0) (q := 0) (i := 7) (s := 0) (ph := false) (by decide) (by decide) (by decide) (by decide) (by decide) hl2 (by decide) hV (by decide) hS).mono ?_
  clear hS
  rintro x w (⟨h, _⟩ | ⟨_, h, _⟩ | ⟨_, _, rfl, hS⟩)
  · exact absurd doneV_ok h
  · exact absurd h (by decide)
  refine ⟨_, rfl, ?_⟩
  rw [show 128 + (0 + 0) % 2 * 16 = 128 from rfl, show phB 2 0 = true from rfl] at hS
  simp only [show (0 : Int).toNat = 0 from rfl, show (7 : Int).toNat = 7 from rfl] at hS
  have hbs : (Ent.doneBytes 0 0 0 7 0 true).length = 16 := doneBytes_length _ _ _ _ _ _
  have q12 : ((Ent.doneBytes 0 0 0 7 0 true).getD 12 0).toNat = 7 := by decide
  have q14 : ((Ent.doneBytes 0 0 0 7 0 true).getD 14 0).toNat = 1 := by decide
  generalize Ent.doneBytes 0 0 0 7 0 true = bs at *
  have hl3 : (Ent.over m1 128 bs).length = 200 := by rw [Ent.over_length (by omega)]; exact hl2
  have q140 : decide ((((Ent.over m1 128 bs).getD 140 0).toNat : Int) = 7) = true := decide_eq_true (by rw [List.getD_eq_getElem?_getD, Ent.over_get (by omega), if_pos (by omega), ← List.getD_eq_getElem?_getD, show 140 - 128 = 12 from rfl, q12]; rfl)
  have q142 : decide ((((Ent.over m1 128 bs).getD 142 0).toNat : Int) = 1) = true := decide_eq_true (by rw [List.getD_eq_getElem?_getD, Ent.over_get (by omega), if_pos (by omega), ← List.getD_eq_getElem?_getD, show 142 - 128 = 14 from rfl, q14]; rfl)
  generalize Ent.over m1 128 bs = m2 at *
  (refine Reach.walk ?_; (repeat (first | ((with_reducible refine AllSt.mk ?_); (try clear hS); intro w hS) | ((with_reducible refine AllVw.mk ?_); intro V hV))))
  refine WpL.det rfl (Det.build (r := []) (cells := [.int .u32 ((0 : Nat) : Int), .int .i64 0, .int .i64 0, .int .i64 0, .bool false, .int .i64 0]) PVals.nil rfl) ?_
  (refine Reach.walk ?_; (repeat (first | ((with_reducible refine AllSt.mk ?_); (try clear hS); intro w hS) | ((with_reducible refine AllVw.mk ?_); intro V hV))))
  (with_reducible apply WpL.call); (· exact rfl); (· exact Try.call17); (· exact Vals.found)
  refine (post_any (m := 200) (base := 128) (d := 2) (head := 0) (n := 1) (p := 1) (result := 0) (h := 0) (q := 0) (i := 0) (s := 0) (ph := false) (by decide) (by decide) (by decide) (by decide) (by decide) hl3 (by decide) hV (by decide) hS).mono ?_
  clear hS
  rintro x w (⟨h, _⟩ | ⟨_, _, rfl, hS⟩ | ⟨_, h, _⟩)
  · exact absurd doneV_ok0 h
  rotate_left
  · exact absurd h (by decide)
  refine ⟨_, rfl, ?_⟩
  have qb : decide (((b2.getD 0 0).toNat : Int) = 9) = true := decide_eq_true (by omega)
  (refine Reach.walk ?_; (repeat (first | ((with_reducible refine AllSt.mk ?_); (try clear hS); intro w hS) | ((with_reducible refine AllVw.mk ?_); intro V hV))))
  (with_reducible apply WpL.call); (· exact rfl); (· exact Try.call11); (· exact Vals.found)
  (replace hS := (hS.take (pre := [.blk gs _ _]) Take.found); (try simp only [List.cons_append, List.nil_append] at hS))
  refine (subBell_any (d := 2) (head := 0) (n := 0) (by decide) (by decide) (by decide) hS).mono ?_
  clear hS
  rintro x w (⟨h, _⟩ | ⟨_, rfl, hS⟩)
  · exact absurd h (by decide)
  refine ⟨_, rfl, ?_⟩
  (replace hS := (hS.take (pre := [.own A _ _ _ _ _]) Take.found); (try simp only [List.cons_append, List.nil_append] at hS))
  (refine Reach.walk ?_; (repeat (first | ((with_reducible refine AllSt.mk ?_); (try clear hS); intro w hS) | ((with_reducible refine AllVw.mk ?_); intro V hV))))
  (with_reducible apply doneQ_one Try.results8); (· exact slotFound)
  rw [q142]
  exact ⟨rfl, hS.toBelow⟩
end Go.Proofs.Ytaengifldfgjcaa
