/-
  The document's rings: taking out, putting in.
-/
import Derived.Test.YtaengifldfgjcaaRngE
namespace Go.Proofs.Ytaengifldfgjcaa
open Go.Fk Go.RowKit
attribute [local irreducible] Wp WpL Det thenQ blockQ
theorem mod_take {a n k d : Nat} (h : k ≤ n) : ((a + k) % d + (n - k)) % d = (a + n) % d := by
  rw [Nat.mod_add_mod, show a + k + (n - k) = a + n by omega]

section
variable {w w0 : World} {M : Nat → Prop} {L : List Ch}
set_option maxHeartbeats 1000000 in
theorem heads_any {g base d sz head n : Nat} {ph : Bool} {t : Int} (hd : 2 ≤ d ∧ d ≤ 64) (hhd : head < d) (hn : n < d)
    (hS : St w0 M w (.blk g 56 (refC base d sz head n ph) :: L)) :
    Calls Try.prog 20 #[.pointer (some ⟨g, 0, none⟩), .int .i64 t] w fun x w' =>
      (headOk d head n t ∧ x = .returned (.int .i64 0) ∧ St w0 M w' (.blk g 56 (refC base d sz ((head + ahead d head t) % d) (n - ahead d head t) ph) :: L)) ∨
      (¬ headOk d head n t ∧ x = .returned (.int .i64 170) ∧ St w0 M w' (.blk g 56 (refC base d sz head n ph) :: L)) := by
  (refine calls_of (P := Try.prog) _ Try.func20 rfl Try.ntmps20 (Nat.le_of_ble_eq_true rfl) ?_; dsimp only [argE, Nat.reduceAdd])
  by_cases hin : 0 ≤ t ∧ t < d
  rotate_left
  · by_cases h0 : t < 0
    all_goals
      (refine Reach.walk ?_; (repeat (first | ((with_reducible refine AllSt.mk ?_); (try clear hS); intro w hS) | ((with_reducible refine AllVw.mk ?_); intro V hV))))
      (with_reducible apply doneQ_one Try.results20); (· exact slotFound)
      exact .inr ⟨fun h => hin h.1, rfl, hS⟩
  have hbk := ahead_back hhd hin
  have hak := ahead_eq hhd hin
  have hklt : ahead d head t < d := ahead_lt (by omega)
  unfold headOk
  generalize ahead d head t = k at *
  (refine Reach.walk ?_; (repeat (first | ((with_reducible refine AllSt.mk ?_); (try clear hS); intro w hS) | ((with_reducible refine AllVw.mk ?_); intro V hV))))
  refine Wp.cut (fun e' w' => St w0 M w' (.blk g 56 (refC base d sz head n ph) :: L) ∧ e'.Has [(5, .int .i64 (k : Int)), (0, .pointer (some ⟨g, 0, none⟩)), (1, .int .i64 t)]) ?_ ?_
  · by_cases hlt : t - (head : Int) < 0
    · (refine Reach.walk ?_; (repeat (first | ((with_reducible refine AllSt.mk ?_); (try clear hS); intro w hS) | ((with_reducible refine AllVw.mk ?_); intro V hV))))
      exact ⟨hS, int_eq (by split at hak <;> omega), rfl, rfl, trivial⟩
    · (refine Reach.walk ?_; (repeat (first | ((with_reducible refine AllSt.mk ?_); (try clear hS); intro w hS) | ((with_reducible refine AllVw.mk ?_); intro V hV))))
      exact ⟨hS, int_eq (by split at hak <;> omega), rfl, rfl, trivial⟩
  clear hS
  rintro e w ⟨hS, he⟩
  obtain ⟨e0, rfl⟩ := he.eq
  clear he
  dsimp only [Env.sets]
  (refine Reach.walk ?_; (repeat (first | ((with_reducible refine AllSt.mk ?_); (try clear hS); intro w hS) | ((with_reducible refine AllVw.mk ?_); intro V hV))))
  (with_reducible apply WpL.call); (· exact rfl); (· exact Try.call22); (· exact Vals.found)
  refine (used_any (d := d) (head := head) (n := n) Look.found Look.found Look.found hd.2 hhd hn hS).mono ?_
  rintro x w ⟨rfl, hb⟩
  refine ⟨_, rfl, ?_⟩
  replace hS := hS.below hb
  clear hb
  by_cases hok : k ≤ n
  · (refine Reach.walk ?_; (repeat (first | ((with_reducible refine AllSt.mk ?_); (try clear hS); intro w hS) | ((with_reducible refine AllVw.mk ?_); intro V hV))))
    (with_reducible apply doneQ_one Try.results20); (· exact slotFound)
    refine .inl ⟨⟨hin, hok⟩, rfl, ?_⟩
    simp only [refC] at hS ⊢
    rw [mod_take hok, hbk]
    exact hS
  · (refine Reach.walk ?_; (repeat (first | ((with_reducible refine AllSt.mk ?_); (try clear hS); intro w hS) | ((with_reducible refine AllVw.mk ?_); intro V hV))))
    (with_reducible apply doneQ_one Try.results20); (· exact slotFound)
    exact .inr ⟨fun h => hok h.2, rfl, hS⟩

set_option maxHeartbeats 1000000 in
theorem refFetch_any {g base d sz head n : Nat} {ph : Bool} (hd : 2 ≤ d ∧ d ≤ 64) (hhd : head < d) (hn : n < d) (hsz : sz = 64 ∨ sz = 16) (hm : base ≤ 1099511627776)
    (hS : St w0 M w (.blk g 56 (refC base d sz head n ph) :: L)) :
    Calls Try.prog 25 #[.pointer (some ⟨g, 0, none⟩)] w fun x w' =>
      (n = 0 ∧ x = .returned (.int .i64 (-1)) ∧ St w0 M w' (.blk g 56 (refC base d sz head n ph) :: L)) ∨
      (n ≠ 0 ∧ x = .returned (.int .i64 ((base + head * sz : Nat) : Int)) ∧ St w0 M w' (.blk g 56 (refC base d sz ((head + 1) % d) (n - 1) ph) :: L)) := by
  (refine calls_of (P := Try.prog) _ Try.func25 rfl Try.ntmps25 (Nat.le_of_ble_eq_true rfl) ?_; dsimp only [argE, Nat.reduceAdd])
  (refine Reach.walk ?_; (repeat (first | ((with_reducible refine AllSt.mk ?_); (try clear hS); intro w hS) | ((with_reducible refine AllVw.mk ?_); intro V hV))))
  (with_reducible apply WpL.call); (· exact rfl); (· exact Try.call22); (· exact Vals.found)
  refine (used_any (d := d) (head := head) (n := n) Look.found Look.found Look.found hd.2 hhd hn hS).mono ?_
  rintro x w ⟨rfl, hb⟩
  refine ⟨_, rfl, ?_⟩
  replace hS := hS.below hb
  clear hb
  by_cases h0 : n = 0
  · subst h0
    (refine Reach.walk ?_; (repeat (first | ((with_reducible refine AllSt.mk ?_); (try clear hS); intro w hS) | ((with_reducible refine AllVw.mk ?_); intro V hV))))
    (with_reducible apply doneQ_one Try.results25); (· exact slotFound)
    exact .inl ⟨rfl, rfl, hS⟩
  rcases hsz with rfl | rfl
  all_goals
    (refine Reach.walk ?_; (repeat (first | ((with_reducible refine AllSt.mk ?_); (try clear hS); intro w hS) | ((with_reducible refine AllVw.mk ?_); intro V hV))))
    (refine Wp.drawD 15 (by kernel_rfl) (by kernel_rfl) rfl ?_; dsimp only [List.take, List.drop])
    (refine Reach.rwalk ?_; (repeat (first | ((with_reducible refine AllSt.mk ?_); (try clear hS); intro w hS) | ((with_reducible refine AllVw.mk ?_); intro V hV))))
    (refine RgD.fin0 fun w hb => ?_; replace hS := hS.below hb; clear hb)
    (refine Reach.walk ?_; (repeat (first | ((with_reducible refine AllSt.mk ?_); (try clear hS); intro w hS) | ((with_reducible refine AllVw.mk ?_); intro V hV))))
    (refine Wp.drawD 13 (by kernel_rfl) (by kernel_rfl) rfl ?_; dsimp only [List.take, List.drop])
    (refine Reach.rwalk ?_; (repeat (first | ((with_reducible refine AllSt.mk ?_); (try clear hS); intro w hS) | ((with_reducible refine AllVw.mk ?_); intro V hV))))
    (refine RgD.fin0 fun w hb => ?_; replace hS := hS.below hb; clear hb)
    (refine Reach.walk ?_; (repeat (first | ((with_reducible refine AllSt.mk ?_); (try clear hS); intro w hS) | ((with_reducible refine AllVw.mk ?_); intro V hV))))
    (with_reducible apply doneQ_one Try.results25); (· exact slotFound)
    refine .inr ⟨h0, rfl, ?_⟩
    simp only [refC] at hS ⊢
    rw [mod_take (by omega)]
    exact hS

set_option maxHeartbeats 2000000 in
theorem refPost_any {g base d sz head n result : Nat} {ph : Bool} {h q i s : Int} {p0 : Bool} (hd : 2 ≤ d ∧ d ≤ 64) (hhd : head < d) (hn : n < d) (hsz : sz = 64 ∨ sz = 16) (hm : base ≤ 1099511627776) (hres : result < 4294967296)
    (hS : St w0 M w (.blk g 56 (refC base d sz head n ph) :: L)) :
    Calls Try.prog 18 #[.pointer (some ⟨g, 0, none⟩), doneV result h q i p0 s] w fun x w' =>
      (¬ Ent.doneOk h q i s ∧ x = .returned (.tuple #[.slice none 0 0, .int .i64 0, .int .i64 1]) ∧ St w0 M w' (.blk g 56 (refC base d sz head n ph) :: L)) ∨
      (Ent.doneOk h q i s ∧ n + 1 = d ∧ x = .returned (.tuple #[.slice none 0 0, .int .i64 0, .int .i64 90]) ∧ St w0 M w' (.blk g 56 (refC base d sz head n ph) :: L)) ∨
      (Ent.doneOk h q i s ∧ n + 1 < d ∧ ∃ A' c', x = .returned (.tuple #[.slice A' 16 c', .int .i64 ((base + (head + n) % d * sz : Nat) : Int), .int .i64 0]) ∧ IsVw A' 16 c' A' 0 ∧
        St w0 M w' (.own A' 16 c' 5 1 (bv (Ent.doneBytes result h.toNat q.toNat i.toNat s.toNat ph)) :: .blk g 56 (refC base d sz head (n + 1) (if (head + n) % d + 1 = d then !ph else ph)) :: L)) := by
  have hf : (head + n) % d < d := Nat.mod_lt _ (by omega)
  have hstep : (head + (n + 1)) % d = if (head + n) % d + 1 = d then 0 else (head + n) % d + 1 := by
    rw [mod_add_step]
    split
    · rename_i h; rw [h, Nat.mod_self]
    · exact Nat.mod_eq_of_lt (by omega)
  (refine calls_of (P := Try.prog) _ Try.func18 rfl Try.ntmps18 (Nat.le_of_ble_eq_true rfl) ?_; dsimp only [argE, Nat.reduceAdd])
  (refine Reach.walk ?_; (repeat (first | ((with_reducible refine AllSt.mk ?_); (try clear hS); intro w hS) | ((with_reducible refine AllVw.mk ?_); intro V hV))))
  ((with_reducible apply WpL.bx); (· assumption); (· exact rfl); (· exact Env.found); (· exact rfl); clear hS)
  intro gd w hS
  (refine Reach.walk ?_; (repeat (first | ((with_reducible refine AllSt.mk ?_); (try clear hS); intro w hS) | ((with_reducible refine AllVw.mk ?_); intro V hV))))
  (with_reducible apply WpL.call); (· exact rfl); (· exact Try.call33); (· exact Vals.found)
  refine (refPostedS result h q i s ph hres hS).mono ?_
  clear hS
  rintro x w ⟨A', c', rfl, hV', hS⟩
  refine ⟨_, rfl, ?_⟩
  by_cases hok : Ent.doneOk h q i s
  rotate_left
  · simp only [doneE, if_neg hok]
    (refine Reach.walk ?_; (repeat (first | ((with_reducible refine AllSt.mk ?_); (try clear hS); intro w hS) | ((with_reducible refine AllVw.mk ?_); intro V hV))))
    (with_reducible apply doneQ_three Try.results18); (· exact slotFound); (· exact slotFound); (· exact slotFound)
    exact .inl ⟨hok, rfl, hS.tail.tail⟩
  simp only [doneE, if_pos hok, doneL] at hS hV' ⊢
  generalize Ent.doneBytes result h.toNat q.toNat i.toNat s.toNat ph = bs at *
  (refine Reach.walk ?_; (repeat (first | ((with_reducible refine AllSt.mk ?_); (try clear hS); intro w hS) | ((with_reducible refine AllVw.mk ?_); intro V hV))))
  (refine Wp.drawD 8 (by kernel_rfl) (by kernel_rfl) rfl ?_; dsimp only [List.take, List.drop])
  (refine Reach.rwalk ?_; (repeat (first | ((with_reducible refine AllSt.mk ?_); (try clear hS); intro w hS) | ((with_reducible refine AllVw.mk ?_); intro V hV))))
  refine RgD.known0 (c := .int .i64 (n : Int)) rfl rfl rfl rfl (fun w1 hb1 => ?_) ?_
  · (with_reducible apply WpL.call); (· exact rfl); (· exact Try.call22); (· exact Vals.found)
    refine (used_any (d := d) (head := head) (n := n) Look.found Look.found Look.found hd.2 hhd hn (hS.below hb1)).mono ?_
    rintro x w2 ⟨rfl, hb2⟩
    exact ⟨_, rfl, WpL.nil ⟨⟨hb1.on hb2, hb2⟩, Env.set_same _ _ _⟩⟩
  (refine Reach.rwalk ?_; (repeat (first | ((with_reducible refine AllSt.mk ?_); (try clear hS); intro w hS) | ((with_reducible refine AllVw.mk ?_); intro V hV))))
  (refine RgD.fin0 fun w hb => ?_; replace hS := hS.below hb; clear hb)
  by_cases hfull : n + 1 = d
  · (refine Reach.walk ?_; (repeat (first | ((with_reducible refine AllSt.mk ?_); (try clear hS); intro w hS) | ((with_reducible refine AllVw.mk ?_); intro V hV))))
    (with_reducible apply doneQ_three Try.results18); (· exact slotFound); (· exact slotFound); (· exact slotFound)
    exact .inr (.inl ⟨hok, hfull, rfl, hS.tail.tail⟩)
  simp only [refC] at hS ⊢
  rw [hstep]
  generalize (head + n) % d = f at *
  by_cases hwrap : f + 1 = d
  · rw [if_pos hwrap, if_pos hwrap]
    rcases hsz with rfl | rfl
    all_goals
      (refine Reach.walk ?_; (repeat (first | ((with_reducible refine AllSt.mk ?_); (try clear hS); intro w hS) | ((with_reducible refine AllVw.mk ?_); intro V hV))))
      (refine Wp.drawD 15 (by kernel_rfl) (by kernel_rfl) rfl ?_; dsimp only [List.take, List.drop])
      (refine Reach.rwalk ?_; (repeat (first | ((with_reducible refine AllSt.mk ?_); (try clear hS); intro w hS) | ((with_reducible refine AllVw.mk ?_); intro V hV))))
      (refine RgD.fin0 fun w hb => ?_; replace hS := hS.below hb; clear hb)
      (refine Reach.walk ?_; (repeat (first | ((with_reducible refine AllSt.mk ?_); (try clear hS); intro w hS) | ((with_reducible refine AllVw.mk ?_); intro V hV))))
      (refine Wp.drawD 9 (by kernel_rfl) (by kernel_rfl) rfl ?_; dsimp only [List.take, List.drop])
      (refine Reach.rwalk ?_; (repeat (first | ((with_reducible refine AllSt.mk ?_); (try clear hS); intro w hS) | ((with_reducible refine AllVw.mk ?_); intro V hV))))
      (refine RgD.fin0 fun w hb => ?_; replace hS := hS.below hb; clear hb)
      (refine Reach.walk ?_; (repeat (first | ((with_reducible refine AllSt.mk ?_); (try clear hS); intro w hS) | ((with_reducible refine AllVw.mk ?_); intro V hV))))
      (with_reducible apply doneQ_three Try.results18); (· exact slotFound); (· exact slotFound); (· exact slotFound)
      exact .inr (.inr ⟨hok, by omega, A', c', rfl, hV', hS.drop1⟩)
  · rw [if_neg hwrap, if_neg hwrap]
    rcases hsz with rfl | rfl
    all_goals
      (refine Reach.walk ?_; (repeat (first | ((with_reducible refine AllSt.mk ?_); (try clear hS); intro w hS) | ((with_reducible refine AllVw.mk ?_); intro V hV))))
      (refine Wp.drawD 15 (by kernel_rfl) (by kernel_rfl) rfl ?_; dsimp only [List.take, List.drop])
      (refine Reach.rwalk ?_; (repeat (first | ((with_reducible refine AllSt.mk ?_); (try clear hS); intro w hS) | ((with_reducible refine AllVw.mk ?_); intro V hV))))
      (refine RgD.fin0 fun w hb => ?_; replace hS := hS.below hb; clear hb)
      (refine Reach.walk ?_; (repeat (first | ((with_reducible refine AllSt.mk ?_); (try clear hS); intro w hS) | ((with_reducible refine AllVw.mk ?_); intro V hV))))
      (refine Wp.drawD 9 (by kernel_rfl) (by kernel_rfl) rfl ?_; dsimp only [List.take, List.drop])
      (refine Reach.rwalk ?_; (repeat (first | ((with_reducible refine AllSt.mk ?_); (try clear hS); intro w hS) | ((with_reducible refine AllVw.mk ?_); intro V hV))))
      (refine RgD.fin0 fun w hb => ?_; replace hS := hS.below hb; clear hb)
      (refine Reach.walk ?_; (repeat (first | ((with_reducible refine AllSt.mk ?_); (try clear hS); intro w hS) | ((with_reducible refine AllVw.mk ?_); intro V hV))))
      (with_reducible apply doneQ_three Try.results18); (· exact slotFound); (· exact slotFound); (· exact slotFound)
      exact .inr (.inr ⟨hok, by omega, A', c', rfl, hV', hS.drop1⟩)
end
end Go.Proofs.Ytaengifldfgjcaa
