/-
  The document's rings: heads and tails.
-/
import Derived.Test.YtaengifldfgjcaaRngD
namespace Go.Proofs.Ytaengifldfgjcaa
open Go.Fk Go.RowKit
attribute [local irreducible] Wp WpL Det thenQ blockQ
abbrev refC (base d sz head n : Nat) (ph : Bool) : List Value := [.int .i64 (base : Int), .int .i64 (d : Int), .int .i64 (sz : Int), .int .i64 (head : Int), .int .i64 (((head + n) % d : Nat) : Int), .bool ph]
instance : RowT Try.prog 56 := ⟨_, Try.underlying56, rfl⟩
instance : SizeT Try.prog 56 6 := ⟨by kernel_rfl⟩
instance : BuildT Try.prog 56 [.int .i64 0, .int .i64 0, .int .i64 0, .int .i64 0, .int .i64 0, .bool false] [(0, 1), (1, 1), (2, 1), (3, 1), (4, 1), (5, 1)] := ⟨by kernel_rfl⟩
instance : FieldT Try.prog 56 0 0 := ⟨by kernel_rfl⟩
instance : FieldT Try.prog 56 1 1 := ⟨by kernel_rfl⟩
instance : FieldT Try.prog 56 2 2 := ⟨by kernel_rfl⟩
instance : FieldT Try.prog 56 3 3 := ⟨by kernel_rfl⟩
instance : FieldT Try.prog 56 4 4 := ⟨by kernel_rfl⟩
instance : FieldT Try.prog 56 5 5 := ⟨by kernel_rfl⟩
instance : PtrT Try.prog 40 := ⟨_, Try.underlying40⟩

theorem mod2 {a d : Nat} (h : a < d + d) : a % d = if a < d then a else a - d := by
  split
  · rename_i h1; exact Nat.mod_eq_of_lt h1
  · rename_i h1
    rw [Nat.mod_eq_sub_mod (by omega), Nat.mod_eq_of_lt (by omega)]
theorem ahead_eq {d f : Nat} {t : Int} (hf : f < d) (h : 0 ≤ t ∧ t < d) : ahead d f t = if f ≤ t.toNat then t.toNat - f else t.toNat + d - f := by
  unfold ahead
  rw [mod2 (by omega)]
  split <;> split <;> omega
theorem ahead_back {d f : Nat} {t : Int} (hf : f < d) (h : 0 ≤ t ∧ t < d) : (((f + ahead d f t) % d : Nat) : Int) = t := by
  have hk : ahead d f t < d := ahead_lt (by omega)
  rw [mod2 (by omega)]
  rw [ahead_eq hf h] at hk ⊢
  split <;> split <;> omega
theorem mod_add_step {a n k d : Nat} : (a + (n + k)) % d = ((a + n) % d + k) % d := by rw [← Nat.add_assoc, Nat.mod_add_mod]

section
variable {w w0 : World} {M : Nat → Prop} {L : List Ch}

set_option maxHeartbeats 1000000 in
theorem refNew_any {m sz : Nat} {base d : Int} (hsz : sz = 64 ∨ sz = 16) (hm : m ≤ 1099511627776) (hS : St w0 M w L) :
    Calls Try.prog 15 #[.int .i64 (m : Int), .int .i64 base, .int .i64 d, .int .i64 (sz : Int)] w fun x w' =>
      (fineR m base d sz ∧ ∃ g, x = .returned (.tuple #[.pointer (some ⟨g, 0, none⟩), .bool true]) ∧ St w0 M w' (.blk g 56 (refC base.toNat d.toNat sz 0 0 true) :: L)) ∨
      (¬ fineR m base d sz ∧ x = .returned (.tuple #[.pointer none, .bool false]) ∧ St w0 M w' L) := by
  (refine calls_of (P := Try.prog) _ Try.func15 rfl Try.ntmps15 (Nat.le_of_ble_eq_true rfl) ?_; dsimp only [argE, Nat.reduceAdd])
  have h : ¬ 2 ≤ d ∨ (2 ≤ d ∧ ¬ d ≤ 64) ∨ (2 ≤ d ∧ d ≤ 64 ∧ ¬ 0 ≤ base) ∨ (2 ≤ d ∧ d ≤ 64 ∧ 0 ≤ base ∧ ¬ base ≤ m) ∨ (2 ≤ d ∧ d ≤ 64 ∧ 0 ≤ base ∧ base ≤ m ∧ ¬ d * sz ≤ m - base) ∨ (2 ≤ d ∧ d ≤ 64 ∧ 0 ≤ base ∧ base ≤ m ∧ d * sz ≤ m - base) := by omega
  rcases hsz with rfl | rfl <;> rcases h with h1 | ⟨h1, h2⟩ | ⟨h1, h2, h3⟩ | ⟨h1, h2, h3, h4⟩ | ⟨h1, h2, h3, h4, h5⟩ | ⟨h1, h2, h3, h4, h5⟩
  all_goals first
    | (refine Reach.walk ?_; (repeat (first | ((with_reducible refine AllSt.mk ?_); (try clear hS); intro w hS) | ((with_reducible refine AllVw.mk ?_); intro V hV))))
      (with_reducible apply doneQ_two Try.results15); (· exact slotFound); (· exact slotFound)
      exact .inr ⟨by unfold fineR; omega, rfl, hS⟩
    | obtain ⟨b, rfl⟩ := Int.eq_ofNat_of_zero_le h3
      obtain ⟨e, rfl⟩ := Int.eq_ofNat_of_zero_le (show 0 ≤ d by omega)
      (refine Reach.walk ?_; (repeat (first | ((with_reducible refine AllSt.mk ?_); (try clear hS); intro w hS) | ((with_reducible refine AllVw.mk ?_); intro V hV))))
      refine WpL.det rfl (Det.build (cells := [.int .i64 (b : Int), .int .i64 (e : Int), .int .i64 _, .int .i64 0, .int .i64 0, .bool true]) PVals.found rfl) ?_
      (refine Reach.walk ?_; (repeat (first | ((with_reducible refine AllSt.mk ?_); (try clear hS); intro w hS) | ((with_reducible refine AllVw.mk ?_); intro V hV))))
      ((with_reducible apply WpL.bx); (· assumption); (· exact rfl); (· exact Env.found); (· exact rfl); clear hS)
      intro g w hS
      (refine Reach.walk ?_; (repeat (first | ((with_reducible refine AllSt.mk ?_); (try clear hS); intro w hS) | ((with_reducible refine AllVw.mk ?_); intro V hV))))
      (with_reducible apply doneQ_two Try.results15); (· exact slotFound); (· exact slotFound)
      refine .inl ⟨by unfold fineR; omega, g, rfl, ?_⟩
      simp only [refC, Nat.add_zero, Nat.zero_mod, Int.toNat_natCast]
      exact hS

theorem used_any {g d head n : Nat} (h1 : Look L ⟨g, 1, none⟩ (.int .i64 (d : Int))) (h3 : Look L ⟨g, 3, none⟩ (.int .i64 (head : Int))) (h4 : Look L ⟨g, 4, none⟩ (.int .i64 (((head + n) % d : Nat) : Int)))
    (hd : d ≤ 64) (hhd : head < d) (hn : n < d) (hS : St w0 M w L) :
    Calls Try.prog 22 #[.pointer (some ⟨g, 0, none⟩)] w fun x w' => x = .returned (.int .i64 (n : Int)) ∧ Below w.heap.size w w' := by
  replace hS := hS.quiet
  replace h1 := h1.quiet
  replace h3 := h3.quiet
  replace h4 := h4.quiet
  have ht : (head + n) % d = if head + n < d then head + n else head + n - d := mod2 (by omega)
  generalize (head + n) % d = t at *
  have htd : t < d := by split at ht <;> omega
  (refine calls_of (P := Try.prog) _ Try.func22 rfl Try.ntmps22 (Nat.le_of_ble_eq_true rfl) ?_; dsimp only [argE, Nat.reduceAdd])
  (refine Reach.walk ?_; (repeat (first | ((with_reducible refine AllSt.mk ?_); (try clear hS); intro w hS) | ((with_reducible refine AllVw.mk ?_); intro V hV))))
  (refine Wp.drawD 10 (by kernel_rfl) (by kernel_rfl) rfl ?_; dsimp only [List.take, List.drop])
  (refine Reach.rwalk ?_; (repeat (first | ((with_reducible refine AllSt.mk ?_); (try clear hS); intro w hS) | ((with_reducible refine AllVw.mk ?_); intro V hV))))
  (refine RgD.fin0 fun w hb => ?_; replace hS := hS.below hb; clear hb)
  by_cases hlt : (t : Int) - (head : Int) < 0
  · (refine Reach.walk ?_; (repeat (first | ((with_reducible refine AllSt.mk ?_); (try clear hS); intro w hS) | ((with_reducible refine AllVw.mk ?_); intro V hV))))
    (with_reducible apply doneQ_one Try.results22); (· exact slotFound)
    refine ⟨?_, hS.toBelow⟩
    rw [show (t : Int) - (head : Int) + (d : Int) = (n : Int) by split at ht <;> omega]
  · (refine Reach.walk ?_; (repeat (first | ((with_reducible refine AllSt.mk ?_); (try clear hS); intro w hS) | ((with_reducible refine AllVw.mk ?_); intro V hV))))
    (with_reducible apply doneQ_one Try.results22); (· exact slotFound)
    refine ⟨?_, hS.toBelow⟩
    rw [show (t : Int) - (head : Int) = (n : Int) by split at ht <;> omega]

set_option maxHeartbeats 1000000 in
theorem tails_any {g base d sz head n : Nat} {ph : Bool} {t : Int} (hd : 2 ≤ d ∧ d ≤ 64) (hhd : head < d) (hn : n < d)
    (hS : St w0 M w (.blk g 56 (refC base d sz head n ph) :: L)) :
    Calls Try.prog 24 #[.pointer (some ⟨g, 0, none⟩), .int .i64 t] w fun x w' =>
      (bellOk d head n t ∧ x = .returned (.int .i64 0) ∧ St w0 M w' (.blk g 56 (refC base d sz head (n + ahead d ((head + n) % d) t) ph) :: L)) ∨
      (¬ bellOk d head n t ∧ x = .returned (.int .i64 170) ∧ St w0 M w' (.blk g 56 (refC base d sz head n ph) :: L)) := by
  have hf : (head + n) % d < d := Nat.mod_lt _ (by omega)
  (refine calls_of (P := Try.prog) _ Try.func24 rfl Try.ntmps24 (Nat.le_of_ble_eq_true rfl) ?_; dsimp only [argE, Nat.reduceAdd])
  by_cases hin : 0 ≤ t ∧ t < d
  rotate_left
  · by_cases h0 : t < 0
    all_goals
      (refine Reach.walk ?_; (repeat (first | ((with_reducible refine AllSt.mk ?_); (try clear hS); intro w hS) | ((with_reducible refine AllVw.mk ?_); intro V hV))))
      (with_reducible apply doneQ_one Try.results24); (· exact slotFound)
      exact .inr ⟨fun h => hin h.1, rfl, hS⟩
  have hbk := ahead_back hf hin
  have hak := ahead_eq hf hin
  have hklt : ahead d ((head + n) % d) t < d := ahead_lt (by omega)
  unfold bellOk
  simp only [refC] at hS ⊢
  rw [mod_add_step]
  generalize hfd : (head + n) % d = f at *
  generalize ahead d f t = k at *
  (refine Reach.walk ?_; (repeat (first | ((with_reducible refine AllSt.mk ?_); (try clear hS); intro w hS) | ((with_reducible refine AllVw.mk ?_); intro V hV))))
  refine Wp.cut (fun e' w' => St w0 M w' (.blk g 56 [.int .i64 (base : Int), .int .i64 (d : Int), .int .i64 (sz : Int), .int .i64 (head : Int), .int .i64 (f : Int), .bool ph] :: L) ∧ e'.Has [(5, .int .i64 (k : Int)), (0, .pointer (some ⟨g, 0, none⟩)), (1, .int .i64 t)]) ?_ ?_
  · by_cases hlt : t - (f : Int) < 0
    · (refine Reach.walk ?_; (repeat (first | ((with_reducible refine AllSt.mk ?_); (try clear hS); intro w hS) | ((with_reducible refine AllVw.mk ?_); intro V hV))))
      exact ⟨hS, int_eq (by split at hak <;> omega), rfl, rfl, trivial⟩
    · (refine Reach.walk ?_; (repeat (first | ((with_reducible refine AllSt.mk ?_); (try clear hS); intro w hS) | ((with_reducible refine AllVw.mk ?_); intro V hV))))
      exact ⟨hS, int_eq (by split at hak <;> omega), rfl, rfl, trivial⟩
  clear hS
  rintro e w ⟨hS, he⟩
  obtain ⟨e0, rfl⟩ := he.eq
  clear he
  dsimp only [Env.sets]
  (refine Reach.walk ?_; (repeat (first | ((with_reducible refine AllSt.mk ?_); (try clear hS); intro w hS) | ((with_reducible refine AllVw.mk ?_); intro V hV))))
  (refine Wp.drawD 9 (by kernel_rfl) (by kernel_rfl) rfl ?_; dsimp only [List.take, List.drop])
  (refine Reach.rwalk ?_; (repeat (first | ((with_reducible refine AllSt.mk ?_); (try clear hS); intro w hS) | ((with_reducible refine AllVw.mk ?_); intro V hV))))
  refine RgD.known0 (c := .int .i64 (n : Int)) rfl rfl rfl rfl (fun w1 hb1 => ?_) ?_
  · (with_reducible apply WpL.call); (· exact rfl); (· exact Try.call22); (· exact Vals.found)
    refine (used_any (d := d) (head := head) (n := n) Look.found Look.found (by rw [hfd]; exact Look.found) hd.2 hhd hn (hS.below hb1)).mono ?_
    rintro x w2 ⟨rfl, hb2⟩
    exact ⟨_, rfl, WpL.nil ⟨⟨hb1.on hb2, hb2⟩, Env.set_same _ _ _⟩⟩
  (refine Reach.rwalk ?_; (repeat (first | ((with_reducible refine AllSt.mk ?_); (try clear hS); intro w hS) | ((with_reducible refine AllVw.mk ?_); intro V hV))))
  (refine RgD.fin0 fun w hb => ?_; replace hS := hS.below hb; clear hb)
  by_cases hok : n + k < d
  · (refine Reach.walk ?_; (repeat (first | ((with_reducible refine AllSt.mk ?_); (try clear hS); intro w hS) | ((with_reducible refine AllVw.mk ?_); intro V hV))))
    (with_reducible apply doneQ_one Try.results24); (· exact slotFound)
    refine .inl ⟨⟨hin, hok⟩, rfl, ?_⟩
    rw [hbk]
    exact hS
  · (refine Reach.walk ?_; (repeat (first | ((with_reducible refine AllSt.mk ?_); (try clear hS); intro w hS) | ((with_reducible refine AllVw.mk ?_); intro V hV))))
    (with_reducible apply doneQ_one Try.results24); (· exact slotFound)
    exact .inr ⟨fun h => hok h.2, rfl, hS⟩
end
end Go.Proofs.Ytaengifldfgjcaa
