/-
  Rings in a host's memory: new ones; places in them.
-/
import Derived.Test.YtaengifldfgjcaaRngA
namespace Go.Proofs.Ytaengifldfgjcaa
open Go.Fk Go.RowKit
attribute [local irreducible] Wp WpL Det thenQ blockQ

section
variable {w w0 : World} {M : Nat → Prop} {L : List Ch}

theorem newSub_any {V : Option Addr} {m c : Nat} {base d : Int} (hm : m ≤ 1099511627776) (hS : St w0 M w L) :
    Calls Try.prog 10 #[.slice V m c, .int .i64 base, .int .i64 d] w fun x w' =>
      (fineR m base d 64 ∧ ∃ g, x = .returned (.tuple #[.pointer (some ⟨g, 0, none⟩), .int .i64 0]) ∧ St w0 M w' (.blk g 63 (loopC V m c base.toNat d.toNat 64 0 0) :: L)) ∨
      (¬ fineR m base d 64 ∧ x = .returned (.tuple #[.pointer none, .int .i64 1]) ∧ St w0 M w' L) := by
  (refine calls_of (P := Try.prog) _ Try.func10 rfl Try.ntmps10 (Nat.le_of_ble_eq_true rfl) ?_; dsimp only [argE, Nat.reduceAdd])
  (refine Reach.walk ?_; (repeat (first | ((with_reducible refine AllSt.mk ?_); (try clear hS); intro w hS) | ((with_reducible refine AllVw.mk ?_); intro V hV))))
  (with_reducible apply WpL.call); (· exact rfl); (· exact Try.call27); (· exact Vals.found)
  refine (made_any (.inl rfl) hm hS).mono ?_
  clear hS
  rintro x w ⟨rfl, hS⟩
  refine ⟨_, rfl, ?_⟩
  (refine Reach.walk ?_; (repeat (first | ((with_reducible refine AllSt.mk ?_); (try clear hS); intro w hS) | ((with_reducible refine AllVw.mk ?_); intro V hV))))
  ((with_reducible apply WpL.al); (· assumption); (· exact rfl); (· exact rfl); clear hS)
  intro g w hS
  by_cases hf : fineR m base d 64
  · have h := hf
    unfold fineR at h
    obtain ⟨b, rfl⟩ := Int.eq_ofNat_of_zero_le h.2.2.1
    obtain ⟨e, rfl⟩ := Int.eq_ofNat_of_zero_le (show 0 ≤ d by omega)
    rw [decide_eq_true hf]
    (refine Reach.walk ?_; (repeat (first | ((with_reducible refine AllSt.mk ?_); (try clear hS); intro w hS) | ((with_reducible refine AllVw.mk ?_); intro V hV))))
    refine WpL.det rfl (Det.build (cells := loopC V m c b e 64 0 0) PVals.found (by kernel_rfl)) ?_
    (refine Reach.walk ?_; (repeat (first | ((with_reducible refine AllSt.mk ?_); (try clear hS); intro w hS) | ((with_reducible refine AllVw.mk ?_); intro V hV))))
    ((with_reducible apply WpL.bx); (· assumption); (· exact rfl); (· exact Env.found); (· exact rfl); clear hS)
    intro g2 w hS
    (refine Reach.walk ?_; (repeat (first | ((with_reducible refine AllSt.mk ?_); (try clear hS); intro w hS) | ((with_reducible refine AllVw.mk ?_); intro V hV))))
    (with_reducible apply doneQ_two Try.results10); (· exact slotFound); (· exact slotFound)
    exact .inl ⟨hf, g2, rfl, hS.drop1⟩
  · rw [decide_eq_false hf]
    (refine Reach.walk ?_; (repeat (first | ((with_reducible refine AllSt.mk ?_); (try clear hS); intro w hS) | ((with_reducible refine AllVw.mk ?_); intro V hV))))
    (with_reducible apply doneQ_two Try.results10); (· exact slotFound); (· exact slotFound)
    exact .inr ⟨hf, rfl, hS.tail⟩
theorem newComp_any {V : Option Addr} {m c : Nat} {base d : Int} (hm : m ≤ 1099511627776) (hS : St w0 M w L) :
    Calls Try.prog 14 #[.slice V m c, .int .i64 base, .int .i64 d] w fun x w' =>
      (fineR m base d 16 ∧ ∃ g, x = .returned (.tuple #[.pointer (some ⟨g, 0, none⟩), .int .i64 0]) ∧ St w0 M w' (.blk g 69 (compC V m c base.toNat d.toNat 16 0 0 0) :: L)) ∨
      (¬ fineR m base d 16 ∧ x = .returned (.tuple #[.pointer none, .int .i64 1]) ∧ St w0 M w' L) := by
  (refine calls_of (P := Try.prog) _ Try.func14 rfl Try.ntmps14 (Nat.le_of_ble_eq_true rfl) ?_; dsimp only [argE, Nat.reduceAdd])
  (refine Reach.walk ?_; (repeat (first | ((with_reducible refine AllSt.mk ?_); (try clear hS); intro w hS) | ((with_reducible refine AllVw.mk ?_); intro V hV))))
  (with_reducible apply WpL.call); (· exact rfl); (· exact Try.call27); (· exact Vals.found)
  refine (made_any (.inr rfl) hm hS).mono ?_
  clear hS
  rintro x w ⟨rfl, hS⟩
  refine ⟨_, rfl, ?_⟩
  (refine Reach.walk ?_; (repeat (first | ((with_reducible refine AllSt.mk ?_); (try clear hS); intro w hS) | ((with_reducible refine AllVw.mk ?_); intro V hV))))
  ((with_reducible apply WpL.al); (· assumption); (· exact rfl); (· exact rfl); clear hS)
  intro g w hS
  by_cases hf : fineR m base d 16
  · have h := hf
    unfold fineR at h
    obtain ⟨b, rfl⟩ := Int.eq_ofNat_of_zero_le h.2.2.1
    obtain ⟨e, rfl⟩ := Int.eq_ofNat_of_zero_le (show 0 ≤ d by omega)
    rw [decide_eq_true hf]
    (refine Reach.walk ?_; (repeat (first | ((with_reducible refine AllSt.mk ?_); (try clear hS); intro w hS) | ((with_reducible refine AllVw.mk ?_); intro V hV))))
    refine WpL.det rfl (Det.build (cells := compC V m c b e 16 0 0 0) PVals.found (by kernel_rfl)) ?_
    (refine Reach.walk ?_; (repeat (first | ((with_reducible refine AllSt.mk ?_); (try clear hS); intro w hS) | ((with_reducible refine AllVw.mk ?_); intro V hV))))
    ((with_reducible apply WpL.bx); (· assumption); (· exact rfl); (· exact Env.found); (· exact rfl); clear hS)
    intro g2 w hS
    (refine Reach.walk ?_; (repeat (first | ((with_reducible refine AllSt.mk ?_); (try clear hS); intro w hS) | ((with_reducible refine AllVw.mk ?_); intro V hV))))
    (with_reducible apply doneQ_two Try.results14); (· exact slotFound); (· exact slotFound)
    exact .inl ⟨hf, g2, rfl, hS.drop1⟩
  · rw [decide_eq_false hf]
    (refine Reach.walk ?_; (repeat (first | ((with_reducible refine AllSt.mk ?_); (try clear hS); intro w hS) | ((with_reducible refine AllVw.mk ?_); intro V hV))))
    (with_reducible apply doneQ_two Try.results14); (· exact slotFound); (· exact slotFound)
    exact .inr ⟨hf, rfl, hS.tail⟩

/-- How far it is from f to a place. -/
def farZ (d f : Nat) (t : Int) : Int := if t < 0 ∨ (d : Int) ≤ t then -1 else (((t.toNat + d - f) % d : Nat) : Int)
theorem far_any {g d f : Nat} {t : Int} (hl : Look L ⟨g, 2, none⟩ (.int .i64 (d : Int))) (hd : 2 ≤ d ∧ d ≤ 64) (hf : f < d) (hS : St w0 M w L) :
    Calls Try.prog 28 #[.pointer (some ⟨g, 0, none⟩), .int .i64 (f : Int), .int .i64 t] w fun x w' => x = .returned (.int .i64 (farZ d f t)) ∧ Below w.heap.size w w' := by
  replace hS := hS.quiet
  replace hl := hl.quiet
  (refine calls_of (P := Try.prog) _ Try.func28 rfl Try.ntmps28 (Nat.le_of_ble_eq_true rfl) ?_; dsimp only [argE, Nat.reduceAdd])
  by_cases h0 : t < 0
  · (refine Reach.walk ?_; (repeat (first | ((with_reducible refine AllSt.mk ?_); (try clear hS); intro w hS) | ((with_reducible refine AllVw.mk ?_); intro V hV))))
    (with_reducible apply doneQ_one Try.results28); (· exact slotFound)
    exact ⟨by rw [farZ, if_pos (.inl h0)], hS.toBelow⟩
  by_cases h1 : (d : Int) ≤ t
  · (refine Reach.walk ?_; (repeat (first | ((with_reducible refine AllSt.mk ?_); (try clear hS); intro w hS) | ((with_reducible refine AllVw.mk ?_); intro V hV))))
    (with_reducible apply doneQ_one Try.results28); (· exact slotFound)
    exact ⟨by rw [farZ, if_pos (.inr h1)], hS.toBelow⟩
  · (refine Reach.walk ?_; (repeat (first | ((with_reducible refine AllSt.mk ?_); (try clear hS); intro w hS) | ((with_reducible refine AllVw.mk ?_); intro V hV))))
    (refine Wp.drawD 14 (by kernel_rfl) (by kernel_rfl) rfl ?_; dsimp only [List.take, List.drop])
    (refine Reach.rwalk ?_; (repeat (first | ((with_reducible refine AllSt.mk ?_); (try clear hS); intro w hS) | ((with_reducible refine AllVw.mk ?_); intro V hV))))
    (refine RgD.fin0 fun w hb => ?_; replace hS := hS.below hb; clear hb)
    (refine Reach.walk ?_; (repeat (first | ((with_reducible refine AllSt.mk ?_); (try clear hS); intro w hS) | ((with_reducible refine AllVw.mk ?_); intro V hV))))
    (with_reducible apply doneQ_one Try.results28); (· exact slotFound)
    refine ⟨?_, hS.toBelow⟩
    rw [farZ, if_neg (by omega)]
    have : t - (f : Int) + (d : Int) = ((t.toNat + d - f : Nat) : Int) := by omega
    rw [this]
    rfl

theorem at_any {g m c base d sz head k q : Nat} {V : Option Addr} (h0 : Look L ⟨g, 0, none⟩ (.slice V m c)) (h1 : Look L ⟨g, 1, none⟩ (.int .i64 (base : Int))) (h2 : Look L ⟨g, 2, none⟩ (.int .i64 (d : Int))) (h3 : Look L ⟨g, 3, none⟩ (.int .i64 (sz : Int))) (h4 : Look L ⟨g, 4, none⟩ (.int .i64 (head : Int)))
    (hd : 2 ≤ d ∧ d ≤ 64) (hhd : head ≤ 64) (hk : k ≤ 64) (hsz : sz = 64 ∨ sz = 16) (hm : m ≤ 1099511627776) (hmc : m ≤ c) (hq : base + (head + k) % d * sz = q) (hfit : q + sz ≤ m) (hS : St w0 M w L) :
    Calls Try.prog 30 #[.pointer (some ⟨g, 0, none⟩), .int .i64 (k : Int)] w fun x w' => x = .returned (.slice (if c = q then V else V.map (·.add q)) sz (c - q)) ∧ Below w.heap.size w w' := by
  replace hS := hS.quiet
  replace h0 := h0.quiet
  replace h1 := h1.quiet
  replace h2 := h2.quiet
  replace h3 := h3.quiet
  replace h4 := h4.quiet
  subst hq
  (refine calls_of (P := Try.prog) _ Try.func30 rfl Try.ntmps30 (Nat.le_of_ble_eq_true rfl) ?_; dsimp only [argE, Nat.reduceAdd])
  rcases hsz with rfl | rfl
  all_goals
    (refine Reach.walk ?_; (repeat (first | ((with_reducible refine AllSt.mk ?_); (try clear hS); intro w hS) | ((with_reducible refine AllVw.mk ?_); intro V hV))))
    (refine Wp.drawD 22 (by kernel_rfl) (by kernel_rfl) rfl ?_; dsimp only [List.take, List.drop])
    (refine Reach.rwalk ?_; (repeat (first | ((with_reducible refine AllSt.mk ?_); (try clear hS); intro w hS) | ((with_reducible refine AllVw.mk ?_); intro V hV))))
    (refine RgD.fin0 fun w hb => ?_; replace hS := hS.below hb; clear hb)
    generalize (head + k) % d = r at *
    (refine Reach.walk ?_; (repeat (first | ((with_reducible refine AllSt.mk ?_); (try clear hS); intro w hS) | ((with_reducible refine AllVw.mk ?_); intro V hV))))
    (refine Wp.drawD 13 (by kernel_rfl) (by kernel_rfl) rfl ?_; dsimp only [List.take, List.drop])
    (refine Reach.rwalk ?_; (repeat (first | ((with_reducible refine AllSt.mk ?_); (try clear hS); intro w hS) | ((with_reducible refine AllVw.mk ?_); intro V hV))))
    refine RgD.det rfl rfl rfl rfl (Det.sliceLoHi rfl rfl rfl (by omega) (by omega) (by omega)) ?_
    (refine Reach.rwalk ?_; (repeat (first | ((with_reducible refine AllSt.mk ?_); (try clear hS); intro w hS) | ((with_reducible refine AllVw.mk ?_); intro V hV))))
    (refine RgD.fin0 fun w hb => ?_; replace hS := hS.below hb; clear hb)
    (refine Reach.walk ?_; (repeat (first | ((with_reducible refine AllSt.mk ?_); (try clear hS); intro w hS) | ((with_reducible refine AllVw.mk ?_); intro V hV))))
    (with_reducible apply doneQ_one Try.results30); (· exact slotFound)
    refine ⟨?_, hS.toBelow⟩
    congr 2
    · simp only [Int.toNat_natCast, Nat.mul_one]
    · omega

theorem on_any {g t m c base d sz head n k : Nat} {V : Option Addr} {ex : List Value} (hd : 2 ≤ d ∧ d ≤ 64) (hhd : head ≤ 64) (hk : k ≤ n) (hn : n ≤ 64)
    (hS : St w0 M w (.blk g t (.slice V m c :: .int .i64 (base : Int) :: .int .i64 (d : Int) :: .int .i64 (sz : Int) :: .int .i64 (head : Int) :: .int .i64 (n : Int) :: ex) :: L)) :
    Calls Try.prog 31 #[.pointer (some ⟨g, 0, none⟩), .int .i64 (k : Int)] w fun x w' => x = .returned (.tuple #[]) ∧
      St w0 M w' (.blk g t (.slice V m c :: .int .i64 (base : Int) :: .int .i64 (d : Int) :: .int .i64 (sz : Int) :: .int .i64 (((head + k) % d : Nat) : Int) :: .int .i64 ((n - k : Nat) : Int) :: ex) :: L) := by
  (refine calls_of (P := Try.prog) _ Try.func31 rfl Try.ntmps31 (Nat.le_of_ble_eq_true rfl) ?_; dsimp only [argE, Nat.reduceAdd])
  (refine Reach.walk ?_; (repeat (first | ((with_reducible refine AllSt.mk ?_); (try clear hS); intro w hS) | ((with_reducible refine AllVw.mk ?_); intro V hV))))
  (refine Wp.drawD 14 (by kernel_rfl) (by kernel_rfl) rfl ?_; dsimp only [List.take, List.drop])
  (refine Reach.rwalk ?_; (repeat (first | ((with_reducible refine AllSt.mk ?_); (try clear hS); intro w hS) | ((with_reducible refine AllVw.mk ?_); intro V hV))))
  (refine RgD.fin0 fun w hb => ?_; replace hS := hS.below hb; clear hb)
  (refine Reach.walk ?_; (repeat (first | ((with_reducible refine AllSt.mk ?_); (try clear hS); intro w hS) | ((with_reducible refine AllVw.mk ?_); intro V hV))))
  (try with_reducible apply doneQ_end); (with_reducible apply doneQ_none Try.results31)
  exact ⟨rfl, hS⟩
theorem clone_any {a : Addr} {n c : Nat} {l : List UInt8} (hr : RdsV L (some a) n (bv l)) (hlen : n ≤ 1099511627776) (hS : St w0 M w L) :
    Calls Try.prog 29 #[.slice (some a) n c] w fun x w' => ∃ A' c', x = .returned (.slice A' n c') ∧ IsVw A' n c' A' 0 ∧ St w0 M w' (.own A' n c' 5 1 (bv l) :: L) := by
  (refine calls_of (P := Try.prog) _ Try.func29 rfl Try.ntmps29 (Nat.le_of_ble_eq_true rfl) ?_; dsimp only [argE, Nat.reduceAdd])
  (refine Reach.walk ?_; (repeat (first | ((with_reducible refine AllSt.mk ?_); (try clear hS); intro w hS) | ((with_reducible refine AllVw.mk ?_); intro V hV))))
  ((with_reducible apply WpL.bs); (· assumption); (· exact rfl); (· exact BVals.found); (· exact oneAll_spec rfl); (· exact rfl); (· decide); (· exact listFound); clear hS)
  intro A w hV hS
  (refine Reach.walk ?_; (repeat (first | ((with_reducible refine AllSt.mk ?_); (try clear hS); intro w hS) | ((with_reducible refine AllVw.mk ?_); intro V hV))))
  refine WpL.app (zs := bv l) hS rfl rfl rfl Sel.found (by rw [Nat.mul_one]; exact hr.there _) (bv_one _) rfl (by omega) (by omega) ?_
  clear hS
  intro A' c' w hV' hS
  (refine Reach.walk ?_; (repeat (first | ((with_reducible refine AllSt.mk ?_); (try clear hS); intro w hS) | ((with_reducible refine AllVw.mk ?_); intro V hV))))
  (with_reducible apply doneQ_one Try.results29); (· exact slotFound)
  rw [Nat.zero_add] at *
  exact ⟨A', c', rfl, hV', hS⟩
end
end Go.Proofs.Ytaengifldfgjcaa
