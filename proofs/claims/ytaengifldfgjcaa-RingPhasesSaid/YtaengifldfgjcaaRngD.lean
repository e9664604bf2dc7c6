/-
  The completion queue of the program.
-/
import Derived.Test.YtaengifldfgjcaaRngC
namespace Go.Proofs.Ytaengifldfgjcaa
open Go.Fk Go.RowKit
attribute [local irreducible] Wp WpL Det thenQ blockQ
theorem laid_bv (l b : List UInt8) (o : Nat) : laid (bv l) o (bv b) = bv (Ent.over l o b) := by
  simp [laid, Ent.over, bv_append, bv_take, bv_drop, bv_length]

section
variable {w w0 : World} {M : Nat → Prop} {L : List Ch}

theorem free_any {g d n : Nat} (hl : Look L ⟨g, 2, none⟩ (.int .i64 (d : Int))) (hl5 : Look L ⟨g, 5, none⟩ (.int .i64 (n : Int))) (hd : d ≤ 64) (hn : n < d) (hS : St w0 M w L) :
    Calls Try.prog 21 #[.pointer (some ⟨g, 0, none⟩)] w fun x w' => x = .returned (.int .i64 ((d - 1 - n : Nat) : Int)) ∧ Below w.heap.size w w' := by
  replace hS := hS.quiet
  replace hl := hl.quiet
  replace hl5 := hl5.quiet
  (refine calls_of (P := Try.prog) _ Try.func21 rfl Try.ntmps21 (Nat.le_of_ble_eq_true rfl) ?_; dsimp only [argE, Nat.reduceAdd])
  (refine Reach.walk ?_; (repeat (first | ((with_reducible refine AllSt.mk ?_); (try clear hS); intro w hS) | ((with_reducible refine AllVw.mk ?_); intro V hV))))
  (refine Wp.drawD 13 (by kernel_rfl) (by kernel_rfl) rfl ?_; dsimp only [List.take, List.drop])
  (refine Reach.rwalk ?_; (repeat (first | ((with_reducible refine AllSt.mk ?_); (try clear hS); intro w hS) | ((with_reducible refine AllVw.mk ?_); intro V hV))))
  (refine RgD.fin0 fun w hb => ?_; replace hS := hS.below hb; clear hb)
  (refine Reach.walk ?_; (repeat (first | ((with_reducible refine AllSt.mk ?_); (try clear hS); intro w hS) | ((with_reducible refine AllVw.mk ?_); intro V hV))))
  (with_reducible apply doneQ_one Try.results21); (· exact slotFound)
  exact ⟨by rw [show ((d - 1 - n : Nat) : Int) = (d : Int) - 1 - (n : Int) by omega], hS.toBelow⟩

/-- A completion queue's bell. -/
def headOk (d head n : Nat) (t : Int) : Prop := (0 ≤ t ∧ t < d) ∧ ahead d head t ≤ n
instance (d head n : Nat) (t : Int) : Decidable (headOk d head n t) := by unfold headOk; infer_instance
theorem compBell_any {g m c base d sz head n p : Nat} {t : Int} {V : Option Addr} (hd : 2 ≤ d ∧ d ≤ 64) (hhd : head < d) (hn : n < d)
    (hS : St w0 M w (.blk g 69 (compC V m c base d sz head n p) :: L)) :
    Calls Try.prog 19 #[.pointer (some ⟨g, 0, none⟩), .int .i64 t] w fun x w' =>
      (headOk d head n t ∧ x = .returned (.int .i64 0) ∧ St w0 M w' (.blk g 69 (compC V m c base d sz ((head + ahead d head t) % d) (n - ahead d head t) p) :: L)) ∨
      (¬ headOk d head n t ∧ x = .returned (.int .i64 170) ∧ St w0 M w' (.blk g 69 (compC V m c base d sz head n p) :: L)) := by
  (refine calls_of (P := Try.prog) _ Try.func19 rfl Try.ntmps19 (Nat.le_of_ble_eq_true rfl) ?_; dsimp only [argE, Nat.reduceAdd])
  (refine Reach.walk ?_; (repeat (first | ((with_reducible refine AllSt.mk ?_); (try clear hS); intro w hS) | ((with_reducible refine AllVw.mk ?_); intro V hV))))
  (refine Wp.drawD 11 (by kernel_rfl) (by kernel_rfl) rfl ?_; dsimp only [List.take, List.drop])
  (refine Reach.rwalk ?_; (repeat (first | ((with_reducible refine AllSt.mk ?_); (try clear hS); intro w hS) | ((with_reducible refine AllVw.mk ?_); intro V hV))))
  unfold headOk
  refine RgD.known0 (c := .int .i64 (farZ d head t)) rfl rfl rfl rfl (fun w1 hb1 => ?_) ?_
  · (with_reducible apply WpL.call); (· exact rfl); (· exact Try.call28); (· exact Vals.found)
    refine (far_any (d := d) Look.found hd hhd (hS.below hb1)).mono ?_
    rintro x w2 ⟨rfl, hb2⟩
    exact ⟨_, rfl, WpL.nil ⟨⟨hb1.on hb2, hb2⟩, Env.set_same _ _ _⟩⟩
  (refine Reach.rwalk ?_; (repeat (first | ((with_reducible refine AllSt.mk ?_); (try clear hS); intro w hS) | ((with_reducible refine AllVw.mk ?_); intro V hV))))
  (refine RgD.fin0 fun w hb => ?_; replace hS := hS.below hb; clear hb)
  by_cases hin : 0 ≤ t ∧ t < d
  rotate_left
  · rw [farZ_off hin]
    (refine Reach.walk ?_; (repeat (first | ((with_reducible refine AllSt.mk ?_); (try clear hS); intro w hS) | ((with_reducible refine AllVw.mk ?_); intro V hV))))
    (with_reducible apply doneQ_one Try.results19); (· exact slotFound)
    exact .inr ⟨fun h => hin h.1, rfl, hS⟩
  rw [farZ_in hin]
  have hk : ahead d head t < d := ahead_lt (by omega)
  generalize ahead d head t = k at *
  by_cases hok : k ≤ n
  · (refine Reach.walk ?_; (repeat (first | ((with_reducible refine AllSt.mk ?_); (try clear hS); intro w hS) | ((with_reducible refine AllVw.mk ?_); intro V hV))))
    (with_reducible apply WpL.call); (· exact rfl); (· exact Try.call31); (· exact Vals.found)
    refine (on_any (k := k) hd (by omega) (by omega) (by omega) hS).mono ?_
    clear hS
    rintro x w ⟨rfl, hS⟩
    refine ⟨_, rfl, ?_⟩
    (refine Reach.walk ?_; (repeat (first | ((with_reducible refine AllSt.mk ?_); (try clear hS); intro w hS) | ((with_reducible refine AllVw.mk ?_); intro V hV))))
    (with_reducible apply doneQ_one Try.results19); (· exact slotFound)
    exact .inl ⟨⟨hin, hok⟩, rfl, hS⟩
  · (refine Reach.walk ?_; (repeat (first | ((with_reducible refine AllSt.mk ?_); (try clear hS); intro w hS) | ((with_reducible refine AllVw.mk ?_); intro V hV))))
    (with_reducible apply doneQ_one Try.results19); (· exact slotFound)
    exact .inr ⟨fun h => hok h.2, rfl, hS⟩

/-- The phase of the next completion. -/
def phB (d p : Nat) : Bool := decide (((p / d % 2 : Nat) : Int) = 0)
set_option maxHeartbeats 2000000 in
theorem post_any {g m c base d head n p result : Nat} {h q i s : Int} {ph : Bool} {A : Option Addr} {mem : List UInt8} (hd : 2 ≤ d ∧ d ≤ 64) (hhd : head < d) (hn : n < d) (hp : p ≤ 1000000) (hm : m ≤ 1099511627776) (hml : mem.length = m) (hfit : base + d * 16 ≤ m) (hV : IsVw A m c A 0) (hres : result < 4294967296)
    (hS : St w0 M w (.blk g 69 (compC A m c base d 16 head n p) :: .own A m c 5 1 (bv mem) :: L)) :
    Calls Try.prog 17 #[.pointer (some ⟨g, 0, none⟩), doneV result h q i ph s] w fun x w' =>
      (¬ Ent.doneOk h q i s ∧ x = .returned (.int .i64 1) ∧ St w0 M w' (.blk g 69 (compC A m c base d 16 head n p) :: .own A m c 5 1 (bv mem) :: L)) ∨
      (Ent.doneOk h q i s ∧ n + 1 = d ∧ x = .returned (.int .i64 90) ∧ St w0 M w' (.blk g 69 (compC A m c base d 16 head n p) :: .own A m c 5 1 (bv mem) :: L)) ∨
      (Ent.doneOk h q i s ∧ n + 1 < d ∧ x = .returned (.int .i64 0) ∧ St w0 M w' (.blk g 69 (compC A m c base d 16 head (n + 1) (p + 1)) ::
        .own A m c 5 1 (bv (Ent.over mem (base + (head + n) % d * 16) (Ent.doneBytes result h.toNat q.toNat i.toNat s.toNat (phB d p)))) :: L)) := by
  (refine calls_of (P := Try.prog) _ Try.func17 rfl Try.ntmps17 (Nat.le_of_ble_eq_true rfl) ?_; dsimp only [argE, Nat.reduceAdd])
  (refine Reach.walk ?_; (repeat (first | ((with_reducible refine AllSt.mk ?_); (try clear hS); intro w hS) | ((with_reducible refine AllVw.mk ?_); intro V hV))))
  ((with_reducible apply WpL.bx); (· assumption); (· exact rfl); (· exact Env.found); (· exact rfl); clear hS)
  intro gd w hS
  (refine Reach.walk ?_; (repeat (first | ((with_reducible refine AllSt.mk ?_); (try clear hS); intro w hS) | ((with_reducible refine AllVw.mk ?_); intro V hV))))
  (refine Wp.drawD 13 (by kernel_rfl) (by kernel_rfl) rfl ?_; dsimp only [List.take, List.drop])
  (refine Reach.rwalk ?_; (repeat (first | ((with_reducible refine AllSt.mk ?_); (try clear hS); intro w hS) | ((with_reducible refine AllVw.mk ?_); intro V hV))))
  (refine RgD.fin0 fun w hb => ?_; replace hS := hS.below hb; clear hb)
  (refine Reach.walk ?_; (repeat (first | ((with_reducible refine AllSt.mk ?_); (try clear hS); intro w hS) | ((with_reducible refine AllVw.mk ?_); intro V hV))))
  (with_reducible apply WpL.call); (· exact rfl); (· exact Try.call32); (· exact Vals.found)
  refine (postedS result h q i s (phB d p) hres hS).mono ?_
  clear hS
  rintro x w ⟨A', c', rfl, hV', hS⟩
  refine ⟨_, rfl, ?_⟩
  by_cases hok : Ent.doneOk h q i s
  rotate_left
  · simp only [doneE, if_neg hok]
    (refine Reach.walk ?_; (repeat (first | ((with_reducible refine AllSt.mk ?_); (try clear hS); intro w hS) | ((with_reducible refine AllVw.mk ?_); intro V hV))))
    (with_reducible apply doneQ_one Try.results17); (· exact slotFound)
    exact .inl ⟨hok, rfl, hS.tail.tail⟩
  simp only [doneE, if_pos hok, doneL] at hS hV' ⊢
  have hbl : (Ent.doneBytes result h.toNat q.toNat i.toNat s.toNat (phB d p)).length = 16 := doneBytes_length _ _ _ _ _ _
  generalize Ent.doneBytes result h.toNat q.toNat i.toNat s.toNat (phB d p) = bs at *
  (refine Reach.walk ?_; (repeat (first | ((with_reducible refine AllSt.mk ?_); (try clear hS); intro w hS) | ((with_reducible refine AllVw.mk ?_); intro V hV))))
  (with_reducible apply WpL.call); (· exact rfl); (· exact Try.call21); (· exact Vals.found)
  refine (free_any (d := d) (n := n) Look.found Look.found hd.2 hn hS).mono ?_
  rintro x w ⟨rfl, hb⟩
  refine ⟨_, rfl, ?_⟩
  replace hS := hS.below hb
  clear hb
  by_cases hfull : n + 1 = d
  · (refine Reach.walk ?_; (repeat (first | ((with_reducible refine AllSt.mk ?_); (try clear hS); intro w hS) | ((with_reducible refine AllVw.mk ?_); intro V hV))))
    (with_reducible apply doneQ_one Try.results17); (· exact slotFound)
    exact .inr (.inl ⟨hok, hfull, rfl, hS.tail.tail⟩)
  (refine Reach.walk ?_; (repeat (first | ((with_reducible refine AllSt.mk ?_); (try clear hS); intro w hS) | ((with_reducible refine AllVw.mk ?_); intro V hV))))
  (refine Wp.drawD 10 (by kernel_rfl) (by kernel_rfl) rfl ?_; dsimp only [List.take, List.drop])
  (refine Reach.rwalk ?_; (repeat (first | ((with_reducible refine AllSt.mk ?_); (try clear hS); intro w hS) | ((with_reducible refine AllVw.mk ?_); intro V hV))))
  have hr : (head + n) % d < d := Nat.mod_lt _ (by omega)
  have hle : base + (head + n) % d * 16 + 16 ≤ m := by omega
  have hv := hV.cut (lo := base + (head + n) % d * 16) (hi := base + (head + n) % d * 16 + 16) (by omega) (by have := hV.le; omega)
  rw [Nat.zero_add, Nat.add_sub_cancel_left] at hv
  refine RgD.known0 (c := .slice (if c = base + (head + n) % d * 16 then A else A.map (·.add (base + (head + n) % d * 16))) 16 (c - (base + (head + n) % d * 16))) rfl rfl rfl rfl (fun w1 hb1 => ?_) ?_
  · (with_reducible apply WpL.call); (· exact rfl); (· exact Try.call30); (· exact Vals.found)
    refine (at_any (m := m) (c := c) (V := A) (base := base) (d := d) (sz := 16) (head := head) (k := n) Look.found Look.found Look.found Look.found Look.found hd (by omega) (by omega) (.inr rfl) hm hV.le rfl hle (hS.below hb1)).mono ?_
    rintro x w2 ⟨rfl, hb2⟩
    exact ⟨_, rfl, WpL.nil ⟨⟨hb1.on hb2, hb2⟩, Env.set_same _ _ _⟩⟩
  (refine Reach.rwalk ?_; (repeat (first | ((with_reducible refine AllSt.mk ?_); (try clear hS); intro w hS) | ((with_reducible refine AllVw.mk ?_); intro V hV))))
  (refine RgD.fin0 fun w hb => ?_; replace hS := hS.below hb; clear hb)
  generalize (if c = base + (head + n) % d * 16 then A else A.map (·.add (base + (head + n) % d * 16))) = V' at *
  generalize base + (head + n) % d * 16 = o at *
  refine WpL.copy (zs := bv (Ent.over mem o bs)) hS rfl rfl rfl hv (.there (.there (.there .here))) RdsV.found (bv_one _) (Nat.le_refl _) (by simp; omega) (laid_bv _ _ _) ?_
  clear hS
  intro w hS
  (refine Reach.walk ?_; (repeat (first | ((with_reducible refine AllSt.mk ?_); (try clear hS); intro w hS) | ((with_reducible refine AllVw.mk ?_); intro V hV))))
  (with_reducible apply doneQ_one Try.results17); (· exact slotFound)
  exact .inr (.inr ⟨hok, by omega, rfl, hS.tail.tail⟩)
end
end Go.Proofs.Ytaengifldfgjcaa
