/-
  The queues of the program.
-/
import Derived.Test.YtaengifldfgjcaaRngB
namespace Go.Proofs.Ytaengifldfgjcaa
open Go.Fk Go.RowKit
attribute [local irreducible] Wp WpL Det thenQ blockQ

section
variable {w w0 : World} {M : Nat → Prop} {L : List Ch}

/-- How far a bell at t goes. -/
def ahead (d f : Nat) (t : Int) : Nat := (t.toNat + d - f) % d
theorem ahead_lt {d f : Nat} {t : Int} (hd : 0 < d) : ahead d f t < d := Nat.mod_lt _ hd
theorem farZ_in {d f : Nat} {t : Int} (h : 0 ≤ t ∧ t < d) : farZ d f t = (ahead d f t : Int) := by rw [farZ, if_neg (by omega)]; rfl
theorem farZ_off {d f : Nat} {t : Int} (h : ¬ (0 ≤ t ∧ t < d)) : farZ d f t = -1 := by rw [farZ, if_pos (by omega)]

/-- A bell at t may be rung. -/
def bellOk (d head n : Nat) (t : Int) : Prop := (0 ≤ t ∧ t < d) ∧ n + ahead d ((head + n) % d) t < d
instance (d head n : Nat) (t : Int) : Decidable (bellOk d head n t) := by unfold bellOk; infer_instance

set_option maxHeartbeats 1000000 in
theorem subBell_any {g m c base d sz head n : Nat} {t : Int} {V : Option Addr} (hd : 2 ≤ d ∧ d ≤ 64) (hhd : head < d) (hn : n < d)
    (hS : St w0 M w (.blk g 63 (loopC V m c base d sz head n) :: L)) :
    Calls Try.prog 11 #[.pointer (some ⟨g, 0, none⟩), .int .i64 t] w fun x w' =>
      (bellOk d head n t ∧ x = .returned (.int .i64 0) ∧ St w0 M w' (.blk g 63 (loopC V m c base d sz head (n + ahead d ((head + n) % d) t)) :: L)) ∨
      (¬ bellOk d head n t ∧ x = .returned (.int .i64 170) ∧ St w0 M w' (.blk g 63 (loopC V m c base d sz head n) :: L)) := by
  (refine calls_of (P := Try.prog) _ Try.func11 rfl Try.ntmps11 (Nat.le_of_ble_eq_true rfl) ?_; dsimp only [argE, Nat.reduceAdd])
  (refine Reach.walk ?_; (repeat (first | ((with_reducible refine AllSt.mk ?_); (try clear hS); intro w hS) | ((with_reducible refine AllVw.mk ?_); intro V hV))))
  (refine Wp.drawD 23 (by kernel_rfl) (by kernel_rfl) rfl ?_; dsimp only [List.take, List.drop])
  (refine Reach.rwalk ?_; (repeat (first | ((with_reducible refine AllSt.mk ?_); (try clear hS); intro w hS) | ((with_reducible refine AllVw.mk ?_); intro V hV))))
  have hf : (head + n) % d < d := Nat.mod_lt _ (by omega)
  unfold bellOk
  generalize (head + n) % d = f at *
  refine RgD.known0 (c := .int .i64 (farZ d f t)) rfl rfl rfl rfl (fun w1 hb1 => ?_) ?_
  · (with_reducible apply WpL.call); (· exact rfl); (· exact Try.call28); (· exact Vals.found)
    refine (far_any (d := d) Look.found hd hf (hS.below hb1)).mono ?_
    rintro x w2 ⟨rfl, hb2⟩
    exact ⟨_, rfl, WpL.nil ⟨⟨hb1.on hb2, hb2⟩, Env.set_same _ _ _⟩⟩
  (refine Reach.rwalk ?_; (repeat (first | ((with_reducible refine AllSt.mk ?_); (try clear hS); intro w hS) | ((with_reducible refine AllVw.mk ?_); intro V hV))))
  (refine RgD.fin0 fun w hb => ?_; replace hS := hS.below hb; clear hb)
  by_cases hin : 0 ≤ t ∧ t < d
  rotate_left
  · rw [farZ_off hin]
    (refine Reach.walk ?_; (repeat (first | ((with_reducible refine AllSt.mk ?_); (try clear hS); intro w hS) | ((with_reducible refine AllVw.mk ?_); intro V hV))))
    (refine Wp.drawD 17 (by kernel_rfl) (by kernel_rfl) rfl ?_; dsimp only [List.take, List.drop])
    (refine Reach.rwalk ?_; (repeat (first | ((with_reducible refine AllSt.mk ?_); (try clear hS); intro w hS) | ((with_reducible refine AllVw.mk ?_); intro V hV))))
    (refine RgD.fin0 fun w hb => ?_; replace hS := hS.below hb; clear hb)
    (refine Reach.walk ?_; (repeat (first | ((with_reducible refine AllSt.mk ?_); (try clear hS); intro w hS) | ((with_reducible refine AllVw.mk ?_); intro V hV))))
    (with_reducible apply doneQ_one Try.results11); (· exact slotFound)
    exact .inr ⟨fun h => hin h.1, rfl, hS⟩
  rw [farZ_in hin]
  have hk : ahead d f t < d := ahead_lt (by omega)
  generalize ahead d f t = k at *
  by_cases hok : n + k < d
  · (refine Reach.walk ?_; (repeat (first | ((with_reducible refine AllSt.mk ?_); (try clear hS); intro w hS) | ((with_reducible refine AllVw.mk ?_); intro V hV))))
    (refine Wp.drawD 17 (by kernel_rfl) (by kernel_rfl) rfl ?_; dsimp only [List.take, List.drop])
    (refine Reach.rwalk ?_; (repeat (first | ((with_reducible refine AllSt.mk ?_); (try clear hS); intro w hS) | ((with_reducible refine AllVw.mk ?_); intro V hV))))
    (refine RgD.fin0 fun w hb => ?_; replace hS := hS.below hb; clear hb)
    (refine Reach.walk ?_; (repeat (first | ((with_reducible refine AllSt.mk ?_); (try clear hS); intro w hS) | ((with_reducible refine AllVw.mk ?_); intro V hV))))
    (with_reducible apply doneQ_one Try.results11); (· exact slotFound)
    exact .inl ⟨⟨hin, hok⟩, rfl, hS⟩
  · (refine Reach.walk ?_; (repeat (first | ((with_reducible refine AllSt.mk ?_); (try clear hS); intro w hS) | ((with_reducible refine AllVw.mk ?_); intro V hV))))
    (refine Wp.drawD 17 (by kernel_rfl) (by kernel_rfl) rfl ?_; dsimp only [List.take, List.drop])
    (refine Reach.rwalk ?_; (repeat (first | ((with_reducible refine AllSt.mk ?_); (try clear hS); intro w hS) | ((with_reducible refine AllVw.mk ?_); intro V hV))))
    (refine RgD.fin0 fun w hb => ?_; replace hS := hS.below hb; clear hb)
    (refine Reach.walk ?_; (repeat (first | ((with_reducible refine AllSt.mk ?_); (try clear hS); intro w hS) | ((with_reducible refine AllVw.mk ?_); intro V hV))))
    (with_reducible apply doneQ_one Try.results11); (· exact slotFound)
    exact .inr ⟨fun h => hok h.2, rfl, hS⟩

theorem waiting_any {g n : Nat} (hl : Look L ⟨g, 5, none⟩ (.int .i64 (n : Int))) (hS : St w0 M w L) :
    Calls Try.prog 12 #[.pointer (some ⟨g, 0, none⟩)] w fun x w' => x = .returned (.int .i64 (n : Int)) ∧ w = w' := by
  replace hS := hS.quiet
  replace hl := hl.quiet
  (refine calls_of (P := Try.prog) _ Try.func12 rfl Try.ntmps12 (Nat.le_of_ble_eq_true rfl) ?_; dsimp only [argE, Nat.reduceAdd])
  (refine Reach.walk ?_; (repeat (first | ((with_reducible refine AllSt.mk ?_); (try clear hS); intro w hS) | ((with_reducible refine AllVw.mk ?_); intro V hV))))
  (with_reducible apply doneQ_one Try.results12); (· exact slotFound)
  exact ⟨rfl, rfl⟩
theorem head_any {g n : Nat} (hl : Look L ⟨g, 4, none⟩ (.int .i64 (n : Int))) (hS : St w0 M w L) :
    Calls Try.prog 26 #[.pointer (some ⟨g, 0, none⟩)] w fun x w' => x = .returned (.int .i64 (n : Int)) ∧ w = w' := by
  replace hS := hS.quiet
  replace hl := hl.quiet
  (refine calls_of (P := Try.prog) _ Try.func26 rfl Try.ntmps26 (Nat.le_of_ble_eq_true rfl) ?_; dsimp only [argE, Nat.reduceAdd])
  (refine Reach.walk ?_; (repeat (first | ((with_reducible refine AllSt.mk ?_); (try clear hS); intro w hS) | ((with_reducible refine AllVw.mk ?_); intro V hV))))
  (with_reducible apply doneQ_one Try.results26); (· exact slotFound)
  exact ⟨rfl, rfl⟩

set_option maxHeartbeats 1000000 in
theorem fetch_any {g m c base d head n : Nat} {A : Option Addr} {mem : List UInt8} (hd : 2 ≤ d ∧ d ≤ 64) (hhd : head < d) (hn : n < d) (hm : m ≤ 1099511627776) (hml : mem.length = m) (hfit : base + d * 64 ≤ m) (hV : IsVw A m c A 0)
    (hS : St w0 M w (.blk g 63 (loopC A m c base d 64 head n) :: .own A m c 5 1 (bv mem) :: L)) :
    Calls Try.prog 13 #[.pointer (some ⟨g, 0, none⟩)] w fun x w' =>
      (n = 0 ∧ x = .returned (.tuple #[.slice none 0 0, .bool false]) ∧ St w0 M w' (.blk g 63 (loopC A m c base d 64 head n) :: .own A m c 5 1 (bv mem) :: L)) ∨
      (n ≠ 0 ∧ ∃ A' c', x = .returned (.tuple #[.slice A' 64 c', .bool true]) ∧ IsVw A' 64 c' A' 0 ∧
        St w0 M w' (.own A' 64 c' 5 1 (bv ((mem.drop (base + head * 64)).take 64)) :: .blk g 63 (loopC A m c base d 64 ((head + 1) % d) (n - 1)) :: .own A m c 5 1 (bv mem) :: L)) := by
  (refine calls_of (P := Try.prog) _ Try.func13 rfl Try.ntmps13 (Nat.le_of_ble_eq_true rfl) ?_; dsimp only [argE, Nat.reduceAdd])
  by_cases h0 : n = 0
  · subst h0
    (refine Reach.walk ?_; (repeat (first | ((with_reducible refine AllSt.mk ?_); (try clear hS); intro w hS) | ((with_reducible refine AllVw.mk ?_); intro V hV))))
    (with_reducible apply doneQ_two Try.results13); (· exact slotFound); (· exact slotFound)
    exact .inl ⟨rfl, rfl, hS⟩
  (refine Reach.walk ?_; (repeat (first | ((with_reducible refine AllSt.mk ?_); (try clear hS); intro w hS) | ((with_reducible refine AllVw.mk ?_); intro V hV))))
  (with_reducible apply WpL.call); (· exact rfl); (· exact Try.call30); (· exact Vals.found)
  have hq : base + (head + 0) % d * 64 = base + head * 64 := by rw [Nat.add_zero, Nat.mod_eq_of_lt hhd]
  have hle : base + head * 64 + 64 ≤ m := by omega
  refine (at_any (m := m) (c := c) (V := A) (base := base) (d := d) (sz := 64) (head := head) (k := 0) Look.found Look.found Look.found Look.found Look.found hd (by omega) (by omega) (.inl rfl) hm hV.le hq hle hS).mono ?_
  rintro x w ⟨rfl, hb⟩
  refine ⟨_, rfl, ?_⟩
  replace hS := hS.below hb
  clear hb
  generalize base + head * 64 = q at *
  have hv := hV.cut (lo := q) (hi := q + 64) (by omega) (by have := hV.le; omega)
  rw [Nat.zero_add, Nat.add_sub_cancel_left] at hv
  have hrd := RdsV.byte hv (Rds.there (c := .blk g 63 (loopC A m c base d 64 head n)) (Rds.own (L := L) (A := A) (n := m) (c := c) (el := 5) (sz := 1) (xs := bv mem))) (by omega)
  generalize (if c = q then A else A.map (·.add q)) = V' at *
  obtain ⟨a, rfl, -⟩ := hv.addr (i := 0) (by omega)
  (refine Reach.walk ?_; (repeat (first | ((with_reducible refine AllSt.mk ?_); (try clear hS); intro w hS) | ((with_reducible refine AllVw.mk ?_); intro V hV))))
  (with_reducible apply WpL.call); (· exact rfl); (· exact Try.call29); (· exact Vals.found)
  refine (clone_any hrd (by omega) hS).mono ?_
  clear hS
  rintro x w ⟨A', c', rfl, hV', hS⟩
  refine ⟨_, rfl, ?_⟩
  replace hS := hS.take (pre := [.blk g _ _]) Take.found
  simp only [List.cons_append, List.nil_append] at hS
  (refine Reach.walk ?_; (repeat (first | ((with_reducible refine AllSt.mk ?_); (try clear hS); intro w hS) | ((with_reducible refine AllVw.mk ?_); intro V hV))))
  (with_reducible apply WpL.call); (· exact rfl); (· exact Try.call31); (· exact Vals.found)
  refine (on_any (k := 1) hd (by omega) (by omega) (by omega) hS).mono ?_
  clear hS
  rintro x w ⟨rfl, hS⟩
  refine ⟨_, rfl, ?_⟩
  (refine Reach.walk ?_; (repeat (first | ((with_reducible refine AllSt.mk ?_); (try clear hS); intro w hS) | ((with_reducible refine AllVw.mk ?_); intro V hV))))
  (with_reducible apply doneQ_two Try.results13); (· exact slotFound); (· exact slotFound)
  exact .inr ⟨h0, A', c', rfl, hV', hS.swap1⟩
end
end Go.Proofs.Ytaengifldfgjcaa
