/-
  Records as bytes: the readers; the program's and the document's.
-/
import Derived.Test.YtjdkkbbmboggpaaRecA
namespace Go.Proofs.Ytjdkkbbmboggpaa
open Go.Fk Go.RowKit
attribute [local irreducible] Wp WpL Det thenQ blockQ
instance : PtrT Try.prog 49 := ⟨_, Try.underlying49⟩
instance : Cell1 Try.prog 49 := ⟨_, Try.underlying49, rfl⟩
instance : SizeT Try.prog 49 1 := ⟨by kernel_rfl⟩
instance : SliceT Try.prog 50 49 := ⟨Try.underlying50⟩
instance : Elem Try.prog 49 1 8 (.pointer none) := ⟨by kernel_rfl, rfl, by decide⟩

/-- The record of its bytes without the sum. -/
def recOf (b : List UInt8) : Rec := ⟨((b.getD 0 0).toNat : Int), Ent.rd b 1 8, Ent.rd b 9 8, Ent.rd b 17 8, Ent.rd b 25 8⟩
theorem recOf_fits (b : List UInt8) : (recOf b).Fits := ⟨Ent.rd_lt64 (by decide), Ent.rd_lt64 (by decide), Ent.rd_lt64 (by decide), Ent.rd_lt64 (by decide)⟩
instance goodDec (t : List UInt8) : Decidable (Crc.good t) := by unfold Crc.good; infer_instance
/-- What Parse answers. -/
def parseR (l : List UInt8) : Rec × Int :=
  if l.length < 37 then (.zero, 80)
  else if Crc.good (l.take 37) then (if (recOf (l.take 33)).ok then (recOf (l.take 33), 0) else (.zero, 81))
  else (.zero, 30)

theorem number_any {V : Option Addr} {n c : Nat} {l : List UInt8} {w w0 : World} {M : Nat → Prop} {L : List Ch} (hS : St w0 M w L) (hr : RdsV L V n (bv l)) (h8 : 8 ≤ n) (hnc : n ≤ c) (hm : c ≤ maxLen) :
    Calls Try.prog 24 #[.slice V n c] w fun x w' => x = .returned (.int .u64 (Ent.rd l 0 8 : Nat)) ∧ w = w' := by
  obtain ⟨h1, h2⟩ := hr w0 M w hS
  have h2 : l.length = n := by simpa using h2
  have hV : IsVw V n c V 0 := h1.isVw (by simpa using h2) (fun h => by omega) hnc hm
  replace hS := (St.start w).startRo h1
  clear hr
  (refine calls_of (P := Try.prog) _ Try.func24 rfl Try.ntmps24 (Nat.le_of_ble_eq_true rfl) ?_; dsimp only [argE, Nat.reduceAdd])
  (refine Reach.walk ?_; (repeat (first | ((with_reducible refine AllSt.mk ?_); (try clear hS); intro w hS) | ((with_reducible refine AllVw.mk ?_); intro V hV))))
  apply Wp.loopUp 8 (fun i e w' => w' = w ∧ e.Has [(4, .int .i64 (i : Nat)), (3, .int .u64 (Ent.rd l 0 i : Nat)), (0, .slice V n c)]) (Nat.zero_le 8)
    ⟨rfl, rfl, by rw [Ent.rd_zero]; rfl, rfl, trivial⟩
  rintro i e w1 hi ⟨rfl, he⟩
  obtain ⟨e0, rfl⟩ := he.eq
  clear he
  dsimp only [Env.sets]
  by_cases hli : i < 8
  · have hX : Ent.rd l 0 i < 18446744073709551616 := Ent.rd_lt64 (by omega)
    have hb8 := byte_lt l i
    have hsh : (l.getD i 0).toNat <<< (8 * i) < 18446744073709551616 := by
      rw [Nat.shiftLeft_eq]
      have h1 : (2 : Nat) ^ (8 * i) ≤ 2 ^ 56 := Nat.pow_le_pow_right (by decide) (by omega)
      have h2 := Nat.mul_le_mul_left (l.getD i 0).toNat h1
      omega
    have hnext : Ent.rd l 0 (i + 1) = Ent.rd l 0 i ||| ((l.getD i 0).toNat <<< (8 * i)) := by
      rw [Ent.rd_succ (by omega), List.getD_eq_getElem?_getD, List.getElem?_eq_getElem (by omega)]
      simp only [Nat.zero_add]; rfl
    (refine Reach.walk ?_; (repeat (first | ((with_reducible refine AllSt.mk ?_); (try clear hS); intro w hS) | ((with_reducible refine AllVw.mk ?_); intro V hV))))
    exact ⟨hli, rfl, int_eq (by omega), int_eq (by rw [hnext]), rfl, trivial⟩
  · obtain rfl : i = 8 := by omega
    (refine Reach.walk ?_; (repeat (first | ((with_reducible refine AllSt.mk ?_); (try clear hS); intro w hS) | ((with_reducible refine AllVw.mk ?_); intro V hV))))
    (with_reducible apply doneQ_one Try.results24); (· exact slotFound)
    exact ⟨rfl, rfl⟩

theorem rd_view (l : List UInt8) (o m : Nat) (h : 8 ≤ m) : Ent.rd ((l.drop o).take m) 0 8 = Ent.rd l o 8 := by
  unfold Ent.rd
  rw [List.drop_zero, List.take_take, Nat.min_eq_left h]
theorem loN_view (l : List UInt8) (o m : Nat) (h : 8 ≤ m) : Crc.loN (((l.drop o).take m).take 8) = Ent.rd l o 8 := by
  unfold Ent.rd
  rw [List.take_take, Nat.min_eq_left h]

theorem parse_any {V : Option Addr} {n c : Nat} {l : List UInt8} {w w0 : World} {M : Nat → Prop} {L : List Ch} (hS : St w0 M w L) (hr : RdsV L V n (bv l)) (hV : IsVw V n c V 0) (hlen : n ≤ 140737488355328) :
    Calls Try.prog 11 #[.slice V n c] w fun x w' => x = .returned (.tuple #[.agg (parseR l).1.cells.toArray, .int .i64 (parseR l).2]) ∧ St w0 M w' L := by
  have hn : l.length = n := by
    have := (hr w0 M w hS).2
    simpa using this
  unfold parseR
  rw [hn]
  (refine calls_of (P := Try.prog) _ Try.func11 rfl Try.ntmps11 (Nat.le_of_ble_eq_true rfl) ?_; dsimp only [argE, Nat.reduceAdd])
  (refine Reach.walk ?_; (repeat (first | ((with_reducible refine AllSt.mk ?_); (try clear hS); intro w hS) | ((with_reducible refine AllVw.mk ?_); intro V hV))))
  ((with_reducible apply WpL.al); (· assumption); (· exact rfl); (· exact rfl); clear hS)
  intro gr w hS
  by_cases h37 : n < 37
  · rw [if_pos h37]
    (refine Reach.walk ?_; (repeat (first | ((with_reducible refine AllSt.mk ?_); (try clear hS); intro w hS) | ((with_reducible refine AllVw.mk ?_); intro V hV))))
    (with_reducible apply doneQ_row2 Try.results11); (· exact slotFound); (· exact slotFound); (· assumption); (· exact Sel.found); (· exact rfl)
    exact ⟨rfl, hS.tail⟩
  rw [if_neg h37]
  have hr37 : ∀ {V' : Option Addr} {c' : Nat}, IsVw V' 37 c' V 0 → RdsV (.blk gr 24 [.int .i64 0, .int .u64 0, .int .u64 0, .int .u64 0, .int .u64 0] :: L) V' 37 (bv (l.take 37)) := fun {V' c'} hv w0 M w hS => by
    obtain ⟨h1, h2⟩ := hr w0 M w hS.tail
    have := hv.rd h1 (Nat.le_refl 37)
    rw [List.drop_zero, ← bv_take] at this
    exact ⟨this, by simp; omega⟩
  (refine Reach.walk ?_; (repeat (first | ((with_reducible refine AllSt.mk ?_); (try clear hS); intro w hS) | ((with_reducible refine AllVw.mk ?_); intro V hV))))
  (with_reducible apply WpL.call); (· exact rfl); (· exact Try.call21); (· exact Vals.found)
  refine (openS hS (hr37 hV) hV.le (by decide)).mono ?_
  clear hS hr37
  rintro x w (⟨hg, A, c1, rfl, hV1, hS⟩ | ⟨hg, rfl, hS⟩)
  rotate_left
  · refine ⟨_, rfl, ?_⟩
    rw [if_neg hg]
    (refine Reach.walk ?_; (repeat (first | ((with_reducible refine AllSt.mk ?_); (try clear hS); intro w hS) | ((with_reducible refine AllVw.mk ?_); intro V hV))))
    (with_reducible apply doneQ_row2 Try.results11); (· exact slotFound); (· exact slotFound); (· assumption); (· exact Sel.found); (· exact rfl)
    exact ⟨rfl, hS.tail⟩
  refine ⟨_, rfl, ?_⟩
  rw [if_pos hg]
  rw [List.take_take, show min (37 - 4) 37 = 33 from rfl] at hS
  have hbl : (l.take 33).length = 33 := by simp; omega
  generalize l.take 33 = b at *
  have hb0 := byte_lt b 0
  (refine Reach.walk ?_; (repeat (first | ((with_reducible refine AllSt.mk ?_); (try clear hS); intro w hS) | ((with_reducible refine AllVw.mk ?_); intro V hV))))
  (with_reducible apply WpL.call); (· exact rfl); (· exact Try.call16); (· exact Vals.found)
  refine (known_any _ w).mono ?_
  rintro x w1 ⟨rfl, rfl⟩
  refine ⟨_, rfl, ?_⟩
  by_cases hok : (recOf b).ok
  rotate_left
  · have hd : decide (1 ≤ ((b.getD 0 0).toNat : Int) ∧ ((b.getD 0 0).toNat : Int) ≤ 4) = false := decide_eq_false hok
    rw [hd, if_neg hok]
    (refine Reach.walk ?_; (repeat (first | ((with_reducible refine AllSt.mk ?_); (try clear hS); intro w hS) | ((with_reducible refine AllVw.mk ?_); intro V hV))))
    (with_reducible apply doneQ_row2 Try.results11); (· exact slotFound); (· exact slotFound); (· assumption); (· exact Sel.found); (· exact rfl)
    exact ⟨rfl, hS.tail.tail⟩
  have hd : decide (1 ≤ ((b.getD 0 0).toNat : Int) ∧ ((b.getD 0 0).toNat : Int) ≤ 4) = true := decide_eq_true hok
  rw [hd, if_pos hok]
  (refine Reach.walk ?_; (repeat (first | ((with_reducible refine AllSt.mk ?_); (try clear hS); intro w hS) | ((with_reducible refine AllVw.mk ?_); intro V hV))))
  ((with_reducible apply WpL.bs); (· assumption); (· exact rfl); (· exact BVals.found); (· exact oneAll_spec rfl); (· exact rfl); (· decide); (· exact listFound); clear hS)
  intro Ap w hVp hS
  (refine Reach.walk ?_; (repeat (first | ((with_reducible refine AllSt.mk ?_); (try clear hS); intro w hS) | ((with_reducible refine AllVw.mk ?_); intro V hV))))
  have f1 := (recOf_fits b).seq
  have f2 := (recOf_fits b).a
  have f3 := (recOf_fits b).b
  have f4 := (recOf_fits b).c
  simp only [recOf] at f1 f2 f3 f4
  have pe : ∀ {o m : Nat}, 8 ≤ m → Crc.loN (((b.drop (0 + o)).take m).take 8) = Ent.rd b o 8 := fun h => by rw [Nat.zero_add]; exact loN_view _ _ _ h
  apply Wp.loopUp 4 (fun k e w' => St w0 M w' (.own Ap 4 4 49 1 [.pointer (some ⟨gr, 1, none⟩), .pointer (some ⟨gr, 2, none⟩), .pointer (some ⟨gr, 3, none⟩), .pointer (some ⟨gr, 4, none⟩)] :: .own A (37 - 4) c1 5 1 (bv b) ::
      .blk gr 24 [.int .i64 ((b.getD 0 0).toNat : Int), .int .u64 ((if 0 < k then Ent.rd b 1 8 else 0 : Nat) : Int), .int .u64 ((if 1 < k then Ent.rd b 9 8 else 0 : Nat) : Int), .int .u64 ((if 2 < k then Ent.rd b 17 8 else 0 : Nat) : Int), .int .u64 ((if 3 < k then Ent.rd b 25 8 else 0 : Nat) : Int)] :: L) ∧
      e.Has [(40, .int .i64 (k : Nat)), (39, .int .i64 4), (38, .slice Ap 4 4), (0, .slice A (37 - 4) c1), (2, .pointer (some ⟨gr, 0, none⟩))]) (Nat.zero_le 4)
    ⟨hS, rfl, rfl, rfl, rfl, rfl, trivial⟩
  clear hS
  rintro k e w hk ⟨hS, he⟩
  obtain ⟨e0, rfl⟩ := he.eq
  clear he
  dsimp only [Env.sets]
  have hk5 : k = 0 ∨ k = 1 ∨ k = 2 ∨ k = 3 ∨ k = 4 := by omega
  rcases hk5 with rfl | rfl | rfl | rfl | rfl
  · (refine Reach.walk ?_; (repeat (first | ((with_reducible refine AllSt.mk ?_); (try clear hS); intro w hS) | ((with_reducible refine AllVw.mk ?_); intro V hV))))
    (with_reducible apply WpL.call); (· exact rfl); (· exact Try.call22); (· exact Vals.found)
    refine (uint64S hS RdsV.found (by decide) (by decide)).mono ?_
    rintro x w1 ⟨rfl, rfl⟩
    refine ⟨_, rfl, ?_⟩
    rw [pe (by decide)]
    (refine Reach.walk ?_; (repeat (first | ((with_reducible refine AllSt.mk ?_); (try clear hS); intro w hS) | ((with_reducible refine AllVw.mk ?_); intro V hV))))
    exact ⟨by decide, hS, rfl, rfl, rfl, rfl, rfl, trivial⟩
  · (refine Reach.walk ?_; (repeat (first | ((with_reducible refine AllSt.mk ?_); (try clear hS); intro w hS) | ((with_reducible refine AllVw.mk ?_); intro V hV))))
    (with_reducible apply WpL.call); (· exact rfl); (· exact Try.call22); (· exact Vals.found)
    refine (uint64S hS RdsV.found (by decide) (by decide)).mono ?_
    rintro x w1 ⟨rfl, rfl⟩
    refine ⟨_, rfl, ?_⟩
    rw [pe (by decide)]
    (refine Reach.walk ?_; (repeat (first | ((with_reducible refine AllSt.mk ?_); (try clear hS); intro w hS) | ((with_reducible refine AllVw.mk ?_); intro V hV))))
    exact ⟨by decide, hS, rfl, rfl, rfl, rfl, rfl, trivial⟩
  · (refine Reach.walk ?_; (repeat (first | ((with_reducible refine AllSt.mk ?_); (try clear hS); intro w hS) | ((with_reducible refine AllVw.mk ?_); intro V hV))))
    (with_reducible apply WpL.call); (· exact rfl); (· exact Try.call22); (· exact Vals.found)
    refine (uint64S hS RdsV.found (by decide) (by decide)).mono ?_
    rintro x w1 ⟨rfl, rfl⟩
    refine ⟨_, rfl, ?_⟩
    rw [pe (by decide)]
    (refine Reach.walk ?_; (repeat (first | ((with_reducible refine AllSt.mk ?_); (try clear hS); intro w hS) | ((with_reducible refine AllVw.mk ?_); intro V hV))))
    exact ⟨by decide, hS, rfl, rfl, rfl, rfl, rfl, trivial⟩
  · (refine Reach.walk ?_; (repeat (first | ((with_reducible refine AllSt.mk ?_); (try clear hS); intro w hS) | ((with_reducible refine AllVw.mk ?_); intro V hV))))
    (with_reducible apply WpL.call); (· exact rfl); (· exact Try.call22); (· exact Vals.found)
    refine (uint64S hS RdsV.found (by decide) (by decide)).mono ?_
    rintro x w1 ⟨rfl, rfl⟩
    refine ⟨_, rfl, ?_⟩
    rw [pe (by decide)]
    (refine Reach.walk ?_; (repeat (first | ((with_reducible refine AllSt.mk ?_); (try clear hS); intro w hS) | ((with_reducible refine AllVw.mk ?_); intro V hV))))
    exact ⟨by decide, hS, rfl, rfl, rfl, rfl, rfl, trivial⟩
  · (refine Reach.walk ?_; (repeat (first | ((with_reducible refine AllSt.mk ?_); (try clear hS); intro w hS) | ((with_reducible refine AllVw.mk ?_); intro V hV))))
    (with_reducible apply doneQ_row2 Try.results11); (· exact slotFound); (· exact slotFound); (· assumption); (· exact Sel.found); (· exact rfl)
    exact ⟨rfl, hS.tail.tail.tail⟩

theorem refParse_any {V : Option Addr} {n c : Nat} {l : List UInt8} {w w0 : World} {M : Nat → Prop} {L : List Ch} (hS : St w0 M w L) (hr : RdsV L V n (bv l)) (hV : IsVw V n c V 0) (hlen : n ≤ 140737488355328) :
    Calls Try.prog 12 #[.slice V n c] w fun x w' => x = .returned (.tuple #[.agg (parseR l).1.cells.toArray, .int .i64 (parseR l).2]) ∧ St w0 M w' L := by
  have hn : l.length = n := by
    have := (hr w0 M w hS).2
    simpa using this
  unfold parseR
  rw [hn]
  (refine calls_of (P := Try.prog) _ Try.func12 rfl Try.ntmps12 (Nat.le_of_ble_eq_true rfl) ?_; dsimp only [argE, Nat.reduceAdd])
  (refine Reach.walk ?_; (repeat (first | ((with_reducible refine AllSt.mk ?_); (try clear hS); intro w hS) | ((with_reducible refine AllVw.mk ?_); intro V hV))))
  ((with_reducible apply WpL.al); (· assumption); (· exact rfl); (· exact rfl); clear hS)
  intro gr w hS
  by_cases h37 : n < 37
  · rw [if_pos h37]
    (refine Reach.walk ?_; (repeat (first | ((with_reducible refine AllSt.mk ?_); (try clear hS); intro w hS) | ((with_reducible refine AllVw.mk ?_); intro V hV))))
    refine WpL.det rfl (Det.build (cells := [.int .i64 0, .int .u64 0, .int .u64 0, .int .u64 0, .int .u64 0]) (r := []) PVals.nil rfl) ?_
    (refine Reach.walk ?_; (repeat (first | ((with_reducible refine AllSt.mk ?_); (try clear hS); intro w hS) | ((with_reducible refine AllVw.mk ?_); intro V hV))))
    (with_reducible apply doneQ_row2 Try.results12); (· exact slotFound); (· exact slotFound); (· assumption); (· exact Sel.found); (· exact rfl)
    exact ⟨rfl, hS.tail⟩
  rw [if_neg h37]
  have hr37 : ∀ {V' : Option Addr} {c' : Nat}, IsVw V' 37 c' V 0 → RdsV (.blk gr 24 [.int .i64 0, .int .u64 0, .int .u64 0, .int .u64 0, .int .u64 0] :: L) V' 37 (bv (l.take 37)) := fun {V' c'} hv w0 M w hS => by
    obtain ⟨h1, h2⟩ := hr w0 M w hS.tail
    have := hv.rd h1 (Nat.le_refl 37)
    rw [List.drop_zero, ← bv_take] at this
    exact ⟨this, by simp; omega⟩
  (refine Reach.walk ?_; (repeat (first | ((with_reducible refine AllSt.mk ?_); (try clear hS); intro w hS) | ((with_reducible refine AllVw.mk ?_); intro V hV))))
  (with_reducible apply WpL.call); (· exact rfl); (· exact Try.call23); (· exact Vals.found)
  refine (refOpenS hS (hr37 hV) hV.le (by decide)).mono ?_
  clear hS hr37
  rintro x w (⟨hg, A, c1, rfl, hV1, hS⟩ | ⟨hg, rfl, hS⟩)
  rotate_left
  · refine ⟨_, rfl, ?_⟩
    rw [if_neg hg]
    (refine Reach.walk ?_; (repeat (first | ((with_reducible refine AllSt.mk ?_); (try clear hS); intro w hS) | ((with_reducible refine AllVw.mk ?_); intro V hV))))
    refine WpL.det rfl (Det.build (cells := [.int .i64 0, .int .u64 0, .int .u64 0, .int .u64 0, .int .u64 0]) (r := []) PVals.nil rfl) ?_
    (refine Reach.walk ?_; (repeat (first | ((with_reducible refine AllSt.mk ?_); (try clear hS); intro w hS) | ((with_reducible refine AllVw.mk ?_); intro V hV))))
    (with_reducible apply doneQ_row2 Try.results12); (· exact slotFound); (· exact slotFound); (· assumption); (· exact Sel.found); (· exact rfl)
    exact ⟨rfl, hS.tail⟩
  refine ⟨_, rfl, ?_⟩
  rw [if_pos hg]
  rw [List.take_take, show min (37 - 4) 37 = 33 from rfl] at hS
  have hbl : (l.take 33).length = 33 := by simp; omega
  generalize l.take 33 = b at *
  have hb0 := byte_lt b 0
  (refine Reach.walk ?_; (repeat (first | ((with_reducible refine AllSt.mk ?_); (try clear hS); intro w hS) | ((with_reducible refine AllVw.mk ?_); intro V hV))))
  have bad : ∀ w, ¬ (recOf b).ok → St w0 M w (.own A (37 - 4) c1 5 1 (bv b) :: .blk gr 24 [.int .i64 0, .int .u64 0, .int .u64 0, .int .u64 0, .int .u64 0] :: L) → True := fun _ _ _ => trivial
  by_cases hlo : (b.getD 0 0).toNat < 1
  · have hok : ¬ (recOf b).ok := fun h => by have := h.1; simp only [recOf] at this; omega
    rw [if_neg hok]
    (refine Reach.walk ?_; (repeat (first | ((with_reducible refine AllSt.mk ?_); (try clear hS); intro w hS) | ((with_reducible refine AllVw.mk ?_); intro V hV))))
    refine WpL.det rfl (Det.build (cells := [.int .i64 0, .int .u64 0, .int .u64 0, .int .u64 0, .int .u64 0]) (r := []) PVals.nil rfl) ?_
    (refine Reach.walk ?_; (repeat (first | ((with_reducible refine AllSt.mk ?_); (try clear hS); intro w hS) | ((with_reducible refine AllVw.mk ?_); intro V hV))))
    (with_reducible apply doneQ_row2 Try.results12); (· exact slotFound); (· exact slotFound); (· assumption); (· exact Sel.found); (· exact rfl)
    exact ⟨rfl, hS.tail.tail⟩
  by_cases hhi : 4 < (b.getD 0 0).toNat
  · have hok : ¬ (recOf b).ok := fun h => by have := h.2; simp only [recOf] at this; omega
    rw [if_neg hok]
    (refine Reach.walk ?_; (repeat (first | ((with_reducible refine AllSt.mk ?_); (try clear hS); intro w hS) | ((with_reducible refine AllVw.mk ?_); intro V hV))))
    refine WpL.det rfl (Det.build (cells := [.int .i64 0, .int .u64 0, .int .u64 0, .int .u64 0, .int .u64 0]) (r := []) PVals.nil rfl) ?_
    (refine Reach.walk ?_; (repeat (first | ((with_reducible refine AllSt.mk ?_); (try clear hS); intro w hS) | ((with_reducible refine AllVw.mk ?_); intro V hV))))
    (with_reducible apply doneQ_row2 Try.results12); (· exact slotFound); (· exact slotFound); (· assumption); (· exact Sel.found); (· exact rfl)
    exact ⟨rfl, hS.tail.tail⟩
  have hok : (recOf b).ok := ⟨by simp only [recOf]; omega, by simp only [recOf]; omega⟩
  rw [if_pos hok]
  (refine Reach.walk ?_; (repeat (first | ((with_reducible refine AllSt.mk ?_); (try clear hS); intro w hS) | ((with_reducible refine AllVw.mk ?_); intro V hV))))
  have ne : ∀ {o m : Nat}, 8 ≤ m → Ent.rd ((b.drop (0 + o)).take m) 0 8 = Ent.rd b o 8 := fun h => by rw [Nat.zero_add]; exact rd_view _ _ _ h
  (refine Wp.drawD 17 (by kernel_rfl) (by kernel_rfl) rfl ?_; dsimp only [List.take, List.drop])
  (refine Reach.rwalk ?_; (repeat (first | ((with_reducible refine AllSt.mk ?_); (try clear hS); intro w hS) | ((with_reducible refine AllVw.mk ?_); intro V hV))))
  refine RgD.known0 (c := .int .u64 (Ent.rd b 1 8 : Nat)) rfl rfl rfl rfl (fun w1 hb1 => ?_) ?_
  · (with_reducible apply WpL.call); (· exact rfl); (· exact Try.call24); (· exact Vals.found)
    refine (number_any (hS.below hb1) RdsV.found (by decide) hV.le hV.max).mono ?_
    rintro x w2 ⟨rfl, rfl⟩
    exact ⟨_, by rw [ne (by decide)], WpL.nil ⟨⟨hb1, Below.refl _ _⟩, Env.set_same _ _ _⟩⟩
  (refine Reach.rwalk ?_; (repeat (first | ((with_reducible refine AllSt.mk ?_); (try clear hS); intro w hS) | ((with_reducible refine AllVw.mk ?_); intro V hV))))
  refine RgD.known0 (c := .int .u64 (Ent.rd b 9 8 : Nat)) rfl rfl rfl rfl (fun w1 hb1 => ?_) ?_
  · (with_reducible apply WpL.call); (· exact rfl); (· exact Try.call24); (· exact Vals.found)
    refine (number_any (hS.below hb1) RdsV.found (by decide) hV.le hV.max).mono ?_
    rintro x w2 ⟨rfl, rfl⟩
    exact ⟨_, by rw [ne (by decide)], WpL.nil ⟨⟨hb1, Below.refl _ _⟩, Env.set_same _ _ _⟩⟩
  (refine Reach.rwalk ?_; (repeat (first | ((with_reducible refine AllSt.mk ?_); (try clear hS); intro w hS) | ((with_reducible refine AllVw.mk ?_); intro V hV))))
  refine RgD.known0 (c := .int .u64 (Ent.rd b 17 8 : Nat)) rfl rfl rfl rfl (fun w1 hb1 => ?_) ?_
  · (with_reducible apply WpL.call); (· exact rfl); (· exact Try.call24); (· exact Vals.found)
    refine (number_any (hS.below hb1) RdsV.found (by decide) hV.le hV.max).mono ?_
    rintro x w2 ⟨rfl, rfl⟩
    exact ⟨_, by rw [ne (by decide)], WpL.nil ⟨⟨hb1, Below.refl _ _⟩, Env.set_same _ _ _⟩⟩
  (refine Reach.rwalk ?_; (repeat (first | ((with_reducible refine AllSt.mk ?_); (try clear hS); intro w hS) | ((with_reducible refine AllVw.mk ?_); intro V hV))))
  refine RgD.known0 (c := .int .u64 (Ent.rd b 25 8 : Nat)) rfl rfl rfl rfl (fun w1 hb1 => ?_) ?_
  · (with_reducible apply WpL.call); (· exact rfl); (· exact Try.call24); (· exact Vals.found)
    refine (number_any (hS.below hb1) RdsV.found (by decide) hV.le hV.max).mono ?_
    rintro x w2 ⟨rfl, rfl⟩
    exact ⟨_, by rw [ne (by decide)], WpL.nil ⟨⟨hb1, Below.refl _ _⟩, Env.set_same _ _ _⟩⟩
  (refine Reach.rwalk ?_; (repeat (first | ((with_reducible refine AllSt.mk ?_); (try clear hS); intro w hS) | ((with_reducible refine AllVw.mk ?_); intro V hV))))
  refine RgD.det rfl rfl rfl rfl (Det.build (cells := (recOf b).cells) PVals.found rfl) ?_
  (refine Reach.rwalk ?_; (repeat (first | ((with_reducible refine AllSt.mk ?_); (try clear hS); intro w hS) | ((with_reducible refine AllVw.mk ?_); intro V hV))))
  (refine RgD.fin0 fun w hb => ?_; replace hS := hS.below hb; clear hb)
  (refine Reach.walk ?_; (repeat (first | ((with_reducible refine AllSt.mk ?_); (try clear hS); intro w hS) | ((with_reducible refine AllVw.mk ?_); intro V hV))))
  (with_reducible apply doneQ_row2 Try.results12); (· exact slotFound); (· exact slotFound); (· assumption); (· exact Sel.found); (· exact rfl)
  exact ⟨rfl, hS.tail.tail⟩
end Go.Proofs.Ytjdkkbbmboggpaa
