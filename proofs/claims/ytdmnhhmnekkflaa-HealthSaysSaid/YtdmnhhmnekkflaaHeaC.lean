/-
  Walks over the reading of a log: the program's and the document's.
-/
import Derived.Test.YtdmnhhmnekkflaaHeaB
import Derived.Test.YtdmnhhmnekkflaaEntL
namespace Go.Proofs.Ytdmnhhmnekkflaa
open Go.Fk Go.RowKit
attribute [local irreducible] Wp WpL Det thenQ blockQ

def numAt (b : List UInt8) (i : Nat) : Nat := Crc.loN ((b.drop (4 + 8 * i)).take 8)
theorem numAt_lt (b : List UInt8) (i : Nat) : numAt b i < 18446744073709551616 := by
  have h := Crc.loN_lt ((b.drop (4 + 8 * i)).take 8)
  refine Nat.lt_of_lt_of_le h ?_
  have h2 : ((b.drop (4 + 8 * i)).take 8).length ≤ 8 := List.length_take_le _ _
  have h3 : (2 : Nat) ^ (8 * ((b.drop (4 + 8 * i)).take 8).length) ≤ 2 ^ 64 := Nat.pow_le_pow_right (by decide) (by omega)
  simpa using h3
def numsOf (b : List UInt8) (k : Nat) : List Nat := (List.range k).map (numAt b) ++ List.replicate (10 - k) 0
theorem numsOf_length (b : List UInt8) {k : Nat} (h : k ≤ 10) : (numsOf b k).length = 10 := by simp [numsOf]; omega
theorem numsOf_set (b : List UInt8) {k : Nat} (h : k < 10) : (numsOf b k).set k (numAt b k) = numsOf b (k + 1) := by
  unfold numsOf
  rw [List.set_append_right _ _ (by simp), List.range_succ, List.map_append, List.append_assoc]
  congr 1
  rw [show 10 - k = (10 - (k + 1)) + 1 by omega, List.replicate_succ]
  simp
def logOk (b : List UInt8) : Prop := b.length = 85 ∧ b.take 4 = magicB ∧ (b.getD 84 0).toNat ≤ 1 ∧ ∀ i, i < 10 → numAt b i ≤ 9223372036854775807
instance logOkDec (b : List UInt8) : Decidable (logOk b) := by unfold logOk; infer_instance
instance goodDec (t : List UInt8) : Decidable (Crc.good t) := by unfold Crc.good; infer_instance
def parseE (l : List UInt8) : Int := if Crc.good l then (if logOk (l.take (l.length - 4)) then 0 else 81) else 30
def onlyOf (b : List UInt8) : Bool := decide ((b.getD 84 0).toNat = 1)
/-- What is read. -/
def parseNs (l : List UInt8) : List Nat := numsOf (l.take (l.length - 4)) 10
def parseOnly (l : List UInt8) : Bool := onlyOf (l.take (l.length - 4))

theorem parse_any {V : Option Addr} {n c : Nat} {l : List UInt8} (hn : l.length = n) {w w0 : World} {M : Nat → Prop} {L : List Ch} (hS : St w0 M w L) (hr : RdsV L V n (bv l)) (hnc : n ≤ c) (hlen : n ≤ 140737488355328) :
    Calls Try.prog 21 #[.slice V n c] w fun x w' =>
      (parseE l = 0 ∧ ∃ g, x = .returned (.tuple #[logP g, .int .i64 0]) ∧ St w0 M w' (.blk g 66 (logC (parseNs l) (parseOnly l)) :: L)) ∨
      (parseE l ≠ 0 ∧ x = .returned (.tuple #[.pointer none, .int .i64 (parseE l)]) ∧ St w0 M w' L) := by
  subst hn
  (refine calls_of (P := Try.prog) _ Try.func21 rfl Try.ntmps21 (Nat.le_of_ble_eq_true rfl) ?_; dsimp only [argE, Nat.reduceAdd])
  (refine Reach.walk ?_; (repeat (first | ((with_reducible refine AllSt.mk ?_); (try clear hS); intro w hS) | ((with_reducible refine AllVw.mk ?_); intro V hV))))
  (with_reducible apply WpL.call); (· exact rfl); (· exact Try.call34); (· exact Vals.found)
  refine (openS hS hr hnc hlen).mono ?_
  clear hS
  rintro x w (⟨hg, A, c1, rfl, hV, hS⟩ | ⟨hg, rfl, hS⟩)
  rotate_left
  · refine ⟨_, rfl, ?_⟩
    (refine Reach.walk ?_; (repeat (first | ((with_reducible refine AllSt.mk ?_); (try clear hS); intro w hS) | ((with_reducible refine AllVw.mk ?_); intro V hV))))
    (with_reducible apply doneQ_two Try.results21); (· exact slotFound); (· exact slotFound)
    exact .inr ⟨by rw [parseE, if_neg hg]; decide, by rw [parseE, if_neg hg], hS⟩
  refine ⟨_, rfl, ?_⟩
  have hbl : (l.take (l.length - 4)).length = l.length - 4 := by simp
  have hE : parseE l = if logOk (l.take (l.length - 4)) then 0 else 81 := by rw [parseE, if_pos hg]
  have hN : parseNs l = numsOf (l.take (l.length - 4)) 10 := rfl
  have hO : parseOnly l = onlyOf (l.take (l.length - 4)) := rfl
  rw [hE, hN, hO]
  clear hE hN hO
  generalize l.take (l.length - 4) = b at *
  generalize l.length - 4 = m at *
  subst hbl
  have bad : ∀ {w : World}, ¬ logOk b → St w0 M w L → ((if logOk b then 0 else 81 : Int) = 0 ∧ ∃ g, Ending.returned (.tuple #[.pointer none, .int .i64 81]) = .returned (.tuple #[logP g, .int .i64 0]) ∧ St w0 M w (.blk g 66 (logC (numsOf b 10) (onlyOf b)) :: L)) ∨
      ((if logOk b then 0 else 81 : Int) ≠ 0 ∧ Ending.returned (.tuple #[.pointer none, .int .i64 81]) = .returned (.tuple #[.pointer none, .int .i64 (if logOk b then 0 else 81)]) ∧ St w0 M w L) := fun h hS => by
    rw [if_neg h]; exact .inr ⟨by decide, rfl, hS⟩
  by_cases h85 : b.length = 85
  rotate_left
  · (refine Reach.walk ?_; (repeat (first | ((with_reducible refine AllSt.mk ?_); (try clear hS); intro w hS) | ((with_reducible refine AllVw.mk ?_); intro V hV))))
    (with_reducible apply doneQ_two Try.results21); (· exact slotFound); (· exact slotFound)
    exact bad (fun h => h85 h.1) hS.tail
  rw [h85] at hV hS ⊢
  (refine Reach.walk ?_; (repeat (first | ((with_reducible refine AllSt.mk ?_); (try clear hS); intro w hS) | ((with_reducible refine AllVw.mk ?_); intro V hV))))
  by_cases hmag : b.take 4 = magicB
  rotate_left
  · have hd : decide (List.take 4 (List.drop 0 b) ≠ [70, 76, 79, 71]) = true := decide_eq_true hmag
    (refine Reach.walk ?_; (repeat (first | ((with_reducible refine AllSt.mk ?_); (try clear hS); intro w hS) | ((with_reducible refine AllVw.mk ?_); intro V hV))))
    (with_reducible apply doneQ_two Try.results21); (· exact slotFound); (· exact slotFound)
    exact bad (fun h => hmag h.2.1) hS.tail
  have hd : decide (List.take 4 (List.drop 0 b) ≠ [70, 76, 79, 71]) = false := decide_eq_false fun h => h hmag
  (refine Reach.walk ?_; (repeat (first | ((with_reducible refine AllSt.mk ?_); (try clear hS); intro w hS) | ((with_reducible refine AllVw.mk ?_); intro V hV))))
  by_cases h84 : 1 < (b.getD 84 0).toNat
  · have h84' : 1 < (b.getD (85 - 1) 0).toNat := h84
    (refine Reach.walk ?_; (repeat (first | ((with_reducible refine AllSt.mk ?_); (try clear hS); intro w hS) | ((with_reducible refine AllVw.mk ?_); intro V hV))))
    (with_reducible apply doneQ_two Try.results21); (· exact slotFound); (· exact slotFound)
    exact bad (fun h => by have := h.2.2.1; omega) hS.tail
  have h84' : ¬ 1 < (b.getD (85 - 1) 0).toNat := h84
  (refine Reach.walk ?_; (repeat (first | ((with_reducible refine AllSt.mk ?_); (try clear hS); intro w hS) | ((with_reducible refine AllVw.mk ?_); intro V hV))))
  (with_reducible apply WpL.call); (· exact rfl); (· exact Try.call9); (· exact Vals.found)
  refine (new_any w).mono ?_
  rintro x w' ⟨g, rfl, hS1⟩
  refine ⟨_, rfl, ?_⟩
  replace hS := hS.back Take.nil hS1 rfl
  simp only [List.cons_append, List.nil_append] at hS
  clear hS1
  (refine Reach.walk ?_; (repeat (first | ((with_reducible refine AllSt.mk ?_); (try clear hS); intro w hS) | ((with_reducible refine AllVw.mk ?_); intro V hV))))
  apply Wp.loopUp 10 (fun k e w' => (∀ i, i < k → numAt b i ≤ 9223372036854775807) ∧ St w0 M w' (.blk g 66 (logC (numsOf b k) false) :: .own A 85 c1 5 1 (bv b) :: L) ∧
      e.Has [(35, .int .i64 (k : Nat)), (0, .slice A 85 c1), (5, logP g)]) (Nat.zero_le 10)
    ⟨fun i hi => absurd hi (Nat.not_lt_zero _), hS, rfl, rfl, rfl, trivial⟩
  clear hS
  rintro k e w hk ⟨hall, hS, he⟩
  obtain ⟨e0, rfl⟩ := he.eq
  clear he
  dsimp only [Env.sets]
  by_cases hlt : k < 10
  · have hnum : Crc.loN ((((b.drop (0 + (4 + 8 * k))).take (85 - (4 + 8 * k)))).take 8) = numAt b k := by
      rw [List.take_take, Nat.min_eq_left (by omega), Nat.zero_add]; rfl
    have hlt64 := numAt_lt b k
    (refine Reach.walk ?_; (repeat (first | ((with_reducible refine AllSt.mk ?_); (try clear hS); intro w hS) | ((with_reducible refine AllVw.mk ?_); intro V hV))))
    (with_reducible apply WpL.call); (· exact rfl); (· exact Try.call35); (· exact Vals.found)
    refine (uint64S hS RdsV.found (by omega) (by omega)).mono ?_
    rintro x w1 ⟨rfl, rfl⟩
    refine ⟨_, rfl, ?_⟩
    rw [hnum]
    by_cases hbig : 9223372036854775807 < numAt b k
    · (refine Reach.walk ?_; (repeat (first | ((with_reducible refine AllSt.mk ?_); (try clear hS); intro w hS) | ((with_reducible refine AllVw.mk ?_); intro V hV))))
      (with_reducible apply doneQ_two Try.results21); (· exact slotFound); (· exact slotFound)
      exact bad (fun h => by have := h.2.2.2 k hlt; omega) hS.tail.tail
    (refine Reach.walk ?_; (repeat (first | ((with_reducible refine AllSt.mk ?_); (try clear hS); intro w hS) | ((with_reducible refine AllVw.mk ?_); intro V hV))))
    (with_reducible apply WpL.call); (· exact rfl); (· exact Try.call36); (· exact Vals.found)
    refine (uStore_any hS (Upd.blk (by rw [logC_len, numsOf_length b hk]; omega) (logC_set (by rw [numsOf_length b hk]; omega) false (numAt b k)))).mono ?_
    clear hS
    rintro x w ⟨rfl, hS⟩
    refine ⟨_, rfl, ?_⟩
    (refine Reach.walk ?_; (repeat (first | ((with_reducible refine AllSt.mk ?_); (try clear hS); intro w hS) | ((with_reducible refine AllVw.mk ?_); intro V hV))))
    refine ⟨hlt, fun i hi => ?_, by rw [← numsOf_set b hlt]; exact hS, rfl, rfl, rfl, trivial⟩
    by_cases hik : i < k
    · exact hall i hik
    · obtain rfl : i = k := by omega
      omega
  · obtain rfl : k = 10 := by omega
    have hok : logOk b := ⟨h85, hmag, by omega, hall⟩
    have honly : decide (((b.getD 84 0).toNat : Int) = 1) = onlyOf b := by
      unfold onlyOf
      exact Bool.eq_iff_iff.2 (by simp; omega)
    (refine Reach.walk ?_; (repeat (first | ((with_reducible refine AllSt.mk ?_); (try clear hS); intro w hS) | ((with_reducible refine AllVw.mk ?_); intro V hV))))
    (refine Wp.drawD 10 (by kernel_rfl) (by kernel_rfl) rfl ?_; dsimp only [List.take, List.drop])
    (refine Reach.rwalk ?_; (repeat (first | ((with_reducible refine AllSt.mk ?_); (try clear hS); intro w hS) | ((with_reducible refine AllVw.mk ?_); intro V hV))))
    (refine RgD.fin0 fun w hb => ?_; replace hS := hS.below hb; clear hb)
    (refine Reach.walk ?_; (repeat (first | ((with_reducible refine AllSt.mk ?_); (try clear hS); intro w hS) | ((with_reducible refine AllVw.mk ?_); intro V hV))))
    (with_reducible apply WpL.call); (· exact rfl); (· exact Try.call25); (· exact Vals.found)
    refine (bStore_any hS (Upd.blk (by rw [logC_len, numsOf_length b hk]; omega) (logC_setOnly (numsOf_length b hk) false _))).mono ?_
    clear hS
    rintro x w ⟨rfl, hS⟩
    refine ⟨_, rfl, ?_⟩
    (refine Reach.walk ?_; (repeat (first | ((with_reducible refine AllSt.mk ?_); (try clear hS); intro w hS) | ((with_reducible refine AllVw.mk ?_); intro V hV))))
    (with_reducible apply doneQ_two Try.results21); (· exact slotFound); (· exact slotFound)
    refine .inl ⟨if_pos hok, g, rfl, ?_⟩
    rw [← honly]
    exact hS.drop1

theorem rd_numAt (b : List UInt8) (i : Nat) : Ent.rd b (4 + 8 * i) 8 = numAt b i := rfl
theorem refParse_any {V : Option Addr} {n c : Nat} {l : List UInt8} (hn : l.length = n) {w w0 : World} {M : Nat → Prop} {L : List Ch} (hS : St w0 M w L) (hr : RdsV L V n (bv l)) (hnc : n ≤ c) (hlen : n ≤ 140737488355328) :
    Calls Try.prog 22 #[.slice V n c] w fun x w' =>
      (parseE l = 0 ∧ ∃ g A0, x = .returned (.tuple #[rlogP g, .int .i64 0]) ∧ IsVw A0 10 10 A0 0 ∧ St w0 M w' (rlogL g A0 (parseNs l) (parseOnly l) ++ L)) ∨
      (parseE l ≠ 0 ∧ x = .returned (.tuple #[.pointer none, .int .i64 (parseE l)]) ∧ St w0 M w' L) := by
  subst hn
  simp only [rlogL, List.cons_append, List.nil_append]
  (refine calls_of (P := Try.prog) _ Try.func22 rfl Try.ntmps22 (Nat.le_of_ble_eq_true rfl) ?_; dsimp only [argE, Nat.reduceAdd])
  (refine Reach.walk ?_; (repeat (first | ((with_reducible refine AllSt.mk ?_); (try clear hS); intro w hS) | ((with_reducible refine AllVw.mk ?_); intro V hV))))
  (with_reducible apply WpL.call); (· exact rfl); (· exact Try.call37); (· exact Vals.found)
  refine (refOpenS hS hr hnc hlen).mono ?_
  clear hS
  rintro x w (⟨hg, A, c1, rfl, hV, hS⟩ | ⟨hg, rfl, hS⟩)
  rotate_left
  · refine ⟨_, rfl, ?_⟩
    (refine Reach.walk ?_; (repeat (first | ((with_reducible refine AllSt.mk ?_); (try clear hS); intro w hS) | ((with_reducible refine AllVw.mk ?_); intro V hV))))
    (with_reducible apply doneQ_two Try.results22); (· exact slotFound); (· exact slotFound)
    exact .inr ⟨by rw [parseE, if_neg hg]; decide, by rw [parseE, if_neg hg], hS⟩
  refine ⟨_, rfl, ?_⟩
  have hbl : (l.take (l.length - 4)).length = l.length - 4 := by simp
  have hE : parseE l = if logOk (l.take (l.length - 4)) then 0 else 81 := by rw [parseE, if_pos hg]
  have hN : parseNs l = numsOf (l.take (l.length - 4)) 10 := rfl
  have hO : parseOnly l = onlyOf (l.take (l.length - 4)) := rfl
  rw [hE, hN, hO]
  clear hE hN hO
  generalize l.take (l.length - 4) = b at *
  generalize l.length - 4 = m at *
  subst hbl
  by_cases h85 : b.length = 85
  rotate_left
  · have hno : ¬ logOk b := fun h => h85 h.1
    (refine Reach.walk ?_; (repeat (first | ((with_reducible refine AllSt.mk ?_); (try clear hS); intro w hS) | ((with_reducible refine AllVw.mk ?_); intro V hV))))
    (with_reducible apply doneQ_two Try.results22); (· exact slotFound); (· exact slotFound)
    rw [if_neg hno]; exact .inr ⟨by decide, rfl, hS.tail⟩
  rw [h85] at hV hS ⊢
  (refine Reach.walk ?_; (repeat (first | ((with_reducible refine AllSt.mk ?_); (try clear hS); intro w hS) | ((with_reducible refine AllVw.mk ?_); intro V hV))))
  by_cases hmag : b.take 4 = magicB
  rotate_left
  · have hno : ¬ logOk b := fun h => hmag h.2.1
    have hd : decide (List.take 4 (List.drop 0 b) ≠ [70, 76, 79, 71]) = true := decide_eq_true hmag
    (refine Reach.walk ?_; (repeat (first | ((with_reducible refine AllSt.mk ?_); (try clear hS); intro w hS) | ((with_reducible refine AllVw.mk ?_); intro V hV))))
    (with_reducible apply doneQ_two Try.results22); (· exact slotFound); (· exact slotFound)
    rw [if_neg hno]; exact .inr ⟨by decide, rfl, hS.tail⟩
  have hd : decide (List.take 4 (List.drop 0 b) ≠ [70, 76, 79, 71]) = false := decide_eq_false fun h => h hmag
  (refine Reach.walk ?_; (repeat (first | ((with_reducible refine AllSt.mk ?_); (try clear hS); intro w hS) | ((with_reducible refine AllVw.mk ?_); intro V hV))))
  by_cases h84 : 1 < (b.getD 84 0).toNat
  · have hno : ¬ logOk b := fun h => by have := h.2.2.1; omega
    (refine Reach.walk ?_; (repeat (first | ((with_reducible refine AllSt.mk ?_); (try clear hS); intro w hS) | ((with_reducible refine AllVw.mk ?_); intro V hV))))
    (with_reducible apply doneQ_two Try.results22); (· exact slotFound); (· exact slotFound)
    rw [if_neg hno]; exact .inr ⟨by decide, rfl, hS.tail⟩
  (refine Reach.walk ?_; (repeat (first | ((with_reducible refine AllSt.mk ?_); (try clear hS); intro w hS) | ((with_reducible refine AllVw.mk ?_); intro V hV))))
  (with_reducible apply WpL.call); (· exact rfl); (· exact Try.call10); (· exact Vals.found)
  refine (refNew_any w).mono ?_
  rintro x w' ⟨g, A0, rfl, hV0, hS1⟩
  refine ⟨_, rfl, ?_⟩
  replace hS := hS.back Take.nil hS1 rfl
  simp only [rlogL, List.cons_append, List.nil_append] at hS
  clear hS1
  (refine Reach.walk ?_; (repeat (first | ((with_reducible refine AllSt.mk ?_); (try clear hS); intro w hS) | ((with_reducible refine AllVw.mk ?_); intro V hV))))
  apply Wp.loopUp 10 (fun k e w' => (∀ i, i < k → numAt b i ≤ 9223372036854775807) ∧ St w0 M w' (.blk g 31 [.slice A0 10 10, .bool false] :: .own A0 10 10 32 1 (uv (numsOf b k)) :: .own A 85 c1 5 1 (bv b) :: L) ∧
      e.Has [(7, .int .i64 (k : Nat)), (4, .slice A 85 c1), (6, rlogP g)]) (Nat.zero_le 10)
    ⟨fun i hi => absurd hi (Nat.not_lt_zero _), hS, rfl, rfl, rfl, trivial⟩
  clear hS
  rintro k e w hk ⟨hall, hS, he⟩
  obtain ⟨e0, rfl⟩ := he.eq
  clear he
  dsimp only [Env.sets]
  by_cases hlt : k < 10
  · have hlt64 := numAt_lt b k
    (refine Reach.walk ?_; (repeat (first | ((with_reducible refine AllSt.mk ?_); (try clear hS); intro w hS) | ((with_reducible refine AllVw.mk ?_); intro V hV))))
    apply Wp.loopUp 8 (fun i e w' => w' = w ∧ e.Has [(9, .int .i64 (i : Nat)), (8, .int .u64 (Ent.rd b (4 + 8 * k) i : Nat)), (7, .int .i64 (k : Nat)), (4, .slice A 85 c1), (6, rlogP g)]) (Nat.zero_le 8)
      ⟨rfl, rfl, by rw [Ent.rd_zero]; rfl, rfl, rfl, rfl, trivial⟩
    rintro i e w1 hi ⟨rfl, he⟩
    obtain ⟨e0, rfl⟩ := he.eq
    clear he
    dsimp only [Env.sets]
    by_cases hli : i < 8
    · have hX : Ent.rd b (4 + 8 * k) i < 18446744073709551616 := Ent.rd_lt64 (by omega)
      have hb8 := byte_lt b (4 + 8 * k + i)
      have hsh : (b.getD (4 + 8 * k + i) 0).toNat <<< (8 * i) < 18446744073709551616 := by
        rw [Nat.shiftLeft_eq]
        have h1 : (2 : Nat) ^ (8 * i) ≤ 2 ^ 56 := Nat.pow_le_pow_right (by decide) (by omega)
        have h2 := Nat.mul_le_mul_left (b.getD (4 + 8 * k + i) 0).toNat h1
        omega
      have hnext : Ent.rd b (4 + 8 * k) (i + 1) = Ent.rd b (4 + 8 * k) i ||| ((b.getD (4 + 8 * k + i) 0).toNat <<< (8 * i)) := by
        rw [Ent.rd_succ (by omega), List.getD_eq_getElem?_getD, List.getElem?_eq_getElem (by omega)]; rfl
      (refine Reach.walk ?_; (repeat (first | ((with_reducible refine AllSt.mk ?_); (try clear hS); intro w hS) | ((with_reducible refine AllVw.mk ?_); intro V hV))))
      exact ⟨hli, rfl, int_eq (by omega), int_eq (by rw [hnext]), rfl, rfl, rfl, trivial⟩
    · obtain rfl : i = 8 := by omega
      rw [rd_numAt]
      have hsr : numAt b k >>> 63 = numAt b k / 9223372036854775808 := by rw [Nat.shiftRight_eq_div_pow]
      by_cases hbig : 9223372036854775807 < numAt b k
      · have hno : ¬ logOk b := fun h => by have := h.2.2.2 k hlt; omega
        have hs1 : numAt b k >>> 63 ≠ 0 := by omega
        (refine Reach.walk ?_; (repeat (first | ((with_reducible refine AllSt.mk ?_); (try clear hS); intro w hS) | ((with_reducible refine AllVw.mk ?_); intro V hV))))
        (with_reducible apply doneQ_two Try.results22); (· exact slotFound); (· exact slotFound)
        rw [if_neg hno]; exact .inr ⟨by decide, rfl, hS.tail.tail.tail⟩
      have hs0 : numAt b k >>> 63 = 0 := by omega
      have hlen10 := numsOf_length b hk
      (refine Reach.walk ?_; (repeat (first | ((with_reducible refine AllSt.mk ?_); (try clear hS); intro w hS) | ((with_reducible refine AllVw.mk ?_); intro V hV))))
      refine ⟨hlt, fun i hi => ?_, by rw [← numsOf_set b hlt]; exact hS, int_eq (by omega), rfl, rfl, trivial⟩
      by_cases hik : i < k
      · exact hall i hik
      · obtain rfl : i = k := by omega
        omega
  · obtain rfl : k = 10 := by omega
    have hok : logOk b := ⟨h85, hmag, by omega, hall⟩
    have honly : decide (((b.getD 84 0).toNat : Int) = 1) = onlyOf b := by
      unfold onlyOf
      exact Bool.eq_iff_iff.2 (by simp; omega)
    (refine Reach.walk ?_; (repeat (first | ((with_reducible refine AllSt.mk ?_); (try clear hS); intro w hS) | ((with_reducible refine AllVw.mk ?_); intro V hV))))
    (with_reducible apply doneQ_two Try.results22); (· exact slotFound); (· exact slotFound)
    refine .inl ⟨if_pos hok, g, A0, rfl, hV0, ?_⟩
    rw [← honly]
    exact hS.drop2
end Go.Proofs.Ytdmnhhmnekkflaa
