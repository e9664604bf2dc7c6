/-
  Walks over the log's bytes: the program's and the document's.
-/
import Derived.Test.YtdmnhhmnekkflaaHeaA
namespace Go.Proofs.Ytdmnhhmnekkflaa
open Go.Fk Go.RowKit
attribute [local irreducible] Wp WpL Det thenQ blockQ

def magicB : List UInt8 := [70, 76, 79, 71]
def numsB (ns : List Nat) : List UInt8 := ns.flatMap fun n => Crc.loB n 8
theorem numsB_length (ns : List Nat) : (numsB ns).length = 8 * ns.length := by
  induction ns with
  | nil => rfl
  | cons n r ih => simp only [numsB, List.flatMap_cons, List.length_append, Crc.loB_length, List.length_cons] at ih ⊢; omega
theorem numsB_snoc {ns : List Nat} {i : Nat} (h : i < ns.length) : numsB (ns.take (i + 1)) = numsB (ns.take i) ++ Crc.loB (ns.getD i 0) 8 := by
  rw [List.take_succ_eq_append_getElem h, numsB, List.flatMap_append]
  simp [numsB, List.getD_eq_getElem?_getD, h]
def logB (ns : List Nat) (only : Bool) : List UInt8 := magicB ++ numsB ns ++ [if only then 1 else 0]
theorem logB_length {ns : List Nat} (h : ns.length = 10) (only : Bool) : (logB ns only).length = 85 := by simp [logB, magicB, numsB_length, h]

theorem bytes_any {g : Nat} {ns : List Nat} {only : Bool} (hs : Small ns) {w w0 : World} {M : Nat → Prop} {L : List Ch} (hS : St w0 M w L) (hin : LogIn L g ns only) :
    Calls Try.prog 16 #[logP g] w fun x w' => ∃ A c, x = .returned (.slice A 89 c) ∧ IsVw A 89 c A 0 ∧ St w0 M w' (.own A 89 c 5 1 (bv (Crc.sealed (logB ns only))) :: L) := by
  have hlen := hs.1
  (refine calls_of (P := Try.prog) _ Try.func16 rfl Try.ntmps16 (Nat.le_of_ble_eq_true rfl) ?_; dsimp only [argE, Nat.reduceAdd])
  (refine Reach.walk ?_; (repeat (first | ((with_reducible refine AllSt.mk ?_); (try clear hS); intro w hS) | ((with_reducible refine AllVw.mk ?_); intro V hV))))
  ((with_reducible apply WpL.bs); (· assumption); (· exact rfl); (· exact BVals.found); (· exact oneAll_spec rfl); (· exact rfl); (· decide); (· exact listFound); clear hS)
  intro A w hV hS
  (refine Reach.walk ?_; (repeat (first | ((with_reducible refine AllSt.mk ?_); (try clear hS); intro w hS) | ((with_reducible refine AllVw.mk ?_); intro V hV))))
  ((with_reducible apply WpL.mark); (· assumption); (· exact rfl); (· exact rfl); (· exact Swap.found); (· decide); clear hS; intro w hS)
  (refine Reach.walk ?_; (repeat (first | ((with_reducible refine AllSt.mk ?_); (try clear hS); intro w hS) | ((with_reducible refine AllVw.mk ?_); intro V hV))))
  apply Wp.loopUp 10 (fun k e w' => ∃ A c, IsVw A (4 + 8 * k) c A 0 ∧ St w0 M w' (.app A (4 + 8 * k) c 5 1 (bv (magicB ++ numsB (ns.take k))) :: L) ∧ e.Has [(10, .int .i64 (k : Nat)), (3, .slice A (4 + 8 * k) c), (0, logP g)]) (Nat.zero_le 10)
    ⟨A, 4, hV, hS, rfl, rfl, rfl, trivial⟩
  clear hV hS
  rintro k e w hk ⟨A, c, hV, hS, he⟩
  obtain ⟨e0, rfl⟩ := he.eq
  clear he
  dsimp only [Env.sets]
  by_cases hlt : k < 10
  · (refine Reach.walk ?_; (repeat (first | ((with_reducible refine AllSt.mk ?_); (try clear hS); intro w hS) | ((with_reducible refine AllVw.mk ?_); intro V hV))))
    (with_reducible apply WpL.call); (· exact rfl); (· exact Try.call14); (· exact Vals.found)
    refine (of_any _ hS (hin.there _)).mono ?_
    rintro x w1 ⟨rfl, rfl⟩
    refine ⟨_, rfl, ?_⟩
    rw [show cOf ns (k : Int) = ns.getD k 0 by rw [cOf, if_pos (by omega)]; rfl]
    have hx := hs.2 k
    (refine Reach.walk ?_; (repeat (first | ((with_reducible refine AllSt.mk ?_); (try clear hS); intro w hS) | ((with_reducible refine AllVw.mk ?_); intro V hV))))
    (with_reducible apply WpL.call); (· exact rfl); (· exact Try.call27); (· exact Vals.found)
    refine (lowAppend64A_any (by simp [magicB, numsB_length]; omega) (by omega) (by omega) hV hS).mono ?_
    clear hV hS
    rintro x w ⟨A, c, rfl, hV, hS⟩
    refine ⟨_, rfl, ?_⟩
    (refine Reach.walk ?_; (repeat (first | ((with_reducible refine AllSt.mk ?_); (try clear hS); intro w hS) | ((with_reducible refine AllVw.mk ?_); intro V hV))))
    exact ⟨hlt, A, c, hV, by rw [numsB_snoc (by omega), ← List.append_assoc]; exact hS, rfl, rfl, rfl, trivial⟩
  · obtain rfl : k = 10 := by omega
    rw [List.take_of_length_le (by omega)] at hS
    have hml : magicB.length = 4 := rfl
    have hnb : (numsB ns).length = 80 := by rw [numsB_length]; omega
    (refine Reach.walk ?_; (repeat (first | ((with_reducible refine AllSt.mk ?_); (try clear hS); intro w hS) | ((with_reducible refine AllVw.mk ?_); intro V hV))))
    (with_reducible apply WpL.call); (· exact rfl); (· exact Try.call15); (· exact Vals.found)
    refine (isOnly_any hS (hin.there _)).mono ?_
    rintro x w1 ⟨rfl, rfl⟩
    refine ⟨_, rfl, ?_⟩
    cases only
    all_goals
      (refine Reach.walk ?_; (repeat (first | ((with_reducible refine AllSt.mk ?_); (try clear hS); intro w hS) | ((with_reducible refine AllVw.mk ?_); intro V hV))))
      ((with_reducible apply WpL.bs); (· assumption); (· exact rfl); (· exact BVals.found); (· exact oneAll_spec rfl); (· exact rfl); (· decide); (· exact listFound); clear hS)
      intro A2 w hV2 hS
      (refine Reach.walk ?_; (repeat (first | ((with_reducible refine AllSt.mk ?_); (try clear hS); intro w hS) | ((with_reducible refine AllVw.mk ?_); intro V hV))))
      ((with_reducible apply WpL.appA); (· assumption); (· exact rfl); (· exact rfl); (· exact rfl); (· exact Sel.found); (· simp only [Nat.mul_one]; exact RdsV.found); (· exact onesFound); (· exact catFound); (· omega); (· omega); clear hS)
      intro A3 c3 w hV3 hS
      (refine Reach.walk ?_; (repeat (first | ((with_reducible refine AllSt.mk ?_); (try clear hS); intro w hS) | ((with_reducible refine AllVw.mk ?_); intro V hV))))
      (with_reducible apply WpL.call); (· exact rfl); (· exact Try.call28); (· exact Vals.found)
      refine (sealS hS RdsV.found (by omega)).mono ?_
      clear hV hS
      rintro x w ⟨A, c, rfl, hV, hS⟩
      refine ⟨_, rfl, ?_⟩
      (refine Reach.walk ?_; (repeat (first | ((with_reducible refine AllSt.mk ?_); (try clear hS); intro w hS) | ((with_reducible refine AllVw.mk ?_); intro V hV))))
      (with_reducible apply doneQ_one Try.results16); (· exact slotFound)
      exact ⟨A, c, rfl, hV, hS.drop1.drop1⟩

/-- The document's bytes of a number. -/
theorem refLow_any (m k : Nat) (hm : m < 18446744073709551616) (hk : k ≤ 8) {w w0 : World} {M : Nat → Prop} {L : List Ch} (hS : St w0 M w L) :
    Calls Try.prog 29 #[.int .u64 (m : Int), .int .i64 (k : Int)] w fun x w' => ∃ A c, x = .returned (.slice A k c) ∧ IsVw A k c A 0 ∧ St w0 M w' (.own A k c 5 1 (bv (Crc.loB m k)) :: L) := by
  (refine calls_of (P := Try.prog) _ Try.func29 rfl Try.ntmps29 (Nat.le_of_ble_eq_true rfl) ?_; dsimp only [argE, Nat.reduceAdd])
  replace hS := hS.nil_ (el := 5) (sz := 1)
  (refine Reach.walk ?_; (repeat (first | ((with_reducible refine AllSt.mk ?_); (try clear hS); intro w hS) | ((with_reducible refine AllVw.mk ?_); intro V hV))))
  apply Wp.loopUp k (fun i e w' => ∃ A c, IsVw A i c A 0 ∧ St w0 M w' (.own A i c 5 1 (bv (Crc.loB m i)) :: L) ∧ e.Has [(6, .int .i64 (i : Nat)), (5, .slice A i c), (0, .int .u64 (m : Int)), (1, .int .i64 (k : Int))]) (Nat.zero_le k)
    ⟨none, 0, IsVw.nil, hS, rfl, rfl, rfl, rfl, trivial⟩
  clear hS
  rintro i e w hi ⟨A, c, hV, hS, he⟩
  obtain ⟨e0, rfl⟩ := he.eq
  clear he
  dsimp only [Env.sets]
  have hlb := Crc.loB_length m i
  by_cases hlt : i < k
  · have hmi : m >>> (8 * i) < 18446744073709551616 := Nat.lt_of_le_of_lt (by rw [Nat.shiftRight_eq_div_pow]; exact Nat.div_le_self _ _) hm
    (refine Reach.walk ?_; (repeat (first | ((with_reducible refine AllSt.mk ?_); (try clear hS); intro w hS) | ((with_reducible refine AllVw.mk ?_); intro V hV))))
    ((with_reducible apply WpL.bs); (· assumption); (· exact rfl); (· exact BVals.found); (· exact oneAll_spec rfl); (· exact rfl); (· decide); (· exact listFound); clear hS)
    intro A2 w hV2 hS
    (refine Reach.walk ?_; (repeat (first | ((with_reducible refine AllSt.mk ?_); (try clear hS); intro w hS) | ((with_reducible refine AllVw.mk ?_); intro V hV))))
    ((with_reducible apply WpL.app); (· assumption); (· exact rfl); (· exact rfl); (· exact rfl); (· exact Sel.found); (· simp only [Nat.mul_one]; exact RdsV.found); (· exact onesFound); (· exact catFound); (· omega); (· omega); clear hS)
    intro A3 c3 w hV3 hS
    replace hS := hS.perm (List.Perm.swap _ _ _) |>.tail
    (refine Reach.walk ?_; (repeat (first | ((with_reducible refine AllSt.mk ?_); (try clear hS); intro w hS) | ((with_reducible refine AllVw.mk ?_); intro V hV))))
    refine ⟨hlt, A3, c3, hV3, ?_, int_eq (by omega), rfl, rfl, rfl, trivial⟩
    rw [Crc.loB_snoc]
    have e1 : UInt8.ofNat (m >>> (8 * i) % 256) = UInt8.ofNat (m >>> (8 * i)) := by
      apply UInt8.toNat_inj.1; simp
    rw [← e1]
    exact hS
  · obtain rfl : i = k := by omega
    (refine Reach.walk ?_; (repeat (first | ((with_reducible refine AllSt.mk ?_); (try clear hS); intro w hS) | ((with_reducible refine AllVw.mk ?_); intro V hV))))
    (with_reducible apply doneQ_one Try.results29); (· exact slotFound)
    exact ⟨_, _, rfl, hV, hS⟩

theorem refBytes_any {g : Nat} {A0 : Option Addr} {ns : List Nat} {only : Bool} (hs : Small ns) (hV0 : IsVw A0 10 10 A0 0) {w w0 : World} {M : Nat → Prop} {L : List Ch} (hS : St w0 M w L) (hin : RLogIn L g A0 ns only) :
    Calls Try.prog 17 #[rlogP g] w fun x w' => ∃ A c, x = .returned (.slice A 89 c) ∧ IsVw A 89 c A 0 ∧ St w0 M w' (.own A 89 c 5 1 (bv (Crc.sealed (logB ns only))) :: L) := by
  have hlen := hs.1
  (refine calls_of (P := Try.prog) _ Try.func17 rfl Try.ntmps17 (Nat.le_of_ble_eq_true rfl) ?_; dsimp only [argE, Nat.reduceAdd])
  (refine Reach.walk ?_; (repeat (first | ((with_reducible refine AllSt.mk ?_); (try clear hS); intro w hS) | ((with_reducible refine AllVw.mk ?_); intro V hV))))
  ((with_reducible apply WpL.bs); (· assumption); (· exact rfl); (· exact BVals.found); (· exact oneAll_spec rfl); (· exact rfl); (· decide); (· exact listFound); clear hS)
  intro A w hV hS
  (refine Reach.walk ?_; (repeat (first | ((with_reducible refine AllSt.mk ?_); (try clear hS); intro w hS) | ((with_reducible refine AllVw.mk ?_); intro V hV))))
  ((with_reducible apply WpL.mark); (· assumption); (· exact rfl); (· exact rfl); (· exact Swap.found); (· decide); clear hS; intro w hS)
  (refine Reach.walk ?_; (repeat (first | ((with_reducible refine AllSt.mk ?_); (try clear hS); intro w hS) | ((with_reducible refine AllVw.mk ?_); intro V hV))))
  apply Wp.loopUp 10 (fun k e w' => ∃ A c, IsVw A (4 + 8 * k) c A 0 ∧ St w0 M w' (.app A (4 + 8 * k) c 5 1 (bv (magicB ++ numsB (ns.take k))) :: L) ∧
      e.Has [(4, .int .i64 (k : Nat)), (3, .slice A (4 + 8 * k) c), (0, rlogP g)]) (Nat.zero_le 10)
    ⟨A, 4, hV, hS, rfl, rfl, rfl, trivial⟩
  clear hV hS
  rintro k e w hk ⟨A, c, hV, hS, he⟩
  obtain ⟨e0, rfl⟩ := he.eq
  clear he
  dsimp only [Env.sets]
  have hml : magicB.length = 4 := rfl
  by_cases hlt : k < 10
  · have hx := hs.2 k
    have hnb : (numsB (ns.take k)).length = 8 * k := by rw [numsB_length, List.length_take]; omega
    have hlb := Crc.loB_length (ns.getD k 0) 8
    have hk1 := (hin.there (.app A (4 + 8 * k) c 5 1 (bv (magicB ++ numsB (ns.take k))))).1
    have hk2 := (hin.there (.app A (4 + 8 * k) c 5 1 (bv (magicB ++ numsB (ns.take k))))).2.2 k hlt
    (refine Reach.walk ?_; (repeat (first | ((with_reducible refine AllSt.mk ?_); (try clear hS); intro w hS) | ((with_reducible refine AllVw.mk ?_); intro V hV))))
    (with_reducible apply WpL.call); (· exact rfl); (· exact Try.call29); (· exact Vals.found)
    refine (refLow_any (ns.getD k 0) 8 (by omega) (by decide) hS).mono ?_
    clear hS
    rintro x w ⟨A2, c2, rfl, hV2, hS⟩
    refine ⟨_, rfl, ?_⟩
    (refine Reach.walk ?_; (repeat (first | ((with_reducible refine AllSt.mk ?_); (try clear hS); intro w hS) | ((with_reducible refine AllVw.mk ?_); intro V hV))))
    ((with_reducible apply WpL.appA); (· assumption); (· exact rfl); (· exact rfl); (· exact rfl); (· exact Sel.found); (· simp only [Nat.mul_one]; exact RdsV.found); (· exact onesFound); (· exact catFound); (· omega); (· omega); clear hS)
    intro A3 c3 w hV3 hS
    (refine Reach.walk ?_; (repeat (first | ((with_reducible refine AllSt.mk ?_); (try clear hS); intro w hS) | ((with_reducible refine AllVw.mk ?_); intro V hV))))
    exact ⟨hlt, A3, c3, hV3, by rw [numsB_snoc (by omega), ← List.append_assoc]; exact hS.drop1, int_eq (by omega), rfl, rfl, trivial⟩
  · obtain rfl : k = 10 := by omega
    rw [List.take_of_length_le (by omega)] at hS
    have hnb : (numsB ns).length = 80 := by rw [numsB_length]; omega
    have hk3 := (hin.there (.app A (4 + 8 * 10) c 5 1 (bv (magicB ++ numsB ns)))).2.1
    cases only
    all_goals
      (refine Reach.walk ?_; (repeat (first | ((with_reducible refine AllSt.mk ?_); (try clear hS); intro w hS) | ((with_reducible refine AllVw.mk ?_); intro V hV))))
      ((with_reducible apply WpL.bs); (· assumption); (· exact rfl); (· exact BVals.found); (· exact oneAll_spec rfl); (· exact rfl); (· decide); (· exact listFound); clear hS)
      intro A2 w hV2 hS
      (refine Reach.walk ?_; (repeat (first | ((with_reducible refine AllSt.mk ?_); (try clear hS); intro w hS) | ((with_reducible refine AllVw.mk ?_); intro V hV))))
      ((with_reducible apply WpL.appA); (· assumption); (· exact rfl); (· exact rfl); (· exact rfl); (· exact Sel.found); (· simp only [Nat.mul_one]; exact RdsV.found); (· exact onesFound); (· exact catFound); (· omega); (· omega); clear hS)
      intro A3 c3 w hV3 hS
      (refine Reach.walk ?_; (repeat (first | ((with_reducible refine AllSt.mk ?_); (try clear hS); intro w hS) | ((with_reducible refine AllVw.mk ?_); intro V hV))))
      (with_reducible apply WpL.call); (· exact rfl); (· exact Try.call20); (· exact Vals.found)
      refine (refSealS hS RdsV.found (by omega)).mono ?_
      clear hV hS
      rintro x w ⟨A, c, rfl, hV, hS⟩
      refine ⟨_, rfl, ?_⟩
      (refine Reach.walk ?_; (repeat (first | ((with_reducible refine AllSt.mk ?_); (try clear hS); intro w hS) | ((with_reducible refine AllVw.mk ?_); intro V hV))))
      (with_reducible apply doneQ_one Try.results17); (· exact slotFound)
      exact ⟨A, c, rfl, hV, hS.drop1.drop1⟩

/-- The same, of what is only read: nothing old has changed. -/
theorem bytesQ {g : Nat} {ns : List Nat} {only : Bool} (hs : Small ns) {w : World} (hr : Rd w (some ⟨g, 0, none⟩) (logC ns only)) :
    Calls Try.prog 16 #[logP g] w fun x w' => ∃ A c, x = .returned (.slice A 89 c) ∧ Below w.heap.size w w' ∧ Rd w' A (bv (Crc.sealed (logB ns only))) := by
  refine (bytes_any hs ((St.start w).startRo hr) (LogIn.ro hs.1 only)).mono ?_
  rintro x w' ⟨A, c, rfl, hV, hS⟩
  exact ⟨A, c, rfl, hS.toBelow, Rds.own.rd hS⟩
theorem refBytesQ {g : Nat} {A0 : Option Addr} {ns : List Nat} {only : Bool} (hs : Small ns) (hV0 : IsVw A0 10 10 A0 0) {w : World} (hr : Rd w (some ⟨g, 0, none⟩) [.slice A0 10 10, .bool only]) (hr2 : Rd w A0 (uv ns)) :
    Calls Try.prog 17 #[rlogP g] w fun x w' => ∃ A c, x = .returned (.slice A 89 c) ∧ Below w.heap.size w w' ∧ Rd w' A (bv (Crc.sealed (logB ns only))) := by
  refine (refBytes_any hs hV0 (((St.start w).startRo hr2).startRo hr) (RLogIn.ro hs.1 only)).mono ?_
  rintro x w' ⟨A, c, rfl, hV, hS⟩
  exact ⟨A, c, rfl, hS.toBelow, Rds.own.rd hS⟩
/-- What both say of the log. -/
def ReadsAs (l : List UInt8) (n : Nat) : Value → World → Prop := fun v w => ∃ A c, v = .slice A n c ∧ Rd w A (bv l)
theorem ReadsAs.below {l : List UInt8} {n : Nat} {v : Value} {w w' : World} (h : ReadsAs l n v w) (hb : Below w.heap.size w w') : ReadsAs l n v w' := by
  obtain ⟨A, c, h1, h2⟩ := h
  exact ⟨A, c, h1, h2.below hb⟩
end Go.Proofs.Ytdmnhhmnekkflaa
