/-
  Records as bytes: the writers; the program's and the document's.
-/
import Derived.Test.YtjdkkbbmboggpaaLowA
import Derived.Test.YtjdkkbbmboggpaaEntL
namespace Go.Proofs.Ytjdkkbbmboggpaa
open Go.Fk Go.RowKit
attribute [local irreducible] Wp WpL Det thenQ blockQ
instance : FieldT Try.prog 24 0 0 := ⟨by kernel_rfl⟩
instance : FieldT Try.prog 24 1 1 := ⟨by kernel_rfl⟩
instance : FieldT Try.prog 24 2 2 := ⟨by kernel_rfl⟩
instance : FieldT Try.prog 24 3 3 := ⟨by kernel_rfl⟩
instance : FieldT Try.prog 24 4 4 := ⟨by kernel_rfl⟩
instance : SizeT Try.prog 24 5 := ⟨by kernel_rfl⟩
instance : RowT Try.prog 24 := ⟨_, Try.underlying24, rfl⟩
instance : Elem Try.prog 24 5 40 (.agg #[.int .i64 0, .int .u64 0, .int .u64 0, .int .u64 0, .int .u64 0]) := ⟨by kernel_rfl, rfl, by decide⟩
instance : BuildT Try.prog 24 [.int .i64 0, .int .u64 0, .int .u64 0, .int .u64 0, .int .u64 0] [(0, 1), (1, 1), (2, 1), (3, 1), (4, 1)] := ⟨by kernel_rfl⟩
instance : IntT Try.prog 27 .i64 := ⟨Try.underlying27⟩
instance : EqT Try.prog 24 := ⟨by kernel_rfl, by kernel_rfl, by kernel_rfl, by kernel_rfl⟩

/-- A record: its kind, its number, three numbers more. -/
structure Rec where
  kind : Int
  seq : Nat
  a : Nat
  b : Nat
  c : Nat
def Rec.zero : Rec := ⟨0, 0, 0, 0, 0⟩
abbrev Rec.cells (r : Rec) : List Value := [.int .i64 r.kind, .int .u64 (r.seq : Int), .int .u64 (r.a : Int), .int .u64 (r.b : Int), .int .u64 (r.c : Int)]
/-- Its numbers fit. -/
structure Rec.Fits (r : Rec) : Prop where
  seq : r.seq < 18446744073709551616
  a : r.a < 18446744073709551616
  b : r.b < 18446744073709551616
  c : r.c < 18446744073709551616
def Rec.ok (r : Rec) : Prop := 1 ≤ r.kind ∧ r.kind ≤ 4
instance Rec.okDec (r : Rec) : Decidable r.ok := by unfold Rec.ok; infer_instance
def Rec.plain (r : Rec) : List UInt8 := [UInt8.ofNat r.kind.toNat] ++ Crc.loB r.seq 8 ++ Crc.loB r.a 8 ++ Crc.loB r.b 8 ++ Crc.loB r.c 8
theorem Rec.plain_length (r : Rec) : r.plain.length = 33 := by simp [Rec.plain, Crc.loB_length]
def Rec.bytes (r : Rec) : List UInt8 := Crc.sealed r.plain
theorem Rec.bytes_length (r : Rec) : r.bytes.length = 37 := by rw [Rec.bytes, Crc.sealed_length, Rec.plain_length]

theorem known_any (k : Int) (w : World) : Calls Try.prog 16 #[.int .i64 k] w fun x w' => x = .returned (.bool (decide (1 ≤ k ∧ k ≤ 4))) ∧ w = w' := by
  have h : (¬ 1 ≤ k) ∨ (1 ≤ k ∧ ¬ k ≤ 4) ∨ (1 ≤ k ∧ k ≤ 4) := by omega
  (refine calls_of (P := Try.prog) _ Try.func16 rfl Try.ntmps16 (Nat.le_of_ble_eq_true rfl) ?_; dsimp only [argE, Nat.reduceAdd])
  rcases h with h | ⟨h, h'⟩ | ⟨h, h'⟩
  all_goals
    (refine Reach.walk ?_; (repeat (first | ((with_reducible refine AllSt.mk ?_); (try clear hS); intro w hS) | ((with_reducible refine AllVw.mk ?_); intro V hV))))
    (with_reducible apply doneQ_one Try.results16); (· exact slotFound)
    exact ⟨by congr 2; first | exact decide_eq_decide.2 (by omega) | exact (decide_eq_false (by omega)).symm | exact (decide_eq_true (by omega)).symm, rfl⟩

theorem recBytes_any (r : Rec) (hf : r.Fits) {w w0 : World} {M : Nat → Prop} {L : List Ch} (hS : St w0 M w L) :
    Calls Try.prog 8 #[.agg r.cells.toArray] w fun x w' =>
      (r.ok ∧ ∃ A c, x = .returned (.tuple #[.slice A 37 c, .int .i64 0]) ∧ IsVw A 37 c A 0 ∧ St w0 M w' (.own A 37 c 5 1 (bv r.bytes) :: L)) ∨
      (¬ r.ok ∧ x = .returned (.tuple #[.slice none 0 0, .int .i64 1]) ∧ St w0 M w' L) := by
  (refine calls_of (P := Try.prog) _ Try.func8 rfl Try.ntmps8 (Nat.le_of_ble_eq_true rfl) ?_; dsimp only [argE, Nat.reduceAdd])
  (refine Reach.walk ?_; (repeat (first | ((with_reducible refine AllSt.mk ?_); (try clear hS); intro w hS) | ((with_reducible refine AllVw.mk ?_); intro V hV))))
  ((with_reducible apply WpL.bx); (· assumption); (· exact rfl); (· exact Env.found); (· exact rfl); clear hS)
  intro gr w hS
  (refine Reach.walk ?_; (repeat (first | ((with_reducible refine AllSt.mk ?_); (try clear hS); intro w hS) | ((with_reducible refine AllVw.mk ?_); intro V hV))))
  (with_reducible apply WpL.call); (· exact rfl); (· exact Try.call16); (· exact Vals.found)
  refine (known_any r.kind w).mono ?_
  rintro x w1 ⟨rfl, rfl⟩
  refine ⟨_, rfl, ?_⟩
  by_cases hok : r.ok
  rotate_left
  · have hd : decide (1 ≤ r.kind ∧ r.kind ≤ 4) = false := decide_eq_false hok
    rw [hd]
    (refine Reach.walk ?_; (repeat (first | ((with_reducible refine AllSt.mk ?_); (try clear hS); intro w hS) | ((with_reducible refine AllVw.mk ?_); intro V hV))))
    (with_reducible apply doneQ_two Try.results8); (· exact slotFound); (· exact slotFound)
    exact .inr ⟨hok, rfl, hS.tail⟩
  have hd : decide (1 ≤ r.kind ∧ r.kind ≤ 4) = true := decide_eq_true hok
  have hk1 := hok.1
  have hk2 := hok.2
  have h1 := hf.seq
  have h2 := hf.a
  have h3 := hf.b
  have h4 := hf.c
  rw [hd]
  (refine Reach.walk ?_; (repeat (first | ((with_reducible refine AllSt.mk ?_); (try clear hS); intro w hS) | ((with_reducible refine AllVw.mk ?_); intro V hV))))
  ((with_reducible apply WpL.bs); (· assumption); (· exact rfl); (· exact BVals.found); (· exact oneAll_spec rfl); (· exact rfl); (· decide); (· exact listFound); clear hS)
  intro A w hV hS
  (refine Reach.walk ?_; (repeat (first | ((with_reducible refine AllSt.mk ?_); (try clear hS); intro w hS) | ((with_reducible refine AllVw.mk ?_); intro V hV))))
  ((with_reducible apply WpL.bs); (· assumption); (· exact rfl); (· exact BVals.found); (· exact oneAll_spec rfl); (· exact rfl); (· decide); (· exact listFound); clear hS)
  intro An w hVn hS
  have hnl : [r.seq, r.a, r.b, r.c].length = 4 := rfl
  have hall : ∀ k, k < 4 → [r.seq, r.a, r.b, r.c].getD k 0 < 18446744073709551616 := fun k hk => by
    match k, hk with
    | 0, _ => exact h1
    | 1, _ => exact h2
    | 2, _ => exact h3
    | 3, _ => exact h4
  have hpl : [UInt8.ofNat r.kind.toNat] ++ [r.seq, r.a, r.b, r.c].flatMap (fun n => Crc.loB n 8) = r.plain := by simp [Rec.plain]
  generalize [r.seq, r.a, r.b, r.c] = ns at *
  replace hS := (hS.take (pre := [.own A _ _ _ _ _, .own An _ _ _ _ _]) Take.found)
  simp only [List.cons_append, List.nil_append] at hS
  replace hS := hS.drop2
  replace hS := hS.toApp .here
  (refine Reach.walk ?_; (repeat (first | ((with_reducible refine AllSt.mk ?_); (try clear hS); intro w hS) | ((with_reducible refine AllVw.mk ?_); intro V hV))))
  apply Wp.loopUp 4 (fun k e w' => ∃ A c, IsVw A (1 + 8 * k) c A 0 ∧ St w0 M w' (.app A (1 + 8 * k) c 5 1 (bv ([UInt8.ofNat r.kind.toNat] ++ (ns.take k).flatMap (fun n => Crc.loB n 8))) :: .own An 4 4 22 1 (uv ns) :: L) ∧
      e.Has [(25, .int .i64 (k : Nat)), (24, .int .i64 4), (23, .slice An 4 4), (4, .slice A (1 + 8 * k) c)]) (Nat.zero_le 4)
    ⟨A, 1, hV, by simpa using hS, rfl, rfl, rfl, rfl, trivial⟩
  clear hS hV
  rintro k e w hk ⟨A, c, hV, hS, he⟩
  obtain ⟨e0, rfl⟩ := he.eq
  clear he
  dsimp only [Env.sets]
  have hfl : ((ns.take k).flatMap (fun n => Crc.loB n 8)).length = 8 * k := by
    have : ∀ l : List Nat, (l.flatMap (fun n => Crc.loB n 8)).length = 8 * l.length := fun l => by
      induction l with
      | nil => rfl
      | cons a r ih => rw [List.flatMap_cons, List.length_append, ih, Crc.loB_length, List.length_cons]; omega
    rw [this, List.length_take]; omega
  by_cases hlt : k < 4
  · have hx := hall k hlt
    (refine Reach.walk ?_; (repeat (first | ((with_reducible refine AllSt.mk ?_); (try clear hS); intro w hS) | ((with_reducible refine AllVw.mk ?_); intro V hV))))
    (with_reducible apply WpL.call); (· exact rfl); (· exact Try.call17); (· exact Vals.found)
    refine (lowAppend64A_any (by simp only [List.length_append, List.length_cons, List.length_nil]; omega) hx (by omega) hV hS).mono ?_
    clear hS hV
    rintro x w ⟨A', c', rfl, hV, hS⟩
    refine ⟨_, rfl, ?_⟩
    (refine Reach.walk ?_; (repeat (first | ((with_reducible refine AllSt.mk ?_); (try clear hS); intro w hS) | ((with_reducible refine AllVw.mk ?_); intro V hV))))
    refine ⟨hlt, A', c', hV, ?_, int_eq (by omega), rfl, rfl, rfl, trivial⟩
    rw [List.take_succ_eq_append_getElem (by omega), List.flatMap_append, ← List.append_assoc]
    simp only [List.flatMap_cons, List.flatMap_nil, List.append_nil]
    have : ns[k]'(by omega) = ns.getD k 0 := by rw [List.getD_eq_getElem?_getD, List.getElem?_eq_getElem (by omega)]; rfl
    rw [this]
    exact hS
  · obtain rfl : k = 4 := by omega
    rw [List.take_of_length_le (by omega), hpl] at hS
    have hplen := r.plain_length
    (refine Reach.walk ?_; (repeat (first | ((with_reducible refine AllSt.mk ?_); (try clear hS); intro w hS) | ((with_reducible refine AllVw.mk ?_); intro V hV))))
    (with_reducible apply WpL.call); (· exact rfl); (· exact Try.call18); (· exact Vals.found)
    refine (sealS hS RdsV.found (by decide)).mono ?_
    clear hS hV
    rintro x w ⟨A', c', rfl, hV, hS⟩
    refine ⟨_, rfl, ?_⟩
    (refine Reach.walk ?_; (repeat (first | ((with_reducible refine AllSt.mk ?_); (try clear hS); intro w hS) | ((with_reducible refine AllVw.mk ?_); intro V hV))))
    (with_reducible apply doneQ_two Try.results8); (· exact slotFound); (· exact slotFound)
    exact .inl ⟨hok, A', c', rfl, hV, hS.drop1.drop1⟩

/-- The document's bytes of a number. -/
theorem refLow_any (m : Nat) (hm : m < 18446744073709551616) {w w0 : World} {M : Nat → Prop} {L : List Ch} (hS : St w0 M w L) :
    Calls Try.prog 19 #[.int .u64 (m : Int)] w fun x w' => ∃ A c, x = .returned (.slice A 8 c) ∧ IsVw A 8 c A 0 ∧ St w0 M w' (.own A 8 c 5 1 (bv (Crc.loB m 8)) :: L) := by
  (refine calls_of (P := Try.prog) _ Try.func19 rfl Try.ntmps19 (Nat.le_of_ble_eq_true rfl) ?_; dsimp only [argE, Nat.reduceAdd])
  replace hS := hS.nil_ (el := 5) (sz := 1)
  (refine Reach.walk ?_; (repeat (first | ((with_reducible refine AllSt.mk ?_); (try clear hS); intro w hS) | ((with_reducible refine AllVw.mk ?_); intro V hV))))
  apply Wp.loopUp 8 (fun i e w' => ∃ A c, IsVw A i c A 0 ∧ St w0 M w' (.own A i c 5 1 (bv (Crc.loB m i)) :: L) ∧ e.Has [(4, .int .i64 (i : Nat)), (3, .slice A i c), (0, .int .u64 (m : Int))]) (Nat.zero_le 8)
    ⟨none, 0, IsVw.nil, hS, rfl, rfl, rfl, trivial⟩
  clear hS
  rintro i e w hi ⟨A, c, hV, hS, he⟩
  obtain ⟨e0, rfl⟩ := he.eq
  clear he
  dsimp only [Env.sets]
  have hlb := Crc.loB_length m i
  by_cases hlt : i < 8
  · have hmi : m >>> (8 * i) < 18446744073709551616 := Nat.lt_of_le_of_lt (by rw [Nat.shiftRight_eq_div_pow]; exact Nat.div_le_self _ _) hm
    (refine Reach.walk ?_; (repeat (first | ((with_reducible refine AllSt.mk ?_); (try clear hS); intro w hS) | ((with_reducible refine AllVw.mk ?_); intro V hV))))
    ((with_reducible apply WpL.bs); (· assumption); (· exact rfl); (· exact BVals.found); (· exact oneAll_spec rfl); (· exact rfl); (· decide); (· exact listFound); clear hS)
    intro A2 w hV2 hS
    (refine Reach.walk ?_; (repeat (first | ((with_reducible refine AllSt.mk ?_); (try clear hS); intro w hS) | ((with_reducible refine AllVw.mk ?_); intro V hV))))
    ((with_reducible apply WpL.app); (· assumption); (· exact rfl); (· exact rfl); (· exact rfl); (· exact Sel.found); (· simp only [Nat.mul_one]; exact RdsV.found); (· exact onesFound); (· exact catFound); (· omega); (· omega); clear hS)
    intro A3 c3 w hV3 hS
    replace hS := hS.drop1
    (refine Reach.walk ?_; (repeat (first | ((with_reducible refine AllSt.mk ?_); (try clear hS); intro w hS) | ((with_reducible refine AllVw.mk ?_); intro V hV))))
    refine ⟨hlt, A3, c3, hV3, ?_, int_eq (by omega), rfl, rfl, trivial⟩
    rw [Crc.loB_snoc]
    have e1 : UInt8.ofNat (m >>> (8 * i) % 256) = UInt8.ofNat (m >>> (8 * i)) := by
      apply UInt8.toNat_inj.1; simp
    rw [← e1]
    exact hS
  · obtain rfl : i = 8 := by omega
    (refine Reach.walk ?_; (repeat (first | ((with_reducible refine AllSt.mk ?_); (try clear hS); intro w hS) | ((with_reducible refine AllVw.mk ?_); intro V hV))))
    (with_reducible apply doneQ_one Try.results19); (· exact slotFound)
    exact ⟨_, _, rfl, hV, hS⟩
theorem refBytes_any (r : Rec) (hf : r.Fits) {w w0 : World} {M : Nat → Prop} {L : List Ch} (hS : St w0 M w L) :
    Calls Try.prog 9 #[.agg r.cells.toArray] w fun x w' =>
      (r.ok ∧ ∃ A c, x = .returned (.tuple #[.slice A 37 c, .int .i64 0]) ∧ IsVw A 37 c A 0 ∧ St w0 M w' (.own A 37 c 5 1 (bv r.bytes) :: L)) ∨
      (¬ r.ok ∧ x = .returned (.tuple #[.slice none 0 0, .int .i64 1]) ∧ St w0 M w' L) := by
  (refine calls_of (P := Try.prog) _ Try.func9 rfl Try.ntmps9 (Nat.le_of_ble_eq_true rfl) ?_; dsimp only [argE, Nat.reduceAdd])
  (refine Reach.walk ?_; (repeat (first | ((with_reducible refine AllSt.mk ?_); (try clear hS); intro w hS) | ((with_reducible refine AllVw.mk ?_); intro V hV))))
  ((with_reducible apply WpL.bx); (· assumption); (· exact rfl); (· exact Env.found); (· exact rfl); clear hS)
  intro gr w hS
  by_cases hk1 : r.kind < 1
  · (refine Reach.walk ?_; (repeat (first | ((with_reducible refine AllSt.mk ?_); (try clear hS); intro w hS) | ((with_reducible refine AllVw.mk ?_); intro V hV))))
    (with_reducible apply doneQ_two Try.results9); (· exact slotFound); (· exact slotFound)
    exact .inr ⟨fun h => by have := h.1; omega, rfl, hS.tail⟩
  by_cases hk2 : 4 < r.kind
  · (refine Reach.walk ?_; (repeat (first | ((with_reducible refine AllSt.mk ?_); (try clear hS); intro w hS) | ((with_reducible refine AllVw.mk ?_); intro V hV))))
    (with_reducible apply doneQ_two Try.results9); (· exact slotFound); (· exact slotFound)
    exact .inr ⟨fun h => by have := h.2; omega, rfl, hS.tail⟩
  have hok : r.ok := ⟨by omega, by omega⟩
  have h1 := hf.seq
  have h2 := hf.a
  have h3 := hf.b
  have h4 := hf.c
  have q1 := Crc.loB_length r.seq 8
  have q2 := Crc.loB_length r.a 8
  have q3 := Crc.loB_length r.b 8
  have q4 := Crc.loB_length r.c 8
  (refine Reach.walk ?_; (repeat (first | ((with_reducible refine AllSt.mk ?_); (try clear hS); intro w hS) | ((with_reducible refine AllVw.mk ?_); intro V hV))))
  ((with_reducible apply WpL.bs); (· assumption); (· exact rfl); (· exact BVals.found); (· exact oneAll_spec rfl); (· exact rfl); (· decide); (· exact listFound); clear hS)
  intro A w hV hS
  (refine Reach.walk ?_; (repeat (first | ((with_reducible refine AllSt.mk ?_); (try clear hS); intro w hS) | ((with_reducible refine AllVw.mk ?_); intro V hV))))
  (with_reducible apply WpL.call); (· exact rfl); (· exact Try.call19); (· exact Vals.found)
  refine (refLow_any r.seq h1 hS).mono ?_
  clear hS
  rintro x w ⟨A2, c2, rfl, hV2, hS⟩
  refine ⟨_, rfl, ?_⟩
  (refine Reach.walk ?_; (repeat (first | ((with_reducible refine AllSt.mk ?_); (try clear hS); intro w hS) | ((with_reducible refine AllVw.mk ?_); intro V hV))))
  ((with_reducible apply WpL.app); (· assumption); (· exact rfl); (· exact rfl); (· exact rfl); (· exact Sel.found); (· simp only [Nat.mul_one]; exact RdsV.found); (· exact onesFound); (· exact catFound); (· omega); (· omega); clear hS)
  intro A3 c3 w hV3 hS
  replace hS := hS.drop1
  (refine Reach.walk ?_; (repeat (first | ((with_reducible refine AllSt.mk ?_); (try clear hS); intro w hS) | ((with_reducible refine AllVw.mk ?_); intro V hV))))
  (with_reducible apply WpL.call); (· exact rfl); (· exact Try.call19); (· exact Vals.found)
  refine (refLow_any r.a h2 hS).mono ?_
  clear hS
  rintro x w ⟨A2, c2, rfl, hV2, hS⟩
  refine ⟨_, rfl, ?_⟩
  (refine Reach.walk ?_; (repeat (first | ((with_reducible refine AllSt.mk ?_); (try clear hS); intro w hS) | ((with_reducible refine AllVw.mk ?_); intro V hV))))
  ((with_reducible apply WpL.app); (· assumption); (· exact rfl); (· exact rfl); (· exact rfl); (· exact Sel.found); (· simp only [Nat.mul_one]; exact RdsV.found); (· exact onesFound); (· exact catFound); (· omega); (· omega); clear hS)
  intro A4 c4 w hV4 hS
  replace hS := hS.drop1
  (refine Reach.walk ?_; (repeat (first | ((with_reducible refine AllSt.mk ?_); (try clear hS); intro w hS) | ((with_reducible refine AllVw.mk ?_); intro V hV))))
  (with_reducible apply WpL.call); (· exact rfl); (· exact Try.call19); (· exact Vals.found)
  refine (refLow_any r.b h3 hS).mono ?_
  clear hS
  rintro x w ⟨A2, c2, rfl, hV2, hS⟩
  refine ⟨_, rfl, ?_⟩
  (refine Reach.walk ?_; (repeat (first | ((with_reducible refine AllSt.mk ?_); (try clear hS); intro w hS) | ((with_reducible refine AllVw.mk ?_); intro V hV))))
  ((with_reducible apply WpL.app); (· assumption); (· exact rfl); (· exact rfl); (· exact rfl); (· exact Sel.found); (· simp only [Nat.mul_one]; exact RdsV.found); (· exact onesFound); (· exact catFound); (· omega); (· omega); clear hS)
  intro A5 c5 w hV5 hS
  replace hS := hS.drop1
  (refine Reach.walk ?_; (repeat (first | ((with_reducible refine AllSt.mk ?_); (try clear hS); intro w hS) | ((with_reducible refine AllVw.mk ?_); intro V hV))))
  (with_reducible apply WpL.call); (· exact rfl); (· exact Try.call19); (· exact Vals.found)
  refine (refLow_any r.c h4 hS).mono ?_
  clear hS
  rintro x w ⟨A2, c2, rfl, hV2, hS⟩
  refine ⟨_, rfl, ?_⟩
  (refine Reach.walk ?_; (repeat (first | ((with_reducible refine AllSt.mk ?_); (try clear hS); intro w hS) | ((with_reducible refine AllVw.mk ?_); intro V hV))))
  ((with_reducible apply WpL.app); (· assumption); (· exact rfl); (· exact rfl); (· exact rfl); (· exact Sel.found); (· simp only [Nat.mul_one]; exact RdsV.found); (· exact onesFound); (· exact catFound); (· omega); (· omega); clear hS)
  intro A6 c6 w hV6 hS
  replace hS := hS.drop1
  (refine Reach.walk ?_; (repeat (first | ((with_reducible refine AllSt.mk ?_); (try clear hS); intro w hS) | ((with_reducible refine AllVw.mk ?_); intro V hV))))
  (with_reducible apply WpL.call); (· exact rfl); (· exact Try.call10); (· exact Vals.found)
  refine (refSealS hS RdsV.found (by decide)).mono ?_
  clear hS hV
  rintro x w ⟨A', c', rfl, hV, hS⟩
  refine ⟨_, rfl, ?_⟩
  (refine Reach.walk ?_; (repeat (first | ((with_reducible refine AllSt.mk ?_); (try clear hS); intro w hS) | ((with_reducible refine AllVw.mk ?_); intro V hV))))
  (with_reducible apply doneQ_two Try.results9); (· exact slotFound); (· exact slotFound)
  exact .inl ⟨hok, A', c', rfl, hV, hS.drop1.drop1⟩
end Go.Proofs.Ytjdkkbbmboggpaa
