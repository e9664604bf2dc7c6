/-
  RecordRow: records with rising numbers, one behind the other, are all read.
-/
import Derived.Test.YtjdkkbbmboggpaaRecF
import Derived.Test.YtjdkkbbmboggpaaArgF
namespace Go.Proofs.Ytjdkkbbmboggpaa
open Go.Fk Go.RowKit
attribute [local irreducible] Wp WpL Det thenQ blockQ
theorem rv_of : ∀ (n : Nat) (cs : List Value), cs.length = n * 5 → (∀ i, i < n → AllIs [.int .i64, .int .u64, .int .u64, .int .u64, .int .u64] ((cs.drop (i * 5)).take 5)) →
    ∃ rs : List Rec, rs.length = n ∧ cs = rv rs ∧ ∀ r ∈ rs, r.Fits ∧ -9223372036854775808 ≤ r.kind ∧ r.kind ≤ 9223372036854775807
  | 0, cs, h, _ => ⟨[], rfl, List.eq_nil_of_length_eq_zero (by simpa using h), fun r hr => by cases hr⟩
  | n + 1, cs, h, hk => by
    have h0 := hk 0 (by omega)
    simp only [Nat.zero_mul, List.drop_zero] at h0
    obtain ⟨rs, h1, h2, h3⟩ := rv_of n (cs.drop 5) (by rw [List.length_drop]; omega) fun i hi => by
      have := hk (i + 1) (by omega)
      rwa [show (i + 1) * 5 = 5 + i * 5 by omega, ← List.drop_drop] at this
    obtain ⟨k, r0, h4, gk, h5⟩ := h0.i64
    obtain ⟨s, r1, rfl, gs, h6⟩ := h5.u64
    obtain ⟨a, r2, rfl, ga, h7⟩ := h6.u64
    obtain ⟨b, r3, rfl, gb, h8⟩ := h7.u64
    obtain ⟨c, r4, rfl, gc, h9⟩ := h8.u64
    obtain rfl := h9.nil
    refine ⟨⟨k, s, a, b, c⟩ :: rs, by simp [h1], ?_, ?_⟩
    · rw [← List.take_append_drop 5 cs, h4, h2]
      rfl
    · intro r hr
      rcases List.mem_cons.1 hr with rfl | hr
      · exact ⟨⟨gs, ga, gb, gc⟩, gk⟩
      · exact h3 r hr
def rowsB (rs : List Rec) : List UInt8 := rs.flatMap Rec.bytes
theorem rowsB_snoc (rs : List Rec) (r : Rec) : rowsB rs ++ r.bytes = rowsB (rs ++ [r]) := by simp [rowsB]
theorem rowsB_length : ∀ rs : List Rec, (rowsB rs).length = rs.length * 37
  | [] => rfl
  | r :: rs => by
    show (r.bytes ++ rowsB rs).length = _
    rw [List.length_append, rowsB_length rs, r.bytes_length, List.length_cons]; omega
theorem recsG_rows {tail : List UInt8} (ht : (parseR tail).2 ≠ 0) : ∀ (rs : List Rec) (last : Option Nat), (∀ r ∈ rs, r.Fits ∧ r.ok) → rs.Pairwise (fun a b => a.seq < b.seq) → (∀ r ∈ rs, goB last r.seq = true) → recsG last (rowsB rs ++ tail) = rs
  | [], last, _, _, _ => recsG_stop fun h => ht h.1
  | r :: rs, last, h1, h2, h3 => by
    obtain ⟨hf, hok⟩ := h1 r List.mem_cons_self
    have e : rowsB (r :: rs) ++ tail = r.bytes ++ (rowsB rs ++ tail) := by
      show (r.bytes ++ rowsB rs) ++ tail = _
      rw [List.append_assoc]
    have hp := parseR_bytes r hf hok (rowsB rs ++ tail)
    rw [e, recsG_go (by rw [hp]) (by rw [hp]; exact h3 r List.mem_cons_self), hp, List.drop_left' r.bytes_length]
    obtain ⟨h4, h5⟩ := List.pairwise_cons.1 h2
    show r :: recsG (some r.seq) (rowsB rs ++ tail) = r :: rs
    rw [recsG_rows ht rs (some r.seq) (fun q hq => h1 q (List.mem_cons_of_mem _ hq)) h5 fun q hq => decide_eq_true (h4 q hq)]
theorem parseR_nine (junk : List UInt8) : (parseR ((9 : UInt8) :: junk)).2 ≠ 0 := by
  unfold parseR
  split
  · decide
  · split
    · rw [if_neg]
      · decide
      · intro h
        have : (recOf (List.take 33 ((9 : UInt8) :: junk))).kind = 9 := by
          unfold recOf
          rw [List.take_succ_cons]
          rfl
        have h2 := h.2
        rw [this] at h2
        exact absurd h2 (by decide)
    · decide
set_option maxHeartbeats 2000000 in
theorem recordRow_any {A : Option Addr} {n c : Nat} {rs : List Rec} (hn : n ≤ rs.length) (hV : IsVw A n c A 0) (hm : n ≤ 140737488351232) (hrs : ∀ r ∈ rs, r.Fits ∧ -9223372036854775808 ≤ r.kind ∧ r.kind ≤ 9223372036854775807)
    {A2 : Option Addr} {l : List UInt8} {n2 c2 : Nat} (hl : l.length = n2) (hV2 : IsVw A2 n2 c2 A2 0) (hm2 : n2 ≤ 140737488351232) (W : World) (hr : Rd W A (rv rs)) (hr2 : Rd W A2 (bv l)) :
    Calls Try.prog 5 #[.slice A n c, .slice A2 n2 c2] W fun x w' => x = .returned (.bool true) ∧ Below W.heap.size W w' := by
  have hS := ((St.start W).startRo hr2).startRo hr
  have hmx := hV.max
  have hle := hV.le
  (refine calls_of (P := Try.prog) _ Try.func5 rfl Try.ntmps5 (Nat.le_of_ble_eq_true rfl) ?_; dsimp only [argE, Nat.reduceAdd])
  (refine Reach.walk ?_; (repeat (first | ((with_reducible refine AllSt.mk ?_); (try clear hS); intro w hS) | ((with_reducible refine AllVw.mk ?_); intro V hV))))
  (with_reducible apply WpL.call); (· exact rfl); (· exact Try.call7); (· exact Vals.found)
  refine (awake_any W).mono ?_
  rintro x w1 ⟨rfl, hb⟩
  refine ⟨_, rfl, ?_⟩
  replace hS := hS.below hb
  clear hb
  (refine Reach.walk ?_; (repeat (first | ((with_reducible refine AllSt.mk ?_); (try clear hS); intro w hS) | ((with_reducible refine AllVw.mk ?_); intro V hV))))
  replace hS : St W (feet []) w1 (.own none 0 0 5 1 (bv (rowsB [])) :: .own none 0 0 24 5 (rv []) :: [.ro A (rv rs), .ro A2 (bv l)]) := hS.nil_.nil_
  apply Wp.loopUp 30 (fun i e w' => ∃ qs B k D k2, qs.length = i ∧ (∀ r ∈ qs, r.Fits ∧ r.ok) ∧ qs.Pairwise (fun a b => a.seq < b.seq) ∧ (∀ r ∈ qs, r.seq < i * 1000) ∧ IsVw B (i * 37) k B 0 ∧ IsVw D i k2 D 0 ∧
      St W (feet []) w' (.own B (i * 37) k 5 1 (bv (rowsB qs)) :: .own D i k2 24 5 (rv qs) :: [.ro A (rv rs), .ro A2 (bv l)]) ∧
      e.Has [(8, .int .i64 (i : Nat)), (6, .slice B (i * 37) k), (7, .slice D i k2), (0, .slice A n c), (1, .slice A2 n2 c2)]) (Nat.zero_le _)
    ⟨[], none, 0, none, 0, rfl, fun r h => (by cases h), List.Pairwise.nil, fun r h => (by cases h), IsVw.nil, IsVw.nil, hS, rfl, rfl, rfl, rfl, rfl, trivial⟩
  clear hS
  rintro i e w hi ⟨qs, B, k, D, k2, hql, hqf, hqp, hqs, hB, hD, hS, he⟩
  obtain ⟨e0, rfl⟩ := he.eq
  clear he
  dsimp only [Env.sets]
  (repeat (with_reducible apply Wp.seq))
  refine Wp.cut (fun e' w' => w' = w ∧ e'.Has [(22, .bool (decide (i < n ∧ i < 30))), (8, .int .i64 (i : Nat)), (6, .slice B (i * 37) k), (7, .slice D i k2), (0, .slice A n c), (1, .slice A2 n2 c2)]) ?_ ?_
  · have h : (¬ i < n) ∨ (i < n ∧ ¬ i < 30) ∨ (i < n ∧ i < 30) := by omega
    rcases h with h1 | ⟨h1, h2⟩ | ⟨h1, h2⟩
    all_goals
      (refine Reach.walk ?_; (repeat (first | ((with_reducible refine AllSt.mk ?_); (try clear hS); intro w hS) | ((with_reducible refine AllVw.mk ?_); intro V hV))))
      exact ⟨rfl, bool_eq (by first | exact decide_eq_decide.2 (by omega) | exact (decide_eq_false (by omega)).symm | exact (decide_eq_true (by omega)).symm), rfl, rfl, rfl, rfl, rfl, trivial⟩
  rintro e w' ⟨rfl, he⟩
  obtain ⟨e0, rfl⟩ := he.eq
  clear he
  dsimp only [Env.sets]
  by_cases hgo : i < n ∧ i < 30
  rotate_left
  · have htail : (parseR ((9 : UInt8) :: l)).2 ≠ 0 := parseR_nine l
    have hrec : recsG none (rowsB qs ++ ((9 : UInt8) :: l)) = qs := recsG_rows htail qs none hqf hqp (fun _ _ => rfl)
    have hbl := rowsB_length qs
    rw [hql] at hbl
    (refine Reach.walk ?_; (repeat (first | ((with_reducible refine AllSt.mk ?_); (try clear hS); intro w hS) | ((with_reducible refine AllVw.mk ?_); intro V hV))))
    ((with_reducible apply WpL.bs); (· assumption); (· exact rfl); (· exact BVals.found); (· exact oneAll_spec rfl); (· exact rfl); (· decide); (· exact listFound); clear hS)
    intro B2 w hB2 hS
    (refine Reach.walk ?_; (repeat (first | ((with_reducible refine AllSt.mk ?_); (try clear hS); intro w hS) | ((with_reducible refine AllVw.mk ?_); intro V hV))))
    ((with_reducible apply WpL.app); (· assumption); (· exact rfl); (· exact rfl); (· exact rfl); (· exact Sel.found); (· simp only [Nat.mul_one]; exact RdsV.found); (· exact onesFound); (· exact catFound); (· omega); (· omega); clear hS)
    intro B3 k3 w hB3 hS
    (refine Reach.walk ?_; (repeat (first | ((with_reducible refine AllSt.mk ?_); (try clear hS); intro w hS) | ((with_reducible refine AllVw.mk ?_); intro V hV))))
    ((with_reducible apply WpL.app); (· assumption); (· exact rfl); (· exact rfl); (· exact rfl); (· exact Sel.found); (· simp only [Nat.mul_one]; exact RdsV.found); (· exact onesFound); (· exact catFound); (· omega); (· omega); clear hS)
    intro B4 k4 w hB4 hS
    have e9 : rowsB qs ++ [UInt8.ofNat 9] ++ l = rowsB qs ++ ((9 : UInt8) :: l) := by rw [List.append_assoc]; rfl
    rw [e9] at hS
    have h9l : (rowsB qs ++ ((9 : UInt8) :: l)).length = i * 37 + 1 + n2 := by rw [List.length_append, List.length_cons]; omega
    generalize rowsB qs ++ ((9 : UInt8) :: l) = bs at *
    (refine Reach.walk ?_; (repeat (first | ((with_reducible refine AllSt.mk ?_); (try clear hS); intro w hS) | ((with_reducible refine AllVw.mk ?_); intro V hV))))
    (with_reducible apply WpL.call); (· exact rfl); (· exact Try.call15); (· exact Vals.found)
    refine (taken_any (l := bs) (most := -1) hB4 (by omega) (by rw [hrec]; omega) (.whole .own (by simpa using h9l)) hS).mono ?_
    clear hS
    rintro x w ⟨T, kt, rfl, hT, hS⟩
    refine ⟨_, rfl, ?_⟩
    have hR : takenR bs (-1) = qs := by unfold takenR; rw [if_pos (by decide), hrec]
    rw [hR] at hT hS ⊢
    (replace hS := (hS.take (pre := [.own T _ _ _ _ _, .own D _ _ _ _ _]) Take.found); (try simp only [List.cons_append, List.nil_append] at hS))
    (refine Reach.walk ?_; (repeat (first | ((with_reducible refine AllSt.mk ?_); (try clear hS); intro w hS) | ((with_reducible refine AllVw.mk ?_); intro V hV))))
    (with_reducible apply WpL.call); (· exact rfl); (· exact Try.call14); (· exact Vals.found)
    refine (same_any (p := qs) (q := qs) rfl hT (by omega) (.whole .own (rv_length qs)) hql hD (by omega) (.there (.whole .own (by rw [rv_length, hql])) _) hS).mono ?_
    rintro x w2 ⟨rfl, hS⟩
    refine ⟨_, rfl, ?_⟩
    rw [decide_eq_true (show qs = qs from rfl)]
    (refine Reach.walk ?_; (repeat (first | ((with_reducible refine AllSt.mk ?_); (try clear hS); intro w hS) | ((with_reducible refine AllVw.mk ?_); intro V hV))))
    (with_reducible apply doneQ_one Try.results5); (· exact slotFound)
    exact ⟨rfl, (hS.sub (List.nil_sublist _)).toBelow⟩
  obtain ⟨h1, h2⟩ := hgo
  have hat : At w' ((adr A).add (0 + i * 5)) (rs.getD i Rec.zero).cells := by
    have := RdsV.rowAt (k := i * 5) (m := 5) (RdsV.whole (L := [.ro A (rv rs), .ro A2 (bv l)]) (n := rs.length * 5) .ro (rv_length rs)) hS.tail.tail (by omega)
    rw [rv_at (by omega)] at this
    rwa [Nat.zero_add]
  have hrb := hrs (rs.getD i Rec.zero) (by rw [List.getD_eq_getElem?_getD, List.getElem?_eq_getElem (by omega)]; exact List.getElem_mem _)
  generalize rs.getD i Rec.zero = r0 at *
  obtain ⟨kind, seq, a1, b1, c1⟩ := r0
  obtain ⟨⟨f1, f2, f3, f4⟩, hk⟩ := hrb
  dsimp only [Rec.cells] at *
  (refine Reach.walk ?_; (repeat (first | ((with_reducible refine AllSt.mk ?_); (try clear hS); intro w hS) | ((with_reducible refine AllVw.mk ?_); intro V hV))))
  refine WpL.det rfl (Det.ldMid (cs := [.int .i64 kind, .int .u64 (seq : Int), .int .u64 (a1 : Int), .int .u64 (b1 : Int), .int .u64 (c1 : Int)]) rfl (by rintro _ rfl; exact hat) rfl) ?_
  (refine Reach.walk ?_; (repeat (first | ((with_reducible refine AllSt.mk ?_); (try clear hS); intro w hS) | ((with_reducible refine AllVw.mk ?_); intro V hV))))
  ((with_reducible apply WpL.al); (· assumption); (· exact rfl); (· exact rfl); clear hS)
  intro gr w hS
  (refine Reach.walk ?_; (repeat (first | ((with_reducible refine AllSt.mk ?_); (try clear hS); intro w hS) | ((with_reducible refine AllVw.mk ?_); intro V hV))))
  clear hat hr hr2
  refine Wp.cut (fun e' w' => ∃ kk : Nat, kk ≤ 9223372036854775807 ∧ St W (feet []) w' [.blk gr 24 [.int .i64 (kk : Int), .int .u64 (seq : Int), .int .u64 (a1 : Int), .int .u64 (b1 : Int), .int .u64 (c1 : Int)], .own B (i * 37) k 5 1 (bv (rowsB qs)), .own D i k2 24 5 (rv qs), .ro A (rv rs), .ro A2 (bv l)] ∧
      e'.Has [(9, .pointer (some ⟨gr, 0, none⟩)), (8, .int .i64 (i : Nat)), (6, .slice B (i * 37) k), (7, .slice D i k2), (0, .slice A n c), (1, .slice A2 n2 c2)]) ?_ ?_
  · by_cases hneg : kind < 0
    · (refine Reach.walk ?_; (repeat (first | ((with_reducible refine AllSt.mk ?_); (try clear hS); intro w hS) | ((with_reducible refine AllVw.mk ?_); intro V hV))))
      have e1 : -(kind + 1) = ((-(kind + 1)).toNat : Int) := by omega
      rw [e1] at hS
      exact ⟨_, by omega, hS, rfl, rfl, rfl, rfl, rfl, rfl, trivial⟩
    · (refine Reach.walk ?_; (repeat (first | ((with_reducible refine AllSt.mk ?_); (try clear hS); intro w hS) | ((with_reducible refine AllVw.mk ?_); intro V hV))))
      have e1 : kind = (kind.toNat : Int) := by omega
      rw [e1] at hS
      exact ⟨_, by omega, hS, rfl, rfl, rfl, rfl, rfl, rfl, trivial⟩
  clear hS hk
  rintro e w ⟨kk, hkk, hS, he⟩
  obtain ⟨e0, rfl⟩ := he.eq
  clear he
  dsimp only [Env.sets]
  have hk4 : kk % 4 < 4 := Nat.mod_lt _ (by decide)
  (refine Reach.walk ?_; (repeat (first | ((with_reducible refine AllSt.mk ?_); (try clear hS); intro w hS) | ((with_reducible refine AllVw.mk ?_); intro V hV))))
  generalize kk % 4 = k4 at *
  have hsq : seq % 1000 < 1000 := Nat.mod_lt _ (by decide)
  generalize seq % 1000 = sq at *
  have hok : Rec.ok ⟨((1 + k4 : Nat) : Int), i * 1000 + sq, a1, b1, c1⟩ := ⟨by show (1 : Int) ≤ ((1 + k4 : Nat) : Int); omega, by show ((1 + k4 : Nat) : Int) ≤ 4; omega⟩
  have hfit : Rec.Fits ⟨((1 + k4 : Nat) : Int), i * 1000 + sq, a1, b1, c1⟩ := ⟨by show i * 1000 + sq < _; omega, f2, f3, f4⟩
  have hcall := recBytesF (w0 := W) (M := feet []) (w := w) ⟨((1 + k4 : Nat) : Int), i * 1000 + sq, a1, b1, c1⟩ hfit hS
  have hN : recN ⟨((1 + k4 : Nat) : Int), i * 1000 + sq, a1, b1, c1⟩ = 37 := if_pos hok
  have hE : recE ⟨((1 + k4 : Nat) : Int), i * 1000 + sq, a1, b1, c1⟩ = 0 := if_pos hok
  have hL : recL ⟨((1 + k4 : Nat) : Int), i * 1000 + sq, a1, b1, c1⟩ = Rec.bytes ⟨((1 + k4 : Nat) : Int), i * 1000 + sq, a1, b1, c1⟩ := if_pos hok
  rw [hN, hE, hL] at hcall
  clear hN hE hL
  (with_reducible apply WpL.call); (· exact rfl); (· exact Try.call8); (· exact Vals.found)
  refine hcall.mono ?_
  clear hS hcall
  rintro x w ⟨X, cx, rfl, hX, hS⟩
  refine ⟨_, rfl, ?_⟩
  have hbl := Rec.bytes_length ⟨((1 + k4 : Nat) : Int), i * 1000 + sq, a1, b1, c1⟩
  have hsn := rowsB_snoc qs ⟨((1 + k4 : Nat) : Int), i * 1000 + sq, a1, b1, c1⟩
  have hrn := rv_snoc qs ⟨((1 + k4 : Nat) : Int), i * 1000 + sq, a1, b1, c1⟩
  (refine Reach.walk ?_; (repeat (first | ((with_reducible refine AllSt.mk ?_); (try clear hS); intro w hS) | ((with_reducible refine AllVw.mk ?_); intro V hV))))
  ((with_reducible apply WpL.app); (· assumption); (· exact rfl); (· exact rfl); (· exact rfl); (· exact Sel.found); (· simp only [Nat.mul_one]; exact RdsV.found); (· exact onesFound); (· exact catFound); (· omega); (· omega); clear hS)
  intro B3 k3 w hB3 hS
  (refine Reach.walk ?_; (repeat (first | ((with_reducible refine AllSt.mk ?_); (try clear hS); intro w hS) | ((with_reducible refine AllVw.mk ?_); intro V hV))))
  refine WpL.bs1 (sz := 5) (cells := Rec.cells ⟨((1 + k4 : Nat) : Int), i * 1000 + sq, a1, b1, c1⟩) hS rfl rfl (by decide) (by decide) (by kernel_rfl) rfl ?_
  clear hS
  intro Y w hY hS
  (refine Reach.walk ?_; (repeat (first | ((with_reducible refine AllSt.mk ?_); (try clear hS); intro w hS) | ((with_reducible refine AllVw.mk ?_); intro V hV))))
  refine WpL.app (sz := 5) (xs := rv qs) (ys := Rec.cells ⟨((1 + k4 : Nat) : Int), i * 1000 + sq, a1, b1, c1⟩) hS rfl rfl rfl Sel.found (.whole .own rfl) (cells_one _) hrn (by omega) (by omega) ?_
  clear hS
  intro D3 kd w hD3 hS
  (refine Reach.walk ?_; (repeat (first | ((with_reducible refine AllSt.mk ?_); (try clear hS); intro w hS) | ((with_reducible refine AllVw.mk ?_); intro V hV))))
  replace hS := hS.only (pre := [.own B3 _ _ _ _ _, .own D3 _ _ _ _ _, .ro A _, .ro A2 _]) Take.found
  rw [hsn] at hS
  refine ⟨h2, qs ++ [⟨((1 + k4 : Nat) : Int), i * 1000 + sq, a1, b1, c1⟩], B3, k3, D3, kd, by simp [hql], ?_, ?_, ?_, by rw [show (i + 1) * 37 = i * 37 + 37 by omega]; exact hB3, hD3, by rw [show (i + 1) * 37 = i * 37 + 37 by omega]; exact hS, int_eq (by omega), by rw [show (i + 1) * 37 = i * 37 + 37 by omega]; rfl, rfl, rfl, rfl, trivial⟩
  · intro r hr
    rcases List.mem_append.1 hr with hr | hr
    · exact hqf r hr
    · rw [List.mem_singleton.1 hr]; exact ⟨hfit, hok⟩
  · refine List.pairwise_append.2 ⟨hqp, List.pairwise_singleton _ _, fun a ha b hb => ?_⟩
    have e1 := congrArg Rec.seq (List.mem_singleton.1 hb)
    dsimp only at e1
    have := hqs a ha
    omega
  · intro r hr
    rcases List.mem_append.1 hr with hr | hr
    · exact Nat.lt_of_lt_of_le (hqs r hr) (Nat.mul_le_mul_right _ (Nat.le_succ i))
    · have e1 := congrArg Rec.seq (List.mem_singleton.1 hr)
      dsimp only at e1
      omega
end Go.Proofs.Ytjdkkbbmboggpaa
