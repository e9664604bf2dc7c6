/-
  RecordAll: the records of any bytes are those that the document says.
-/
import Derived.Test.YtjdkkbbmboggpaaRecH
import Derived.Test.YtjdkkbbmboggpaaRecG
namespace Go.Proofs.Ytjdkkbbmboggpaa
open Go.Fk Go.RowKit
attribute [local irreducible] Wp WpL Det thenQ blockQ
set_option maxHeartbeats 2000000 in
theorem recordAll_any {A : Option Addr} {n c : Nat} {rs : List Rec} (hn : n ≤ rs.length) (hV : IsVw A n c A 0) (hm : n ≤ 140737488351232) (hrs : ∀ r ∈ rs, r.Fits ∧ -9223372036854775808 ≤ r.kind ∧ r.kind ≤ 9223372036854775807)
    {A2 : Option Addr} {l : List UInt8} {n2 c2 : Nat} (hl : l.length = n2) (hV2 : IsVw A2 n2 c2 A2 0) (hm2 : n2 ≤ 1048576) {tu nn : Int} (ht : -9223372036854775808 ≤ tu ∧ tu ≤ 9223372036854775807) (hnn : -9223372036854775808 ≤ nn ∧ nn ≤ 9223372036854775807)
    (W : World) (hr : Rd W A (rv rs)) (hr2 : Rd W A2 (bv l)) :
    Calls Try.prog 4 #[.slice A n c, .slice A2 n2 c2, .int .i64 tu, .int .i64 nn] W fun x w' => x = .returned (.bool true) ∧ Below W.heap.size W w' := by
  have hS := ((St.start W).startRo hr2).startRo hr
  have hmx := hV.max
  have hle := hV.le
  (refine calls_of (P := Try.prog) _ Try.func4 rfl Try.ntmps4 (Nat.le_of_ble_eq_true rfl) ?_; dsimp only [argE, Nat.reduceAdd])
  (refine Reach.walk ?_; (repeat (first | ((with_reducible refine AllSt.mk ?_); (try clear hS); intro w hS) | ((with_reducible refine AllVw.mk ?_); intro V hV))))
  (with_reducible apply WpL.call); (· exact rfl); (· exact Try.call7); (· exact Vals.found)
  refine (awake_any W).mono ?_
  rintro x w1 ⟨rfl, hb⟩
  refine ⟨_, rfl, ?_⟩
  replace hS := hS.below hb
  clear hb
  (refine Reach.walk ?_; (repeat (first | ((with_reducible refine AllSt.mk ?_); (try clear hS); intro w hS) | ((with_reducible refine AllVw.mk ?_); intro V hV))))
  replace hS : St W (feet []) w1 (.own none 0 0 5 1 (bv []) :: [.ro A (rv rs), .ro A2 (bv l)]) := hS.nil_
  apply Wp.loopUp 30 (fun i e w' => ∃ bs m B k, bs.length = m ∧ m ≤ i * 37 ∧ IsVw B m k B 0 ∧
      St W (feet []) w' (.own B m k 5 1 (bv bs) :: [.ro A (rv rs), .ro A2 (bv l)]) ∧
      e.Has [(11, .int .i64 (i : Nat)), (10, .slice B m k), (0, .slice A n c), (1, .slice A2 n2 c2), (2, .int .i64 tu), (3, .int .i64 nn)]) (Nat.zero_le _)
    ⟨[], 0, none, 0, rfl, by omega, IsVw.nil, hS, rfl, rfl, rfl, rfl, rfl, rfl, trivial⟩
  clear hS
  rintro i e w hi ⟨bs, m, B, k, hbl, hbm, hB, hS, he⟩
  obtain ⟨e0, rfl⟩ := he.eq
  clear he
  dsimp only [Env.sets]
  (repeat (with_reducible apply Wp.seq))
  refine Wp.cut (fun e' w' => w' = w ∧ e'.Has [(26, .bool (decide (i < n ∧ i < 30))), (11, .int .i64 (i : Nat)), (10, .slice B m k), (0, .slice A n c), (1, .slice A2 n2 c2), (2, .int .i64 tu), (3, .int .i64 nn)]) ?_ ?_
  · have h : (¬ i < n) ∨ (i < n ∧ ¬ i < 30) ∨ (i < n ∧ i < 30) := by omega
    rcases h with h1 | ⟨h1, h2⟩ | ⟨h1, h2⟩
    all_goals
      (refine Reach.walk ?_; (repeat (first | ((with_reducible refine AllSt.mk ?_); (try clear hS); intro w hS) | ((with_reducible refine AllVw.mk ?_); intro V hV))))
      exact ⟨rfl, bool_eq (by first | exact decide_eq_decide.2 (by omega) | exact (decide_eq_false (by omega)).symm | exact (decide_eq_true (by omega)).symm), rfl, rfl, rfl, rfl, rfl, rfl, trivial⟩
  rintro e w' ⟨rfl, he⟩
  obtain ⟨e0, rfl⟩ := he.eq
  clear he
  dsimp only [Env.sets]
  by_cases hgo : i < n ∧ i < 30
  · obtain ⟨h1, h2⟩ := hgo
    have hat : At w' ((adr A).add (0 + i * 5)) (rs.getD i Rec.zero).cells := by
      have := RdsV.rowAt (k := i * 5) (m := 5) (RdsV.whole (L := [.ro A (rv rs), .ro A2 (bv l)]) (n := rs.length * 5) .ro (rv_length rs)) hS.tail (by omega)
      rw [rv_at (by omega)] at this
      rwa [Nat.zero_add]
    have hrb := hrs (rs.getD i Rec.zero) (by rw [List.getD_eq_getElem?_getD, List.getElem?_eq_getElem (by omega)]; exact List.getElem_mem _)
    generalize rs.getD i Rec.zero = r0 at *
    have hN : recN r0 ≤ 37 := by unfold recN; split <;> omega
    have hrl := recL_length r0
    (refine Reach.walk ?_; (repeat (first | ((with_reducible refine AllSt.mk ?_); (try clear hS); intro w hS) | ((with_reducible refine AllVw.mk ?_); intro V hV))))
    refine WpL.det rfl (Det.ldMid (cs := r0.cells) rfl (by rintro _ rfl; exact hat) rfl) ?_
    (refine Reach.walk ?_; (repeat (first | ((with_reducible refine AllSt.mk ?_); (try clear hS); intro w hS) | ((with_reducible refine AllVw.mk ?_); intro V hV))))
    (with_reducible apply WpL.call); (· exact rfl); (· exact Try.call9); (· exact Vals.found)
    refine (refBytesF r0 hrb.1 hS).mono ?_
    clear hS
    rintro x w ⟨X, cx, rfl, hX, hS⟩
    refine ⟨_, rfl, ?_⟩
    generalize recL r0 = xs at *
    generalize recN r0 = xn at *
    (refine Reach.walk ?_; (repeat (first | ((with_reducible refine AllSt.mk ?_); (try clear hS); intro w hS) | ((with_reducible refine AllVw.mk ?_); intro V hV))))
    ((with_reducible apply WpL.app); (· assumption); (· exact rfl); (· exact rfl); (· exact rfl); (· exact Sel.found); (· simp only [Nat.mul_one]; exact RdsV.found); (· exact onesFound); (· exact catFound); (· omega); (· omega); clear hS)
    intro B3 k3 w hB3 hS
    (refine Reach.walk ?_; (repeat (first | ((with_reducible refine AllSt.mk ?_); (try clear hS); intro w hS) | ((with_reducible refine AllVw.mk ?_); intro V hV))))
    replace hS := hS.only (pre := [.own B3 _ _ _ _ _, .ro A _, .ro A2 _]) Take.found
    exact ⟨h2, _, _, B3, k3, by rw [List.length_append, hbl, hrl], by omega, hB3, hS, int_eq (by omega), rfl, rfl, rfl, rfl, rfl, trivial⟩
  clear hr hr2 hrs
  (refine Reach.walk ?_; (repeat (first | ((with_reducible refine AllSt.mk ?_); (try clear hS); intro w hS) | ((with_reducible refine AllVw.mk ?_); intro V hV))))
  ((with_reducible apply WpL.app); (· assumption); (· exact rfl); (· exact rfl); (· exact rfl); (· exact Sel.found); (· simp only [Nat.mul_one]; exact RdsV.found); (· exact onesFound); (· exact catFound); (· omega); (· omega); clear hS)
  intro B2 k2 w hB2 hS
  have hbl2 : (bs ++ l).length = m + n2 := by rw [List.length_append, hbl, hl]
  generalize bs ++ l = cs at *
  generalize hM : m + n2 = M at *
  have hMb : M ≤ 1049700 := by omega
  (refine Reach.walkL ?_; (repeat (first | ((with_reducible refine AllSt.mk ?_); (try clear hS); intro w hS) | ((with_reducible refine AllVw.mk ?_); intro V hV))))
  refine thenQ_normal ?_
  refine Wp.seq ?_
  refine Wp.cut (fun e' w' => ∃ cs : List UInt8, cs.length = M ∧ St W (feet []) w' [.own B2 M k2 5 1 (bv cs), .ro A (rv rs), .ro A2 (bv l)] ∧ e'.Has [(10, .slice B2 M k2), (3, .int .i64 nn)]) ?_ ?_
  · by_cases ht0 : 0 < tu
    · by_cases hM0 : 0 < M
      · obtain ⟨t, rfl⟩ := Int.eq_ofNat_of_zero_le (show 0 ≤ tu by omega)
        have hd : t % (8 * M) < 8 * M := Nat.mod_lt _ (by omega)
        (refine Reach.walk ?_; (repeat (first | ((with_reducible refine AllSt.mk ?_); (try clear hS); intro w hS) | ((with_reducible refine AllVw.mk ?_); intro V hV))))
        generalize t % (8 * M) = d at *
        have hj : d / 8 < cs.length := by omega
        have hsh : 1 <<< (d % 8) < 256 := by
          have : d % 8 < 8 := Nat.mod_lt _ (by decide)
          rw [Nat.shiftLeft_eq, Nat.one_mul]
          exact Nat.lt_of_lt_of_le (Nat.pow_lt_pow_right (by decide) this) (by decide)
        have hb8 := byte_lt cs (d / 8)
        have hx8 : (cs.getD (d / 8) 0).toNat ^^^ 1 <<< (d % 8) < 256 := Nat.xor_lt_two_pow (n := 8) hb8 hsh
        (refine Reach.walk ?_; (repeat (first | ((with_reducible refine AllSt.mk ?_); (try clear hS); intro w hS) | ((with_reducible refine AllVw.mk ?_); intro V hV))))
        exact ⟨_, by rw [List.length_set]; exact hbl2, hS, rfl, rfl, trivial⟩
      · (refine Reach.walk ?_; (repeat (first | ((with_reducible refine AllSt.mk ?_); (try clear hS); intro w hS) | ((with_reducible refine AllVw.mk ?_); intro V hV))))
        exact ⟨cs, hbl2, hS, rfl, rfl, trivial⟩
    · (refine Reach.walk ?_; (repeat (first | ((with_reducible refine AllSt.mk ?_); (try clear hS); intro w hS) | ((with_reducible refine AllVw.mk ?_); intro V hV))))
      exact ⟨cs, hbl2, hS, rfl, rfl, trivial⟩
  clear hS hbl2 cs
  rintro e w ⟨cs, hcl, hS, he⟩
  obtain ⟨e0, rfl⟩ := he.eq
  clear he
  dsimp only [Env.sets]
  have hrl : (recsG none cs).length ≤ 1049700 := by have := recsG_len none cs; omega
  (refine Reach.walk ?_; (repeat (first | ((with_reducible refine AllSt.mk ?_); (try clear hS); intro w hS) | ((with_reducible refine AllVw.mk ?_); intro V hV))))
  (with_reducible apply WpL.call); (· exact rfl); (· exact Try.call13); (· exact Vals.found)
  refine (refAll_any (l := cs) hB2 (by omega) (by omega) (.whole .own (by simpa using hcl)) hS).mono ?_
  clear hS
  rintro x w ⟨P1, kp, rfl, hP, hS⟩
  refine ⟨_, rfl, ?_⟩
  (refine Reach.walk ?_; (repeat (first | ((with_reducible refine AllSt.mk ?_); (try clear hS); intro w hS) | ((with_reducible refine AllVw.mk ?_); intro V hV))))
  (with_reducible apply WpL.call); (· exact rfl); (· exact Try.call15); (· exact Vals.found)
  refine (taken_any (l := cs) (most := -1) hB2 (by omega) (by omega) (.there (.whole .own (by simpa using hcl)) _) hS).mono ?_
  clear hS
  rintro x w ⟨T, kt, rfl, hT, hS⟩
  refine ⟨_, rfl, ?_⟩
  have hR : takenR cs (-1) = recsG none cs := by unfold takenR; rw [if_pos (by decide)]
  rw [hR] at hT hS ⊢
  (refine Reach.walk ?_; (repeat (first | ((with_reducible refine AllSt.mk ?_); (try clear hS); intro w hS) | ((with_reducible refine AllVw.mk ?_); intro V hV))))
  (with_reducible apply WpL.call); (· exact rfl); (· exact Try.call14); (· exact Vals.found)
  refine (same_any (p := recsG none cs) (q := recsG none cs) rfl hT (by omega) (.whole .own (rv_length _)) rfl hP (by omega) (.there (.whole .own (rv_length _)) _) hS).mono ?_
  clear hS
  rintro x w ⟨rfl, hS⟩
  refine ⟨_, rfl, ?_⟩
  rw [decide_eq_true (show recsG none cs = recsG none cs from rfl)]
  replace hS := hS.tail
  have htk : ∀ q : Nat, takenR cs (q : Int) = (recsG none cs).take q := fun q => by unfold takenR; rw [if_neg (by omega), Int.toNat_natCast]
  clear hT hR
  generalize hRR : recsG none cs = R at *
  (refine Reach.walk ?_; (repeat (first | ((with_reducible refine AllSt.mk ?_); (try clear hS); intro w hS) | ((with_reducible refine AllVw.mk ?_); intro V hV))))
  refine Wp.cut (fun e' w' => w' = w ∧ ∃ q : Nat, q ≤ 9223372036854775807 ∧ e'.Has [(10, .slice B2 M k2), (3, .int .i64 (q : Int)), (15, .slice P1 R.length kp)]) ?_ ?_
  · refine Wp.cond _ rfl (fun h => ?_) (fun h => ?_)
    · have h := of_decide_eq_true h
      (refine Reach.walk ?_; (repeat (first | ((with_reducible refine AllSt.mk ?_); (try clear hS); intro w hS) | ((with_reducible refine AllVw.mk ?_); intro V hV))))
      exact ⟨rfl, (-(nn + 1)).toNat, by omega, rfl, int_eq (by omega), rfl, trivial⟩
    · have h := of_decide_eq_false h
      (refine Reach.walk ?_; (repeat (first | ((with_reducible refine AllSt.mk ?_); (try clear hS); intro w hS) | ((with_reducible refine AllVw.mk ?_); intro V hV))))
      exact ⟨rfl, nn.toNat, by omega, rfl, int_eq (by omega), rfl, trivial⟩
  rintro e w' ⟨rfl, q0, hq0, he⟩
  obtain ⟨e0, rfl⟩ := he.eq
  clear he
  dsimp only [Env.sets]
  have hq : q0 % (R.length + 1) < R.length + 1 := Nat.mod_lt _ (by omega)
  (refine Reach.walk ?_; (repeat (first | ((with_reducible refine AllSt.mk ?_); (try clear hS); intro w hS) | ((with_reducible refine AllVw.mk ?_); intro V hV))))
  generalize q0 % (R.length + 1) = q at *
  (refine Wp.drawD 6 (by kernel_rfl) (by kernel_rfl) rfl ?_; dsimp only [List.take, List.drop])
  (refine Reach.rwalk ?_; (repeat (first | ((with_reducible refine AllSt.mk ?_); (try clear hS); intro w hS) | ((with_reducible refine AllVw.mk ?_); intro V hV))))
  have htl : (R.take q).length = q := by rw [List.length_take]; omega
  refine RgD.spec0 (fun v w2 => ∃ T kt, v = .slice T q kt ∧ IsVw T q kt T 0 ∧ Rd w2 T (rv (R.take q))) rfl rfl rfl rfl (fun v w1 w2 ⟨T, kt, e1, e2, e3⟩ hb => ⟨T, kt, e1, e2, e3.below hb⟩) (fun w2 hb => ?_) ?_
  · have hrB : Rd w2 B2 (bv cs) := ((RdsV.whole (n := M) (.there .own) (by simpa using hcl)) _ _ _ (hS.below hb)).1
    (with_reducible apply WpL.call); (· exact rfl); (· exact Try.call15); (· exact Vals.found)
    refine (taken_any (l := cs) (most := (q : Int)) hB2 (by omega) (by rw [hRR]; omega) (.whole .ro (by simpa using hcl)) ((St.start w2).startRo hrB)).mono ?_
    rintro x w3 ⟨T, kt, rfl, hT, hS2⟩
    rw [htk, htl] at hT hS2 ⊢
    refine ⟨_, rfl, WpL.nil ⟨⟨hb.trans (hS2.toBelow.mono hb.size), hS2.toBelow⟩, T, kt, Env.set_same _ _ _, hT, ?_⟩⟩
    exact ((RdsV.whole (n := q * 5) .own (by rw [rv_length, htl])) _ _ _ hS2).1
  (refine Reach.rwalk ?_; (repeat (first | ((with_reducible refine AllSt.mk ?_); (try clear hS); intro w hS) | ((with_reducible refine AllVw.mk ?_); intro V hV))))
  refine RgD.fin1 fun w hb x hx => ?_
  obtain ⟨T, kt, rfl, hT, hrT⟩ := hx
  replace hS := hS.below hb
  have hrV : Rd w V (rv (R.take q)) := by
    have h1 := ((RdsV.whole (n := R.length * 5) .own (rv_length R)) _ _ _ hS).1
    by_cases hkp : kp = 0
    · have : q = 0 := by have := hP.le; omega
      rw [this]; exact .inl rfl
    · rw [hV.whole' hkp]
      rcases h1 with h1 | ⟨a, h1, h2⟩
      · have : R = [] := List.eq_nil_of_length_eq_zero (by have := congrArg List.length h1; rw [rv_length] at this; simp at this; omega)
        rw [this]; exact .inl (by simp [rv])
      · refine .inr ⟨a, h1, ?_⟩
        rw [← rv_take]
        exact h2.take _
  (refine Reach.walk ?_; (repeat (first | ((with_reducible refine AllSt.mk ?_); (try clear hS); intro w hS) | ((with_reducible refine AllVw.mk ?_); intro V hV))))
  (with_reducible apply WpL.call); (· exact rfl); (· exact Try.call14); (· exact Vals.found)
  refine (same_any (p := R.take q) (q := R.take q) htl hT (by omega) (.whole .ro (by rw [rv_length, htl])) htl hV.self (by omega) (.there (.whole .ro (by rw [rv_length, htl])) _) (((St.start w).startRo hrV).startRo hrT)).mono ?_
  rintro x w2 ⟨rfl, hS2⟩
  refine ⟨_, rfl, ?_⟩
  rw [decide_eq_true (show R.take q = R.take q from rfl)]
  (refine Reach.walk ?_; (repeat (first | ((with_reducible refine AllSt.mk ?_); (try clear hS); intro w hS) | ((with_reducible refine AllVw.mk ?_); intro V hV))))
  (with_reducible apply doneQ_one Try.results4); (· exact slotFound)
  exact ⟨rfl, (hS.below hS2.toBelow).toBelow⟩
end Go.Proofs.Ytjdkkbbmboggpaa
