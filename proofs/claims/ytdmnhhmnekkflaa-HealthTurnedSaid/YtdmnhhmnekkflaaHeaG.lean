/-
  HealthTurned: the walk.
-/
import Derived.Test.YtdmnhhmnekkflaaHeaF
namespace Go.Proofs.Ytdmnhhmnekkflaa
open Go.Fk Go.RowKit
attribute [local irreducible] Wp WpL Det thenQ blockQ
theorem ofNat_xor (a f : UInt8) : UInt8.ofNat (a.toNat ^^^ f.toNat) = a ^^^ f := by
  apply UInt8.toNat_inj.1
  rw [UInt8.toNat_xor, UInt8.toNat_ofNat', Nat.mod_eq_of_lt]
  exact Nat.xor_lt_two_pow (n := 8) (UInt8.toNat_lt a) (UInt8.toNat_lt f)

theorem healthTurned_any (A1 A2 : Option Addr) (z1 z2 : List Int) (n1 n2 c1 c2 : Nat) (at_ : Int) (bits : Nat) (hl1 : n1 ≤ z1.length) (hl2 : n2 ≤ z2.length) (hv1 : IsVw A1 n1 c1 A1 0) (hv2 : IsVw A2 n2 c2 A2 0) (hn1 : n1 ≤ 140737488355328) (hn2 : n2 ≤ 140737488355328)
    (hw2 : ∀ x ∈ z2, x ≤ 9223372036854775807) (ha : -9223372036854775808 ≤ at_ ∧ at_ ≤ 9223372036854775807) (hbits : bits < 4294967296) (W : World) (hr1 : Rd W A1 (zv z1)) (hr2 : Rd W A2 (zv z2)) :
    Calls Try.prog 7 #[.slice A1 n1 c1, .slice A2 n2 c2, .int .i64 at_, .int .u32 (bits : Int)] W fun x w' => x = .returned (.bool true) ∧ Below W.heap.size W w' := by
  have hS := ((St.start W).startRo hr1).startRo hr2
  clear hr1 hr2
  (refine calls_of (P := Try.prog) _ Try.func7 rfl Try.ntmps7 (Nat.le_of_ble_eq_true rfl) ?_; dsimp only [argE, Nat.reduceAdd])
  (refine Reach.walk ?_; (repeat (first | ((with_reducible refine AllSt.mk ?_); (try clear hS); intro w hS) | ((with_reducible refine AllVw.mk ?_); intro V hV))))
  (with_reducible apply WpL.call); (· exact rfl); (· exact Try.call8); (· exact Vals.found)
  refine (awake_any W).mono ?_
  rintro x w ⟨rfl, hb⟩
  refine ⟨_, rfl, ?_⟩
  replace hS := hS.below hb
  clear hb
  by_cases h0 : bits = 0
  · subst h0
    (refine Reach.walk ?_; (repeat (first | ((with_reducible refine AllSt.mk ?_); (try clear hS); intro w hS) | ((with_reducible refine AllVw.mk ?_); intro V hV))))
    (with_reducible apply doneQ_one Try.results7); (· exact slotFound)
    exact ⟨rfl, hS.toBelow⟩
  (refine Reach.walk ?_; (repeat (first | ((with_reducible refine AllSt.mk ?_); (try clear hS); intro w hS) | ((with_reducible refine AllVw.mk ?_); intro V hV))))
  (with_reducible apply WpL.call); (· exact rfl); (· exact Try.call9); (· exact Vals.found)
  refine (new_any _).mono ?_
  rintro x w ⟨g, rfl, hS1⟩
  refine ⟨_, rfl, ?_⟩
  replace hS := hS.back Take.nil hS1 rfl
  clear hS1
  (refine Reach.walk ?_; (repeat (first | ((with_reducible refine AllSt.mk ?_); (try clear hS); intro w hS) | ((with_reducible refine AllVw.mk ?_); intro V hV))))
  apply Wp.loopUp 50 (fun i e w' => ∃ ns, Small ns ∧ St W (feet []) w' [.blk g 66 (logC ns false), .ro A2 (zv z2), .ro A1 (zv z1)] ∧
      e.Has [(11, .int .i64 (i : Nat)), (0, .slice A1 n1 c1), (1, .slice A2 n2 c2), (2, .int .i64 at_), (3, .int .u32 bits), (10, logP g)]) (Nat.zero_le 50)
    ⟨_, Small.zero, hS, rfl, rfl, rfl, rfl, rfl, rfl, trivial⟩
  clear hS
  rintro i e w hi ⟨ns, hs, hS, he⟩
  obtain ⟨e0, rfl⟩ := he.eq
  clear he
  dsimp only [Env.sets]
  (repeat (with_reducible apply Wp.seq))
  refine Wp.cut (fun e' w' => w' = w ∧ e'.Has [(36, .bool (decide (i < n1 ∧ i < n2 ∧ i < 50))), (11, .int .i64 (i : Nat)), (0, .slice A1 n1 c1), (1, .slice A2 n2 c2), (2, .int .i64 at_), (3, .int .u32 bits), (10, logP g)]) ?_ ?_
  · have h : (¬ i < n1) ∨ (i < n1 ∧ ¬ i < n2) ∨ (i < n1 ∧ i < n2 ∧ ¬ i < 50) ∨ (i < n1 ∧ i < n2 ∧ i < 50) := by omega
    rcases h with h1 | ⟨h1, h2⟩ | ⟨h1, h2, h3⟩ | ⟨h1, h2, h3⟩
    all_goals
      (refine Reach.walk ?_; (repeat (first | ((with_reducible refine AllSt.mk ?_); (try clear hS); intro w hS) | ((with_reducible refine AllVw.mk ?_); intro V hV))))
      exact ⟨rfl, bool_eq (by first | exact decide_eq_decide.2 (by omega) | exact (decide_eq_false (by omega)).symm | exact (decide_eq_true (by omega)).symm), rfl, rfl, rfl, rfl, rfl, rfl, trivial⟩
  rintro e w' ⟨rfl, he⟩
  obtain ⟨e0, rfl⟩ := he.eq
  clear he
  dsimp only [Env.sets]
  by_cases hgo : i < n1 ∧ i < n2 ∧ i < 50
  · have ⟨h1, h2, h3⟩ := hgo
    have hx2 := getD_le (by decide) hw2 i
    (refine Reach.walk ?_; (repeat (first | ((with_reducible refine AllSt.mk ?_); (try clear hS); intro w hS) | ((with_reducible refine AllVw.mk ?_); intro V hV))))
    (refine Wp.drawD 9 (by kernel_rfl) (by kernel_rfl) rfl ?_; dsimp only [List.take, List.drop])
    (refine Reach.rwalk ?_; (repeat (first | ((with_reducible refine AllSt.mk ?_); (try clear hS); intro w hS) | ((with_reducible refine AllVw.mk ?_); intro V hV))))
    (refine RgD.fin0 fun w hb => ?_; replace hS := hS.below hb; clear hb)
    (refine Reach.walk ?_; (repeat (first | ((with_reducible refine AllSt.mk ?_); (try clear hS); intro w hS) | ((with_reducible refine AllVw.mk ?_); intro V hV))))
    (with_reducible apply WpL.call); (· exact rfl); (· exact Try.call11); (· exact Vals.found)
    refine (add_any hs _ _ hx2 hS).mono ?_
    clear hS
    rintro x w ⟨rfl, hS⟩
    refine ⟨_, rfl, ?_⟩
    have hs' := hs.add (z1.getD i 0) (z2.getD i 0)
    (refine Reach.walk ?_; (repeat (first | ((with_reducible refine AllSt.mk ?_); (try clear hS); intro w hS) | ((with_reducible refine AllVw.mk ?_); intro V hV))))
    exact ⟨h3, _, hs', hS, int_eq (by omega), rfl, rfl, rfl, rfl, rfl, trivial⟩
  · have hlen := hs.1
    have hsl : (Crc.sealed (logB ns false)).length = 89 := by rw [Crc.sealed_length, logB_length hlen]
    (refine Reach.walk ?_; (repeat (first | ((with_reducible refine AllSt.mk ?_); (try clear hS); intro w hS) | ((with_reducible refine AllVw.mk ?_); intro V hV))))
    (with_reducible apply WpL.call); (· exact rfl); (· exact Try.call16); (· exact Vals.found)
    refine (bytes_any hs hS (LogIn.blk hlen false)).mono ?_
    clear hS
    rintro x w ⟨A, c, rfl, hV, hS⟩
    refine ⟨_, rfl, ?_⟩
    (refine Reach.walk ?_; (repeat (first | ((with_reducible refine AllSt.mk ?_); (try clear hS); intro w hS) | ((with_reducible refine AllVw.mk ?_); intro V hV))))
    refine Wp.cut (fun e' w' => w' = w ∧ ∃ a : Nat, a ≤ 9223372036854775807 ∧ e'.Has [(2, .int .i64 (a : Nat)), (3, .int .u32 bits), (12, .slice A 89 c)]) ?_ ?_
    · refine Wp.cond _ rfl (fun h => ?_) (fun h => ?_)
      · have h := of_decide_eq_true h
        (refine Reach.walk ?_; (repeat (first | ((with_reducible refine AllSt.mk ?_); (try clear hS); intro w hS) | ((with_reducible refine AllVw.mk ?_); intro V hV))))
        exact ⟨rfl, (-(at_ + 1)).toNat, by omega, int_eq (by omega), rfl, rfl, trivial⟩
      · have h := of_decide_eq_false h
        (refine Reach.walk ?_; (repeat (first | ((with_reducible refine AllSt.mk ?_); (try clear hS); intro w hS) | ((with_reducible refine AllVw.mk ?_); intro V hV))))
        exact ⟨rfl, at_.toNat, by omega, int_eq (by omega), rfl, rfl, trivial⟩
    rintro e w' ⟨rfl, a, ha', he⟩
    obtain ⟨e0, rfl⟩ := he.eq
    clear he
    dsimp only [Env.sets]
    clear ha at_
    have hd : a % 681 < 681 := Nat.mod_lt _ (by omega)
    (refine Reach.walk ?_; (repeat (first | ((with_reducible refine AllSt.mk ?_); (try clear hS); intro w hS) | ((with_reducible refine AllVw.mk ?_); intro V hV))))
    generalize a % 681 = d at *
    apply Wp.loopUp 32 (fun i e w' => ∃ cs, Crc.Turned (Crc.sealed (logB ns false)) cs bits d i ∧ St W (feet []) w' (.own A 89 c 5 1 (bv cs) :: [.blk g 66 (logC ns false), .ro A2 (zv z2), .ro A1 (zv z1)]) ∧
        e.Has [(13, .int .i64 (i : Nat)), (2, .int .i64 (d : Nat)), (3, .int .u32 bits), (12, .slice A 89 c)]) (Nat.zero_le _)
      ⟨_, Crc.Turned.zero _ _ _, hS, rfl, rfl, rfl, rfl, trivial⟩
    clear hS
    rintro i e w hi ⟨cs, ht, hS, he⟩
    obtain ⟨e0, rfl⟩ := he.eq
    clear he
    dsimp only [Env.sets]
    have hcs : cs.length = 89 := ht.1.trans hsl
    by_cases hlt : i < 32
    · have hand := Crc.bit_and bits i
      (refine Reach.walk ?_; (repeat (first | ((with_reducible refine AllSt.mk ?_); (try clear hS); intro w hS) | ((with_reducible refine AllVw.mk ?_); intro V hV))))
      cases hb : bits.testBit i with
      | false =>
        rw [hb] at hand
        simp only [Bool.false_eq_true, if_false] at hand
        (refine Reach.walk ?_; (repeat (first | ((with_reducible refine AllSt.mk ?_); (try clear hS); intro w hS) | ((with_reducible refine AllVw.mk ?_); intro V hV))))
        exact ⟨hlt, cs, ht.skip hb, hS, int_eq (by omega), rfl, rfl, rfl, trivial⟩
      | true =>
        rw [hb] at hand
        simp only [if_true] at hand
        have hj : (d + i) / 8 < cs.length := by omega
        have hsh : 1 <<< ((d + i) % 8) < 256 := by
          have : (d + i) % 8 < 8 := Nat.mod_lt _ (by decide)
          rw [Nat.shiftLeft_eq, Nat.one_mul]
          exact Nat.lt_of_lt_of_le (Nat.pow_lt_pow_right (by decide) this) (by decide)
        have hb8 := byte_lt cs ((d + i) / 8)
        have hx8 : (cs.getD ((d + i) / 8) 0).toNat ^^^ 1 <<< ((d + i) % 8) < 256 := Nat.xor_lt_two_pow (n := 8) hb8 hsh
        have hf : (UInt8.ofNat (1 <<< ((d + i) % 8))).toNat = 1 <<< ((d + i) % 8) := by rw [UInt8.toNat_ofNat']; exact Nat.mod_eq_of_lt hsh
        have hflip := ht.flip hb (Nat.mod_lt _ (by decide)) (Nat.div_add_mod _ 8) hj (f := UInt8.ofNat (1 <<< ((d + i) % 8))) (by rw [hf, Nat.shiftLeft_eq, Nat.one_mul])
        have hget : cs[(d + i) / 8]'hj = cs.getD ((d + i) / 8) 0 := by rw [List.getD_eq_getElem?_getD, List.getElem?_eq_getElem hj]; rfl
        rw [hget, ← ofNat_xor, hf] at hflip
        (refine Reach.walk ?_; (repeat (first | ((with_reducible refine AllSt.mk ?_); (try clear hS); intro w hS) | ((with_reducible refine AllVw.mk ?_); intro V hV))))
        exact ⟨hlt, _, hflip, hS, int_eq (by omega), rfl, rfl, rfl, trivial⟩
    · obtain rfl : i = 32 := by omega
      have hbad : ¬ Crc.good cs := Crc.turned_bad ht.1 hbits h0 (by rw [hcs]; omega) (ht.all hbits)
      have hE : parseE cs = 30 := by rw [parseE, if_neg hbad]
      (refine Reach.walk ?_; (repeat (first | ((with_reducible refine AllSt.mk ?_); (try clear hS); intro w hS) | ((with_reducible refine AllVw.mk ?_); intro V hV))))
      (with_reducible apply WpL.call); (· exact rfl); (· exact Try.call21); (· exact Vals.found)
      refine (parse_any hcs hS RdsV.found hV.le (by decide)).mono ?_
      clear hS
      rintro x w (⟨h, _⟩ | ⟨_, rfl, hS⟩)
      · rw [hE] at h; cases h
      rw [hE]
      refine ⟨_, rfl, ?_⟩
      (refine Reach.walk ?_; (repeat (first | ((with_reducible refine AllSt.mk ?_); (try clear hS); intro w hS) | ((with_reducible refine AllVw.mk ?_); intro V hV))))
      (with_reducible apply doneQ_one Try.results7); (· exact slotFound)
      exact ⟨rfl, hS.toBelow⟩
end Go.Proofs.Ytdmnhhmnekkflaa
