/-
  RecordTurned: a record with bits turned side by side is none.
-/
import Derived.Test.YtjdkkbbmboggpaaRecF
import Derived.Test.YtjdkkbbmboggpaaCrcM
namespace Go.Proofs.Ytjdkkbbmboggpaa
open Go.Fk Go.RowKit
attribute [local irreducible] Wp WpL Det thenQ blockQ
theorem ofNat_xor (a f : UInt8) : UInt8.ofNat (a.toNat ^^^ f.toNat) = a ^^^ f := by
  apply UInt8.toNat_inj.1
  rw [UInt8.toNat_xor, UInt8.toNat_ofNat', Nat.mod_eq_of_lt]
  exact Nat.xor_lt_two_pow (n := 8) (UInt8.toNat_lt a) (UInt8.toNat_lt f)
set_option maxHeartbeats 2000000 in
theorem recordTurned_any (r : Rec) (hf : r.Fits) (hk : -9223372036854775808 ≤ r.kind ∧ r.kind ≤ 9223372036854775807) (at_ : Int) (bits : Nat) (ha : -9223372036854775808 ≤ at_ ∧ at_ ≤ 9223372036854775807) (hbits : bits < 4294967296) (W : World) :
    Calls Try.prog 6 #[.agg r.cells.toArray, .int .i64 at_, .int .u32 (bits : Int)] W fun x w' => x = .returned (.bool true) ∧ Below W.heap.size W w' := by
  have hS := St.start W
  obtain ⟨kind, seq, a1, b1, c1⟩ := r
  obtain ⟨hf1, hf2, hf3, hf4⟩ := hf
  dsimp only [Rec.cells] at *
  (refine calls_of (P := Try.prog) _ Try.func6 rfl Try.ntmps6 (Nat.le_of_ble_eq_true rfl) ?_; dsimp only [argE, Nat.reduceAdd])
  (refine Reach.walk ?_; (repeat (first | ((with_reducible refine AllSt.mk ?_); (try clear hS); intro w hS) | ((with_reducible refine AllVw.mk ?_); intro V hV))))
  ((with_reducible apply WpL.bx); (· assumption); (· exact rfl); (· exact Env.found); (· exact rfl); clear hS)
  intro g w hS
  (refine Reach.walk ?_; (repeat (first | ((with_reducible refine AllSt.mk ?_); (try clear hS); intro w hS) | ((with_reducible refine AllVw.mk ?_); intro V hV))))
  (with_reducible apply WpL.call); (· exact rfl); (· exact Try.call7); (· exact Vals.found)
  refine (awake_any w).mono ?_
  rintro x w1 ⟨rfl, hb⟩
  refine ⟨_, rfl, ?_⟩
  replace hS := hS.below hb
  clear hb
  by_cases h0 : bits = 0
  · subst h0
    (refine Reach.walk ?_; (repeat (first | ((with_reducible refine AllSt.mk ?_); (try clear hS); intro w hS) | ((with_reducible refine AllVw.mk ?_); intro V hV))))
    (with_reducible apply doneQ_one Try.results6); (· exact slotFound)
    exact ⟨rfl, hS.tail.toBelow⟩
  (refine Reach.walk ?_; (repeat (first | ((with_reducible refine AllSt.mk ?_); (try clear hS); intro w hS) | ((with_reducible refine AllVw.mk ?_); intro V hV))))
  refine Wp.cut (fun e' w' => ∃ kk : Nat, kk ≤ 9223372036854775807 ∧ St W (feet []) w' [.blk g 24 [.int .i64 (kk : Int), .int .u64 (seq : Int), .int .u64 (a1 : Int), .int .u64 (b1 : Int), .int .u64 (c1 : Int)]] ∧ e'.Has [(3, .pointer (some ⟨g, 0, none⟩)), (1, .int .i64 at_), (2, .int .u32 bits)]) ?_ ?_
  · by_cases hneg : kind < 0
    · (refine Reach.walk ?_; (repeat (first | ((with_reducible refine AllSt.mk ?_); (try clear hS); intro w hS) | ((with_reducible refine AllVw.mk ?_); intro V hV))))
      have e1 : -(kind + 1) = ((-(kind + 1)).toNat : Int) := by omega
      rw [e1] at hS
      exact ⟨_, by omega, hS, rfl, rfl, rfl, trivial⟩
    · (refine Reach.walk ?_; (repeat (first | ((with_reducible refine AllSt.mk ?_); (try clear hS); intro w hS) | ((with_reducible refine AllVw.mk ?_); intro V hV))))
      have e1 : kind = (kind.toNat : Int) := by omega
      rw [e1] at hS
      exact ⟨_, by omega, hS, rfl, rfl, rfl, trivial⟩
  clear hS
  rintro e w ⟨kk, hkk, hS, he⟩
  obtain ⟨e0, rfl⟩ := he.eq
  clear he
  dsimp only [Env.sets]
  have hk4 : kk % 4 < 4 := Nat.mod_lt _ (by decide)
  (refine Reach.walk ?_; (repeat (first | ((with_reducible refine AllSt.mk ?_); (try clear hS); intro w hS) | ((with_reducible refine AllVw.mk ?_); intro V hV))))
  generalize kk % 4 = k4 at *
  have hok : Rec.ok ⟨((1 + k4 : Nat) : Int), seq, a1, b1, c1⟩ := ⟨by show (1 : Int) ≤ ((1 + k4 : Nat) : Int); omega, by show ((1 + k4 : Nat) : Int) ≤ 4; omega⟩
  have hcall := recBytesF (w0 := W) (M := feet []) (w := w) ⟨((1 + k4 : Nat) : Int), seq, a1, b1, c1⟩ ⟨hf1, hf2, hf3, hf4⟩ hS
  have hN : recN ⟨((1 + k4 : Nat) : Int), seq, a1, b1, c1⟩ = 37 := if_pos hok
  have hE : recE ⟨((1 + k4 : Nat) : Int), seq, a1, b1, c1⟩ = 0 := if_pos hok
  have hL : recL ⟨((1 + k4 : Nat) : Int), seq, a1, b1, c1⟩ = Crc.sealed (Rec.plain ⟨((1 + k4 : Nat) : Int), seq, a1, b1, c1⟩) := if_pos hok
  rw [hN, hE, hL] at hcall
  have hsl : (Crc.sealed (Rec.plain ⟨((1 + k4 : Nat) : Int), seq, a1, b1, c1⟩)).length = 37 := Rec.bytes_length _
  clear hN hE hL hok
  generalize Rec.plain ⟨((1 + k4 : Nat) : Int), seq, a1, b1, c1⟩ = p0 at *
  (with_reducible apply WpL.call); (· exact rfl); (· exact Try.call8); (· exact Vals.found)
  refine hcall.mono ?_
  clear hS hcall
  rintro x w ⟨A, c, rfl, hV, hS⟩
  refine ⟨_, rfl, ?_⟩
  (refine Reach.walk ?_; (repeat (first | ((with_reducible refine AllSt.mk ?_); (try clear hS); intro w hS) | ((with_reducible refine AllVw.mk ?_); intro V hV))))
  refine Wp.cut (fun e' w' => w' = w ∧ ∃ a : Nat, a ≤ 9223372036854775807 ∧ e'.Has [(1, .int .i64 (a : Nat)), (2, .int .u32 bits), (8, .slice A 37 c)]) ?_ ?_
  · refine Wp.cond _ rfl (fun h => ?_) (fun h => ?_)
    · have h := of_decide_eq_true h
      (refine Reach.walk ?_; (repeat (first | ((with_reducible refine AllSt.mk ?_); (try clear hS); intro w hS) | ((with_reducible refine AllVw.mk ?_); intro V hV))))
      exact ⟨rfl, (-(at_ + 1)).toNat, by omega, int_eq (by omega), rfl, rfl, trivial⟩
    · have h := of_decide_eq_false h
      (refine Reach.walk ?_; (repeat (first | ((with_reducible refine AllSt.mk ?_); (try clear hS); intro w hS) | ((with_reducible refine AllVw.mk ?_); intro V hV))))
      exact ⟨rfl, at_.toNat, by omega, int_eq (by omega), rfl, rfl, trivial⟩
  rintro e w' ⟨rfl, a, ha', he⟩
  obtain ⟨e0, rfl⟩ := he.eq
  clear he
  dsimp only [Env.sets]
  clear ha at_
  have hd : a % 265 < 265 := Nat.mod_lt _ (by omega)
  (refine Reach.walk ?_; (repeat (first | ((with_reducible refine AllSt.mk ?_); (try clear hS); intro w hS) | ((with_reducible refine AllVw.mk ?_); intro V hV))))
  generalize a % 265 = d at *
  apply Wp.loopUp 32 (fun i e w' => ∃ cs, Crc.Turned (Crc.sealed p0) cs bits d i ∧ (∃ L, St W (feet []) w' (.own A 37 c 5 1 (bv cs) :: L)) ∧
      e.Has [(10, .int .i64 (i : Nat)), (1, .int .i64 (d : Nat)), (2, .int .u32 bits), (8, .slice A 37 c)]) (Nat.zero_le _)
    ⟨_, Crc.Turned.zero _ _ _, ⟨_, hS⟩, rfl, rfl, rfl, rfl, trivial⟩
  clear hS
  rintro i e w hi ⟨cs, ht, ⟨L, hS⟩, he⟩
  obtain ⟨e0, rfl⟩ := he.eq
  clear he
  dsimp only [Env.sets]
  have hcs : cs.length = 37 := ht.1.trans hsl
  by_cases hlt : i < 32
  · have hand := Crc.bit_and bits i
    (refine Reach.walk ?_; (repeat (first | ((with_reducible refine AllSt.mk ?_); (try clear hS); intro w hS) | ((with_reducible refine AllVw.mk ?_); intro V hV))))
    cases hb : bits.testBit i with
    | false =>
      rw [hb] at hand
      simp only [Bool.false_eq_true, if_false] at hand
      (refine Reach.walk ?_; (repeat (first | ((with_reducible refine AllSt.mk ?_); (try clear hS); intro w hS) | ((with_reducible refine AllVw.mk ?_); intro V hV))))
      exact ⟨hlt, cs, ht.skip hb, ⟨_, hS⟩, int_eq (by omega), rfl, rfl, rfl, trivial⟩
    | true =>
      rw [hb] at hand
      simp only [if_true] at hand
      have hj : (d + i) / 8 < cs.length := by omega
      have hsh : 1 <<< ((d + i) % 8) < 256 := by
        have : (d + i) % 8 < 8 := Nat.mod_lt _ (by decide)
        rw [Nat.shiftLeft_eq, Nat.one_mul]
        exact Nat.lt_of_lt_of_le (Nat.pow_lt_pow_right (by decide) this) (by decide)
      have hb8 := byte_lt cs ((d + i) / 8)
      have hx8 : (cs.getD ((d + i) / 8) 0).toNat ^^^ 1 <<< ((d + i) % 8) < 256 := Nat.xor_lt_two_pow (n := 8) hb8 hsh
      have hf : (UInt8.ofNat (1 <<< ((d + i) % 8))).toNat = 1 <<< ((d + i) % 8) := by rw [UInt8.toNat_ofNat']; exact Nat.mod_eq_of_lt hsh
      have hflip := ht.flip hb (Nat.mod_lt _ (by decide)) (Nat.div_add_mod _ 8) hj (f := UInt8.ofNat (1 <<< ((d + i) % 8))) (by rw [hf, Nat.shiftLeft_eq, Nat.one_mul])
      have hget : cs[(d + i) / 8]'hj = cs.getD ((d + i) / 8) 0 := by rw [List.getD_eq_getElem?_getD, List.getElem?_eq_getElem hj]; rfl
      rw [hget, ← ofNat_xor, hf] at hflip
      (refine Reach.walk ?_; (repeat (first | ((with_reducible refine AllSt.mk ?_); (try clear hS); intro w hS) | ((with_reducible refine AllVw.mk ?_); intro V hV))))
      exact ⟨hlt, _, hflip, ⟨_, hS⟩, int_eq (by omega), rfl, rfl, rfl, trivial⟩
  · obtain rfl : i = 32 := by omega
    have hbad : ¬ Crc.good cs := Crc.turned_bad ht.1 hbits h0 (by rw [hcs]; omega) (ht.all hbits)
    have hP : parseR cs = (.zero, 30) := by
      unfold parseR
      rw [if_neg (by omega), List.take_of_length_le (by omega), if_neg hbad]
    have hR : recsG none cs = [] := recsG_stop (fun h => by rw [hP] at h; exact absurd h.1 (by decide))
    (refine Reach.walk ?_; (repeat (first | ((with_reducible refine AllSt.mk ?_); (try clear hS); intro w hS) | ((with_reducible refine AllVw.mk ?_); intro V hV))))
    (with_reducible apply WpL.call); (· exact rfl); (· exact Try.call11); (· exact Vals.found)
    refine (parse_any hS RdsV.found hV (by decide)).mono ?_
    clear hS
    rintro x w ⟨rfl, hS⟩
    refine ⟨_, rfl, ?_⟩
    rw [hP]
    (refine Reach.walk ?_; (repeat (first | ((with_reducible refine AllSt.mk ?_); (try clear hS); intro w hS) | ((with_reducible refine AllVw.mk ?_); intro V hV))))
    ((with_reducible apply WpL.al); (· assumption); (· exact rfl); (· exact rfl); clear hS)
    intro gx w hS
    (refine Reach.walk ?_; (repeat (first | ((with_reducible refine AllSt.mk ?_); (try clear hS); intro w hS) | ((with_reducible refine AllVw.mk ?_); intro V hV))))
    (with_reducible apply WpL.call); (· exact rfl); (· exact Try.call15); (· exact Vals.found)
    refine (taken_any (l := cs) (most := -1) hV (by decide) (by rw [hR]; decide) (.there (.whole .own (by simpa using hcs)) _) hS).mono ?_
    clear hS
    rintro x w ⟨A2, k2, rfl, hA2, hS⟩
    refine ⟨_, rfl, ?_⟩
    have hT : takenR cs (-1) = [] := by unfold takenR; rw [if_pos (by decide), hR]
    rw [hT] at *
    (refine Reach.walk ?_; (repeat (first | ((with_reducible refine AllSt.mk ?_); (try clear hS); intro w hS) | ((with_reducible refine AllVw.mk ?_); intro V hV))))
    (with_reducible apply doneQ_one Try.results6); (· exact slotFound)
    exact ⟨rfl, (hS.sub (List.nil_sublist _)).toBelow⟩
end Go.Proofs.Ytjdkkbbmboggpaa
