/-
  CrcTurned: the walk.
-/
import Derived.Test.YtnbbkhabeihckaaCrcD
import Derived.Test.YtnbbkhabeihckaaCrcM
import Derived.Test.YtnbbkhabeihckaaCrcF
namespace Go.Proofs.Ytnbbkhabeihckaa
open Go.Fk Go.RowKit
attribute [local irreducible] Wp WpL Det thenQ blockQ

theorem crcTurned_any (A : Option Addr) (l : List UInt8) (n c : Nat) (at_ : Int) (bits : Nat) (hn : l.length = n) (hc : n ≤ c) (hlen : n + 4 ≤ 140737488355328) (ha : -9223372036854775808 ≤ at_ ∧ at_ ≤ 9223372036854775807) (hbits : bits < 4294967296) (w : World) (hr : Rd w A (bv l)) :
    Calls Try.prog 9 #[.slice A n c, .int .i64 at_, .int .u32 (bits : Int)] w fun x w' => x = .returned (.bool true) ∧ Below w.heap.size w w' := by
  have hm : n ≤ maxLen := by simp only [maxLen]; omega
  (refine calls_of (P := Try.prog) _ Try.func9 rfl Try.ntmps9 (Nat.le_of_ble_eq_true rfl) ?_; dsimp only [argE, Nat.reduceAdd])
  repeat (first | ((with_reducible apply WpL.det); (· exact rfl); (· exact Det.found)) | ((with_reducible apply WpL.nilN)) | ((with_reducible apply WpL.nil)) | ((with_reducible apply Wp.seq)) | ((with_reducible apply Wp.region)) | ((with_reducible apply thenQ_normal)) | ((with_reducible apply Wp.block)) | ((with_reducible apply Wp.skip)) | ((with_reducible apply Wp.ret)) | ((with_reducible apply Wp.exit)) | ((with_reducible apply thenQ_exit)) | ((with_reducible apply thenQ_ret)) | ((with_reducible apply blockQ_normal)) | ((with_reducible apply blockQ_ret)) | ((with_reducible apply blockQ_same)) | ((with_reducible apply blockQ_other); (· exact rfl)) | ((with_reducible apply WpL.detG); (· exact rfl); (· exact rfl); (· exact boolFound); (· exact rfl); (· exact Det.found)) | ((with_reducible apply WpL.skipG); (· exact rfl); (· exact rfl); (· exact boolFound); (· exact rfl)) | ((with_reducible apply Wp.condT); (· exact rfl); (· exact boolFound)) | ((with_reducible apply Wp.condF); (· exact rfl); (· exact boolFound)))
  (with_reducible apply WpL.call); (· exact rfl); (· exact Try.call10); (· exact Vals.found)
  refine (awake_any w).mono ?_
  rintro x w1 ⟨rfl, hb1⟩
  refine ⟨_, rfl, ?_⟩
  by_cases h0 : bits = 0
  · subst h0
    repeat (first | ((with_reducible apply WpL.det); (· exact rfl); (· exact Det.found)) | ((with_reducible apply WpL.nilN)) | ((with_reducible apply WpL.nil)) | ((with_reducible apply Wp.seq)) | ((with_reducible apply Wp.region)) | ((with_reducible apply thenQ_normal)) | ((with_reducible apply Wp.block)) | ((with_reducible apply Wp.skip)) | ((with_reducible apply Wp.ret)) | ((with_reducible apply Wp.exit)) | ((with_reducible apply thenQ_exit)) | ((with_reducible apply thenQ_ret)) | ((with_reducible apply blockQ_normal)) | ((with_reducible apply blockQ_ret)) | ((with_reducible apply blockQ_same)) | ((with_reducible apply blockQ_other); (· exact rfl)) | ((with_reducible apply WpL.detG); (· exact rfl); (· exact rfl); (· exact boolFound); (· exact rfl); (· exact Det.found)) | ((with_reducible apply WpL.skipG); (· exact rfl); (· exact rfl); (· exact boolFound); (· exact rfl)) | ((with_reducible apply Wp.condT); (· exact rfl); (· exact boolFound)) | ((with_reducible apply Wp.condF); (· exact rfl); (· exact boolFound)))
    (with_reducible apply doneQ_one Try.results9); (· exact slotFound)
    exact ⟨rfl, hb1⟩
  by_cases h5 : 500 < n
  · repeat (first | ((with_reducible apply WpL.det); (· exact rfl); (· exact Det.found)) | ((with_reducible apply WpL.nilN)) | ((with_reducible apply WpL.nil)) | ((with_reducible apply Wp.seq)) | ((with_reducible apply Wp.region)) | ((with_reducible apply thenQ_normal)) | ((with_reducible apply Wp.block)) | ((with_reducible apply Wp.skip)) | ((with_reducible apply Wp.ret)) | ((with_reducible apply Wp.exit)) | ((with_reducible apply thenQ_exit)) | ((with_reducible apply thenQ_ret)) | ((with_reducible apply blockQ_normal)) | ((with_reducible apply blockQ_ret)) | ((with_reducible apply blockQ_same)) | ((with_reducible apply blockQ_other); (· exact rfl)) | ((with_reducible apply WpL.detG); (· exact rfl); (· exact rfl); (· exact boolFound); (· exact rfl); (· exact Det.found)) | ((with_reducible apply WpL.skipG); (· exact rfl); (· exact rfl); (· exact boolFound); (· exact rfl)) | ((with_reducible apply Wp.condT); (· exact rfl); (· exact boolFound)) | ((with_reducible apply Wp.condF); (· exact rfl); (· exact boolFound)))
    (with_reducible apply doneQ_one Try.results9); (· exact slotFound)
    exact ⟨rfl, hb1⟩
  repeat (first | ((with_reducible apply WpL.det); (· exact rfl); (· exact Det.found)) | ((with_reducible apply WpL.nilN)) | ((with_reducible apply WpL.nil)) | ((with_reducible apply Wp.seq)) | ((with_reducible apply Wp.region)) | ((with_reducible apply thenQ_normal)) | ((with_reducible apply Wp.block)) | ((with_reducible apply Wp.skip)) | ((with_reducible apply Wp.ret)) | ((with_reducible apply Wp.exit)) | ((with_reducible apply thenQ_exit)) | ((with_reducible apply thenQ_ret)) | ((with_reducible apply blockQ_normal)) | ((with_reducible apply blockQ_ret)) | ((with_reducible apply blockQ_same)) | ((with_reducible apply blockQ_other); (· exact rfl)) | ((with_reducible apply WpL.detG); (· exact rfl); (· exact rfl); (· exact boolFound); (· exact rfl); (· exact Det.found)) | ((with_reducible apply WpL.skipG); (· exact rfl); (· exact rfl); (· exact boolFound); (· exact rfl)) | ((with_reducible apply Wp.condT); (· exact rfl); (· exact boolFound)) | ((with_reducible apply Wp.condF); (· exact rfl); (· exact boolFound)))
  (with_reducible apply WpL.call); (· exact rfl); (· exact Try.call15); (· exact Vals.found)
  refine (seal_any A l n c hn hlen w1 (hr.below hb1)).mono ?_
  rintro x w2 ⟨v2, rfl, hv2, hb2⟩
  refine ⟨_, rfl, ?_⟩
  replace hb2 := hb1.on hb2
  have hsl : (Crc.sealed l).length = n + 4 := by rw [Crc.sealed_length, hn]
  obtain ⟨g, c2, hv2e, hg1, hg2, hc2, hcm⟩ := hv2.block (by omega)
  rw [hsl] at hv2e hc2
  subst hv2e
  repeat (first | ((with_reducible apply WpL.det); (· exact rfl); (· exact Det.found)) | ((with_reducible apply WpL.nilN)) | ((with_reducible apply WpL.nil)) | ((with_reducible apply Wp.seq)) | ((with_reducible apply Wp.region)) | ((with_reducible apply thenQ_normal)) | ((with_reducible apply Wp.block)) | ((with_reducible apply Wp.skip)) | ((with_reducible apply Wp.ret)) | ((with_reducible apply Wp.exit)) | ((with_reducible apply thenQ_exit)) | ((with_reducible apply thenQ_ret)) | ((with_reducible apply blockQ_normal)) | ((with_reducible apply blockQ_ret)) | ((with_reducible apply blockQ_same)) | ((with_reducible apply blockQ_other); (· exact rfl)) | ((with_reducible apply WpL.detG); (· exact rfl); (· exact rfl); (· exact boolFound); (· exact rfl); (· exact Det.found)) | ((with_reducible apply WpL.skipG); (· exact rfl); (· exact rfl); (· exact boolFound); (· exact rfl)) | ((with_reducible apply Wp.condT); (· exact rfl); (· exact boolFound)) | ((with_reducible apply Wp.condF); (· exact rfl); (· exact boolFound)))
  apply Wp.cut (fun e w' => w2 = w' ∧ ∃ a : Nat, a ≤ 9223372036854775807 ∧ e.Has [(1, .int .i64 (a : Nat)), (0, .slice A n c), (2, .int .u32 bits), (8, .slice (some ⟨g, 0, none⟩) (n + 4 : Nat) c2)])
  · refine Wp.cond _ rfl (fun h => ?_) (fun h => ?_)
    · have h := of_decide_eq_true h
      repeat (first | ((with_reducible apply WpL.det); (· exact rfl); (· exact Det.found)) | ((with_reducible apply WpL.nilN)) | ((with_reducible apply WpL.nil)) | ((with_reducible apply Wp.seq)) | ((with_reducible apply Wp.region)) | ((with_reducible apply thenQ_normal)) | ((with_reducible apply Wp.block)) | ((with_reducible apply Wp.skip)) | ((with_reducible apply Wp.ret)) | ((with_reducible apply Wp.exit)) | ((with_reducible apply thenQ_exit)) | ((with_reducible apply thenQ_ret)) | ((with_reducible apply blockQ_normal)) | ((with_reducible apply blockQ_ret)) | ((with_reducible apply blockQ_same)) | ((with_reducible apply blockQ_other); (· exact rfl)) | ((with_reducible apply WpL.detG); (· exact rfl); (· exact rfl); (· exact boolFound); (· exact rfl); (· exact Det.found)) | ((with_reducible apply WpL.skipG); (· exact rfl); (· exact rfl); (· exact boolFound); (· exact rfl)) | ((with_reducible apply Wp.condT); (· exact rfl); (· exact boolFound)) | ((with_reducible apply Wp.condF); (· exact rfl); (· exact boolFound)))
      exact ⟨rfl, (-(at_ + 1)).toNat, by omega, int_eq (by omega), rfl, rfl, rfl, trivial⟩
    · have h := of_decide_eq_false h
      repeat (first | ((with_reducible apply WpL.det); (· exact rfl); (· exact Det.found)) | ((with_reducible apply WpL.nilN)) | ((with_reducible apply WpL.nil)) | ((with_reducible apply Wp.seq)) | ((with_reducible apply Wp.region)) | ((with_reducible apply thenQ_normal)) | ((with_reducible apply Wp.block)) | ((with_reducible apply Wp.skip)) | ((with_reducible apply Wp.ret)) | ((with_reducible apply Wp.exit)) | ((with_reducible apply thenQ_exit)) | ((with_reducible apply thenQ_ret)) | ((with_reducible apply blockQ_normal)) | ((with_reducible apply blockQ_ret)) | ((with_reducible apply blockQ_same)) | ((with_reducible apply blockQ_other); (· exact rfl)) | ((with_reducible apply WpL.detG); (· exact rfl); (· exact rfl); (· exact boolFound); (· exact rfl); (· exact Det.found)) | ((with_reducible apply WpL.skipG); (· exact rfl); (· exact rfl); (· exact boolFound); (· exact rfl)) | ((with_reducible apply Wp.condT); (· exact rfl); (· exact boolFound)) | ((with_reducible apply Wp.condF); (· exact rfl); (· exact boolFound)))
      exact ⟨rfl, at_.toNat, by omega, int_eq (by omega), rfl, rfl, rfl, trivial⟩
  rintro e w' ⟨rfl, a, ha', he⟩
  obtain ⟨e0, rfl⟩ := he.eq
  clear he
  dsimp only [Env.sets]
  clear ha at_
  have h31 : 8 * ((n + 4 : Nat) : Int) - 31 = ((8 * (n + 4) - 31 : Nat) : Int) := by omega
  have hd : a % (8 * (n + 4) - 31) < 8 * (n + 4) - 31 := Nat.mod_lt _ (by omega)
  repeat (first | ((with_reducible apply WpL.det); (· exact rfl); (· exact Det.found)) | ((with_reducible apply WpL.nilN)) | ((with_reducible apply WpL.nil)) | ((with_reducible apply Wp.seq)) | ((with_reducible apply Wp.region)) | ((with_reducible apply thenQ_normal)) | ((with_reducible apply Wp.block)) | ((with_reducible apply Wp.skip)) | ((with_reducible apply Wp.ret)) | ((with_reducible apply Wp.exit)) | ((with_reducible apply thenQ_exit)) | ((with_reducible apply thenQ_ret)) | ((with_reducible apply blockQ_normal)) | ((with_reducible apply blockQ_ret)) | ((with_reducible apply blockQ_same)) | ((with_reducible apply blockQ_other); (· exact rfl)) | ((with_reducible apply WpL.detG); (· exact rfl); (· exact rfl); (· exact boolFound); (· exact rfl); (· exact Det.found)) | ((with_reducible apply WpL.skipG); (· exact rfl); (· exact rfl); (· exact boolFound); (· exact rfl)) | ((with_reducible apply Wp.condT); (· exact rfl); (· exact boolFound)) | ((with_reducible apply Wp.condF); (· exact rfl); (· exact boolFound)))
  rw [h31, ← Int.natCast_emod]
  generalize a % (8 * (n + 4) - 31) = d at *
  apply Wp.loopUp 32 (fun i e w' => Below w.heap.size w w' ∧ (∃ cs, SlB w' w1.heap.size 5 (.slice (some ⟨g, 0, none⟩) (n + 4) c2) cs ∧ Crc.Turned (Crc.sealed l) cs bits d i) ∧
      e.Has [(9, .int .i64 (i : Nat)), (1, .int .i64 d), (2, .int .u32 bits), (8, .slice (some ⟨g, 0, none⟩) (n + 4 : Nat) c2)]) (Nat.zero_le _)
    ⟨hb2, ⟨_, hv2, Crc.Turned.zero _ _ _⟩, rfl, rfl, rfl, rfl, trivial⟩
  clear hv2 hb2 hg2 e0
  rintro i e w4 hi ⟨hb4, ⟨cs, hv4, ht⟩, he⟩
  obtain ⟨e0, rfl⟩ := he.eq
  clear he
  dsimp only [Env.sets]
  have hcs : cs.length = n + 4 := ht.1.trans hsl
  obtain ⟨A4, c4, he4, -, -, -, hr4⟩ := hv4.form
  injection he4 with he1 he2 he3
  subst he1
  by_cases hlt : i < 32
  · have hk : (d : Int) + (i : Int) = ((d + i : Nat) : Int) := by omega
    have hand := Crc.bit_and bits i
    repeat (first | ((with_reducible apply WpL.det); (· exact rfl); (· exact Det.found)) | ((with_reducible apply WpL.nilN)) | ((with_reducible apply WpL.nil)) | ((with_reducible apply Wp.seq)) | ((with_reducible apply Wp.region)) | ((with_reducible apply thenQ_normal)) | ((with_reducible apply Wp.block)) | ((with_reducible apply Wp.skip)) | ((with_reducible apply Wp.ret)) | ((with_reducible apply Wp.exit)) | ((with_reducible apply thenQ_exit)) | ((with_reducible apply thenQ_ret)) | ((with_reducible apply blockQ_normal)) | ((with_reducible apply blockQ_ret)) | ((with_reducible apply blockQ_same)) | ((with_reducible apply blockQ_other); (· exact rfl)) | ((with_reducible apply WpL.detG); (· exact rfl); (· exact rfl); (· exact boolFound); (· exact rfl); (· exact Det.found)) | ((with_reducible apply WpL.skipG); (· exact rfl); (· exact rfl); (· exact boolFound); (· exact rfl)) | ((with_reducible apply Wp.condT); (· exact rfl); (· exact boolFound)) | ((with_reducible apply Wp.condF); (· exact rfl); (· exact boolFound)))
    rw [hk]
    cases hb : bits.testBit i with
    | false =>
      rw [hb] at hand
      simp only [Bool.false_eq_true, if_false] at hand
      repeat (first | ((with_reducible apply WpL.det); (· exact rfl); (· exact Det.found)) | ((with_reducible apply WpL.nilN)) | ((with_reducible apply WpL.nil)) | ((with_reducible apply Wp.seq)) | ((with_reducible apply Wp.region)) | ((with_reducible apply thenQ_normal)) | ((with_reducible apply Wp.block)) | ((with_reducible apply Wp.skip)) | ((with_reducible apply Wp.ret)) | ((with_reducible apply Wp.exit)) | ((with_reducible apply thenQ_exit)) | ((with_reducible apply thenQ_ret)) | ((with_reducible apply blockQ_normal)) | ((with_reducible apply blockQ_ret)) | ((with_reducible apply blockQ_same)) | ((with_reducible apply blockQ_other); (· exact rfl)) | ((with_reducible apply WpL.detG); (· exact rfl); (· exact rfl); (· exact boolFound); (· exact rfl); (· exact Det.found)) | ((with_reducible apply WpL.skipG); (· exact rfl); (· exact rfl); (· exact boolFound); (· exact rfl)) | ((with_reducible apply Wp.condT); (· exact rfl); (· exact boolFound)) | ((with_reducible apply Wp.condF); (· exact rfl); (· exact boolFound)))
      exact ⟨hlt, hb4, ⟨cs, hv4, ht.skip hb⟩, rfl, rfl, rfl, rfl, trivial⟩
    | true =>
      rw [hb] at hand
      simp only [if_true] at hand
      have hj : (d + i) / 8 < cs.length := by omega
      have hsh : 1 <<< ((d + i) % 8) < 256 := by
        have : (d + i) % 8 < 8 := Nat.mod_lt _ (by decide)
        rw [Nat.shiftLeft_eq, Nat.one_mul]
        exact Nat.lt_of_lt_of_le (Nat.pow_lt_pow_right (by decide) this) (by decide)
      obtain ⟨a', ha', hat⟩ := hr4.at_ (i := 0) (by simp; omega)
      injection ha' with ha'
      subst ha'
      have hb8 : (cs[(d + i) / 8]'hj).toNat < 256 := UInt8.toNat_lt _
      have hf : (UInt8.ofNat (1 <<< ((d + i) % 8))).toNat = 1 <<< ((d + i) % 8) := by rw [UInt8.toNat_ofNat']; exact Nat.mod_eq_of_lt hsh
      repeat (first | ((with_reducible apply WpL.det); (· exact rfl); (· exact Det.found)) | ((with_reducible apply WpL.nilN)) | ((with_reducible apply WpL.nil)) | ((with_reducible apply Wp.seq)) | ((with_reducible apply Wp.region)) | ((with_reducible apply thenQ_normal)) | ((with_reducible apply Wp.block)) | ((with_reducible apply Wp.skip)) | ((with_reducible apply Wp.ret)) | ((with_reducible apply Wp.exit)) | ((with_reducible apply thenQ_exit)) | ((with_reducible apply thenQ_ret)) | ((with_reducible apply blockQ_normal)) | ((with_reducible apply blockQ_ret)) | ((with_reducible apply blockQ_same)) | ((with_reducible apply blockQ_other); (· exact rfl)) | ((with_reducible apply WpL.detG); (· exact rfl); (· exact rfl); (· exact boolFound); (· exact rfl); (· exact Det.found)) | ((with_reducible apply WpL.skipG); (· exact rfl); (· exact rfl); (· exact boolFound); (· exact rfl)) | ((with_reducible apply Wp.condT); (· exact rfl); (· exact boolFound)) | ((with_reducible apply Wp.condF); (· exact rfl); (· exact boolFound)))
      refine WpL.load1 (v := .int .u8 ((cs[(d + i) / 8]'hj).toNat : Int)) rfl rfl (by rw [← add_mk]; exact hat _ _ (bv_get _)) ?_
      repeat (first | ((with_reducible apply WpL.det); (· exact rfl); (· exact Det.found)) | ((with_reducible apply WpL.nilN)) | ((with_reducible apply WpL.nil)) | ((with_reducible apply Wp.seq)) | ((with_reducible apply Wp.region)) | ((with_reducible apply thenQ_normal)) | ((with_reducible apply Wp.block)) | ((with_reducible apply Wp.skip)) | ((with_reducible apply Wp.ret)) | ((with_reducible apply Wp.exit)) | ((with_reducible apply thenQ_exit)) | ((with_reducible apply thenQ_ret)) | ((with_reducible apply blockQ_normal)) | ((with_reducible apply blockQ_ret)) | ((with_reducible apply blockQ_same)) | ((with_reducible apply blockQ_other); (· exact rfl)) | ((with_reducible apply WpL.detG); (· exact rfl); (· exact rfl); (· exact boolFound); (· exact rfl); (· exact Det.found)) | ((with_reducible apply WpL.skipG); (· exact rfl); (· exact rfl); (· exact boolFound); (· exact rfl)) | ((with_reducible apply Wp.condT); (· exact rfl); (· exact boolFound)) | ((with_reducible apply Wp.condF); (· exact rfl); (· exact boolFound)))
      refine WpL.storeS (b := (cs[(d + i) / 8]'hj) ^^^ UInt8.ofNat (1 <<< ((d + i) % 8))) rfl rfl (by rw [UInt8.toNat_xor, hf]) hv4 (by omega) ?_
      intro w5 hv5 hg5 hs5
      simp only [Nat.zero_add] at hv5
      repeat (first | ((with_reducible apply WpL.det); (· exact rfl); (· exact Det.found)) | ((with_reducible apply WpL.nilN)) | ((with_reducible apply WpL.nil)) | ((with_reducible apply Wp.seq)) | ((with_reducible apply Wp.region)) | ((with_reducible apply thenQ_normal)) | ((with_reducible apply Wp.block)) | ((with_reducible apply Wp.skip)) | ((with_reducible apply Wp.ret)) | ((with_reducible apply Wp.exit)) | ((with_reducible apply thenQ_exit)) | ((with_reducible apply thenQ_ret)) | ((with_reducible apply blockQ_normal)) | ((with_reducible apply blockQ_ret)) | ((with_reducible apply blockQ_same)) | ((with_reducible apply blockQ_other); (· exact rfl)) | ((with_reducible apply WpL.detG); (· exact rfl); (· exact rfl); (· exact boolFound); (· exact rfl); (· exact Det.found)) | ((with_reducible apply WpL.skipG); (· exact rfl); (· exact rfl); (· exact boolFound); (· exact rfl)) | ((with_reducible apply Wp.condT); (· exact rfl); (· exact boolFound)) | ((with_reducible apply Wp.condF); (· exact rfl); (· exact boolFound)))
      exact ⟨hlt, hb4.write hg5 (by have := hb1.size; omega), ⟨_, hv5, ht.flip hb (Nat.mod_lt _ (by decide)) (Nat.div_add_mod _ 8) hj (by rw [hf, Nat.shiftLeft_eq, Nat.one_mul])⟩, rfl, rfl, rfl, rfl, trivial⟩
  · have hik : i = 32 := by omega
    subst hik
    have hbad : ¬ Crc.good cs := Crc.turned_bad ht.1 hbits h0 (by rw [hcs]; omega) (ht.all hbits)
    repeat (first | ((with_reducible apply WpL.det); (· exact rfl); (· exact Det.found)) | ((with_reducible apply WpL.nilN)) | ((with_reducible apply WpL.nil)) | ((with_reducible apply Wp.seq)) | ((with_reducible apply Wp.region)) | ((with_reducible apply thenQ_normal)) | ((with_reducible apply Wp.block)) | ((with_reducible apply Wp.skip)) | ((with_reducible apply Wp.ret)) | ((with_reducible apply Wp.exit)) | ((with_reducible apply thenQ_exit)) | ((with_reducible apply thenQ_ret)) | ((with_reducible apply blockQ_normal)) | ((with_reducible apply blockQ_ret)) | ((with_reducible apply blockQ_same)) | ((with_reducible apply blockQ_other); (· exact rfl)) | ((with_reducible apply WpL.detG); (· exact rfl); (· exact rfl); (· exact boolFound); (· exact rfl); (· exact Det.found)) | ((with_reducible apply WpL.skipG); (· exact rfl); (· exact rfl); (· exact boolFound); (· exact rfl)) | ((with_reducible apply Wp.condT); (· exact rfl); (· exact boolFound)) | ((with_reducible apply Wp.condF); (· exact rfl); (· exact boolFound)))
    (with_reducible apply WpL.call); (· exact rfl); (· exact Try.call16); (· exact Vals.found)
    refine (open_any _ cs (n + 4) c2 hcs hc2 hlen w4 hr4).mono ?_
    rintro x w5 ⟨hb5, hx⟩
    rcases hx with ⟨h, -⟩ | ⟨-, rfl⟩
    · exact absurd h hbad
    refine ⟨_, rfl, ?_⟩
    repeat (first | ((with_reducible apply WpL.det); (· exact rfl); (· exact Det.found)) | ((with_reducible apply WpL.nilN)) | ((with_reducible apply WpL.nil)) | ((with_reducible apply Wp.seq)) | ((with_reducible apply Wp.region)) | ((with_reducible apply thenQ_normal)) | ((with_reducible apply Wp.block)) | ((with_reducible apply Wp.skip)) | ((with_reducible apply Wp.ret)) | ((with_reducible apply Wp.exit)) | ((with_reducible apply thenQ_exit)) | ((with_reducible apply thenQ_ret)) | ((with_reducible apply blockQ_normal)) | ((with_reducible apply blockQ_ret)) | ((with_reducible apply blockQ_same)) | ((with_reducible apply blockQ_other); (· exact rfl)) | ((with_reducible apply WpL.detG); (· exact rfl); (· exact rfl); (· exact boolFound); (· exact rfl); (· exact Det.found)) | ((with_reducible apply WpL.skipG); (· exact rfl); (· exact rfl); (· exact boolFound); (· exact rfl)) | ((with_reducible apply Wp.condT); (· exact rfl); (· exact boolFound)) | ((with_reducible apply Wp.condF); (· exact rfl); (· exact boolFound)))
    (with_reducible apply doneQ_one Try.results9); (· exact slotFound)
    exact ⟨by simp, hb4.on hb5⟩
end Go.Proofs.Ytnbbkhabeihckaa
