/-
  Parts of a proof: Walks over the document's sum of bytes; Walks over package low, slices.Clone and Clip, and what seals and opens; Walks over what seals and what opens; The types of numbers, truths, texts and of slices of them: what the rules ask of them; Numbers as bytes, what seals and what opens, over the parts of memory; Blocks in rows; a die's blocks as an iterator; one block of a die.
-/
import Derived.Test.YtaapnfoimcccjaaRows
import Derived.Test.YtaapnfoimcccjaaLawBlocksPlayM4
set_option linter.unusedVariables false
namespace Go.Proofs.Ytaapnfoimcccjaa
open Go.Fk Go.RowKit
attribute [local irreducible] Wp WpL Det thenQ blockQ

theorem refRun_step {n k : Nat} {l : List UInt8} (x : Nat) (hn : l.length = n) (hk : k < n) : Crc.refRun x (l.take (k + 1)) = Crc.refBits (Crc.refRun x (l.take k)) (l[k]'(by omega)).toNat 8 := by
  rw [List.take_succ_eq_append_getElem (by omega), Crc.refRun_snoc]; rfl

theorem refMore_any (s : Nat) (hs : s < 4294967296) (A : Option Addr) (l : List UInt8) (n c : Nat) (hn : l.length = n) (hlen : n ≤ maxLen) (w : World) (hr : Rd w A (bv l)) :
    Calls Try.prog 48 #[.int .u32 (s : Int), .slice A n c] w fun x w' => x = .returned (.int .u32 (Crc.more s l : Nat)) ∧ w' = w := by
  simp only [maxLen] at hlen
  (refine calls_of (P := Try.prog) _ Try.func48 rfl Try.ntmps48 (Nat.le_of_ble_eq_true rfl) ?_; dsimp only [argE, Nat.reduceAdd])
  repeat (first | ((with_reducible apply WpL.det); (· exact rfl); (· exact Det.found)) | ((with_reducible apply WpL.nilN)) | ((with_reducible apply WpL.nil)) | ((with_reducible apply Wp.seq)) | ((with_reducible apply Wp.region)) | ((with_reducible apply thenQ_normal)) | ((with_reducible apply Wp.block)) | ((with_reducible apply Wp.skip)) | ((with_reducible apply Wp.ret)) | ((with_reducible apply Wp.exit)) | ((with_reducible apply thenQ_exit)) | ((with_reducible apply thenQ_ret)) | ((with_reducible apply blockQ_normal)) | ((with_reducible apply blockQ_ret)) | ((with_reducible apply blockQ_same)) | ((with_reducible apply blockQ_other); (· exact rfl)) | ((with_reducible apply WpL.unguard); (· exact rfl); (· exact rfl); (· exact boolFound)) | ((with_reducible apply WpL.skipG); (· exact rfl); (· exact rfl); (· exact boolFound); (· exact rfl)) | ((with_reducible apply Wp.condT); (· exact rfl); (· exact boolFound)) | ((with_reducible apply Wp.condF); (· exact rfl); (· exact boolFound)))
  have hx0 : s ^^^ 4294967295 < 2 ^ 32 := Nat.xor_lt_two_pow hs (by decide)
  have h5 : Value.int .u32 ((s ^^^ 4294967295 : Nat) : Int) = .int .u32 ((Crc.refRun (s ^^^ 4294967295) (l.take 0) : Nat) : Int) := by rw [List.take_zero]; rfl
  apply Wp.loopUp n (fun k e w' => w' = w ∧ e.Has [(5, .int .u32 (Crc.refRun (s ^^^ 4294967295) (l.take k) : Nat)), (1, .slice A n c), (6, .int .i64 (k : Nat))]) (Nat.zero_le n) ⟨rfl, h5, rfl, rfl, trivial⟩
  rintro k e w' hk ⟨rfl, he⟩
  obtain ⟨e0, rfl⟩ := he.eq
  clear he h5
  dsimp only [Env.sets]
  by_cases hlt : k < n
  · have hs0 := refRun_step (s ^^^ 4294967295) hn hlt
    have hx1 := Crc.run_lt hx0 (l.take k)
    rw [← Crc.refRun_eq] at hx1
    revert hs0 hx1
    generalize Crc.refRun (s ^^^ 4294967295) (l.take k) = x
    intro hs0 hx1
    obtain ⟨a, rfl, hat⟩ := hr.at_ (i := k) (by simpa [hn] using hlt)
    repeat (first | ((with_reducible apply WpL.det); (· exact rfl); (· exact Det.found)) | ((with_reducible apply WpL.nilN)) | ((with_reducible apply WpL.nil)) | ((with_reducible apply Wp.seq)) | ((with_reducible apply Wp.region)) | ((with_reducible apply thenQ_normal)) | ((with_reducible apply Wp.block)) | ((with_reducible apply Wp.skip)) | ((with_reducible apply Wp.ret)) | ((with_reducible apply Wp.exit)) | ((with_reducible apply thenQ_exit)) | ((with_reducible apply thenQ_ret)) | ((with_reducible apply blockQ_normal)) | ((with_reducible apply blockQ_ret)) | ((with_reducible apply blockQ_same)) | ((with_reducible apply blockQ_other); (· exact rfl)) | ((with_reducible apply WpL.unguard); (· exact rfl); (· exact rfl); (· exact boolFound)) | ((with_reducible apply WpL.skipG); (· exact rfl); (· exact rfl); (· exact boolFound); (· exact rfl)) | ((with_reducible apply Wp.condT); (· exact rfl); (· exact boolFound)) | ((with_reducible apply Wp.condF); (· exact rfl); (· exact boolFound)))
    apply Wp.loopUp 8 (fun j e w'' => w'' = w' ∧ e.Has [(7, .int .i64 (j : Nat)), (5, .int .u32 (Crc.refBits x (l[k]'(by omega)).toNat j : Nat)), (1, .slice (some a) n c), (6, .int .i64 (k : Nat))]) (Nat.zero_le 8) ⟨rfl, rfl, rfl, rfl, rfl, trivial⟩
    rintro j e w'' hj ⟨rfl, he⟩
    obtain ⟨e1, rfl⟩ := he.eq
    clear he
    dsimp only [Env.sets]
    have hxj := Crc.refBits_lt hx1 (l[k]'(by omega)).toNat j
    have hb8 := UInt8.toNat_lt (l[k]'(by omega))
    by_cases hjlt : j < 8
    · have hstep : Crc.refBits x (l[k]'(by omega)).toNat (j + 1) = Crc.bitStep (Crc.refBits x (l[k]'(by omega)).toNat j) (((l[k]'(by omega)).toNat >>> j) &&& 1) := rfl
      revert hstep hxj
      generalize Crc.refBits x (l[k]'(by omega)).toNat j = y
      intro hxj hstep
      repeat (first | ((with_reducible apply WpL.det); (· exact rfl); (· exact Det.found)) | ((with_reducible apply WpL.nilN)) | ((with_reducible apply WpL.nil)) | ((with_reducible apply Wp.seq)) | ((with_reducible apply Wp.region)) | ((with_reducible apply thenQ_normal)) | ((with_reducible apply Wp.block)) | ((with_reducible apply Wp.skip)) | ((with_reducible apply Wp.ret)) | ((with_reducible apply Wp.exit)) | ((with_reducible apply thenQ_exit)) | ((with_reducible apply thenQ_ret)) | ((with_reducible apply blockQ_normal)) | ((with_reducible apply blockQ_ret)) | ((with_reducible apply blockQ_same)) | ((with_reducible apply blockQ_other); (· exact rfl)) | ((with_reducible apply WpL.unguard); (· exact rfl); (· exact rfl); (· exact boolFound)) | ((with_reducible apply WpL.skipG); (· exact rfl); (· exact rfl); (· exact boolFound); (· exact rfl)) | ((with_reducible apply Wp.condT); (· exact rfl); (· exact boolFound)) | ((with_reducible apply Wp.condF); (· exact rfl); (· exact boolFound)))
      refine WpL.loadA rfl rfl hat (bv_get (by omega)) ?_
      repeat (first | ((with_reducible apply WpL.det); (· exact rfl); (· exact Det.found)) | ((with_reducible apply WpL.nilN)) | ((with_reducible apply WpL.nil)) | ((with_reducible apply Wp.seq)) | ((with_reducible apply Wp.region)) | ((with_reducible apply thenQ_normal)) | ((with_reducible apply Wp.block)) | ((with_reducible apply Wp.skip)) | ((with_reducible apply Wp.ret)) | ((with_reducible apply Wp.exit)) | ((with_reducible apply thenQ_exit)) | ((with_reducible apply thenQ_ret)) | ((with_reducible apply blockQ_normal)) | ((with_reducible apply blockQ_ret)) | ((with_reducible apply blockQ_same)) | ((with_reducible apply blockQ_other); (· exact rfl)) | ((with_reducible apply WpL.unguard); (· exact rfl); (· exact rfl); (· exact boolFound)) | ((with_reducible apply WpL.skipG); (· exact rfl); (· exact rfl); (· exact boolFound); (· exact rfl)) | ((with_reducible apply Wp.condT); (· exact rfl); (· exact boolFound)) | ((with_reducible apply Wp.condF); (· exact rfl); (· exact boolFound)))
      refine Wp.cond _ rfl (fun h => ?_) (fun h => ?_)
      · have h' := of_decide_eq_true h
        have hv : Crc.bitStep y (((l[k]'(by omega)).toNat >>> j) &&& 1) = (y >>> 1) ^^^ 3988292384 := if_pos (by omega)
        clear h
        repeat (first | ((with_reducible apply WpL.det); (· exact rfl); (· exact Det.found)) | ((with_reducible apply WpL.nilN)) | ((with_reducible apply WpL.nil)) | ((with_reducible apply Wp.seq)) | ((with_reducible apply Wp.region)) | ((with_reducible apply thenQ_normal)) | ((with_reducible apply Wp.block)) | ((with_reducible apply Wp.skip)) | ((with_reducible apply Wp.ret)) | ((with_reducible apply Wp.exit)) | ((with_reducible apply thenQ_exit)) | ((with_reducible apply thenQ_ret)) | ((with_reducible apply blockQ_normal)) | ((with_reducible apply blockQ_ret)) | ((with_reducible apply blockQ_same)) | ((with_reducible apply blockQ_other); (· exact rfl)) | ((with_reducible apply WpL.unguard); (· exact rfl); (· exact rfl); (· exact boolFound)) | ((with_reducible apply WpL.skipG); (· exact rfl); (· exact rfl); (· exact boolFound); (· exact rfl)) | ((with_reducible apply Wp.condT); (· exact rfl); (· exact boolFound)) | ((with_reducible apply Wp.condF); (· exact rfl); (· exact boolFound)))
        exact ⟨hjlt, rfl, int_eq (by omega), int_eq (by rw [hstep, hv]), rfl, rfl, trivial⟩
      · have h' := of_decide_eq_false h
        have hv : Crc.bitStep y (((l[k]'(by omega)).toNat >>> j) &&& 1) = y >>> 1 := if_neg (by omega)
        clear h
        repeat (first | ((with_reducible apply WpL.det); (· exact rfl); (· exact Det.found)) | ((with_reducible apply WpL.nilN)) | ((with_reducible apply WpL.nil)) | ((with_reducible apply Wp.seq)) | ((with_reducible apply Wp.region)) | ((with_reducible apply thenQ_normal)) | ((with_reducible apply Wp.block)) | ((with_reducible apply Wp.skip)) | ((with_reducible apply Wp.ret)) | ((with_reducible apply Wp.exit)) | ((with_reducible apply thenQ_exit)) | ((with_reducible apply thenQ_ret)) | ((with_reducible apply blockQ_normal)) | ((with_reducible apply blockQ_ret)) | ((with_reducible apply blockQ_same)) | ((with_reducible apply blockQ_other); (· exact rfl)) | ((with_reducible apply WpL.unguard); (· exact rfl); (· exact rfl); (· exact boolFound)) | ((with_reducible apply WpL.skipG); (· exact rfl); (· exact rfl); (· exact boolFound); (· exact rfl)) | ((with_reducible apply Wp.condT); (· exact rfl); (· exact boolFound)) | ((with_reducible apply Wp.condF); (· exact rfl); (· exact boolFound)))
        exact ⟨hjlt, rfl, int_eq (by omega), int_eq (by rw [hstep, hv]), rfl, rfl, trivial⟩
    · have hj8 : j = 8 := by omega
      subst hj8
      repeat (first | ((with_reducible apply WpL.det); (· exact rfl); (· exact Det.found)) | ((with_reducible apply WpL.nilN)) | ((with_reducible apply WpL.nil)) | ((with_reducible apply Wp.seq)) | ((with_reducible apply Wp.region)) | ((with_reducible apply thenQ_normal)) | ((with_reducible apply Wp.block)) | ((with_reducible apply Wp.skip)) | ((with_reducible apply Wp.ret)) | ((with_reducible apply Wp.exit)) | ((with_reducible apply thenQ_exit)) | ((with_reducible apply thenQ_ret)) | ((with_reducible apply blockQ_normal)) | ((with_reducible apply blockQ_ret)) | ((with_reducible apply blockQ_same)) | ((with_reducible apply blockQ_other); (· exact rfl)) | ((with_reducible apply WpL.unguard); (· exact rfl); (· exact rfl); (· exact boolFound)) | ((with_reducible apply WpL.skipG); (· exact rfl); (· exact rfl); (· exact boolFound); (· exact rfl)) | ((with_reducible apply Wp.condT); (· exact rfl); (· exact boolFound)) | ((with_reducible apply Wp.condF); (· exact rfl); (· exact boolFound)))
      exact ⟨hlt, rfl, int_eq (by rw [hs0]), rfl, int_eq (by omega), trivial⟩
  · have hkn : k = n := by omega
    subst hkn
    have hx1 := Crc.run_lt hx0 (l.take k)
    rw [← Crc.refRun_eq] at hx1
    have hmore : Crc.more s l = Crc.refRun (s ^^^ 4294967295) (l.take k) ^^^ 4294967295 := by
      rw [List.take_of_length_le (by omega), Crc.refRun_eq, Nat.xor_comm, Nat.xor_comm s]; rfl
    repeat (first | ((with_reducible apply WpL.det); (· exact rfl); (· exact Det.found)) | ((with_reducible apply WpL.nilN)) | ((with_reducible apply WpL.nil)) | ((with_reducible apply Wp.seq)) | ((with_reducible apply Wp.region)) | ((with_reducible apply thenQ_normal)) | ((with_reducible apply Wp.block)) | ((with_reducible apply Wp.skip)) | ((with_reducible apply Wp.ret)) | ((with_reducible apply Wp.exit)) | ((with_reducible apply thenQ_exit)) | ((with_reducible apply thenQ_ret)) | ((with_reducible apply blockQ_normal)) | ((with_reducible apply blockQ_ret)) | ((with_reducible apply blockQ_same)) | ((with_reducible apply blockQ_other); (· exact rfl)) | ((with_reducible apply WpL.unguard); (· exact rfl); (· exact rfl); (· exact boolFound)) | ((with_reducible apply WpL.skipG); (· exact rfl); (· exact rfl); (· exact boolFound); (· exact rfl)) | ((with_reducible apply Wp.condT); (· exact rfl); (· exact boolFound)) | ((with_reducible apply Wp.condF); (· exact rfl); (· exact boolFound)))
    (with_reducible apply doneQ_one Try.results48); (· exact slotFound)
    exact ⟨by rw [hmore], rfl⟩

theorem refSum_any (A : Option Addr) (l : List UInt8) (n c : Nat) (hn : l.length = n) (hlen : n ≤ maxLen) (w : World) (hr : Rd w A (bv l)) :
    Calls Try.prog 40 #[.slice A n c] w fun x w' => x = .returned (.int .u32 (Crc.sum l : Nat)) ∧ w' = w := by
  (refine calls_of (P := Try.prog) _ Try.func40 rfl Try.ntmps40 (Nat.le_of_ble_eq_true rfl) ?_; dsimp only [argE, Nat.reduceAdd])
  repeat (first | ((with_reducible apply WpL.det); (· exact rfl); (· exact Det.found)) | ((with_reducible apply WpL.nilN)) | ((with_reducible apply WpL.nil)) | ((with_reducible apply Wp.seq)) | ((with_reducible apply Wp.region)) | ((with_reducible apply thenQ_normal)) | ((with_reducible apply Wp.block)) | ((with_reducible apply Wp.skip)) | ((with_reducible apply Wp.ret)) | ((with_reducible apply Wp.exit)) | ((with_reducible apply thenQ_exit)) | ((with_reducible apply thenQ_ret)) | ((with_reducible apply blockQ_normal)) | ((with_reducible apply blockQ_ret)) | ((with_reducible apply blockQ_same)) | ((with_reducible apply blockQ_other); (· exact rfl)) | ((with_reducible apply WpL.unguard); (· exact rfl); (· exact rfl); (· exact boolFound)) | ((with_reducible apply WpL.skipG); (· exact rfl); (· exact rfl); (· exact boolFound); (· exact rfl)) | ((with_reducible apply Wp.condT); (· exact rfl); (· exact boolFound)) | ((with_reducible apply Wp.condF); (· exact rfl); (· exact boolFound)))
  (with_reducible apply WpL.call); (· exact rfl); (· exact Try.call48); (· exact Vals.found)
  refine (refMore_any 0 (by decide) A l n c hn hlen w hr).mono ?_
  rintro x w' ⟨rfl, rfl⟩
  refine ⟨_, rfl, ?_⟩
  repeat (first | ((with_reducible apply WpL.det); (· exact rfl); (· exact Det.found)) | ((with_reducible apply WpL.nilN)) | ((with_reducible apply WpL.nil)) | ((with_reducible apply Wp.seq)) | ((with_reducible apply Wp.region)) | ((with_reducible apply thenQ_normal)) | ((with_reducible apply Wp.block)) | ((with_reducible apply Wp.skip)) | ((with_reducible apply Wp.ret)) | ((with_reducible apply Wp.exit)) | ((with_reducible apply thenQ_exit)) | ((with_reducible apply thenQ_ret)) | ((with_reducible apply blockQ_normal)) | ((with_reducible apply blockQ_ret)) | ((with_reducible apply blockQ_same)) | ((with_reducible apply blockQ_other); (· exact rfl)) | ((with_reducible apply WpL.unguard); (· exact rfl); (· exact rfl); (· exact boolFound)) | ((with_reducible apply WpL.skipG); (· exact rfl); (· exact rfl); (· exact boolFound); (· exact rfl)) | ((with_reducible apply Wp.condT); (· exact rfl); (· exact boolFound)) | ((with_reducible apply Wp.condF); (· exact rfl); (· exact boolFound)))
  (with_reducible apply doneQ_one Try.results40); (· exact slotFound)
  exact ⟨rfl, rfl⟩
end Go.Proofs.Ytaapnfoimcccjaa

namespace Go.Proofs.Ytaapnfoimcccjaa
open Go.Fk Go.RowKit
attribute [local irreducible] Wp WpL Det thenQ blockQ

/-- low.Append: so many bytes of a number behind bytes of the call's own. -/
theorem lowAppend_any (B : Nat) (v : Value) (xs : List UInt8) (m k : Nat) (hm : m < 18446744073709551616) (w : World) (hv : SlB w B 5 v xs) (hB : B ≤ w.heap.size) (hk : xs.length + k ≤ 140737488355328) :
    Calls Try.prog 46 #[v, .int .u64 (m : Int), .int .i64 (k : Int)] w fun x w' => ∃ v', x = .returned v' ∧ SlB w' B 5 v' (xs ++ Crc.loB m k) ∧ Grew w v w' v' := by
  (refine calls_of (P := Try.prog) _ Try.func46 rfl Try.ntmps46 (Nat.le_of_ble_eq_true rfl) ?_; dsimp only [argE, Nat.reduceAdd])
  repeat (first | ((with_reducible apply WpL.det); (· exact rfl); (· exact Det.found)) | ((with_reducible apply WpL.nilN)) | ((with_reducible apply WpL.nil)) | ((with_reducible apply Wp.seq)) | ((with_reducible apply Wp.region)) | ((with_reducible apply thenQ_normal)) | ((with_reducible apply Wp.block)) | ((with_reducible apply Wp.skip)) | ((with_reducible apply Wp.ret)) | ((with_reducible apply Wp.exit)) | ((with_reducible apply thenQ_exit)) | ((with_reducible apply thenQ_ret)) | ((with_reducible apply blockQ_normal)) | ((with_reducible apply blockQ_ret)) | ((with_reducible apply blockQ_same)) | ((with_reducible apply blockQ_other); (· exact rfl)) | ((with_reducible apply WpL.unguard); (· exact rfl); (· exact rfl); (· exact boolFound)) | ((with_reducible apply WpL.skipG); (· exact rfl); (· exact rfl); (· exact boolFound); (· exact rfl)) | ((with_reducible apply Wp.condT); (· exact rfl); (· exact boolFound)) | ((with_reducible apply Wp.condF); (· exact rfl); (· exact boolFound)))
  apply Wp.loopUp k (fun i e w' => ∃ v', SlB w' B 5 v' (xs ++ Crc.loB m i) ∧ Grew w v w' v' ∧ e.Has [(8, .int .i64 (i : Nat)), (7, .int .i64 k), (0, v'), (1, .int .u64 ((m >>> (8 * i) : Nat) : Int))]) (Nat.zero_le k)
    ⟨v, by rw [Crc.loB_zero, List.append_nil]; exact hv, Grew.refl _ _, rfl, rfl, rfl, rfl, trivial⟩
  rintro i e w1 hi ⟨v1, hv1, hg1, he⟩
  obtain ⟨e0, rfl⟩ := he.eq
  clear he
  dsimp only [Env.sets]
  have hB1 : B ≤ w1.heap.size := Nat.le_trans hB hg1.by_.size
  by_cases hlt : i < k
  · have hmi : m >>> (8 * i) < 18446744073709551616 := Nat.lt_of_le_of_lt (by rw [Nat.shiftRight_eq_div_pow]; exact Nat.div_le_self _ _) hm
    have hnext : m >>> (8 * (i + 1)) = (m >>> (8 * i)) >>> 8 := by rw [← Nat.shiftRight_add]; congr 1
    have hbyte : bv [UInt8.ofNat (m >>> (8 * i))] = [Value.int .u8 ((m >>> (8 * i) % 256 : Nat) : Int)] := by simp [bv]
    repeat (first | ((with_reducible apply WpL.det); (· exact rfl); (· exact Det.found)) | ((with_reducible apply WpL.nilN)) | ((with_reducible apply WpL.nil)) | ((with_reducible apply Wp.seq)) | ((with_reducible apply Wp.region)) | ((with_reducible apply thenQ_normal)) | ((with_reducible apply Wp.block)) | ((with_reducible apply Wp.skip)) | ((with_reducible apply Wp.ret)) | ((with_reducible apply Wp.exit)) | ((with_reducible apply thenQ_exit)) | ((with_reducible apply thenQ_ret)) | ((with_reducible apply blockQ_normal)) | ((with_reducible apply blockQ_ret)) | ((with_reducible apply blockQ_same)) | ((with_reducible apply blockQ_other); (· exact rfl)) | ((with_reducible apply WpL.unguard); (· exact rfl); (· exact rfl); (· exact boolFound)) | ((with_reducible apply WpL.skipG); (· exact rfl); (· exact rfl); (· exact boolFound); (· exact rfl)) | ((with_reducible apply Wp.condT); (· exact rfl); (· exact boolFound)) | ((with_reducible apply Wp.condF); (· exact rfl); (· exact boolFound)))
    refine WpL.buildSlice (bytes := 1) rfl BVals.found (oneAll_spec rfl) rfl (by decide) ?_
    intro w2 hb2 hs2 hg2
    repeat (first | ((with_reducible apply WpL.det); (· exact rfl); (· exact Det.found)) | ((with_reducible apply WpL.nilN)) | ((with_reducible apply WpL.nil)) | ((with_reducible apply Wp.seq)) | ((with_reducible apply Wp.region)) | ((with_reducible apply thenQ_normal)) | ((with_reducible apply Wp.block)) | ((with_reducible apply Wp.skip)) | ((with_reducible apply Wp.ret)) | ((with_reducible apply Wp.exit)) | ((with_reducible apply thenQ_exit)) | ((with_reducible apply thenQ_ret)) | ((with_reducible apply blockQ_normal)) | ((with_reducible apply blockQ_ret)) | ((with_reducible apply blockQ_same)) | ((with_reducible apply blockQ_other); (· exact rfl)) | ((with_reducible apply WpL.unguard); (· exact rfl); (· exact rfl); (· exact boolFound)) | ((with_reducible apply WpL.skipG); (· exact rfl); (· exact rfl); (· exact boolFound); (· exact rfl)) | ((with_reducible apply Wp.condT); (· exact rfl); (· exact boolFound)) | ((with_reducible apply Wp.condF); (· exact rfl); (· exact boolFound)))
    refine WpL.appendG (l := [UInt8.ofNat (m >>> (8 * i))]) rfl Env.found Env.found (hv1.below hb2) (.inr ⟨_, rfl, by rw [hbyte]; exact hg2.at_⟩) rfl (by simp [Crc.loB_length]; omega) (by omega) ?_
    intro v3 w3 hv3 hg3
    repeat (first | ((with_reducible apply WpL.det); (· exact rfl); (· exact Det.found)) | ((with_reducible apply WpL.nilN)) | ((with_reducible apply WpL.nil)) | ((with_reducible apply Wp.seq)) | ((with_reducible apply Wp.region)) | ((with_reducible apply thenQ_normal)) | ((with_reducible apply Wp.block)) | ((with_reducible apply Wp.skip)) | ((with_reducible apply Wp.ret)) | ((with_reducible apply Wp.exit)) | ((with_reducible apply thenQ_exit)) | ((with_reducible apply thenQ_ret)) | ((with_reducible apply blockQ_normal)) | ((with_reducible apply blockQ_ret)) | ((with_reducible apply blockQ_same)) | ((with_reducible apply blockQ_other); (· exact rfl)) | ((with_reducible apply WpL.unguard); (· exact rfl); (· exact rfl); (· exact boolFound)) | ((with_reducible apply WpL.skipG); (· exact rfl); (· exact rfl); (· exact boolFound); (· exact rfl)) | ((with_reducible apply Wp.condT); (· exact rfl); (· exact boolFound)) | ((with_reducible apply Wp.condF); (· exact rfl); (· exact boolFound)))
    refine ⟨hlt, v3, ?_, hg1.trans ((Grew.of_below _ hb2).trans hg3), int_eq (by omega), rfl, rfl, int_eq (by rw [hnext]), trivial⟩
    rw [Crc.loB_snoc, ← List.append_assoc]; exact hv3
  · have hik : i = k := by omega
    subst hik
    repeat (first | ((with_reducible apply WpL.det); (· exact rfl); (· exact Det.found)) | ((with_reducible apply WpL.nilN)) | ((with_reducible apply WpL.nil)) | ((with_reducible apply Wp.seq)) | ((with_reducible apply Wp.region)) | ((with_reducible apply thenQ_normal)) | ((with_reducible apply Wp.block)) | ((with_reducible apply Wp.skip)) | ((with_reducible apply Wp.ret)) | ((with_reducible apply Wp.exit)) | ((with_reducible apply thenQ_exit)) | ((with_reducible apply thenQ_ret)) | ((with_reducible apply blockQ_normal)) | ((with_reducible apply blockQ_ret)) | ((with_reducible apply blockQ_same)) | ((with_reducible apply blockQ_other); (· exact rfl)) | ((with_reducible apply WpL.unguard); (· exact rfl); (· exact rfl); (· exact boolFound)) | ((with_reducible apply WpL.skipG); (· exact rfl); (· exact rfl); (· exact boolFound); (· exact rfl)) | ((with_reducible apply Wp.condT); (· exact rfl); (· exact boolFound)) | ((with_reducible apply Wp.condF); (· exact rfl); (· exact boolFound)))
    (with_reducible apply doneQ_one Try.results46); (· exact slotFound)
    exact ⟨_, rfl, hv1, hg1⟩

theorem lowAppend32_any (B : Nat) (v : Value) (xs : List UInt8) (m : Nat) (hm : m < 4294967296) (w : World) (hv : SlB w B 5 v xs) (hB : B ≤ w.heap.size) (hk : xs.length + 4 ≤ 140737488355328) :
    Calls Try.prog 38 #[v, .int .u32 (m : Int)] w fun x w' => ∃ v', x = .returned v' ∧ SlB w' B 5 v' (xs ++ Crc.loB m 4) ∧ Grew w v w' v' := by
  (refine calls_of (P := Try.prog) _ Try.func38 rfl Try.ntmps38 (Nat.le_of_ble_eq_true rfl) ?_; dsimp only [argE, Nat.reduceAdd])
  repeat (first | ((with_reducible apply WpL.det); (· exact rfl); (· exact Det.found)) | ((with_reducible apply WpL.nilN)) | ((with_reducible apply WpL.nil)) | ((with_reducible apply Wp.seq)) | ((with_reducible apply Wp.region)) | ((with_reducible apply thenQ_normal)) | ((with_reducible apply Wp.block)) | ((with_reducible apply Wp.skip)) | ((with_reducible apply Wp.ret)) | ((with_reducible apply Wp.exit)) | ((with_reducible apply thenQ_exit)) | ((with_reducible apply thenQ_ret)) | ((with_reducible apply blockQ_normal)) | ((with_reducible apply blockQ_ret)) | ((with_reducible apply blockQ_same)) | ((with_reducible apply blockQ_other); (· exact rfl)) | ((with_reducible apply WpL.unguard); (· exact rfl); (· exact rfl); (· exact boolFound)) | ((with_reducible apply WpL.skipG); (· exact rfl); (· exact rfl); (· exact boolFound); (· exact rfl)) | ((with_reducible apply Wp.condT); (· exact rfl); (· exact boolFound)) | ((with_reducible apply Wp.condF); (· exact rfl); (· exact boolFound)))
  (with_reducible apply WpL.call); (· exact rfl); (· exact Try.call46); (· exact Vals.found)
  refine (lowAppend_any B v xs m 4 (by omega) w hv hB hk).mono ?_
  rintro x w1 ⟨v1, rfl, h1, h2⟩
  refine ⟨_, rfl, ?_⟩
  repeat (first | ((with_reducible apply WpL.det); (· exact rfl); (· exact Det.found)) | ((with_reducible apply WpL.nilN)) | ((with_reducible apply WpL.nil)) | ((with_reducible apply Wp.seq)) | ((with_reducible apply Wp.region)) | ((with_reducible apply thenQ_normal)) | ((with_reducible apply Wp.block)) | ((with_reducible apply Wp.skip)) | ((with_reducible apply Wp.ret)) | ((with_reducible apply Wp.exit)) | ((with_reducible apply thenQ_exit)) | ((with_reducible apply thenQ_ret)) | ((with_reducible apply blockQ_normal)) | ((with_reducible apply blockQ_ret)) | ((with_reducible apply blockQ_same)) | ((with_reducible apply blockQ_other); (· exact rfl)) | ((with_reducible apply WpL.unguard); (· exact rfl); (· exact rfl); (· exact boolFound)) | ((with_reducible apply WpL.skipG); (· exact rfl); (· exact rfl); (· exact boolFound); (· exact rfl)) | ((with_reducible apply Wp.condT); (· exact rfl); (· exact boolFound)) | ((with_reducible apply Wp.condF); (· exact rfl); (· exact boolFound)))
  (with_reducible apply doneQ_one Try.results38); (· exact slotFound)
  exact ⟨_, rfl, h1, h2⟩

theorem clone_any (A : Option Addr) (l : List UInt8) (n c : Nat) (hn : l.length = n) (hlen : n ≤ 140737488355328) (w : World) (hr : Rd w A (bv l)) :
    Calls Try.prog 44 #[.slice A n c] w fun x w' => ∃ v', x = .returned v' ∧ SlB w' w.heap.size 5 v' l ∧ Below w.heap.size w w' := by
  cases A with
  | none =>
    have hl : l = [] := by
      rcases hr with h | ⟨a, h, _⟩
      · simpa [bv] using h
      · cases h
    subst hl
    (refine calls_of (P := Try.prog) _ Try.func44 rfl Try.ntmps44 (Nat.le_of_ble_eq_true rfl) ?_; dsimp only [argE, Nat.reduceAdd])
    repeat (first | ((with_reducible apply WpL.det); (· exact rfl); (· exact Det.found)) | ((with_reducible apply WpL.nilN)) | ((with_reducible apply WpL.nil)) | ((with_reducible apply Wp.seq)) | ((with_reducible apply Wp.region)) | ((with_reducible apply thenQ_normal)) | ((with_reducible apply Wp.block)) | ((with_reducible apply Wp.skip)) | ((with_reducible apply Wp.ret)) | ((with_reducible apply Wp.exit)) | ((with_reducible apply thenQ_exit)) | ((with_reducible apply thenQ_ret)) | ((with_reducible apply blockQ_normal)) | ((with_reducible apply blockQ_ret)) | ((with_reducible apply blockQ_same)) | ((with_reducible apply blockQ_other); (· exact rfl)) | ((with_reducible apply WpL.unguard); (· exact rfl); (· exact rfl); (· exact boolFound)) | ((with_reducible apply WpL.skipG); (· exact rfl); (· exact rfl); (· exact boolFound); (· exact rfl)) | ((with_reducible apply Wp.condT); (· exact rfl); (· exact boolFound)) | ((with_reducible apply Wp.condF); (· exact rfl); (· exact boolFound)))
    (with_reducible apply doneQ_one Try.results44); (· exact slotFound)
    exact ⟨_, rfl, SlB.nil _ _ _, Below.refl _ _⟩
  | some a =>
    (refine calls_of (P := Try.prog) _ Try.func44 rfl Try.ntmps44 (Nat.le_of_ble_eq_true rfl) ?_; dsimp only [argE, Nat.reduceAdd])
    repeat (first | ((with_reducible apply WpL.det); (· exact rfl); (· exact Det.found)) | ((with_reducible apply WpL.nilN)) | ((with_reducible apply WpL.nil)) | ((with_reducible apply Wp.seq)) | ((with_reducible apply Wp.region)) | ((with_reducible apply thenQ_normal)) | ((with_reducible apply Wp.block)) | ((with_reducible apply Wp.skip)) | ((with_reducible apply Wp.ret)) | ((with_reducible apply Wp.exit)) | ((with_reducible apply thenQ_exit)) | ((with_reducible apply thenQ_ret)) | ((with_reducible apply blockQ_normal)) | ((with_reducible apply blockQ_ret)) | ((with_reducible apply blockQ_same)) | ((with_reducible apply blockQ_other); (· exact rfl)) | ((with_reducible apply WpL.unguard); (· exact rfl); (· exact rfl); (· exact boolFound)) | ((with_reducible apply WpL.skipG); (· exact rfl); (· exact rfl); (· exact boolFound); (· exact rfl)) | ((with_reducible apply Wp.condT); (· exact rfl); (· exact boolFound)) | ((with_reducible apply Wp.condF); (· exact rfl); (· exact boolFound)))
    refine WpL.buildSlice (bytes := 1) rfl BVals.found (oneAll_spec rfl) rfl (by decide) ?_
    intro w1 hb1 hs1 hg1
    have hv1 : SlB w1 w.heap.size 5 (.slice (some ⟨w.heap.size, 0, none⟩) 0 0) [] := ⟨rfl, .inr ⟨_, _, _, rfl, Nat.le_refl _, hg1, Nat.le_refl _, Nat.zero_le _, Nat.le_refl _, rfl⟩⟩
    repeat (first | ((with_reducible apply WpL.det); (· exact rfl); (· exact Det.found)) | ((with_reducible apply WpL.nilN)) | ((with_reducible apply WpL.nil)) | ((with_reducible apply Wp.seq)) | ((with_reducible apply Wp.region)) | ((with_reducible apply thenQ_normal)) | ((with_reducible apply Wp.block)) | ((with_reducible apply Wp.skip)) | ((with_reducible apply Wp.ret)) | ((with_reducible apply Wp.exit)) | ((with_reducible apply thenQ_exit)) | ((with_reducible apply thenQ_ret)) | ((with_reducible apply blockQ_normal)) | ((with_reducible apply blockQ_ret)) | ((with_reducible apply blockQ_same)) | ((with_reducible apply blockQ_other); (· exact rfl)) | ((with_reducible apply WpL.unguard); (· exact rfl); (· exact rfl); (· exact boolFound)) | ((with_reducible apply WpL.skipG); (· exact rfl); (· exact rfl); (· exact boolFound); (· exact rfl)) | ((with_reducible apply Wp.condT); (· exact rfl); (· exact boolFound)) | ((with_reducible apply Wp.condF); (· exact rfl); (· exact boolFound)))
    refine WpL.appendG rfl Env.found Env.found hv1 (hr.below hb1) hn (by simpa using hlen) hb1.size ?_
    intro v2 w2 hv2 hg2
    repeat (first | ((with_reducible apply WpL.det); (· exact rfl); (· exact Det.found)) | ((with_reducible apply WpL.nilN)) | ((with_reducible apply WpL.nil)) | ((with_reducible apply Wp.seq)) | ((with_reducible apply Wp.region)) | ((with_reducible apply thenQ_normal)) | ((with_reducible apply Wp.block)) | ((with_reducible apply Wp.skip)) | ((with_reducible apply Wp.ret)) | ((with_reducible apply Wp.exit)) | ((with_reducible apply thenQ_exit)) | ((with_reducible apply thenQ_ret)) | ((with_reducible apply blockQ_normal)) | ((with_reducible apply blockQ_ret)) | ((with_reducible apply blockQ_same)) | ((with_reducible apply blockQ_other); (· exact rfl)) | ((with_reducible apply WpL.unguard); (· exact rfl); (· exact rfl); (· exact boolFound)) | ((with_reducible apply WpL.skipG); (· exact rfl); (· exact rfl); (· exact boolFound); (· exact rfl)) | ((with_reducible apply Wp.condT); (· exact rfl); (· exact boolFound)) | ((with_reducible apply Wp.condF); (· exact rfl); (· exact boolFound)))
    (with_reducible apply doneQ_one Try.results44); (· exact slotFound)
    exact ⟨_, rfl, hv2, hg2.below hb1 hv1⟩

theorem clip_any (B : Nat) (v : Value) (l : List UInt8) (w : World) (hv : SlB w B 5 v l) :
    Calls Try.prog 47 #[v] w fun x w' => w = w' ∧ ∃ v', x = .returned v' ∧ SlB w B 5 v' l ∧ v'.ownBlock = v.ownBlock := by
  obtain ⟨A, cap, rfl, hc, hm, hnil, hr⟩ := hv.form
  (refine calls_of (P := Try.prog) _ Try.func47 rfl Try.ntmps47 (Nat.le_of_ble_eq_true rfl) ?_; dsimp only [argE, Nat.reduceAdd])
  repeat (first | ((with_reducible apply WpL.det); (· exact rfl); (· exact Det.found)) | ((with_reducible apply WpL.nilN)) | ((with_reducible apply WpL.nil)) | ((with_reducible apply Wp.seq)) | ((with_reducible apply Wp.region)) | ((with_reducible apply thenQ_normal)) | ((with_reducible apply Wp.block)) | ((with_reducible apply Wp.skip)) | ((with_reducible apply Wp.ret)) | ((with_reducible apply Wp.exit)) | ((with_reducible apply thenQ_exit)) | ((with_reducible apply thenQ_ret)) | ((with_reducible apply blockQ_normal)) | ((with_reducible apply blockQ_ret)) | ((with_reducible apply blockQ_same)) | ((with_reducible apply blockQ_other); (· exact rfl)) | ((with_reducible apply WpL.unguard); (· exact rfl); (· exact rfl); (· exact boolFound)) | ((with_reducible apply WpL.skipG); (· exact rfl); (· exact rfl); (· exact boolFound); (· exact rfl)) | ((with_reducible apply Wp.condT); (· exact rfl); (· exact boolFound)) | ((with_reducible apply Wp.condF); (· exact rfl); (· exact boolFound)))
  (with_reducible apply doneQ_one Try.results47); (· exact slotFound)
  refine ⟨rfl, _, rfl, ?_, by cases A <;> rfl⟩
  simp only [Int.toNat_natCast]
  obtain ⟨h1, h2⟩ := hv
  refine ⟨h1, ?_⟩
  rcases h2 with ⟨h2, h3⟩ | ⟨g, cap', cur, h2, h3, h4, h5, h6, h7, h8⟩
  · injection h2 with h2 _ _
    subst h2
    exact .inl ⟨by rw [h3], h3⟩
  · injection h2 with h2 _ _
    subst h2
    exact .inr ⟨g, _, cur, rfl, h3, h4, Nat.le_refl _, by omega, by omega, h8⟩
end Go.Proofs.Ytaapnfoimcccjaa

namespace Go.Proofs.Ytaapnfoimcccjaa
open Go.Fk Go.RowKit
attribute [local irreducible] Wp WpL Det thenQ blockQ

theorem seal_any (A : Option Addr) (l : List UInt8) (n c : Nat) (hn : l.length = n) (hlen : n + 4 ≤ 140737488355328) (w : World) (hr : Rd w A (bv l)) :
    Calls Try.prog 39 #[.slice A n c] w fun x w' => ∃ v', x = .returned v' ∧ SlB w' w.heap.size 5 v' (Crc.sealed l) ∧ Below w.heap.size w w' := by
  have hm : n ≤ maxLen := by simp only [maxLen]; omega
  (refine calls_of (P := Try.prog) _ Try.func39 rfl Try.ntmps39 (Nat.le_of_ble_eq_true rfl) ?_; dsimp only [argE, Nat.reduceAdd])
  repeat (first | ((with_reducible apply WpL.det); (· exact rfl); (· exact Det.found)) | ((with_reducible apply WpL.nilN)) | ((with_reducible apply WpL.nil)) | ((with_reducible apply Wp.seq)) | ((with_reducible apply Wp.region)) | ((with_reducible apply thenQ_normal)) | ((with_reducible apply Wp.block)) | ((with_reducible apply Wp.skip)) | ((with_reducible apply Wp.ret)) | ((with_reducible apply Wp.exit)) | ((with_reducible apply thenQ_exit)) | ((with_reducible apply thenQ_ret)) | ((with_reducible apply blockQ_normal)) | ((with_reducible apply blockQ_ret)) | ((with_reducible apply blockQ_same)) | ((with_reducible apply blockQ_other); (· exact rfl)) | ((with_reducible apply WpL.unguard); (· exact rfl); (· exact rfl); (· exact boolFound)) | ((with_reducible apply WpL.skipG); (· exact rfl); (· exact rfl); (· exact boolFound); (· exact rfl)) | ((with_reducible apply Wp.condT); (· exact rfl); (· exact boolFound)) | ((with_reducible apply Wp.condF); (· exact rfl); (· exact boolFound)))
  (with_reducible apply WpL.call); (· exact rfl); (· exact Try.call44); (· exact Vals.found)
  refine (clone_any A l n c hn (by omega) w hr).mono ?_
  rintro x w1 ⟨v1, rfl, hv1, hb1⟩
  refine ⟨_, rfl, ?_⟩
  repeat (first | ((with_reducible apply WpL.det); (· exact rfl); (· exact Det.found)) | ((with_reducible apply WpL.nilN)) | ((with_reducible apply WpL.nil)) | ((with_reducible apply Wp.seq)) | ((with_reducible apply Wp.region)) | ((with_reducible apply thenQ_normal)) | ((with_reducible apply Wp.block)) | ((with_reducible apply Wp.skip)) | ((with_reducible apply Wp.ret)) | ((with_reducible apply Wp.exit)) | ((with_reducible apply thenQ_exit)) | ((with_reducible apply thenQ_ret)) | ((with_reducible apply blockQ_normal)) | ((with_reducible apply blockQ_ret)) | ((with_reducible apply blockQ_same)) | ((with_reducible apply blockQ_other); (· exact rfl)) | ((with_reducible apply WpL.unguard); (· exact rfl); (· exact rfl); (· exact boolFound)) | ((with_reducible apply WpL.skipG); (· exact rfl); (· exact rfl); (· exact boolFound); (· exact rfl)) | ((with_reducible apply Wp.condT); (· exact rfl); (· exact boolFound)) | ((with_reducible apply Wp.condF); (· exact rfl); (· exact boolFound)))
  (with_reducible apply WpL.call); (· exact rfl); (· exact Try.call47); (· exact Vals.found)
  refine (clip_any _ v1 l w1 hv1).mono ?_
  rintro x w2 ⟨rfl, v2, rfl, hv2, -⟩
  refine ⟨_, rfl, ?_⟩
  repeat (first | ((with_reducible apply WpL.det); (· exact rfl); (· exact Det.found)) | ((with_reducible apply WpL.nilN)) | ((with_reducible apply WpL.nil)) | ((with_reducible apply Wp.seq)) | ((with_reducible apply Wp.region)) | ((with_reducible apply thenQ_normal)) | ((with_reducible apply Wp.block)) | ((with_reducible apply Wp.skip)) | ((with_reducible apply Wp.ret)) | ((with_reducible apply Wp.exit)) | ((with_reducible apply thenQ_exit)) | ((with_reducible apply thenQ_ret)) | ((with_reducible apply blockQ_normal)) | ((with_reducible apply blockQ_ret)) | ((with_reducible apply blockQ_same)) | ((with_reducible apply blockQ_other); (· exact rfl)) | ((with_reducible apply WpL.unguard); (· exact rfl); (· exact rfl); (· exact boolFound)) | ((with_reducible apply WpL.skipG); (· exact rfl); (· exact rfl); (· exact boolFound); (· exact rfl)) | ((with_reducible apply Wp.condT); (· exact rfl); (· exact boolFound)) | ((with_reducible apply Wp.condF); (· exact rfl); (· exact boolFound)))
  (with_reducible apply WpL.call); (· exact rfl); (· exact Try.call43); (· exact Vals.found)
  refine (sum_any A l n c hn hm w1 (hr.below hb1)).mono ?_
  rintro x w3 ⟨rfl, hb3⟩
  refine ⟨_, rfl, ?_⟩
  have hb3' := hb1.on hb3
  repeat (first | ((with_reducible apply WpL.det); (· exact rfl); (· exact Det.found)) | ((with_reducible apply WpL.nilN)) | ((with_reducible apply WpL.nil)) | ((with_reducible apply Wp.seq)) | ((with_reducible apply Wp.region)) | ((with_reducible apply thenQ_normal)) | ((with_reducible apply Wp.block)) | ((with_reducible apply Wp.skip)) | ((with_reducible apply Wp.ret)) | ((with_reducible apply Wp.exit)) | ((with_reducible apply thenQ_exit)) | ((with_reducible apply thenQ_ret)) | ((with_reducible apply blockQ_normal)) | ((with_reducible apply blockQ_ret)) | ((with_reducible apply blockQ_same)) | ((with_reducible apply blockQ_other); (· exact rfl)) | ((with_reducible apply WpL.unguard); (· exact rfl); (· exact rfl); (· exact boolFound)) | ((with_reducible apply WpL.skipG); (· exact rfl); (· exact rfl); (· exact boolFound); (· exact rfl)) | ((with_reducible apply Wp.condT); (· exact rfl); (· exact boolFound)) | ((with_reducible apply Wp.condF); (· exact rfl); (· exact boolFound)))
  (with_reducible apply WpL.call); (· exact rfl); (· exact Try.call38); (· exact Vals.found)
  refine (lowAppend32_any w.heap.size v2 l (Crc.sum l) (Crc.sum_lt l) w3 (hv2.below hb3) hb3'.size (by omega)).mono ?_
  rintro x w4 ⟨v4, rfl, hv4, hg4⟩
  refine ⟨_, rfl, ?_⟩
  repeat (first | ((with_reducible apply WpL.det); (· exact rfl); (· exact Det.found)) | ((with_reducible apply WpL.nilN)) | ((with_reducible apply WpL.nil)) | ((with_reducible apply Wp.seq)) | ((with_reducible apply Wp.region)) | ((with_reducible apply thenQ_normal)) | ((with_reducible apply Wp.block)) | ((with_reducible apply Wp.skip)) | ((with_reducible apply Wp.ret)) | ((with_reducible apply Wp.exit)) | ((with_reducible apply thenQ_exit)) | ((with_reducible apply thenQ_ret)) | ((with_reducible apply blockQ_normal)) | ((with_reducible apply blockQ_ret)) | ((with_reducible apply blockQ_same)) | ((with_reducible apply blockQ_other); (· exact rfl)) | ((with_reducible apply WpL.unguard); (· exact rfl); (· exact rfl); (· exact boolFound)) | ((with_reducible apply WpL.skipG); (· exact rfl); (· exact rfl); (· exact boolFound); (· exact rfl)) | ((with_reducible apply Wp.condT); (· exact rfl); (· exact boolFound)) | ((with_reducible apply Wp.condF); (· exact rfl); (· exact boolFound)))
  (with_reducible apply doneQ_one Try.results39); (· exact slotFound)
  exact ⟨_, rfl, hv4, hg4.below hb3' (hv2.below hb3)⟩

theorem uint_any (A : Option Addr) (l : List UInt8) (n c k : Nat) (hn : l.length = n) (hk : k ≤ n) (hk8 : k ≤ 8) (hlen : n ≤ 140737488355328) (w : World) (hr : Rd w A (bv l)) :
    Calls Try.prog 45 #[.slice A n c, .int .i64 (k : Int)] w fun x w' => x = .returned (.int .u64 (Crc.loN (l.take k) : Nat)) ∧ w = w' := by
  (refine calls_of (P := Try.prog) _ Try.func45 rfl Try.ntmps45 (Nat.le_of_ble_eq_true rfl) ?_; dsimp only [argE, Nat.reduceAdd])
  repeat (first | ((with_reducible apply WpL.det); (· exact rfl); (· exact Det.found)) | ((with_reducible apply WpL.nilN)) | ((with_reducible apply WpL.nil)) | ((with_reducible apply Wp.seq)) | ((with_reducible apply Wp.region)) | ((with_reducible apply thenQ_normal)) | ((with_reducible apply Wp.block)) | ((with_reducible apply Wp.skip)) | ((with_reducible apply Wp.ret)) | ((with_reducible apply Wp.exit)) | ((with_reducible apply thenQ_exit)) | ((with_reducible apply thenQ_ret)) | ((with_reducible apply blockQ_normal)) | ((with_reducible apply blockQ_ret)) | ((with_reducible apply blockQ_same)) | ((with_reducible apply blockQ_other); (· exact rfl)) | ((with_reducible apply WpL.unguard); (· exact rfl); (· exact rfl); (· exact boolFound)) | ((with_reducible apply WpL.skipG); (· exact rfl); (· exact rfl); (· exact boolFound); (· exact rfl)) | ((with_reducible apply Wp.condT); (· exact rfl); (· exact boolFound)) | ((with_reducible apply Wp.condF); (· exact rfl); (· exact boolFound)))
  have h0 : Value.int .u64 (0 : Int) = .int .u64 ((Crc.loN ((l.take k).drop (k - 0)) : Nat) : Int) := by
    rw [List.drop_eq_nil_of_le (by simp; omega)]; rfl
  apply Wp.loopUp k (fun i e w' => w = w' ∧ e.Has [(5, .int .i64 ((k : Int) - 1 - (i : Nat))), (4, .int .u64 (Crc.loN ((l.take k).drop (k - i)) : Nat)), (0, .slice A n c)]) (Nat.zero_le k)
    ⟨rfl, int_eq (by omega), h0, rfl, trivial⟩
  rintro i e w1 hi ⟨rfl, he⟩
  obtain ⟨e0, rfl⟩ := he.eq
  clear he
  dsimp only [Env.sets]
  have hlow : Crc.loN ((l.take k).drop (k - i)) < 2 ^ (8 * i) := by
    refine Nat.lt_of_lt_of_le (Crc.loN_lt _) (Nat.pow_le_pow_right (by omega) ?_)
    simp; omega
  by_cases hlt : i < k
  · obtain ⟨a, rfl, hat⟩ := hr.at_ (i := 0) (by simp; omega)
    have hj : k - (i + 1) < n := by omega
    have h256 : Crc.loN ((l.take k).drop (k - i)) < 72057594037927936 := Nat.lt_of_lt_of_le hlow (by
      have : (2 : Nat) ^ (8 * i) ≤ 2 ^ 56 := Nat.pow_le_pow_right (by omega) (by omega)
      simpa using this)
    have hnext : Crc.loN ((l.take k).drop (k - (i + 1))) = (Crc.loN ((l.take k).drop (k - i)) <<< 8) ||| (l[k - (i + 1)]'(by omega)).toNat := by
      rw [List.drop_eq_getElem_cons (by simp; omega), Crc.loN, show k - (i + 1) + 1 = k - i by omega, List.getElem_take, ← Nat.shiftLeft_add_eq_or_of_lt (by have := UInt8.toNat_lt (l[k - (i + 1)]'(by omega)); omega), Nat.shiftLeft_eq]
      omega
    generalize hX : Crc.loN ((l.take k).drop (k - i)) = X at *
    have hX8 : X <<< 8 < 18446744073709551616 := by rw [Nat.shiftLeft_eq]; omega
    have hb8 : (l[k - (i + 1)]'(by omega)).toNat < 256 := UInt8.toNat_lt _
    repeat (first | ((with_reducible apply WpL.det); (· exact rfl); (· exact Det.found)) | ((with_reducible apply WpL.nilN)) | ((with_reducible apply WpL.nil)) | ((with_reducible apply Wp.seq)) | ((with_reducible apply Wp.region)) | ((with_reducible apply thenQ_normal)) | ((with_reducible apply Wp.block)) | ((with_reducible apply Wp.skip)) | ((with_reducible apply Wp.ret)) | ((with_reducible apply Wp.exit)) | ((with_reducible apply thenQ_exit)) | ((with_reducible apply thenQ_ret)) | ((with_reducible apply blockQ_normal)) | ((with_reducible apply blockQ_ret)) | ((with_reducible apply blockQ_same)) | ((with_reducible apply blockQ_other); (· exact rfl)) | ((with_reducible apply WpL.unguard); (· exact rfl); (· exact rfl); (· exact boolFound)) | ((with_reducible apply WpL.skipG); (· exact rfl); (· exact rfl); (· exact boolFound); (· exact rfl)) | ((with_reducible apply Wp.condT); (· exact rfl); (· exact boolFound)) | ((with_reducible apply Wp.condF); (· exact rfl); (· exact boolFound)))
    refine WpL.loadA rfl rfl hat (v := .int .u8 ((l[k - (i + 1)]'(by omega)).toNat : Int)) (by rw [show ((k : Int) - 1 - (i : Int)).toNat * 1 = k - (i + 1) by omega]; exact bv_get (by omega)) ?_
    repeat (first | ((with_reducible apply WpL.det); (· exact rfl); (· exact Det.found)) | ((with_reducible apply WpL.nilN)) | ((with_reducible apply WpL.nil)) | ((with_reducible apply Wp.seq)) | ((with_reducible apply Wp.region)) | ((with_reducible apply thenQ_normal)) | ((with_reducible apply Wp.block)) | ((with_reducible apply Wp.skip)) | ((with_reducible apply Wp.ret)) | ((with_reducible apply Wp.exit)) | ((with_reducible apply thenQ_exit)) | ((with_reducible apply thenQ_ret)) | ((with_reducible apply blockQ_normal)) | ((with_reducible apply blockQ_ret)) | ((with_reducible apply blockQ_same)) | ((with_reducible apply blockQ_other); (· exact rfl)) | ((with_reducible apply WpL.unguard); (· exact rfl); (· exact rfl); (· exact boolFound)) | ((with_reducible apply WpL.skipG); (· exact rfl); (· exact rfl); (· exact boolFound); (· exact rfl)) | ((with_reducible apply Wp.condT); (· exact rfl); (· exact boolFound)) | ((with_reducible apply Wp.condF); (· exact rfl); (· exact boolFound)))
    exact ⟨hlt, rfl, int_eq (by omega), int_eq (by rw [hnext]), rfl, trivial⟩
  · have hik : i = k := by omega
    subst hik
    repeat (first | ((with_reducible apply WpL.det); (· exact rfl); (· exact Det.found)) | ((with_reducible apply WpL.nilN)) | ((with_reducible apply WpL.nil)) | ((with_reducible apply Wp.seq)) | ((with_reducible apply Wp.region)) | ((with_reducible apply thenQ_normal)) | ((with_reducible apply Wp.block)) | ((with_reducible apply Wp.skip)) | ((with_reducible apply Wp.ret)) | ((with_reducible apply Wp.exit)) | ((with_reducible apply thenQ_exit)) | ((with_reducible apply thenQ_ret)) | ((with_reducible apply blockQ_normal)) | ((with_reducible apply blockQ_ret)) | ((with_reducible apply blockQ_same)) | ((with_reducible apply blockQ_other); (· exact rfl)) | ((with_reducible apply WpL.unguard); (· exact rfl); (· exact rfl); (· exact boolFound)) | ((with_reducible apply WpL.skipG); (· exact rfl); (· exact rfl); (· exact boolFound); (· exact rfl)) | ((with_reducible apply Wp.condT); (· exact rfl); (· exact boolFound)) | ((with_reducible apply Wp.condF); (· exact rfl); (· exact boolFound)))
    (with_reducible apply doneQ_one Try.results45); (· exact slotFound)
    rw [Nat.sub_self, List.drop_zero]
    exact ⟨rfl, rfl⟩

theorem uint32_any (A : Option Addr) (l : List UInt8) (n c : Nat) (hn : l.length = n) (hk : 4 ≤ n) (hlen : n ≤ 140737488355328) (w : World) (hr : Rd w A (bv l)) :
    Calls Try.prog 37 #[.slice A n c] w fun x w' => x = .returned (.int .u32 (Crc.loN (l.take 4) : Nat)) ∧ w = w' := by
  have h4 : Crc.loN (l.take 4) < 4294967296 := Nat.lt_of_lt_of_le (Crc.loN_lt _) (by rw [List.length_take, Nat.min_eq_left (by omega)]; decide)
  (refine calls_of (P := Try.prog) _ Try.func37 rfl Try.ntmps37 (Nat.le_of_ble_eq_true rfl) ?_; dsimp only [argE, Nat.reduceAdd])
  repeat (first | ((with_reducible apply WpL.det); (· exact rfl); (· exact Det.found)) | ((with_reducible apply WpL.nilN)) | ((with_reducible apply WpL.nil)) | ((with_reducible apply Wp.seq)) | ((with_reducible apply Wp.region)) | ((with_reducible apply thenQ_normal)) | ((with_reducible apply Wp.block)) | ((with_reducible apply Wp.skip)) | ((with_reducible apply Wp.ret)) | ((with_reducible apply Wp.exit)) | ((with_reducible apply thenQ_exit)) | ((with_reducible apply thenQ_ret)) | ((with_reducible apply blockQ_normal)) | ((with_reducible apply blockQ_ret)) | ((with_reducible apply blockQ_same)) | ((with_reducible apply blockQ_other); (· exact rfl)) | ((with_reducible apply WpL.unguard); (· exact rfl); (· exact rfl); (· exact boolFound)) | ((with_reducible apply WpL.skipG); (· exact rfl); (· exact rfl); (· exact boolFound); (· exact rfl)) | ((with_reducible apply Wp.condT); (· exact rfl); (· exact boolFound)) | ((with_reducible apply Wp.condF); (· exact rfl); (· exact boolFound)))
  (with_reducible apply WpL.call); (· exact rfl); (· exact Try.call45); (· exact Vals.found)
  refine (uint_any A l n c 4 hn hk (by omega) hlen w hr).mono ?_
  rintro x w1 ⟨rfl, rfl⟩
  refine ⟨_, rfl, ?_⟩
  generalize Crc.loN (l.take 4) = X at *
  repeat (first | ((with_reducible apply WpL.det); (· exact rfl); (· exact Det.found)) | ((with_reducible apply WpL.nilN)) | ((with_reducible apply WpL.nil)) | ((with_reducible apply Wp.seq)) | ((with_reducible apply Wp.region)) | ((with_reducible apply thenQ_normal)) | ((with_reducible apply Wp.block)) | ((with_reducible apply Wp.skip)) | ((with_reducible apply Wp.ret)) | ((with_reducible apply Wp.exit)) | ((with_reducible apply thenQ_exit)) | ((with_reducible apply thenQ_ret)) | ((with_reducible apply blockQ_normal)) | ((with_reducible apply blockQ_ret)) | ((with_reducible apply blockQ_same)) | ((with_reducible apply blockQ_other); (· exact rfl)) | ((with_reducible apply WpL.unguard); (· exact rfl); (· exact rfl); (· exact boolFound)) | ((with_reducible apply WpL.skipG); (· exact rfl); (· exact rfl); (· exact boolFound); (· exact rfl)) | ((with_reducible apply Wp.condT); (· exact rfl); (· exact boolFound)) | ((with_reducible apply Wp.condF); (· exact rfl); (· exact boolFound)))
  (with_reducible apply doneQ_one Try.results37); (· exact slotFound)
  exact ⟨rfl, rfl⟩

theorem refSeal_any (A : Option Addr) (l : List UInt8) (n c : Nat) (hn : l.length = n) (hlen : n + 4 ≤ 140737488355328) (w : World) (hr : Rd w A (bv l)) :
    Calls Try.prog 27 #[.slice A n c] w fun x w' => ∃ v', x = .returned v' ∧ SlB w' w.heap.size 5 v' (Crc.sealed l) ∧ Below w.heap.size w w' := by
  have hm : n ≤ maxLen := by simp only [maxLen]; omega
  (refine calls_of (P := Try.prog) _ Try.func27 rfl Try.ntmps27 (Nat.le_of_ble_eq_true rfl) ?_; dsimp only [argE, Nat.reduceAdd])
  repeat (first | ((with_reducible apply WpL.det); (· exact rfl); (· exact Det.found)) | ((with_reducible apply WpL.nilN)) | ((with_reducible apply WpL.nil)) | ((with_reducible apply Wp.seq)) | ((with_reducible apply Wp.region)) | ((with_reducible apply thenQ_normal)) | ((with_reducible apply Wp.block)) | ((with_reducible apply Wp.skip)) | ((with_reducible apply Wp.ret)) | ((with_reducible apply Wp.exit)) | ((with_reducible apply thenQ_exit)) | ((with_reducible apply thenQ_ret)) | ((with_reducible apply blockQ_normal)) | ((with_reducible apply blockQ_ret)) | ((with_reducible apply blockQ_same)) | ((with_reducible apply blockQ_other); (· exact rfl)) | ((with_reducible apply WpL.unguard); (· exact rfl); (· exact rfl); (· exact boolFound)) | ((with_reducible apply WpL.skipG); (· exact rfl); (· exact rfl); (· exact boolFound); (· exact rfl)) | ((with_reducible apply Wp.condT); (· exact rfl); (· exact boolFound)) | ((with_reducible apply Wp.condF); (· exact rfl); (· exact boolFound)))
  refine WpL.appendB rfl Env.found Env.found (SlB.nil _ _ _) hr hn (by simp; omega) (Below.refl _ _) ?_
  intro v1 w1 hv1 hb1 _ _
  rw [List.nil_append] at hv1
  repeat (first | ((with_reducible apply WpL.det); (· exact rfl); (· exact Det.found)) | ((with_reducible apply WpL.nilN)) | ((with_reducible apply WpL.nil)) | ((with_reducible apply Wp.seq)) | ((with_reducible apply Wp.region)) | ((with_reducible apply thenQ_normal)) | ((with_reducible apply Wp.block)) | ((with_reducible apply Wp.skip)) | ((with_reducible apply Wp.ret)) | ((with_reducible apply Wp.exit)) | ((with_reducible apply thenQ_exit)) | ((with_reducible apply thenQ_ret)) | ((with_reducible apply blockQ_normal)) | ((with_reducible apply blockQ_ret)) | ((with_reducible apply blockQ_same)) | ((with_reducible apply blockQ_other); (· exact rfl)) | ((with_reducible apply WpL.unguard); (· exact rfl); (· exact rfl); (· exact boolFound)) | ((with_reducible apply WpL.skipG); (· exact rfl); (· exact rfl); (· exact boolFound); (· exact rfl)) | ((with_reducible apply Wp.condT); (· exact rfl); (· exact boolFound)) | ((with_reducible apply Wp.condF); (· exact rfl); (· exact boolFound)))
  (with_reducible apply WpL.call); (· exact rfl); (· exact Try.call40); (· exact Vals.found)
  refine (refSum_any A l n c hn hm w1 (hr.below hb1)).mono ?_
  rintro x w2 ⟨rfl, rfl⟩
  refine ⟨_, rfl, ?_⟩
  have hs := Crc.sum_lt l
  have hlo : Crc.sealed l = l ++ [UInt8.ofNat (Crc.sum l), UInt8.ofNat (Crc.sum l >>> 8), UInt8.ofNat (Crc.sum l >>> 16), UInt8.ofNat (Crc.sum l >>> 24)] := rfl
  rw [hlo]
  generalize Crc.sum l = S at *
  repeat (first | ((with_reducible apply WpL.det); (· exact rfl); (· exact Det.found)) | ((with_reducible apply WpL.nilN)) | ((with_reducible apply WpL.nil)) | ((with_reducible apply Wp.seq)) | ((with_reducible apply Wp.region)) | ((with_reducible apply thenQ_normal)) | ((with_reducible apply Wp.block)) | ((with_reducible apply Wp.skip)) | ((with_reducible apply Wp.ret)) | ((with_reducible apply Wp.exit)) | ((with_reducible apply thenQ_exit)) | ((with_reducible apply thenQ_ret)) | ((with_reducible apply blockQ_normal)) | ((with_reducible apply blockQ_ret)) | ((with_reducible apply blockQ_same)) | ((with_reducible apply blockQ_other); (· exact rfl)) | ((with_reducible apply WpL.unguard); (· exact rfl); (· exact rfl); (· exact boolFound)) | ((with_reducible apply WpL.skipG); (· exact rfl); (· exact rfl); (· exact boolFound); (· exact rfl)) | ((with_reducible apply Wp.condT); (· exact rfl); (· exact boolFound)) | ((with_reducible apply Wp.condF); (· exact rfl); (· exact boolFound)))
  refine WpL.buildSlice (bytes := 1) rfl BVals.found (oneAll_spec rfl) rfl (by decide) ?_
  intro w2 hb2 hs2 hg2
  repeat (first | ((with_reducible apply WpL.det); (· exact rfl); (· exact Det.found)) | ((with_reducible apply WpL.nilN)) | ((with_reducible apply WpL.nil)) | ((with_reducible apply Wp.seq)) | ((with_reducible apply Wp.region)) | ((with_reducible apply thenQ_normal)) | ((with_reducible apply Wp.block)) | ((with_reducible apply Wp.skip)) | ((with_reducible apply Wp.ret)) | ((with_reducible apply Wp.exit)) | ((with_reducible apply thenQ_exit)) | ((with_reducible apply thenQ_ret)) | ((with_reducible apply blockQ_normal)) | ((with_reducible apply blockQ_ret)) | ((with_reducible apply blockQ_same)) | ((with_reducible apply blockQ_other); (· exact rfl)) | ((with_reducible apply WpL.unguard); (· exact rfl); (· exact rfl); (· exact boolFound)) | ((with_reducible apply WpL.skipG); (· exact rfl); (· exact rfl); (· exact boolFound); (· exact rfl)) | ((with_reducible apply Wp.condT); (· exact rfl); (· exact boolFound)) | ((with_reducible apply Wp.condF); (· exact rfl); (· exact boolFound)))
  refine WpL.appendB (l := [UInt8.ofNat S, UInt8.ofNat (S >>> 8), UInt8.ofNat (S >>> 16), UInt8.ofNat (S >>> 24)]) rfl Env.found Env.found (hv1.below hb2) (.inr ⟨_, rfl, by simpa [bv] using hg2.at_⟩) rfl (by simp; omega) (hb1.on hb2) ?_
  intro v3 w3 hv3 hb3 _ _
  repeat (first | ((with_reducible apply WpL.det); (· exact rfl); (· exact Det.found)) | ((with_reducible apply WpL.nilN)) | ((with_reducible apply WpL.nil)) | ((with_reducible apply Wp.seq)) | ((with_reducible apply Wp.region)) | ((with_reducible apply thenQ_normal)) | ((with_reducible apply Wp.block)) | ((with_reducible apply Wp.skip)) | ((with_reducible apply Wp.ret)) | ((with_reducible apply Wp.exit)) | ((with_reducible apply thenQ_exit)) | ((with_reducible apply thenQ_ret)) | ((with_reducible apply blockQ_normal)) | ((with_reducible apply blockQ_ret)) | ((with_reducible apply blockQ_same)) | ((with_reducible apply blockQ_other); (· exact rfl)) | ((with_reducible apply WpL.unguard); (· exact rfl); (· exact rfl); (· exact boolFound)) | ((with_reducible apply WpL.skipG); (· exact rfl); (· exact rfl); (· exact boolFound); (· exact rfl)) | ((with_reducible apply Wp.condT); (· exact rfl); (· exact boolFound)) | ((with_reducible apply Wp.condF); (· exact rfl); (· exact boolFound)))
  (with_reducible apply doneQ_one Try.results27); (· exact slotFound)
  exact ⟨_, rfl, hv3, hb3⟩

/-- What Open answers. -/
def openOk (l : List UInt8) (n : Nat) : Prop := 4 ≤ n ∧ Crc.loN (l.drop (n - 4)) = Crc.sum (l.take (n - 4))
theorem openOk_iff {l : List UInt8} {n : Nat} (hn : l.length = n) : openOk l n ↔ Crc.good l := by
  subst hn
  unfold openOk Crc.good
  refine and_congr_right fun h => ⟨fun h2 => ?_, fun h2 => ?_⟩
  · rw [← h2]
    have := Crc.loB_loN (l.drop (l.length - 4))
    rw [List.length_drop, show l.length - (l.length - 4) = 4 by omega] at this
    exact this.symm
  · rw [h2, Crc.loN_loB, Nat.mod_eq_of_lt (Crc.sum_lt _)]

theorem open_any (A : Option Addr) (l : List UInt8) (n c : Nat) (hn : l.length = n) (hnc : n ≤ c) (hlen : n ≤ 140737488355328) (w : World) (hr : Rd w A (bv l)) :
    Calls Try.prog 36 #[.slice A n c] w fun x w' => Below w.heap.size w w' ∧
      ((Crc.good l ∧ ∃ v', x = .returned (.tuple #[v', .int .i64 0]) ∧ SlB w' w.heap.size 5 v' (l.take (n - 4))) ∨ (¬ Crc.good l ∧ x = .returned (.tuple #[.slice none 0 0, .int .i64 30]))) := by
  rw [← openOk_iff hn]
  (refine calls_of (P := Try.prog) _ Try.func36 rfl Try.ntmps36 (Nat.le_of_ble_eq_true rfl) ?_; dsimp only [argE, Nat.reduceAdd])
  repeat (first | ((with_reducible apply WpL.det); (· exact rfl); (· exact Det.found)) | ((with_reducible apply WpL.nilN)) | ((with_reducible apply WpL.nil)) | ((with_reducible apply Wp.seq)) | ((with_reducible apply Wp.region)) | ((with_reducible apply thenQ_normal)) | ((with_reducible apply Wp.block)) | ((with_reducible apply Wp.skip)) | ((with_reducible apply Wp.ret)) | ((with_reducible apply Wp.exit)) | ((with_reducible apply thenQ_exit)) | ((with_reducible apply thenQ_ret)) | ((with_reducible apply blockQ_normal)) | ((with_reducible apply blockQ_ret)) | ((with_reducible apply blockQ_same)) | ((with_reducible apply blockQ_other); (· exact rfl)) | ((with_reducible apply WpL.unguard); (· exact rfl); (· exact rfl); (· exact boolFound)) | ((with_reducible apply WpL.skipG); (· exact rfl); (· exact rfl); (· exact boolFound); (· exact rfl)) | ((with_reducible apply Wp.condT); (· exact rfl); (· exact boolFound)) | ((with_reducible apply Wp.condF); (· exact rfl); (· exact boolFound)))
  by_cases h4 : n < 4
  · (refine Wp.drawD 13 (by kernel_rfl) (by kernel_rfl) rfl ?_; dsimp only [List.take, List.drop])
    (repeat (first | ((with_reducible apply RgD.det); (· exact rfl); (· exact rfl); (· exact rfl); (· exact rfl); (· exact Det.found)) | ((with_reducible apply RgD.detG); (· exact rfl); (· exact rfl); (· exact boolFound); (· exact rfl); (· exact rfl); (· exact rfl); (· exact rfl); (· exact Det.found)) | ((with_reducible apply RgD.skipG); (· exact rfl); (· exact rfl); (· exact boolFound); (· exact rfl); (· exact rfl); (· exact rfl); (· exact rfl))))
    refine RgD.fin0 fun w1 hb1 => ?_
    repeat (first | ((with_reducible apply WpL.det); (· exact rfl); (· exact Det.found)) | ((with_reducible apply WpL.nilN)) | ((with_reducible apply WpL.nil)) | ((with_reducible apply Wp.seq)) | ((with_reducible apply Wp.region)) | ((with_reducible apply thenQ_normal)) | ((with_reducible apply Wp.block)) | ((with_reducible apply Wp.skip)) | ((with_reducible apply Wp.ret)) | ((with_reducible apply Wp.exit)) | ((with_reducible apply thenQ_exit)) | ((with_reducible apply thenQ_ret)) | ((with_reducible apply blockQ_normal)) | ((with_reducible apply blockQ_ret)) | ((with_reducible apply blockQ_same)) | ((with_reducible apply blockQ_other); (· exact rfl)) | ((with_reducible apply WpL.unguard); (· exact rfl); (· exact rfl); (· exact boolFound)) | ((with_reducible apply WpL.skipG); (· exact rfl); (· exact rfl); (· exact boolFound); (· exact rfl)) | ((with_reducible apply Wp.condT); (· exact rfl); (· exact boolFound)) | ((with_reducible apply Wp.condF); (· exact rfl); (· exact boolFound)))
    (with_reducible apply doneQ_two Try.results36); (· exact slotFound); (· exact slotFound)
    exact ⟨hb1, .inr ⟨fun h => by have := h.1; omega, rfl⟩⟩
  · have h4' : 4 ≤ n := by omega
    have hA : ∃ a, A = some a ∧ At w a (bv l) := hr.at_ (i := 0) (by simp; omega)
    obtain ⟨a, rfl, hat⟩ := hA
    have hi : (n : Int) - 4 = ((n - 4 : Nat) : Int) := by omega
    rw [hi]
    (refine Wp.drawD 13 (by kernel_rfl) (by kernel_rfl) rfl ?_; dsimp only [List.take, List.drop])
    (repeat (first | ((with_reducible apply RgD.det); (· exact rfl); (· exact rfl); (· exact rfl); (· exact rfl); (· exact Det.found)) | ((with_reducible apply RgD.detG); (· exact rfl); (· exact rfl); (· exact boolFound); (· exact rfl); (· exact rfl); (· exact rfl); (· exact rfl); (· exact Det.found)) | ((with_reducible apply RgD.skipG); (· exact rfl); (· exact rfl); (· exact boolFound); (· exact rfl); (· exact rfl); (· exact rfl); (· exact rfl))))
    refine RgD.known0 (c := .int .u32 ((Crc.loN (l.drop (n - 4)) : Nat) : Int)) rfl rfl rfl rfl (fun w1 hb1 => ?_) ?_
    · (with_reducible apply WpL.callG); (· exact rfl); (· exact rfl); (· exact boolFound); (· exact rfl); (· exact Try.call37); (· exact Vals.found)
      refine (uint32_any _ (l.drop (n - 4)) _ _ (by simp; omega) (by omega) (by omega) w1 (hr.dropB (by omega) |>.below hb1)).mono ?_
      rintro x w2 ⟨rfl, rfl⟩
      refine ⟨_, rfl, ?_⟩
      rw [List.take_of_length_le (by simp; omega)]
      exact WpL.nil ⟨⟨hb1, Below.refl _ _⟩, Env.set_same _ _ _⟩
    (repeat (first | ((with_reducible apply RgD.det); (· exact rfl); (· exact rfl); (· exact rfl); (· exact rfl); (· exact Det.found)) | ((with_reducible apply RgD.detG); (· exact rfl); (· exact rfl); (· exact boolFound); (· exact rfl); (· exact rfl); (· exact rfl); (· exact rfl); (· exact Det.found)) | ((with_reducible apply RgD.skipG); (· exact rfl); (· exact rfl); (· exact boolFound); (· exact rfl); (· exact rfl); (· exact rfl); (· exact rfl))))
    refine RgD.known0 (c := .int .u32 ((Crc.sum (l.take (n - 4)) : Nat) : Int)) rfl rfl rfl rfl (fun w1 hb1 => ?_) ?_
    · (with_reducible apply WpL.callG); (· exact rfl); (· exact rfl); (· exact boolFound); (· exact rfl); (· exact Try.call43); (· exact Vals.found)
      refine (sum_any _ (l.take (n - 4)) _ _ (by simp; omega) (by simp only [maxLen]; omega) w1 (by rw [bv_take]; exact (hr.take _).below hb1)).mono ?_
      rintro x w2 ⟨rfl, hb2⟩
      exact ⟨_, rfl, WpL.nil ⟨⟨hb1.on hb2, hb2⟩, Env.set_same _ _ _⟩⟩
    (repeat (first | ((with_reducible apply RgD.det); (· exact rfl); (· exact rfl); (· exact rfl); (· exact rfl); (· exact Det.found)) | ((with_reducible apply RgD.detG); (· exact rfl); (· exact rfl); (· exact boolFound); (· exact rfl); (· exact rfl); (· exact rfl); (· exact rfl); (· exact Det.found)) | ((with_reducible apply RgD.skipG); (· exact rfl); (· exact rfl); (· exact boolFound); (· exact rfl); (· exact rfl); (· exact rfl); (· exact rfl))))
    refine RgD.fin0 fun w1 hb1 => ?_
    repeat (first | ((with_reducible apply WpL.det); (· exact rfl); (· exact Det.found)) | ((with_reducible apply WpL.nilN)) | ((with_reducible apply WpL.nil)) | ((with_reducible apply Wp.seq)) | ((with_reducible apply Wp.region)) | ((with_reducible apply thenQ_normal)) | ((with_reducible apply Wp.block)) | ((with_reducible apply Wp.skip)) | ((with_reducible apply Wp.ret)) | ((with_reducible apply Wp.exit)) | ((with_reducible apply thenQ_exit)) | ((with_reducible apply thenQ_ret)) | ((with_reducible apply blockQ_normal)) | ((with_reducible apply blockQ_ret)) | ((with_reducible apply blockQ_same)) | ((with_reducible apply blockQ_other); (· exact rfl)) | ((with_reducible apply WpL.unguard); (· exact rfl); (· exact rfl); (· exact boolFound)) | ((with_reducible apply WpL.skipG); (· exact rfl); (· exact rfl); (· exact boolFound); (· exact rfl)) | ((with_reducible apply Wp.condT); (· exact rfl); (· exact boolFound)) | ((with_reducible apply Wp.condF); (· exact rfl); (· exact boolFound)))
    refine Wp.cond _ rfl (fun h => ?_) (fun h => ?_)
    · have hne : Crc.loN (l.drop (n - 4)) ≠ Crc.sum (l.take (n - 4)) := by simp at h; omega
      repeat (first | ((with_reducible apply WpL.det); (· exact rfl); (· exact Det.found)) | ((with_reducible apply WpL.nilN)) | ((with_reducible apply WpL.nil)) | ((with_reducible apply Wp.seq)) | ((with_reducible apply Wp.region)) | ((with_reducible apply thenQ_normal)) | ((with_reducible apply Wp.block)) | ((with_reducible apply Wp.skip)) | ((with_reducible apply Wp.ret)) | ((with_reducible apply Wp.exit)) | ((with_reducible apply thenQ_exit)) | ((with_reducible apply thenQ_ret)) | ((with_reducible apply blockQ_normal)) | ((with_reducible apply blockQ_ret)) | ((with_reducible apply blockQ_same)) | ((with_reducible apply blockQ_other); (· exact rfl)) | ((with_reducible apply WpL.unguard); (· exact rfl); (· exact rfl); (· exact boolFound)) | ((with_reducible apply WpL.skipG); (· exact rfl); (· exact rfl); (· exact boolFound); (· exact rfl)) | ((with_reducible apply Wp.condT); (· exact rfl); (· exact boolFound)) | ((with_reducible apply Wp.condF); (· exact rfl); (· exact boolFound)))
      (with_reducible apply doneQ_two Try.results36); (· exact slotFound); (· exact slotFound)
      exact ⟨hb1, .inr ⟨fun h => hne h.2, rfl⟩⟩
    · have heq : Crc.loN (l.drop (n - 4)) = Crc.sum (l.take (n - 4)) := by simp at h; omega
      repeat (first | ((with_reducible apply WpL.det); (· exact rfl); (· exact Det.found)) | ((with_reducible apply WpL.nilN)) | ((with_reducible apply WpL.nil)) | ((with_reducible apply Wp.seq)) | ((with_reducible apply Wp.region)) | ((with_reducible apply thenQ_normal)) | ((with_reducible apply Wp.block)) | ((with_reducible apply Wp.skip)) | ((with_reducible apply Wp.ret)) | ((with_reducible apply Wp.exit)) | ((with_reducible apply thenQ_exit)) | ((with_reducible apply thenQ_ret)) | ((with_reducible apply blockQ_normal)) | ((with_reducible apply blockQ_ret)) | ((with_reducible apply blockQ_same)) | ((with_reducible apply blockQ_other); (· exact rfl)) | ((with_reducible apply WpL.unguard); (· exact rfl); (· exact rfl); (· exact boolFound)) | ((with_reducible apply WpL.skipG); (· exact rfl); (· exact rfl); (· exact boolFound); (· exact rfl)) | ((with_reducible apply Wp.condT); (· exact rfl); (· exact boolFound)) | ((with_reducible apply Wp.condF); (· exact rfl); (· exact boolFound)))
      (with_reducible apply WpL.call); (· exact rfl); (· exact Try.call44); (· exact Vals.found)
      refine (clone_any _ (l.take (n - 4)) _ _ (by simp; omega) (by omega) w1 (by rw [bv_take]; exact (hr.take _).below hb1)).mono ?_
      rintro x w2 ⟨v2, rfl, hv2, hb2⟩
      refine ⟨_, rfl, ?_⟩
      repeat (first | ((with_reducible apply WpL.det); (· exact rfl); (· exact Det.found)) | ((with_reducible apply WpL.nilN)) | ((with_reducible apply WpL.nil)) | ((with_reducible apply Wp.seq)) | ((with_reducible apply Wp.region)) | ((with_reducible apply thenQ_normal)) | ((with_reducible apply Wp.block)) | ((with_reducible apply Wp.skip)) | ((with_reducible apply Wp.ret)) | ((with_reducible apply Wp.exit)) | ((with_reducible apply thenQ_exit)) | ((with_reducible apply thenQ_ret)) | ((with_reducible apply blockQ_normal)) | ((with_reducible apply blockQ_ret)) | ((with_reducible apply blockQ_same)) | ((with_reducible apply blockQ_other); (· exact rfl)) | ((with_reducible apply WpL.unguard); (· exact rfl); (· exact rfl); (· exact boolFound)) | ((with_reducible apply WpL.skipG); (· exact rfl); (· exact rfl); (· exact boolFound); (· exact rfl)) | ((with_reducible apply Wp.condT); (· exact rfl); (· exact boolFound)) | ((with_reducible apply Wp.condF); (· exact rfl); (· exact boolFound)))
      (with_reducible apply doneQ_two Try.results36); (· exact slotFound); (· exact slotFound)
      exact ⟨hb1.on hb2, .inl ⟨⟨h4', heq⟩, _, rfl, hv2.mono hb1.size⟩⟩

theorem good_iff_bytes {l : List UInt8} {n : Nat} (hn : l.length = n) (h4 : 4 ≤ n) : Crc.good l ↔
    ((l[n - 4]'(by omega)).toNat = Crc.sum (l.take (n - 4)) % 256 ∧ (l[n - 4 + 1]'(by omega)).toNat = (Crc.sum (l.take (n - 4)) >>> 8) % 256 ∧
      (l[n - 4 + 2]'(by omega)).toNat = (Crc.sum (l.take (n - 4)) >>> 16) % 256 ∧ (l[n - 4 + 3]'(by omega)).toNat = (Crc.sum (l.take (n - 4)) >>> 24) % 256) := by
  subst hn
  have hd : l.drop (l.length - 4) = [l[l.length - 4], l[l.length - 4 + 1], l[l.length - 4 + 2], l[l.length - 4 + 3]] := by
    rw [List.drop_eq_getElem_cons (by omega), List.drop_eq_getElem_cons (by omega), List.drop_eq_getElem_cons (by omega), List.drop_eq_getElem_cons (by omega), List.drop_eq_nil_of_le (by omega)]
  unfold Crc.good
  rw [hd]
  generalize Crc.sum (l.take (l.length - 4)) = S
  have hl : Crc.loB S 4 = [UInt8.ofNat S, UInt8.ofNat (S >>> 8), UInt8.ofNat (S >>> 16), UInt8.ofNat (S >>> 24)] := rfl
  rw [hl]
  simp only [h4, true_and, List.cons.injEq, and_true, ← UInt8.toNat_inj, UInt8.toNat_ofNat']

theorem refOpen_any (A : Option Addr) (l : List UInt8) (n c : Nat) (hn : l.length = n) (hnc : n ≤ c) (hlen : n ≤ 140737488355328) (w : World) (hr : Rd w A (bv l)) :
    Calls Try.prog 41 #[.slice A n c] w fun x w' => Below w.heap.size w w' ∧
      ((Crc.good l ∧ ∃ v', x = .returned (.tuple #[v', .int .i64 0]) ∧ SlB w' w.heap.size 5 v' (l.take (n - 4))) ∨ (¬ Crc.good l ∧ x = .returned (.tuple #[.slice none 0 0, .int .i64 30]))) := by
  (refine calls_of (P := Try.prog) _ Try.func41 rfl Try.ntmps41 (Nat.le_of_ble_eq_true rfl) ?_; dsimp only [argE, Nat.reduceAdd])
  repeat (first | ((with_reducible apply WpL.det); (· exact rfl); (· exact Det.found)) | ((with_reducible apply WpL.nilN)) | ((with_reducible apply WpL.nil)) | ((with_reducible apply Wp.seq)) | ((with_reducible apply Wp.region)) | ((with_reducible apply thenQ_normal)) | ((with_reducible apply Wp.block)) | ((with_reducible apply Wp.skip)) | ((with_reducible apply Wp.ret)) | ((with_reducible apply Wp.exit)) | ((with_reducible apply thenQ_exit)) | ((with_reducible apply thenQ_ret)) | ((with_reducible apply blockQ_normal)) | ((with_reducible apply blockQ_ret)) | ((with_reducible apply blockQ_same)) | ((with_reducible apply blockQ_other); (· exact rfl)) | ((with_reducible apply WpL.unguard); (· exact rfl); (· exact rfl); (· exact boolFound)) | ((with_reducible apply WpL.skipG); (· exact rfl); (· exact rfl); (· exact boolFound); (· exact rfl)) | ((with_reducible apply Wp.condT); (· exact rfl); (· exact boolFound)) | ((with_reducible apply Wp.condF); (· exact rfl); (· exact boolFound)))
  by_cases h4 : n < 4
  · repeat (first | ((with_reducible apply WpL.det); (· exact rfl); (· exact Det.found)) | ((with_reducible apply WpL.nilN)) | ((with_reducible apply WpL.nil)) | ((with_reducible apply Wp.seq)) | ((with_reducible apply Wp.region)) | ((with_reducible apply thenQ_normal)) | ((with_reducible apply Wp.block)) | ((with_reducible apply Wp.skip)) | ((with_reducible apply Wp.ret)) | ((with_reducible apply Wp.exit)) | ((with_reducible apply thenQ_exit)) | ((with_reducible apply thenQ_ret)) | ((with_reducible apply blockQ_normal)) | ((with_reducible apply blockQ_ret)) | ((with_reducible apply blockQ_same)) | ((with_reducible apply blockQ_other); (· exact rfl)) | ((with_reducible apply WpL.unguard); (· exact rfl); (· exact rfl); (· exact boolFound)) | ((with_reducible apply WpL.skipG); (· exact rfl); (· exact rfl); (· exact boolFound); (· exact rfl)) | ((with_reducible apply Wp.condT); (· exact rfl); (· exact boolFound)) | ((with_reducible apply Wp.condF); (· exact rfl); (· exact boolFound)))
    (with_reducible apply doneQ_two Try.results41); (· exact slotFound); (· exact slotFound)
    exact ⟨Below.refl _ _, .inr ⟨fun h => by have := h.1; omega, rfl⟩⟩
  · have h4' : 4 ≤ n := by omega
    have hA : ∃ a, A = some a ∧ At w a (bv l) := hr.at_ (i := 0) (by simp; omega)
    obtain ⟨a, rfl, hat⟩ := hA
    have hi : (n : Int) - 4 = ((n - 4 : Nat) : Int) := by omega
    rw [hi, good_iff_bytes hn h4']
    have hS := Crc.sum_lt (l.take (n - 4))
    repeat (first | ((with_reducible apply WpL.det); (· exact rfl); (· exact Det.found)) | ((with_reducible apply WpL.nilN)) | ((with_reducible apply WpL.nil)) | ((with_reducible apply Wp.seq)) | ((with_reducible apply Wp.region)) | ((with_reducible apply thenQ_normal)) | ((with_reducible apply Wp.block)) | ((with_reducible apply Wp.skip)) | ((with_reducible apply Wp.ret)) | ((with_reducible apply Wp.exit)) | ((with_reducible apply thenQ_exit)) | ((with_reducible apply thenQ_ret)) | ((with_reducible apply blockQ_normal)) | ((with_reducible apply blockQ_ret)) | ((with_reducible apply blockQ_same)) | ((with_reducible apply blockQ_other); (· exact rfl)) | ((with_reducible apply WpL.unguard); (· exact rfl); (· exact rfl); (· exact boolFound)) | ((with_reducible apply WpL.skipG); (· exact rfl); (· exact rfl); (· exact boolFound); (· exact rfl)) | ((with_reducible apply Wp.condT); (· exact rfl); (· exact boolFound)) | ((with_reducible apply Wp.condF); (· exact rfl); (· exact boolFound)))
    (with_reducible apply WpL.call); (· exact rfl); (· exact Try.call40); (· exact Vals.found)
    refine (refSum_any _ (l.take (n - 4)) _ _ (by simp; omega) (by simp only [maxLen]; omega) w (by rw [bv_take]; exact hr.take _)).mono ?_
    rintro x w1 ⟨rfl, rfl⟩
    refine ⟨_, rfl, ?_⟩
    generalize Crc.sum (l.take (n - 4)) = S at *
    repeat (first | ((with_reducible apply WpL.det); (· exact rfl); (· exact Det.found)) | ((with_reducible apply WpL.nilN)) | ((with_reducible apply WpL.nil)) | ((with_reducible apply Wp.seq)) | ((with_reducible apply Wp.region)) | ((with_reducible apply thenQ_normal)) | ((with_reducible apply Wp.block)) | ((with_reducible apply Wp.skip)) | ((with_reducible apply Wp.ret)) | ((with_reducible apply Wp.exit)) | ((with_reducible apply thenQ_exit)) | ((with_reducible apply thenQ_ret)) | ((with_reducible apply blockQ_normal)) | ((with_reducible apply blockQ_ret)) | ((with_reducible apply blockQ_same)) | ((with_reducible apply blockQ_other); (· exact rfl)) | ((with_reducible apply WpL.unguard); (· exact rfl); (· exact rfl); (· exact boolFound)) | ((with_reducible apply WpL.skipG); (· exact rfl); (· exact rfl); (· exact boolFound); (· exact rfl)) | ((with_reducible apply Wp.condT); (· exact rfl); (· exact boolFound)) | ((with_reducible apply Wp.condF); (· exact rfl); (· exact boolFound)))
    refine WpL.loadA rfl rfl hat (v := .int .u8 ((l[n - 4]'(by omega)).toNat : Int)) (bv_get (by omega)) ?_
    generalize (l[n - 4]'(by omega)).toNat = x0
    by_cases h0 : x0 = S % 256
    rotate_left
    · repeat (first | ((with_reducible apply WpL.det); (· exact rfl); (· exact Det.found)) | ((with_reducible apply WpL.nilN)) | ((with_reducible apply WpL.nil)) | ((with_reducible apply Wp.seq)) | ((with_reducible apply Wp.region)) | ((with_reducible apply thenQ_normal)) | ((with_reducible apply Wp.block)) | ((with_reducible apply Wp.skip)) | ((with_reducible apply Wp.ret)) | ((with_reducible apply Wp.exit)) | ((with_reducible apply thenQ_exit)) | ((with_reducible apply thenQ_ret)) | ((with_reducible apply blockQ_normal)) | ((with_reducible apply blockQ_ret)) | ((with_reducible apply blockQ_same)) | ((with_reducible apply blockQ_other); (· exact rfl)) | ((with_reducible apply WpL.unguard); (· exact rfl); (· exact rfl); (· exact boolFound)) | ((with_reducible apply WpL.skipG); (· exact rfl); (· exact rfl); (· exact boolFound); (· exact rfl)) | ((with_reducible apply Wp.condT); (· exact rfl); (· exact boolFound)) | ((with_reducible apply Wp.condF); (· exact rfl); (· exact boolFound)))
      (with_reducible apply doneQ_two Try.results41); (· exact slotFound); (· exact slotFound)
      exact ⟨Below.refl _ _, .inr ⟨fun h => h0 h.1, rfl⟩⟩
    repeat (first | ((with_reducible apply WpL.det); (· exact rfl); (· exact Det.found)) | ((with_reducible apply WpL.nilN)) | ((with_reducible apply WpL.nil)) | ((with_reducible apply Wp.seq)) | ((with_reducible apply Wp.region)) | ((with_reducible apply thenQ_normal)) | ((with_reducible apply Wp.block)) | ((with_reducible apply Wp.skip)) | ((with_reducible apply Wp.ret)) | ((with_reducible apply Wp.exit)) | ((with_reducible apply thenQ_exit)) | ((with_reducible apply thenQ_ret)) | ((with_reducible apply blockQ_normal)) | ((with_reducible apply blockQ_ret)) | ((with_reducible apply blockQ_same)) | ((with_reducible apply blockQ_other); (· exact rfl)) | ((with_reducible apply WpL.unguard); (· exact rfl); (· exact rfl); (· exact boolFound)) | ((with_reducible apply WpL.skipG); (· exact rfl); (· exact rfl); (· exact boolFound); (· exact rfl)) | ((with_reducible apply Wp.condT); (· exact rfl); (· exact boolFound)) | ((with_reducible apply Wp.condF); (· exact rfl); (· exact boolFound)))
    refine WpL.loadA rfl rfl hat (v := .int .u8 ((l[n - 4 + 1]'(by omega)).toNat : Int)) (by first | exact bv_get (by omega) | (rw [Nat.mul_one]; exact bv_get (by omega)) | skip) ?_
    generalize (l[n - 4 + 1]'(by omega)).toNat = x1
    by_cases h1 : x1 = (S >>> 8) % 256
    rotate_left
    · repeat (first | ((with_reducible apply WpL.det); (· exact rfl); (· exact Det.found)) | ((with_reducible apply WpL.nilN)) | ((with_reducible apply WpL.nil)) | ((with_reducible apply Wp.seq)) | ((with_reducible apply Wp.region)) | ((with_reducible apply thenQ_normal)) | ((with_reducible apply Wp.block)) | ((with_reducible apply Wp.skip)) | ((with_reducible apply Wp.ret)) | ((with_reducible apply Wp.exit)) | ((with_reducible apply thenQ_exit)) | ((with_reducible apply thenQ_ret)) | ((with_reducible apply blockQ_normal)) | ((with_reducible apply blockQ_ret)) | ((with_reducible apply blockQ_same)) | ((with_reducible apply blockQ_other); (· exact rfl)) | ((with_reducible apply WpL.unguard); (· exact rfl); (· exact rfl); (· exact boolFound)) | ((with_reducible apply WpL.skipG); (· exact rfl); (· exact rfl); (· exact boolFound); (· exact rfl)) | ((with_reducible apply Wp.condT); (· exact rfl); (· exact boolFound)) | ((with_reducible apply Wp.condF); (· exact rfl); (· exact boolFound)))
      (with_reducible apply doneQ_two Try.results41); (· exact slotFound); (· exact slotFound)
      exact ⟨Below.refl _ _, .inr ⟨fun h => h1 h.2.1, rfl⟩⟩
    repeat (first | ((with_reducible apply WpL.det); (· exact rfl); (· exact Det.found)) | ((with_reducible apply WpL.nilN)) | ((with_reducible apply WpL.nil)) | ((with_reducible apply Wp.seq)) | ((with_reducible apply Wp.region)) | ((with_reducible apply thenQ_normal)) | ((with_reducible apply Wp.block)) | ((with_reducible apply Wp.skip)) | ((with_reducible apply Wp.ret)) | ((with_reducible apply Wp.exit)) | ((with_reducible apply thenQ_exit)) | ((with_reducible apply thenQ_ret)) | ((with_reducible apply blockQ_normal)) | ((with_reducible apply blockQ_ret)) | ((with_reducible apply blockQ_same)) | ((with_reducible apply blockQ_other); (· exact rfl)) | ((with_reducible apply WpL.unguard); (· exact rfl); (· exact rfl); (· exact boolFound)) | ((with_reducible apply WpL.skipG); (· exact rfl); (· exact rfl); (· exact boolFound); (· exact rfl)) | ((with_reducible apply Wp.condT); (· exact rfl); (· exact boolFound)) | ((with_reducible apply Wp.condF); (· exact rfl); (· exact boolFound)))
    refine WpL.loadA rfl rfl hat (v := .int .u8 ((l[n - 4 + 2]'(by omega)).toNat : Int)) (by first | exact bv_get (by omega) | (rw [Nat.mul_one]; exact bv_get (by omega)) | skip) ?_
    generalize (l[n - 4 + 2]'(by omega)).toNat = x2
    by_cases h2 : x2 = (S >>> 16) % 256
    rotate_left
    · repeat (first | ((with_reducible apply WpL.det); (· exact rfl); (· exact Det.found)) | ((with_reducible apply WpL.nilN)) | ((with_reducible apply WpL.nil)) | ((with_reducible apply Wp.seq)) | ((with_reducible apply Wp.region)) | ((with_reducible apply thenQ_normal)) | ((with_reducible apply Wp.block)) | ((with_reducible apply Wp.skip)) | ((with_reducible apply Wp.ret)) | ((with_reducible apply Wp.exit)) | ((with_reducible apply thenQ_exit)) | ((with_reducible apply thenQ_ret)) | ((with_reducible apply blockQ_normal)) | ((with_reducible apply blockQ_ret)) | ((with_reducible apply blockQ_same)) | ((with_reducible apply blockQ_other); (· exact rfl)) | ((with_reducible apply WpL.unguard); (· exact rfl); (· exact rfl); (· exact boolFound)) | ((with_reducible apply WpL.skipG); (· exact rfl); (· exact rfl); (· exact boolFound); (· exact rfl)) | ((with_reducible apply Wp.condT); (· exact rfl); (· exact boolFound)) | ((with_reducible apply Wp.condF); (· exact rfl); (· exact boolFound)))
      (with_reducible apply doneQ_two Try.results41); (· exact slotFound); (· exact slotFound)
      exact ⟨Below.refl _ _, .inr ⟨fun h => h2 h.2.2.1, rfl⟩⟩
    repeat (first | ((with_reducible apply WpL.det); (· exact rfl); (· exact Det.found)) | ((with_reducible apply WpL.nilN)) | ((with_reducible apply WpL.nil)) | ((with_reducible apply Wp.seq)) | ((with_reducible apply Wp.region)) | ((with_reducible apply thenQ_normal)) | ((with_reducible apply Wp.block)) | ((with_reducible apply Wp.skip)) | ((with_reducible apply Wp.ret)) | ((with_reducible apply Wp.exit)) | ((with_reducible apply thenQ_exit)) | ((with_reducible apply thenQ_ret)) | ((with_reducible apply blockQ_normal)) | ((with_reducible apply blockQ_ret)) | ((with_reducible apply blockQ_same)) | ((with_reducible apply blockQ_other); (· exact rfl)) | ((with_reducible apply WpL.unguard); (· exact rfl); (· exact rfl); (· exact boolFound)) | ((with_reducible apply WpL.skipG); (· exact rfl); (· exact rfl); (· exact boolFound); (· exact rfl)) | ((with_reducible apply Wp.condT); (· exact rfl); (· exact boolFound)) | ((with_reducible apply Wp.condF); (· exact rfl); (· exact boolFound)))
    refine WpL.loadA rfl rfl hat (v := .int .u8 ((l[n - 4 + 3]'(by omega)).toNat : Int)) (by first | exact bv_get (by omega) | (rw [Nat.mul_one]; exact bv_get (by omega)) | skip) ?_
    generalize (l[n - 4 + 3]'(by omega)).toNat = x3
    by_cases h3 : x3 = (S >>> 24) % 256
    rotate_left
    · repeat (first | ((with_reducible apply WpL.det); (· exact rfl); (· exact Det.found)) | ((with_reducible apply WpL.nilN)) | ((with_reducible apply WpL.nil)) | ((with_reducible apply Wp.seq)) | ((with_reducible apply Wp.region)) | ((with_reducible apply thenQ_normal)) | ((with_reducible apply Wp.block)) | ((with_reducible apply Wp.skip)) | ((with_reducible apply Wp.ret)) | ((with_reducible apply Wp.exit)) | ((with_reducible apply thenQ_exit)) | ((with_reducible apply thenQ_ret)) | ((with_reducible apply blockQ_normal)) | ((with_reducible apply blockQ_ret)) | ((with_reducible apply blockQ_same)) | ((with_reducible apply blockQ_other); (· exact rfl)) | ((with_reducible apply WpL.unguard); (· exact rfl); (· exact rfl); (· exact boolFound)) | ((with_reducible apply WpL.skipG); (· exact rfl); (· exact rfl); (· exact boolFound); (· exact rfl)) | ((with_reducible apply Wp.condT); (· exact rfl); (· exact boolFound)) | ((with_reducible apply Wp.condF); (· exact rfl); (· exact boolFound)))
      (with_reducible apply doneQ_two Try.results41); (· exact slotFound); (· exact slotFound)
      exact ⟨Below.refl _ _, .inr ⟨fun h => h3 h.2.2.2, rfl⟩⟩
    repeat (first | ((with_reducible apply WpL.det); (· exact rfl); (· exact Det.found)) | ((with_reducible apply WpL.nilN)) | ((with_reducible apply WpL.nil)) | ((with_reducible apply Wp.seq)) | ((with_reducible apply Wp.region)) | ((with_reducible apply thenQ_normal)) | ((with_reducible apply Wp.block)) | ((with_reducible apply Wp.skip)) | ((with_reducible apply Wp.ret)) | ((with_reducible apply Wp.exit)) | ((with_reducible apply thenQ_exit)) | ((with_reducible apply thenQ_ret)) | ((with_reducible apply blockQ_normal)) | ((with_reducible apply blockQ_ret)) | ((with_reducible apply blockQ_same)) | ((with_reducible apply blockQ_other); (· exact rfl)) | ((with_reducible apply WpL.unguard); (· exact rfl); (· exact rfl); (· exact boolFound)) | ((with_reducible apply WpL.skipG); (· exact rfl); (· exact rfl); (· exact boolFound); (· exact rfl)) | ((with_reducible apply Wp.condT); (· exact rfl); (· exact boolFound)) | ((with_reducible apply Wp.condF); (· exact rfl); (· exact boolFound)))
    refine WpL.appendB (l := l.take (n - 4)) rfl Env.found Env.found (SlB.nil _ _ _) (by rw [bv_take]; exact hr.take _) (by simp; omega) (by simp only [List.length_nil]; omega) (Below.refl _ _) ?_
    intro v2 w2 hv2 hb2 _ _
    repeat (first | ((with_reducible apply WpL.det); (· exact rfl); (· exact Det.found)) | ((with_reducible apply WpL.nilN)) | ((with_reducible apply WpL.nil)) | ((with_reducible apply Wp.seq)) | ((with_reducible apply Wp.region)) | ((with_reducible apply thenQ_normal)) | ((with_reducible apply Wp.block)) | ((with_reducible apply Wp.skip)) | ((with_reducible apply Wp.ret)) | ((with_reducible apply Wp.exit)) | ((with_reducible apply thenQ_exit)) | ((with_reducible apply thenQ_ret)) | ((with_reducible apply blockQ_normal)) | ((with_reducible apply blockQ_ret)) | ((with_reducible apply blockQ_same)) | ((with_reducible apply blockQ_other); (· exact rfl)) | ((with_reducible apply WpL.unguard); (· exact rfl); (· exact rfl); (· exact boolFound)) | ((with_reducible apply WpL.skipG); (· exact rfl); (· exact rfl); (· exact boolFound); (· exact rfl)) | ((with_reducible apply Wp.condT); (· exact rfl); (· exact boolFound)) | ((with_reducible apply Wp.condF); (· exact rfl); (· exact boolFound)))
    (with_reducible apply doneQ_two Try.results41); (· exact slotFound); (· exact slotFound)
    exact ⟨hb2, .inl ⟨⟨h0, h1, h2, h3⟩, _, rfl, hv2⟩⟩
end Go.Proofs.Ytaapnfoimcccjaa

namespace Go.Proofs.Ytaapnfoimcccjaa
open Go.Fk Go.RowKit
instance ins1 : IntT Try.prog 3 .i64 := ⟨Try.underlying3⟩
instance ins2 : IntT Try.prog 5 .u8 := ⟨Try.underlying5⟩
instance ins4 : IntT Try.prog 58 .u32 := ⟨Try.underlying58⟩
instance ins5 : IntT Try.prog 73 .u64 := ⟨Try.underlying73⟩
instance ins6 : IntT Try.prog 71 .u64 := ⟨Try.underlying71⟩
instance ins7 : Cell1 Try.prog 3 := ⟨_, Try.underlying3, rfl⟩
instance ins8 : Cell1 Try.prog 5 := ⟨_, Try.underlying5, rfl⟩
instance ins10 : Cell1 Try.prog 58 := ⟨_, Try.underlying58, rfl⟩
instance ins11 : Cell1 Try.prog 73 := ⟨_, Try.underlying73, rfl⟩
instance ins12 : Cell1 Try.prog 4 := ⟨_, Try.underlying4, rfl⟩
instance ins14 : Cell1 Try.prog 49 := ⟨_, Try.underlying49, rfl⟩
instance ins15 : Cell1 Try.prog 33 := ⟨_, Try.underlying33, rfl⟩
instance ins16 : SizeT Try.prog 3 1 := ⟨by kernel_rfl⟩
instance ins17 : SizeT Try.prog 5 1 := ⟨by kernel_rfl⟩
instance ins19 : SizeT Try.prog 58 1 := ⟨by kernel_rfl⟩
instance ins20 : SizeT Try.prog 73 1 := ⟨by kernel_rfl⟩
instance ins21 : SizeT Try.prog 4 1 := ⟨by kernel_rfl⟩
instance ins23 : SizeT Try.prog 49 1 := ⟨by kernel_rfl⟩
instance ins24 : SizeT Try.prog 33 1 := ⟨by kernel_rfl⟩
instance ins25 : BoolT Try.prog 4 := ⟨Try.underlying4⟩
instance ins26 : StrT Try.prog 9 := ⟨Try.underlying9⟩
instance ins28 : SliceT Try.prog 49 5 := ⟨Try.underlying49⟩
instance ins29 : SliceT Try.prog 33 3 := ⟨Try.underlying33⟩
instance ins30 : Elem Try.prog 5 1 1 (.int .u8 0) := ⟨by kernel_rfl, rfl, by decide⟩
instance ins31 : Elem Try.prog 73 1 8 (.int .u64 0) := ⟨by kernel_rfl, rfl, by decide⟩
instance ins32 : Elem Try.prog 3 1 8 (.int .i64 0) := ⟨by kernel_rfl, rfl, by decide⟩
end Go.Proofs.Ytaapnfoimcccjaa

namespace Go.Proofs.Ytaapnfoimcccjaa
open Go.Fk Go.RowKit
attribute [local irreducible] Wp WpL Det thenQ blockQ

section
variable {w w0 : World} {M : Nat → Prop} {L : List Ch}
/-- low.Append, of what may only be appended to. -/
theorem lowAppendA_any {A : Option Addr} {n c m k : Nat} {l : List UInt8} (hn : l.length = n) (hm : m < 18446744073709551616) (hk : n + k ≤ 140737488355328) (hV : IsVw A n c A 0) (hS : St w0 M w (.app A n c 5 1 (bv l) :: L)) :
    Calls Try.prog 46 #[.slice A n c, .int .u64 (m : Int), .int .i64 (k : Int)] w fun x w' => ∃ A' c', x = .returned (.slice A' (n + k) c') ∧ IsVw A' (n + k) c' A' 0 ∧ St w0 M w' (.app A' (n + k) c' 5 1 (bv (l ++ Crc.loB m k)) :: L) := by
  subst hn
  (refine calls_of (P := Try.prog) _ Try.func46 rfl Try.ntmps46 (Nat.le_of_ble_eq_true rfl) ?_; dsimp only [argE, Nat.reduceAdd])
  (refine Reach.walk ?_; (repeat (first | ((with_reducible refine AllSt.mk ?_); (try clear hS); intro w hS) | ((with_reducible refine AllVw.mk ?_); intro V hV))))
  apply Wp.loopUp k (fun i e w' => ∃ A' c', IsVw A' (l.length + i) c' A' 0 ∧ St w0 M w' (.app A' (l.length + i) c' 5 1 (bv (l ++ Crc.loB m i)) :: L) ∧ e.Has [(8, .int .i64 (i : Nat)), (7, .int .i64 k), (0, .slice A' (l.length + i) c'), (1, .int .u64 ((m >>> (8 * i) : Nat) : Int))]) (Nat.zero_le k)
    ⟨A, c, hV, by rw [Crc.loB_zero, List.append_nil]; exact hS, rfl, rfl, rfl, rfl, trivial⟩
  clear hV hS
  rintro i e w1 hi ⟨A1, c1, hV, hS, he⟩
  obtain ⟨e0, rfl⟩ := he.eq
  clear he
  dsimp only [Env.sets]
  by_cases hlt : i < k
  · have hmi : m >>> (8 * i) < 18446744073709551616 := Nat.lt_of_le_of_lt (by rw [Nat.shiftRight_eq_div_pow]; exact Nat.div_le_self _ _) hm
    have hnext : m >>> (8 * (i + 1)) = (m >>> (8 * i)) >>> 8 := by rw [← Nat.shiftRight_add]; congr 1
    have hlb := Crc.loB_length m i
    (refine Reach.walk ?_; (repeat (first | ((with_reducible refine AllSt.mk ?_); (try clear hS); intro w hS) | ((with_reducible refine AllVw.mk ?_); intro V hV))))
    ((with_reducible apply WpL.bs); (· assumption); (· exact rfl); (· exact BVals.found); (· exact oneAll_spec rfl); (· exact rfl); (· decide); (· exact listFound); clear hS)
    intro A2 w hV2 hS
    (refine Reach.walk ?_; (repeat (first | ((with_reducible refine AllSt.mk ?_); (try clear hS); intro w hS) | ((with_reducible refine AllVw.mk ?_); intro V hV))))
    replace hS := hS.perm (List.Perm.swap _ _ _)
    ((with_reducible apply WpL.appA); (· assumption); (· exact rfl); (· exact rfl); (· exact rfl); (· exact Sel.found); (· simp only [Nat.mul_one]; exact RdsV.found); (· exact onesFound); (· exact catFound); (· omega); (· omega); clear hS)
    intro A3 c3 w hV3 hS
    replace hS := hS.perm (List.Perm.swap _ _ _) |>.tail
    (refine Reach.walk ?_; (repeat (first | ((with_reducible refine AllSt.mk ?_); (try clear hS); intro w hS) | ((with_reducible refine AllVw.mk ?_); intro V hV))))
    refine ⟨hlt, A3, c3, hV3, ?_, int_eq (by omega), rfl, rfl, int_eq (by rw [hnext]), trivial⟩
    rw [Crc.loB_snoc, ← List.append_assoc]
    have e1 : UInt8.ofNat (m >>> (8 * i) % 256) = UInt8.ofNat (m >>> (8 * i)) := by
      apply UInt8.toNat_inj.1; simp
    rw [← e1]
    exact hS
  · have hik : i = k := by omega
    subst hik
    (refine Reach.walk ?_; (repeat (first | ((with_reducible refine AllSt.mk ?_); (try clear hS); intro w hS) | ((with_reducible refine AllVw.mk ?_); intro V hV))))
    (with_reducible apply doneQ_one Try.results46); (· exact slotFound)
    exact ⟨_, _, rfl, hV, hS⟩
theorem lowAppend32A_any {A : Option Addr} {n c m : Nat} {l : List UInt8} (hn : l.length = n) (hm : m < 4294967296) (hk : n + 4 ≤ 140737488355328) (hV : IsVw A n c A 0) (hS : St w0 M w (.app A n c 5 1 (bv l) :: L)) :
    Calls Try.prog 38 #[.slice A n c, .int .u32 (m : Int)] w fun x w' => ∃ A' c', x = .returned (.slice A' (n + 4) c') ∧ IsVw A' (n + 4) c' A' 0 ∧ St w0 M w' (.app A' (n + 4) c' 5 1 (bv (l ++ Crc.loB m 4)) :: L) := by
  (refine calls_of (P := Try.prog) _ Try.func38 rfl Try.ntmps38 (Nat.le_of_ble_eq_true rfl) ?_; dsimp only [argE, Nat.reduceAdd])
  (refine Reach.walk ?_; (repeat (first | ((with_reducible refine AllSt.mk ?_); (try clear hS); intro w hS) | ((with_reducible refine AllVw.mk ?_); intro V hV))))
  (with_reducible apply WpL.call); (· exact rfl); (· exact Try.call46); (· exact Vals.found)
  refine (lowAppendA_any (k := 4) hn (by omega) hk hV hS).mono ?_
  rintro x w1 ⟨A1, c1, rfl, hV, hS⟩
  refine ⟨_, rfl, ?_⟩
  (refine Reach.walk ?_; (repeat (first | ((with_reducible refine AllSt.mk ?_); (try clear hS); intro w hS) | ((with_reducible refine AllVw.mk ?_); intro V hV))))
  (with_reducible apply doneQ_one Try.results38); (· exact slotFound)
  exact ⟨_, _, rfl, hV, hS⟩

theorem sealS {V : Option Addr} {n c : Nat} {l : List UInt8} (hS : St w0 M w L) (hr : RdsV L V n (bv l)) (hlen : n + 4 ≤ 140737488355328) :
    Calls Try.prog 39 #[.slice V n c] w fun x w' => ∃ A' c', x = .returned (.slice A' (n + 4) c') ∧ IsVw A' (n + 4) c' A' 0 ∧ St w0 M w' (.own A' (n + 4) c' 5 1 (bv (Crc.sealed l)) :: L) := by
  obtain ⟨h1, h2⟩ := hr w0 M w hS
  have h2 : l.length = n := by simpa using h2
  refine (seal_any V l n c h2 hlen w h1).mono ?_
  rintro x w' ⟨v', rfl, hv, hb⟩
  obtain ⟨A', c', rfl, hV', hS'⟩ := hS.newSl hb hv
  rw [Crc.sealed_length, h2] at hV' hS' ⊢
  exact ⟨A', c', rfl, hV', hS'⟩
theorem refSealS {V : Option Addr} {n c : Nat} {l : List UInt8} (hS : St w0 M w L) (hr : RdsV L V n (bv l)) (hlen : n + 4 ≤ 140737488355328) :
    Calls Try.prog 27 #[.slice V n c] w fun x w' => ∃ A' c', x = .returned (.slice A' (n + 4) c') ∧ IsVw A' (n + 4) c' A' 0 ∧ St w0 M w' (.own A' (n + 4) c' 5 1 (bv (Crc.sealed l)) :: L) := by
  obtain ⟨h1, h2⟩ := hr w0 M w hS
  have h2 : l.length = n := by simpa using h2
  refine (refSeal_any V l n c h2 hlen w h1).mono ?_
  rintro x w' ⟨v', rfl, hv, hb⟩
  obtain ⟨A', c', rfl, hV', hS'⟩ := hS.newSl hb hv
  rw [Crc.sealed_length, h2] at hV' hS' ⊢
  exact ⟨A', c', rfl, hV', hS'⟩
theorem openS {V : Option Addr} {n c : Nat} {l : List UInt8} (hS : St w0 M w L) (hr : RdsV L V n (bv l)) (hnc : n ≤ c) (hlen : n ≤ 140737488355328) :
    Calls Try.prog 36 #[.slice V n c] w fun x w' =>
      (Crc.good l ∧ ∃ A' c', x = .returned (.tuple #[.slice A' (n - 4) c', .int .i64 0]) ∧ IsVw A' (n - 4) c' A' 0 ∧ St w0 M w' (.own A' (n - 4) c' 5 1 (bv (l.take (n - 4))) :: L)) ∨
      (¬ Crc.good l ∧ x = .returned (.tuple #[.slice none 0 0, .int .i64 30]) ∧ St w0 M w' L) := by
  obtain ⟨h1, h2⟩ := hr w0 M w hS
  have h2 : l.length = n := by simpa using h2
  refine (open_any V l n c h2 hnc hlen w h1).mono ?_
  rintro x w' ⟨hb, ⟨hg, v', rfl, hv⟩ | ⟨hg, rfl⟩⟩
  · obtain ⟨A', c', rfl, hV', hS'⟩ := hS.newSl hb hv
    have e1 : (l.take (n - 4)).length = n - 4 := by simp; omega
    rw [e1] at hV' hS' ⊢
    exact .inl ⟨hg, A', c', rfl, hV', hS'⟩
  · exact .inr ⟨hg, rfl, hS.below hb⟩
theorem refOpenS {V : Option Addr} {n c : Nat} {l : List UInt8} (hS : St w0 M w L) (hr : RdsV L V n (bv l)) (hnc : n ≤ c) (hlen : n ≤ 140737488355328) :
    Calls Try.prog 41 #[.slice V n c] w fun x w' =>
      (Crc.good l ∧ ∃ A' c', x = .returned (.tuple #[.slice A' (n - 4) c', .int .i64 0]) ∧ IsVw A' (n - 4) c' A' 0 ∧ St w0 M w' (.own A' (n - 4) c' 5 1 (bv (l.take (n - 4))) :: L)) ∨
      (¬ Crc.good l ∧ x = .returned (.tuple #[.slice none 0 0, .int .i64 30]) ∧ St w0 M w' L) := by
  obtain ⟨h1, h2⟩ := hr w0 M w hS
  have h2 : l.length = n := by simpa using h2
  refine (refOpen_any V l n c h2 hnc hlen w h1).mono ?_
  rintro x w' ⟨hb, ⟨hg, v', rfl, hv⟩ | ⟨hg, rfl⟩⟩
  · obtain ⟨A', c', rfl, hV', hS'⟩ := hS.newSl hb hv
    have e1 : (l.take (n - 4)).length = n - 4 := by simp; omega
    rw [e1] at hV' hS' ⊢
    exact .inl ⟨hg, A', c', rfl, hV', hS'⟩
  · exact .inr ⟨hg, rfl, hS.below hb⟩
/-- low.Uint64, low.Uint32 of what is seen through a slice. -/
theorem uint32S {V : Option Addr} {n c : Nat} {l : List UInt8} (hS : St w0 M w L) (hr : RdsV L V n (bv l)) (h4 : 4 ≤ n) (hlen : n ≤ 140737488355328) :
    Calls Try.prog 37 #[.slice V n c] w fun x w' => x = .returned (.int .u32 (Crc.loN (l.take 4) : Nat)) ∧ w = w' := by
  obtain ⟨h1, h2⟩ := hr w0 M w hS
  exact uint32_any V l n c (by simpa using h2) h4 hlen w h1
end
end Go.Proofs.Ytaapnfoimcccjaa

namespace Go.Fk
open Go.RowKit
theorem WpG.loopUp {P : Program} {N : Nat} {ro : Option Nat} {ds : List Deferred} {Q : PostD} {e : Env} {w : World} {c : Code} (M : Nat) (I : Nat → Env → World → Prop) {k0 : Nat} (hk0 : k0 ≤ M) (h0 : I k0 e w)
    (round : ∀ k e w, k ≤ M → I k e w → WpG ro P N ds c (thenD (fun ds' e' w' => ds' = ds ∧ k < M ∧ I (k + 1) e' w') Q) e w) : WpG ro P N ds (.loop c) Q e w := by
  let J : Nat → Env → World → Prop := fun m e w => ∃ k, k ≤ M ∧ m = M - k ∧ I k e w
  have hex : ∀ e w, (∃ m, J m e w) → ∃ m, J m e w ∧ ∀ k, k < m → ¬ J k e w := fun e w ⟨m, hm⟩ => by
    induction m using Nat.strongRecOn with
    | _ m ih =>
      by_cases h : ∃ k, k < m ∧ J k e w
      · obtain ⟨k, hk, hi⟩ := h; exact ih k hk hi
      · exact ⟨m, hm, fun k hk hi => h ⟨k, hk, hi⟩⟩
  let μ : Env → World → Nat := fun e w => @dite Nat (∃ m, J m e w) (Classical.propDecidable _) (fun h => (hex e w h).choose) (fun _ => 0)
  have hμ : ∀ e w, (∃ m, J m e w) → J (μ e w) e w ∧ ∀ k, k < μ e w → ¬ J k e w := fun e w h => by
    have : μ e w = (hex e w h).choose := by simp only [μ]; rw [dif_pos h]
    rw [this]; exact (hex e w h).choose_spec
  refine WpG.loop (fun ds' e w => ds' = ds ∧ ∃ m, J m e w) μ ⟨rfl, _, k0, hk0, rfl, h0⟩ fun ds' e w ⟨hds, hI⟩ => ?_
  subst hds
  obtain ⟨⟨k, hk, hm, hi⟩, hmin⟩ := hμ e w hI
  refine (round k e w hk hi).mono fun x ds2 e' w' hx => ?_
  cases x with
  | normal =>
    obtain ⟨h1, h2, h3⟩ := hx
    have hJ : J (M - (k + 1)) e' w' := ⟨k + 1, h2, rfl, h3⟩
    refine ⟨⟨h1, _, hJ⟩, ?_⟩
    have h4 := hμ e' w' ⟨_, hJ⟩
    rcases Nat.lt_or_ge (μ e' w') (μ e w) with h5 | h5
    · exact h5
    · exfalso
      exact h4.2 (M - (k + 1)) (by omega) hJ
  | _ => exact hx
theorem doneQ_c1 {P : Program} {fn : Func} {R : Ending → World → Prop} {e : Env} {w w0 : World} {M : Nat → Prop} {L : List Ch} {p : Tmp} {ty : TypeId} {a : Addr} {v : Value} [h : Cell1 P ty] (hr : fn.results = #[.cell p ty]) (hp : e p = .pointer (some a)) (hS : St w0 M w L) (hl : Look L a v) (hR : R (.returned v) w) : doneQ P fn R .ret e w :=
  ⟨v, fun tmps ht => by
    obtain ⟨d, hu, hd⟩ := h.hu
    have hagg : (isAgg ty).run P w = .ok false w := by
      unfold isAgg
      rw [Sem.run_bind, run_underlying hu w]
      cases d <;> simp_all
    have hp' : tmps[p]?.getD undef = .pointer (some a) := by have := ht p; rw [hp] at this; simpa using this
    simp [results, hr, hp', asAddr, loadVar, hagg, hl.cell hS], hR⟩
end Go.Fk
namespace Go.Proofs.Ytaapnfoimcccjaa
open Go.Fk Go.RowKit
attribute [local irreducible] Wp WpL Det thenQ blockQ WpG thenD blockG
/-- A block: its state, its erases. -/
structure Bk where
  st : Nat
  er : Nat
theorem Bk.ext' {a b : Bk} (h1 : a.st = b.st) (h2 : a.er = b.er) : a = b := by cases a; cases b; simp_all
abbrev Bk.cells (b : Bk) : List Value := [.int .i64 (b.st : Int), .int .u32 (b.er : Int)]
def kv (l : List Bk) : List Value := l.flatMap fun b => b.cells
theorem kv_cons (b : Bk) (l : List Bk) : kv (b :: l) = .int .i64 (b.st : Int) :: .int .u32 (b.er : Int) :: kv l := rfl
theorem kv_length : ∀ l : List Bk, (kv l).length = l.length * 2
  | [] => rfl
  | b :: l => by rw [kv_cons, List.length_cons, List.length_cons, kv_length l, List.length_cons]; omega
theorem kv_st : ∀ {l : List Bk} {i : Nat} (h : i < l.length), (kv l)[i * 2]? = some (.int .i64 (l[i].st : Int))
  | b :: l, 0, _ => rfl
  | b :: l, i + 1, h => by
    rw [kv_cons, show (i + 1) * 2 = i * 2 + 1 + 1 by omega, List.getElem?_cons_succ, List.getElem?_cons_succ, kv_st (show i < l.length by simpa using h)]
    rfl
theorem kv_er : ∀ {l : List Bk} {i : Nat} (h : i < l.length), (kv l)[i * 2 + 1]? = some (.int .u32 (l[i].er : Int))
  | b :: l, 0, _ => rfl
  | b :: l, i + 1, h => by
    rw [kv_cons, show (i + 1) * 2 + 1 = i * 2 + 1 + 1 + 1 by omega, List.getElem?_cons_succ, List.getElem?_cons_succ, kv_er (show i < l.length by simpa using h)]
    rfl
theorem kv_set_st : ∀ {l : List Bk} {i : Nat} (s : Nat) (h : i < l.length), (kv l).set (i * 2) (.int .i64 (s : Int)) = kv (l.set i ⟨s, l[i].er⟩)
  | b :: l, 0, s, _ => rfl
  | b :: l, i + 1, s, h => by
    rw [kv_cons, show (i + 1) * 2 = i * 2 + 1 + 1 by omega, List.set_cons_succ, List.set_cons_succ, kv_set_st s (show i < l.length by simpa using h)]
    rfl
theorem kv_set_er : ∀ {l : List Bk} {i : Nat} (s : Nat) (h : i < l.length), (kv l).set (i * 2 + 1) (.int .u32 (s : Int)) = kv (l.set i ⟨l[i].st, s⟩)
  | b :: l, 0, s, _ => rfl
  | b :: l, i + 1, s, h => by
    rw [kv_cons, show (i + 1) * 2 + 1 = i * 2 + 1 + 1 + 1 by omega, List.set_cons_succ, List.set_cons_succ, kv_set_er s (show i < l.length by simpa using h)]
    rfl
end Go.Proofs.Ytaapnfoimcccjaa
