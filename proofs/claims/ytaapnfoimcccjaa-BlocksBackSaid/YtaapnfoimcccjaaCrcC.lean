/-
  Walks over the document's sum of bytes.
-/
import Derived.Test.YtaapnfoimcccjaaCrcA
namespace Go.Proofs.Ytaapnfoimcccjaa
open Go.Fk Go.RowKit
attribute [local irreducible] Wp WpL Det thenQ blockQ

theorem refRun_step {n k : Nat} {l : List UInt8} (x : Nat) (hn : l.length = n) (hk : k < n) : Crc.refRun x (l.take (k + 1)) = Crc.refBits (Crc.refRun x (l.take k)) (l[k]'(by omega)).toNat 8 := by
  rw [List.take_succ_eq_append_getElem (by omega), Crc.refRun_snoc]; rfl

theorem refMore_any (s : Nat) (hs : s < 4294967296) (A : Option Addr) (l : List UInt8) (n c : Nat) (hn : l.length = n) (hlen : n ≤ maxLen) (w : World) (hr : Rd w A (bv l)) :
    Calls Try.prog 48 #[.int .u32 (s : Int), .slice A n c] w fun x w' => x = .returned (.int .u32 (Crc.more s l : Nat)) ∧ w' = w := by
  simp only [maxLen] at hlen
  (refine calls_of (P := Try.prog) _ Try.func48 rfl Try.ntmps48 (Nat.le_of_ble_eq_true rfl) ?_; dsimp only [argE, Nat.reduceAdd])
  repeat (first | ((with_reducible apply WpL.det); (· exact rfl); (· exact Det.found)) | ((with_reducible apply WpL.nilN)) | ((with_reducible apply WpL.nil)) | ((with_reducible apply Wp.seq)) | ((with_reducible apply Wp.region)) | ((with_reducible apply thenQ_normal)) | ((with_reducible apply Wp.block)) | ((with_reducible apply Wp.skip)) | ((with_reducible apply Wp.ret)) | ((with_reducible apply Wp.exit)) | ((with_reducible apply thenQ_exit)) | ((with_reducible apply thenQ_ret)) | ((with_reducible apply blockQ_normal)) | ((with_reducible apply blockQ_ret)) | ((with_reducible apply blockQ_same)) | ((with_reducible apply blockQ_other); (· exact rfl)) | ((with_reducible apply WpL.unguard); (· exact rfl); (· exact rfl); (· exact boolFound)) | ((with_reducible apply WpL.skipG); (· exact rfl); (· exact rfl); (· exact boolFound); (· exact rfl)) | ((with_reducible apply Wp.condT); (· exact rfl); (· exact boolFound)) | ((with_reducible apply Wp.condF); (· exact rfl); (· exact boolFound)))
  have hx0 : s ^^^ 4294967295 < 2 ^ 32 := Nat.xor_lt_two_pow hs (by decide)
  have h5 : Value.int .u32 ((s ^^^ 4294967295 : Nat) : Int) = .int .u32 ((Crc.refRun (s ^^^ 4294967295) (l.take 0) : Nat) : Int) := by rw [List.take_zero]; rfl
  apply Wp.loopUp n (fun k e w' => w' = w ∧ e.Has [(5, .int .u32 (Crc.refRun (s ^^^ 4294967295) (l.take k) : Nat)), (1, .slice A n c), (6, .int .i64 (k : Nat))]) (Nat.zero_le n) ⟨rfl, h5, rfl, rfl, trivial⟩
  rintro k e w' hk ⟨rfl, he⟩
  obtain ⟨e0, rfl⟩ := he.eq
  clear he h5
  dsimp only [Env.sets]
  by_cases hlt : k < n
  · have hs0 := refRun_step (s ^^^ 4294967295) hn hlt
    have hx1 := Crc.run_lt hx0 (l.take k)
    rw [← Crc.refRun_eq] at hx1
    revert hs0 hx1
    generalize Crc.refRun (s ^^^ 4294967295) (l.take k) = x
    intro hs0 hx1
    obtain ⟨a, rfl, hat⟩ := hr.at_ (i := k) (by simpa [hn] using hlt)
    repeat (first | ((with_reducible apply WpL.det); (· exact rfl); (· exact Det.found)) | ((with_reducible apply WpL.nilN)) | ((with_reducible apply WpL.nil)) | ((with_reducible apply Wp.seq)) | ((with_reducible apply Wp.region)) | ((with_reducible apply thenQ_normal)) | ((with_reducible apply Wp.block)) | ((with_reducible apply Wp.skip)) | ((with_reducible apply Wp.ret)) | ((with_reducible apply Wp.exit)) | ((with_reducible apply thenQ_exit)) | ((with_reducible apply thenQ_ret)) | ((with_reducible apply blockQ_normal)) | ((with_reducible apply blockQ_ret)) | ((with_reducible apply blockQ_same)) | ((with_reducible apply blockQ_other); (· exact rfl)) | ((with_reducible apply WpL.unguard); (· exact rfl); (· exact rfl); (· exact boolFound)) | ((with_reducible apply WpL.skipG); (· exact rfl); (· exact rfl); (· exact boolFound); (· exact rfl)) | ((with_reducible apply Wp.condT); (· exact rfl); (· exact boolFound)) | ((with_reducible apply Wp.condF); (· exact rfl); (· exact boolFound)))
    apply Wp.loopUp 8 (fun j e w'' => w'' = w' ∧ e.Has [(7, .int .i64 (j : Nat)), (5, .int .u32 (Crc.refBits x (l[k]'(by omega)).toNat j : Nat)), (1, .slice (some a) n c), (6, .int .i64 (k : Nat))]) (Nat.zero_le 8) ⟨rfl, rfl, rfl, rfl, rfl, trivial⟩
    rintro j e w'' hj ⟨rfl, he⟩
    obtain ⟨e1, rfl⟩ := he.eq
    clear he
    dsimp only [Env.sets]
    have hxj := Crc.refBits_lt hx1 (l[k]'(by omega)).toNat j
    have hb8 := UInt8.toNat_lt (l[k]'(by omega))
    by_cases hjlt : j < 8
    · have hstep : Crc.refBits x (l[k]'(by omega)).toNat (j + 1) = Crc.bitStep (Crc.refBits x (l[k]'(by omega)).toNat j) (((l[k]'(by omega)).toNat >>> j) &&& 1) := rfl
      revert hstep hxj
      generalize Crc.refBits x (l[k]'(by omega)).toNat j = y
      intro hxj hstep
      repeat (first | ((with_reducible apply WpL.det); (· exact rfl); (· exact Det.found)) | ((with_reducible apply WpL.nilN)) | ((with_reducible apply WpL.nil)) | ((with_reducible apply Wp.seq)) | ((with_reducible apply Wp.region)) | ((with_reducible apply thenQ_normal)) | ((with_reducible apply Wp.block)) | ((with_reducible apply Wp.skip)) | ((with_reducible apply Wp.ret)) | ((with_reducible apply Wp.exit)) | ((with_reducible apply thenQ_exit)) | ((with_reducible apply thenQ_ret)) | ((with_reducible apply blockQ_normal)) | ((with_reducible apply blockQ_ret)) | ((with_reducible apply blockQ_same)) | ((with_reducible apply blockQ_other); (· exact rfl)) | ((with_reducible apply WpL.unguard); (· exact rfl); (· exact rfl); (· exact boolFound)) | ((with_reducible apply WpL.skipG); (· exact rfl); (· exact rfl); (· exact boolFound); (· exact rfl)) | ((with_reducible apply Wp.condT); (· exact rfl); (· exact boolFound)) | ((with_reducible apply Wp.condF); (· exact rfl); (· exact boolFound)))
      refine WpL.loadA rfl rfl hat (bv_get (by omega)) ?_
      repeat (first | ((with_reducible apply WpL.det); (· exact rfl); (· exact Det.found)) | ((with_reducible apply WpL.nilN)) | ((with_reducible apply WpL.nil)) | ((with_reducible apply Wp.seq)) | ((with_reducible apply Wp.region)) | ((with_reducible apply thenQ_normal)) | ((with_reducible apply Wp.block)) | ((with_reducible apply Wp.skip)) | ((with_reducible apply Wp.ret)) | ((with_reducible apply Wp.exit)) | ((with_reducible apply thenQ_exit)) | ((with_reducible apply thenQ_ret)) | ((with_reducible apply blockQ_normal)) | ((with_reducible apply blockQ_ret)) | ((with_reducible apply blockQ_same)) | ((with_reducible apply blockQ_other); (· exact rfl)) | ((with_reducible apply WpL.unguard); (· exact rfl); (· exact rfl); (· exact boolFound)) | ((with_reducible apply WpL.skipG); (· exact rfl); (· exact rfl); (· exact boolFound); (· exact rfl)) | ((with_reducible apply Wp.condT); (· exact rfl); (· exact boolFound)) | ((with_reducible apply Wp.condF); (· exact rfl); (· exact boolFound)))
      refine Wp.cond _ rfl (fun h => ?_) (fun h => ?_)
      · have h' := of_decide_eq_true h
        have hv : Crc.bitStep y (((l[k]'(by omega)).toNat >>> j) &&& 1) = (y >>> 1) ^^^ 3988292384 := if_pos (by omega)
        clear h
        repeat (first | ((with_reducible apply WpL.det); (· exact rfl); (· exact Det.found)) | ((with_reducible apply WpL.nilN)) | ((with_reducible apply WpL.nil)) | ((with_reducible apply Wp.seq)) | ((with_reducible apply Wp.region)) | ((with_reducible apply thenQ_normal)) | ((with_reducible apply Wp.block)) | ((with_reducible apply Wp.skip)) | ((with_reducible apply Wp.ret)) | ((with_reducible apply Wp.exit)) | ((with_reducible apply thenQ_exit)) | ((with_reducible apply thenQ_ret)) | ((with_reducible apply blockQ_normal)) | ((with_reducible apply blockQ_ret)) | ((with_reducible apply blockQ_same)) | ((with_reducible apply blockQ_other); (· exact rfl)) | ((with_reducible apply WpL.unguard); (· exact rfl); (· exact rfl); (· exact boolFound)) | ((with_reducible apply WpL.skipG); (· exact rfl); (· exact rfl); (· exact boolFound); (· exact rfl)) | ((with_reducible apply Wp.condT); (· exact rfl); (· exact boolFound)) | ((with_reducible apply Wp.condF); (· exact rfl); (· exact boolFound)))
        exact ⟨hjlt, rfl, int_eq (by omega), int_eq (by rw [hstep, hv]), rfl, rfl, trivial⟩
      · have h' := of_decide_eq_false h
        have hv : Crc.bitStep y (((l[k]'(by omega)).toNat >>> j) &&& 1) = y >>> 1 := if_neg (by omega)
        clear h
        repeat (first | ((with_reducible apply WpL.det); (· exact rfl); (· exact Det.found)) | ((with_reducible apply WpL.nilN)) | ((with_reducible apply WpL.nil)) | ((with_reducible apply Wp.seq)) | ((with_reducible apply Wp.region)) | ((with_reducible apply thenQ_normal)) | ((with_reducible apply Wp.block)) | ((with_reducible apply Wp.skip)) | ((with_reducible apply Wp.ret)) | ((with_reducible apply Wp.exit)) | ((with_reducible apply thenQ_exit)) | ((with_reducible apply thenQ_ret)) | ((with_reducible apply blockQ_normal)) | ((with_reducible apply blockQ_ret)) | ((with_reducible apply blockQ_same)) | ((with_reducible apply blockQ_other); (· exact rfl)) | ((with_reducible apply WpL.unguard); (· exact rfl); (· exact rfl); (· exact boolFound)) | ((with_reducible apply WpL.skipG); (· exact rfl); (· exact rfl); (· exact boolFound); (· exact rfl)) | ((with_reducible apply Wp.condT); (· exact rfl); (· exact boolFound)) | ((with_reducible apply Wp.condF); (· exact rfl); (· exact boolFound)))
        exact ⟨hjlt, rfl, int_eq (by omega), int_eq (by rw [hstep, hv]), rfl, rfl, trivial⟩
    · have hj8 : j = 8 := by omega
      subst hj8
      repeat (first | ((with_reducible apply WpL.det); (· exact rfl); (· exact Det.found)) | ((with_reducible apply WpL.nilN)) | ((with_reducible apply WpL.nil)) | ((with_reducible apply Wp.seq)) | ((with_reducible apply Wp.region)) | ((with_reducible apply thenQ_normal)) | ((with_reducible apply Wp.block)) | ((with_reducible apply Wp.skip)) | ((with_reducible apply Wp.ret)) | ((with_reducible apply Wp.exit)) | ((with_reducible apply thenQ_exit)) | ((with_reducible apply thenQ_ret)) | ((with_reducible apply blockQ_normal)) | ((with_reducible apply blockQ_ret)) | ((with_reducible apply blockQ_same)) | ((with_reducible apply blockQ_other); (· exact rfl)) | ((with_reducible apply WpL.unguard); (· exact rfl); (· exact rfl); (· exact boolFound)) | ((with_reducible apply WpL.skipG); (· exact rfl); (· exact rfl); (· exact boolFound); (· exact rfl)) | ((with_reducible apply Wp.condT); (· exact rfl); (· exact boolFound)) | ((with_reducible apply Wp.condF); (· exact rfl); (· exact boolFound)))
      exact ⟨hlt, rfl, int_eq (by rw [hs0]), rfl, int_eq (by omega), trivial⟩
  · have hkn : k = n := by omega
    subst hkn
    have hx1 := Crc.run_lt hx0 (l.take k)
    rw [← Crc.refRun_eq] at hx1
    have hmore : Crc.more s l = Crc.refRun (s ^^^ 4294967295) (l.take k) ^^^ 4294967295 := by
      rw [List.take_of_length_le (by omega), Crc.refRun_eq, Nat.xor_comm, Nat.xor_comm s]; rfl
    repeat (first | ((with_reducible apply WpL.det); (· exact rfl); (· exact Det.found)) | ((with_reducible apply WpL.nilN)) | ((with_reducible apply WpL.nil)) | ((with_reducible apply Wp.seq)) | ((with_reducible apply Wp.region)) | ((with_reducible apply thenQ_normal)) | ((with_reducible apply Wp.block)) | ((with_reducible apply Wp.skip)) | ((with_reducible apply Wp.ret)) | ((with_reducible apply Wp.exit)) | ((with_reducible apply thenQ_exit)) | ((with_reducible apply thenQ_ret)) | ((with_reducible apply blockQ_normal)) | ((with_reducible apply blockQ_ret)) | ((with_reducible apply blockQ_same)) | ((with_reducible apply blockQ_other); (· exact rfl)) | ((with_reducible apply WpL.unguard); (· exact rfl); (· exact rfl); (· exact boolFound)) | ((with_reducible apply WpL.skipG); (· exact rfl); (· exact rfl); (· exact boolFound); (· exact rfl)) | ((with_reducible apply Wp.condT); (· exact rfl); (· exact boolFound)) | ((with_reducible apply Wp.condF); (· exact rfl); (· exact boolFound)))
    (with_reducible apply doneQ_one Try.results48); (· exact slotFound)
    exact ⟨by rw [hmore], rfl⟩

theorem refSum_any (A : Option Addr) (l : List UInt8) (n c : Nat) (hn : l.length = n) (hlen : n ≤ maxLen) (w : World) (hr : Rd w A (bv l)) :
    Calls Try.prog 40 #[.slice A n c] w fun x w' => x = .returned (.int .u32 (Crc.sum l : Nat)) ∧ w' = w := by
  (refine calls_of (P := Try.prog) _ Try.func40 rfl Try.ntmps40 (Nat.le_of_ble_eq_true rfl) ?_; dsimp only [argE, Nat.reduceAdd])
  repeat (first | ((with_reducible apply WpL.det); (· exact rfl); (· exact Det.found)) | ((with_reducible apply WpL.nilN)) | ((with_reducible apply WpL.nil)) | ((with_reducible apply Wp.seq)) | ((with_reducible apply Wp.region)) | ((with_reducible apply thenQ_normal)) | ((with_reducible apply Wp.block)) | ((with_reducible apply Wp.skip)) | ((with_reducible apply Wp.ret)) | ((with_reducible apply Wp.exit)) | ((with_reducible apply thenQ_exit)) | ((with_reducible apply thenQ_ret)) | ((with_reducible apply blockQ_normal)) | ((with_reducible apply blockQ_ret)) | ((with_reducible apply blockQ_same)) | ((with_reducible apply blockQ_other); (· exact rfl)) | ((with_reducible apply WpL.unguard); (· exact rfl); (· exact rfl); (· exact boolFound)) | ((with_reducible apply WpL.skipG); (· exact rfl); (· exact rfl); (· exact boolFound); (· exact rfl)) | ((with_reducible apply Wp.condT); (· exact rfl); (· exact boolFound)) | ((with_reducible apply Wp.condF); (· exact rfl); (· exact boolFound)))
  (with_reducible apply WpL.call); (· exact rfl); (· exact Try.call48); (· exact Vals.found)
  refine (refMore_any 0 (by decide) A l n c hn hlen w hr).mono ?_
  rintro x w' ⟨rfl, rfl⟩
  refine ⟨_, rfl, ?_⟩
  repeat (first | ((with_reducible apply WpL.det); (· exact rfl); (· exact Det.found)) | ((with_reducible apply WpL.nilN)) | ((with_reducible apply WpL.nil)) | ((with_reducible apply Wp.seq)) | ((with_reducible apply Wp.region)) | ((with_reducible apply thenQ_normal)) | ((with_reducible apply Wp.block)) | ((with_reducible apply Wp.skip)) | ((with_reducible apply Wp.ret)) | ((with_reducible apply Wp.exit)) | ((with_reducible apply thenQ_exit)) | ((with_reducible apply thenQ_ret)) | ((with_reducible apply blockQ_normal)) | ((with_reducible apply blockQ_ret)) | ((with_reducible apply blockQ_same)) | ((with_reducible apply blockQ_other); (· exact rfl)) | ((with_reducible apply WpL.unguard); (· exact rfl); (· exact rfl); (· exact boolFound)) | ((with_reducible apply WpL.skipG); (· exact rfl); (· exact rfl); (· exact boolFound); (· exact rfl)) | ((with_reducible apply Wp.condT); (· exact rfl); (· exact boolFound)) | ((with_reducible apply Wp.condF); (· exact rfl); (· exact boolFound)))
  (with_reducible apply doneQ_one Try.results40); (· exact slotFound)
  exact ⟨rfl, rfl⟩
end Go.Proofs.Ytaapnfoimcccjaa
