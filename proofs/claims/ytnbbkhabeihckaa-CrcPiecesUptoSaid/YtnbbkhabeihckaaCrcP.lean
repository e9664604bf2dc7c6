/-
  CrcPieces: the walk.
-/
import Derived.Test.YtnbbkhabeihckaaCrcD
namespace Go.Proofs.Ytnbbkhabeihckaa
open Go.Fk Go.RowKit
attribute [local irreducible] Wp WpL Det thenQ blockQ
instance : SliceT Try.prog 31 22 := ⟨Try.underlying31⟩
instance : Cell1 Try.prog 22 := ⟨_, Try.underlying22, rfl⟩
instance : SizeT Try.prog 22 1 := ⟨by kernel_rfl⟩

/-- The first k pieces, in one piece. -/
def joined (ls : Nat → List UInt8) (k : Nat) : List UInt8 := (List.range k).flatMap ls
theorem joined_succ (ls : Nat → List UInt8) (k : Nat) : joined ls (k + 1) = joined ls k ++ ls k := by simp [joined, List.range_succ]

theorem crcPieces_any (A : Option Addr) (n c : Nat) (row : Nat → Option Addr) (cp : Nat → Nat) (ls : Nat → List UInt8) (hnm : n ≤ maxLen) (w : World)
    (hrow : ∀ r, r < n → ∃ a, A = some a ∧ w.cell? (a.add r) = some (.slice (row r) (ls r).length (cp r)) ∧ Rd w (row r) (bv (ls r))) (htot : ∀ k, k ≤ n → (joined ls k).length ≤ 140737488355328) :
    Calls Try.prog 6 #[.slice A n c] w fun x w' => x = .returned (.bool true) ∧ Below w.heap.size w w' := by
  simp only [maxLen] at hnm
  (refine calls_of (P := Try.prog) _ Try.func6 rfl Try.ntmps6 (Nat.le_of_ble_eq_true rfl) ?_; dsimp only [argE, Nat.reduceAdd])
  repeat (first | ((with_reducible apply WpL.det); (· exact rfl); (· exact Det.found)) | ((with_reducible apply WpL.nilN)) | ((with_reducible apply WpL.nil)) | ((with_reducible apply Wp.seq)) | ((with_reducible apply Wp.region)) | ((with_reducible apply thenQ_normal)) | ((with_reducible apply Wp.block)) | ((with_reducible apply Wp.skip)) | ((with_reducible apply Wp.ret)) | ((with_reducible apply Wp.exit)) | ((with_reducible apply thenQ_exit)) | ((with_reducible apply thenQ_ret)) | ((with_reducible apply blockQ_normal)) | ((with_reducible apply blockQ_ret)) | ((with_reducible apply blockQ_same)) | ((with_reducible apply blockQ_other); (· exact rfl)) | ((with_reducible apply WpL.detG); (· exact rfl); (· exact rfl); (· exact boolFound); (· exact rfl); (· exact Det.found)) | ((with_reducible apply WpL.skipG); (· exact rfl); (· exact rfl); (· exact boolFound); (· exact rfl)) | ((with_reducible apply Wp.condT); (· exact rfl); (· exact boolFound)) | ((with_reducible apply Wp.condF); (· exact rfl); (· exact boolFound)))
  (with_reducible apply WpL.call); (· exact rfl); (· exact Try.call10); (· exact Vals.found)
  refine (awake_any w).mono ?_
  rintro x w1 ⟨rfl, hb1⟩
  refine ⟨_, rfl, ?_⟩
  repeat (first | ((with_reducible apply WpL.det); (· exact rfl); (· exact Det.found)) | ((with_reducible apply WpL.nilN)) | ((with_reducible apply WpL.nil)) | ((with_reducible apply Wp.seq)) | ((with_reducible apply Wp.region)) | ((with_reducible apply thenQ_normal)) | ((with_reducible apply Wp.block)) | ((with_reducible apply Wp.skip)) | ((with_reducible apply Wp.ret)) | ((with_reducible apply Wp.exit)) | ((with_reducible apply thenQ_exit)) | ((with_reducible apply thenQ_ret)) | ((with_reducible apply blockQ_normal)) | ((with_reducible apply blockQ_ret)) | ((with_reducible apply blockQ_same)) | ((with_reducible apply blockQ_other); (· exact rfl)) | ((with_reducible apply WpL.detG); (· exact rfl); (· exact rfl); (· exact boolFound); (· exact rfl); (· exact Det.found)) | ((with_reducible apply WpL.skipG); (· exact rfl); (· exact rfl); (· exact boolFound); (· exact rfl)) | ((with_reducible apply Wp.condT); (· exact rfl); (· exact boolFound)) | ((with_reducible apply Wp.condF); (· exact rfl); (· exact boolFound)))
  (with_reducible apply WpL.call); (· exact rfl); (· exact Try.call11); (· exact Vals.found)
  refine (sum_any none [] 0 0 rfl (by decide) w1 (Rd.nil _ _)).mono ?_
  rintro x w2 ⟨rfl, hb2⟩
  refine ⟨_, rfl, ?_⟩
  replace hb2 := hb1.on hb2
  repeat (first | ((with_reducible apply WpL.det); (· exact rfl); (· exact Det.found)) | ((with_reducible apply WpL.nilN)) | ((with_reducible apply WpL.nil)) | ((with_reducible apply Wp.seq)) | ((with_reducible apply Wp.region)) | ((with_reducible apply thenQ_normal)) | ((with_reducible apply Wp.block)) | ((with_reducible apply Wp.skip)) | ((with_reducible apply Wp.ret)) | ((with_reducible apply Wp.exit)) | ((with_reducible apply thenQ_exit)) | ((with_reducible apply thenQ_ret)) | ((with_reducible apply blockQ_normal)) | ((with_reducible apply blockQ_ret)) | ((with_reducible apply blockQ_same)) | ((with_reducible apply blockQ_other); (· exact rfl)) | ((with_reducible apply WpL.detG); (· exact rfl); (· exact rfl); (· exact boolFound); (· exact rfl); (· exact Det.found)) | ((with_reducible apply WpL.skipG); (· exact rfl); (· exact rfl); (· exact boolFound); (· exact rfl)) | ((with_reducible apply Wp.condT); (· exact rfl); (· exact boolFound)) | ((with_reducible apply Wp.condF); (· exact rfl); (· exact boolFound)))
  apply Wp.loopUp n (fun i e w' => Below w.heap.size w w' ∧ ∃ v, SlB w' w.heap.size 5 v (joined ls i) ∧
      e.Has [(6, .int .i64 (i : Nat)), (0, .slice A n c), (4, v), (5, .int .u32 (Crc.sum (joined ls i) : Nat))]) (Nat.zero_le _)
    ⟨hb2, _, SlB.nil _ _ _, rfl, rfl, rfl, rfl, trivial⟩
  rintro i e w4 hi ⟨hb4, v, hv4, he⟩
  obtain ⟨e0, rfl⟩ := he.eq
  clear he
  dsimp only [Env.sets]
  have hs := Crc.sum_lt (joined ls i)
  by_cases hlt : i < n
  · by_cases h50 : i < 50
    · obtain ⟨a, rfl, hcell, hrd⟩ := hrow i hlt
      have hlb : ∀ w', Below w.heap.size w w' → w'.cell? (a.add i) = some (.slice (row i) (ls i).length (cp i)) := fun w' hb => (hb.cell (cell_lt hcell)).trans hcell
      have hjn := htot (i + 1) (by omega)
      rw [joined_succ, List.length_append] at hjn
      repeat (first | ((with_reducible apply WpL.det); (· exact rfl); (· exact Det.found)) | ((with_reducible apply WpL.nilN)) | ((with_reducible apply WpL.nil)) | ((with_reducible apply Wp.seq)) | ((with_reducible apply Wp.region)) | ((with_reducible apply thenQ_normal)) | ((with_reducible apply Wp.block)) | ((with_reducible apply Wp.skip)) | ((with_reducible apply Wp.ret)) | ((with_reducible apply Wp.exit)) | ((with_reducible apply thenQ_exit)) | ((with_reducible apply thenQ_ret)) | ((with_reducible apply blockQ_normal)) | ((with_reducible apply blockQ_ret)) | ((with_reducible apply blockQ_same)) | ((with_reducible apply blockQ_other); (· exact rfl)) | ((with_reducible apply WpL.detG); (· exact rfl); (· exact rfl); (· exact boolFound); (· exact rfl); (· exact Det.found)) | ((with_reducible apply WpL.skipG); (· exact rfl); (· exact rfl); (· exact boolFound); (· exact rfl)) | ((with_reducible apply Wp.condT); (· exact rfl); (· exact boolFound)) | ((with_reducible apply Wp.condF); (· exact rfl); (· exact boolFound)))
      refine WpL.load1 rfl rfl (hlb _ hb4) ?_
      repeat (first | ((with_reducible apply WpL.det); (· exact rfl); (· exact Det.found)) | ((with_reducible apply WpL.nilN)) | ((with_reducible apply WpL.nil)) | ((with_reducible apply Wp.seq)) | ((with_reducible apply Wp.region)) | ((with_reducible apply thenQ_normal)) | ((with_reducible apply Wp.block)) | ((with_reducible apply Wp.skip)) | ((with_reducible apply Wp.ret)) | ((with_reducible apply Wp.exit)) | ((with_reducible apply thenQ_exit)) | ((with_reducible apply thenQ_ret)) | ((with_reducible apply blockQ_normal)) | ((with_reducible apply blockQ_ret)) | ((with_reducible apply blockQ_same)) | ((with_reducible apply blockQ_other); (· exact rfl)) | ((with_reducible apply WpL.detG); (· exact rfl); (· exact rfl); (· exact boolFound); (· exact rfl); (· exact Det.found)) | ((with_reducible apply WpL.skipG); (· exact rfl); (· exact rfl); (· exact boolFound); (· exact rfl)) | ((with_reducible apply Wp.condT); (· exact rfl); (· exact boolFound)) | ((with_reducible apply Wp.condF); (· exact rfl); (· exact boolFound)))
      refine WpL.appendB rfl Env.found Env.found hv4 (hrd.below hb4) rfl hjn hb4 ?_
      intro v5 w5 hv5 hb5 _ _
      repeat (first | ((with_reducible apply WpL.det); (· exact rfl); (· exact Det.found)) | ((with_reducible apply WpL.nilN)) | ((with_reducible apply WpL.nil)) | ((with_reducible apply Wp.seq)) | ((with_reducible apply Wp.region)) | ((with_reducible apply thenQ_normal)) | ((with_reducible apply Wp.block)) | ((with_reducible apply Wp.skip)) | ((with_reducible apply Wp.ret)) | ((with_reducible apply Wp.exit)) | ((with_reducible apply thenQ_exit)) | ((with_reducible apply thenQ_ret)) | ((with_reducible apply blockQ_normal)) | ((with_reducible apply blockQ_ret)) | ((with_reducible apply blockQ_same)) | ((with_reducible apply blockQ_other); (· exact rfl)) | ((with_reducible apply WpL.detG); (· exact rfl); (· exact rfl); (· exact boolFound); (· exact rfl); (· exact Det.found)) | ((with_reducible apply WpL.skipG); (· exact rfl); (· exact rfl); (· exact boolFound); (· exact rfl)) | ((with_reducible apply Wp.condT); (· exact rfl); (· exact boolFound)) | ((with_reducible apply Wp.condF); (· exact rfl); (· exact boolFound)))
      refine WpL.load1 rfl rfl (hlb _ hb5) ?_
      generalize hS : Crc.sum (joined ls i) = S at *
      repeat (first | ((with_reducible apply WpL.det); (· exact rfl); (· exact Det.found)) | ((with_reducible apply WpL.nilN)) | ((with_reducible apply WpL.nil)) | ((with_reducible apply Wp.seq)) | ((with_reducible apply Wp.region)) | ((with_reducible apply thenQ_normal)) | ((with_reducible apply Wp.block)) | ((with_reducible apply Wp.skip)) | ((with_reducible apply Wp.ret)) | ((with_reducible apply Wp.exit)) | ((with_reducible apply thenQ_exit)) | ((with_reducible apply thenQ_ret)) | ((with_reducible apply blockQ_normal)) | ((with_reducible apply blockQ_ret)) | ((with_reducible apply blockQ_same)) | ((with_reducible apply blockQ_other); (· exact rfl)) | ((with_reducible apply WpL.detG); (· exact rfl); (· exact rfl); (· exact boolFound); (· exact rfl); (· exact Det.found)) | ((with_reducible apply WpL.skipG); (· exact rfl); (· exact rfl); (· exact boolFound); (· exact rfl)) | ((with_reducible apply Wp.condT); (· exact rfl); (· exact boolFound)) | ((with_reducible apply Wp.condF); (· exact rfl); (· exact boolFound)))
      (with_reducible apply WpL.call); (· exact rfl); (· exact Try.call13); (· exact Vals.found)
      refine (more_any S hs (row i) (ls i) _ (cp i) rfl (by simp only [maxLen]; omega) w5 (hrd.below hb5)).mono ?_
      rintro x w6 ⟨rfl, hb6⟩
      refine ⟨_, rfl, ?_⟩
      have hmore : Crc.more S (ls i) = Crc.sum (joined ls (i + 1)) := by rw [← hS, Crc.more_sum, joined_succ]
      rw [hmore]
      repeat (first | ((with_reducible apply WpL.det); (· exact rfl); (· exact Det.found)) | ((with_reducible apply WpL.nilN)) | ((with_reducible apply WpL.nil)) | ((with_reducible apply Wp.seq)) | ((with_reducible apply Wp.region)) | ((with_reducible apply thenQ_normal)) | ((with_reducible apply Wp.block)) | ((with_reducible apply Wp.skip)) | ((with_reducible apply Wp.ret)) | ((with_reducible apply Wp.exit)) | ((with_reducible apply thenQ_exit)) | ((with_reducible apply thenQ_ret)) | ((with_reducible apply blockQ_normal)) | ((with_reducible apply blockQ_ret)) | ((with_reducible apply blockQ_same)) | ((with_reducible apply blockQ_other); (· exact rfl)) | ((with_reducible apply WpL.detG); (· exact rfl); (· exact rfl); (· exact boolFound); (· exact rfl); (· exact Det.found)) | ((with_reducible apply WpL.skipG); (· exact rfl); (· exact rfl); (· exact boolFound); (· exact rfl)) | ((with_reducible apply Wp.condT); (· exact rfl); (· exact boolFound)) | ((with_reducible apply Wp.condF); (· exact rfl); (· exact boolFound)))
      rw [← joined_succ] at hv5
      exact ⟨hlt, hb5.on hb6, v5, hv5.below hb6, rfl, rfl, rfl, rfl, trivial⟩
    · obtain ⟨A3, c3, rfl, -, -, -, hr3⟩ := hv4.form
      generalize hS : Crc.sum (joined ls i) = S at *
      repeat (first | ((with_reducible apply WpL.det); (· exact rfl); (· exact Det.found)) | ((with_reducible apply WpL.nilN)) | ((with_reducible apply WpL.nil)) | ((with_reducible apply Wp.seq)) | ((with_reducible apply Wp.region)) | ((with_reducible apply thenQ_normal)) | ((with_reducible apply Wp.block)) | ((with_reducible apply Wp.skip)) | ((with_reducible apply Wp.ret)) | ((with_reducible apply Wp.exit)) | ((with_reducible apply thenQ_exit)) | ((with_reducible apply thenQ_ret)) | ((with_reducible apply blockQ_normal)) | ((with_reducible apply blockQ_ret)) | ((with_reducible apply blockQ_same)) | ((with_reducible apply blockQ_other); (· exact rfl)) | ((with_reducible apply WpL.detG); (· exact rfl); (· exact rfl); (· exact boolFound); (· exact rfl); (· exact Det.found)) | ((with_reducible apply WpL.skipG); (· exact rfl); (· exact rfl); (· exact boolFound); (· exact rfl)) | ((with_reducible apply Wp.condT); (· exact rfl); (· exact boolFound)) | ((with_reducible apply Wp.condF); (· exact rfl); (· exact boolFound)))
      (with_reducible apply WpL.call); (· exact rfl); (· exact Try.call11); (· exact Vals.found)
      refine (sum_any A3 (joined ls i) _ c3 rfl (by have := htot i hi; simp only [maxLen]; omega) w4 hr3).mono ?_
      rintro x w6 ⟨rfl, hb6⟩
      refine ⟨_, rfl, ?_⟩
      rw [hS]
      repeat (first | ((with_reducible apply WpL.det); (· exact rfl); (· exact Det.found)) | ((with_reducible apply WpL.nilN)) | ((with_reducible apply WpL.nil)) | ((with_reducible apply Wp.seq)) | ((with_reducible apply Wp.region)) | ((with_reducible apply thenQ_normal)) | ((with_reducible apply Wp.block)) | ((with_reducible apply Wp.skip)) | ((with_reducible apply Wp.ret)) | ((with_reducible apply Wp.exit)) | ((with_reducible apply thenQ_exit)) | ((with_reducible apply thenQ_ret)) | ((with_reducible apply blockQ_normal)) | ((with_reducible apply blockQ_ret)) | ((with_reducible apply blockQ_same)) | ((with_reducible apply blockQ_other); (· exact rfl)) | ((with_reducible apply WpL.detG); (· exact rfl); (· exact rfl); (· exact boolFound); (· exact rfl); (· exact Det.found)) | ((with_reducible apply WpL.skipG); (· exact rfl); (· exact rfl); (· exact boolFound); (· exact rfl)) | ((with_reducible apply Wp.condT); (· exact rfl); (· exact boolFound)) | ((with_reducible apply Wp.condF); (· exact rfl); (· exact boolFound)))
      (with_reducible apply doneQ_one Try.results6); (· exact slotFound)
      exact ⟨by simp, hb4.on hb6⟩
  · obtain ⟨A3, c3, rfl, -, -, -, hr3⟩ := hv4.form
    generalize hS : Crc.sum (joined ls i) = S at *
    repeat (first | ((with_reducible apply WpL.det); (· exact rfl); (· exact Det.found)) | ((with_reducible apply WpL.nilN)) | ((with_reducible apply WpL.nil)) | ((with_reducible apply Wp.seq)) | ((with_reducible apply Wp.region)) | ((with_reducible apply thenQ_normal)) | ((with_reducible apply Wp.block)) | ((with_reducible apply Wp.skip)) | ((with_reducible apply Wp.ret)) | ((with_reducible apply Wp.exit)) | ((with_reducible apply thenQ_exit)) | ((with_reducible apply thenQ_ret)) | ((with_reducible apply blockQ_normal)) | ((with_reducible apply blockQ_ret)) | ((with_reducible apply blockQ_same)) | ((with_reducible apply blockQ_other); (· exact rfl)) | ((with_reducible apply WpL.detG); (· exact rfl); (· exact rfl); (· exact boolFound); (· exact rfl); (· exact Det.found)) | ((with_reducible apply WpL.skipG); (· exact rfl); (· exact rfl); (· exact boolFound); (· exact rfl)) | ((with_reducible apply Wp.condT); (· exact rfl); (· exact boolFound)) | ((with_reducible apply Wp.condF); (· exact rfl); (· exact boolFound)))
    (with_reducible apply WpL.call); (· exact rfl); (· exact Try.call11); (· exact Vals.found)
    refine (sum_any A3 (joined ls i) _ c3 rfl (by have := htot i hi; simp only [maxLen]; omega) w4 hr3).mono ?_
    rintro x w6 ⟨rfl, hb6⟩
    refine ⟨_, rfl, ?_⟩
    rw [hS]
    repeat (first | ((with_reducible apply WpL.det); (· exact rfl); (· exact Det.found)) | ((with_reducible apply WpL.nilN)) | ((with_reducible apply WpL.nil)) | ((with_reducible apply Wp.seq)) | ((with_reducible apply Wp.region)) | ((with_reducible apply thenQ_normal)) | ((with_reducible apply Wp.block)) | ((with_reducible apply Wp.skip)) | ((with_reducible apply Wp.ret)) | ((with_reducible apply Wp.exit)) | ((with_reducible apply thenQ_exit)) | ((with_reducible apply thenQ_ret)) | ((with_reducible apply blockQ_normal)) | ((with_reducible apply blockQ_ret)) | ((with_reducible apply blockQ_same)) | ((with_reducible apply blockQ_other); (· exact rfl)) | ((with_reducible apply WpL.detG); (· exact rfl); (· exact rfl); (· exact boolFound); (· exact rfl); (· exact Det.found)) | ((with_reducible apply WpL.skipG); (· exact rfl); (· exact rfl); (· exact boolFound); (· exact rfl)) | ((with_reducible apply Wp.condT); (· exact rfl); (· exact boolFound)) | ((with_reducible apply Wp.condF); (· exact rfl); (· exact boolFound)))
    (with_reducible apply doneQ_one Try.results6); (· exact slotFound)
    exact ⟨by simp, hb4.on hb6⟩
end Go.Proofs.Ytnbbkhabeihckaa
