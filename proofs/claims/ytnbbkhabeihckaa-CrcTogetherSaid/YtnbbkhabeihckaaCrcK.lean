/-
  CrcTogether: the walk.
-/
import Derived.Test.YtnbbkhabeihckaaCrcD
import Derived.Test.YtnbbkhabeihckaaCrcM
import Derived.Test.YtnbbkhabeihckaaRgd
namespace Go.Proofs.Ytnbbkhabeihckaa
open Go.Fk Go.RowKit
attribute [local irreducible] Wp WpL Det thenQ blockQ

theorem crcTogether_any (A1 A2 A3 : Option Addr) (l1 l2 l3 : List UInt8) (n1 n2 n3 c1 c2 c3 : Nat) (hn1 : l1.length = n1) (hn2 : l2.length = n2) (hn3 : l3.length = n3) (hc1 : n1 ≤ c1) (hc2 : n2 ≤ c2) (hc3 : n3 ≤ c3)
    (hm1 : n1 ≤ 140737488355328) (hm2 : n2 ≤ 140737488355328) (hm3 : n3 ≤ 140737488355328) (w : World) (hr1 : Rd w A1 (bv l1)) (hr2 : Rd w A2 (bv l2)) (hr3 : Rd w A3 (bv l3)) :
    Calls Try.prog 4 #[.slice A1 n1 c1, .slice A2 n2 c2, .slice A3 n3 c3] w fun x w' => x = .returned (.bool true) ∧ Below w.heap.size w w' := by
  (refine calls_of (P := Try.prog) _ Try.func4 rfl Try.ntmps4 (Nat.le_of_ble_eq_true rfl) ?_; dsimp only [argE, Nat.reduceAdd])
  repeat (first | ((with_reducible apply WpL.det); (· exact rfl); (· exact Det.found)) | ((with_reducible apply WpL.nilN)) | ((with_reducible apply WpL.nil)) | ((with_reducible apply Wp.seq)) | ((with_reducible apply Wp.region)) | ((with_reducible apply thenQ_normal)) | ((with_reducible apply Wp.block)) | ((with_reducible apply Wp.skip)) | ((with_reducible apply Wp.ret)) | ((with_reducible apply Wp.exit)) | ((with_reducible apply thenQ_exit)) | ((with_reducible apply thenQ_ret)) | ((with_reducible apply blockQ_normal)) | ((with_reducible apply blockQ_ret)) | ((with_reducible apply blockQ_same)) | ((with_reducible apply blockQ_other); (· exact rfl)) | ((with_reducible apply WpL.detG); (· exact rfl); (· exact rfl); (· exact boolFound); (· exact rfl); (· exact Det.found)) | ((with_reducible apply WpL.skipG); (· exact rfl); (· exact rfl); (· exact boolFound); (· exact rfl)) | ((with_reducible apply Wp.condT); (· exact rfl); (· exact boolFound)) | ((with_reducible apply Wp.condF); (· exact rfl); (· exact boolFound)))
  (with_reducible apply WpL.call); (· exact rfl); (· exact Try.call10); (· exact Vals.found)
  refine (awake_any w).mono ?_
  rintro x w1 ⟨rfl, hb1⟩
  refine ⟨_, rfl, ?_⟩
  repeat (first | ((with_reducible apply WpL.det); (· exact rfl); (· exact Det.found)) | ((with_reducible apply WpL.nilN)) | ((with_reducible apply WpL.nil)) | ((with_reducible apply Wp.seq)) | ((with_reducible apply Wp.region)) | ((with_reducible apply thenQ_normal)) | ((with_reducible apply Wp.block)) | ((with_reducible apply Wp.skip)) | ((with_reducible apply Wp.ret)) | ((with_reducible apply Wp.exit)) | ((with_reducible apply thenQ_exit)) | ((with_reducible apply thenQ_ret)) | ((with_reducible apply blockQ_normal)) | ((with_reducible apply blockQ_ret)) | ((with_reducible apply blockQ_same)) | ((with_reducible apply blockQ_other); (· exact rfl)) | ((with_reducible apply WpL.detG); (· exact rfl); (· exact rfl); (· exact boolFound); (· exact rfl); (· exact Det.found)) | ((with_reducible apply WpL.skipG); (· exact rfl); (· exact rfl); (· exact boolFound); (· exact rfl)) | ((with_reducible apply Wp.condT); (· exact rfl); (· exact boolFound)) | ((with_reducible apply Wp.condF); (· exact rfl); (· exact boolFound)))
  apply Wp.cut (fun e w' => w1 = w' ∧ ∃ m : Nat, m ≤ n1 ∧ m ≤ n2 ∧ e.Has [(8, .int .i64 (m : Nat)), (0, .slice A1 n1 c1), (1, .slice A2 n2 c2), (2, .slice A3 n3 c3)])
  · refine Wp.cond _ rfl (fun h => ?_) (fun h => ?_)
    · have h := of_decide_eq_true h
      repeat (first | ((with_reducible apply WpL.det); (· exact rfl); (· exact Det.found)) | ((with_reducible apply WpL.nilN)) | ((with_reducible apply WpL.nil)) | ((with_reducible apply Wp.seq)) | ((with_reducible apply Wp.region)) | ((with_reducible apply thenQ_normal)) | ((with_reducible apply Wp.block)) | ((with_reducible apply Wp.skip)) | ((with_reducible apply Wp.ret)) | ((with_reducible apply Wp.exit)) | ((with_reducible apply thenQ_exit)) | ((with_reducible apply thenQ_ret)) | ((with_reducible apply blockQ_normal)) | ((with_reducible apply blockQ_ret)) | ((with_reducible apply blockQ_same)) | ((with_reducible apply blockQ_other); (· exact rfl)) | ((with_reducible apply WpL.detG); (· exact rfl); (· exact rfl); (· exact boolFound); (· exact rfl); (· exact Det.found)) | ((with_reducible apply WpL.skipG); (· exact rfl); (· exact rfl); (· exact boolFound); (· exact rfl)) | ((with_reducible apply Wp.condT); (· exact rfl); (· exact boolFound)) | ((with_reducible apply Wp.condF); (· exact rfl); (· exact boolFound)))
      exact ⟨rfl, n2, by omega, by omega, rfl, rfl, rfl, rfl, trivial⟩
    · have h := of_decide_eq_false h
      repeat (first | ((with_reducible apply WpL.det); (· exact rfl); (· exact Det.found)) | ((with_reducible apply WpL.nilN)) | ((with_reducible apply WpL.nil)) | ((with_reducible apply Wp.seq)) | ((with_reducible apply Wp.region)) | ((with_reducible apply thenQ_normal)) | ((with_reducible apply Wp.block)) | ((with_reducible apply Wp.skip)) | ((with_reducible apply Wp.ret)) | ((with_reducible apply Wp.exit)) | ((with_reducible apply thenQ_exit)) | ((with_reducible apply thenQ_ret)) | ((with_reducible apply blockQ_normal)) | ((with_reducible apply blockQ_ret)) | ((with_reducible apply blockQ_same)) | ((with_reducible apply blockQ_other); (· exact rfl)) | ((with_reducible apply WpL.detG); (· exact rfl); (· exact rfl); (· exact boolFound); (· exact rfl); (· exact Det.found)) | ((with_reducible apply WpL.skipG); (· exact rfl); (· exact rfl); (· exact boolFound); (· exact rfl)) | ((with_reducible apply Wp.condT); (· exact rfl); (· exact boolFound)) | ((with_reducible apply Wp.condF); (· exact rfl); (· exact boolFound)))
      exact ⟨rfl, n1, by omega, by omega, rfl, rfl, rfl, rfl, trivial⟩
  rintro e w' ⟨rfl, m, h1, h2, he⟩
  obtain ⟨e0, rfl⟩ := he.eq
  clear he
  dsimp only [Env.sets]
  repeat (first | ((with_reducible apply WpL.det); (· exact rfl); (· exact Det.found)) | ((with_reducible apply WpL.nilN)) | ((with_reducible apply WpL.nil)) | ((with_reducible apply Wp.seq)) | ((with_reducible apply Wp.region)) | ((with_reducible apply thenQ_normal)) | ((with_reducible apply Wp.block)) | ((with_reducible apply Wp.skip)) | ((with_reducible apply Wp.ret)) | ((with_reducible apply Wp.exit)) | ((with_reducible apply thenQ_exit)) | ((with_reducible apply thenQ_ret)) | ((with_reducible apply blockQ_normal)) | ((with_reducible apply blockQ_ret)) | ((with_reducible apply blockQ_same)) | ((with_reducible apply blockQ_other); (· exact rfl)) | ((with_reducible apply WpL.detG); (· exact rfl); (· exact rfl); (· exact boolFound); (· exact rfl); (· exact Det.found)) | ((with_reducible apply WpL.skipG); (· exact rfl); (· exact rfl); (· exact boolFound); (· exact rfl)) | ((with_reducible apply Wp.condT); (· exact rfl); (· exact boolFound)) | ((with_reducible apply Wp.condF); (· exact rfl); (· exact boolFound)))
  apply Wp.cut (fun e w' => w1 = w' ∧ ∃ m : Nat, m ≤ n1 ∧ m ≤ n2 ∧ m ≤ n3 ∧ e.Has [(8, .int .i64 (m : Nat)), (0, .slice A1 n1 c1), (1, .slice A2 n2 c2), (2, .slice A3 n3 c3)])
  · refine Wp.cond _ rfl (fun h => ?_) (fun h => ?_)
    · have h := of_decide_eq_true h
      repeat (first | ((with_reducible apply WpL.det); (· exact rfl); (· exact Det.found)) | ((with_reducible apply WpL.nilN)) | ((with_reducible apply WpL.nil)) | ((with_reducible apply Wp.seq)) | ((with_reducible apply Wp.region)) | ((with_reducible apply thenQ_normal)) | ((with_reducible apply Wp.block)) | ((with_reducible apply Wp.skip)) | ((with_reducible apply Wp.ret)) | ((with_reducible apply Wp.exit)) | ((with_reducible apply thenQ_exit)) | ((with_reducible apply thenQ_ret)) | ((with_reducible apply blockQ_normal)) | ((with_reducible apply blockQ_ret)) | ((with_reducible apply blockQ_same)) | ((with_reducible apply blockQ_other); (· exact rfl)) | ((with_reducible apply WpL.detG); (· exact rfl); (· exact rfl); (· exact boolFound); (· exact rfl); (· exact Det.found)) | ((with_reducible apply WpL.skipG); (· exact rfl); (· exact rfl); (· exact boolFound); (· exact rfl)) | ((with_reducible apply Wp.condT); (· exact rfl); (· exact boolFound)) | ((with_reducible apply Wp.condF); (· exact rfl); (· exact boolFound)))
      exact ⟨rfl, n3, by omega, by omega, by omega, rfl, rfl, rfl, rfl, trivial⟩
    · have h := of_decide_eq_false h
      repeat (first | ((with_reducible apply WpL.det); (· exact rfl); (· exact Det.found)) | ((with_reducible apply WpL.nilN)) | ((with_reducible apply WpL.nil)) | ((with_reducible apply Wp.seq)) | ((with_reducible apply Wp.region)) | ((with_reducible apply thenQ_normal)) | ((with_reducible apply Wp.block)) | ((with_reducible apply Wp.skip)) | ((with_reducible apply Wp.ret)) | ((with_reducible apply Wp.exit)) | ((with_reducible apply thenQ_exit)) | ((with_reducible apply thenQ_ret)) | ((with_reducible apply blockQ_normal)) | ((with_reducible apply blockQ_ret)) | ((with_reducible apply blockQ_same)) | ((with_reducible apply blockQ_other); (· exact rfl)) | ((with_reducible apply WpL.detG); (· exact rfl); (· exact rfl); (· exact boolFound); (· exact rfl); (· exact Det.found)) | ((with_reducible apply WpL.skipG); (· exact rfl); (· exact rfl); (· exact boolFound); (· exact rfl)) | ((with_reducible apply Wp.condT); (· exact rfl); (· exact boolFound)) | ((with_reducible apply Wp.condF); (· exact rfl); (· exact boolFound)))
      exact ⟨rfl, m, by omega, by omega, by omega, rfl, rfl, rfl, rfl, trivial⟩
  clear h1 h2 e0 m
  rintro e w' ⟨rfl, m, h1, h2, h3, he⟩
  obtain ⟨e0, rfl⟩ := he.eq
  clear he
  dsimp only [Env.sets]
  repeat (first | ((with_reducible apply WpL.det); (· exact rfl); (· exact Det.found)) | ((with_reducible apply WpL.nilN)) | ((with_reducible apply WpL.nil)) | ((with_reducible apply Wp.seq)) | ((with_reducible apply Wp.region)) | ((with_reducible apply thenQ_normal)) | ((with_reducible apply Wp.block)) | ((with_reducible apply Wp.skip)) | ((with_reducible apply Wp.ret)) | ((with_reducible apply Wp.exit)) | ((with_reducible apply thenQ_exit)) | ((with_reducible apply thenQ_ret)) | ((with_reducible apply blockQ_normal)) | ((with_reducible apply blockQ_ret)) | ((with_reducible apply blockQ_same)) | ((with_reducible apply blockQ_other); (· exact rfl)) | ((with_reducible apply WpL.detG); (· exact rfl); (· exact rfl); (· exact boolFound); (· exact rfl); (· exact Det.found)) | ((with_reducible apply WpL.skipG); (· exact rfl); (· exact rfl); (· exact boolFound); (· exact rfl)) | ((with_reducible apply Wp.condT); (· exact rfl); (· exact boolFound)) | ((with_reducible apply Wp.condF); (· exact rfl); (· exact boolFound)))
  apply Wp.loopUp m (fun i e w' => ∃ v, Below w.heap.size w w' ∧ SlB w' w.heap.size 5 v (Crc.xor2 (Crc.xor2 (l1.take i) (l2.take i)) (l3.take i)) ∧
      e.Has [(10, .int .i64 (i : Nat)), (9, v), (8, .int .i64 m), (0, .slice A1 n1 c1), (1, .slice A2 n2 c2), (2, .slice A3 n3 c3)]) (Nat.zero_le _)
    ⟨_, hb1, SlB.nil _ _ _, rfl, rfl, rfl, rfl, rfl, rfl, trivial⟩
  clear e0
  rintro i e w4 hi ⟨v, hb4, hv4, he⟩
  obtain ⟨e0, rfl⟩ := he.eq
  clear he
  dsimp only [Env.sets]
  have hq1 := hr1.below hb4
  have hq2 := hr2.below hb4
  have hq3 := hr3.below hb4
  have hlen : ∀ j, j ≤ m → (Crc.xor2 (Crc.xor2 (l1.take j) (l2.take j)) (l3.take j)).length = j := fun j hj => Crc.xor2_length (Crc.xor2_length (by simp; omega) (by simp; omega)) (by simp; omega)
  by_cases hlt : i < m
  · obtain ⟨a1, rfl, hat1⟩ := hq1.at_ (i := 0) (by simp; omega)
    obtain ⟨a2, rfl, hat2⟩ := hq2.at_ (i := 0) (by simp; omega)
    obtain ⟨a3, rfl, hat3⟩ := hq3.at_ (i := 0) (by simp; omega)
    have hx1 : (l1[i]'(by omega)).toNat < 256 := UInt8.toNat_lt _
    have hx2 : (l2[i]'(by omega)).toNat < 256 := UInt8.toNat_lt _
    have hx3 : (l3[i]'(by omega)).toNat < 256 := UInt8.toNat_lt _
    have hx12 : (l1[i]'(by omega)).toNat ^^^ (l2[i]'(by omega)).toNat < 256 := lim_xor (k := .u8) hx1 hx2
    repeat (first | ((with_reducible apply WpL.det); (· exact rfl); (· exact Det.found)) | ((with_reducible apply WpL.nilN)) | ((with_reducible apply WpL.nil)) | ((with_reducible apply Wp.seq)) | ((with_reducible apply Wp.region)) | ((with_reducible apply thenQ_normal)) | ((with_reducible apply Wp.block)) | ((with_reducible apply Wp.skip)) | ((with_reducible apply Wp.ret)) | ((with_reducible apply Wp.exit)) | ((with_reducible apply thenQ_exit)) | ((with_reducible apply thenQ_ret)) | ((with_reducible apply blockQ_normal)) | ((with_reducible apply blockQ_ret)) | ((with_reducible apply blockQ_same)) | ((with_reducible apply blockQ_other); (· exact rfl)) | ((with_reducible apply WpL.detG); (· exact rfl); (· exact rfl); (· exact boolFound); (· exact rfl); (· exact Det.found)) | ((with_reducible apply WpL.skipG); (· exact rfl); (· exact rfl); (· exact boolFound); (· exact rfl)) | ((with_reducible apply Wp.condT); (· exact rfl); (· exact boolFound)) | ((with_reducible apply Wp.condF); (· exact rfl); (· exact boolFound)))
    (refine Wp.drawD 16 (by kernel_rfl) (by kernel_rfl) rfl ?_; dsimp only [List.take, List.drop])
    (repeat (first | ((with_reducible apply RgD.det); (· exact rfl); (· exact rfl); (· exact rfl); (· exact rfl); (· exact Det.found)) | ((with_reducible apply RgD.detG); (· exact rfl); (· exact rfl); (· exact boolFound); (· exact rfl); (· exact rfl); (· exact rfl); (· exact rfl); (· exact Det.found)) | ((with_reducible apply RgD.skipG); (· exact rfl); (· exact rfl); (· exact boolFound); (· exact rfl); (· exact rfl); (· exact rfl); (· exact rfl))))
    refine RgD.loadA (v := .int .u8 ((l1[i]'(by omega)).toNat : Int)) rfl rfl rfl rfl hat1 (bv_get (by omega)) ?_
    (repeat (first | ((with_reducible apply RgD.det); (· exact rfl); (· exact rfl); (· exact rfl); (· exact rfl); (· exact Det.found)) | ((with_reducible apply RgD.detG); (· exact rfl); (· exact rfl); (· exact boolFound); (· exact rfl); (· exact rfl); (· exact rfl); (· exact rfl); (· exact Det.found)) | ((with_reducible apply RgD.skipG); (· exact rfl); (· exact rfl); (· exact boolFound); (· exact rfl); (· exact rfl); (· exact rfl); (· exact rfl))))
    refine RgD.loadA (v := .int .u8 ((l2[i]'(by omega)).toNat : Int)) rfl rfl rfl rfl hat2 (bv_get (by omega)) ?_
    (repeat (first | ((with_reducible apply RgD.det); (· exact rfl); (· exact rfl); (· exact rfl); (· exact rfl); (· exact Det.found)) | ((with_reducible apply RgD.detG); (· exact rfl); (· exact rfl); (· exact boolFound); (· exact rfl); (· exact rfl); (· exact rfl); (· exact rfl); (· exact Det.found)) | ((with_reducible apply RgD.skipG); (· exact rfl); (· exact rfl); (· exact boolFound); (· exact rfl); (· exact rfl); (· exact rfl); (· exact rfl))))
    refine RgD.loadA (v := .int .u8 ((l3[i]'(by omega)).toNat : Int)) rfl rfl rfl rfl hat3 (bv_get (by omega)) ?_
    (repeat (first | ((with_reducible apply RgD.det); (· exact rfl); (· exact rfl); (· exact rfl); (· exact rfl); (· exact Det.found)) | ((with_reducible apply RgD.detG); (· exact rfl); (· exact rfl); (· exact boolFound); (· exact rfl); (· exact rfl); (· exact rfl); (· exact rfl); (· exact Det.found)) | ((with_reducible apply RgD.skipG); (· exact rfl); (· exact rfl); (· exact boolFound); (· exact rfl); (· exact rfl); (· exact rfl); (· exact rfl))))
    have hf : ((l1[i]'(by omega)) ^^^ (l2[i]'(by omega)) ^^^ (l3[i]'(by omega))).toNat = (l1[i]'(by omega)).toNat ^^^ (l2[i]'(by omega)).toNat ^^^ (l3[i]'(by omega)).toNat := by simp only [UInt8.toNat_xor]
    refine RgD.spec0 (fun x w => ∃ g, x = .slice (some ⟨g, 0, none⟩) 1 1 ∧ Rd w (some ⟨g, 0, none⟩) (bv [(l1[i]'(by omega)) ^^^ (l2[i]'(by omega)) ^^^ (l3[i]'(by omega))])) rfl rfl rfl rfl (fun x w w' ⟨g, h, hr⟩ hb => ⟨g, h, hr.below hb⟩) (fun w5 hb5 => ?_) ?_
    · refine WpL.buildSlice (bytes := 1) rfl BVals.found (oneAll_spec rfl) rfl (by decide) ?_
      intro w6 hb6 hs6 hg6
      exact WpL.nil ⟨⟨hb5.on hb6, hb6⟩, _, Env.set_same _ _ _, .inr ⟨_, rfl, by simp only [bv, List.map_cons, List.map_nil, hf]; exact hg6.at_⟩⟩
    refine RgD.fin1 fun w5 hb5 x ⟨g, hx, hrx⟩ => ?_
    subst hx
    have hb5' := hb4.on hb5
    have hli := hlen i hi
    refine WpL.appendB (l := [(l1[i]'(by omega)) ^^^ (l2[i]'(by omega)) ^^^ (l3[i]'(by omega))]) rfl Env.found Env.found (hv4.below hb5) hrx rfl (by rw [hli]; simp only [List.length_singleton]; omega) hb5' ?_
    intro v6 w6 hv6 hb6 _ _
    rw [← Crc.xor2_take_succ] at hv6
    repeat (first | ((with_reducible apply WpL.det); (· exact rfl); (· exact Det.found)) | ((with_reducible apply WpL.nilN)) | ((with_reducible apply WpL.nil)) | ((with_reducible apply Wp.seq)) | ((with_reducible apply Wp.region)) | ((with_reducible apply thenQ_normal)) | ((with_reducible apply Wp.block)) | ((with_reducible apply Wp.skip)) | ((with_reducible apply Wp.ret)) | ((with_reducible apply Wp.exit)) | ((with_reducible apply thenQ_exit)) | ((with_reducible apply thenQ_ret)) | ((with_reducible apply blockQ_normal)) | ((with_reducible apply blockQ_ret)) | ((with_reducible apply blockQ_same)) | ((with_reducible apply blockQ_other); (· exact rfl)) | ((with_reducible apply WpL.detG); (· exact rfl); (· exact rfl); (· exact boolFound); (· exact rfl); (· exact Det.found)) | ((with_reducible apply WpL.skipG); (· exact rfl); (· exact rfl); (· exact boolFound); (· exact rfl)) | ((with_reducible apply Wp.condT); (· exact rfl); (· exact boolFound)) | ((with_reducible apply Wp.condF); (· exact rfl); (· exact boolFound)))
    exact ⟨hlt, _, hb6, hv6, rfl, rfl, rfl, rfl, rfl, rfl, trivial⟩
  · have hik : i = m := by omega
    subst hik
    have hli := hlen i hi
    have hs1 := Crc.sum_lt (l1.take i)
    have hs2 := Crc.sum_lt (l2.take i)
    have hs3 := Crc.sum_lt (l3.take i)
    have hs12 : Crc.sum (l1.take i) ^^^ Crc.sum (l2.take i) < 4294967296 := lim_xor (k := .u32) hs1 hs2
    have hsum := Crc.sum_three (a := l1.take i) (b := l2.take i) (c := l3.take i) (n := i) (by simp; omega) (by simp; omega) (by simp; omega)
    generalize hS1 : Crc.sum (l1.take i) = S1 at *
    generalize hS2 : Crc.sum (l2.take i) = S2 at *
    generalize hS3 : Crc.sum (l3.take i) = S3 at *
    generalize Crc.xor2 (Crc.xor2 (l1.take i) (l2.take i)) (l3.take i) = L at *
    repeat (first | ((with_reducible apply WpL.det); (· exact rfl); (· exact Det.found)) | ((with_reducible apply WpL.nilN)) | ((with_reducible apply WpL.nil)) | ((with_reducible apply Wp.seq)) | ((with_reducible apply Wp.region)) | ((with_reducible apply thenQ_normal)) | ((with_reducible apply Wp.block)) | ((with_reducible apply Wp.skip)) | ((with_reducible apply Wp.ret)) | ((with_reducible apply Wp.exit)) | ((with_reducible apply thenQ_exit)) | ((with_reducible apply thenQ_ret)) | ((with_reducible apply blockQ_normal)) | ((with_reducible apply blockQ_ret)) | ((with_reducible apply blockQ_same)) | ((with_reducible apply blockQ_other); (· exact rfl)) | ((with_reducible apply WpL.detG); (· exact rfl); (· exact rfl); (· exact boolFound); (· exact rfl); (· exact Det.found)) | ((with_reducible apply WpL.skipG); (· exact rfl); (· exact rfl); (· exact boolFound); (· exact rfl)) | ((with_reducible apply Wp.condT); (· exact rfl); (· exact boolFound)) | ((with_reducible apply Wp.condF); (· exact rfl); (· exact boolFound)))
    (refine Wp.drawD 17 (by kernel_rfl) (by kernel_rfl) rfl ?_; dsimp only [List.take, List.drop])
    (repeat (first | ((with_reducible apply RgD.det); (· exact rfl); (· exact rfl); (· exact rfl); (· exact rfl); (· exact Det.found)) | ((with_reducible apply RgD.detG); (· exact rfl); (· exact rfl); (· exact boolFound); (· exact rfl); (· exact rfl); (· exact rfl); (· exact rfl); (· exact Det.found)) | ((with_reducible apply RgD.skipG); (· exact rfl); (· exact rfl); (· exact boolFound); (· exact rfl); (· exact rfl); (· exact rfl); (· exact rfl))))
    refine RgD.known0 (c := .int .u32 (S1 : Int)) rfl rfl rfl rfl (fun w5 hb5 => ?_) ?_
    · (with_reducible apply WpL.call); (· exact rfl); (· exact Try.call11); (· exact Vals.found)
      refine (sum_any _ (l1.take i) _ _ (by simp; omega) (by simp only [maxLen]; omega) w5 (by rw [bv_take]; exact (hq1.take _).below hb5)).mono ?_
      rintro x w6 ⟨rfl, hb6⟩
      exact ⟨_, rfl, WpL.nil ⟨⟨hb5.on hb6, hb6⟩, by rw [Env.set_same, hS1]⟩⟩
    (repeat (first | ((with_reducible apply RgD.det); (· exact rfl); (· exact rfl); (· exact rfl); (· exact rfl); (· exact Det.found)) | ((with_reducible apply RgD.detG); (· exact rfl); (· exact rfl); (· exact boolFound); (· exact rfl); (· exact rfl); (· exact rfl); (· exact rfl); (· exact Det.found)) | ((with_reducible apply RgD.skipG); (· exact rfl); (· exact rfl); (· exact boolFound); (· exact rfl); (· exact rfl); (· exact rfl); (· exact rfl))))
    refine RgD.known0 (c := .int .u32 (S2 : Int)) rfl rfl rfl rfl (fun w5 hb5 => ?_) ?_
    · (with_reducible apply WpL.call); (· exact rfl); (· exact Try.call11); (· exact Vals.found)
      refine (sum_any _ (l2.take i) _ _ (by simp; omega) (by simp only [maxLen]; omega) w5 (by rw [bv_take]; exact (hq2.take _).below hb5)).mono ?_
      rintro x w6 ⟨rfl, hb6⟩
      exact ⟨_, rfl, WpL.nil ⟨⟨hb5.on hb6, hb6⟩, by rw [Env.set_same, hS2]⟩⟩
    (repeat (first | ((with_reducible apply RgD.det); (· exact rfl); (· exact rfl); (· exact rfl); (· exact rfl); (· exact Det.found)) | ((with_reducible apply RgD.detG); (· exact rfl); (· exact rfl); (· exact boolFound); (· exact rfl); (· exact rfl); (· exact rfl); (· exact rfl); (· exact Det.found)) | ((with_reducible apply RgD.skipG); (· exact rfl); (· exact rfl); (· exact boolFound); (· exact rfl); (· exact rfl); (· exact rfl); (· exact rfl))))
    refine RgD.known0 (c := .int .u32 (S3 : Int)) rfl rfl rfl rfl (fun w5 hb5 => ?_) ?_
    · (with_reducible apply WpL.call); (· exact rfl); (· exact Try.call11); (· exact Vals.found)
      refine (sum_any _ (l3.take i) _ _ (by simp; omega) (by simp only [maxLen]; omega) w5 (by rw [bv_take]; exact (hq3.take _).below hb5)).mono ?_
      rintro x w6 ⟨rfl, hb6⟩
      exact ⟨_, rfl, WpL.nil ⟨⟨hb5.on hb6, hb6⟩, by rw [Env.set_same, hS3]⟩⟩
    (repeat (first | ((with_reducible apply RgD.det); (· exact rfl); (· exact rfl); (· exact rfl); (· exact rfl); (· exact Det.found)) | ((with_reducible apply RgD.detG); (· exact rfl); (· exact rfl); (· exact boolFound); (· exact rfl); (· exact rfl); (· exact rfl); (· exact rfl); (· exact Det.found)) | ((with_reducible apply RgD.skipG); (· exact rfl); (· exact rfl); (· exact boolFound); (· exact rfl); (· exact rfl); (· exact rfl); (· exact rfl))))
    obtain ⟨A4, k4, rfl, -, -, -, hr4⟩ := hv4.form
    refine RgD.known0 (c := .int .u32 ((S1 ^^^ S2 ^^^ S3 : Nat) : Int)) rfl rfl rfl rfl (fun w5 hb5 => ?_) ?_
    · (with_reducible apply WpL.call); (· exact rfl); (· exact Try.call11); (· exact Vals.found)
      refine (sum_any A4 L _ _ rfl (by rw [hli]; simp only [maxLen]; omega) w5 (hr4.below hb5)).mono ?_
      rintro x w6 ⟨rfl, hb6⟩
      exact ⟨_, rfl, WpL.nil ⟨⟨hb5.on hb6, hb6⟩, by rw [Env.set_same, hsum]⟩⟩
    (repeat (first | ((with_reducible apply RgD.det); (· exact rfl); (· exact rfl); (· exact rfl); (· exact rfl); (· exact Det.found)) | ((with_reducible apply RgD.detG); (· exact rfl); (· exact rfl); (· exact boolFound); (· exact rfl); (· exact rfl); (· exact rfl); (· exact rfl); (· exact Det.found)) | ((with_reducible apply RgD.skipG); (· exact rfl); (· exact rfl); (· exact boolFound); (· exact rfl); (· exact rfl); (· exact rfl); (· exact rfl))))
    refine RgD.fin0 fun w5 hb5 => ?_
    repeat (first | ((with_reducible apply WpL.det); (· exact rfl); (· exact Det.found)) | ((with_reducible apply WpL.nilN)) | ((with_reducible apply WpL.nil)) | ((with_reducible apply Wp.seq)) | ((with_reducible apply Wp.region)) | ((with_reducible apply thenQ_normal)) | ((with_reducible apply Wp.block)) | ((with_reducible apply Wp.skip)) | ((with_reducible apply Wp.ret)) | ((with_reducible apply Wp.exit)) | ((with_reducible apply thenQ_exit)) | ((with_reducible apply thenQ_ret)) | ((with_reducible apply blockQ_normal)) | ((with_reducible apply blockQ_ret)) | ((with_reducible apply blockQ_same)) | ((with_reducible apply blockQ_other); (· exact rfl)) | ((with_reducible apply WpL.detG); (· exact rfl); (· exact rfl); (· exact boolFound); (· exact rfl); (· exact Det.found)) | ((with_reducible apply WpL.skipG); (· exact rfl); (· exact rfl); (· exact boolFound); (· exact rfl)) | ((with_reducible apply Wp.condT); (· exact rfl); (· exact boolFound)) | ((with_reducible apply Wp.condF); (· exact rfl); (· exact boolFound)))
    (with_reducible apply doneQ_one Try.results4); (· exact slotFound)
    exact ⟨by simp, hb4.on hb5⟩
end Go.Proofs.Ytnbbkhabeihckaa
