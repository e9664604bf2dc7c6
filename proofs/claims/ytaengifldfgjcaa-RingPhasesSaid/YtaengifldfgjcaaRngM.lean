/-
  RingOnce: each entry is fetched once, in order.
-/
import Derived.Test.YtaengifldfgjcaaRngJ
namespace Go.Proofs.Ytaengifldfgjcaa
open Go.Fk Go.RowKit
attribute [local irreducible] Wp WpL Det thenQ blockQ
/-- The slots from got up to put hold their numbers. -/
def Holds (mem : List UInt8) (d got put : Nat) : Prop := ∀ k, got ≤ k → k < put → (mem.getD (k % d * 64) 0).toNat = k % 256 ∧ (mem.getD (k % d * 64 + 1) 0).toNat = (k >>> 8) % 256
theorem slot_ne {d k p : Nat} (h1 : k < p) (h2 : p - k < d) : k % d ≠ p % d := by
  intro he
  obtain ⟨j, rfl⟩ : ∃ j, p = k + j := ⟨p - k, by omega⟩
  rw [Nat.add_sub_cancel_left] at h2
  have hd : k % d < d := Nat.mod_lt _ (by omega)
  have e : (k + j) % d = (k % d + j) % d := by rw [Nat.mod_add_mod]
  rw [e] at he
  generalize k % d = r at *
  rw [mod2 (by omega)] at he
  split at he <;> omega
theorem ahead_mod {d q p : Nat} (hd : 0 < d) (h1 : q ≤ p) (h2 : p - q < d) : ahead d (q % d) ((p % d : Nat) : Int) = p - q := by
  have hq : q % d < d := Nat.mod_lt _ hd
  have hp : p % d < d := Nat.mod_lt _ hd
  rw [ahead_eq hq (by omega), Int.toNat_natCast]
  obtain ⟨j, rfl⟩ : ∃ j, p = q + j := ⟨p - q, by omega⟩
  have e : (q + j) % d = (q % d + j) % d := by rw [Nat.mod_add_mod]
  rw [e, Nat.add_sub_cancel_left]
  rw [Nat.add_sub_cancel_left] at h2
  generalize q % d = r at *
  rw [mod2 (by omega)]
  split <;> split <;> omega
theorem getD_set_u8 (l : List UInt8) (i j : Nat) (x : UInt8) : (l.set i x).getD j 0 = if i = j ∧ i < l.length then x else l.getD j 0 := by
  simp only [List.getD_eq_getElem?_getD, List.getElem?_set]
  by_cases h : i = j
  · subst h
    by_cases h2 : i < l.length
    · simp [h2]
    · simp [h2]
  · simp [h]
theorem Holds.put {mem : List UInt8} {d got put : Nat} (h : Holds mem d got put) (hl : mem.length = 64 * d) (hd : 2 ≤ d) (hg : got ≤ put) (hlt : put - got < d - 1) :
    Holds ((mem.set (put % d * 64) (UInt8.ofNat (put % 256))).set (put % d * 64 + 1) (UInt8.ofNat ((put >>> 8) % 256))) d got (put + 1) := by
  intro k h1 h2
  have hp : put % d < d := Nat.mod_lt _ (by omega)
  have hk : k % d < d := Nat.mod_lt _ (by omega)
  rw [getD_set_u8, getD_set_u8, getD_set_u8, getD_set_u8, List.length_set]
  by_cases he : k = put
  · subst he
    rw [if_neg (by omega), if_pos (by omega), if_pos (by omega)]
    simp
  · have hne := slot_ne (d := d) (show k < put by omega) (by omega)
    rw [if_neg (by omega), if_neg (by omega), if_neg (by omega), if_neg (by omega)]
    exact h k h1 (by omega)
theorem Holds.next {mem : List UInt8} {d got put : Nat} (h : Holds mem d got put) : Holds mem d (got + 1) put := fun k h1 h2 => h k (by omega) h2
theorem getD_memZ {l : List Int} {i : Nat} (h : i < l.length) : l.getD i 0 ∈ l := by
  rw [List.getD_eq_getElem?_getD, List.getElem?_eq_getElem h]; exact List.getElem_mem h
theorem getD_slot {mem : List UInt8} {o i : Nat} (hi : i < 64) : (List.take 64 (List.drop o mem)).getD i 0 = mem.getD (o + i) 0 := by
  simp only [List.getD_eq_getElem?_getD, List.getElem?_take, List.getElem?_drop, hi, if_true]

set_option maxHeartbeats 8000000 in
theorem ringOnce_any {depth : Int} (hdp : -9223372036854775808 ≤ depth ∧ depth ≤ 9223372036854775807) {A1 A2 : Option Addr} {z1 z2 : List Int} {n1 n2 c1 c2 : Nat} (hl1 : n1 ≤ z1.length) (hl2 : n2 ≤ z2.length) (hv1 : IsVw A1 n1 c1 A1 0) (hv2 : IsVw A2 n2 c2 A2 0)
    (hw1 : ∀ x ∈ z1, -9223372036854775808 ≤ x ∧ x ≤ 9223372036854775807) (hw2 : ∀ x ∈ z2, -9223372036854775808 ≤ x ∧ x ≤ 9223372036854775807) (W : World) (hr1 : Rd W A1 (zv z1)) (hr2 : Rd W A2 (zv z2)) :
    Calls Try.prog 3 #[.int .i64 depth, .slice A1 n1 c1, .slice A2 n2 c2] W fun x w' => x = .returned (.bool true) ∧ Below W.heap.size W w' := by
  have hS := ((St.start W).startRo hr1).startRo hr2
  clear hr1 hr2
  have hm1 := hv1.max
  have hm2 := hv2.max
  have he1 := hv1.le
  have he2 := hv2.le
  (refine calls_of (P := Try.prog) _ Try.func3 rfl Try.ntmps3 (Nat.le_of_ble_eq_true rfl) ?_; dsimp only [argE, Nat.reduceAdd])
  (refine Reach.walk ?_; (repeat (first | ((with_reducible refine AllSt.mk ?_); (try clear hS); intro w hS) | ((with_reducible refine AllVw.mk ?_); intro V hV))))
  (with_reducible apply WpL.call); (· exact rfl); (· exact Try.call8); (· exact Vals.found)
  refine (awake_any W).mono ?_
  rintro x w ⟨rfl, hb⟩
  refine ⟨_, rfl, ?_⟩
  replace hS := hS.below hb
  clear hb
  (refine Reach.walk ?_; (repeat (first | ((with_reducible refine AllSt.mk ?_); (try clear hS); intro w hS) | ((with_reducible refine AllVw.mk ?_); intro V hV))))
  (with_reducible apply WpL.call); (· exact rfl); (· exact Try.call9); (· exact Vals.found)
  refine (abs_any hdp w).mono ?_
  rintro x w1 ⟨rfl, rfl⟩
  refine ⟨_, rfl, ?_⟩
  have hdm : absN depth % 20 < 20 := Nat.mod_lt _ (by decide)
  have had := absN_le hdp
  (refine Reach.walk ?_; (repeat (first | ((with_reducible refine AllSt.mk ?_); (try clear hS); intro w hS) | ((with_reducible refine AllVw.mk ?_); intro V hV))))
  generalize hdd : 2 + absN depth % 20 = d at *
  have hd : 2 ≤ d ∧ d ≤ 21 := by omega
  clear had hdd hdm
  (refine Reach.walk ?_; (repeat (first | ((with_reducible refine AllSt.mk ?_); (try clear hS); intro w hS) | ((with_reducible refine AllVw.mk ?_); intro V hV))))
  refine WpL.mk1 (bytes := 1) (n := 64 * d) (z := .int .u8 0) hS rfl rfl rfl rfl rfl rfl (by omega) (by omega) ?_
  clear hS
  intro A w hV hS
  rw [replicate_bv] at hS
  have hl : (List.replicate (64 * d) (0 : UInt8)).length = 64 * d := List.length_replicate
  generalize List.replicate (64 * d) (0 : UInt8) = m0 at *
  (refine Reach.walk ?_; (repeat (first | ((with_reducible refine AllSt.mk ?_); (try clear hS); intro w hS) | ((with_reducible refine AllVw.mk ?_); intro V hV))))
  (with_reducible apply WpL.call); (· exact rfl); (· exact Try.call10); (· exact Vals.found)
  refine (newSub_any (m := 64 * d) (base := 0) (d := (d : Int)) (by omega) hS).mono ?_
  clear hS
  have hfine : fineR (64 * d) 0 (d : Int) 64 := ⟨by omega, by omega, by omega, by omega, by omega⟩
  rintro x w (⟨hf, gs, rfl, hS⟩ | ⟨hf, rfl, hS⟩)
  rotate_left
  · exact absurd hfine hf
  refine ⟨_, rfl, ?_⟩
  rw [Int.toNat_natCast] at hS
  (replace hS := (hS.take (pre := [.blk gs _ _, .own A _ _ _ _ _, .ro A1 _, .ro A2 _]) Take.found); (try simp only [List.cons_append, List.nil_append] at hS))
  (refine Reach.walk ?_; (repeat (first | ((with_reducible refine AllSt.mk ?_); (try clear hS); intro w hS) | ((with_reducible refine AllVw.mk ?_); intro V hV))))
  apply Wp.loopUp 60 (fun i e w' => ∃ mem got put, mem.length = 64 * d ∧ got ≤ put ∧ put - got < d ∧ put ≤ 21 * i ∧ Holds mem d got put ∧
      St W (feet []) w' [.blk gs 63 (loopC A (64 * d) (64 * d) 0 d 64 (got % d) (put - got)), .own A (64 * d) (64 * d) 5 1 (bv mem), .ro A1 (zv z1), .ro A2 (zv z2)] ∧
      e.Has [(13, .int .i64 (i : Nat)), (11, .int .i64 (put : Nat)), (12, .int .i64 (got : Nat)), (0, .int .i64 (d : Nat)), (1, .slice A1 n1 c1), (2, .slice A2 n2 c2), (8, .slice A (64 * d) (64 * d)), (9, .pointer (some ⟨gs, 0, none⟩))]) (Nat.zero_le _)
    ⟨m0, 0, 0, hl, by omega, by omega, by omega, fun k h1 h2 => absurd h2 (by omega), by rw [Nat.zero_mod, Nat.sub_self]; exact hS, rfl, rfl, rfl, rfl, rfl, rfl, rfl, rfl, trivial⟩
  clear hS hl
  rintro i e w hi ⟨mem, got, put, hl, hgp, hpd, hp60, hh, hS, he⟩
  obtain ⟨e0, rfl⟩ := he.eq
  clear he
  dsimp only [Env.sets]
  by_cases hgo : i < n1
  rotate_left
  · (refine Reach.walk ?_; (repeat (first | ((with_reducible refine AllSt.mk ?_); (try clear hS); intro w hS) | ((with_reducible refine AllVw.mk ?_); intro V hV))))
    (with_reducible apply doneQ_one Try.results3); (· exact slotFound)
    exact ⟨rfl, hS.sub (List.nil_sublist _) |>.toBelow⟩
  by_cases hgo2 : i < 60
  rotate_left
  · (refine Reach.walk ?_; (repeat (first | ((with_reducible refine AllSt.mk ?_); (try clear hS); intro w hS) | ((with_reducible refine AllVw.mk ?_); intro V hV))))
    (with_reducible apply doneQ_one Try.results3); (· exact slotFound)
    exact ⟨rfl, hS.sub (List.nil_sublist _) |>.toBelow⟩
  have hz1 : -9223372036854775808 ≤ z1.getD i 0 ∧ z1.getD i 0 ≤ 9223372036854775807 := hw1 _ (getD_memZ (by omega))
  have ha1 := absN_le hz1
  generalize hg1 : z1.getD i 0 = y1 at *
  (refine Reach.walk ?_; (repeat (first | ((with_reducible refine AllSt.mk ?_); (try clear hS); intro w hS) | ((with_reducible refine AllVw.mk ?_); intro V hV))))
  rw [hg1]
  (refine Reach.walk ?_; (repeat (first | ((with_reducible refine AllSt.mk ?_); (try clear hS); intro w hS) | ((with_reducible refine AllVw.mk ?_); intro V hV))))
  (with_reducible apply WpL.call); (· exact rfl); (· exact Try.call9); (· exact Vals.found)
  refine (abs_any hz1 w).mono ?_
  rintro x w1 ⟨rfl, rfl⟩
  refine ⟨_, rfl, ?_⟩
  generalize absN y1 = a1 at *
  have hk1 : a1 % d < d := Nat.mod_lt _ (by omega)
  (refine Reach.walk ?_; (repeat (first | ((with_reducible refine AllSt.mk ?_); (try clear hS); intro w hS) | ((with_reducible refine AllVw.mk ?_); intro V hV))))
  generalize a1 % d = kk at *
  apply Wp.loopUp kk (fun j e w' => ∃ mem put', mem.length = 64 * d ∧ put ≤ put' ∧ put' ≤ put + j ∧ put' - got < d ∧ Holds mem d got put' ∧
      St W (feet []) w' [.blk gs 63 (loopC A (64 * d) (64 * d) 0 d 64 (got % d) (put - got)), .own A (64 * d) (64 * d) 5 1 (bv mem), .ro A1 (zv z1), .ro A2 (zv z2)] ∧
      e.Has [(15, .int .i64 (j : Nat)), (14, .int .i64 (kk : Nat)), (13, .int .i64 (i : Nat)), (11, .int .i64 (put' : Nat)), (12, .int .i64 (got : Nat)), (0, .int .i64 (d : Nat)), (1, .slice A1 n1 c1), (2, .slice A2 n2 c2), (8, .slice A (64 * d) (64 * d)), (9, .pointer (some ⟨gs, 0, none⟩))]) (Nat.zero_le _)
    ⟨mem, put, hl, by omega, by omega, hpd, hh, hS, rfl, rfl, rfl, rfl, rfl, rfl, rfl, rfl, rfl, rfl, trivial⟩
  clear hS hh hl
  rintro j e w hj ⟨mem, p, hl, hpp, hpj, hpd', hh, hS, he⟩
  obtain ⟨e0, rfl⟩ := he.eq
  clear he
  dsimp only [Env.sets]
  by_cases hb : j < kk ∧ p - got < d - 1
  · obtain ⟨hb1, hb2⟩ := hb
    have hput := hh.put hl (by omega) (by omega) hb2
    have hpm : p % d < d := Nat.mod_lt _ (by omega)
    have hsl : (mem.set (p % d * 64) (UInt8.ofNat (p % 256))).length = mem.length := List.length_set
    have hsl2 : ((mem.set (p % d * 64) (UInt8.ofNat (p % 256))).set (p % d * 64 + 1) (UInt8.ofNat ((p >>> 8) % 256))).length = mem.length := by rw [List.length_set, List.length_set]
    (refine Reach.walk ?_; (repeat (first | ((with_reducible refine AllSt.mk ?_); (try clear hS); intro w hS) | ((with_reducible refine AllVw.mk ?_); intro V hV))))
    exact ⟨hb1, _, p + 1, by rw [hsl2]; exact hl, by omega, by omega, by omega, hput, hS, rfl, rfl, rfl, rfl, rfl, rfl, rfl, rfl, rfl, rfl, trivial⟩
  (repeat (with_reducible apply Wp.seq))
  refine Wp.cut (fun e' w' => w' = w ∧ e'.Has [(70, .bool false), (13, .int .i64 (i : Nat)), (11, .int .i64 (p : Nat)), (12, .int .i64 (got : Nat)), (0, .int .i64 (d : Nat)), (1, .slice A1 n1 c1), (2, .slice A2 n2 c2), (8, .slice A (64 * d) (64 * d)), (9, .pointer (some ⟨gs, 0, none⟩))]) ?_ ?_
  · by_cases hb1 : j < kk
    · have hb2 : ¬ p - got < d - 1 := fun h => hb ⟨hb1, h⟩
      (refine Reach.walk ?_; (repeat (first | ((with_reducible refine AllSt.mk ?_); (try clear hS); intro w hS) | ((with_reducible refine AllVw.mk ?_); intro V hV))))
      exact ⟨rfl, boolV (decide_eq_false (by omega)), rfl, rfl, rfl, rfl, rfl, rfl, rfl, rfl, trivial⟩
    · (refine Reach.walk ?_; (repeat (first | ((with_reducible refine AllSt.mk ?_); (try clear hS); intro w hS) | ((with_reducible refine AllVw.mk ?_); intro V hV))))
      exact ⟨rfl, rfl, rfl, rfl, rfl, rfl, rfl, rfl, rfl, rfl, trivial⟩
  rintro e w1 ⟨rfl, he⟩
  obtain ⟨e0, rfl⟩ := he.eq
  clear he
  dsimp only [Env.sets]
  clear hb
  have hp61 : p ≤ 21 * (i + 1) := by omega
  have hgq : got ≤ p := by omega
  have hfq : (got % d + (put - got)) % d = put % d := by rw [Nat.mod_add_mod, show got + (put - got) = put by omega]
  have hah : ahead d ((got % d + (put - got)) % d) ((p % d : Nat) : Int) = p - put := by rw [hfq]; exact ahead_mod (by omega) hpp (by omega)
  have hgm : got % d < d := Nat.mod_lt _ (by omega)
  have hpm : p % d < d := Nat.mod_lt _ (by omega)
  (refine Reach.walk ?_; (repeat (first | ((with_reducible refine AllSt.mk ?_); (try clear hS); intro w hS) | ((with_reducible refine AllVw.mk ?_); intro V hV))))
  (with_reducible apply WpL.call); (· exact rfl); (· exact Try.call11); (· exact Vals.found)
  refine (subBell_any (t := ((p % d : Nat) : Int)) (by omega) hgm (by omega) hS).mono ?_
  clear hS
  rintro x w (⟨-, rfl, hS⟩ | ⟨h, _⟩)
  rotate_left
  · exact absurd ⟨by omega, by rw [hah]; omega⟩ h
  refine ⟨_, rfl, ?_⟩
  rw [hah, show put - got + (p - put) = p - got by omega] at hS
  clear hah hfq hpp hpj hpm hp60 hgp hpd
  (refine Reach.walk ?_; (repeat (first | ((with_reducible refine AllSt.mk ?_); (try clear hS); intro w hS) | ((with_reducible refine AllVw.mk ?_); intro V hV))))
  (with_reducible apply WpL.call); (· exact rfl); (· exact Try.call12); (· exact Vals.found)
  refine (waiting_any (n := p - got) Look.found hS).mono ?_
  rintro x w1 ⟨rfl, rfl⟩
  refine ⟨_, rfl, ?_⟩
  (refine Reach.walk ?_; (repeat (first | ((with_reducible refine AllSt.mk ?_); (try clear hS); intro w hS) | ((with_reducible refine AllVw.mk ?_); intro V hV))))
  refine Wp.cut (fun e' w' => w' = w ∧ ∃ nn : Nat, nn < d ∧ e'.Has [(17, .int .i64 (nn : Nat)), (13, .int .i64 (i : Nat)), (11, .int .i64 (p : Nat)), (12, .int .i64 (got : Nat)), (0, .int .i64 (d : Nat)), (1, .slice A1 n1 c1), (2, .slice A2 n2 c2), (8, .slice A (64 * d) (64 * d)), (9, .pointer (some ⟨gs, 0, none⟩))]) ?_ ?_
  · by_cases hgo3 : i < n2
    · have hz2 : -9223372036854775808 ≤ z2.getD i 0 ∧ z2.getD i 0 ≤ 9223372036854775807 := hw2 _ (getD_memZ (by omega))
      have ha2 := absN_le hz2
      generalize hg2 : z2.getD i 0 = y2 at *
      (refine Reach.walk ?_; (repeat (first | ((with_reducible refine AllSt.mk ?_); (try clear hS); intro w hS) | ((with_reducible refine AllVw.mk ?_); intro V hV))))
      rw [hg2]
      (refine Reach.walk ?_; (repeat (first | ((with_reducible refine AllSt.mk ?_); (try clear hS); intro w hS) | ((with_reducible refine AllVw.mk ?_); intro V hV))))
      (with_reducible apply WpL.call); (· exact rfl); (· exact Try.call9); (· exact Vals.found)
      refine (abs_any hz2 w).mono ?_
      rintro x w1 ⟨rfl, rfl⟩
      refine ⟨_, rfl, ?_⟩
      (refine Reach.walk ?_; (repeat (first | ((with_reducible refine AllSt.mk ?_); (try clear hS); intro w hS) | ((with_reducible refine AllVw.mk ?_); intro V hV))))
      exact ⟨rfl, _, Nat.mod_lt _ (by omega), rfl, rfl, rfl, rfl, rfl, rfl, rfl, rfl, rfl, trivial⟩
    · (refine Reach.walk ?_; (repeat (first | ((with_reducible refine AllSt.mk ?_); (try clear hS); intro w hS) | ((with_reducible refine AllVw.mk ?_); intro V hV))))
      exact ⟨rfl, 0, by omega, rfl, rfl, rfl, rfl, rfl, rfl, rfl, rfl, rfl, trivial⟩
  rintro e w1 ⟨rfl, nn, hnn, he⟩
  obtain ⟨e0, rfl⟩ := he.eq
  clear he
  dsimp only [Env.sets]
  (refine Reach.walk ?_; (repeat (first | ((with_reducible refine AllSt.mk ?_); (try clear hS); intro w hS) | ((with_reducible refine AllVw.mk ?_); intro V hV))))
  apply Wp.loopUp nn (fun j e w' => ∃ got, got ≤ p ∧ p - got < d ∧ Holds mem d got p ∧
      St W (feet []) w' [.blk gs 63 (loopC A (64 * d) (64 * d) 0 d 64 (got % d) (p - got)), .own A (64 * d) (64 * d) 5 1 (bv mem), .ro A1 (zv z1), .ro A2 (zv z2)] ∧
      e.Has [(18, .int .i64 (j : Nat)), (17, .int .i64 (nn : Nat)), (13, .int .i64 (i : Nat)), (11, .int .i64 (p : Nat)), (12, .int .i64 (got : Nat)), (0, .int .i64 (d : Nat)), (1, .slice A1 n1 c1), (2, .slice A2 n2 c2), (8, .slice A (64 * d) (64 * d)), (9, .pointer (some ⟨gs, 0, none⟩))]) (Nat.zero_le _)
    ⟨got, hgq, hpd', hh, hS, rfl, rfl, rfl, rfl, rfl, rfl, rfl, rfl, rfl, rfl, trivial⟩
  clear hS hh hgm hgq hpd' got
  rintro j e w hj ⟨got, hgq, hpd', hh, hS, he⟩
  obtain ⟨e0, rfl⟩ := he.eq
  clear he
  dsimp only [Env.sets]
  by_cases hjn : j < nn
  · have hgm : got % d < d := Nat.mod_lt _ (by omega)
    (refine Reach.walk ?_; (repeat (first | ((with_reducible refine AllSt.mk ?_); (try clear hS); intro w hS) | ((with_reducible refine AllVw.mk ?_); intro V hV))))
    (with_reducible apply WpL.call); (· exact rfl); (· exact Try.call13); (· exact Vals.found)
    refine (fetch_any (by omega) hgm hpd' (by omega) hl (by omega) hV hS).mono ?_
    clear hS
    rintro x w (⟨h0, rfl, hS⟩ | ⟨h0, A', c', rfl, hV', hS⟩)
    · refine ⟨_, rfl, ?_⟩
      obtain rfl : got = p := by omega
      have q1 : (false != decide ((got : Int) < (got : Int))) = false := by simp
      (refine Reach.walk ?_; (repeat (first | ((with_reducible refine AllSt.mk ?_); (try clear hS); intro w hS) | ((with_reducible refine AllVw.mk ?_); intro V hV))))
      exact ⟨hjn, got, by omega, hpd', hh, hS, int_eq (by omega), rfl, rfl, rfl, rfl, rfl, rfl, rfl, rfl, rfl, trivial⟩
    · refine ⟨_, rfl, ?_⟩
      have hlt : got < p := by omega
      obtain ⟨hb0, hb1⟩ := hh got (Nat.le_refl _) hlt
      have hg0 : (List.take 64 (List.drop (0 + got % d * 64) mem)).getD 0 0 = mem.getD (got % d * 64) 0 := by rw [getD_slot (by decide), Nat.zero_add, Nat.add_zero]
      have hg1 : (List.take 64 (List.drop (0 + got % d * 64) mem)).getD 1 0 = mem.getD (got % d * 64 + 1) 0 := by rw [getD_slot (by decide), Nat.zero_add]
      rw [← hg0] at hb0
      rw [← hg1] at hb1
      have hbl : (List.take 64 (List.drop (0 + got % d * 64) mem)).length = 64 := by rw [List.length_take, List.length_drop]; omega
      have hnx : (got % d + 1) % d = (got + 1) % d := by rw [Nat.mod_add_mod]
      have hsb : p - got - 1 = p - (got + 1) := by omega
      rw [hnx, hsb] at hS
      clear hg0 hg1
      generalize List.take 64 (List.drop (0 + got % d * 64) mem) = bs at *
      have q1 : (true != decide ((got : Int) < (p : Int))) = false := by rw [decide_eq_true (by omega)]; rfl
      (refine Reach.walk ?_; (repeat (first | ((with_reducible refine AllSt.mk ?_); (try clear hS); intro w hS) | ((with_reducible refine AllVw.mk ?_); intro V hV))))
      exact ⟨hjn, got + 1, by omega, by omega, hh.next, hS.tail, int_eq (by omega), rfl, rfl, rfl, int_eq (by omega), rfl, rfl, rfl, rfl, rfl, trivial⟩
  · (refine Reach.walk ?_; (repeat (first | ((with_reducible refine AllSt.mk ?_); (try clear hS); intro w hS) | ((with_reducible refine AllVw.mk ?_); intro V hV))))
    exact ⟨hgo2, mem, got, p, hl, hgq, hpd', by omega, hh, hS, int_eq (by omega), rfl, rfl, rfl, rfl, rfl, rfl, rfl, trivial⟩
end Go.Proofs.Ytaengifldfgjcaa
