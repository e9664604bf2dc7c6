/-
  RingPhases: the walk.
-/
import Derived.Test.YtaengifldfgjcaaRngN
namespace Go.Proofs.Ytaengifldfgjcaa
open Go.Fk Go.RowKit
attribute [local irreducible] Wp WpL Det thenQ blockQ
set_option maxHeartbeats 4000000 in
theorem ringPhases_any {depth : Int} (hdp : -9223372036854775808 ≤ depth ∧ depth ≤ 9223372036854775807) {A1 A2 : Option Addr} {z1 z2 : List Int} {n1 n2 c1 c2 : Nat} (hl1 : n1 ≤ z1.length) (hl2 : n2 ≤ z2.length) (hv1 : IsVw A1 n1 c1 A1 0) (hv2 : IsVw A2 n2 c2 A2 0)
    (hw1 : ∀ x ∈ z1, -9223372036854775808 ≤ x ∧ x ≤ 9223372036854775807) (hw2 : ∀ x ∈ z2, -9223372036854775808 ≤ x ∧ x ≤ 9223372036854775807) (W : World) (hr1 : Rd W A1 (zv z1)) (hr2 : Rd W A2 (zv z2)) :
    Calls Try.prog 5 #[.int .i64 depth, .slice A1 n1 c1, .slice A2 n2 c2] W fun x w' => x = .returned (.bool true) ∧ Below W.heap.size W w' := by
  have hS := ((St.start W).startRo hr1).startRo hr2
  clear hr1 hr2
  have hm1 := hv1.max
  have hm2 := hv2.max
  have he1 := hv1.le
  have he2 := hv2.le
  (refine calls_of (P := Try.prog) _ Try.func5 rfl Try.ntmps5 (Nat.le_of_ble_eq_true rfl) ?_; dsimp only [argE, Nat.reduceAdd])
  (refine Reach.walk ?_; (repeat (first | ((with_reducible refine AllSt.mk ?_); (try clear hS); intro w hS) | ((with_reducible refine AllVw.mk ?_); intro V hV))))
  (with_reducible apply WpL.call); (· exact rfl); (· exact Try.call8); (· exact Vals.found)
  refine (awake_any W).mono ?_
  rintro x w ⟨rfl, hb⟩
  refine ⟨_, rfl, ?_⟩
  replace hS := hS.below hb
  clear hb
  (refine Reach.walk ?_; (repeat (first | ((with_reducible refine AllSt.mk ?_); (try clear hS); intro w hS) | ((with_reducible refine AllVw.mk ?_); intro V hV))))
  (with_reducible apply WpL.call); (· exact rfl); (· exact Try.call9); (· exact Vals.found)
  refine (abs_any hdp w).mono ?_
  rintro x w1 ⟨rfl, rfl⟩
  refine ⟨_, rfl, ?_⟩
  have hdm : absN depth % 20 < 20 := Nat.mod_lt _ (by decide)
  have had := absN_le hdp
  (refine Reach.walk ?_; (repeat (first | ((with_reducible refine AllSt.mk ?_); (try clear hS); intro w hS) | ((with_reducible refine AllVw.mk ?_); intro V hV))))
  generalize hdd : 2 + absN depth % 20 = d at *
  have hd : 2 ≤ d ∧ d ≤ 21 := by omega
  clear had hdd hdm
  (refine Reach.walk ?_; (repeat (first | ((with_reducible refine AllSt.mk ?_); (try clear hS); intro w hS) | ((with_reducible refine AllVw.mk ?_); intro V hV))))
  refine WpL.mk1 (bytes := 1) (n := 16 * d) (z := .int .u8 0) hS rfl rfl rfl rfl rfl rfl (by omega) (by omega) ?_
  clear hS
  intro A w hV hS
  rw [replicate_bv] at hS
  have hl : (List.replicate (16 * d) (0 : UInt8)).length = 16 * d := List.length_replicate
  have hh : Phased (List.replicate (16 * d) 0) d 0 0 := .start (by omega)
  generalize List.replicate (16 * d) (0 : UInt8) = m0 at *
  (refine Reach.walk ?_; (repeat (first | ((with_reducible refine AllSt.mk ?_); (try clear hS); intro w hS) | ((with_reducible refine AllVw.mk ?_); intro V hV))))
  (with_reducible apply WpL.call); (· exact rfl); (· exact Try.call14); (· exact Vals.found)
  refine (newComp_any (m := 16 * d) (base := 0) (d := (d : Int)) (by omega) hS).mono ?_
  clear hS
  have hfine : fineR (16 * d) 0 (d : Int) 16 := ⟨by omega, by omega, by omega, by omega, by omega⟩
  rintro x w (⟨-, gc, rfl, hS⟩ | ⟨hf, -⟩)
  rotate_left
  · exact absurd hfine hf
  clear hfine
  refine ⟨_, rfl, ?_⟩
  rw [Int.toNat_natCast] at hS
  (replace hS := (hS.take (pre := [.blk gc _ _, .own A _ _ _ _ _, .ro A1 _, .ro A2 _]) Take.found); (try simp only [List.cons_append, List.nil_append] at hS))
  (refine Reach.walk ?_; (repeat (first | ((with_reducible refine AllSt.mk ?_); (try clear hS); intro w hS) | ((with_reducible refine AllVw.mk ?_); intro V hV))))
  apply Wp.loopUp 60 (fun i e w' => ∃ mem found posted, mem.length = 16 * d ∧ found ≤ posted ∧ posted - found < d ∧ posted ≤ 21 * i ∧ Phased mem d found posted ∧
      St W (feet []) w' [.blk gc 69 (compC A (16 * d) (16 * d) 0 d 16 (found % d) (posted - found) (posted)), .own A (16 * d) (16 * d) 5 1 (bv mem), .ro A1 (zv z1), .ro A2 (zv z2)] ∧
      e.Has [(15, .int .i64 (i : Nat)), (11, .int .i64 (posted : Nat)), (12, .int .i64 (found : Nat)), (13, .bool (phB d found)), (14, .int .i64 ((found % d : Nat) : Int)), (0, .int .i64 (d : Nat)), (1, .slice A1 n1 c1), (2, .slice A2 n2 c2), (8, .slice A (16 * d) (16 * d)), (9, .pointer (some ⟨gc, 0, none⟩))]) (Nat.zero_le _)
    ⟨m0, 0, 0, hl, by omega, by omega, by omega, hh, by rw [Nat.zero_mod, Nat.sub_self]; exact hS, rfl, rfl, rfl, by rw [show phB d 0 = true by unfold phB; rw [Nat.zero_div]; rfl]; rfl, by rw [Nat.zero_mod]; rfl, rfl, rfl, rfl, rfl, rfl, trivial⟩
  clear hS hl hh m0
  rintro i e w hi ⟨mem, found, posted, hl, hgp, hpd, hp60, hh, hS, he⟩
  obtain ⟨e0, rfl⟩ := he.eq
  clear he
  dsimp only [Env.sets]
  by_cases hgo : i < n1
  rotate_left
  · (refine Reach.walk ?_; (repeat (first | ((with_reducible refine AllSt.mk ?_); (try clear hS); intro w hS) | ((with_reducible refine AllVw.mk ?_); intro V hV))))
    (with_reducible apply doneQ_one Try.results5); (· exact slotFound)
    exact ⟨rfl, hS.sub (List.nil_sublist _) |>.toBelow⟩
  by_cases hgo2 : i < 60
  rotate_left
  · (refine Reach.walk ?_; (repeat (first | ((with_reducible refine AllSt.mk ?_); (try clear hS); intro w hS) | ((with_reducible refine AllVw.mk ?_); intro V hV))))
    (with_reducible apply doneQ_one Try.results5); (· exact slotFound)
    exact ⟨rfl, hS.sub (List.nil_sublist _) |>.toBelow⟩
  have hz1 : -9223372036854775808 ≤ z1.getD i 0 ∧ z1.getD i 0 ≤ 9223372036854775807 := hw1 _ (getD_memZ (by omega))
  have ha1 := absN_le hz1
  generalize hg1 : z1.getD i 0 = y1 at *
  have hk1 : absN y1 % d < d := Nat.mod_lt _ (by omega)
  (refine Reach.walk ?_; (repeat (first | ((with_reducible refine AllSt.mk ?_); (try clear hS); intro w hS) | ((with_reducible refine AllVw.mk ?_); intro V hV))))
  apply Wp.loopUp (absN y1 % d) (fun j e w' => ∃ mem posted', mem.length = 16 * d ∧ posted ≤ posted' ∧ posted' ≤ posted + j ∧ posted' - found < d ∧ Phased mem d found posted' ∧
      St W (feet []) w' [.blk gc 69 (compC A (16 * d) (16 * d) 0 d 16 (found % d) (posted' - found) (posted')), .own A (16 * d) (16 * d) 5 1 (bv mem), .ro A1 (zv z1), .ro A2 (zv z2)] ∧
      e.Has [(16, .int .i64 (j : Nat)), (15, .int .i64 (i : Nat)), (11, .int .i64 (posted' : Nat)), (12, .int .i64 (found : Nat)), (13, .bool (phB d found)), (14, .int .i64 ((found % d : Nat) : Int)), (0, .int .i64 (d : Nat)), (1, .slice A1 n1 c1), (2, .slice A2 n2 c2), (8, .slice A (16 * d) (16 * d)), (9, .pointer (some ⟨gc, 0, none⟩))]) (Nat.zero_le _)
    ⟨mem, posted, hl, by omega, by omega, hpd, hh, hS, rfl, rfl, rfl, rfl, rfl, rfl, rfl, rfl, rfl, rfl, rfl, trivial⟩
  clear hS hh hl mem
  rintro j e w hj ⟨mem, p, hl, hpp, hpj, hpd', hh, hS, he⟩
  obtain ⟨e0, rfl⟩ := he.eq
  clear he
  dsimp only [Env.sets]
  have hfm : found % d < d := Nat.mod_lt _ (by omega)
  (refine Reach.walk ?_; (repeat (first | ((with_reducible refine AllSt.mk ?_); (try clear hS); intro w hS) | ((with_reducible refine AllVw.mk ?_); intro V hV))))
  rw [hg1]
  (refine Reach.walk ?_; (repeat (first | ((with_reducible refine AllSt.mk ?_); (try clear hS); intro w hS) | ((with_reducible refine AllVw.mk ?_); intro V hV))))
  (with_reducible apply WpL.call); (· exact rfl); (· exact Try.call9); (· exact Vals.found)
  refine (abs_any hz1 w).mono ?_
  rintro x w1 ⟨rfl, rfl⟩
  refine ⟨_, rfl, ?_⟩
  by_cases hjk : j < absN y1 % d
  · (refine Reach.walk ?_; (repeat (first | ((with_reducible refine AllSt.mk ?_); (try clear hS); intro w hS) | ((with_reducible refine AllVw.mk ?_); intro V hV))))
    refine WpL.det rfl (Det.build (cells := [.int .u32 ((0 : Nat) : Int), .int .i64 0, .int .i64 0, .int .i64 ((p % 65536 : Nat) : Int), .bool false, .int .i64 0]) PVals.found rfl) ?_
    (refine Reach.walk ?_; (repeat (first | ((with_reducible refine AllSt.mk ?_); (try clear hS); intro w hS) | ((with_reducible refine AllVw.mk ?_); intro V hV))))
    (with_reducible apply WpL.call); (· exact rfl); (· exact Try.call17); (· exact Vals.found)
    refine (post_any (m := 16 * d) (base := 0) (d := d) (head := found % d) (n := p - found) (p := p) (result := 0) (h := 0) (q := 0) (i := ((p % 65536 : Nat) : Int)) (s := 0) (ph := false) (by omega) hfm hpd' (by omega) (by omega) hl (by omega) hV (by omega) hS).mono ?_
    clear hS
    have hdk : Ent.doneOk 0 0 ((p % 65536 : Nat) : Int) 0 := by unfold Ent.doneOk; omega
    rintro x w (⟨h, -⟩ | ⟨-, hfull, rfl, hS⟩ | ⟨-, hroom, rfl, hS⟩)
    · exact absurd hdk h
    · refine ⟨_, rfl, ?_⟩
      (refine Reach.walk ?_; (repeat (first | ((with_reducible refine AllSt.mk ?_); (try clear hS); intro w hS) | ((with_reducible refine AllVw.mk ?_); intro V hV))))
      exact ⟨hjk, mem, p, hl, hpp, by omega, hpd', hh, hS, rfl, rfl, rfl, rfl, rfl, rfl, rfl, rfl, rfl, rfl, rfl, trivial⟩
    · refine ⟨_, rfl, ?_⟩
      have hbs : (Ent.doneBytes 0 (0 : Int).toNat (0 : Int).toNat ((p % 65536 : Nat) : Int).toNat (0 : Int).toNat (phB d p)).length = 16 := doneBytes_length _ _ _ _ _ _
      have hrd := Ent.rd_done (p % 65536) (phB d p)
      have hslot : (found % d + (p - found)) % d = p % d := by rw [Nat.mod_add_mod, show found + (p - found) = p by omega]
      have hpm : p % d < d := Nat.mod_lt _ (by omega)
      rw [Int.toNat_natCast] at hbs hS
      rw [hslot] at hS
      have hnew := hh.post hl (by omega) (by omega) hbs (by rw [show (0 : Int).toNat = 0 from rfl, hrd.1]; omega) (by rw [show (0 : Int).toNat = 0 from rfl, hrd.2])
      have hol : (Ent.over mem (0 + p % d * 16) (Ent.doneBytes 0 (0 : Int).toNat (0 : Int).toNat (p % 65536) (0 : Int).toNat (phB d p))).length = mem.length := Ent.over_length (by omega)
      have hsub : p - found + 1 = p + 1 - found := by omega
      rw [hsub] at hS
      (refine Reach.walk ?_; (repeat (first | ((with_reducible refine AllSt.mk ?_); (try clear hS); intro w hS) | ((with_reducible refine AllVw.mk ?_); intro V hV))))
      exact ⟨hjk, _, p + 1, by rw [hol]; exact hl, by omega, by omega, by omega, hnew, hS, rfl, rfl, rfl, rfl, rfl, rfl, rfl, rfl, rfl, rfl, rfl, trivial⟩
  have hp61 : p ≤ 21 * (i + 1) := by omega
  have hgq : found ≤ p := by omega
  (refine Reach.walk ?_; (repeat (first | ((with_reducible refine AllSt.mk ?_); (try clear hS); intro w hS) | ((with_reducible refine AllVw.mk ?_); intro V hV))))
  clear hp60 hgp hpd hpp hpj posted
  refine Wp.cut (fun e' w' => w' = w ∧ ∃ nn : Nat, nn < d ∧ e'.Has [(18, .int .i64 (nn : Nat)), (15, .int .i64 (i : Nat)), (11, .int .i64 (p : Nat)), (12, .int .i64 (found : Nat)), (13, .bool (phB d found)), (14, .int .i64 ((found % d : Nat) : Int)), (0, .int .i64 (d : Nat)), (1, .slice A1 n1 c1), (2, .slice A2 n2 c2), (8, .slice A (16 * d) (16 * d)), (9, .pointer (some ⟨gc, 0, none⟩))]) ?_ ?_
  · by_cases hgo3 : i < n2
    · have hz2 : -9223372036854775808 ≤ z2.getD i 0 ∧ z2.getD i 0 ≤ 9223372036854775807 := hw2 _ (getD_memZ (by omega))
      have ha2 := absN_le hz2
      generalize hg2 : z2.getD i 0 = y2 at *
      (refine Reach.walk ?_; (repeat (first | ((with_reducible refine AllSt.mk ?_); (try clear hS); intro w hS) | ((with_reducible refine AllVw.mk ?_); intro V hV))))
      rw [hg2]
      (refine Reach.walk ?_; (repeat (first | ((with_reducible refine AllSt.mk ?_); (try clear hS); intro w hS) | ((with_reducible refine AllVw.mk ?_); intro V hV))))
      (with_reducible apply WpL.call); (· exact rfl); (· exact Try.call9); (· exact Vals.found)
      refine (abs_any hz2 w).mono ?_
      rintro x w1 ⟨rfl, rfl⟩
      refine ⟨_, rfl, ?_⟩
      (refine Reach.walk ?_; (repeat (first | ((with_reducible refine AllSt.mk ?_); (try clear hS); intro w hS) | ((with_reducible refine AllVw.mk ?_); intro V hV))))
      exact ⟨rfl, _, Nat.mod_lt _ (by omega), rfl, rfl, rfl, rfl, rfl, rfl, rfl, rfl, rfl, rfl, rfl, trivial⟩
    · (refine Reach.walk ?_; (repeat (first | ((with_reducible refine AllSt.mk ?_); (try clear hS); intro w hS) | ((with_reducible refine AllVw.mk ?_); intro V hV))))
      exact ⟨rfl, 0, by omega, rfl, rfl, rfl, rfl, rfl, rfl, rfl, rfl, rfl, rfl, rfl, trivial⟩
  rintro e w1 ⟨rfl, nn, hnn, he⟩
  obtain ⟨e0, rfl⟩ := he.eq
  clear he
  dsimp only [Env.sets]
  (refine Reach.walk ?_; (repeat (first | ((with_reducible refine AllSt.mk ?_); (try clear hS); intro w hS) | ((with_reducible refine AllVw.mk ?_); intro V hV))))
  have hfd : ∃ f0 : Nat, f0 = found := ⟨_, rfl⟩
  apply Wp.loopUp nn (fun j e w' => ∃ f, found ≤ f ∧ f ≤ p ∧ Phased mem d f p ∧
      St W (feet []) w' [.blk gc 69 (compC A (16 * d) (16 * d) 0 d 16 (found % d) (p - found) (p)), .own A (16 * d) (16 * d) 5 1 (bv mem), .ro A1 (zv z1), .ro A2 (zv z2)] ∧
      e.Has [(19, .int .i64 (j : Nat)), (18, .int .i64 (nn : Nat)), (15, .int .i64 (i : Nat)), (11, .int .i64 (p : Nat)), (12, .int .i64 (f : Nat)), (13, .bool (phB d f)), (14, .int .i64 ((f % d : Nat) : Int)), (0, .int .i64 (d : Nat)), (1, .slice A1 n1 c1), (2, .slice A2 n2 c2), (8, .slice A (16 * d) (16 * d)), (9, .pointer (some ⟨gc, 0, none⟩))]) (Nat.zero_le _)
    ⟨found, by omega, hgq, hh, hS, rfl, rfl, rfl, rfl, rfl, rfl, rfl, rfl, rfl, rfl, rfl, rfl, trivial⟩
  clear hS hh hfd
  rintro j e w hj ⟨f, hff, hfp, hh, hS, he⟩
  obtain ⟨e0, rfl⟩ := he.eq
  clear he
  dsimp only [Env.sets]
  have hfm2 : f % d < d := Nat.mod_lt _ (by omega)
  by_cases hjn : j < nn
  · have hsr : ∀ a, a + 2 ≤ 16 → Ent.rd ((mem.drop (16 * (f % d))).take 16) a 2 = Ent.rd mem (f % d * 16 + a) 2 := fun a ha => by rw [Ent.rd_slot ha, Nat.mul_comm]
    have hbl : ((mem.drop (16 * (f % d))).take 16).length = 16 := by rw [List.length_take, List.length_drop]; omega
    have hle : 16 * (f % d) + 16 ≤ 16 * d := by omega
    have hrd0 : ∀ V c, IsVw V 16 c A (16 * (f % d)) → Rd w V (bv ((mem.drop (16 * (f % d))).take 16)) := fun V c hV2 => ((RdsV.byte hV2 (.there .own) (by omega)) _ _ _ hS).1
    have hid := hh.1 f (Nat.le_refl _)
    have hoth := hh.2 f
    rw [← hsr 12 (by decide), ← hsr 14 (by decide)] at hid
    rw [← hsr 14 (by decide)] at hoth
    have hmn := mod_next (d := d) (p := f) (by omega)
    have hpn := phB_next (d := d) (p := f) (by omega)
    have hfind : f < p → Phased mem d (f + 1) p := fun h => hh.find (by omega) h
    generalize hr0 : f % d = r at *
    generalize (mem.drop (16 * r)).take 16 = bs at *
    have hVk : True → IsVw A (16 * d) (16 * d) A 0 := fun _ => hV
    clear hV
    (refine Reach.walk ?_; (repeat (first | ((with_reducible refine AllSt.mk ?_); (try clear hS); intro w hS) | ((with_reducible refine AllVw.mk ?_); intro V hV))))
    refine WpL.slLoHi (m := 16 * r) (m' := 16 * r + 16) rfl rfl (hVk trivial) rfl (by first | rfl | omega) rfl (by first | rfl | omega) (by omega) (by omega) ?_
    intro V' hV'
    rw [Nat.zero_add, show 16 * r + 16 - 16 * r = 16 from by omega] at hV'
    rw [show 16 * r + 16 - 16 * r = 16 from by omega]
    generalize 16 * d - 16 * r = cV at *
    have hrdV := hrd0 V' cV hV'
    (refine Reach.walk ?_; (repeat (first | ((with_reducible refine AllSt.mk ?_); (try clear hS); intro w hS) | ((with_reducible refine AllVw.mk ?_); intro V hV))))
    (with_reducible apply WpL.call); (· exact rfl); (· exact Try.call23); (· exact Vals.found)
    refine (refDone_any _ bs 16 _ hbl (by have := hV'.le; omega) (by omega) _ hrdV).mono ?_
    rintro x w2 ⟨rfl, hb⟩
    refine ⟨_, rfl, ?_⟩
    replace hS := hS.below hb
    clear hb hrdV hrd0
    rw [doneR, if_pos hbl]
    unfold doneOf doneV
    have hdec : ∀ b : Bool, (b != b) = false := fun b => by cases b <;> rfl
    have hdec2 : ∀ b : Bool, ((!b) != b) = true := fun b => by cases b <;> rfl
    generalize decide (((Ent.rd bs 14 2 % 2 : Nat) : Int) = 1) = ph at *
    generalize Ent.rd bs 12 2 = idv at *
    generalize hb0 : phB d f = b at *
    (refine Reach.walk ?_; (repeat (first | ((with_reducible refine AllSt.mk ?_); (try clear hS); intro w hS) | ((with_reducible refine AllVw.mk ?_); intro V hV))))
    ((with_reducible apply WpL.al); (· assumption); (· exact rfl); (· exact rfl); clear hS)
    intro gx w hS
    by_cases hlt : f < p
    · obtain ⟨hi1, hi2⟩ := hid hlt
      subst hi2
      have hbb := hdec ph
      have hph := hfind hlt
      (refine Reach.walk ?_; (repeat (first | ((with_reducible refine AllSt.mk ?_); (try clear hS); intro w hS) | ((with_reducible refine AllVw.mk ?_); intro V hV))))
      by_cases hw : r + 1 = d
      · rw [if_pos hw] at hmn hpn
        (refine Reach.walk ?_; (repeat (first | ((with_reducible refine AllSt.mk ?_); (try clear hS); intro w hS) | ((with_reducible refine AllVw.mk ?_); intro V hV))))
        exact ⟨hjn, f + 1, by omega, by omega, hph, hS.tail, rfl, rfl, rfl, rfl, rfl, by rw [hpn]; rfl, by rw [hmn]; rfl, rfl, rfl, rfl, rfl, rfl, trivial⟩
      · rw [if_neg hw] at hmn hpn
        (refine Reach.walk ?_; (repeat (first | ((with_reducible refine AllSt.mk ?_); (try clear hS); intro w hS) | ((with_reducible refine AllVw.mk ?_); intro V hV))))
        exact ⟨hjn, f + 1, by omega, by omega, hph, hS.tail, rfl, rfl, rfl, rfl, rfl, by rw [hpn]; rfl, by rw [hmn]; rfl, rfl, rfl, rfl, rfl, rfl, trivial⟩
    · obtain rfl := hoth (by omega) (by omega)
      have hbb := hdec2 b
      (refine Reach.walk ?_; (repeat (first | ((with_reducible refine AllSt.mk ?_); (try clear hS); intro w hS) | ((with_reducible refine AllVw.mk ?_); intro V hV))))
      exact ⟨hjn, f, hff, hfp, hh, hS.tail, rfl, rfl, rfl, rfl, rfl, by rw [hb0]; rfl, by rw [hr0]; rfl, rfl, rfl, rfl, rfl, rfl, trivial⟩
  · have hah : ahead d (found % d) ((f % d : Nat) : Int) = f - found := ahead_mod (by omega) hff (by omega)
    have hmod : (found % d + (f - found)) % d = f % d := by rw [Nat.mod_add_mod, show found + (f - found) = f by omega]
    have hsub : p - found - (f - found) = p - f := by omega
    (refine Reach.walk ?_; (repeat (first | ((with_reducible refine AllSt.mk ?_); (try clear hS); intro w hS) | ((with_reducible refine AllVw.mk ?_); intro V hV))))
    (with_reducible apply WpL.call); (· exact rfl); (· exact Try.call19); (· exact Vals.found)
    refine (compBell_any (t := ((f % d : Nat) : Int)) (d := d) (head := found % d) (n := p - found) (p := p) (by omega) hfm (by omega) hS).mono ?_
    clear hS
    have hok : headOk d (found % d) (p - found) ((f % d : Nat) : Int) := ⟨⟨by omega, by omega⟩, by rw [hah]; omega⟩
    rintro x w (⟨-, rfl, hS⟩ | ⟨hno, -⟩)
    rotate_left
    · exact absurd hok hno
    refine ⟨_, rfl, ?_⟩
    rw [hah, hmod, hsub] at hS
    clear hok hah hmod hsub
    generalize hb0 : phB d f = b at *
    generalize hr0 : f % d = r at *
    (refine Reach.walk ?_; (repeat (first | ((with_reducible refine AllSt.mk ?_); (try clear hS); intro w hS) | ((with_reducible refine AllVw.mk ?_); intro V hV))))
    (with_reducible apply WpL.call); (· exact rfl); (· exact Try.call21); (· exact Vals.found)
    refine (free_any (d := d) (n := p - f) Look.found Look.found (by omega) (by omega) hS).mono ?_
    rintro x w2 ⟨rfl, hb⟩
    refine ⟨_, rfl, ?_⟩
    replace hS := hS.below hb
    (refine Reach.walk ?_; (repeat (first | ((with_reducible refine AllSt.mk ?_); (try clear hS); intro w hS) | ((with_reducible refine AllVw.mk ?_); intro V hV))))
    exact ⟨hgo2, mem, f, p, hl, hfp, by omega, hp61, hh, by rw [hr0]; exact hS, rfl, rfl, rfl, by rw [hb0]; rfl, by rw [hr0]; rfl, rfl, rfl, rfl, rfl, rfl, trivial⟩
end Go.Proofs.Ytaengifldfgjcaa
