/-
  BlocksBack: what is written of a pool is read as it was.
-/
import Derived.Test.YtaapnfoimcccjaaBlkM
namespace Go.Proofs.Ytaapnfoimcccjaa
open Go.Fk Go.RowKit
attribute [local irreducible] Wp WpL Det thenQ blockQ WpG thenD blockG
instance rowOp : SliceT Try.prog 37 42 := ⟨Try.underlying37⟩
instance sizeOp : SizeT Try.prog 42 3 := ⟨by kernel_rfl⟩
instance fieldOp0 : FieldT Try.prog 42 0 0 := ⟨by kernel_rfl⟩
instance fieldOp1 : FieldT Try.prog 42 1 1 := ⟨by kernel_rfl⟩
instance fieldOp2 : FieldT Try.prog 42 2 2 := ⟨by kernel_rfl⟩
theorem sealed_take' {l : List UInt8} {k : Nat} (h : l.length = k) : (Crc.sealed l).take k = l := by rw [Crc.sealed, ← h, List.take_left]
set_option maxHeartbeats 4000000 in
theorem blocksBack_any {dies many : Int} {A : Option Addr} {n c : Nat} {ss : List Tr} (hd : -9223372036854775808 ≤ dies ∧ dies ≤ 9223372036854775807) (hm : -9223372036854775808 ≤ many ∧ many ≤ 9223372036854775807) (hn : n ≤ ss.length) (hss : ∀ s ∈ ss, TrIn s) (hV : IsVw A n c A 0) (hlen : n ≤ 140737488355328) (W : World) (hr : Rd W A (tv ss)) :
    Calls Try.prog 6 #[.int .i64 dies, .int .i64 many, .slice A n c] W fun x w' => x = .returned (.bool true) ∧ Below W.heap.size W w' := by
  have hdL := absN_le hd
  have hmL := absN_le hm
  have hS := (St.start W).startRo hr
  clear hr
  (refine calls_of (P := Try.prog) _ Try.func6 rfl Try.ntmps6 (Nat.le_of_ble_eq_true rfl) ?_; dsimp only [argE, Nat.reduceAdd])
  (refine Reach.walk ?_; (repeat (first | ((with_reducible refine AllSt.mk ?_); (try clear hS); intro w hS) | ((with_reducible refine AllVw.mk ?_); intro V hV))))
  (with_reducible apply WpL.call); (· exact rfl); (· exact Try.call8); (· exact Vals.found)
  refine (awake_any hS).mono ?_
  clear hS
  rintro x w ⟨rfl, hS⟩
  refine ⟨_, rfl, ?_⟩
  (refine Reach.walk ?_; (repeat (first | ((with_reducible refine AllSt.mk ?_); (try clear hS); intro w hS) | ((with_reducible refine AllVw.mk ?_); intro V hV))))
  (with_reducible apply WpL.call); (· exact rfl); (· exact Try.call9); (· exact Vals.found)
  refine (abs_any hd _).mono ?_
  rintro x w1 ⟨rfl, rfl⟩
  refine ⟨_, rfl, ?_⟩
  (refine Reach.walk ?_; (repeat (first | ((with_reducible refine AllSt.mk ?_); (try clear hS); intro w hS) | ((with_reducible refine AllVw.mk ?_); intro V hV))))
  (with_reducible apply WpL.call); (· exact rfl); (· exact Try.call9); (· exact Vals.found)
  refine (abs_any hm _).mono ?_
  rintro x w1 ⟨rfl, rfl⟩
  refine ⟨_, rfl, ?_⟩
  (refine Reach.walk ?_; (repeat (first | ((with_reducible refine AllSt.mk ?_); (try clear hS); intro w hS) | ((with_reducible refine AllVw.mk ?_); intro V hV))))
  have hd4 : absN dies % 4 < 4 := Nat.mod_lt _ (by decide)
  have hm9 : absN many % 9 < 9 := Nat.mod_lt _ (by decide)
  generalize hnd : 1 + absN dies % 4 = nd at *
  generalize hnb : 1 + absN many % 9 = nb at *
  (with_reducible apply WpL.call); (· exact rfl); (· exact Try.call10); (· exact Vals.found)
  refine (newP hS).mono ?_
  clear hS
  rintro x w (⟨h, _⟩ | ⟨-, g, rfl, hP⟩)
  · exact absurd ⟨by omega, by omega, by omega, by omega⟩ h
  refine ⟨_, rfl, ?_⟩
  rw [Int.toNat_natCast, Int.toNat_natCast] at hP
  (refine Reach.walk ?_; (repeat (first | ((with_reducible refine AllSt.mk ?_); (try clear hS); intro w hS) | ((with_reducible refine AllVw.mk ?_); intro V hV))))
  apply Wp.loopUp n (fun i e w' => ∃ X, OkX X ∧ PSt W (feet []) w' g nd nb X [.ro A (tv ss)] ∧ e.Has [(10, .int .i64 (i : Nat)), (8, .pointer (some ⟨g, 0, none⟩)), (0, .int .i64 (nd : Nat)), (1, .int .i64 (nb : Nat)), (2, .slice A n c)]) (Nat.zero_le _)
    ⟨_, OkX.new nd nb, hP, rfl, rfl, rfl, rfl, rfl, trivial⟩
  clear hP
  rintro i e w hi ⟨X, hok, hP, he⟩
  obtain ⟨e0, rfl⟩ := he.eq
  clear he
  dsimp only [Env.sets]
  by_cases hgo : i < n ∧ i < 80
  · obtain ⟨h1, h2⟩ := hgo
    have hil : i < ss.length := by omega
    obtain ⟨hk0, hk1, hk2⟩ := tv_in hss hil
    have hS := hP.rest
    have l0 : Look [.ro A (tv ss)] ((adr A).add (0 + i * 3 + 0)) (.int .i64 (ss.getD i (0, 0, 0)).1) := Look.ro (tv_get hil (k := 0) (by decide))
    have l1 : Look [.ro A (tv ss)] ((adr A).add (0 + i * 3 + 1)) (.int .i64 (ss.getD i (0, 0, 0)).2.1) := Look.ro (tv_get hil (k := 1) (by decide))
    have l2 : Look [.ro A (tv ss)] ((adr A).add (0 + i * 3 + 2)) (.int .i64 (ss.getD i (0, 0, 0)).2.2) := Look.ro (tv_get hil (k := 2) (by decide))
    generalize ss.getD i (0, 0, 0) = s at *
    obtain ⟨kk, kd, kb⟩ := s
    dsimp only at hk0 hk1 hk2 l0 l1 l2
    have hkL := absN_le hk0
    have hdL := absN_le hk1
    have hbL := absN_le hk2
    (refine Reach.walk ?_; (repeat (first | ((with_reducible refine AllSt.mk ?_); (try clear hS); intro w hS) | ((with_reducible refine AllVw.mk ?_); intro V hV))))
    (with_reducible apply WpL.call); (· exact rfl); (· exact Try.call9); (· exact Vals.found)
    refine (abs_any hk1 _).mono ?_
    rintro x w1 ⟨rfl, rfl⟩
    refine ⟨_, rfl, ?_⟩
    (refine Reach.walk ?_; (repeat (first | ((with_reducible refine AllSt.mk ?_); (try clear hS); intro w hS) | ((with_reducible refine AllVw.mk ?_); intro V hV))))
    (with_reducible apply WpL.call); (· exact rfl); (· exact Try.call9); (· exact Vals.found)
    refine (abs_any hk2 _).mono ?_
    rintro x w1 ⟨rfl, rfl⟩
    refine ⟨_, rfl, ?_⟩
    (refine Reach.walk ?_; (repeat (first | ((with_reducible refine AllSt.mk ?_); (try clear hS); intro w hS) | ((with_reducible refine AllVw.mk ?_); intro V hV))))
    (with_reducible apply WpL.call); (· exact rfl); (· exact Try.call9); (· exact Vals.found)
    refine (abs_any hk0 _).mono ?_
    rintro x w1 ⟨rfl, rfl⟩
    refine ⟨_, rfl, ?_⟩
    clear l0 l1 l2 hS
    have hk6 : absN kk % 6 < 6 := Nat.mod_lt _ (by decide)
    (refine Reach.walk ?_; (repeat (first | ((with_reducible refine AllSt.mk ?_); (try clear hS); intro w hS) | ((with_reducible refine AllVw.mk ?_); intro V hV))))
    generalize absN kk % 6 = k6 at *
    generalize absN kd % nd = d at *
    generalize absN kb % nb = b at *
    rcases (show k6 = 0 ∨ k6 = 1 ∨ k6 = 2 ∨ k6 = 3 ∨ k6 = 4 ∨ k6 = 5 by omega) with h | h | h | h | h | h
    · (refine Reach.walk ?_; (repeat (first | ((with_reducible refine AllSt.mk ?_); (try clear hS); intro w hS) | ((with_reducible refine AllVw.mk ?_); intro V hV))))
      ((with_reducible apply WpL.call); (· exact rfl); (· exact Try.call11); (· exact Vals.found)); (refine (takeP (by omega) (by omega) _ hP).mono ?_); clear hP; rintro x w ⟨rfl, hP⟩; (refine ⟨_, rfl, ?_⟩)
      (refine Reach.walk ?_; (repeat (first | ((with_reducible refine AllSt.mk ?_); (try clear hS); intro w hS) | ((with_reducible refine AllVw.mk ?_); intro V hV))))
      exact ⟨h1, _, hok.take _, hP, int_eq (by omega), rfl, rfl, rfl, rfl, trivial⟩
    · (refine Reach.walk ?_; (repeat (first | ((with_reducible refine AllSt.mk ?_); (try clear hS); intro w hS) | ((with_reducible refine AllVw.mk ?_); intro V hV))))
      ((with_reducible apply WpL.call); (· exact rfl); (· exact Try.call11); (· exact Vals.found)); (refine (takeP (by omega) (by omega) _ hP).mono ?_); clear hP; rintro x w ⟨rfl, hP⟩; (refine ⟨_, rfl, ?_⟩)
      (refine Reach.walk ?_; (repeat (first | ((with_reducible refine AllSt.mk ?_); (try clear hS); intro w hS) | ((with_reducible refine AllVw.mk ?_); intro V hV))))
      exact ⟨h1, _, hok.take _, hP, int_eq (by omega), rfl, rfl, rfl, rfl, trivial⟩
    · (refine Reach.walk ?_; (repeat (first | ((with_reducible refine AllSt.mk ?_); (try clear hS); intro w hS) | ((with_reducible refine AllVw.mk ?_); intro V hV))))
      ((with_reducible apply WpL.call); (· exact rfl); (· exact Try.call19); (· exact Vals.found)); (refine (closeP (by omega) (by omega) _ _ hP).mono ?_); clear hP; rintro x w ⟨rfl, hP⟩; (refine ⟨_, rfl, ?_⟩)
      (refine Reach.walk ?_; (repeat (first | ((with_reducible refine AllSt.mk ?_); (try clear hS); intro w hS) | ((with_reducible refine AllVw.mk ?_); intro V hV))))
      exact ⟨h1, _, hok.turn _ _ (by decide) _, hP, int_eq (by omega), rfl, rfl, rfl, rfl, trivial⟩
    · (refine Reach.walk ?_; (repeat (first | ((with_reducible refine AllSt.mk ?_); (try clear hS); intro w hS) | ((with_reducible refine AllVw.mk ?_); intro V hV))))
      ((with_reducible apply WpL.call); (· exact rfl); (· exact Try.call13); (· exact Vals.found)); (refine (freeP (by omega) (by omega) _ _ hP).mono ?_); clear hP; rintro x w ⟨rfl, hP⟩; (refine ⟨_, rfl, ?_⟩)
      (refine Reach.walk ?_; (repeat (first | ((with_reducible refine AllSt.mk ?_); (try clear hS); intro w hS) | ((with_reducible refine AllVw.mk ?_); intro V hV))))
      exact ⟨h1, _, hok.turn _ _ (by decide) _, hP, int_eq (by omega), rfl, rfl, rfl, rfl, trivial⟩
    · (refine Reach.walk ?_; (repeat (first | ((with_reducible refine AllSt.mk ?_); (try clear hS); intro w hS) | ((with_reducible refine AllVw.mk ?_); intro V hV))))
      ((with_reducible apply WpL.call); (· exact rfl); (· exact Try.call12); (· exact Vals.found)); (refine (erasedP (by omega) (by omega) _ _ hP).mono ?_); clear hP; rintro x w ⟨rfl, hP⟩; (refine ⟨_, rfl, ?_⟩)
      (refine Reach.walk ?_; (repeat (first | ((with_reducible refine AllSt.mk ?_); (try clear hS); intro w hS) | ((with_reducible refine AllVw.mk ?_); intro V hV))))
      exact ⟨h1, _, hok.erased _ _, hP, int_eq (by omega), rfl, rfl, rfl, rfl, trivial⟩
    · (refine Reach.walk ?_; (repeat (first | ((with_reducible refine AllSt.mk ?_); (try clear hS); intro w hS) | ((with_reducible refine AllVw.mk ?_); intro V hV))))
      ((with_reducible apply WpL.call); (· exact rfl); (· exact Try.call16); (· exact Vals.found)); (refine (badP (by omega) (by omega) _ _ hP).mono ?_); clear hP; rintro x w ⟨rfl, hP⟩; (refine ⟨_, rfl, ?_⟩)
      (refine Reach.walk ?_; (repeat (first | ((with_reducible refine AllSt.mk ?_); (try clear hS); intro w hS) | ((with_reducible refine AllVw.mk ?_); intro V hV))))
      exact ⟨h1, _, hok.turn _ _ (by decide) _, hP, int_eq (by omega), rfl, rfl, rfl, rfl, trivial⟩
  by_cases hin : i < n
  · have h80 : ¬ i < 80 := fun h => hgo ⟨hin, h⟩
    (refine Reach.walk ?_; (repeat (first | ((with_reducible refine AllSt.mk ?_); (try clear hS); intro w hS) | ((with_reducible refine AllVw.mk ?_); intro V hV))))
    (with_reducible apply WpL.call); (· exact rfl); (· exact Try.call24); (· exact Vals.found)
    refine (bytesP (by omega) (by omega) hP).mono ?_
    have hXok := hP.ok
    clear hP
    rintro x w ⟨B, cB, rfl, hB, hP⟩
    refine ⟨_, rfl, ?_⟩
    obtain ⟨D, cd, ps, hpo, hps, hS⟩ := hP
    replace hS : St W (feet []) w (.own B ((poolB nb X).length + 4) cB 5 1 (bv (Crc.sealed (poolB nb X))) :: poolL g D nd cd nb ps [.ro A (tv ss)]) := hS.perm (List.perm_middle (l₁ := Ch.blk g _ _ :: Ch.own D _ _ _ _ _ :: rowsC nb ps))
    have hbl : (Crc.sealed (poolB nb X)).length = (poolB nb X).length + 4 := Crc.sealed_length _
    obtain ⟨hpb, hpa⟩ := poolB_back hXok hok (by omega) (by omega)
    have hblen : (poolB nb X).length = 2 + 5 * (nd * nb) := hpb.len
    have hmul : nd * nb ≤ 8 * 64 := Nat.mul_le_mul (by omega) (by omega)
    (refine Reach.walk ?_; (repeat (first | ((with_reducible refine AllSt.mk ?_); (try clear hS); intro w hS) | ((with_reducible refine AllVw.mk ?_); intro V hV))))
    (with_reducible apply WpL.call); (· exact rfl); (· exact Try.call23); (· exact Vals.found)
    refine (parseP hS (RdsV.whole (xs := bv (Crc.sealed (poolB nb X))) Rds.own (by rw [bv_length]; exact hbl)) hB.le (by omega)).mono ?_
    clear hS
    rw [Nat.add_sub_cancel, sealed_take' rfl]
    rintro x w (⟨h, _⟩ | ⟨⟨_, h⟩, _⟩ | ⟨_, gq, nd', nb', hpb', rfl, hP⟩)
    · exact absurd (Crc.good_sealed _) h
    · exact absurd hpb (h nd nb)
    obtain rfl : nd' = nd := hpb'.d.trans hpb.d.symm
    obtain rfl : nb' = nb := hpb'.b.trans hpb.b.symm
    rw [hpa] at hP
    refine ⟨_, rfl, ?_⟩
    have hPP : PP W (feet []) w g nd' nb' X gq nd' nb' X [.ro A (tv ss)] := ⟨D, cd, ps, hpo, hps, hP.sub (List.sublist_cons_self _ _)⟩
    clear hP
    (refine Reach.walk ?_; (repeat (first | ((with_reducible refine AllSt.mk ?_); (try clear hS); intro w hS) | ((with_reducible refine AllVw.mk ?_); intro V hV))))
    apply Wp.loopUp nd' (fun d e w' => PP W (feet []) w' g nd' nb' X gq nd' nb' X [.ro A (tv ss)] ∧ e.Has [(15, .int .i64 (d : Nat)), (0, .int .i64 (nd' : Nat)), (1, .int .i64 (nb' : Nat)), (8, .pointer (some ⟨g, 0, none⟩)), (13, .pointer (some ⟨gq, 0, none⟩))]) (Nat.zero_le _)
      ⟨hPP, rfl, rfl, rfl, rfl, rfl, trivial⟩
    clear hPP
    rintro d e w hdd ⟨hPP, he⟩
    obtain ⟨e1, rfl⟩ := he.eq
    clear he
    dsimp only [Env.sets]
    by_cases hdn : d < nd'
    rotate_left
    · (refine Reach.walk ?_; (repeat (first | ((with_reducible refine AllSt.mk ?_); (try clear hS); intro w hS) | ((with_reducible refine AllVw.mk ?_); intro V hV))))
      (with_reducible apply doneQ_one Try.results6); (· exact slotFound)
      obtain ⟨D, cd, ps, h1, h2, h3⟩ := hPP
      exact ⟨rfl, h3.rest.toBelow⟩
    (refine Reach.walk ?_; (repeat (first | ((with_reducible refine AllSt.mk ?_); (try clear hS); intro w hS) | ((with_reducible refine AllVw.mk ?_); intro V hV))))
    apply Wp.loopUp nb' (fun b e w' => PP W (feet []) w' g nd' nb' X gq nd' nb' X [.ro A (tv ss)] ∧ e.Has [(16, .int .i64 (b : Nat)), (15, .int .i64 (d : Nat)), (0, .int .i64 (nd' : Nat)), (1, .int .i64 (nb' : Nat)), (8, .pointer (some ⟨g, 0, none⟩)), (13, .pointer (some ⟨gq, 0, none⟩))]) (Nat.zero_le _)
      ⟨hPP, rfl, rfl, rfl, rfl, rfl, rfl, trivial⟩
    clear hPP
    rintro b e w hbb ⟨hPP, he⟩
    obtain ⟨e2, rfl⟩ := he.eq
    clear he
    dsimp only [Env.sets]
    by_cases hbn : b < nb'
    rotate_left
    · (refine Reach.walk ?_; (repeat (first | ((with_reducible refine AllSt.mk ?_); (try clear hS); intro w hS) | ((with_reducible refine AllVw.mk ?_); intro V hV))))
      exact ⟨hdn, hPP, int_eq (by omega), rfl, rfl, rfl, rfl, trivial⟩
    (refine Reach.walk ?_; (repeat (first | ((with_reducible refine AllSt.mk ?_); (try clear hS); intro w hS) | ((with_reducible refine AllVw.mk ?_); intro V hV))))
    (with_reducible apply WpL.call); (· exact rfl); (· exact Try.call25); (· exact Vals.found)
    refine (hPP.left (R := fun x => x = .returned (.int .i64 (stX X d b : Nat))) fun L' h => stateP (by omega) (by omega) _ _ h).mono ?_
    clear hPP
    rintro x w ⟨rfl, hPP⟩
    refine ⟨_, rfl, ?_⟩
    (refine Reach.walk ?_; (repeat (first | ((with_reducible refine AllSt.mk ?_); (try clear hS); intro w hS) | ((with_reducible refine AllVw.mk ?_); intro V hV))))
    (with_reducible apply WpL.call); (· exact rfl); (· exact Try.call25); (· exact Vals.found)
    refine (hPP.right (R := fun x => x = .returned (.int .i64 (stX X d b : Nat))) fun L' h => stateP (by omega) (by omega) _ _ h).mono ?_
    clear hPP
    rintro x w ⟨rfl, hPP⟩
    refine ⟨_, rfl, ?_⟩
    (refine Reach.walk ?_; (repeat (first | ((with_reducible refine AllSt.mk ?_); (try clear hS); intro w hS) | ((with_reducible refine AllVw.mk ?_); intro V hV))))
    (with_reducible apply WpL.call); (· exact rfl); (· exact Try.call26); (· exact Vals.found)
    refine (hPP.left (R := fun x => x = .returned (.int .i64 (erX X d b : Nat))) fun L' h => erasesP (by omega) (by omega) _ _ h).mono ?_
    clear hPP
    rintro x w ⟨rfl, hPP⟩
    refine ⟨_, rfl, ?_⟩
    (refine Reach.walk ?_; (repeat (first | ((with_reducible refine AllSt.mk ?_); (try clear hS); intro w hS) | ((with_reducible refine AllVw.mk ?_); intro V hV))))
    (with_reducible apply WpL.call); (· exact rfl); (· exact Try.call26); (· exact Vals.found)
    refine (hPP.right (R := fun x => x = .returned (.int .i64 (erX X d b : Nat))) fun L' h => erasesP (by omega) (by omega) _ _ h).mono ?_
    clear hPP
    rintro x w ⟨rfl, hPP⟩
    refine ⟨_, rfl, ?_⟩
    (refine Reach.walk ?_; (repeat (first | ((with_reducible refine AllSt.mk ?_); (try clear hS); intro w hS) | ((with_reducible refine AllVw.mk ?_); intro V hV))))
    exact ⟨hbn, hPP, int_eq (by omega), rfl, rfl, rfl, rfl, rfl, trivial⟩
  · (refine Reach.walk ?_; (repeat (first | ((with_reducible refine AllSt.mk ?_); (try clear hS); intro w hS) | ((with_reducible refine AllVw.mk ?_); intro V hV))))
    (with_reducible apply WpL.call); (· exact rfl); (· exact Try.call24); (· exact Vals.found)
    refine (bytesP (by omega) (by omega) hP).mono ?_
    have hXok := hP.ok
    clear hP
    rintro x w ⟨B, cB, rfl, hB, hP⟩
    refine ⟨_, rfl, ?_⟩
    obtain ⟨D, cd, ps, hpo, hps, hS⟩ := hP
    replace hS : St W (feet []) w (.own B ((poolB nb X).length + 4) cB 5 1 (bv (Crc.sealed (poolB nb X))) :: poolL g D nd cd nb ps [.ro A (tv ss)]) := hS.perm (List.perm_middle (l₁ := Ch.blk g _ _ :: Ch.own D _ _ _ _ _ :: rowsC nb ps))
    have hbl : (Crc.sealed (poolB nb X)).length = (poolB nb X).length + 4 := Crc.sealed_length _
    obtain ⟨hpb, hpa⟩ := poolB_back hXok hok (by omega) (by omega)
    have hblen : (poolB nb X).length = 2 + 5 * (nd * nb) := hpb.len
    have hmul : nd * nb ≤ 8 * 64 := Nat.mul_le_mul (by omega) (by omega)
    (refine Reach.walk ?_; (repeat (first | ((with_reducible refine AllSt.mk ?_); (try clear hS); intro w hS) | ((with_reducible refine AllVw.mk ?_); intro V hV))))
    (with_reducible apply WpL.call); (· exact rfl); (· exact Try.call23); (· exact Vals.found)
    refine (parseP hS (RdsV.whole (xs := bv (Crc.sealed (poolB nb X))) Rds.own (by rw [bv_length]; exact hbl)) hB.le (by omega)).mono ?_
    clear hS
    rw [Nat.add_sub_cancel, sealed_take' rfl]
    rintro x w (⟨h, _⟩ | ⟨⟨_, h⟩, _⟩ | ⟨_, gq, nd', nb', hpb', rfl, hP⟩)
    · exact absurd (Crc.good_sealed _) h
    · exact absurd hpb (h nd nb)
    obtain rfl : nd' = nd := hpb'.d.trans hpb.d.symm
    obtain rfl : nb' = nb := hpb'.b.trans hpb.b.symm
    rw [hpa] at hP
    refine ⟨_, rfl, ?_⟩
    have hPP : PP W (feet []) w g nd' nb' X gq nd' nb' X [.ro A (tv ss)] := ⟨D, cd, ps, hpo, hps, hP.sub (List.sublist_cons_self _ _)⟩
    clear hP
    (refine Reach.walk ?_; (repeat (first | ((with_reducible refine AllSt.mk ?_); (try clear hS); intro w hS) | ((with_reducible refine AllVw.mk ?_); intro V hV))))
    apply Wp.loopUp nd' (fun d e w' => PP W (feet []) w' g nd' nb' X gq nd' nb' X [.ro A (tv ss)] ∧ e.Has [(15, .int .i64 (d : Nat)), (0, .int .i64 (nd' : Nat)), (1, .int .i64 (nb' : Nat)), (8, .pointer (some ⟨g, 0, none⟩)), (13, .pointer (some ⟨gq, 0, none⟩))]) (Nat.zero_le _)
      ⟨hPP, rfl, rfl, rfl, rfl, rfl, trivial⟩
    clear hPP
    rintro d e w hdd ⟨hPP, he⟩
    obtain ⟨e1, rfl⟩ := he.eq
    clear he
    dsimp only [Env.sets]
    by_cases hdn : d < nd'
    rotate_left
    · (refine Reach.walk ?_; (repeat (first | ((with_reducible refine AllSt.mk ?_); (try clear hS); intro w hS) | ((with_reducible refine AllVw.mk ?_); intro V hV))))
      (with_reducible apply doneQ_one Try.results6); (· exact slotFound)
      obtain ⟨D, cd, ps, h1, h2, h3⟩ := hPP
      exact ⟨rfl, h3.rest.toBelow⟩
    (refine Reach.walk ?_; (repeat (first | ((with_reducible refine AllSt.mk ?_); (try clear hS); intro w hS) | ((with_reducible refine AllVw.mk ?_); intro V hV))))
    apply Wp.loopUp nb' (fun b e w' => PP W (feet []) w' g nd' nb' X gq nd' nb' X [.ro A (tv ss)] ∧ e.Has [(16, .int .i64 (b : Nat)), (15, .int .i64 (d : Nat)), (0, .int .i64 (nd' : Nat)), (1, .int .i64 (nb' : Nat)), (8, .pointer (some ⟨g, 0, none⟩)), (13, .pointer (some ⟨gq, 0, none⟩))]) (Nat.zero_le _)
      ⟨hPP, rfl, rfl, rfl, rfl, rfl, rfl, trivial⟩
    clear hPP
    rintro b e w hbb ⟨hPP, he⟩
    obtain ⟨e2, rfl⟩ := he.eq
    clear he
    dsimp only [Env.sets]
    by_cases hbn : b < nb'
    rotate_left
    · (refine Reach.walk ?_; (repeat (first | ((with_reducible refine AllSt.mk ?_); (try clear hS); intro w hS) | ((with_reducible refine AllVw.mk ?_); intro V hV))))
      exact ⟨hdn, hPP, int_eq (by omega), rfl, rfl, rfl, rfl, trivial⟩
    (refine Reach.walk ?_; (repeat (first | ((with_reducible refine AllSt.mk ?_); (try clear hS); intro w hS) | ((with_reducible refine AllVw.mk ?_); intro V hV))))
    (with_reducible apply WpL.call); (· exact rfl); (· exact Try.call25); (· exact Vals.found)
    refine (hPP.left (R := fun x => x = .returned (.int .i64 (stX X d b : Nat))) fun L' h => stateP (by omega) (by omega) _ _ h).mono ?_
    clear hPP
    rintro x w ⟨rfl, hPP⟩
    refine ⟨_, rfl, ?_⟩
    (refine Reach.walk ?_; (repeat (first | ((with_reducible refine AllSt.mk ?_); (try clear hS); intro w hS) | ((with_reducible refine AllVw.mk ?_); intro V hV))))
    (with_reducible apply WpL.call); (· exact rfl); (· exact Try.call25); (· exact Vals.found)
    refine (hPP.right (R := fun x => x = .returned (.int .i64 (stX X d b : Nat))) fun L' h => stateP (by omega) (by omega) _ _ h).mono ?_
    clear hPP
    rintro x w ⟨rfl, hPP⟩
    refine ⟨_, rfl, ?_⟩
    (refine Reach.walk ?_; (repeat (first | ((with_reducible refine AllSt.mk ?_); (try clear hS); intro w hS) | ((with_reducible refine AllVw.mk ?_); intro V hV))))
    (with_reducible apply WpL.call); (· exact rfl); (· exact Try.call26); (· exact Vals.found)
    refine (hPP.left (R := fun x => x = .returned (.int .i64 (erX X d b : Nat))) fun L' h => erasesP (by omega) (by omega) _ _ h).mono ?_
    clear hPP
    rintro x w ⟨rfl, hPP⟩
    refine ⟨_, rfl, ?_⟩
    (refine Reach.walk ?_; (repeat (first | ((with_reducible refine AllSt.mk ?_); (try clear hS); intro w hS) | ((with_reducible refine AllVw.mk ?_); intro V hV))))
    (with_reducible apply WpL.call); (· exact rfl); (· exact Try.call26); (· exact Vals.found)
    refine (hPP.right (R := fun x => x = .returned (.int .i64 (erX X d b : Nat))) fun L' h => erasesP (by omega) (by omega) _ _ h).mono ?_
    clear hPP
    rintro x w ⟨rfl, hPP⟩
    refine ⟨_, rfl, ?_⟩
    (refine Reach.walk ?_; (repeat (first | ((with_reducible refine AllSt.mk ?_); (try clear hS); intro w hS) | ((with_reducible refine AllVw.mk ?_); intro V hV))))
    exact ⟨hbn, hPP, int_eq (by omega), rfl, rfl, rfl, rfl, rfl, trivial⟩
end Go.Proofs.Ytaapnfoimcccjaa
