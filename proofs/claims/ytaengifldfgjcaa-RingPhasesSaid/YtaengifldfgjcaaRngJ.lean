/-
  RingSubs: the walk.
-/
import Derived.Test.YtaengifldfgjcaaRngI
import Derived.Test.YtaengifldfgjcaaStD
namespace Go.Proofs.Ytaengifldfgjcaa
open Go.Fk Go.RowKit
attribute [local irreducible] Wp WpL Det thenQ blockQ
theorem decEq {α : Type} [DecidableEq α] (a : α) : decide (a ≠ a) = false := decide_eq_false (fun h => h rfl)

set_option maxHeartbeats 4000000 in
theorem ringSubs_any {size base depth : Int} (hs : i64ok size) {Ao : Option Addr} {no co : Nat} {os : List ROp} (hn : no ≤ os.length) (hVo : IsVw Ao no co Ao 0) (hfit : ∀ o ∈ os, o.Fits) (W : World) (hr : Rd W Ao (ov os)) :
    Calls Try.prog 6 #[.int .i64 size, .int .i64 base, .int .i64 depth, .slice Ao no co] W fun x w' => x = .returned (.bool true) ∧ Below W.heap.size W w' := by
  have hS := (St.start W).startRo hr
  clear hr
  (refine calls_of (P := Try.prog) _ Try.func6 rfl Try.ntmps6 (Nat.le_of_ble_eq_true rfl) ?_; dsimp only [argE, Nat.reduceAdd])
  (refine Reach.walk ?_; (repeat (first | ((with_reducible refine AllSt.mk ?_); (try clear hS); intro w hS) | ((with_reducible refine AllVw.mk ?_); intro V hV))))
  (with_reducible apply WpL.call); (· exact rfl); (· exact Try.call8); (· exact Vals.found)
  refine (awake_any W).mono ?_
  rintro x w ⟨rfl, hb⟩
  refine ⟨_, rfl, ?_⟩
  replace hS := hS.below hb
  clear hb
  (refine Reach.walk ?_; (repeat (first | ((with_reducible refine AllSt.mk ?_); (try clear hS); intro w hS) | ((with_reducible refine AllVw.mk ?_); intro V hV))))
  (with_reducible apply WpL.call); (· exact rfl); (· exact Try.call9); (· exact Vals.found)
  refine (abs_any hs w).mono ?_
  rintro x w1 ⟨rfl, rfl⟩
  refine ⟨_, rfl, ?_⟩
  have hdm : absN size % 5000 < 5000 := Nat.mod_lt _ (by decide)
  have had := absN_le hs
  (refine Reach.walk ?_; (repeat (first | ((with_reducible refine AllSt.mk ?_); (try clear hS); intro w hS) | ((with_reducible refine AllVw.mk ?_); intro V hV))))
  generalize absN size % 5000 = m at *
  clear had
  refine WpL.mk1 (bytes := 1) (n := m) (z := .int .u8 0) hS rfl rfl rfl rfl rfl rfl (by omega) (by omega) ?_
  clear hS
  intro A w hV hS
  rw [replicate_bv] at hS
  have hl : (List.replicate m (0 : UInt8)).length = m := List.length_replicate
  generalize List.replicate m (0 : UInt8) = m0 at *
  (refine Reach.walk ?_; (repeat (first | ((with_reducible refine AllSt.mk ?_); (try clear hS); intro w hS) | ((with_reducible refine AllVw.mk ?_); intro V hV))))
  (with_reducible apply WpL.call); (· exact rfl); (· exact Try.call10); (· exact Vals.found)
  refine (newSub_any (m := m) (base := base) (d := depth) (by omega) hS).mono ?_
  clear hS
  rintro x w (⟨hf, gs, rfl, hS⟩ | ⟨hf, rfl, hS⟩)
  rotate_left
  · refine ⟨_, rfl, ?_⟩
    (refine Reach.walk ?_; (repeat (first | ((with_reducible refine AllSt.mk ?_); (try clear hS); intro w hS) | ((with_reducible refine AllVw.mk ?_); intro V hV))))
    (with_reducible apply WpL.call); (· exact rfl); (· exact Try.call15); (· exact Vals.found)
    refine (refNew_any (m := m) (base := base) (d := depth) (sz := 64) (.inl rfl) (by omega) hS).mono ?_
    clear hS
    rintro x w (⟨h, _⟩ | ⟨_, rfl, hS⟩)
    · exact absurd h hf
    refine ⟨_, rfl, ?_⟩
    (refine Reach.walk ?_; (repeat (first | ((with_reducible refine AllSt.mk ?_); (try clear hS); intro w hS) | ((with_reducible refine AllVw.mk ?_); intro V hV))))
    (with_reducible apply doneQ_one Try.results6); (· exact slotFound)
    (replace hS := (hS.take (pre := [.ro _ _]) Take.found); (try simp only [List.cons_append, List.nil_append] at hS))
    exact ⟨rfl, (hS.sub (List.nil_sublist _)).toBelow⟩
  refine ⟨_, rfl, ?_⟩
  (refine Reach.walk ?_; (repeat (first | ((with_reducible refine AllSt.mk ?_); (try clear hS); intro w hS) | ((with_reducible refine AllVw.mk ?_); intro V hV))))
  (with_reducible apply WpL.call); (· exact rfl); (· exact Try.call15); (· exact Vals.found)
  refine (refNew_any (m := m) (base := base) (d := depth) (sz := 64) (.inl rfl) (by omega) hS).mono ?_
  clear hS
  rintro x w (⟨_, gr, rfl, hS⟩ | ⟨h, _⟩)
  rotate_left
  · exact absurd hf h
  refine ⟨_, rfl, ?_⟩
  unfold fineR at hf
  obtain ⟨b, rfl⟩ := Int.eq_ofNat_of_zero_le hf.2.2.1
  obtain ⟨d, rfl⟩ := Int.eq_ofNat_of_zero_le (show 0 ≤ depth by omega)
  rw [Int.toNat_natCast, Int.toNat_natCast] at hS
  (replace hS := (hS.take (pre := [.blk gs _ _, .blk gr _ _, .own A _ _ _ _ _, .ro Ao _]) Take.found); (try simp only [List.cons_append, List.nil_append] at hS))
  (refine Reach.walk ?_; (repeat (first | ((with_reducible refine AllSt.mk ?_); (try clear hS); intro w hS) | ((with_reducible refine AllVw.mk ?_); intro V hV))))
  have hd : 2 ≤ d ∧ d ≤ 64 := by omega
  have hbm : b + d * 64 ≤ m := by omega
  clear hf
  have hole := hVo.le
  have hcmx := hVo.max
  apply Wp.loopUp no (fun i e w' => ∃ mem head n, mem.length = m ∧ head < d ∧ n < d ∧ St W (feet []) w' [.blk gs 63 (loopC A m m b d 64 head n), .blk gr 56 (refC b d 64 head n true), .own A m m 5 1 (bv mem), .ro Ao (ov os)] ∧
      e.Has [(16, .int .i64 (i : Nat)), (2, .int .i64 (d : Nat)), (3, .slice Ao no co), (10, .int .i64 (m : Nat)), (11, .slice A m m), (12, .pointer (some ⟨gs, 0, none⟩)), (14, .pointer (some ⟨gr, 0, none⟩))]) (Nat.zero_le no)
    ⟨_, 0, 0, hl, by omega, by omega, hS, rfl, rfl, rfl, rfl, rfl, rfl, rfl, trivial⟩
  clear hS hl
  rintro i e w hi ⟨mem, head, n, hl, hhd, hn1, hS, he⟩
  obtain ⟨e0, rfl⟩ := he.eq
  clear he
  dsimp only [Env.sets]
  (repeat (with_reducible apply Wp.seq))
  refine Wp.cut (fun e' w' => w' = w ∧ e'.Has [(66, .bool (decide (i < no ∧ i < 150))), (16, .int .i64 (i : Nat)), (2, .int .i64 (d : Nat)), (3, .slice Ao no co), (10, .int .i64 (m : Nat)), (11, .slice A m m), (12, .pointer (some ⟨gs, 0, none⟩)), (14, .pointer (some ⟨gr, 0, none⟩))]) ?_ ?_
  · have h : (¬ i < no) ∨ (i < no ∧ ¬ i < 150) ∨ (i < no ∧ i < 150) := by omega
    rcases h with h1 | ⟨h1, h2⟩ | ⟨h1, h2⟩
    all_goals
      (refine Reach.walk ?_; (repeat (first | ((with_reducible refine AllSt.mk ?_); (try clear hS); intro w hS) | ((with_reducible refine AllVw.mk ?_); intro V hV))))
      exact ⟨rfl, boolV (by first | exact decide_eq_decide.2 (by omega) | exact (decide_eq_false (by omega)).symm | exact (decide_eq_true (by omega)).symm), rfl, rfl, rfl, rfl, rfl, rfl, rfl, trivial⟩
  rintro e w' ⟨rfl, he⟩
  obtain ⟨e0, rfl⟩ := he.eq
  clear he
  dsimp only [Env.sets]
  by_cases hgo : i < no ∧ i < 150
  rotate_left
  · (refine Reach.walk ?_; (repeat (first | ((with_reducible refine AllSt.mk ?_); (try clear hS); intro w hS) | ((with_reducible refine AllVw.mk ?_); intro V hV))))
    (with_reducible apply doneQ_one Try.results6); (· exact slotFound)
    exact ⟨rfl, hS.toBelow⟩
  have hof : (os.getD i .zero).Fits := by
    rw [List.getD_eq_getElem?_getD, List.getElem?_eq_getElem (by omega)]
    exact hfit _ (List.getElem_mem _)
  (refine Reach.walk ?_; (repeat (first | ((with_reducible refine AllSt.mk ?_); (try clear hS); intro w hS) | ((with_reducible refine AllVw.mk ?_); intro V hV))))
  refine WpL.ldMid (n := 10) (k := 0 + i * 10) hS rfl rfl (.there (.there (.there .ro))) (by rw [ov_length]; omega) ?_
  rw [Nat.zero_add, ov_at os i (by omega)]
  generalize os.getD i .zero = o at *
  obtain ⟨ok, on, oa, ob, ⟨or, oh, oq, oi, op, os_⟩⟩ := o
  simp only [ROp.cells]
  (refine Reach.walk ?_; (repeat (first | ((with_reducible refine AllSt.mk ?_); (try clear hS); intro w hS) | ((with_reducible refine AllVw.mk ?_); intro V hV))))
  ((with_reducible apply WpL.al); (· assumption); (· exact rfl); (· exact rfl); clear hS)
  intro go w hS
  have f1 : i64ok ok := hof.kind
  have f2 : i64ok on := hof.n
  have f3 : i64ok oa := hof.at_
  have b4 : ob < 256 := hof.byte
  clear hof
  have b1 := absN_le f1
  have b2 := absN_le f2
  have b3 := absN_le f3
  (refine Reach.walk ?_; (repeat (first | ((with_reducible refine AllSt.mk ?_); (try clear hS); intro w hS) | ((with_reducible refine AllVw.mk ?_); intro V hV))))
  (with_reducible apply WpL.call); (· exact rfl); (· exact Try.call9); (· exact Vals.found)
  refine (abs_any f1 w).mono ?_
  rintro x w1 ⟨rfl, rfl⟩
  refine ⟨_, rfl, ?_⟩
  have hk4 : absN ok % 4 < 4 := Nat.mod_lt _ (by decide)
  refine WpL.cut (fun e' w' => w' = w ∧ e'.Has [(76, .int .i64 ((absN ok % 4 : Nat) : Int)), (17, .pointer (some ⟨go, 0, none⟩)), (16, .int .i64 (i : Nat)), (2, .int .i64 (d : Nat)), (3, .slice Ao no co), (10, .int .i64 (m : Nat)), (11, .slice A m m), (12, .pointer (some ⟨gs, 0, none⟩)), (14, .pointer (some ⟨gr, 0, none⟩))]) ?_ ?_
  · (refine Reach.walk ?_; (repeat (first | ((with_reducible refine AllSt.mk ?_); (try clear hS); intro w hS) | ((with_reducible refine AllVw.mk ?_); intro V hV))))
    exact ⟨rfl, rfl, rfl, rfl, rfl, rfl, rfl, rfl, rfl, rfl, trivial⟩
  rintro e w1 ⟨rfl, he⟩
  obtain ⟨e0, rfl⟩ := he.eq
  clear he
  dsimp only [Env.sets]
  generalize absN ok % 4 = k at *
  refine Wp.cut (fun e' w' => ∃ mem head n, mem.length = m ∧ head < d ∧ n < d ∧ St W (feet []) w' [.blk gs 63 (loopC A m m b d 64 head n), .blk gr 56 (refC b d 64 head n true), .own A m m 5 1 (bv mem), .ro Ao (ov os)] ∧
      e'.Has [(16, .int .i64 (i : Nat)), (2, .int .i64 (d : Nat)), (3, .slice Ao no co), (10, .int .i64 (m : Nat)), (11, .slice A m m), (12, .pointer (some ⟨gs, 0, none⟩)), (14, .pointer (some ⟨gr, 0, none⟩))]) ?_ ?_
  · have hk : k = 0 ∨ k = 1 ∨ k = 2 ∨ k = 3 := by omega
    have fetch : k = 2 ∨ k = 3 → True := fun _ => trivial
    rcases hk with rfl | rfl | hk
    · have hmod : absN oa % m < m := Nat.mod_lt _ (by omega)
      (refine Reach.walk ?_; (repeat (first | ((with_reducible refine AllSt.mk ?_); (try clear hS); intro w hS) | ((with_reducible refine AllVw.mk ?_); intro V hV))))
      (refine Wp.drawD 9 (by kernel_rfl) (by kernel_rfl) rfl ?_; dsimp only [List.take, List.drop])
      (refine Reach.rwalk ?_; (repeat (first | ((with_reducible refine AllSt.mk ?_); (try clear hS); intro w hS) | ((with_reducible refine AllVw.mk ?_); intro V hV))))
      refine RgD.known0 (c := .int .i64 (absN oa : Nat)) rfl rfl rfl rfl (fun w2 hb1 => ?_) ?_
      · (with_reducible apply WpL.call); (· exact rfl); (· exact Try.call9); (· exact Vals.found)
        refine (abs_any f3 w2).mono ?_
        rintro x w3 ⟨rfl, rfl⟩
        exact ⟨_, rfl, WpL.nil ⟨⟨hb1, Below.refl _ _⟩, Env.set_same _ _ _⟩⟩
      (refine Reach.rwalk ?_; (repeat (first | ((with_reducible refine AllSt.mk ?_); (try clear hS); intro w hS) | ((with_reducible refine AllVw.mk ?_); intro V hV))))
      (refine RgD.fin0 fun w hb => ?_; replace hS := hS.below hb; clear hb)
      (refine Reach.walk ?_; (repeat (first | ((with_reducible refine AllSt.mk ?_); (try clear hS); intro w hS) | ((with_reducible refine AllVw.mk ?_); intro V hV))))
      exact ⟨_, head, n, by rw [List.length_set]; exact hl, hhd, hn1, hS.tail, rfl, rfl, rfl, rfl, rfl, rfl, rfl, trivial⟩
    · have hmod : absN on % (d + 2) < d + 2 := Nat.mod_lt _ (by omega)
      (refine Reach.walk ?_; (repeat (first | ((with_reducible refine AllSt.mk ?_); (try clear hS); intro w hS) | ((with_reducible refine AllVw.mk ?_); intro V hV))))
      (with_reducible apply WpL.call); (· exact rfl); (· exact Try.call9); (· exact Vals.found)
      refine (abs_any f2 w1).mono ?_
      rintro x w3 ⟨rfl, rfl⟩
      refine ⟨_, rfl, ?_⟩
      (refine Reach.walk ?_; (repeat (first | ((with_reducible refine AllSt.mk ?_); (try clear hS); intro w hS) | ((with_reducible refine AllVw.mk ?_); intro V hV))))
      generalize ((absN on % (d + 2) : Nat) : Int) - 1 = t at *
      (with_reducible apply WpL.call); (· exact rfl); (· exact Try.call11); (· exact Vals.found)
      (replace hS := (hS.take (pre := [.blk gs _ _]) Take.found); (try simp only [List.cons_append, List.nil_append] at hS))
      refine (subBell_any (t := t) hd hhd hn1 hS).mono ?_
      clear hS
      rintro x w (⟨ht, rfl, hS⟩ | ⟨ht, rfl, hS⟩)
      · refine ⟨_, rfl, ?_⟩
        (refine Reach.walk ?_; (repeat (first | ((with_reducible refine AllSt.mk ?_); (try clear hS); intro w hS) | ((with_reducible refine AllVw.mk ?_); intro V hV))))
        (with_reducible apply WpL.call); (· exact rfl); (· exact Try.call24); (· exact Vals.found)
        (replace hS := (hS.take (pre := [.blk gr _ _]) Take.found); (try simp only [List.cons_append, List.nil_append] at hS))
        refine (tails_any (t := t) hd hhd hn1 hS).mono ?_
        clear hS
        rintro x w (⟨_, rfl, hS⟩ | ⟨h, _⟩)
        rotate_left
        · exact absurd ht h
        refine ⟨_, rfl, ?_⟩
        (refine Reach.walk ?_; (repeat (first | ((with_reducible refine AllSt.mk ?_); (try clear hS); intro w hS) | ((with_reducible refine AllVw.mk ?_); intro V hV))))
        exact ⟨_, _, _, hl, hhd, ht.2, hS.only Take.found, rfl, rfl, rfl, rfl, rfl, rfl, rfl, trivial⟩
      · refine ⟨_, rfl, ?_⟩
        (refine Reach.walk ?_; (repeat (first | ((with_reducible refine AllSt.mk ?_); (try clear hS); intro w hS) | ((with_reducible refine AllVw.mk ?_); intro V hV))))
        (with_reducible apply WpL.call); (· exact rfl); (· exact Try.call24); (· exact Vals.found)
        (replace hS := (hS.take (pre := [.blk gr _ _]) Take.found); (try simp only [List.cons_append, List.nil_append] at hS))
        refine (tails_any (t := t) hd hhd hn1 hS).mono ?_
        clear hS
        rintro x w (⟨h, _⟩ | ⟨_, rfl, hS⟩)
        · exact absurd h ht
        refine ⟨_, rfl, ?_⟩
        (refine Reach.walk ?_; (repeat (first | ((with_reducible refine AllSt.mk ?_); (try clear hS); intro w hS) | ((with_reducible refine AllVw.mk ?_); intro V hV))))
        exact ⟨_, _, _, hl, hhd, hn1, hS.only Take.found, rfl, rfl, rfl, rfl, rfl, rfl, rfl, trivial⟩
    · rcases hk with rfl | rfl
      all_goals
        (refine Reach.walk ?_; (repeat (first | ((with_reducible refine AllSt.mk ?_); (try clear hS); intro w hS) | ((with_reducible refine AllVw.mk ?_); intro V hV))))
        (with_reducible apply WpL.call); (· exact rfl); (· exact Try.call13); (· exact Vals.found)
        (replace hS := (hS.take (pre := [.blk gs _ _, .own A _ _ _ _ _]) Take.found); (try simp only [List.cons_append, List.nil_append] at hS))
        refine (fetch_any hd hhd hn1 (by omega) hl hbm hV hS).mono ?_
        clear hS
        rintro x w (⟨h0, rfl, hS⟩ | ⟨h0, A', c', rfl, hV', hS⟩)
        · subst h0
          refine ⟨_, rfl, ?_⟩
          (refine Reach.walk ?_; (repeat (first | ((with_reducible refine AllSt.mk ?_); (try clear hS); intro w hS) | ((with_reducible refine AllVw.mk ?_); intro V hV))))
          (with_reducible apply WpL.call); (· exact rfl); (· exact Try.call25); (· exact Vals.found)
          (replace hS := (hS.take (pre := [.blk gr _ _]) Take.found); (try simp only [List.cons_append, List.nil_append] at hS))
          refine (refFetch_any hd hhd hn1 (.inl rfl) (by omega) hS).mono ?_
          clear hS
          rintro x w (⟨_, rfl, hS⟩ | ⟨h, _⟩)
          rotate_left
          · exact absurd rfl h
          refine ⟨_, rfl, ?_⟩
          (refine Reach.walk ?_; (repeat (first | ((with_reducible refine AllSt.mk ?_); (try clear hS); intro w hS) | ((with_reducible refine AllVw.mk ?_); intro V hV))))
          (refine Wp.drawD 27 (by kernel_rfl) (by kernel_rfl) rfl ?_; dsimp only [List.take, List.drop])
          (refine Reach.rwalk ?_; (repeat (first | ((with_reducible refine AllSt.mk ?_); (try clear hS); intro w hS) | ((with_reducible refine AllVw.mk ?_); intro V hV))))
          (refine RgD.fin0 fun w hb => ?_; replace hS := hS.below hb; clear hb)
          (refine Reach.walk ?_; (repeat (first | ((with_reducible refine AllSt.mk ?_); (try clear hS); intro w hS) | ((with_reducible refine AllVw.mk ?_); intro V hV))))
          apply Wp.loopUp 0 (fun k e w' => St W (feet []) w' [.blk gs 63 (loopC A m m b d 64 head 0), .blk gr 56 (refC b d 64 head 0 true), .own A m m 5 1 (bv mem), .ro Ao (ov os)] ∧
            e.Has [(22, .int .i64 0), (19, .slice none 0 0), (16, .int .i64 (i : Nat)), (2, .int .i64 (d : Nat)), (3, .slice Ao no co), (10, .int .i64 (m : Nat)), (11, .slice A m m), (12, .pointer (some ⟨gs, 0, none⟩)), (14, .pointer (some ⟨gr, 0, none⟩))]) (Nat.zero_le 0)
            ⟨hS.only Take.found, rfl, rfl, rfl, rfl, rfl, rfl, rfl, rfl, rfl, trivial⟩
          clear hS
          rintro j e w hj ⟨hS, he⟩
          obtain ⟨e0, rfl⟩ := he.eq
          clear he
          dsimp only [Env.sets]
          (refine Reach.walk ?_; (repeat (first | ((with_reducible refine AllSt.mk ?_); (try clear hS); intro w hS) | ((with_reducible refine AllVw.mk ?_); intro V hV))))
          exact ⟨_, _, _, hl, hhd, hn1, hS, rfl, rfl, rfl, rfl, rfl, rfl, rfl, trivial⟩
        · refine ⟨_, rfl, ?_⟩
          (refine Reach.walk ?_; (repeat (first | ((with_reducible refine AllSt.mk ?_); (try clear hS); intro w hS) | ((with_reducible refine AllVw.mk ?_); intro V hV))))
          (with_reducible apply WpL.call); (· exact rfl); (· exact Try.call25); (· exact Vals.found)
          (replace hS := (hS.take (pre := [.blk gr _ _]) Take.found); (try simp only [List.cons_append, List.nil_append] at hS))
          refine (refFetch_any hd hhd hn1 (.inl rfl) (by omega) hS).mono ?_
          clear hS
          rintro x w (⟨h, _⟩ | ⟨_, rfl, hS⟩)
          · exact absurd h h0
          refine ⟨_, rfl, ?_⟩
          (refine Reach.walk ?_; (repeat (first | ((with_reducible refine AllSt.mk ?_); (try clear hS); intro w hS) | ((with_reducible refine AllVw.mk ?_); intro V hV))))
          have hle : b + head * 64 + 64 ≤ m := by omega
          generalize b + head * 64 = o at *
          have hbl : (List.take 64 (List.drop o mem)).length = 64 := by rw [List.length_take, List.length_drop]; omega
          (refine Wp.drawD 27 (by kernel_rfl) (by kernel_rfl) rfl ?_; dsimp only [List.take, List.drop])
          (refine Reach.rwalk ?_; (repeat (first | ((with_reducible refine AllSt.mk ?_); (try clear hS); intro w hS) | ((with_reducible refine AllVw.mk ?_); intro V hV))))
          refine RgD.slLoHi rfl rfl rfl rfl hV rfl natFound rfl natFound lenFound lenFound ?_
          intro V2 hV2
          rw [Nat.zero_add, Nat.add_sub_cancel_left] at hV2
          rw [Nat.add_sub_cancel_left]
          generalize hbs : List.take 64 (List.drop o mem) = bs at *
          have hne : decide (bs ≠ List.take 64 (List.drop o mem)) = false := decide_eq_false (fun h => h hbs.symm)
          (refine Reach.rwalk ?_; (repeat (first | ((with_reducible refine AllSt.mk ?_); (try clear hS); intro w hS) | ((with_reducible refine AllVw.mk ?_); intro V hV))))
          (refine RgD.fin0 fun w hb => ?_; replace hS := hS.below hb; clear hb)
          clear hV2 hbs hne
          (replace hS := (hS.take (pre := [.own A' _ _ _ _ _, .blk gs _ _, .blk gr _ _, .own A _ _ _ _ _, .ro Ao _]) Take.found); (try simp only [List.cons_append, List.nil_append] at hS))
          (refine Reach.walk ?_; (repeat (first | ((with_reducible refine AllSt.mk ?_); (try clear hS); intro w hS) | ((with_reducible refine AllVw.mk ?_); intro V hV))))
          apply Wp.loopUp 64 (fun j e w' => ∃ cs : List UInt8, cs.length = 64 ∧ St W (feet []) w' [.own A' 64 c' 5 1 (bv cs), .blk gs 63 (loopC A m m b d 64 ((head + 1) % d) (n - 1)), .blk gr 56 (refC b d 64 ((head + 1) % d) (n - 1) true), .own A m m 5 1 (bv mem), .ro Ao (ov os)] ∧
            e.Has [(22, .int .i64 (j : Nat)), (19, .slice A' 64 c'), (16, .int .i64 (i : Nat)), (2, .int .i64 (d : Nat)), (3, .slice Ao no co), (10, .int .i64 (m : Nat)), (11, .slice A m m), (12, .pointer (some ⟨gs, 0, none⟩)), (14, .pointer (some ⟨gr, 0, none⟩))]) (Nat.zero_le 64)
            ⟨bs, hbl, hS.only Take.found, rfl, rfl, rfl, rfl, rfl, rfl, rfl, rfl, rfl, trivial⟩
          clear hS hbl
          rintro j e w hj ⟨cs, hcl, hS, he⟩
          obtain ⟨e0, rfl⟩ := he.eq
          clear he
          dsimp only [Env.sets]
          by_cases hlt : j < 64
          · have hx : (cs.getD j 0).toNat ^^^ 255 < 256 := Nat.xor_lt_two_pow (n := 8) (byte_lt _ _) (by decide)
            (refine Reach.walk ?_; (repeat (first | ((with_reducible refine AllSt.mk ?_); (try clear hS); intro w hS) | ((with_reducible refine AllVw.mk ?_); intro V hV))))
            exact ⟨hlt, _, by rw [List.length_set]; exact hcl, hS, int_eq (by omega), rfl, rfl, rfl, rfl, rfl, rfl, rfl, rfl, trivial⟩
          · obtain rfl : j = 64 := by omega
            have hh1 : (head + 1) % d < d := Nat.mod_lt _ (by omega)
            (refine Reach.walk ?_; (repeat (first | ((with_reducible refine AllSt.mk ?_); (try clear hS); intro w hS) | ((with_reducible refine AllVw.mk ?_); intro V hV))))
            exact ⟨mem, _, _, hl, hh1, by omega, hS.tail, rfl, rfl, rfl, rfl, rfl, rfl, rfl, trivial⟩
  · clear hS hl hhd hn1
    rintro e w ⟨mem, head, n, hl, hhd, hn1, hS, he⟩
    obtain ⟨e0, rfl⟩ := he.eq
    clear he
    dsimp only [Env.sets]
    (repeat (with_reducible apply Wp.seq))
    (refine Wp.drawD 14 (by kernel_rfl) (by kernel_rfl) rfl ?_; dsimp only [List.take, List.drop])
    (refine Reach.rwalk ?_; (repeat (first | ((with_reducible refine AllSt.mk ?_); (try clear hS); intro w hS) | ((with_reducible refine AllVw.mk ?_); intro V hV))))
    refine RgD.known0 (c := .int .i64 (n : Int)) rfl rfl rfl rfl (fun w2 hb1 => ?_) ?_
    · (with_reducible apply WpL.call); (· exact rfl); (· exact Try.call12); (· exact Vals.found)
      refine (waiting_any (n := n) Look.found (hS.below hb1)).mono ?_
      rintro x w3 ⟨rfl, rfl⟩
      exact ⟨_, rfl, WpL.nil ⟨⟨hb1, Below.refl _ _⟩, Env.set_same _ _ _⟩⟩
    (refine Reach.rwalk ?_; (repeat (first | ((with_reducible refine AllSt.mk ?_); (try clear hS); intro w hS) | ((with_reducible refine AllVw.mk ?_); intro V hV))))
    refine RgD.known0 (c := .int .i64 (n : Int)) rfl rfl rfl rfl (fun w2 hb1 => ?_) ?_
    · (with_reducible apply WpL.call); (· exact rfl); (· exact Try.call22); (· exact Vals.found)
      refine (used_any (d := d) (head := head) (n := n) Look.found Look.found Look.found hd.2 hhd hn1 (hS.below hb1)).mono ?_
      rintro x w3 ⟨rfl, hb2⟩
      exact ⟨_, rfl, WpL.nil ⟨⟨hb1.on hb2, hb2⟩, Env.set_same _ _ _⟩⟩
    (refine Reach.rwalk ?_; (repeat (first | ((with_reducible refine AllSt.mk ?_); (try clear hS); intro w hS) | ((with_reducible refine AllVw.mk ?_); intro V hV))))
    refine RgD.known0 (c := .int .i64 (head : Int)) rfl rfl rfl rfl (fun w2 hb1 => ?_) ?_
    · (with_reducible apply WpL.call); (· exact rfl); (· exact Try.call26); (· exact Vals.found)
      refine (head_any (n := head) Look.found (hS.below hb1)).mono ?_
      rintro x w3 ⟨rfl, rfl⟩
      exact ⟨_, rfl, WpL.nil ⟨⟨hb1, Below.refl _ _⟩, Env.set_same _ _ _⟩⟩
    (refine Reach.rwalk ?_; (repeat (first | ((with_reducible refine AllSt.mk ?_); (try clear hS); intro w hS) | ((with_reducible refine AllVw.mk ?_); intro V hV))))
    (refine RgD.fin0 fun w hb => ?_; replace hS := hS.below hb; clear hb)
    (refine Reach.walk ?_; (repeat (first | ((with_reducible refine AllSt.mk ?_); (try clear hS); intro w hS) | ((with_reducible refine AllVw.mk ?_); intro V hV))))
    exact ⟨hgo.1, mem, head, n, hl, hhd, hn1, hS, int_eq (by omega), rfl, rfl, rfl, rfl, rfl, rfl, trivial⟩
end Go.Proofs.Ytaengifldfgjcaa
