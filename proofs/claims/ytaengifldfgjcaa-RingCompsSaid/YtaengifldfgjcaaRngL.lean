/-
  RingComps: the walk.
-/
import Derived.Test.YtaengifldfgjcaaRngI
import Derived.Test.YtaengifldfgjcaaStD
namespace Go.Proofs.Ytaengifldfgjcaa
open Go.Fk Go.RowKit
attribute [local irreducible] Wp WpL Det thenQ blockQ
theorem phB_ref {d p : Nat} (hd : 2 ≤ d) : phB d (p + 1) = if p % d + 1 = d then !(phB d p) else phB d p := by
  unfold phB
  have h1 := Nat.div_add_mod p d
  have h2 : p % d < d := Nat.mod_lt _ (by omega)
  split
  · rename_i h
    have e : (p + 1) / d = p / d + 1 := by
      rw [show p + 1 = d * (p / d + 1) by rw [Nat.mul_add]; omega, Nat.mul_div_cancel_left _ (by omega)]
    rw [e]
    rcases Nat.mod_two_eq_zero_or_one (p / d) with h3 | h3
    · rw [h3, show (p / d + 1) % 2 = 1 by omega]; rfl
    · rw [h3, show (p / d + 1) % 2 = 0 by omega]; rfl
  · rename_i h
    have e : (p + 1) / d = p / d := by
      refine Nat.div_eq_of_lt_le ?_ ?_
      · rw [Nat.mul_comm]; omega
      · rw [Nat.add_mul, Nat.mul_comm]; omega
    rw [e]
theorem mod_step {d p : Nat} (hd : 2 ≤ d) : (p + 1) % d = if p % d + 1 = d then 0 else p % d + 1 := by
  have h2 : p % d < d := Nat.mod_lt _ (by omega)
  rw [show p + 1 = p + 1 from rfl, Nat.add_mod, Nat.mod_eq_of_lt (show 1 < d by omega)]
  split
  · rename_i h; rw [h, Nat.mod_self]
  · exact Nat.mod_eq_of_lt (by omega)

/-- What a number is made to be. -/
def rightZ (z h : Int) (m : Nat) : Int := if z % 11 = 10 then h else ((absN h % m : Nat) : Int)
theorem right2_any {r : Nat} {h q i s z : Int} {p : Bool} (hh : i64ok h) (hq : i64ok q) (hi : i64ok i) (hs : i64ok s) (hz : 0 ≤ z ∧ z ≤ 9223372036854775807) {w w0 : World} {M : Nat → Prop} {L : List Ch} (hS : St w0 M w L) :
    Calls Try.prog 16 #[doneV r h q i p s, .int .i64 z] w fun x w' => x = .returned (doneV r (rightZ z h 65536) (rightZ z q 65536) (rightZ z i 65536) p (rightZ z s 32768)) ∧ St w0 M w' L := by
  (refine calls_of (P := Try.prog) _ Try.func16 rfl Try.ntmps16 (Nat.le_of_ble_eq_true rfl) ?_; dsimp only [argE, Nat.reduceAdd])
  (refine Reach.walk ?_; (repeat (first | ((with_reducible refine AllSt.mk ?_); (try clear hS); intro w hS) | ((with_reducible refine AllVw.mk ?_); intro V hV))))
  ((with_reducible apply WpL.bx); (· assumption); (· exact rfl); (· exact Env.found); (· exact rfl); clear hS)
  intro gd w hS
  (refine Reach.walk ?_; (repeat (first | ((with_reducible refine AllSt.mk ?_); (try clear hS); intro w hS) | ((with_reducible refine AllVw.mk ?_); intro V hV))))
  ((with_reducible apply WpL.al); (· assumption); (· exact rfl); (· exact rfl); clear hS)
  intro gx w hS
  by_cases h10 : z % 11 = 10
  · obtain ⟨m, rfl⟩ := Int.eq_ofNat_of_zero_le hz.1
    have h10' : ((m % 11 : Nat) : Int) = 10 := by omega
    (refine Reach.walk ?_; (repeat (first | ((with_reducible refine AllSt.mk ?_); (try clear hS); intro w hS) | ((with_reducible refine AllVw.mk ?_); intro V hV))))
    (with_reducible apply doneQ_row Try.results16); (· exact slotFound); (· assumption); (· exact Sel.found); (· exact rfl)
    refine ⟨?_, hS.tail.tail⟩
    simp only [rightZ, if_pos h10]
  · obtain ⟨m, rfl⟩ := Int.eq_ofNat_of_zero_le hz.1
    have h10' : ¬ ((m % 11 : Nat) : Int) = 10 := by omega
    have b1 := absN_le hh
    have b2 := absN_le hq
    have b3 := absN_le hi
    have b4 := absN_le hs
    (refine Reach.walk ?_; (repeat (first | ((with_reducible refine AllSt.mk ?_); (try clear hS); intro w hS) | ((with_reducible refine AllVw.mk ?_); intro V hV))))
    (refine Wp.drawD 21 (by kernel_rfl) (by kernel_rfl) rfl ?_; dsimp only [List.take, List.drop])
    (refine Reach.rwalk ?_; (repeat (first | ((with_reducible refine AllSt.mk ?_); (try clear hS); intro w hS) | ((with_reducible refine AllVw.mk ?_); intro V hV))))
    refine RgD.known0 (c := .int .i64 (absN h : Nat)) rfl rfl rfl rfl (fun w1 hb1 => ?_) ?_
    · (with_reducible apply WpL.call); (· exact rfl); (· exact Try.call9); (· exact Vals.found)
      refine (abs_any hh w1).mono ?_
      rintro x w2 ⟨rfl, rfl⟩
      exact ⟨_, rfl, WpL.nil ⟨⟨hb1, Below.refl _ _⟩, Env.set_same _ _ _⟩⟩
    (refine Reach.rwalk ?_; (repeat (first | ((with_reducible refine AllSt.mk ?_); (try clear hS); intro w hS) | ((with_reducible refine AllVw.mk ?_); intro V hV))))
    refine RgD.known0 (c := .int .i64 (absN q : Nat)) rfl rfl rfl rfl (fun w1 hb1 => ?_) ?_
    · (with_reducible apply WpL.call); (· exact rfl); (· exact Try.call9); (· exact Vals.found)
      refine (abs_any hq w1).mono ?_
      rintro x w2 ⟨rfl, rfl⟩
      exact ⟨_, rfl, WpL.nil ⟨⟨hb1, Below.refl _ _⟩, Env.set_same _ _ _⟩⟩
    (refine Reach.rwalk ?_; (repeat (first | ((with_reducible refine AllSt.mk ?_); (try clear hS); intro w hS) | ((with_reducible refine AllVw.mk ?_); intro V hV))))
    refine RgD.known0 (c := .int .i64 (absN i : Nat)) rfl rfl rfl rfl (fun w1 hb1 => ?_) ?_
    · (with_reducible apply WpL.call); (· exact rfl); (· exact Try.call9); (· exact Vals.found)
      refine (abs_any hi w1).mono ?_
      rintro x w2 ⟨rfl, rfl⟩
      exact ⟨_, rfl, WpL.nil ⟨⟨hb1, Below.refl _ _⟩, Env.set_same _ _ _⟩⟩
    (refine Reach.rwalk ?_; (repeat (first | ((with_reducible refine AllSt.mk ?_); (try clear hS); intro w hS) | ((with_reducible refine AllVw.mk ?_); intro V hV))))
    refine RgD.known0 (c := .int .i64 (absN s : Nat)) rfl rfl rfl rfl (fun w1 hb1 => ?_) ?_
    · (with_reducible apply WpL.call); (· exact rfl); (· exact Try.call9); (· exact Vals.found)
      refine (abs_any hs w1).mono ?_
      rintro x w2 ⟨rfl, rfl⟩
      exact ⟨_, rfl, WpL.nil ⟨⟨hb1, Below.refl _ _⟩, Env.set_same _ _ _⟩⟩
    (refine Reach.rwalk ?_; (repeat (first | ((with_reducible refine AllSt.mk ?_); (try clear hS); intro w hS) | ((with_reducible refine AllVw.mk ?_); intro V hV))))
    refine RgD.det rfl rfl rfl rfl (Det.build (cells := [.int .u32 (r : Int), .int .i64 ((absN h % 65536 : Nat) : Int), .int .i64 ((absN q % 65536 : Nat) : Int), .int .i64 ((absN i % 65536 : Nat) : Int), .bool p, .int .i64 ((absN s % 32768 : Nat) : Int)]) PVals.found (by kernel_rfl)) ?_
    (refine Reach.rwalk ?_; (repeat (first | ((with_reducible refine AllSt.mk ?_); (try clear hS); intro w hS) | ((with_reducible refine AllVw.mk ?_); intro V hV))))
    (refine RgD.fin0 fun w hb => ?_; replace hS := hS.below hb; clear hb)
    (refine Reach.walk ?_; (repeat (first | ((with_reducible refine AllSt.mk ?_); (try clear hS); intro w hS) | ((with_reducible refine AllVw.mk ?_); intro V hV))))
    (with_reducible apply doneQ_row Try.results16); (· exact slotFound); (· assumption); (· exact Sel.found); (· exact rfl)
    refine ⟨?_, hS.tail.tail⟩
    simp only [rightZ, if_neg h10]

set_option maxHeartbeats 4000000 in
theorem ringComps_any {size base depth : Int} (hs : i64ok size) {Ao : Option Addr} {no co : Nat} {os : List ROp} (hn : no ≤ os.length) (hVo : IsVw Ao no co Ao 0) (hfit : ∀ o ∈ os, o.Fits) (W : World) (hr : Rd W Ao (ov os)) :
    Calls Try.prog 4 #[.int .i64 size, .int .i64 base, .int .i64 depth, .slice Ao no co] W fun x w' => x = .returned (.bool true) ∧ Below W.heap.size W w' := by
  have hS := (St.start W).startRo hr
  clear hr
  (refine calls_of (P := Try.prog) _ Try.func4 rfl Try.ntmps4 (Nat.le_of_ble_eq_true rfl) ?_; dsimp only [argE, Nat.reduceAdd])
  (refine Reach.walk ?_; (repeat (first | ((with_reducible refine AllSt.mk ?_); (try clear hS); intro w hS) | ((with_reducible refine AllVw.mk ?_); intro V hV))))
  (with_reducible apply WpL.call); (· exact rfl); (· exact Try.call8); (· exact Vals.found)
  refine (awake_any W).mono ?_
  rintro x w ⟨rfl, hb⟩
  refine ⟨_, rfl, ?_⟩
  replace hS := hS.below hb
  clear hb
  (refine Reach.walk ?_; (repeat (first | ((with_reducible refine AllSt.mk ?_); (try clear hS); intro w hS) | ((with_reducible refine AllVw.mk ?_); intro V hV))))
  (with_reducible apply WpL.call); (· exact rfl); (· exact Try.call9); (· exact Vals.found)
  refine (abs_any hs w).mono ?_
  rintro x w1 ⟨rfl, rfl⟩
  refine ⟨_, rfl, ?_⟩
  have hdm : absN size % 1500 < 1500 := Nat.mod_lt _ (by decide)
  have had := absN_le hs
  (refine Reach.walk ?_; (repeat (first | ((with_reducible refine AllSt.mk ?_); (try clear hS); intro w hS) | ((with_reducible refine AllVw.mk ?_); intro V hV))))
  generalize absN size % 1500 = m at *
  clear had
  refine WpL.mk1 (bytes := 1) (n := m) (z := .int .u8 0) hS rfl rfl rfl rfl rfl rfl (by omega) (by omega) ?_
  clear hS
  intro A w hV hS
  rw [replicate_bv] at hS
  have hl : (List.replicate m (0 : UInt8)).length = m := List.length_replicate
  (refine Reach.walk ?_; (repeat (first | ((with_reducible refine AllSt.mk ?_); (try clear hS); intro w hS) | ((with_reducible refine AllVw.mk ?_); intro V hV))))
  refine WpL.mk1 (bytes := 1) (n := m) (z := .int .u8 0) hS rfl rfl rfl rfl rfl rfl (by omega) (by omega) ?_
  clear hS
  intro A2 w hV2 hS
  rw [replicate_bv] at hS
  generalize List.replicate m (0 : UInt8) = m0 at *
  (refine Reach.walk ?_; (repeat (first | ((with_reducible refine AllSt.mk ?_); (try clear hS); intro w hS) | ((with_reducible refine AllVw.mk ?_); intro V hV))))
  (with_reducible apply WpL.call); (· exact rfl); (· exact Try.call14); (· exact Vals.found)
  refine (newComp_any (m := m) (base := base) (d := depth) (by omega) hS).mono ?_
  clear hS
  rintro x w (⟨hf, gs, rfl, hS⟩ | ⟨hf, rfl, hS⟩)
  rotate_left
  · refine ⟨_, rfl, ?_⟩
    (refine Reach.walk ?_; (repeat (first | ((with_reducible refine AllSt.mk ?_); (try clear hS); intro w hS) | ((with_reducible refine AllVw.mk ?_); intro V hV))))
    (with_reducible apply WpL.call); (· exact rfl); (· exact Try.call15); (· exact Vals.found)
    refine (refNew_any (m := m) (base := base) (d := depth) (sz := 16) (.inr rfl) (by omega) hS).mono ?_
    clear hS
    rintro x w (⟨h, _⟩ | ⟨_, rfl, hS⟩)
    · exact absurd h hf
    refine ⟨_, rfl, ?_⟩
    (refine Reach.walk ?_; (repeat (first | ((with_reducible refine AllSt.mk ?_); (try clear hS); intro w hS) | ((with_reducible refine AllVw.mk ?_); intro V hV))))
    (with_reducible apply doneQ_one Try.results4); (· exact slotFound)
    exact ⟨rfl, (hS.sub (List.nil_sublist _)).toBelow⟩
  refine ⟨_, rfl, ?_⟩
  (refine Reach.walk ?_; (repeat (first | ((with_reducible refine AllSt.mk ?_); (try clear hS); intro w hS) | ((with_reducible refine AllVw.mk ?_); intro V hV))))
  (with_reducible apply WpL.call); (· exact rfl); (· exact Try.call15); (· exact Vals.found)
  refine (refNew_any (m := m) (base := base) (d := depth) (sz := 16) (.inr rfl) (by omega) hS).mono ?_
  clear hS
  rintro x w (⟨_, gr, rfl, hS⟩ | ⟨h, _⟩)
  rotate_left
  · exact absurd hf h
  refine ⟨_, rfl, ?_⟩
  unfold fineR at hf
  obtain ⟨b, rfl⟩ := Int.eq_ofNat_of_zero_le hf.2.2.1
  obtain ⟨d, rfl⟩ := Int.eq_ofNat_of_zero_le (show 0 ≤ depth by omega)
  rw [Int.toNat_natCast, Int.toNat_natCast] at hS
  (replace hS := (hS.take (pre := [.blk gs _ _, .blk gr _ _, .own A _ _ _ _ _, .own A2 _ _ _ _ _, .ro Ao _]) Take.found); (try simp only [List.cons_append, List.nil_append] at hS))
  (refine Reach.walk ?_; (repeat (first | ((with_reducible refine AllSt.mk ?_); (try clear hS); intro w hS) | ((with_reducible refine AllVw.mk ?_); intro V hV))))
  have hd : 2 ≤ d ∧ d ≤ 64 := by omega
  have hbm : b + d * 16 ≤ m := by omega
  clear hf
  have hole := hVo.le
  have hcmx := hVo.max
  have hph0 : phB d 0 = true := by unfold phB; rw [Nat.zero_div]; rfl
  apply Wp.loopUp no (fun i e w' => ∃ mem head n p, mem.length = m ∧ head < d ∧ n < d ∧ p ≤ i ∧ p ≤ 200 ∧ (head + n) % d = p % d ∧ St W (feet []) w' [.blk gs 69 (compC A m m b d 16 head n p), .blk gr 56 (refC b d 16 head n (phB d p)), .own A m m 5 1 (bv mem), .own A2 m m 5 1 (bv mem), .ro Ao (ov os)] ∧
      e.Has [(17, .int .i64 (i : Nat)), (2, .int .i64 (d : Nat)), (3, .slice Ao no co), (11, .slice A m m), (12, .slice A2 m m), (13, .pointer (some ⟨gs, 0, none⟩)), (15, .pointer (some ⟨gr, 0, none⟩))]) (Nat.zero_le no)
    ⟨_, 0, 0, 0, hl, by omega, by omega, by omega, by omega, rfl, by rw [hph0]; exact hS, rfl, rfl, rfl, rfl, rfl, rfl, rfl, trivial⟩
  clear hS hl hph0
  rintro i e w hi ⟨mem, head, n, p, hl, hhd, hn1, hpi, hp2, hpm, hS, he⟩
  obtain ⟨e0, rfl⟩ := he.eq
  clear he
  dsimp only [Env.sets]
  (repeat (with_reducible apply Wp.seq))
  refine Wp.cut (fun e' w' => w' = w ∧ e'.Has [(70, .bool (decide (i < no ∧ i < 200))), (17, .int .i64 (i : Nat)), (2, .int .i64 (d : Nat)), (3, .slice Ao no co), (11, .slice A m m), (12, .slice A2 m m), (13, .pointer (some ⟨gs, 0, none⟩)), (15, .pointer (some ⟨gr, 0, none⟩))]) ?_ ?_
  · have h : (¬ i < no) ∨ (i < no ∧ ¬ i < 200) ∨ (i < no ∧ i < 200) := by omega
    rcases h with h1 | ⟨h1, h2⟩ | ⟨h1, h2⟩
    all_goals
      (refine Reach.walk ?_; (repeat (first | ((with_reducible refine AllSt.mk ?_); (try clear hS); intro w hS) | ((with_reducible refine AllVw.mk ?_); intro V hV))))
      exact ⟨rfl, boolV (by first | exact decide_eq_decide.2 (by omega) | exact (decide_eq_false (by omega)).symm | exact (decide_eq_true (by omega)).symm), rfl, rfl, rfl, rfl, rfl, rfl, rfl, trivial⟩
  rintro e w' ⟨rfl, he⟩
  obtain ⟨e0, rfl⟩ := he.eq
  clear he
  dsimp only [Env.sets]
  by_cases hgo : i < no ∧ i < 200
  rotate_left
  · (refine Reach.walk ?_; (repeat (first | ((with_reducible refine AllSt.mk ?_); (try clear hS); intro w hS) | ((with_reducible refine AllVw.mk ?_); intro V hV))))
    (with_reducible apply doneQ_one Try.results4); (· exact slotFound)
    exact ⟨rfl, (hS.sub (List.nil_sublist _)).toBelow⟩
  have hof : (os.getD i .zero).Fits := by
    rw [List.getD_eq_getElem?_getD, List.getElem?_eq_getElem (by omega)]
    exact hfit _ (List.getElem_mem _)
  (refine Reach.walk ?_; (repeat (first | ((with_reducible refine AllSt.mk ?_); (try clear hS); intro w hS) | ((with_reducible refine AllVw.mk ?_); intro V hV))))
  refine WpL.ldMid (n := 10) (k := 0 + i * 10) hS rfl rfl (.there (.there (.there (.there .ro)))) (by rw [ov_length]; omega) ?_
  rw [Nat.zero_add, ov_at os i (by omega)]
  generalize os.getD i .zero = o at *
  obtain ⟨ok, on, oa, ob, ⟨or, oh, oq, oi, op, os_⟩⟩ := o
  simp only [ROp.cells]
  (refine Reach.walk ?_; (repeat (first | ((with_reducible refine AllSt.mk ?_); (try clear hS); intro w hS) | ((with_reducible refine AllVw.mk ?_); intro V hV))))
  ((with_reducible apply WpL.al); (· assumption); (· exact rfl); (· exact rfl); clear hS)
  intro go w hS
  have f1 : i64ok ok := hof.kind
  have f2 : i64ok on := hof.n
  have f3 : or < 4294967296 := hof.d.result
  have f4 : i64ok oh := hof.d.head
  have f5 : i64ok oq := hof.d.queue
  have f6 : i64ok oi := hof.d.id
  have f7 : i64ok os_ := hof.d.status
  clear hof
  have b1 := absN_le f1
  have b2 := absN_le f2
  (refine Reach.walk ?_; (repeat (first | ((with_reducible refine AllSt.mk ?_); (try clear hS); intro w hS) | ((with_reducible refine AllVw.mk ?_); intro V hV))))
  (with_reducible apply WpL.call); (· exact rfl); (· exact Try.call9); (· exact Vals.found)
  refine (abs_any f1 w).mono ?_
  rintro x w1 ⟨rfl, rfl⟩
  refine ⟨_, rfl, ?_⟩
  have hk3 : absN ok % 3 < 3 := Nat.mod_lt _ (by decide)
  refine WpL.cut (fun e' w' => w' = w ∧ e'.Has [(80, .int .i64 ((absN ok % 3 : Nat) : Int)), (18, .pointer (some ⟨go, 0, none⟩)), (17, .int .i64 (i : Nat)), (2, .int .i64 (d : Nat)), (3, .slice Ao no co), (11, .slice A m m), (12, .slice A2 m m), (13, .pointer (some ⟨gs, 0, none⟩)), (15, .pointer (some ⟨gr, 0, none⟩))]) ?_ ?_
  · (refine Reach.walk ?_; (repeat (first | ((with_reducible refine AllSt.mk ?_); (try clear hS); intro w hS) | ((with_reducible refine AllVw.mk ?_); intro V hV))))
    exact ⟨rfl, rfl, rfl, rfl, rfl, rfl, rfl, rfl, rfl, rfl, trivial⟩
  rintro e w1 ⟨rfl, he⟩
  obtain ⟨e0, rfl⟩ := he.eq
  clear he
  dsimp only [Env.sets]
  generalize absN ok % 3 = k at *
  refine Wp.cut (fun e' w' => ∃ mem head n p, mem.length = m ∧ head < d ∧ n < d ∧ p ≤ i + 1 ∧ p ≤ 200 ∧ (head + n) % d = p % d ∧ St W (feet []) w' [.blk gs 69 (compC A m m b d 16 head n p), .blk gr 56 (refC b d 16 head n (phB d p)), .own A m m 5 1 (bv mem), .own A2 m m 5 1 (bv mem), .ro Ao (ov os)] ∧
      e'.Has [(17, .int .i64 (i : Nat)), (2, .int .i64 (d : Nat)), (3, .slice Ao no co), (11, .slice A m m), (12, .slice A2 m m), (13, .pointer (some ⟨gs, 0, none⟩)), (15, .pointer (some ⟨gr, 0, none⟩))]) ?_ ?_
  · have hk : k = 0 ∨ k = 1 ∨ k = 2 := by omega
    rcases hk with rfl | rfl | rfl
    rotate_right
    · have hmod : absN on % (d + 2) < d + 2 := Nat.mod_lt _ (by omega)
      (refine Reach.walk ?_; (repeat (first | ((with_reducible refine AllSt.mk ?_); (try clear hS); intro w hS) | ((with_reducible refine AllVw.mk ?_); intro V hV))))
      (with_reducible apply WpL.call); (· exact rfl); (· exact Try.call9); (· exact Vals.found)
      refine (abs_any f2 w1).mono ?_
      rintro x w3 ⟨rfl, rfl⟩
      refine ⟨_, rfl, ?_⟩
      (refine Reach.walk ?_; (repeat (first | ((with_reducible refine AllSt.mk ?_); (try clear hS); intro w hS) | ((with_reducible refine AllVw.mk ?_); intro V hV))))
      generalize ((absN on % (d + 2) : Nat) : Int) - 1 = t at *
      (with_reducible apply WpL.call); (· exact rfl); (· exact Try.call19); (· exact Vals.found)
      (replace hS := (hS.take (pre := [.blk gs _ _]) Take.found); (try simp only [List.cons_append, List.nil_append] at hS))
      refine (compBell_any (t := t) hd hhd hn1 hS).mono ?_
      clear hS
      rintro x w (⟨ht, rfl, hS⟩ | ⟨ht, rfl, hS⟩)
      · refine ⟨_, rfl, ?_⟩
        (refine Reach.walk ?_; (repeat (first | ((with_reducible refine AllSt.mk ?_); (try clear hS); intro w hS) | ((with_reducible refine AllVw.mk ?_); intro V hV))))
        (with_reducible apply WpL.call); (· exact rfl); (· exact Try.call20); (· exact Vals.found)
        (replace hS := (hS.take (pre := [.blk gr _ _]) Take.found); (try simp only [List.cons_append, List.nil_append] at hS))
        refine (heads_any (t := t) hd hhd hn1 hS).mono ?_
        clear hS
        rintro x w (⟨_, rfl, hS⟩ | ⟨h, _⟩)
        rotate_left
        · exact absurd ht h
        refine ⟨_, rfl, ?_⟩
        have ht2 := ht.2
        have hh1 : (head + ahead d head t) % d < d := Nat.mod_lt _ (by omega)
        (refine Reach.walk ?_; (repeat (first | ((with_reducible refine AllSt.mk ?_); (try clear hS); intro w hS) | ((with_reducible refine AllVw.mk ?_); intro V hV))))
        exact ⟨mem, (head + ahead d head t) % d, n - ahead d head t, p, hl, hh1, by omega, by omega, hp2, by rw [mod_take ht2]; exact hpm, hS.only Take.found, rfl, rfl, rfl, rfl, rfl, rfl, rfl, trivial⟩
      · refine ⟨_, rfl, ?_⟩
        (refine Reach.walk ?_; (repeat (first | ((with_reducible refine AllSt.mk ?_); (try clear hS); intro w hS) | ((with_reducible refine AllVw.mk ?_); intro V hV))))
        (with_reducible apply WpL.call); (· exact rfl); (· exact Try.call20); (· exact Vals.found)
        (replace hS := (hS.take (pre := [.blk gr _ _]) Take.found); (try simp only [List.cons_append, List.nil_append] at hS))
        refine (heads_any (t := t) hd hhd hn1 hS).mono ?_
        clear hS
        rintro x w (⟨h, _⟩ | ⟨_, rfl, hS⟩)
        · exact absurd h ht
        refine ⟨_, rfl, ?_⟩
        (refine Reach.walk ?_; (repeat (first | ((with_reducible refine AllSt.mk ?_); (try clear hS); intro w hS) | ((with_reducible refine AllVw.mk ?_); intro V hV))))
        exact ⟨_, _, _, p, hl, hhd, hn1, by omega, hp2, hpm, hS.only Take.found, rfl, rfl, rfl, rfl, rfl, rfl, rfl, trivial⟩
    all_goals
      (refine Reach.walk ?_; (repeat (first | ((with_reducible refine AllSt.mk ?_); (try clear hS); intro w hS) | ((with_reducible refine AllVw.mk ?_); intro V hV))))
      (refine Wp.drawD 7 (by kernel_rfl) (by kernel_rfl) rfl ?_; dsimp only [List.take, List.drop])
      (refine Reach.rwalk ?_; (repeat (first | ((with_reducible refine AllSt.mk ?_); (try clear hS); intro w hS) | ((with_reducible refine AllVw.mk ?_); intro V hV))))
      refine RgD.det rfl rfl rfl rfl (Det.ldMid (n := 6) (cs := [.int .u32 (or : Int), .int .i64 oh, .int .i64 oq, .int .i64 oi, .bool op, .int .i64 os_]) rfl (fun w2 hb => Rds.at_ (A := some ⟨go, 0, none⟩) Rds.blk (hS.below hb) 4 6 (by simp)) rfl) ?_
      (refine Reach.rwalk ?_; (repeat (first | ((with_reducible refine AllSt.mk ?_); (try clear hS); intro w hS) | ((with_reducible refine AllVw.mk ?_); intro V hV))))
      refine RgD.known0 (c := .int .i64 (absN ok : Nat)) rfl rfl rfl rfl (fun w2 hb1 => ?_) ?_
      · (with_reducible apply WpL.call); (· exact rfl); (· exact Try.call9); (· exact Vals.found)
        refine (abs_any f1 w2).mono ?_
        rintro x w3 ⟨rfl, rfl⟩
        exact ⟨_, rfl, WpL.nil ⟨⟨hb1, Below.refl _ _⟩, Env.set_same _ _ _⟩⟩
      (refine Reach.rwalk ?_; (repeat (first | ((with_reducible refine AllSt.mk ?_); (try clear hS); intro w hS) | ((with_reducible refine AllVw.mk ?_); intro V hV))))
      refine RgD.known0 (c := doneV or (rightZ (absN ok : Nat) oh 65536) (rightZ (absN ok : Nat) oq 65536) (rightZ (absN ok : Nat) oi 65536) op (rightZ (absN ok : Nat) os_ 32768)) rfl rfl rfl rfl (fun w2 hb1 => ?_) ?_
      · (with_reducible apply WpL.call); (· exact rfl); (· exact Try.call16); (· exact Vals.found)
        refine (right2_any f4 f5 f6 f7 (z := (absN ok : Nat)) (by omega) (St.start w2)).mono ?_
        rintro x w3 ⟨rfl, hS3⟩
        exact ⟨_, rfl, WpL.nil ⟨⟨hb1.on hS3.toBelow, hS3.toBelow⟩, Env.set_same _ _ _⟩⟩
      generalize rightZ (absN ok : Nat) oh 65536 = rh at *
      generalize rightZ (absN ok : Nat) oq 65536 = rq at *
      generalize rightZ (absN ok : Nat) oi 65536 = ri at *
      generalize rightZ (absN ok : Nat) os_ 32768 = rs at *
      (refine Reach.rwalk ?_; (repeat (first | ((with_reducible refine AllSt.mk ?_); (try clear hS); intro w hS) | ((with_reducible refine AllVw.mk ?_); intro V hV))))
      refine RgD.al rfl rfl rfl rfl ?_
      refine RgD.finAl hS ?_
      clear hS
      intro w gd hS
      (refine Reach.walk ?_; (repeat (first | ((with_reducible refine AllSt.mk ?_); (try clear hS); intro w hS) | ((with_reducible refine AllVw.mk ?_); intro V hV))))
      (with_reducible apply WpL.call); (· exact rfl); (· exact Try.call17); (· exact Vals.found)
      (replace hS := (hS.take (pre := [.blk gs _ _, .own A _ _ _ _ _]) Take.found); (try simp only [List.cons_append, List.nil_append] at hS))
      refine (post_any (m := m) (base := b) (d := d) (head := head) (n := n) (p := p) (result := or) (h := rh) (q := rq) (i := ri) (s := rs) (ph := op) hd hhd hn1 (by omega) (by omega) hl hbm hV f3 hS).mono ?_
      clear hS
      rintro x w (⟨h, rfl, hS⟩ | ⟨h, hfull, rfl, hS⟩ | ⟨h, hroom, rfl, hS⟩)
      · refine ⟨_, rfl, ?_⟩
        (refine Reach.walk ?_; (repeat (first | ((with_reducible refine AllSt.mk ?_); (try clear hS); intro w hS) | ((with_reducible refine AllVw.mk ?_); intro V hV))))
        (with_reducible apply WpL.call); (· exact rfl); (· exact Try.call18); (· exact Vals.found)
        (replace hS := (hS.take (pre := [.blk gr _ _]) Take.found); (try simp only [List.cons_append, List.nil_append] at hS))
        refine (refPost_any (d := d) (head := head) (n := n) (result := or) (h := rh) (q := rq) (i := ri) (s := rs) (p0 := op) hd hhd hn1 (.inr rfl) (by omega) f3 hS).mono ?_
        clear hS
        rintro x w (⟨_, rfl, hS⟩ | ⟨h2, _⟩ | ⟨h2, _⟩)
        rotate_left
        · exact absurd h2 h
        · exact absurd h2 h
        refine ⟨_, rfl, ?_⟩
        (refine Reach.walk ?_; (repeat (first | ((with_reducible refine AllSt.mk ?_); (try clear hS); intro w hS) | ((with_reducible refine AllVw.mk ?_); intro V hV))))
        refine WpL.copy (ys := []) (A := A2) (xs := bv mem) (zs := bv mem) hS rfl rfl rfl (by assumption) Swap.found (fun _ _ _ _ => ⟨.inl rfl, rfl⟩) (fun _ h => by cases h) (by omega) (by simp) (by simp [laid]) ?_
        clear hS
        intro w hS
        (refine Reach.walk ?_; (repeat (first | ((with_reducible refine AllSt.mk ?_); (try clear hS); intro w hS) | ((with_reducible refine AllVw.mk ?_); intro V hV))))
        exact ⟨mem, head, n, p, hl, hhd, hn1, by omega, hp2, hpm, hS.only Take.found, rfl, rfl, rfl, rfl, rfl, rfl, rfl, trivial⟩
      · refine ⟨_, rfl, ?_⟩
        (refine Reach.walk ?_; (repeat (first | ((with_reducible refine AllSt.mk ?_); (try clear hS); intro w hS) | ((with_reducible refine AllVw.mk ?_); intro V hV))))
        (with_reducible apply WpL.call); (· exact rfl); (· exact Try.call18); (· exact Vals.found)
        (replace hS := (hS.take (pre := [.blk gr _ _]) Take.found); (try simp only [List.cons_append, List.nil_append] at hS))
        refine (refPost_any (d := d) (head := head) (n := n) (result := or) (h := rh) (q := rq) (i := ri) (s := rs) (p0 := op) hd hhd hn1 (.inr rfl) (by omega) f3 hS).mono ?_
        clear hS
        rintro x w (⟨h2, _⟩ | ⟨_, _, rfl, hS⟩ | ⟨_, h2, _⟩)
        · exact absurd h h2
        rotate_left
        · omega
        refine ⟨_, rfl, ?_⟩
        (refine Reach.walk ?_; (repeat (first | ((with_reducible refine AllSt.mk ?_); (try clear hS); intro w hS) | ((with_reducible refine AllVw.mk ?_); intro V hV))))
        refine WpL.copy (ys := []) (A := A2) (xs := bv mem) (zs := bv mem) hS rfl rfl rfl (by assumption) Swap.found (fun _ _ _ _ => ⟨.inl rfl, rfl⟩) (fun _ h => by cases h) (by omega) (by simp) (by simp [laid]) ?_
        clear hS
        intro w hS
        (refine Reach.walk ?_; (repeat (first | ((with_reducible refine AllSt.mk ?_); (try clear hS); intro w hS) | ((with_reducible refine AllVw.mk ?_); intro V hV))))
        exact ⟨mem, head, n, p, hl, hhd, hn1, by omega, hp2, hpm, hS.only Take.found, rfl, rfl, rfl, rfl, rfl, rfl, rfl, trivial⟩
      · refine ⟨_, rfl, ?_⟩
        (refine Reach.walk ?_; (repeat (first | ((with_reducible refine AllSt.mk ?_); (try clear hS); intro w hS) | ((with_reducible refine AllVw.mk ?_); intro V hV))))
        (with_reducible apply WpL.call); (· exact rfl); (· exact Try.call18); (· exact Vals.found)
        (replace hS := (hS.take (pre := [.blk gr _ _]) Take.found); (try simp only [List.cons_append, List.nil_append] at hS))
        refine (refPost_any (d := d) (head := head) (n := n) (result := or) (h := rh) (q := rq) (i := ri) (s := rs) (p0 := op) hd hhd hn1 (.inr rfl) (by omega) f3 hS).mono ?_
        clear hS
        rintro x w (⟨h2, _⟩ | ⟨_, h2, _⟩ | ⟨_, _, A3, c3, rfl, hV3, hS⟩)
        · exact absurd h h2
        · omega
        refine ⟨_, rfl, ?_⟩
        have hbl : (Ent.doneBytes or rh.toNat rq.toNat ri.toNat rs.toNat (phB d p)).length = 16 := doneBytes_length _ _ _ _ _ _
        generalize Ent.doneBytes or rh.toNat rq.toNat ri.toNat rs.toNat (phB d p) = bs at *
        have hr : (head + n) % d < d := Nat.mod_lt _ (by omega)
        have hle : b + (head + n) % d * 16 + 16 ≤ m := by omega
        have hp3 : p + 1 ≤ 200 := by omega
        have hpm2 : (head + (n + 1)) % d = (p + 1) % d := by rw [mod_add_step, hpm, Nat.mod_add_mod]
        have hphe : (if (head + n) % d + 1 = d then !(phB d p) else phB d p) = phB d (p + 1) := by rw [phB_ref hd.1, hpm]
        rw [hphe] at hS
        generalize hq : b + (head + n) % d * 16 = q at *
        (refine Reach.walk ?_; (repeat (first | ((with_reducible refine AllSt.mk ?_); (try clear hS); intro w hS) | ((with_reducible refine AllVw.mk ?_); intro V hV))))
        refine WpL.copy (A := A2) (xs := bv mem) (zs := bv (Ent.over mem q bs)) hS rfl rfl rfl (by assumption) Swap.found RdsV.found (bv_one _) (by omega) (by simp; omega) (by rw [laid_bv, Nat.zero_add]) ?_
        clear hS
        intro w hS
        (refine Reach.walk ?_; (repeat (first | ((with_reducible refine AllSt.mk ?_); (try clear hS); intro w hS) | ((with_reducible refine AllVw.mk ?_); intro V hV))))
        exact ⟨Ent.over mem q bs, head, n + 1, p + 1, by rw [Ent.over_length (by omega)]; exact hl, hhd, hroom, by omega, hp3, hpm2, hS.only Take.found, rfl, rfl, rfl, rfl, rfl, rfl, rfl, trivial⟩
  · clear hS hl hhd hn1 hpm hp2 hpi
    rintro e w ⟨mem, head, n, p, hl, hhd, hn1, hpi, hp2, hpm, hS, he⟩
    obtain ⟨e0, rfl⟩ := he.eq
    clear he
    dsimp only [Env.sets]
    (refine Reach.walk ?_; (repeat (first | ((with_reducible refine AllSt.mk ?_); (try clear hS); intro w hS) | ((with_reducible refine AllVw.mk ?_); intro V hV))))
    (with_reducible apply WpL.call); (· exact rfl); (· exact Try.call21); (· exact Vals.found)
    refine (free_any (d := d) (n := n) Look.found Look.found hd.2 hn1 hS).mono ?_
    rintro x w3 ⟨rfl, hb2⟩
    refine ⟨_, rfl, ?_⟩
    replace hS := hS.below hb2
    clear hb2
    (refine Reach.walk ?_; (repeat (first | ((with_reducible refine AllSt.mk ?_); (try clear hS); intro w hS) | ((with_reducible refine AllVw.mk ?_); intro V hV))))
    (with_reducible apply WpL.call); (· exact rfl); (· exact Try.call22); (· exact Vals.found)
    refine (used_any (d := d) (head := head) (n := n) Look.found Look.found Look.found hd.2 hhd hn1 hS).mono ?_
    rintro x w3 ⟨rfl, hb2⟩
    refine ⟨_, rfl, ?_⟩
    replace hS := hS.below hb2
    clear hb2
    (refine Reach.walk ?_; (repeat (first | ((with_reducible refine AllSt.mk ?_); (try clear hS); intro w hS) | ((with_reducible refine AllVw.mk ?_); intro V hV))))
    exact ⟨hgo.1, mem, head, n, p, hl, hhd, hn1, hpi, hp2, hpm, hS, int_eq (by omega), rfl, rfl, rfl, rfl, rfl, rfl, trivial⟩
end Go.Proofs.Ytaengifldfgjcaa
