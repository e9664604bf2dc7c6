/-
  RingBells: the walk.
-/
import Derived.Test.YtaengifldfgjcaaRngG
namespace Go.Proofs.Ytaengifldfgjcaa
open Go.Fk Go.RowKit
attribute [local irreducible] Wp WpL Det thenQ blockQ
theorem ahead0 {d : Nat} {t : Int} (h : 0 ≤ t ∧ t < d) : ahead d 0 t = t.toNat := by rw [ahead_eq (by omega) h, if_pos (Nat.zero_le _)]; omega
theorem bellOk_iff {d n : Nat} (hn : n < d) (t : Int) : bellOk d 0 n t ↔ (n : Int) ≤ t ∧ t < d := by
  unfold bellOk
  rw [Nat.zero_add, Nat.mod_eq_of_lt hn]
  constructor
  · rintro ⟨h, h2⟩
    rw [ahead_eq hn h] at h2
    split at h2 <;> omega
  · intro h
    have h' : 0 ≤ t ∧ t < d := by omega
    refine ⟨h', ?_⟩
    rw [ahead_eq hn h', if_pos (by omega)]
    omega
theorem headOk_iff {d n : Nat} (hn : n < d) (t : Int) : headOk d 0 n t ↔ 0 ≤ t ∧ t ≤ n := by
  unfold headOk
  constructor
  · rintro ⟨h, h2⟩
    rw [ahead0 h] at h2
    omega
  · intro h
    have h' : 0 ≤ t ∧ t < d := by omega
    refine ⟨h', ?_⟩
    rw [ahead0 h']
    omega

set_option maxHeartbeats 4000000 in
theorem ringBells_any {depth ah tail head : Int} (hd : -9223372036854775808 ≤ depth ∧ depth ≤ 9223372036854775807) (ha : -9223372036854775808 ≤ ah ∧ ah ≤ 9223372036854775807) (W : World) :
    Calls Try.prog 7 #[.int .i64 depth, .int .i64 ah, .int .i64 tail, .int .i64 head] W fun x w' => x = .returned (.bool true) ∧ Below W.heap.size W w' := by
  have hS := St.start W
  (refine calls_of (P := Try.prog) _ Try.func7 rfl Try.ntmps7 (Nat.le_of_ble_eq_true rfl) ?_; dsimp only [argE, Nat.reduceAdd])
  (refine Reach.walk ?_; (repeat (first | ((with_reducible refine AllSt.mk ?_); (try clear hS); intro w hS) | ((with_reducible refine AllVw.mk ?_); intro V hV))))
  (with_reducible apply WpL.call); (· exact rfl); (· exact Try.call8); (· exact Vals.found)
  refine (awake_any W).mono ?_
  rintro x w ⟨rfl, hb⟩
  refine ⟨_, rfl, ?_⟩
  replace hS := hS.below hb
  clear hb
  (refine Reach.walk ?_; (repeat (first | ((with_reducible refine AllSt.mk ?_); (try clear hS); intro w hS) | ((with_reducible refine AllVw.mk ?_); intro V hV))))
  (with_reducible apply WpL.call); (· exact rfl); (· exact Try.call9); (· exact Vals.found)
  refine (abs_any hd w).mono ?_
  rintro x w1 ⟨rfl, rfl⟩
  refine ⟨_, rfl, ?_⟩
  have hdm : absN depth % 20 < 20 := Nat.mod_lt _ (by decide)
  have had := absN_le hd
  (refine Reach.walk ?_; (repeat (first | ((with_reducible refine AllSt.mk ?_); (try clear hS); intro w hS) | ((with_reducible refine AllVw.mk ?_); intro V hV))))
  have h2d : 2 ≤ 2 + absN depth % 20 ∧ 2 + absN depth % 20 ≤ 21 := by omega
  generalize 2 + absN depth % 20 = d at *
  clear hdm had
  refine WpL.mk1 (bytes := 1) (n := 80 * d) (z := .int .u8 0) hS rfl rfl rfl rfl rfl rfl (by omega) (by omega) ?_
  clear hS
  intro A w hV hS
  rw [replicate_bv] at hS
  have hl : (List.replicate (80 * d) (0 : UInt8)).length = 80 * d := List.length_replicate
  generalize List.replicate (80 * d) (0 : UInt8) = m0 at *
  (refine Reach.walk ?_; (repeat (first | ((with_reducible refine AllSt.mk ?_); (try clear hS); intro w hS) | ((with_reducible refine AllVw.mk ?_); intro V hV))))
  (with_reducible apply WpL.call); (· exact rfl); (· exact Try.call10); (· exact Vals.found)
  refine (newSub_any (m := 80 * d) (base := 0) (d := (d : Int)) (by omega) hS).mono ?_
  clear hS
  rintro x w (⟨hf, gs, rfl, hS⟩ | ⟨hf, _⟩)
  rotate_left
  · exact absurd (by unfold fineR; omega) hf
  clear hf
  refine ⟨_, rfl, ?_⟩
  rw [show (0 : Int).toNat = 0 from rfl, Int.toNat_natCast] at hS
  (refine Reach.walk ?_; (repeat (first | ((with_reducible refine AllSt.mk ?_); (try clear hS); intro w hS) | ((with_reducible refine AllVw.mk ?_); intro V hV))))
  (with_reducible apply WpL.call); (· exact rfl); (· exact Try.call14); (· exact Vals.found)
  refine (newComp_any (m := 80 * d) (base := ((64 * d : Nat) : Int)) (d := (d : Int)) (by omega) hS).mono ?_
  clear hS
  rintro x w (⟨hf, gc, rfl, hS⟩ | ⟨hf, _⟩)
  rotate_left
  · exact absurd (by unfold fineR; omega) hf
  clear hf
  refine ⟨_, rfl, ?_⟩
  rw [Int.toNat_natCast, Int.toNat_natCast] at hS
  (refine Reach.walk ?_; (repeat (first | ((with_reducible refine AllSt.mk ?_); (try clear hS); intro w hS) | ((with_reducible refine AllVw.mk ?_); intro V hV))))
  (with_reducible apply WpL.call); (· exact rfl); (· exact Try.call9); (· exact Vals.found)
  refine (abs_any ha w).mono ?_
  rintro x w1 ⟨rfl, rfl⟩
  refine ⟨_, rfl, ?_⟩
  have had := absN_le ha
  have hnd : absN ah % d < d := Nat.mod_lt _ (by omega)
  (refine Reach.walk ?_; (repeat (first | ((with_reducible refine AllSt.mk ?_); (try clear hS); intro w hS) | ((with_reducible refine AllVw.mk ?_); intro V hV))))
  generalize absN ah % d = n at *
  clear had
  (with_reducible apply WpL.call); (· exact rfl); (· exact Try.call11); (· exact Vals.found)
  (replace hS := (hS.take (pre := [.blk gs _ _]) Take.found); (try simp only [List.cons_append, List.nil_append] at hS))
  refine (subBell_any (d := d) (head := 0) (n := 0) (by omega) (by omega) (by omega) hS).mono ?_
  clear hS
  rintro x w (⟨_, rfl, hS⟩ | ⟨hf, _⟩)
  rotate_left
  · exact absurd ((bellOk_iff (by omega) _).2 (by omega)) hf
  refine ⟨_, rfl, ?_⟩
  rw [Nat.add_zero, Nat.zero_mod, ahead0 (by omega), Int.toNat_natCast, Nat.zero_add] at hS
  (refine Reach.walk ?_; (repeat (first | ((with_reducible refine AllSt.mk ?_); (try clear hS); intro w hS) | ((with_reducible refine AllVw.mk ?_); intro V hV))))
  (replace hS := (hS.take (pre := [.blk gc _ _, .own A _ _ _ _ _, .blk gs _ _]) Take.found); (try simp only [List.cons_append, List.nil_append] at hS))
  apply Wp.loopUp n (fun k e w' => ∃ mem, mem.length = 80 * d ∧ St W (feet []) w' (.blk gc 69 (compC A (80 * d) (80 * d) (64 * d) d 16 0 k k) :: .own A (80 * d) (80 * d) 5 1 (bv mem) :: .blk gs 63 (loopC A (80 * d) (80 * d) 0 d 64 0 n) :: []) ∧
      e.Has [(17, .int .i64 (k : Nat)), (0, .int .i64 (d : Nat)), (2, .int .i64 tail), (3, .int .i64 head), (11, .pointer (some ⟨gs, 0, none⟩)), (13, .pointer (some ⟨gc, 0, none⟩)), (15, .int .i64 (n : Nat)), (16, .int .i64 0)]) (Nat.zero_le n)
    ⟨_, hl, hS, rfl, rfl, rfl, rfl, rfl, rfl, rfl, rfl, trivial⟩
  clear hS hl
  rintro k e w hk ⟨mem, hl, hS, he⟩
  obtain ⟨e0, rfl⟩ := he.eq
  clear he
  dsimp only [Env.sets]
  by_cases hlt : k < n
  · (refine Reach.walk ?_; (repeat (first | ((with_reducible refine AllSt.mk ?_); (try clear hS); intro w hS) | ((with_reducible refine AllVw.mk ?_); intro V hV))))
    refine WpL.det rfl (Det.build (cells := [.int .u32 ((0 : Nat) : Int), .int .i64 0, .int .i64 0, .int .i64 (k : Nat), .bool false, .int .i64 0]) PVals.found rfl) ?_
    (refine Reach.walk ?_; (repeat (first | ((with_reducible refine AllSt.mk ?_); (try clear hS); intro w hS) | ((with_reducible refine AllVw.mk ?_); intro V hV))))
    (with_reducible apply WpL.call); (· exact rfl); (· exact Try.call17); (· exact Vals.found)
    refine (post_any (m := 80 * d) (base := 64 * d) (d := d) (head := 0) (n := k) (p := k) (result := 0) (h := 0) (q := 0) (i := (k : Nat)) (s := 0) (ph := false) (by omega) (by omega) (by omega) (by omega) (by omega) hl (by omega) hV (by omega) hS).mono ?_
    clear hS
    have hdk : Ent.doneOk 0 0 (k : Int) 0 := by unfold Ent.doneOk; omega
    rintro x w (⟨h, _⟩ | ⟨_, h, _⟩ | ⟨_, _, rfl, hS⟩)
    · exact absurd hdk h
    · omega
    refine ⟨_, rfl, ?_⟩
    have hbs : (Ent.doneBytes 0 (0 : Int).toNat (0 : Int).toNat (k : Int).toNat (0 : Int).toNat (phB d k)).length = 16 := doneBytes_length _ _ _ _ _ _
    have hkd : (0 + k) % d = k := by rw [Nat.zero_add]; exact Nat.mod_eq_of_lt (by omega)
    (refine Reach.walk ?_; (repeat (first | ((with_reducible refine AllSt.mk ?_); (try clear hS); intro w hS) | ((with_reducible refine AllVw.mk ?_); intro V hV))))
    refine ⟨hlt, _, ?_, hS, int_eq (by omega), rfl, rfl, rfl, rfl, rfl, rfl, rfl, trivial⟩
    rw [Ent.over_length (by rw [hkd]; omega)]; exact hl
  obtain rfl : k = n := by omega
  (refine Reach.walk ?_; (repeat (first | ((with_reducible refine AllSt.mk ?_); (try clear hS); intro w hS) | ((with_reducible refine AllVw.mk ?_); intro V hV))))
  (with_reducible apply WpL.call); (· exact rfl); (· exact Try.call12); (· exact Vals.found)
  refine (waiting_any (n := k) Look.found hS).mono ?_
  rintro x w1 ⟨rfl, rfl⟩
  refine ⟨_, rfl, ?_⟩
  (refine Reach.walk ?_; (repeat (first | ((with_reducible refine AllSt.mk ?_); (try clear hS); intro w hS) | ((with_reducible refine AllVw.mk ?_); intro V hV))))
  (with_reducible apply WpL.call); (· exact rfl); (· exact Try.call21); (· exact Vals.found)
  refine (free_any (d := d) (n := k) Look.found Look.found (by omega) hnd hS).mono ?_
  rintro x w1 ⟨rfl, hb⟩
  refine ⟨_, rfl, ?_⟩
  replace hS := hS.below hb
  clear hb
  (refine Reach.walk ?_; (repeat (first | ((with_reducible refine AllSt.mk ?_); (try clear hS); intro w hS) | ((with_reducible refine AllVw.mk ?_); intro V hV))))
  (with_reducible apply WpL.call); (· exact rfl); (· exact Try.call11); (· exact Vals.found)
  (replace hS := (hS.take (pre := [.blk gs _ _, .blk gc _ _]) Take.found); (try simp only [List.cons_append, List.nil_append] at hS))
  have hp1 : ((d - 1 - k : Nat) : Int) = (d : Int) - 1 - (k : Int) := by omega
  refine (subBell_any (d := d) (head := 0) (n := k) (t := tail) (by omega) (by omega) (by omega) hS).mono ?_
  clear hS
  intro x w hx
  obtain ⟨r1, n1, hx1, hS, hr1⟩ : ∃ (r1 : Int) (n1 : Nat), x = .returned (.int .i64 r1) ∧ St W (feet []) w (.blk gs 63 (loopC A (80 * d) (80 * d) 0 d 64 0 n1) :: .blk gc 69 (compC A (80 * d) (80 * d) (64 * d) d 16 0 k k) :: [.own A (80 * d) (80 * d) 5 1 (bv mem)]) ∧ ((r1 = 0 ∧ (k : Int) ≤ tail ∧ tail < d) ∨ (r1 = 170 ∧ ¬ ((k : Int) ≤ tail ∧ tail < d) ∧ n1 = k)) := by
    rcases hx with ⟨h, h1, h2⟩ | ⟨h, h1, h2⟩
    · exact ⟨_, _, h1, h2, .inl ⟨rfl, (bellOk_iff (by omega) _).1 h⟩⟩
    · exact ⟨_, _, h1, h2, .inr ⟨rfl, fun h3 => h ((bellOk_iff (by omega) _).2 h3), rfl⟩⟩
  subst hx1
  clear hx
  refine ⟨_, rfl, ?_⟩
  (refine Reach.walk ?_; (repeat (first | ((with_reducible refine AllSt.mk ?_); (try clear hS); intro w hS) | ((with_reducible refine AllVw.mk ?_); intro V hV))))
  (with_reducible apply WpL.call); (· exact rfl); (· exact Try.call19); (· exact Vals.found)
  (replace hS := (hS.take (pre := [.blk gc _ _, .blk gs _ _]) Take.found); (try simp only [List.cons_append, List.nil_append] at hS))
  refine (compBell_any (d := d) (head := 0) (n := k) (t := head) (by omega) (by omega) (by omega) hS).mono ?_
  clear hS
  intro x w hx
  obtain ⟨r2, h2, n2, hx1, hS, hr2⟩ : ∃ (r2 : Int) (h2 n2 : Nat), x = .returned (.int .i64 r2) ∧ St W (feet []) w (.blk gc 69 (compC A (80 * d) (80 * d) (64 * d) d 16 h2 n2 k) :: .blk gs 63 (loopC A (80 * d) (80 * d) 0 d 64 0 n1) :: [.own A (80 * d) (80 * d) 5 1 (bv mem)]) ∧ ((r2 = 0 ∧ 0 ≤ head ∧ head ≤ k) ∨ (r2 = 170 ∧ ¬ (0 ≤ head ∧ head ≤ k) ∧ n2 = k)) := by
    rcases hx with ⟨h, h1, h2⟩ | ⟨h, h1, h2⟩
    · exact ⟨_, _, _, h1, h2, .inl ⟨rfl, (headOk_iff (by omega) _).1 h⟩⟩
    · exact ⟨_, _, _, h1, h2, .inr ⟨rfl, fun h3 => h ((headOk_iff (by omega) _).2 h3), rfl⟩⟩
  subst hx1
  clear hx
  refine ⟨_, rfl, ?_⟩
  (refine Reach.walk ?_; (repeat (first | ((with_reducible refine AllSt.mk ?_); (try clear hS); intro w hS) | ((with_reducible refine AllVw.mk ?_); intro V hV))))
  refine WpL.cut (fun e' w' => St W (feet []) w' (.blk gc 69 (compC A (80 * d) (80 * d) (64 * d) d 16 h2 n2 k) :: .blk gs 63 (loopC A (80 * d) (80 * d) 0 d 64 0 n1) :: [.own A (80 * d) (80 * d) 5 1 (bv mem)]) ∧
      e'.Has [(118, .bool false), (0, .int .i64 (d : Nat)), (2, .int .i64 tail), (3, .int .i64 head), (13, .pointer (some ⟨gc, 0, none⟩)), (15, .int .i64 (k : Nat)), (19, .int .i64 ((d - 1 - k : Nat) : Int)), (20, .int .i64 r1), (21, .int .i64 r2)]) ?_ ?_
  · rcases hr1 with ⟨rfl, h3, h4⟩ | ⟨rfl, h3, rfl⟩
    · (refine Reach.walk ?_; (repeat (first | ((with_reducible refine AllSt.mk ?_); (try clear hS); intro w hS) | ((with_reducible refine AllVw.mk ?_); intro V hV))))
      exact ⟨hS, rfl, rfl, rfl, rfl, rfl, rfl, rfl, rfl, rfl, trivial⟩
    · (refine Reach.walk ?_; (repeat (first | ((with_reducible refine AllSt.mk ?_); (try clear hS); intro w hS) | ((with_reducible refine AllVw.mk ?_); intro V hV))))
      (with_reducible apply WpL.call); (· exact rfl); (· exact Try.call12); (· exact Vals.found)
      refine (waiting_any (n := n1) Look.found hS).mono ?_
      rintro x w1 ⟨rfl, rfl⟩
      refine ⟨_, rfl, ?_⟩
      (refine Reach.walk ?_; (repeat (first | ((with_reducible refine AllSt.mk ?_); (try clear hS); intro w hS) | ((with_reducible refine AllVw.mk ?_); intro V hV))))
      (with_reducible apply WpL.call); (· exact rfl); (· exact Try.call26); (· exact Vals.found)
      refine (head_any (n := 0) Look.found hS).mono ?_
      rintro x w1 ⟨rfl, rfl⟩
      refine ⟨_, rfl, ?_⟩
      (refine Reach.walk ?_; (repeat (first | ((with_reducible refine AllSt.mk ?_); (try clear hS); intro w hS) | ((with_reducible refine AllVw.mk ?_); intro V hV))))
      exact ⟨hS, boolV (decide_eq_false (fun h => h rfl)), rfl, rfl, rfl, rfl, rfl, rfl, rfl, rfl, trivial⟩
  clear hS
  rintro e w ⟨hS, he⟩
  obtain ⟨e0, rfl⟩ := he.eq
  clear he
  dsimp only [Env.sets]
  (refine Reach.walk ?_; (repeat (first | ((with_reducible refine AllSt.mk ?_); (try clear hS); intro w hS) | ((with_reducible refine AllVw.mk ?_); intro V hV))))
  refine WpL.cut (fun e' w' => St W (feet []) w' [.own A (80 * d) (80 * d) 5 1 (bv mem)] ∧
      e'.Has [(130, .bool false), (0, .int .i64 (d : Nat)), (2, .int .i64 tail), (3, .int .i64 head), (15, .int .i64 (k : Nat)), (20, .int .i64 r1), (21, .int .i64 r2)]) ?_ ?_
  · rcases hr2 with ⟨rfl, h3, h4⟩ | ⟨rfl, h3, rfl⟩
    · (refine Reach.walk ?_; (repeat (first | ((with_reducible refine AllSt.mk ?_); (try clear hS); intro w hS) | ((with_reducible refine AllVw.mk ?_); intro V hV))))
      exact ⟨hS.tail.tail, rfl, rfl, rfl, rfl, rfl, rfl, rfl, trivial⟩
    · (refine Reach.walk ?_; (repeat (first | ((with_reducible refine AllSt.mk ?_); (try clear hS); intro w hS) | ((with_reducible refine AllVw.mk ?_); intro V hV))))
      (with_reducible apply WpL.call); (· exact rfl); (· exact Try.call21); (· exact Vals.found)
      refine (free_any (d := d) (n := n2) Look.found Look.found (by omega) hnd hS).mono ?_
      rintro x w1 ⟨rfl, hb⟩
      refine ⟨_, rfl, ?_⟩
      replace hS := hS.below hb
      clear hb
      (refine Reach.walk ?_; (repeat (first | ((with_reducible refine AllSt.mk ?_); (try clear hS); intro w hS) | ((with_reducible refine AllVw.mk ?_); intro V hV))))
      exact ⟨hS.tail.tail, boolV (decide_eq_false (fun h => h rfl)), rfl, rfl, rfl, rfl, rfl, rfl, trivial⟩
  clear hS
  rintro e w ⟨hS, he⟩
  obtain ⟨e0, rfl⟩ := he.eq
  clear he
  dsimp only [Env.sets]
  have c1 : (r1 = 0 ∧ (k : Int) ≤ tail ∧ tail < d) ∨ (r1 = 170 ∧ (k : Int) ≤ tail ∧ ¬ tail < d) ∨ (r1 = 170 ∧ ¬ (k : Int) ≤ tail) := by omega
  have c2 : (r2 = 0 ∧ 0 ≤ head ∧ head ≤ k) ∨ (r2 = 170 ∧ 0 ≤ head ∧ ¬ head ≤ k) ∨ (r2 = 170 ∧ ¬ 0 ≤ head) := by omega
  clear hr1 hr2
  have done : ∀ b1 b2 : Bool, b1 = b2 → (b1 == b2) = true := fun b1 b2 h => by rw [h]; exact beq_self_eq_true _
  rcases c1 with ⟨rfl, h3, h4⟩ | ⟨rfl, h3, h4⟩ | ⟨rfl, h3⟩
  · have q1 : (decide ((0 : Int) = 0) == decide (tail < (d : Int))) = true := done _ _ (by rw [decide_eq_true h4]; rfl)
    rcases c2 with ⟨rfl, h5, h6⟩ | ⟨rfl, h5, h6⟩ | ⟨rfl, h5⟩
    · have q2 : (decide ((0 : Int) = 0) == decide (head ≤ (k : Int))) = true := done _ _ (by rw [decide_eq_true h6]; rfl)
      (refine Reach.walk ?_; (repeat (first | ((with_reducible refine AllSt.mk ?_); (try clear hS); intro w hS) | ((with_reducible refine AllVw.mk ?_); intro V hV))))
      (with_reducible apply doneQ_one Try.results7); (· exact slotFound)
      exact ⟨by rw [q2], hS.toBelow⟩
    · have q2 : (decide ((170 : Int) = 0) == decide (head ≤ (k : Int))) = true := done _ _ (by rw [decide_eq_false h6]; rfl)
      (refine Reach.walk ?_; (repeat (first | ((with_reducible refine AllSt.mk ?_); (try clear hS); intro w hS) | ((with_reducible refine AllVw.mk ?_); intro V hV))))
      (with_reducible apply doneQ_one Try.results7); (· exact slotFound)
      exact ⟨by rw [q2], hS.toBelow⟩
    · (refine Reach.walk ?_; (repeat (first | ((with_reducible refine AllSt.mk ?_); (try clear hS); intro w hS) | ((with_reducible refine AllVw.mk ?_); intro V hV))))
      (with_reducible apply doneQ_one Try.results7); (· exact slotFound)
      exact ⟨rfl, hS.toBelow⟩
  · have q1 : (decide ((170 : Int) = 0) == decide (tail < (d : Int))) = true := done _ _ (by rw [decide_eq_false h4]; rfl)
    rcases c2 with ⟨rfl, h5, h6⟩ | ⟨rfl, h5, h6⟩ | ⟨rfl, h5⟩
    · have q2 : (decide ((0 : Int) = 0) == decide (head ≤ (k : Int))) = true := done _ _ (by rw [decide_eq_true h6]; rfl)
      (refine Reach.walk ?_; (repeat (first | ((with_reducible refine AllSt.mk ?_); (try clear hS); intro w hS) | ((with_reducible refine AllVw.mk ?_); intro V hV))))
      (with_reducible apply doneQ_one Try.results7); (· exact slotFound)
      exact ⟨by rw [q2], hS.toBelow⟩
    · have q2 : (decide ((170 : Int) = 0) == decide (head ≤ (k : Int))) = true := done _ _ (by rw [decide_eq_false h6]; rfl)
      (refine Reach.walk ?_; (repeat (first | ((with_reducible refine AllSt.mk ?_); (try clear hS); intro w hS) | ((with_reducible refine AllVw.mk ?_); intro V hV))))
      (with_reducible apply doneQ_one Try.results7); (· exact slotFound)
      exact ⟨by rw [q2], hS.toBelow⟩
    · (refine Reach.walk ?_; (repeat (first | ((with_reducible refine AllSt.mk ?_); (try clear hS); intro w hS) | ((with_reducible refine AllVw.mk ?_); intro V hV))))
      (with_reducible apply doneQ_one Try.results7); (· exact slotFound)
      exact ⟨rfl, hS.toBelow⟩
  · rcases c2 with ⟨rfl, h5, h6⟩ | ⟨rfl, h5, h6⟩ | ⟨rfl, h5⟩
    · have q2 : (decide ((0 : Int) = 0) == decide (head ≤ (k : Int))) = true := done _ _ (by rw [decide_eq_true h6]; rfl)
      (refine Reach.walk ?_; (repeat (first | ((with_reducible refine AllSt.mk ?_); (try clear hS); intro w hS) | ((with_reducible refine AllVw.mk ?_); intro V hV))))
      (with_reducible apply doneQ_one Try.results7); (· exact slotFound)
      exact ⟨by rw [q2], hS.toBelow⟩
    · have q2 : (decide ((170 : Int) = 0) == decide (head ≤ (k : Int))) = true := done _ _ (by rw [decide_eq_false h6]; rfl)
      (refine Reach.walk ?_; (repeat (first | ((with_reducible refine AllSt.mk ?_); (try clear hS); intro w hS) | ((with_reducible refine AllVw.mk ?_); intro V hV))))
      (with_reducible apply doneQ_one Try.results7); (· exact slotFound)
      exact ⟨by rw [q2], hS.toBelow⟩
    · (refine Reach.walk ?_; (repeat (first | ((with_reducible refine AllSt.mk ?_); (try clear hS); intro w hS) | ((with_reducible refine AllVw.mk ?_); intro V hV))))
      (with_reducible apply doneQ_one Try.results7); (· exact slotFound)
      exact ⟨rfl, hS.toBelow⟩
end Go.Proofs.Ytaengifldfgjcaa
