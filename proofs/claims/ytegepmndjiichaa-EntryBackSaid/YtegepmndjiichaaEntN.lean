/-
  EntryBack: the walk.
-/
import Derived.Test.YtegepmndjiichaaEntM
namespace Go.Proofs.Ytegepmndjiichaa
open Go.Fk Go.RowKit
attribute [local irreducible] Wp WpL Det thenQ blockQ
theorem cmdOf_set {l : List UInt8} {i : Nat} (h : i < 8) (b : UInt8) : cmdOf (l.set (8 + 2 * i) b) = cmdOf l := by
  unfold cmdOf
  rw [byteAt_set_off (by omega), Ent.rd_set_off (by omega), Ent.rd_set_off (by omega), Ent.rd_set_off (by omega), Ent.rd_set_off (by omega), Ent.rd_set_off (by omega), byteAt_set_off (by omega)]
theorem doneOf_set {l : List UInt8} {i : Nat} (h : i < 4) (b : UInt8) : doneOf (l.set (4 + i) b) = doneOf l := by
  unfold doneOf
  rw [Ent.rd_set_off (by omega), Ent.rd_set_off (by omega), Ent.rd_set_off (by omega), Ent.rd_set_off (by omega), Ent.rd_set_off (by omega)]
theorem cmdOf_L {op id space count : Int} {addr lba : Nat} {force : Bool} (ha : addr < 18446744073709551616) (hl : lba < 18446744073709551616) (h1 : Ent.cmdOk op id space count) : cmdOf (cmdL op id space addr lba count force) = cmdV op id space addr lba count force := by
  rw [cmdL, if_pos h1]
  obtain ⟨⟨a1, a2⟩, ⟨a3, a4⟩, ⟨a5, a6⟩, a7, a8⟩ := h1
  have e1 := cmdOf_bytes (op := op.toNat) (id := id.toNat) (space := space.toNat) (cnt := (count - 1).toNat) force (by omega) (by omega) (by omega) (by omega) ha hl
  rw [e1, show ((op.toNat : Nat) : Int) = op by omega, show ((id.toNat : Nat) : Int) = id by omega, show ((space.toNat : Nat) : Int) = space by omega, show (((count - 1).toNat + 1 : Nat) : Int) = count by omega]
theorem doneOf_L {result : Nat} {head queue id status : Int} {phase : Bool} (h0 : result < 4294967296) (h1 : Ent.doneOk head queue id status) : doneOf (doneL result head queue id phase status) = doneV result head queue id phase status := by
  rw [doneL, if_pos h1]
  obtain ⟨⟨a1, a2⟩, ⟨a3, a4⟩, ⟨a5, a6⟩, a7, a8⟩ := h1
  have e1 := doneOf_bytes (result := result) (head := head.toNat) (queue := queue.toNat) (id := id.toNat) (status := status.toNat) phase h0 (by omega) (by omega) (by omega) (by omega)
  rw [e1, show ((head.toNat : Nat) : Int) = head by omega, show ((queue.toNat : Nat) : Int) = queue by omega, show ((id.toNat : Nat) : Int) = id by omega, show ((status.toNat : Nat) : Int) = status by omega]
theorem eqCmd_self (op id space count : Int) (addr lba : Nat) (force : Bool) : eqCells (cmdC op id space addr lba count force) (cmdC op id space addr lba count force) = true := by simp [eqCells, eqCell]
theorem eqDone_self (result : Nat) (head queue id status : Int) (phase : Bool) : eqCells (doneC result head queue id phase status) (doneC result head queue id phase status) = true := by simp [eqCells, eqCell]

theorem entryBack_any (op id space count : Int) (addr lba : Nat) (force : Bool) (ha : addr < 18446744073709551616) (hl : lba < 18446744073709551616) (hcnt : -9223372036854775808 ≤ count ∧ count ≤ 9223372036854775807)
    (result : Nat) (head queue did status : Int) (phase : Bool) (hres : result < 4294967296) (A : Option Addr) (l : List UInt8) (n c : Nat) (hn : l.length = n) (hV : IsVw A n c A 0) (hlen : n ≤ 140737488355328) (W : World) (hr : Rd W A (bv l)) :
    Calls Try.prog 7 #[cmdV op id space addr lba count force, doneV result head queue did phase status, .slice A n c] W fun x w' => x = .returned (.bool true) ∧ Below W.heap.size W w' := by
  have hS := (St.start W).startRo hr
  clear hr
  (refine calls_of (P := Try.prog) _ Try.func7 rfl Try.ntmps7 (Nat.le_of_ble_eq_true rfl) ?_; dsimp only [argE, Nat.reduceAdd])
  (refine Reach.walk ?_; (repeat (first | ((with_reducible refine AllSt.mk ?_); (try clear hS); intro w hS) | ((with_reducible refine AllVw.mk ?_); intro V hV))))
  ((with_reducible apply WpL.bx); (· assumption); (· exact rfl); (· exact Env.found); (· exact rfl); clear hS)
  intro gc w hS
  (refine Reach.walk ?_; (repeat (first | ((with_reducible refine AllSt.mk ?_); (try clear hS); intro w hS) | ((with_reducible refine AllVw.mk ?_); intro V hV))))
  ((with_reducible apply WpL.bx); (· assumption); (· exact rfl); (· exact Env.found); (· exact rfl); clear hS)
  intro gd w hS
  (refine Reach.walk ?_; (repeat (first | ((with_reducible refine AllSt.mk ?_); (try clear hS); intro w hS) | ((with_reducible refine AllVw.mk ?_); intro V hV))))
  (with_reducible apply WpL.call); (· exact rfl); (· exact Try.call8); (· exact Vals.found)
  refine (awake_any w).mono ?_
  rintro x w ⟨rfl, hb⟩
  refine ⟨_, rfl, ?_⟩
  replace hS := hS.below hb
  clear hb
  (refine Reach.walk ?_; (repeat (first | ((with_reducible refine AllSt.mk ?_); (try clear hS); intro w hS) | ((with_reducible refine AllVw.mk ?_); intro V hV))))
  (with_reducible apply WpL.call); (· exact rfl); (· exact Try.call13); (· exact Vals.found)
  refine (bytesS op id space count addr lba force ha hl hcnt hS).mono ?_
  clear hS
  rintro x w ⟨A1, c1, rfl, hV1, hS⟩
  refine ⟨_, rfl, ?_⟩
  (refine Reach.walk ?_; (repeat (first | ((with_reducible refine AllSt.mk ?_); (try clear hS); intro w hS) | ((with_reducible refine AllVw.mk ?_); intro V hV))))
  (with_reducible apply WpL.call); (· exact rfl); (· exact Try.call15); (· exact Vals.found)
  refine (postedS result head queue did status phase hres hS).mono ?_
  clear hS
  rintro x w ⟨A2, c2, rfl, hV2, hS⟩
  refine ⟨_, rfl, ?_⟩
  (refine Reach.walk ?_; (repeat (first | ((with_reducible refine AllSt.mk ?_); (try clear hS); intro w hS) | ((with_reducible refine AllVw.mk ?_); intro V hV))))
  refine Wp.cut (fun e' w' => St W (feet []) w' [.own A2 (if Ent.doneOk head queue did status then 16 else 0) c2 5 1 (bv (doneL result head queue did phase status)), .blk gd 32 (doneC result head queue did phase status), .ro A (bv l)] ∧
      e'.Has [(10, .slice A2 (if Ent.doneOk head queue did status then 16 else 0) c2), (11, .int .i64 (doneE head queue did status)), (2, .slice A n c), (4, .pointer (some ⟨gd, 0, none⟩))]) ?_ ?_
  · by_cases h1 : Ent.cmdOk op id space count
    rotate_left
    · have e1 : cmdE op id space count = 1 := if_neg h1
      rw [e1]
      (refine Reach.walk ?_; (repeat (first | ((with_reducible refine AllSt.mk ?_); (try clear hS); intro w hS) | ((with_reducible refine AllVw.mk ?_); intro V hV))))
      exact ⟨hS.only Take.found, rfl, rfl, rfl, rfl, trivial⟩
    have e1 : cmdE op id space count = 0 := if_pos h1
    have el1 := cmdL_length op id space addr lba count force
    have ec := cmdOf_L (force := force) ha hl h1
    rw [if_pos h1] at hV1 hS el1
    rw [e1, if_pos h1]
    (refine Reach.walk ?_; (repeat (first | ((with_reducible refine AllSt.mk ?_); (try clear hS); intro w hS) | ((with_reducible refine AllVw.mk ?_); intro V hV))))
    apply Wp.loopUp 8 (fun i e w' => ∃ cs, cs.length = 64 ∧ cmdOf cs = cmdV op id space addr lba count force ∧ St W (feet []) w' [.own A1 64 c1 5 1 (bv cs), .own A2 (if Ent.doneOk head queue did status then 16 else 0) c2 5 1 (bv (doneL result head queue did phase status)), .blk gd 32 (doneC result head queue did phase status),
        .blk gc 26 (cmdC op id space addr lba count force), .ro A (bv l)] ∧
        e.Has [(12, .int .i64 (i : Nat)), (8, .slice A1 64 c1), (3, .pointer (some ⟨gc, 0, none⟩)), (10, .slice A2 (if Ent.doneOk head queue did status then 16 else 0) c2), (11, .int .i64 (doneE head queue did status)), (2, .slice A n c), (4, .pointer (some ⟨gd, 0, none⟩))]) (Nat.zero_le 8)
      ⟨_, el1, ec, hS.only Take.found, rfl, rfl, rfl, rfl, rfl, rfl, rfl, trivial⟩
    clear hS ec el1
    rintro i e w hi ⟨cs, el1, ec, hS, he⟩
    obtain ⟨e0, rfl⟩ := he.eq
    clear he
    dsimp only [Env.sets]
    (repeat (with_reducible apply Wp.seq))
    refine Wp.cut (fun e' w' => w' = w ∧ e'.Has [(43, .bool (decide (i < 8 ∧ i < n))), (12, .int .i64 (i : Nat)), (8, .slice A1 64 c1), (3, .pointer (some ⟨gc, 0, none⟩)), (10, .slice A2 (if Ent.doneOk head queue did status then 16 else 0) c2), (11, .int .i64 (doneE head queue did status)), (2, .slice A n c), (4, .pointer (some ⟨gd, 0, none⟩))]) ?_ ?_
    · have h : (¬ i < 8) ∨ (i < 8 ∧ ¬ i < n) ∨ (i < 8 ∧ i < n) := by omega
      rcases h with h1 | ⟨h1, h2⟩ | ⟨h1, h2⟩
      all_goals
        (refine Reach.walk ?_; (repeat (first | ((with_reducible refine AllSt.mk ?_); (try clear hS); intro w hS) | ((with_reducible refine AllVw.mk ?_); intro V hV))))
        exact ⟨rfl, bool_eq (by first | exact decide_eq_decide.2 (by omega) | exact (decide_eq_false (by omega)).symm | exact (decide_eq_true (by omega)).symm), rfl, rfl, rfl, rfl, rfl, rfl, rfl, trivial⟩
    rintro e w' ⟨rfl, he⟩
    obtain ⟨e0, rfl⟩ := he.eq
    clear he
    dsimp only [Env.sets]
    by_cases hgo : i < 8 ∧ i < n
    · have ⟨h1, h2⟩ := hgo
      (refine Reach.walk ?_; (repeat (first | ((with_reducible refine AllSt.mk ?_); (try clear hS); intro w hS) | ((with_reducible refine AllVw.mk ?_); intro V hV))))
      refine ⟨h1, _, ?_, ?_, hS, int_eq (by omega), rfl, rfl, rfl, rfl, rfl, rfl, trivial⟩
      · rw [List.length_set]; exact el1
      · rw [cmdOf_set h1]; exact ec
    · (refine Reach.walk ?_; (repeat (first | ((with_reducible refine AllSt.mk ?_); (try clear hS); intro w hS) | ((with_reducible refine AllVw.mk ?_); intro V hV))))
      (with_reducible apply WpL.call); (· exact rfl); (· exact Try.call9); (· exact Vals.found)
      refine (commandS el1 hV1.le (by decide) hS RdsV.found).mono ?_
      clear hS
      rintro x w ⟨rfl, hS⟩
      refine ⟨_, rfl, ?_⟩
      rw [cmdR, if_pos el1, ec]
      (refine Reach.walk ?_; (repeat (first | ((with_reducible refine AllSt.mk ?_); (try clear hS); intro w hS) | ((with_reducible refine AllVw.mk ?_); intro V hV))))
      ((with_reducible apply WpL.al); (· assumption); (· exact rfl); (· exact rfl); clear hS)
      intro gx w hS
      (refine Reach.walk ?_; (repeat (first | ((with_reducible refine AllSt.mk ?_); (try clear hS); intro w hS) | ((with_reducible refine AllVw.mk ?_); intro V hV))))
      refine WpL.det rfl (Det.neqRow rfl rfl (fit_cmd _ _ _ _ _ _ _) (fit_cmd _ _ _ _ _ _ _)) ?_
      rw [eqCmd_self]
      (refine Reach.walk ?_; (repeat (first | ((with_reducible refine AllSt.mk ?_); (try clear hS); intro w hS) | ((with_reducible refine AllVw.mk ?_); intro V hV))))
      exact ⟨hS.only Take.found, rfl, rfl, rfl, rfl, trivial⟩
  clear hS hV1
  rintro e w ⟨hS, he⟩
  obtain ⟨e0, rfl⟩ := he.eq
  clear he
  dsimp only [Env.sets]
  by_cases h1 : Ent.doneOk head queue did status
  rotate_left
  · have e1 : doneE head queue did status = 1 := if_neg h1
    rw [e1]
    (refine Reach.walk ?_; (repeat (first | ((with_reducible refine AllSt.mk ?_); (try clear hS); intro w hS) | ((with_reducible refine AllVw.mk ?_); intro V hV))))
    (with_reducible apply doneQ_one Try.results7); (· exact slotFound)
    exact ⟨rfl, hS.toBelow⟩
  have e1 : doneE head queue did status = 0 := if_pos h1
  have el1 := doneL_length result head queue did phase status
  have ec := doneOf_L (phase := phase) hres h1
  rw [if_pos h1] at hV2 hS el1
  rw [e1, if_pos h1]
  (refine Reach.walk ?_; (repeat (first | ((with_reducible refine AllSt.mk ?_); (try clear hS); intro w hS) | ((with_reducible refine AllVw.mk ?_); intro V hV))))
  apply Wp.loopUp 4 (fun i e w' => ∃ cs, cs.length = 16 ∧ doneOf cs = doneV result head queue did phase status ∧ St W (feet []) w' [.own A2 16 c2 5 1 (bv cs), .blk gd 32 (doneC result head queue did phase status), .ro A (bv l)] ∧
      e.Has [(15, .int .i64 (i : Nat)), (10, .slice A2 16 c2), (2, .slice A n c), (4, .pointer (some ⟨gd, 0, none⟩))]) (Nat.zero_le 4)
    ⟨_, el1, ec, hS, rfl, rfl, rfl, rfl, trivial⟩
  clear hS ec el1
  rintro i e w hi ⟨cs, el1, ec, hS, he⟩
  obtain ⟨e0, rfl⟩ := he.eq
  clear he
  dsimp only [Env.sets]
  (repeat (with_reducible apply Wp.seq))
  refine Wp.cut (fun e' w' => w' = w ∧ e'.Has [(79, .bool (decide (i < 4 ∧ i < n))), (15, .int .i64 (i : Nat)), (10, .slice A2 16 c2), (2, .slice A n c), (4, .pointer (some ⟨gd, 0, none⟩))]) ?_ ?_
  · have h : (¬ i < 4) ∨ (i < 4 ∧ ¬ i < n) ∨ (i < 4 ∧ i < n) := by omega
    rcases h with h1 | ⟨h1, h2⟩ | ⟨h1, h2⟩
    all_goals
      (refine Reach.walk ?_; (repeat (first | ((with_reducible refine AllSt.mk ?_); (try clear hS); intro w hS) | ((with_reducible refine AllVw.mk ?_); intro V hV))))
      exact ⟨rfl, bool_eq (by first | exact decide_eq_decide.2 (by omega) | exact (decide_eq_false (by omega)).symm | exact (decide_eq_true (by omega)).symm), rfl, rfl, rfl, rfl, trivial⟩
  rintro e w' ⟨rfl, he⟩
  obtain ⟨e0, rfl⟩ := he.eq
  clear he
  dsimp only [Env.sets]
  by_cases hgo : i < 4 ∧ i < n
  · have ⟨h1, h2⟩ := hgo
    (refine Reach.walk ?_; (repeat (first | ((with_reducible refine AllSt.mk ?_); (try clear hS); intro w hS) | ((with_reducible refine AllVw.mk ?_); intro V hV))))
    refine ⟨h1, _, ?_, ?_, hS, int_eq (by omega), rfl, rfl, rfl, trivial⟩
    · rw [List.length_set]; exact el1
    · rw [doneOf_set h1]; exact ec
  · (refine Reach.walk ?_; (repeat (first | ((with_reducible refine AllSt.mk ?_); (try clear hS); intro w hS) | ((with_reducible refine AllVw.mk ?_); intro V hV))))
    (with_reducible apply WpL.call); (· exact rfl); (· exact Try.call11); (· exact Vals.found)
    refine (doneS el1 hV2.le (by decide) hS RdsV.found).mono ?_
    clear hS
    rintro x w ⟨rfl, hS⟩
    refine ⟨_, rfl, ?_⟩
    rw [doneR, if_pos el1, ec]
    (refine Reach.walk ?_; (repeat (first | ((with_reducible refine AllSt.mk ?_); (try clear hS); intro w hS) | ((with_reducible refine AllVw.mk ?_); intro V hV))))
    ((with_reducible apply WpL.al); (· assumption); (· exact rfl); (· exact rfl); clear hS)
    intro gx w hS
    (refine Reach.walk ?_; (repeat (first | ((with_reducible refine AllSt.mk ?_); (try clear hS); intro w hS) | ((with_reducible refine AllVw.mk ?_); intro V hV))))
    refine WpL.det rfl (Det.neqRow rfl rfl (fit_done _ _ _ _ _ _) (fit_done _ _ _ _ _ _)) ?_
    rw [eqDone_self]
    (refine Reach.walk ?_; (repeat (first | ((with_reducible refine AllSt.mk ?_); (try clear hS); intro w hS) | ((with_reducible refine AllVw.mk ?_); intro V hV))))
    (with_reducible apply doneQ_one Try.results7); (· exact slotFound)
    exact ⟨rfl, hS.toBelow⟩
end Go.Proofs.Ytegepmndjiichaa
