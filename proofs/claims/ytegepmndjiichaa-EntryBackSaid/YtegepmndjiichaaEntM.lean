/-
  EntryApart: the walk.
-/
import Derived.Test.YtegepmndjiichaaEntK
namespace Go.Proofs.Ytegepmndjiichaa
open Go.Fk Go.RowKit
attribute [local irreducible] Wp WpL Det thenQ blockQ

abbrev cmdC (op id space : Int) (addr lba : Nat) (count : Int) (force : Bool) : List Value := [.int .i64 op, .int .i64 id, .int .i64 space, .int .u64 addr, .int .u64 lba, .int .i64 count, .bool force]
abbrev doneC (result : Nat) (head queue id : Int) (phase : Bool) (status : Int) : List Value := [.int .u32 result, .int .i64 head, .int .i64 queue, .int .i64 id, .bool phase, .int .i64 status]
theorem apartCmd {op id space count op' id' space' count' : Int} {addr lba addr' lba' : Nat} {force force' : Bool} (ha : addr < 18446744073709551616) (hl : lba < 18446744073709551616) (ha' : addr' < 18446744073709551616) (hl' : lba' < 18446744073709551616)
    (h1 : Ent.cmdOk op id space count) (h2 : Ent.cmdOk op' id' space' count') :
    eqCells (cmdC op id space addr lba count force) (cmdC op' id' space' addr' lba' count' force') = decide (cmdL op id space addr lba count force = cmdL op' id' space' addr' lba' count' force') := by
  rw [Bool.eq_iff_iff]
  simp only [decide_eq_true_eq]
  constructor
  · intro h
    simp only [eqCells, eqCell, Bool.and_eq_true, beq_iff_eq, and_true] at h
    obtain ⟨rfl, rfl, rfl, h4, h5, rfl, rfl⟩ := h
    rw [show addr = addr' by omega, show lba = lba' by omega]
  · intro h
    obtain ⟨rfl, rfl, rfl, rfl, rfl, rfl, rfl⟩ := cmd_inj ha hl ha' hl' h1 h2 h
    simp [eqCells, eqCell]
theorem apartDone {result result' : Nat} {head queue id status head' queue' id' status' : Int} {phase phase' : Bool} (h0 : result < 4294967296) (h0' : result' < 4294967296) (h1 : Ent.doneOk head queue id status) (h2 : Ent.doneOk head' queue' id' status') :
    eqCells (doneC result head queue id phase status) (doneC result' head' queue' id' phase' status') = decide (doneL result head queue id phase status = doneL result' head' queue' id' phase' status') := by
  rw [Bool.eq_iff_iff]
  simp only [decide_eq_true_eq]
  constructor
  · intro h
    simp only [eqCells, eqCell, Bool.and_eq_true, beq_iff_eq, and_true] at h
    obtain ⟨h4, rfl, rfl, rfl, rfl, rfl⟩ := h
    rw [show result = result' by omega]
  · intro h
    obtain ⟨rfl, rfl, rfl, rfl, rfl, rfl⟩ := done_inj h0 h0' h1 h2 h
    simp [eqCells, eqCell]

theorem entryApart_any (op id space count : Int) (addr lba : Nat) (force : Bool) (ha : addr < 18446744073709551616) (hl : lba < 18446744073709551616) (hcnt : -9223372036854775808 ≤ count ∧ count ≤ 9223372036854775807)
    (op' id' space' count' : Int) (addr' lba' : Nat) (force' : Bool) (ha' : addr' < 18446744073709551616) (hl' : lba' < 18446744073709551616) (hcnt' : -9223372036854775808 ≤ count' ∧ count' ≤ 9223372036854775807)
    (result : Nat) (head queue did status : Int) (phase : Bool) (hres : result < 4294967296) (result' : Nat) (head' queue' did' status' : Int) (phase' : Bool) (hres' : result' < 4294967296) (W : World) :
    Calls Try.prog 5 #[cmdV op id space addr lba count force, cmdV op' id' space' addr' lba' count' force', doneV result head queue did phase status, doneV result' head' queue' did' phase' status'] W fun x w' => x = .returned (.bool true) ∧ Below W.heap.size W w' := by
  have hS := St.start W
  (refine calls_of (P := Try.prog) _ Try.func5 rfl Try.ntmps5 (Nat.le_of_ble_eq_true rfl) ?_; dsimp only [argE, Nat.reduceAdd])
  (refine Reach.walk ?_; (repeat (first | ((with_reducible refine AllSt.mk ?_); (try clear hS); intro w hS) | ((with_reducible refine AllVw.mk ?_); intro V hV))))
  ((with_reducible apply WpL.bx); (· assumption); (· exact rfl); (· exact Env.found); (· exact rfl); clear hS)
  intro gc w hS
  (refine Reach.walk ?_; (repeat (first | ((with_reducible refine AllSt.mk ?_); (try clear hS); intro w hS) | ((with_reducible refine AllVw.mk ?_); intro V hV))))
  ((with_reducible apply WpL.bx); (· assumption); (· exact rfl); (· exact Env.found); (· exact rfl); clear hS)
  intro gc' w hS
  (refine Reach.walk ?_; (repeat (first | ((with_reducible refine AllSt.mk ?_); (try clear hS); intro w hS) | ((with_reducible refine AllVw.mk ?_); intro V hV))))
  ((with_reducible apply WpL.bx); (· assumption); (· exact rfl); (· exact Env.found); (· exact rfl); clear hS)
  intro gd w hS
  (refine Reach.walk ?_; (repeat (first | ((with_reducible refine AllSt.mk ?_); (try clear hS); intro w hS) | ((with_reducible refine AllVw.mk ?_); intro V hV))))
  ((with_reducible apply WpL.bx); (· assumption); (· exact rfl); (· exact Env.found); (· exact rfl); clear hS)
  intro gd' w hS
  (refine Reach.walk ?_; (repeat (first | ((with_reducible refine AllSt.mk ?_); (try clear hS); intro w hS) | ((with_reducible refine AllVw.mk ?_); intro V hV))))
  (with_reducible apply WpL.call); (· exact rfl); (· exact Try.call8); (· exact Vals.found)
  refine (awake_any w).mono ?_
  rintro x w ⟨rfl, hb⟩
  refine ⟨_, rfl, ?_⟩
  replace hS := hS.below hb
  clear hb
  (refine Reach.walk ?_; (repeat (first | ((with_reducible refine AllSt.mk ?_); (try clear hS); intro w hS) | ((with_reducible refine AllVw.mk ?_); intro V hV))))
  (with_reducible apply WpL.call); (· exact rfl); (· exact Try.call13); (· exact Vals.found)
  refine (bytesS op id space count addr lba force ha hl hcnt hS).mono ?_
  clear hS
  rintro x w ⟨A1, c1, rfl, hV1, hS⟩
  refine ⟨_, rfl, ?_⟩
  (refine Reach.walk ?_; (repeat (first | ((with_reducible refine AllSt.mk ?_); (try clear hS); intro w hS) | ((with_reducible refine AllVw.mk ?_); intro V hV))))
  (with_reducible apply WpL.call); (· exact rfl); (· exact Try.call13); (· exact Vals.found)
  refine (bytesS op' id' space' count' addr' lba' force' ha' hl' hcnt' hS).mono ?_
  clear hS
  rintro x w ⟨A2, c2, rfl, hV2, hS⟩
  refine ⟨_, rfl, ?_⟩
  (refine Reach.walk ?_; (repeat (first | ((with_reducible refine AllSt.mk ?_); (try clear hS); intro w hS) | ((with_reducible refine AllVw.mk ?_); intro V hV))))
  refine Wp.cut (fun e' w' => St W (feet []) w' [.blk gd' 32 (doneC result' head' queue' did' phase' status'), .blk gd 32 (doneC result head queue did phase status)] ∧
      e'.Has [(47, .bool false), (6, .pointer (some ⟨gd, 0, none⟩)), (7, .pointer (some ⟨gd', 0, none⟩))]) ?_ ?_
  · by_cases h1 : Ent.cmdOk op id space count
    rotate_left
    · have e1 : cmdE op id space count = 1 := if_neg h1
      rw [e1]
      (repeat (with_reducible apply Wp.seq))
      (refine Wp.drawD 17 (by kernel_rfl) (by kernel_rfl) rfl ?_; dsimp only [List.take, List.drop])
      (refine Reach.rwalk ?_; (repeat (first | ((with_reducible refine AllSt.mk ?_); (try clear hS); intro w hS) | ((with_reducible refine AllVw.mk ?_); intro V hV))))
      (refine RgD.fin0 fun w hb => ?_; replace hS := hS.below hb; clear hb)
      (refine Reach.walk ?_; (repeat (first | ((with_reducible refine AllSt.mk ?_); (try clear hS); intro w hS) | ((with_reducible refine AllVw.mk ?_); intro V hV))))
      exact ⟨hS.only Take.found, rfl, rfl, rfl, trivial⟩
    by_cases h2 : Ent.cmdOk op' id' space' count'
    rotate_left
    · have e1 : cmdE op id space count = 0 := if_pos h1
      have e2 : cmdE op' id' space' count' = 1 := if_neg h2
      rw [e1, e2]
      (repeat (with_reducible apply Wp.seq))
      (refine Wp.drawD 17 (by kernel_rfl) (by kernel_rfl) rfl ?_; dsimp only [List.take, List.drop])
      (refine Reach.rwalk ?_; (repeat (first | ((with_reducible refine AllSt.mk ?_); (try clear hS); intro w hS) | ((with_reducible refine AllVw.mk ?_); intro V hV))))
      (refine RgD.fin0 fun w hb => ?_; replace hS := hS.below hb; clear hb)
      (refine Reach.walk ?_; (repeat (first | ((with_reducible refine AllSt.mk ?_); (try clear hS); intro w hS) | ((with_reducible refine AllVw.mk ?_); intro V hV))))
      exact ⟨hS.only Take.found, rfl, rfl, rfl, trivial⟩
    have e1 : cmdE op id space count = 0 := if_pos h1
    have e2 : cmdE op' id' space' count' = 0 := if_pos h2
    have el1 := cmdL_length op id space addr lba count force
    have el2 := cmdL_length op' id' space' addr' lba' count' force'
    have heq := apartCmd (force := force) (force' := force') ha hl ha' hl' h1 h2
    rw [if_pos h1] at hV1 hS el1
    rw [if_pos h2] at hV2 hS el2
    rw [e1, e2, if_pos h1, if_pos h2]
    generalize cmdL op id space addr lba count force = l1 at *
    generalize cmdL op' id' space' addr' lba' count' force' = l2 at *
    (repeat (with_reducible apply Wp.seq))
    (refine Wp.drawD 17 (by kernel_rfl) (by kernel_rfl) rfl ?_; dsimp only [List.take, List.drop])
    (refine Reach.rwalk ?_; (repeat (first | ((with_reducible refine AllSt.mk ?_); (try clear hS); intro w hS) | ((with_reducible refine AllVw.mk ?_); intro V hV))))
    refine RgD.det rfl rfl rfl rfl (Det.eqlRow rfl rfl (fit_cmd _ _ _ _ _ _ _) (fit_cmd _ _ _ _ _ _ _)) ?_
    rw [heq]
    (refine Reach.rwalk ?_; (repeat (first | ((with_reducible refine AllSt.mk ?_); (try clear hS); intro w hS) | ((with_reducible refine AllVw.mk ?_); intro V hV))))
    (refine RgD.fin0 fun w hb => ?_; replace hS := hS.below hb; clear hb)
    (refine Reach.walk ?_; (repeat (first | ((with_reducible refine AllSt.mk ?_); (try clear hS); intro w hS) | ((with_reducible refine AllVw.mk ?_); intro V hV))))
    exact ⟨hS.only Take.found, bool_eq (by simp), rfl, rfl, trivial⟩
  clear hS hV1 hV2
  rintro e w ⟨hS, he⟩
  obtain ⟨e0, rfl⟩ := he.eq
  clear he
  dsimp only [Env.sets]
  (refine Reach.walk ?_; (repeat (first | ((with_reducible refine AllSt.mk ?_); (try clear hS); intro w hS) | ((with_reducible refine AllVw.mk ?_); intro V hV))))
  (with_reducible apply WpL.call); (· exact rfl); (· exact Try.call15); (· exact Vals.found)
  refine (postedS result head queue did status phase hres hS).mono ?_
  clear hS
  rintro x w ⟨A3, c3, rfl, hV3, hS⟩
  refine ⟨_, rfl, ?_⟩
  (refine Reach.walk ?_; (repeat (first | ((with_reducible refine AllSt.mk ?_); (try clear hS); intro w hS) | ((with_reducible refine AllVw.mk ?_); intro V hV))))
  (with_reducible apply WpL.call); (· exact rfl); (· exact Try.call15); (· exact Vals.found)
  refine (postedS result' head' queue' did' status' phase' hres' hS).mono ?_
  clear hS
  rintro x w ⟨A4, c4, rfl, hV4, hS⟩
  refine ⟨_, rfl, ?_⟩
  by_cases h1 : Ent.doneOk head queue did status
  rotate_left
  · have e1 : doneE head queue did status = 1 := if_neg h1
    rw [e1]
    (refine Reach.walk ?_; (repeat (first | ((with_reducible refine AllSt.mk ?_); (try clear hS); intro w hS) | ((with_reducible refine AllVw.mk ?_); intro V hV))))
    (refine Wp.drawD 18 (by kernel_rfl) (by kernel_rfl) rfl ?_; dsimp only [List.take, List.drop])
    (refine Reach.rwalk ?_; (repeat (first | ((with_reducible refine AllSt.mk ?_); (try clear hS); intro w hS) | ((with_reducible refine AllVw.mk ?_); intro V hV))))
    (refine RgD.fin0 fun w hb => ?_; replace hS := hS.below hb; clear hb)
    (refine Reach.walk ?_; (repeat (first | ((with_reducible refine AllSt.mk ?_); (try clear hS); intro w hS) | ((with_reducible refine AllVw.mk ?_); intro V hV))))
    (with_reducible apply doneQ_one Try.results5); (· exact slotFound)
    exact ⟨rfl, hS.toBelow⟩
  by_cases h2 : Ent.doneOk head' queue' did' status'
  rotate_left
  · have e1 : doneE head queue did status = 0 := if_pos h1
    have e2 : doneE head' queue' did' status' = 1 := if_neg h2
    rw [e1, e2]
    (refine Reach.walk ?_; (repeat (first | ((with_reducible refine AllSt.mk ?_); (try clear hS); intro w hS) | ((with_reducible refine AllVw.mk ?_); intro V hV))))
    (refine Wp.drawD 18 (by kernel_rfl) (by kernel_rfl) rfl ?_; dsimp only [List.take, List.drop])
    (refine Reach.rwalk ?_; (repeat (first | ((with_reducible refine AllSt.mk ?_); (try clear hS); intro w hS) | ((with_reducible refine AllVw.mk ?_); intro V hV))))
    (refine RgD.fin0 fun w hb => ?_; replace hS := hS.below hb; clear hb)
    (refine Reach.walk ?_; (repeat (first | ((with_reducible refine AllSt.mk ?_); (try clear hS); intro w hS) | ((with_reducible refine AllVw.mk ?_); intro V hV))))
    (with_reducible apply doneQ_one Try.results5); (· exact slotFound)
    exact ⟨rfl, hS.toBelow⟩
  have e1 : doneE head queue did status = 0 := if_pos h1
  have e2 : doneE head' queue' did' status' = 0 := if_pos h2
  have el1 := doneL_length result head queue did phase status
  have el2 := doneL_length result' head' queue' did' phase' status'
  have heq := apartDone (phase := phase) (phase' := phase') hres hres' h1 h2
  rw [if_pos h1] at hV3 hS el1
  rw [if_pos h2] at hV4 hS el2
  rw [e1, e2, if_pos h1, if_pos h2]
  generalize doneL result head queue did phase status = l1 at *
  generalize doneL result' head' queue' did' phase' status' = l2 at *
  (refine Reach.walk ?_; (repeat (first | ((with_reducible refine AllSt.mk ?_); (try clear hS); intro w hS) | ((with_reducible refine AllVw.mk ?_); intro V hV))))
  (refine Wp.drawD 18 (by kernel_rfl) (by kernel_rfl) rfl ?_; dsimp only [List.take, List.drop])
  (refine Reach.rwalk ?_; (repeat (first | ((with_reducible refine AllSt.mk ?_); (try clear hS); intro w hS) | ((with_reducible refine AllVw.mk ?_); intro V hV))))
  refine RgD.det rfl rfl rfl rfl (Det.eqlRow rfl rfl (fit_done _ _ _ _ _ _) (fit_done _ _ _ _ _ _)) ?_
  rw [heq]
  (refine Reach.rwalk ?_; (repeat (first | ((with_reducible refine AllSt.mk ?_); (try clear hS); intro w hS) | ((with_reducible refine AllVw.mk ?_); intro V hV))))
  (refine RgD.fin0 fun w hb => ?_; replace hS := hS.below hb; clear hb)
  (refine Reach.walk ?_; (repeat (first | ((with_reducible refine AllSt.mk ?_); (try clear hS); intro w hS) | ((with_reducible refine AllVw.mk ?_); intro V hV))))
  (with_reducible apply doneQ_one Try.results5); (· exact slotFound)
  exact ⟨by simp, hS.toBelow⟩
end Go.Proofs.Ytegepmndjiichaa
