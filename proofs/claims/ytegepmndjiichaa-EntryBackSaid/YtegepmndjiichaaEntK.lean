/-
  EntryWrites, EntryApart: walks.
-/
import Derived.Test.YtegepmndjiichaaEntJ
namespace Go.Proofs.Ytegepmndjiichaa
open Go.Fk Go.RowKit
attribute [local irreducible] Wp WpL Det thenQ blockQ

theorem bool_eq {a b : Bool} (h : a = b) : Value.bool a = Value.bool b := by rw [h]
theorem entryWrites_any (op id space count : Int) (addr lba : Nat) (force : Bool) (ha : addr < 18446744073709551616) (hl : lba < 18446744073709551616) (hcnt : -9223372036854775808 ≤ count ∧ count ≤ 9223372036854775807)
    (result : Nat) (head queue did status : Int) (phase : Bool) (hres : result < 4294967296) (W : World) :
    Calls Try.prog 4 #[cmdV op id space addr lba count force, doneV result head queue did phase status] W fun x w' => x = .returned (.bool true) ∧ Below W.heap.size W w' := by
  have hS := St.start W
  (refine calls_of (P := Try.prog) _ Try.func4 rfl Try.ntmps4 (Nat.le_of_ble_eq_true rfl) ?_; dsimp only [argE, Nat.reduceAdd])
  (refine Reach.walk ?_; (repeat (first | ((with_reducible refine AllSt.mk ?_); (try clear hS); intro w hS) | ((with_reducible refine AllVw.mk ?_); intro V hV))))
  ((with_reducible apply WpL.bx); (· assumption); (· exact rfl); (· exact Env.found); (· exact rfl); clear hS)
  intro gc w hS
  (refine Reach.walk ?_; (repeat (first | ((with_reducible refine AllSt.mk ?_); (try clear hS); intro w hS) | ((with_reducible refine AllVw.mk ?_); intro V hV))))
  ((with_reducible apply WpL.bx); (· assumption); (· exact rfl); (· exact Env.found); (· exact rfl); clear hS)
  intro gd w hS
  (refine Reach.walk ?_; (repeat (first | ((with_reducible refine AllSt.mk ?_); (try clear hS); intro w hS) | ((with_reducible refine AllVw.mk ?_); intro V hV))))
  (with_reducible apply WpL.call); (· exact rfl); (· exact Try.call8); (· exact Vals.found)
  refine (awake_any w).mono ?_
  rintro x w ⟨rfl, hb⟩
  refine ⟨_, rfl, ?_⟩
  replace hS := hS.below hb
  clear hb
  (refine Reach.walk ?_; (repeat (first | ((with_reducible refine AllSt.mk ?_); (try clear hS); intro w hS) | ((with_reducible refine AllVw.mk ?_); intro V hV))))
  (with_reducible apply WpL.call); (· exact rfl); (· exact Try.call13); (· exact Vals.found)
  refine (bytesS op id space count addr lba force ha hl hcnt hS).mono ?_
  clear hS
  rintro x w ⟨A1, c1, rfl, hV1, hS⟩
  refine ⟨_, rfl, ?_⟩
  (refine Reach.walk ?_; (repeat (first | ((with_reducible refine AllSt.mk ?_); (try clear hS); intro w hS) | ((with_reducible refine AllVw.mk ?_); intro V hV))))
  (with_reducible apply WpL.call); (· exact rfl); (· exact Try.call14); (· exact Vals.found)
  refine (refBytesS op id space count addr lba force ha hl hcnt hS).mono ?_
  clear hS
  rintro x w ⟨A2, c2, rfl, hV2, hS⟩
  refine ⟨_, rfl, ?_⟩
  have el := cmdL_length op id space addr lba count force
  generalize cmdL op id space addr lba count force = lc at *
  generalize (if Ent.cmdOk op id space count then 64 else 0) = nc at *
  generalize cmdE op id space count = ec at *
  (refine Reach.walk ?_; (repeat (first | ((with_reducible refine AllSt.mk ?_); (try clear hS); intro w hS) | ((with_reducible refine AllVw.mk ?_); intro V hV))))
  (with_reducible apply WpL.call); (· exact rfl); (· exact Try.call15); (· exact Vals.found)
  refine (postedS result head queue did status phase hres hS).mono ?_
  clear hS
  rintro x w ⟨A3, c3, rfl, hV3, hS⟩
  refine ⟨_, rfl, ?_⟩
  (refine Reach.walk ?_; (repeat (first | ((with_reducible refine AllSt.mk ?_); (try clear hS); intro w hS) | ((with_reducible refine AllVw.mk ?_); intro V hV))))
  (with_reducible apply WpL.call); (· exact rfl); (· exact Try.call16); (· exact Vals.found)
  refine (refPostedS result head queue did status phase hres hS).mono ?_
  clear hS
  rintro x w ⟨A4, c4, rfl, hV4, hS⟩
  refine ⟨_, rfl, ?_⟩
  have el2 := doneL_length result head queue did phase status
  generalize doneL result head queue did phase status = ld at *
  generalize (if Ent.doneOk head queue did status then 16 else 0) = nd at *
  generalize doneE head queue did status = ed at *
  (refine Reach.walk ?_; (repeat (first | ((with_reducible refine AllSt.mk ?_); (try clear hS); intro w hS) | ((with_reducible refine AllVw.mk ?_); intro V hV))))
  (with_reducible apply doneQ_one Try.results4); (· exact slotFound)
  exact ⟨by simp, hS.toBelow⟩

/-- Alike are the commands whose bytes are alike. -/
theorem cmd_inj {op id space count op' id' space' count' : Int} {addr lba addr' lba' : Nat} {force force' : Bool} (ha : addr < 18446744073709551616) (hl : lba < 18446744073709551616) (ha' : addr' < 18446744073709551616) (hl' : lba' < 18446744073709551616)
    (h1 : Ent.cmdOk op id space count) (h2 : Ent.cmdOk op' id' space' count') (h : cmdL op id space addr lba count force = cmdL op' id' space' addr' lba' count' force') :
    op = op' ∧ id = id' ∧ space = space' ∧ addr = addr' ∧ lba = lba' ∧ count = count' ∧ force = force' := by
  rw [cmdL, if_pos h1, cmdL, if_pos h2] at h
  obtain ⟨⟨a1, a2⟩, ⟨a3, a4⟩, ⟨a5, a6⟩, a7, a8⟩ := h1
  obtain ⟨⟨b1, b2⟩, ⟨b3, b4⟩, ⟨b5, b6⟩, b7, b8⟩ := h2
  have e1 := cmdOf_bytes (op := op.toNat) (id := id.toNat) (space := space.toNat) (cnt := (count - 1).toNat) force (by omega) (by omega) (by omega) (by omega) ha hl
  have e2 := cmdOf_bytes (op := op'.toNat) (id := id'.toNat) (space := space'.toNat) (cnt := (count' - 1).toNat) force' (by omega) (by omega) (by omega) (by omega) ha' hl'
  rw [h, e2] at e1
  simp only [Value.agg.injEq, Array.mk.injEq, List.cons.injEq, Value.int.injEq, Value.bool.injEq, true_and, and_true] at e1
  obtain ⟨g1, g2, g3, g4, g5, g6, g7⟩ := e1
  exact ⟨by omega, by omega, by omega, by omega, by omega, by omega, g7.symm⟩
theorem done_inj {result result' : Nat} {head queue id status head' queue' id' status' : Int} {phase phase' : Bool} (h0 : result < 4294967296) (h0' : result' < 4294967296) (h1 : Ent.doneOk head queue id status) (h2 : Ent.doneOk head' queue' id' status')
    (h : doneL result head queue id phase status = doneL result' head' queue' id' phase' status') : result = result' ∧ head = head' ∧ queue = queue' ∧ id = id' ∧ phase = phase' ∧ status = status' := by
  rw [doneL, if_pos h1, doneL, if_pos h2] at h
  obtain ⟨⟨a1, a2⟩, ⟨a3, a4⟩, ⟨a5, a6⟩, a7, a8⟩ := h1
  obtain ⟨⟨b1, b2⟩, ⟨b3, b4⟩, ⟨b5, b6⟩, b7, b8⟩ := h2
  have e1 := doneOf_bytes (result := result) (head := head.toNat) (queue := queue.toNat) (id := id.toNat) (status := status.toNat) phase h0 (by omega) (by omega) (by omega) (by omega)
  have e2 := doneOf_bytes (result := result') (head := head'.toNat) (queue := queue'.toNat) (id := id'.toNat) (status := status'.toNat) phase' h0' (by omega) (by omega) (by omega) (by omega)
  rw [h, e2] at e1
  simp only [Value.agg.injEq, Array.mk.injEq, List.cons.injEq, Value.int.injEq, Value.bool.injEq, true_and, and_true] at e1
  obtain ⟨g1, g2, g3, g4, g5, g6⟩ := e1
  exact ⟨by omega, by omega, by omega, by omega, g5.symm, by omega⟩
end Go.Proofs.Ytegepmndjiichaa
