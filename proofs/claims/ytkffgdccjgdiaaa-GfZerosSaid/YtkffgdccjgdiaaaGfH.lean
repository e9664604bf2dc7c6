/-
  sync.Once, one goroutine: what is handed to it is called once.
-/
import Derived.Test.YtkffgdccjgdiaaaIns
import Derived.Test.YtkffgdccjgdiaaaDf
import Derived.Laws.LoneSync
namespace Go.Proofs.Ytkffgdccjgdiaaa
open Go.Fk Go.RowKit
attribute [local irreducible] Wp WpL Det thenQ blockQ
instance : FieldT Try.prog 65 1 0 := ⟨by kernel_rfl⟩
instance : FieldT Try.prog 65 2 1 := ⟨by kernel_rfl⟩
instance : FieldT Try.prog 59 1 0 := ⟨by kernel_rfl⟩
instance : FieldT Try.prog 63 1 0 := ⟨by kernel_rfl⟩
instance : FieldT Try.prog 61 0 0 := ⟨by kernel_rfl⟩
instance : ExtF Try.prog 55 (Extern.Atomic.loadT (.int .u32)) := ⟨run_callFunc_extern Try.func55 (by kernel_rfl) (by kernel_rfl) (by kernel_rfl) (by kernel_rfl)⟩
instance : ExtF Try.prog 61 Extern.Atomic.storeT := ⟨run_callFunc_extern Try.func61 (by kernel_rfl) (by kernel_rfl) (by kernel_rfl) (by kernel_rfl)⟩
instance : ExtF Try.prog 64 (Extern.Atomic.casT (.int .i32)) := ⟨run_callFunc_extern Try.func64 (by kernel_rfl) (by kernel_rfl) (by kernel_rfl) (by kernel_rfl)⟩
instance : Cell1 Try.prog 21 := ⟨_, Try.underlying21, rfl⟩
instance : IntT Try.prog 21 .i32 := ⟨Try.underlying21⟩
theorem disable (w : World) : (callFunc 63 #[]).run Try.prog w = .ok (.value (.tuple #[])) w := run_call_mark0 Try.func63 (by kernel_rfl) (by kernel_rfl) (by kernel_rfl) .disable (by kernel_rfl) w
theorem enable (w : World) : (callFunc 65 #[]).run Try.prog w = .ok (.value (.tuple #[])) w := run_call_mark0 Try.func65 (by kernel_rfl) (by kernel_rfl) (by kernel_rfl) .enable (by kernel_rfl) w
theorem acquire (a : Addr) (w : World) : (callFunc 66 #[.pointer (some a)]).run Try.prog w = .ok (.value (.tuple #[])) w := run_call_marked Try.func66 (by kernel_rfl) (by kernel_rfl) (by kernel_rfl) .acquire (by kernel_rfl) a w
theorem releaseMerge (a : Addr) (w : World) : (callFunc 68 #[.pointer (some a)]).run Try.prog w = .ok (.value (.tuple #[])) w := run_call_marked Try.func68 (by kernel_rfl) (by kernel_rfl) (by kernel_rfl) .releaseMerge (by kernel_rfl) a w

/-- A pointer, as one that has no type. -/
theorem _root_.Go.Fk.WpL.unsafe_ {P : Program} {N : Nat} {ops : Array Oper} {K : Env → World → Prop} {rest : List Oper} {e : Env} {w w0 : World} {M : Nat → Prop} {L : List Ch} {ty : TypeId} {pos : String} {after : Array Edge} {d : Tmp} {x : Operand} {src dst t : TypeId} {a : Addr} {v : Value}
    (h1 : P.underlying src = some (.pointer t)) (h2 : P.underlying dst = some .unsafePointer) (h3 : (P.info? t).map (fun i => decide (i.size = 0)) = some false) (hS : St w0 M w L) (hd : dOk N (some d) = true) (hx : e.eval x = .pointer (some a)) (hl : Look L a v)
    (h : WpL P N ops K rest (e.set d (.pointer (some a))) w) : WpL P N ops K (⟨some d, .convert src dst x, ty, pos, after, none⟩ :: rest) e w := by
  refine WpL.run (v := .pointer (some a)) (w' := w) hd ?_ h
  simp [execOp, hx, run_convert_to_unsafe h1 h2 h3 (hl.cell hS)]

section
variable {w w0 : World} {M : Nat → Prop} {L L' : List Ch}
theorem lockI_any {g : Nat} (hS : St w0 M w L) (hl : Look L ⟨g, 2, none⟩ (.int .i32 0)) (hu : Upd L ⟨g, 2, none⟩ (.int .i32 1) L') (hl' : Look L' ⟨g, 2, none⟩ (.int .i32 1)) :
    Calls Try.prog 59 #[.pointer (some ⟨g, 2, none⟩)] w fun x w' => x = .returned (.tuple #[]) ∧ St w0 M w' L' := by
  (refine calls_of (P := Try.prog) _ Try.func59 rfl Try.ntmps59 (Nat.le_of_ble_eq_true rfl) ?_; dsimp only [argE, Nat.reduceAdd])
  (refine Reach.walk ?_; (repeat (first | ((with_reducible refine AllSt.mk ?_); (try clear hS); intro w hS) | ((with_reducible refine AllVw.mk ?_); intro V hV))))
  refine WpL.ext1 (l := []) (vs := []) rfl trivial (disable _) ?_
  (refine Reach.walk ?_; (repeat (first | ((with_reducible refine AllSt.mk ?_); (try clear hS); intro w hS) | ((with_reducible refine AllVw.mk ?_); intro V hV))))
  refine WpL.ext1 (l := []) (vs := []) rfl trivial (enable _) ?_
  (refine Reach.walk ?_; (repeat (first | ((with_reducible refine AllSt.mk ?_); (try clear hS); intro w hS) | ((with_reducible refine AllVw.mk ?_); intro V hV))))
  refine WpL.unsafe_ Try.underlying79 Try.underlying83 (by kernel_rfl) hS rfl rfl hl' ?_
  refine WpL.ext1 (l := [_]) (vs := [.pointer (some ⟨g, 2, none⟩)]) rfl ⟨rfl, trivial⟩ (acquire _ _) ?_
  (refine Reach.walk ?_; (repeat (first | ((with_reducible refine AllSt.mk ?_); (try clear hS); intro w hS) | ((with_reducible refine AllVw.mk ?_); intro V hV))))
  (try with_reducible apply doneQ_end); (with_reducible apply doneQ_none Try.results59)
  exact ⟨rfl, hS⟩
theorem lock_any {g : Nat} (hS : St w0 M w L) (hl : Look L ⟨g, 2, none⟩ (.int .i32 0)) (hu : Upd L ⟨g, 2, none⟩ (.int .i32 1) L') (hl' : Look L' ⟨g, 2, none⟩ (.int .i32 1)) :
    Calls Try.prog 56 #[.pointer (some ⟨g, 2, none⟩)] w fun x w' => x = .returned (.tuple #[]) ∧ St w0 M w' L' := by
  (refine calls_of (P := Try.prog) _ Try.func56 rfl Try.ntmps56 (Nat.le_of_ble_eq_true rfl) ?_; dsimp only [argE, Nat.reduceAdd])
  (refine Reach.walk ?_; (repeat (first | ((with_reducible refine AllSt.mk ?_); (try clear hS); intro w hS) | ((with_reducible refine AllVw.mk ?_); intro V hV))))
  (with_reducible apply WpL.call); (· exact rfl); (· exact Try.call59); (· exact Vals.found)
  refine (lockI_any hS hl hu hl').mono ?_
  clear hS
  rintro x w ⟨rfl, hS⟩
  refine ⟨_, rfl, ?_⟩
  (refine Reach.walk ?_; (repeat (first | ((with_reducible refine AllSt.mk ?_); (try clear hS); intro w hS) | ((with_reducible refine AllVw.mk ?_); intro V hV))))
  (try with_reducible apply doneQ_end); (with_reducible apply doneQ_none Try.results56)
  exact ⟨rfl, hS⟩
theorem unlockI_any {g : Nat} (hS : St w0 M w L) (hl : Look L ⟨g, 2, none⟩ (.int .i32 1)) (hu : Upd L ⟨g, 2, none⟩ (.int .i32 0) L') :
    Calls Try.prog 60 #[.pointer (some ⟨g, 2, none⟩)] w fun x w' => x = .returned (.tuple #[]) ∧ St w0 M w' L' := by
  (refine calls_of (P := Try.prog) _ Try.func60 rfl Try.ntmps60 (Nat.le_of_ble_eq_true rfl) ?_; dsimp only [argE, Nat.reduceAdd])
  (refine Reach.walk ?_; (repeat (first | ((with_reducible refine AllSt.mk ?_); (try clear hS); intro w hS) | ((with_reducible refine AllVw.mk ?_); intro V hV))))
  refine WpL.unsafe_ Try.underlying79 Try.underlying83 (by kernel_rfl) hS rfl rfl hl ?_
  refine WpL.ext1 (l := [_]) (vs := [.pointer (some ⟨g, 2, none⟩)]) rfl ⟨rfl, trivial⟩ (releaseMerge _ _) ?_
  (refine Reach.walk ?_; (repeat (first | ((with_reducible refine AllSt.mk ?_); (try clear hS); intro w hS) | ((with_reducible refine AllVw.mk ?_); intro V hV))))
  refine WpL.ext1 (l := []) (vs := []) rfl trivial (disable _) ?_
  (refine Reach.walk ?_; (repeat (first | ((with_reducible refine AllSt.mk ?_); (try clear hS); intro w hS) | ((with_reducible refine AllVw.mk ?_); intro V hV))))
  obtain ⟨⟨_, hf, _⟩, hS'⟩ := hu.run rfl hS
  refine WpL.ext1 (l := [_, _]) (vs := [.pointer (some ⟨g, 2, none⟩), .int .i32 (-1)]) rfl ⟨rfl, rfl, trivial⟩ (run_call_add Try.func69 (by kernel_rfl) (by kernel_rfl) (by kernel_rfl) .i32 (by kernel_rfl) (y := -1) (s := 0) (hl.cell hS) hf (by simp [go_sem]; rfl)) ?_
  clear hS
  replace hS := hS'
  (refine Reach.walk ?_; (repeat (first | ((with_reducible refine AllSt.mk ?_); (try clear hS); intro w hS) | ((with_reducible refine AllVw.mk ?_); intro V hV))))
  refine WpL.ext1 (l := []) (vs := []) rfl trivial (enable _) ?_
  (refine Reach.walk ?_; (repeat (first | ((with_reducible refine AllSt.mk ?_); (try clear hS); intro w hS) | ((with_reducible refine AllVw.mk ?_); intro V hV))))
  (try with_reducible apply doneQ_end); (with_reducible apply doneQ_none Try.results60)
  exact ⟨rfl, hS⟩
/-- The lock is let go, as a deferred call. -/
theorem unlockD_any {g : Nat} {u : FrameMode} (hS : St w0 M w L) (hl : Look L ⟨g, 2, none⟩ (.int .i32 1)) (hu : Upd L ⟨g, 2, none⟩ (.int .i32 0) L') :
    CallsD Try.prog 57 #[.pointer (some ⟨g, 2, none⟩)] u w fun e u' w' => u' = u ∧ (e = .returned (.tuple #[]) ∧ St w0 M w' L') := by
  (refine callsD_of (P := Try.prog) _ Try.func57 rfl Try.ntmps57 (Nat.le_of_ble_eq_true rfl) ?_; dsimp only [argE, Nat.reduceAdd])
  (refine Reach.walk ?_; (repeat (first | ((with_reducible refine AllSt.mk ?_); (try clear hS); intro w hS) | ((with_reducible refine AllVw.mk ?_); intro V hV))))
  (with_reducible apply WpL.call); (· exact rfl); (· exact Try.call60); (· exact Vals.found)
  refine (unlockI_any hS hl hu).mono ?_
  clear hS
  rintro x w ⟨rfl, hS⟩
  refine ⟨_, rfl, ?_⟩
  (refine Reach.walk ?_; (repeat (first | ((with_reducible refine AllSt.mk ?_); (try clear hS); intro w hS) | ((with_reducible refine AllVw.mk ?_); intro V hV))))
  (try with_reducible apply doneQ_end); (with_reducible apply doneQ_none Try.results57)
  exact ⟨rfl, hS⟩
theorem b32_any : Calls Try.prog 62 #[.bool true] w fun x w' => x = .returned (.int .u32 1) ∧ w = w' := by
  (refine calls_of (P := Try.prog) _ Try.func62 rfl Try.ntmps62 (Nat.le_of_ble_eq_true rfl) ?_; dsimp only [argE, Nat.reduceAdd])
  (refine Reach.walk ?_; (repeat (first | ((with_reducible refine AllSt.mk ?_); (try clear hS); intro w hS) | ((with_reducible refine AllVw.mk ?_); intro V hV))))
  (with_reducible apply doneQ_one Try.results62); (· exact slotFound)
  exact ⟨rfl, rfl⟩
theorem storeD_any {g : Nat} {u : FrameMode} (hS : St w0 M w L) (hu : Upd L ⟨g, 1, none⟩ (.int .u32 1) L') :
    CallsD Try.prog 58 #[.pointer (some ⟨g, 1, none⟩), .bool true] u w fun e u' w' => u' = u ∧ (e = .returned (.tuple #[]) ∧ St w0 M w' L') := by
  (refine callsD_of (P := Try.prog) _ Try.func58 rfl Try.ntmps58 (Nat.le_of_ble_eq_true rfl) ?_; dsimp only [argE, Nat.reduceAdd])
  (refine Reach.walk ?_; (repeat (first | ((with_reducible refine AllSt.mk ?_); (try clear hS); intro w hS) | ((with_reducible refine AllVw.mk ?_); intro V hV))))
  (refine Wp.drawD 5 (by kernel_rfl) (by kernel_rfl) rfl ?_; dsimp only [List.take, List.drop])
  (refine Reach.rwalk ?_; (repeat (first | ((with_reducible refine AllSt.mk ?_); (try clear hS); intro w hS) | ((with_reducible refine AllVw.mk ?_); intro V hV))))
  refine RgD.known0 (c := .int .u32 1) rfl rfl rfl rfl (fun w1 hb1 => ?_) ?_
  · (with_reducible apply WpL.call); (· exact rfl); (· exact Try.call62); (· exact Vals.found)
    refine b32_any.mono ?_
    rintro x w2 ⟨rfl, rfl⟩
    exact ⟨_, rfl, WpL.nil ⟨⟨hb1, Below.refl _ _⟩, Env.set_same _ _ _⟩⟩
  (refine Reach.rwalk ?_; (repeat (first | ((with_reducible refine AllSt.mk ?_); (try clear hS); intro w hS) | ((with_reducible refine AllVw.mk ?_); intro V hV))))
  (refine RgD.fin0 fun w hb => ?_; replace hS := hS.below hb; clear hb)
  (refine Reach.walk ?_; (repeat (first | ((with_reducible refine AllSt.mk ?_); (try clear hS); intro w hS) | ((with_reducible refine AllVw.mk ?_); intro V hV))))
  (try with_reducible apply doneQ_end); (with_reducible apply doneQ_none Try.results58)
  exact ⟨rfl, hS⟩
theorem bLoad_any {g : Nat} {n : Nat} (hS : St w0 M w L) (hl : Look L ⟨g, 1, none⟩ (.int .u32 (n : Int))) :
    Calls Try.prog 52 #[.pointer (some ⟨g, 1, none⟩)] w fun x w' => x = .returned (.bool (decide ((n : Int) ≠ 0))) ∧ w = w' := by
  (refine calls_of (P := Try.prog) _ Try.func52 rfl Try.ntmps52 (Nat.le_of_ble_eq_true rfl) ?_; dsimp only [argE, Nat.reduceAdd])
  (refine Reach.walk ?_; (repeat (first | ((with_reducible refine AllSt.mk ?_); (try clear hS); intro w hS) | ((with_reducible refine AllVw.mk ?_); intro V hV))))
  (with_reducible apply doneQ_one Try.results52); (· exact slotFound)
  exact ⟨rfl, rfl⟩

/-- A field's cells: m; the once's word, its lock; the tables. -/
abbrev fieldC (m d : Nat) (A1 : Option Addr) (n1 c1 : Nat) (A2 : Option Addr) (n2 c2 : Nat) : List Value := [.int .i64 (m : Int), .int .u32 (d : Int), .int .i32 0, .int .u32 0, .slice A1 n1 c1, .slice A2 n2 c2]
abbrev fieldC1 (m d : Nat) (A1 : Option Addr) (n1 c1 : Nat) (A2 : Option Addr) (n2 c2 : Nat) : List Value := [.int .i64 (m : Int), .int .u32 (d : Int), .int .i32 1, .int .u32 0, .slice A1 n1 c1, .slice A2 n2 c2]

/-- What is called the first time. -/
theorem slow_any {g t m : Nat} {f : FuncId} (hf : ∀ args w, (callFunc f args).run Try.prog w = .ok (.enter f args) w)
    (hS : St w0 M w (.blk g t (fieldC m 0 none 0 0 none 0 0) :: L))
    {R : List Ch → Prop} (hc : ∀ w, St w0 M w (.blk g t (fieldC1 m 0 none 0 0 none 0 0) :: L) → Calls Try.prog f #[.pointer (some ⟨g, 0, none⟩)] w fun x w' => x = .returned (.tuple #[]) ∧ ∃ A1 n1 c1 A2 n2 c2 L1, R (.blk g t (fieldC m 1 A1 n1 c1 A2 n2 c2) :: L1) ∧ St w0 M w' (.blk g t (fieldC1 m 0 A1 n1 c1 A2 n2 c2) :: L1)) :
    Calls Try.prog 53 #[.pointer (some ⟨g, 1, none⟩), .func (.func f) #[.pointer (some ⟨g, 0, none⟩)] #[]] w fun x w' => x = .returned (.tuple #[]) ∧ ∃ L2, R L2 ∧ St w0 M w' L2 := by
  (refine calls_ofD (P := Try.prog) _ Try.func53 rfl Try.ntmps53 (Nat.le_of_ble_eq_true rfl) ?_; dsimp only [argE, Nat.reduceAdd])
  refine WpD.seq ?_
  refine WpD.region ?_
  (refine Reach.walk ?_; (repeat (first | ((with_reducible refine AllSt.mk ?_); (try clear hS); intro w hS) | ((with_reducible refine AllVw.mk ?_); intro V hV))))
  (with_reducible apply WpL.call); (· exact rfl); (· exact Try.call56); (· exact Vals.found)
  refine (lock_any hS Look.found Upd.found Look.found).mono ?_
  clear hS
  rintro x w ⟨rfl, hS⟩
  refine ⟨_, rfl, ?_⟩
  (refine Reach.walk ?_; (repeat (first | ((with_reducible refine AllSt.mk ?_); (try clear hS); intro w hS) | ((with_reducible refine AllVw.mk ?_); intro V hV))))
  refine WpD.seq ?_
  refine WpD.regionD (pre := [_, _, _]) (o := _) rfl rfl rfl ?_
  (refine Reach.walk ?_; (repeat (first | ((with_reducible refine AllSt.mk ?_); (try clear hS); intro w hS) | ((with_reducible refine AllVw.mk ?_); intro V hV))))
  refine ⟨{ target := .fn (.func 57) #[], args := #[.pointer (some ⟨g, 2, none⟩)] }, by simp [execOp, resolve, Deferred.ofValue, Env.eval, Env.set], ?_⟩
  refine WpD.seq ?_
  refine WpD.region ?_
  (refine Reach.walk ?_; (repeat (first | ((with_reducible refine AllSt.mk ?_); (try clear hS); intro w hS) | ((with_reducible refine AllVw.mk ?_); intro V hV))))
  (with_reducible apply WpL.call); (· exact rfl); (· exact Try.call52); (· exact Vals.found)
  refine (bLoad_any (n := 0) hS Look.found).mono ?_
  rintro x w1 ⟨rfl, rfl⟩
  refine ⟨_, rfl, ?_⟩
  (refine Reach.walk ?_; (repeat (first | ((with_reducible refine AllSt.mk ?_); (try clear hS); intro w hS) | ((with_reducible refine AllVw.mk ?_); intro V hV))))
  refine WpD.condT (t := true) rfl rfl ?_
  refine WpD.seq ?_
  refine WpD.regionD (pre := [_, _, _]) (o := _) rfl rfl rfl ?_
  (refine Reach.walk ?_; (repeat (first | ((with_reducible refine AllSt.mk ?_); (try clear hS); intro w hS) | ((with_reducible refine AllVw.mk ?_); intro V hV))))
  refine ⟨{ target := .fn (.func 58) #[], args := #[.pointer (some ⟨g, 1, none⟩), .bool true] }, by simp [execOp, resolve, Deferred.ofValue, Env.eval, Env.set], ?_⟩
  refine WpD.region ?_
  (refine Reach.walk ?_; (repeat (first | ((with_reducible refine AllSt.mk ?_); (try clear hS); intro w hS) | ((with_reducible refine AllVw.mk ?_); intro V hV))))
  refine WpL.callM (first := [.pointer (some ⟨g, 0, none⟩)]) rfl rfl hf ?_
  refine (hc _ hS).mono ?_
  clear hS
  rintro x w ⟨rfl, A1, n1, c1, A2, n2, c2, L1, hR, hS⟩
  refine ⟨_, rfl, ?_⟩
  (refine Reach.walk ?_; (repeat (first | ((with_reducible refine AllSt.mk ?_); (try clear hS); intro w hS) | ((with_reducible refine AllVw.mk ?_); intro V hV))))
  intro tmps
  refine leaves_call (f := 58) (args := #[.pointer (some ⟨g, 1, none⟩), .bool true]) (by simp [invoke, go_sem]) (storeD_any hS Upd.found) ?_
  clear hS
  rintro e w ⟨rfl, hS⟩
  refine ⟨⟨_, rfl⟩, ?_⟩
  refine leaves_call (f := 57) (args := #[.pointer (some ⟨g, 2, none⟩)]) (by simp [invoke, go_sem]) (unlockD_any hS Look.found Upd.found) ?_
  clear hS
  rintro e w ⟨rfl, hS⟩
  refine ⟨⟨_, rfl⟩, ?_⟩
  exact ⟨_, results_none Try.results53 _ _ _, rfl, _, hR, hS⟩
theorem do_first {g t m : Nat} {f : FuncId} (hf : ∀ args w, (callFunc f args).run Try.prog w = .ok (.enter f args) w)
    (hS : St w0 M w (.blk g t (fieldC m 0 none 0 0 none 0 0) :: L))
    {R : List Ch → Prop} (hc : ∀ w, St w0 M w (.blk g t (fieldC1 m 0 none 0 0 none 0 0) :: L) → Calls Try.prog f #[.pointer (some ⟨g, 0, none⟩)] w fun x w' => x = .returned (.tuple #[]) ∧ ∃ A1 n1 c1 A2 n2 c2 L1, R (.blk g t (fieldC m 1 A1 n1 c1 A2 n2 c2) :: L1) ∧ St w0 M w' (.blk g t (fieldC1 m 0 A1 n1 c1 A2 n2 c2) :: L1)) :
    Calls Try.prog 43 #[.pointer (some ⟨g, 1, none⟩), .func (.func f) #[.pointer (some ⟨g, 0, none⟩)] #[]] w fun x w' => x = .returned (.tuple #[]) ∧ ∃ L2, R L2 ∧ St w0 M w' L2 := by
  (refine calls_of (P := Try.prog) _ Try.func43 rfl Try.ntmps43 (Nat.le_of_ble_eq_true rfl) ?_; dsimp only [argE, Nat.reduceAdd])
  (refine Reach.walk ?_; (repeat (first | ((with_reducible refine AllSt.mk ?_); (try clear hS); intro w hS) | ((with_reducible refine AllVw.mk ?_); intro V hV))))
  (with_reducible apply WpL.call); (· exact rfl); (· exact Try.call52); (· exact Vals.found)
  refine (bLoad_any (n := 0) hS Look.found).mono ?_
  rintro x w1 ⟨rfl, rfl⟩
  refine ⟨_, rfl, ?_⟩
  (refine Reach.walk ?_; (repeat (first | ((with_reducible refine AllSt.mk ?_); (try clear hS); intro w hS) | ((with_reducible refine AllVw.mk ?_); intro V hV))))
  (with_reducible apply WpL.call); (· exact rfl); (· exact Try.call53); (· exact Vals.found)
  refine (slow_any hf hS hc).mono ?_
  rintro x w ⟨rfl, hx⟩
  refine ⟨_, rfl, ?_⟩
  (refine Reach.walk ?_; (repeat (first | ((with_reducible refine AllSt.mk ?_); (try clear hS); intro w hS) | ((with_reducible refine AllVw.mk ?_); intro V hV))))
  (try with_reducible apply doneQ_end); (with_reducible apply doneQ_none Try.results43)
  exact ⟨rfl, hx⟩
theorem do_done {g : Nat} {v : Value} (hS : St w0 M w L) (hl : Look L ⟨g, 1, none⟩ (.int .u32 ((1 : Nat) : Int))) :
    Calls Try.prog 43 #[.pointer (some ⟨g, 1, none⟩), v] w fun x w' => x = .returned (.tuple #[]) ∧ w = w' := by
  (refine calls_of (P := Try.prog) _ Try.func43 rfl Try.ntmps43 (Nat.le_of_ble_eq_true rfl) ?_; dsimp only [argE, Nat.reduceAdd])
  (refine Reach.walk ?_; (repeat (first | ((with_reducible refine AllSt.mk ?_); (try clear hS); intro w hS) | ((with_reducible refine AllVw.mk ?_); intro V hV))))
  (with_reducible apply WpL.call); (· exact rfl); (· exact Try.call52); (· exact Vals.found)
  refine (bLoad_any (n := 1) hS hl).mono ?_
  rintro x w1 ⟨rfl, rfl⟩
  refine ⟨_, rfl, ?_⟩
  (refine Reach.walk ?_; (repeat (first | ((with_reducible refine AllSt.mk ?_); (try clear hS); intro w hS) | ((with_reducible refine AllVw.mk ?_); intro V hV))))
  (try with_reducible apply doneQ_end); (with_reducible apply doneQ_none Try.results43)
  exact ⟨rfl, rfl⟩
end
end Go.Proofs.Ytkffgdccjgdiaaa
