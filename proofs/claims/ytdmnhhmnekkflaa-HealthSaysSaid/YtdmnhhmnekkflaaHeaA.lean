/-
  Walks over the counters: sync/atomic's wrappers, New, Of, Add, Only, IsOnly; the document's New, Add.
-/
import Derived.Test.YtdmnhhmnekkflaaLowA
namespace Go.Proofs.Ytdmnhhmnekkflaa
open Go.Fk Go.RowKit
attribute [local irreducible] Wp WpL Det thenQ blockQ
instance : SizeT Try.prog 61 1 := ⟨by kernel_rfl⟩
instance : ArrT Try.prog 62 10 61 := ⟨Try.underlying62⟩
instance : PtrT Try.prog 24 := ⟨_, Try.underlying24⟩
instance : PtrT Try.prog 26 := ⟨_, Try.underlying26⟩
instance : FieldT Try.prog 61 2 0 := ⟨by kernel_rfl⟩
instance : FieldT Try.prog 64 1 0 := ⟨by kernel_rfl⟩
instance : FieldT Try.prog 66 0 0 := ⟨by kernel_rfl⟩
instance : FieldT Try.prog 66 1 10 := ⟨by kernel_rfl⟩
instance : FieldT Try.prog 31 0 0 := ⟨by kernel_rfl⟩
instance : FieldT Try.prog 31 1 1 := ⟨by kernel_rfl⟩
instance : ExtF Try.prog 38 (Extern.Atomic.loadT (.int .u64)) := ⟨run_callFunc_extern Try.func38 (by kernel_rfl) (by kernel_rfl) (by kernel_rfl) (by kernel_rfl)⟩
instance : ExtF Try.prog 50 Extern.Atomic.storeT := ⟨run_callFunc_extern Try.func50 (by kernel_rfl) (by kernel_rfl) (by kernel_rfl) (by kernel_rfl)⟩
instance : ExtF Try.prog 39 (Extern.Atomic.casT (.int .u64)) := ⟨run_callFunc_extern Try.func39 (by kernel_rfl) (by kernel_rfl) (by kernel_rfl) (by kernel_rfl)⟩
instance : ExtF Try.prog 42 (Extern.Atomic.loadT (.int .u32)) := ⟨run_callFunc_extern Try.func42 (by kernel_rfl) (by kernel_rfl) (by kernel_rfl) (by kernel_rfl)⟩
instance : ExtF Try.prog 40 Extern.Atomic.storeT := ⟨run_callFunc_extern Try.func40 (by kernel_rfl) (by kernel_rfl) (by kernel_rfl) (by kernel_rfl)⟩

def b01 (b : Bool) : Int := if b then 1 else 0
def logC (ns : List Nat) (only : Bool) : List Value := uv ns ++ [.int .u32 (b01 only)]
abbrev logP (g : Nat) : Value := .pointer (some ⟨g, 0, none⟩)

section
variable {w w0 : World} {M : Nat → Prop} {L L' : List Ch}
theorem uLoad_any {g i : Nat} {n : Int} (hS : St w0 M w L) (hl : Look L ⟨g, i, none⟩ (.int .u64 n)) :
    Calls Try.prog 23 #[.pointer (some ⟨g, i, none⟩)] w fun x w' => x = .returned (.int .u64 n) ∧ w = w' := by
  (refine calls_of (P := Try.prog) _ Try.func23 rfl Try.ntmps23 (Nat.le_of_ble_eq_true rfl) ?_; dsimp only [argE, Nat.reduceAdd])
  (refine Reach.walk ?_; (repeat (first | ((with_reducible refine AllSt.mk ?_); (try clear hS); intro w hS) | ((with_reducible refine AllVw.mk ?_); intro V hV))))
  (with_reducible apply doneQ_one Try.results23); (· exact slotFound)
  exact ⟨rfl, rfl⟩
theorem uStore_any {g i : Nat} {n : Int} (hS : St w0 M w L) (hu : Upd L ⟨g, i, none⟩ (.int .u64 n) L') :
    Calls Try.prog 36 #[.pointer (some ⟨g, i, none⟩), .int .u64 n] w fun x w' => x = .returned (.tuple #[]) ∧ St w0 M w' L' := by
  (refine calls_of (P := Try.prog) _ Try.func36 rfl Try.ntmps36 (Nat.le_of_ble_eq_true rfl) ?_; dsimp only [argE, Nat.reduceAdd])
  (refine Reach.walk ?_; (repeat (first | ((with_reducible refine AllSt.mk ?_); (try clear hS); intro w hS) | ((with_reducible refine AllVw.mk ?_); intro V hV))))
  (try with_reducible apply doneQ_end); (with_reducible apply doneQ_none Try.results36)
  exact ⟨rfl, hS⟩
theorem uCas_any {g i : Nat} {n m : Int} (hS : St w0 M w L) (hl : Look L ⟨g, i, none⟩ (.int .u64 n)) (hu : Upd L ⟨g, i, none⟩ (.int .u64 m) L') :
    Calls Try.prog 24 #[.pointer (some ⟨g, i, none⟩), .int .u64 n, .int .u64 m] w fun x w' => x = .returned (.bool true) ∧ St w0 M w' L' := by
  (refine calls_of (P := Try.prog) _ Try.func24 rfl Try.ntmps24 (Nat.le_of_ble_eq_true rfl) ?_; dsimp only [argE, Nat.reduceAdd])
  (refine Reach.walk ?_; (repeat (first | ((with_reducible refine AllSt.mk ?_); (try clear hS); intro w hS) | ((with_reducible refine AllVw.mk ?_); intro V hV))))
  (with_reducible apply doneQ_one Try.results24); (· exact slotFound)
  exact ⟨rfl, hS⟩
theorem b32_any (b : Bool) : Calls Try.prog 41 #[.bool b] w fun x w' => x = .returned (.int .u32 (b01 b)) ∧ w = w' := by
  cases b with
  | true =>
    (refine calls_of (P := Try.prog) _ Try.func41 rfl Try.ntmps41 (Nat.le_of_ble_eq_true rfl) ?_; dsimp only [argE, Nat.reduceAdd])
    (refine Reach.walk ?_; (repeat (first | ((with_reducible refine AllSt.mk ?_); (try clear hS); intro w hS) | ((with_reducible refine AllVw.mk ?_); intro V hV))))
    (with_reducible apply doneQ_one Try.results41); (· exact slotFound)
    exact ⟨rfl, rfl⟩
  | false =>
    (refine calls_of (P := Try.prog) _ Try.func41 rfl Try.ntmps41 (Nat.le_of_ble_eq_true rfl) ?_; dsimp only [argE, Nat.reduceAdd])
    (refine Reach.walk ?_; (repeat (first | ((with_reducible refine AllSt.mk ?_); (try clear hS); intro w hS) | ((with_reducible refine AllVw.mk ?_); intro V hV))))
    (with_reducible apply doneQ_one Try.results41); (· exact slotFound)
    exact ⟨rfl, rfl⟩
theorem bLoad_any {g i : Nat} {b : Bool} (hS : St w0 M w L) (hl : Look L ⟨g, i, none⟩ (.int .u32 (b01 b))) :
    Calls Try.prog 26 #[.pointer (some ⟨g, i, none⟩)] w fun x w' => x = .returned (.bool b) ∧ w = w' := by
  (refine calls_of (P := Try.prog) _ Try.func26 rfl Try.ntmps26 (Nat.le_of_ble_eq_true rfl) ?_; dsimp only [argE, Nat.reduceAdd])
  (refine Reach.walk ?_; (repeat (first | ((with_reducible refine AllSt.mk ?_); (try clear hS); intro w hS) | ((with_reducible refine AllVw.mk ?_); intro V hV))))
  (with_reducible apply doneQ_one Try.results26); (· exact slotFound)
  exact ⟨by cases b <;> rfl, rfl⟩
theorem bStore_any {g i : Nat} {b : Bool} (hS : St w0 M w L) (hu : Upd L ⟨g, i, none⟩ (.int .u32 (b01 b)) L') :
    Calls Try.prog 25 #[.pointer (some ⟨g, i, none⟩), .bool b] w fun x w' => x = .returned (.tuple #[]) ∧ St w0 M w' L' := by
  (refine calls_of (P := Try.prog) _ Try.func25 rfl Try.ntmps25 (Nat.le_of_ble_eq_true rfl) ?_; dsimp only [argE, Nat.reduceAdd])
  (refine Reach.walk ?_; (repeat (first | ((with_reducible refine AllSt.mk ?_); (try clear hS); intro w hS) | ((with_reducible refine AllVw.mk ?_); intro V hV))))
  (refine Wp.drawD 5 (by kernel_rfl) (by kernel_rfl) rfl ?_; dsimp only [List.take, List.drop])
  (refine Reach.rwalk ?_; (repeat (first | ((with_reducible refine AllSt.mk ?_); (try clear hS); intro w hS) | ((with_reducible refine AllVw.mk ?_); intro V hV))))
  refine RgD.known0 (c := .int .u32 (b01 b)) rfl rfl rfl rfl (fun w1 hb1 => ?_) ?_
  · (with_reducible apply WpL.call); (· exact rfl); (· exact Try.call41); (· exact Vals.found)
    refine (b32_any b).mono ?_
    rintro x w2 ⟨rfl, rfl⟩
    exact ⟨_, rfl, WpL.nil ⟨⟨hb1, Below.refl _ _⟩, Env.set_same _ _ _⟩⟩
  (refine Reach.rwalk ?_; (repeat (first | ((with_reducible refine AllSt.mk ?_); (try clear hS); intro w hS) | ((with_reducible refine AllVw.mk ?_); intro V hV))))
  (refine RgD.fin0 fun w hb => ?_; replace hS := hS.below hb; clear hb)
  (refine Reach.walk ?_; (repeat (first | ((with_reducible refine AllSt.mk ?_); (try clear hS); intro w hS) | ((with_reducible refine AllVw.mk ?_); intro V hV))))
  (try with_reducible apply doneQ_end); (with_reducible apply doneQ_none Try.results25)
  exact ⟨rfl, hS⟩
end

theorem logC_len (ns : List Nat) (only : Bool) : (logC ns only).length = ns.length + 1 := by simp [logC]
theorem logC_get {ns : List Nat} {i : Nat} (h : i < ns.length) (only : Bool) : (logC ns only)[i]? = some (.int .u64 ((ns.getD i 0 : Nat) : Int)) := by
  rw [logC, List.getElem?_append_left (by simpa using h)]; exact uvg h
theorem logC_only {ns : List Nat} (h : ns.length = 10) (only : Bool) : (logC ns only)[10]? = some (.int .u32 (b01 only)) := by
  rw [logC, List.getElem?_append_right (by simp [h])]; simp [h]
theorem logC_set {ns : List Nat} {i : Nat} (h : i < ns.length) (only : Bool) (m : Nat) : (logC ns only).set i (.int .u64 (m : Int)) = logC (ns.set i m) only := by
  rw [logC, List.set_append_left _ _ (by simpa using h), uv_set]; rfl
theorem logC_setOnly {ns : List Nat} (h : ns.length = 10) (only b : Bool) : (logC ns only).set 10 (.int .u32 (b01 b)) = logC ns b := by
  rw [logC, List.set_append_right _ _ (by simp [h])]; simp [h, logC]

instance : BuildT Try.prog 66 (logC (List.replicate 10 0) false) [(0, 10), (10, 1)] := ⟨by kernel_rfl⟩
theorem new_any (w : World) : Calls Try.prog 9 #[] w fun x w' => ∃ g, x = .returned (logP g) ∧ St w (feet []) w' [.blk g 66 (logC (List.replicate 10 0) false)] := by
  have hS := St.start w
  (refine calls_of (P := Try.prog) _ Try.func9 rfl Try.ntmps9 (Nat.le_of_ble_eq_true rfl) ?_; dsimp only [argE, Nat.reduceAdd])
  (refine Reach.walk ?_; (repeat (first | ((with_reducible refine AllSt.mk ?_); (try clear hS); intro w hS) | ((with_reducible refine AllVw.mk ?_); intro V hV))))
  refine WpL.det rfl (Det.build (cells := logC (List.replicate 10 0) false) (r := []) PVals.nil rfl) ?_
  ((with_reducible apply WpL.bx); (· assumption); (· exact rfl); (· exact Env.found); (· exact rfl); clear hS)
  intro g w hS
  (refine Reach.walk ?_; (repeat (first | ((with_reducible refine AllSt.mk ?_); (try clear hS); intro w hS) | ((with_reducible refine AllVw.mk ?_); intro V hV))))
  (with_reducible apply doneQ_one Try.results9); (· exact slotFound)
  exact ⟨g, rfl, hS⟩

/-- The log is known there. -/
def LogIn (L : List Ch) (g : Nat) (ns : List Nat) (only : Bool) : Prop := (∀ i, i < 10 → Look L ⟨g, i, none⟩ (.int .u64 ((ns.getD i 0 : Nat) : Int))) ∧ Look L ⟨g, 10, none⟩ (.int .u32 (b01 only))
theorem LogIn.there {L : List Ch} {g : Nat} {ns : List Nat} {only : Bool} (h : LogIn L g ns only) (c : Ch) : LogIn (c :: L) g ns only := ⟨fun i hi => .there (h.1 i hi), .there h.2⟩
theorem LogIn.blk {L : List Ch} {g : Nat} {ns : List Nat} (h : ns.length = 10) (only : Bool) : LogIn (.blk g 66 (logC ns only) :: L) g ns only := ⟨fun i hi => Look.blk (logC_get (by omega) only), Look.blk (logC_only h only)⟩
theorem LogIn.ro {L : List Ch} {g : Nat} {ns : List Nat} (h : ns.length = 10) (only : Bool) : LogIn (.ro (some ⟨g, 0, none⟩) (logC ns only) :: L) g ns only := ⟨fun i hi => Look.roB (logC_get (by omega) only), Look.roB (logC_only h only)⟩
/-- What a counter is. -/
def cOf (ns : List Nat) (what : Int) : Nat := if 0 ≤ what ∧ what < 10 then ns.getD what.toNat 0 else 0
theorem of_any {g : Nat} {ns : List Nat} {only : Bool} (what : Int) {w w0 : World} {M : Nat → Prop} {L : List Ch} (hS : St w0 M w L) (hin : LogIn L g ns only) :
    Calls Try.prog 14 #[logP g, .int .i64 what] w fun x w' => x = .returned (.int .u64 ((cOf ns what : Nat) : Int)) ∧ w = w' := by
  (refine calls_of (P := Try.prog) _ Try.func14 rfl Try.ntmps14 (Nat.le_of_ble_eq_true rfl) ?_; dsimp only [argE, Nat.reduceAdd])
  by_cases h0 : what < 0
  · (refine Reach.walk ?_; (repeat (first | ((with_reducible refine AllSt.mk ?_); (try clear hS); intro w hS) | ((with_reducible refine AllVw.mk ?_); intro V hV))))
    (with_reducible apply doneQ_one Try.results14); (· exact slotFound)
    exact ⟨by rw [cOf, if_neg (by omega)]; rfl, rfl⟩
  by_cases h1 : 10 ≤ what
  · (refine Reach.walk ?_; (repeat (first | ((with_reducible refine AllSt.mk ?_); (try clear hS); intro w hS) | ((with_reducible refine AllVw.mk ?_); intro V hV))))
    (with_reducible apply doneQ_one Try.results14); (· exact slotFound)
    exact ⟨by rw [cOf, if_neg (by omega)]; rfl, rfl⟩
  obtain ⟨k, rfl⟩ := Int.eq_ofNat_of_zero_le (show 0 ≤ what by omega)
  have hk : k < 10 := by omega
  have hlk := hin.1 k hk
  (refine Reach.walk ?_; (repeat (first | ((with_reducible refine AllSt.mk ?_); (try clear hS); intro w hS) | ((with_reducible refine AllVw.mk ?_); intro V hV))))
  (with_reducible apply WpL.call); (· exact rfl); (· exact Try.call23); (· exact Vals.found)
  refine (uLoad_any hS hlk).mono ?_
  rintro x w1 ⟨rfl, rfl⟩
  refine ⟨_, rfl, ?_⟩
  (refine Reach.walk ?_; (repeat (first | ((with_reducible refine AllSt.mk ?_); (try clear hS); intro w hS) | ((with_reducible refine AllVw.mk ?_); intro V hV))))
  (with_reducible apply doneQ_one Try.results14); (· exact slotFound)
  exact ⟨by rw [cOf, if_pos (by omega)]; rfl, rfl⟩

/-- A counter that is added to: up to 2^63 - 1. -/
def addN (ns : List Nat) (what n : Int) : List Nat := if 0 ≤ what ∧ what < 10 ∧ 1 ≤ n then ns.set what.toNat (min (ns.getD what.toNat 0 + n.toNat) 9223372036854775807) else ns
theorem addN_length (ns : List Nat) (what n : Int) : (addN ns what n).length = ns.length := by unfold addN; split <;> simp
def Small (ns : List Nat) : Prop := ns.length = 10 ∧ ∀ i, ns.getD i 0 ≤ 9223372036854775807
theorem Small.add {ns : List Nat} (h : Small ns) (what n : Int) : Small (addN ns what n) := by
  refine ⟨by rw [addN_length]; exact h.1, fun i => ?_⟩
  unfold addN
  split
  · rw [List.getD_eq_getElem?_getD, List.getElem?_set]
    have := h.2 i
    rw [List.getD_eq_getElem?_getD] at this
    split
    · split <;> simp <;> omega
    · exact this
  · exact h.2 i
theorem Small.zero : Small (List.replicate 10 0) := ⟨rfl, fun i => by
  rw [List.getD_eq_getElem?_getD, List.getElem?_replicate]
  split <;> simp⟩
theorem add_any {g : Nat} {ns : List Nat} {only : Bool} (hs : Small ns) (what n : Int) (hn : n ≤ 9223372036854775807) {w w0 : World} {M : Nat → Prop} {L : List Ch} (hS : St w0 M w (.blk g 66 (logC ns only) :: L)) :
    Calls Try.prog 11 #[logP g, .int .i64 what, .int .i64 n] w fun x w' => x = .returned (.tuple #[]) ∧ St w0 M w' (.blk g 66 (logC (addN ns what n) only) :: L) := by
  (refine calls_of (P := Try.prog) _ Try.func11 rfl Try.ntmps11 (Nat.le_of_ble_eq_true rfl) ?_; dsimp only [argE, Nat.reduceAdd])
  by_cases h0 : what < 0
  · (refine Reach.walk ?_; (repeat (first | ((with_reducible refine AllSt.mk ?_); (try clear hS); intro w hS) | ((with_reducible refine AllVw.mk ?_); intro V hV))))
    (try with_reducible apply doneQ_end); (with_reducible apply doneQ_none Try.results11)
    exact ⟨rfl, by rw [addN, if_neg (by omega)]; exact hS⟩
  by_cases h1 : 10 ≤ what
  · (refine Reach.walk ?_; (repeat (first | ((with_reducible refine AllSt.mk ?_); (try clear hS); intro w hS) | ((with_reducible refine AllVw.mk ?_); intro V hV))))
    (try with_reducible apply doneQ_end); (with_reducible apply doneQ_none Try.results11)
    exact ⟨rfl, by rw [addN, if_neg (by omega)]; exact hS⟩
  by_cases h2 : n < 1
  · (refine Reach.walk ?_; (repeat (first | ((with_reducible refine AllSt.mk ?_); (try clear hS); intro w hS) | ((with_reducible refine AllVw.mk ?_); intro V hV))))
    (try with_reducible apply doneQ_end); (with_reducible apply doneQ_none Try.results11)
    exact ⟨rfl, by rw [addN, if_neg (by omega)]; exact hS⟩
  obtain ⟨k, rfl⟩ := Int.eq_ofNat_of_zero_le (show 0 ≤ what by omega)
  obtain ⟨m, rfl⟩ := Int.eq_ofNat_of_zero_le (show 0 ≤ n by omega)
  have hk : k < 10 := by omega
  have hlen := hs.1
  have hx := hs.2 k
  have hlk : Look (.blk g 66 (logC ns only) :: L) ⟨g, k, none⟩ (.int .u64 ((ns.getD k 0 : Nat) : Int)) := Look.blk (logC_get (by omega) only)
  have e1 : addN ns (k : Int) (m : Int) = ns.set k (min (ns.getD k 0 + m) 9223372036854775807) := by rw [addN, if_pos (by omega)]; rfl
  rw [e1]
  have hup : Upd (.blk g 66 (logC ns only) :: L) ⟨g, k, none⟩ (.int .u64 ((min (ns.getD k 0 + m) 9223372036854775807 : Nat) : Int)) (.blk g 66 (logC (ns.set k (min (ns.getD k 0 + m) 9223372036854775807)) only) :: L) :=
    .blk (by rw [logC_len]; omega) (logC_set (by omega) only _)
  generalize ns.getD k 0 = X at *
  (refine Reach.walk ?_; (repeat (first | ((with_reducible refine AllSt.mk ?_); (try clear hS); intro w hS) | ((with_reducible refine AllVw.mk ?_); intro V hV))))
  refine Wp.loop (fun e' w' => e' = _ ∧ w' = w) (fun _ _ => 0) ⟨rfl, rfl⟩ ?_
  rintro _ _ ⟨rfl, rfl⟩
  (refine Reach.walk ?_; (repeat (first | ((with_reducible refine AllSt.mk ?_); (try clear hS); intro w hS) | ((with_reducible refine AllVw.mk ?_); intro V hV))))
  (with_reducible apply WpL.call); (· exact rfl); (· exact Try.call23); (· exact Vals.found)
  refine (uLoad_any hS hlk).mono ?_
  rintro x w1 ⟨rfl, rfl⟩
  refine ⟨_, rfl, ?_⟩
  (refine Reach.walk ?_; (repeat (first | ((with_reducible refine AllSt.mk ?_); (try clear hS); intro w hS) | ((with_reducible refine AllVw.mk ?_); intro V hV))))
  rw [show (X : Int) + min (m : Int) (9223372036854775807 - (X : Int)) = ((min (X + m) 9223372036854775807 : Nat) : Int) by omega]
  (with_reducible apply WpL.call); (· exact rfl); (· exact Try.call24); (· exact Vals.found)
  refine (uCas_any hS hlk hup).mono ?_
  rintro x w1 ⟨rfl, hS⟩
  refine ⟨_, rfl, ?_⟩
  (refine Reach.walk ?_; (repeat (first | ((with_reducible refine AllSt.mk ?_); (try clear hS); intro w hS) | ((with_reducible refine AllVw.mk ?_); intro V hV))))
  (try with_reducible apply doneQ_end); (with_reducible apply doneQ_none Try.results11)
  exact ⟨rfl, hS⟩
theorem only_any {g : Nat} {ns : List Nat} {only : Bool} (hl : ns.length = 10) {w w0 : World} {M : Nat → Prop} {L : List Ch} (hS : St w0 M w (.blk g 66 (logC ns only) :: L)) :
    Calls Try.prog 13 #[logP g] w fun x w' => x = .returned (.tuple #[]) ∧ St w0 M w' (.blk g 66 (logC ns true) :: L) := by
  have hup : Upd (.blk g 66 (logC ns only) :: L) ⟨g, 10, none⟩ (.int .u32 (b01 true)) (.blk g 66 (logC ns true) :: L) := .blk (by rw [logC_len]; omega) (logC_setOnly hl only true)
  (refine calls_of (P := Try.prog) _ Try.func13 rfl Try.ntmps13 (Nat.le_of_ble_eq_true rfl) ?_; dsimp only [argE, Nat.reduceAdd])
  (refine Reach.walk ?_; (repeat (first | ((with_reducible refine AllSt.mk ?_); (try clear hS); intro w hS) | ((with_reducible refine AllVw.mk ?_); intro V hV))))
  (with_reducible apply WpL.call); (· exact rfl); (· exact Try.call25); (· exact Vals.found)
  refine (bStore_any hS hup).mono ?_
  rintro x w1 ⟨rfl, hS⟩
  refine ⟨_, rfl, ?_⟩
  (refine Reach.walk ?_; (repeat (first | ((with_reducible refine AllSt.mk ?_); (try clear hS); intro w hS) | ((with_reducible refine AllVw.mk ?_); intro V hV))))
  (try with_reducible apply doneQ_end); (with_reducible apply doneQ_none Try.results13)
  exact ⟨rfl, hS⟩
theorem isOnly_any {g : Nat} {ns : List Nat} {only : Bool} {w w0 : World} {M : Nat → Prop} {L : List Ch} (hS : St w0 M w L) (hin : LogIn L g ns only) :
    Calls Try.prog 15 #[logP g] w fun x w' => x = .returned (.bool only) ∧ w = w' := by
  have hlk := hin.2
  (refine calls_of (P := Try.prog) _ Try.func15 rfl Try.ntmps15 (Nat.le_of_ble_eq_true rfl) ?_; dsimp only [argE, Nat.reduceAdd])
  (refine Reach.walk ?_; (repeat (first | ((with_reducible refine AllSt.mk ?_); (try clear hS); intro w hS) | ((with_reducible refine AllVw.mk ?_); intro V hV))))
  (with_reducible apply WpL.call); (· exact rfl); (· exact Try.call26); (· exact Vals.found)
  refine (bLoad_any hS hlk).mono ?_
  rintro x w1 ⟨rfl, rfl⟩
  refine ⟨_, rfl, ?_⟩
  (refine Reach.walk ?_; (repeat (first | ((with_reducible refine AllSt.mk ?_); (try clear hS); intro w hS) | ((with_reducible refine AllVw.mk ?_); intro V hV))))
  (with_reducible apply doneQ_one Try.results15); (· exact slotFound)
  exact ⟨rfl, rfl⟩

/-- The document's log is known there. -/
def RLogIn (L : List Ch) (g : Nat) (A : Option Addr) (ns : List Nat) (only : Bool) : Prop := Look L ⟨g, 0, none⟩ (.slice A 10 10) ∧ Look L ⟨g, 1, none⟩ (.bool only) ∧ ∀ i, i < 10 → Look L ((adr A).add i) (.int .u64 ((ns.getD i 0 : Nat) : Int))
theorem RLogIn.there {L : List Ch} {g : Nat} {A : Option Addr} {ns : List Nat} {only : Bool} (h : RLogIn L g A ns only) (c : Ch) : RLogIn (c :: L) g A ns only := ⟨.there h.1, .there h.2.1, fun i hi => .there (h.2.2 i hi)⟩
theorem RLogIn.ro {L : List Ch} {g : Nat} {A : Option Addr} {ns : List Nat} (h : ns.length = 10) (only : Bool) : RLogIn (.ro (some ⟨g, 0, none⟩) [.slice A 10 10, .bool only] :: .ro A (uv ns) :: L) g A ns only :=
  ⟨Look.roB rfl, Look.roB rfl, fun i hi => .there (Look.ro (uvg (by omega)))⟩
/-- The document's log: its numbers lie in a slice. -/
abbrev rlogP (g : Nat) : Value := .pointer (some ⟨g, 0, none⟩)
def rlogL (g : Nat) (A : Option Addr) (ns : List Nat) (only : Bool) : List Ch := [.blk g 31 [.slice A 10 10, .bool only], .own A 10 10 32 1 (uv ns)]
theorem RLogIn.blk {L : List Ch} {g : Nat} {A : Option Addr} {ns : List Nat} (h : ns.length = 10) (only : Bool) : RLogIn (rlogL g A ns only ++ L) g A ns only :=
  ⟨Look.blk rfl, Look.blk rfl, fun i hi => .there (Look.own (uvg (by omega)))⟩
instance : BuildT Try.prog 31 [.slice none 0 0, .bool false] [(0, 1), (1, 1)] := ⟨by kernel_rfl⟩
theorem refNew_any (w : World) : Calls Try.prog 10 #[] w fun x w' => ∃ g A, x = .returned (rlogP g) ∧ IsVw A 10 10 A 0 ∧ St w (feet []) w' (rlogL g A (List.replicate 10 0) false) := by
  have hS := St.start w
  (refine calls_of (P := Try.prog) _ Try.func10 rfl Try.ntmps10 (Nat.le_of_ble_eq_true rfl) ?_; dsimp only [argE, Nat.reduceAdd])
  (refine Reach.walk ?_; (repeat (first | ((with_reducible refine AllSt.mk ?_); (try clear hS); intro w hS) | ((with_reducible refine AllVw.mk ?_); intro V hV))))
  refine WpL.mk1 (bytes := 8) (n := 10) hS rfl rfl rfl rfl rfl rfl (by decide) (by decide) ?_
  clear hS
  intro A w hV hS
  rw [replicate_uv] at hS
  (refine Reach.walk ?_; (repeat (first | ((with_reducible refine AllSt.mk ?_); (try clear hS); intro w hS) | ((with_reducible refine AllVw.mk ?_); intro V hV))))
  refine WpL.det rfl (Det.build (cells := [.slice A 10 10, .bool false]) PVals.found rfl) ?_
  ((with_reducible apply WpL.bx); (· assumption); (· exact rfl); (· exact Env.found); (· exact rfl); clear hS)
  intro g w hS
  (refine Reach.walk ?_; (repeat (first | ((with_reducible refine AllSt.mk ?_); (try clear hS); intro w hS) | ((with_reducible refine AllVw.mk ?_); intro V hV))))
  (with_reducible apply doneQ_one Try.results10); (· exact slotFound)
  exact ⟨g, A, rfl, hV, hS⟩
theorem refAdd_any {g : Nat} {A : Option Addr} {ns : List Nat} {only : Bool} (hs : Small ns) (hV : IsVw A 10 10 A 0) (what n : Int) (hn : n ≤ 9223372036854775807) {w w0 : World} {M : Nat → Prop} {L : List Ch} (hS : St w0 M w (rlogL g A ns only ++ L)) :
    Calls Try.prog 12 #[rlogP g, .int .i64 what, .int .i64 n] w fun x w' => x = .returned (.tuple #[]) ∧ St w0 M w' (rlogL g A (addN ns what n) only ++ L) := by
  simp only [rlogL, List.cons_append, List.nil_append] at hS ⊢
  (refine calls_of (P := Try.prog) _ Try.func12 rfl Try.ntmps12 (Nat.le_of_ble_eq_true rfl) ?_; dsimp only [argE, Nat.reduceAdd])
  by_cases h0 : what < 0
  · (refine Reach.walk ?_; (repeat (first | ((with_reducible refine AllSt.mk ?_); (try clear hS); intro w hS) | ((with_reducible refine AllVw.mk ?_); intro V hV))))
    (try with_reducible apply doneQ_end); (with_reducible apply doneQ_none Try.results12)
    exact ⟨rfl, by rw [addN, if_neg (by omega)]; exact hS⟩
  by_cases h1 : 9 < what
  · (refine Reach.walk ?_; (repeat (first | ((with_reducible refine AllSt.mk ?_); (try clear hS); intro w hS) | ((with_reducible refine AllVw.mk ?_); intro V hV))))
    (try with_reducible apply doneQ_end); (with_reducible apply doneQ_none Try.results12)
    exact ⟨rfl, by rw [addN, if_neg (by omega)]; exact hS⟩
  by_cases h2 : n < 1
  · (refine Reach.walk ?_; (repeat (first | ((with_reducible refine AllSt.mk ?_); (try clear hS); intro w hS) | ((with_reducible refine AllVw.mk ?_); intro V hV))))
    (try with_reducible apply doneQ_end); (with_reducible apply doneQ_none Try.results12)
    exact ⟨rfl, by rw [addN, if_neg (by omega)]; exact hS⟩
  obtain ⟨k, rfl⟩ := Int.eq_ofNat_of_zero_le (show 0 ≤ what by omega)
  obtain ⟨m, rfl⟩ := Int.eq_ofNat_of_zero_le (show 0 ≤ n by omega)
  have hk : k < 10 := by omega
  have hlen := hs.1
  have hx := hs.2 k
  have e1 : addN ns (k : Int) (m : Int) = ns.set k (min (ns.getD k 0 + m) 9223372036854775807) := by rw [addN, if_pos (by omega)]; rfl
  rw [e1]
  (refine Reach.walk ?_; (repeat (first | ((with_reducible refine AllSt.mk ?_); (try clear hS); intro w hS) | ((with_reducible refine AllVw.mk ?_); intro V hV))))
  by_cases hbig : 9223372036854775807 < ns.getD k 0 + m
  · (refine Reach.walk ?_; (repeat (first | ((with_reducible refine AllSt.mk ?_); (try clear hS); intro w hS) | ((with_reducible refine AllVw.mk ?_); intro V hV))))
    (try with_reducible apply doneQ_end); (with_reducible apply doneQ_none Try.results12)
    exact ⟨rfl, by rw [Nat.min_eq_right (by omega)]; exact hS⟩
  · (refine Reach.walk ?_; (repeat (first | ((with_reducible refine AllSt.mk ?_); (try clear hS); intro w hS) | ((with_reducible refine AllVw.mk ?_); intro V hV))))
    (try with_reducible apply doneQ_end); (with_reducible apply doneQ_none Try.results12)
    exact ⟨rfl, by rw [Nat.min_eq_left (by omega)]; exact hS⟩
end Go.Proofs.Ytdmnhhmnekkflaa
