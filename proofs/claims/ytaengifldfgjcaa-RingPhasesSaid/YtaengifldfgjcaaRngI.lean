/-
  Calls of a script, as they come in; what a completion is made to be.
-/
import Derived.Test.YtaengifldfgjcaaRngG
namespace Go.Proofs.Ytaengifldfgjcaa
open Go.Fk Go.RowKit
attribute [local irreducible] Wp WpL Det thenQ blockQ
instance : SliceT Try.prog 36 47 := ⟨Try.underlying36⟩
instance : SizeT Try.prog 47 10 := ⟨by kernel_rfl⟩
instance : RowT Try.prog 47 := ⟨_, Try.underlying47, rfl⟩
instance : Elem Try.prog 47 10 80 (.agg #[.int .i64 0, .int .i64 0, .int .i64 0, .int .u8 0, .int .u32 0, .int .i64 0, .int .i64 0, .int .i64 0, .bool false, .int .i64 0]) := ⟨by kernel_rfl, rfl, by decide⟩
instance : FieldT Try.prog 47 0 0 := ⟨by kernel_rfl⟩
instance : FieldT Try.prog 47 1 1 := ⟨by kernel_rfl⟩
instance : FieldT Try.prog 47 2 2 := ⟨by kernel_rfl⟩
instance : FieldT Try.prog 47 3 3 := ⟨by kernel_rfl⟩
instance : FieldT Try.prog 47 4 4 := ⟨by kernel_rfl⟩

/-- A completion's numbers. -/
structure Dn where
  result : Nat
  head : Int
  queue : Int
  id : Int
  phase : Bool
  status : Int
/-- A call of the script. -/
structure ROp where
  kind : Int
  n : Int
  at_ : Int
  byte : Nat
  d : Dn
abbrev i64ok (z : Int) : Prop := -9223372036854775808 ≤ z ∧ z ≤ 9223372036854775807
structure Dn.Fits (d : Dn) : Prop where
  result : d.result < 4294967296
  head : i64ok d.head
  queue : i64ok d.queue
  id : i64ok d.id
  status : i64ok d.status
structure ROp.Fits (o : ROp) : Prop where
  kind : i64ok o.kind
  n : i64ok o.n
  at_ : i64ok o.at_
  byte : o.byte < 256
  d : o.d.Fits
def Dn.cells (d : Dn) : List Value := [.int .u32 (d.result : Int), .int .i64 d.head, .int .i64 d.queue, .int .i64 d.id, .bool d.phase, .int .i64 d.status]
def ROp.cells (o : ROp) : List Value := [.int .i64 o.kind, .int .i64 o.n, .int .i64 o.at_, .int .u8 (o.byte : Int), .int .u32 (o.d.result : Int), .int .i64 o.d.head, .int .i64 o.d.queue, .int .i64 o.d.id, .bool o.d.phase, .int .i64 o.d.status]
def ROp.zero : ROp := ⟨0, 0, 0, 0, ⟨0, 0, 0, 0, false, 0⟩⟩
def ov (os : List ROp) : List Value := os.flatMap ROp.cells
theorem ov_length (os : List ROp) : (ov os).length = 10 * os.length := by
  induction os with
  | nil => rfl
  | cons a r ih => simp only [ov, List.flatMap_cons, List.length_append, List.length_cons, ROp.cells, List.length_nil] at ih ⊢; omega
theorem ov_at : ∀ (os : List ROp) (i : Nat), i < os.length → ((ov os).drop (i * 10)).take 10 = (os.getD i .zero).cells
  | [], i, h => absurd h (Nat.not_lt_zero _)
  | s :: r, 0, _ => rfl
  | s :: r, i + 1, h => by
    have ih := ov_at r i (by simpa using h)
    rw [show (i + 1) * 10 = i * 10 + 10 by omega]
    exact ih

theorem right_any {r : Nat} {h q i s z : Int} {p : Bool} (hh : i64ok h) (hq : i64ok q) (hi : i64ok i) (hs : i64ok s) (hz : 0 ≤ z ∧ z ≤ 9223372036854775807) {w w0 : World} {M : Nat → Prop} {L : List Ch} (hS : St w0 M w L) :
    Calls Try.prog 16 #[doneV r h q i p s, .int .i64 z] w fun x w' => ∃ h' q' i' s', x = .returned (doneV r h' q' i' p s') ∧ St w0 M w' L := by
  (refine calls_of (P := Try.prog) _ Try.func16 rfl Try.ntmps16 (Nat.le_of_ble_eq_true rfl) ?_; dsimp only [argE, Nat.reduceAdd])
  (refine Reach.walk ?_; (repeat (first | ((with_reducible refine AllSt.mk ?_); (try clear hS); intro w hS) | ((with_reducible refine AllVw.mk ?_); intro V hV))))
  ((with_reducible apply WpL.bx); (· assumption); (· exact rfl); (· exact Env.found); (· exact rfl); clear hS)
  intro gd w hS
  (refine Reach.walk ?_; (repeat (first | ((with_reducible refine AllSt.mk ?_); (try clear hS); intro w hS) | ((with_reducible refine AllVw.mk ?_); intro V hV))))
  ((with_reducible apply WpL.al); (· assumption); (· exact rfl); (· exact rfl); clear hS)
  intro gx w hS
  by_cases h10 : z % 11 = 10
  · obtain ⟨m, rfl⟩ := Int.eq_ofNat_of_zero_le hz.1
    have h10' : ((m % 11 : Nat) : Int) = 10 := by omega
    (refine Reach.walk ?_; (repeat (first | ((with_reducible refine AllSt.mk ?_); (try clear hS); intro w hS) | ((with_reducible refine AllVw.mk ?_); intro V hV))))
    (with_reducible apply doneQ_row Try.results16); (· exact slotFound); (· assumption); (· exact Sel.found); (· exact rfl)
    exact ⟨h, q, i, s, rfl, hS.tail.tail⟩
  · obtain ⟨m, rfl⟩ := Int.eq_ofNat_of_zero_le hz.1
    have h10' : ¬ ((m % 11 : Nat) : Int) = 10 := by omega
    have b1 := absN_le hh
    have b2 := absN_le hq
    have b3 := absN_le hi
    have b4 := absN_le hs
    (refine Reach.walk ?_; (repeat (first | ((with_reducible refine AllSt.mk ?_); (try clear hS); intro w hS) | ((with_reducible refine AllVw.mk ?_); intro V hV))))
    (refine Wp.drawD 21 (by kernel_rfl) (by kernel_rfl) rfl ?_; dsimp only [List.take, List.drop])
    (refine Reach.rwalk ?_; (repeat (first | ((with_reducible refine AllSt.mk ?_); (try clear hS); intro w hS) | ((with_reducible refine AllVw.mk ?_); intro V hV))))
    refine RgD.known0 (c := .int .i64 (absN h : Nat)) rfl rfl rfl rfl (fun w1 hb1 => ?_) ?_
    · (with_reducible apply WpL.call); (· exact rfl); (· exact Try.call9); (· exact Vals.found)
      refine (abs_any hh w1).mono ?_
      rintro x w2 ⟨rfl, rfl⟩
      exact ⟨_, rfl, WpL.nil ⟨⟨hb1, Below.refl _ _⟩, Env.set_same _ _ _⟩⟩
    (refine Reach.rwalk ?_; (repeat (first | ((with_reducible refine AllSt.mk ?_); (try clear hS); intro w hS) | ((with_reducible refine AllVw.mk ?_); intro V hV))))
    refine RgD.known0 (c := .int .i64 (absN q : Nat)) rfl rfl rfl rfl (fun w1 hb1 => ?_) ?_
    · (with_reducible apply WpL.call); (· exact rfl); (· exact Try.call9); (· exact Vals.found)
      refine (abs_any hq w1).mono ?_
      rintro x w2 ⟨rfl, rfl⟩
      exact ⟨_, rfl, WpL.nil ⟨⟨hb1, Below.refl _ _⟩, Env.set_same _ _ _⟩⟩
    (refine Reach.rwalk ?_; (repeat (first | ((with_reducible refine AllSt.mk ?_); (try clear hS); intro w hS) | ((with_reducible refine AllVw.mk ?_); intro V hV))))
    refine RgD.known0 (c := .int .i64 (absN i : Nat)) rfl rfl rfl rfl (fun w1 hb1 => ?_) ?_
    · (with_reducible apply WpL.call); (· exact rfl); (· exact Try.call9); (· exact Vals.found)
      refine (abs_any hi w1).mono ?_
      rintro x w2 ⟨rfl, rfl⟩
      exact ⟨_, rfl, WpL.nil ⟨⟨hb1, Below.refl _ _⟩, Env.set_same _ _ _⟩⟩
    (refine Reach.rwalk ?_; (repeat (first | ((with_reducible refine AllSt.mk ?_); (try clear hS); intro w hS) | ((with_reducible refine AllVw.mk ?_); intro V hV))))
    refine RgD.known0 (c := .int .i64 (absN s : Nat)) rfl rfl rfl rfl (fun w1 hb1 => ?_) ?_
    · (with_reducible apply WpL.call); (· exact rfl); (· exact Try.call9); (· exact Vals.found)
      refine (abs_any hs w1).mono ?_
      rintro x w2 ⟨rfl, rfl⟩
      exact ⟨_, rfl, WpL.nil ⟨⟨hb1, Below.refl _ _⟩, Env.set_same _ _ _⟩⟩
    (refine Reach.rwalk ?_; (repeat (first | ((with_reducible refine AllSt.mk ?_); (try clear hS); intro w hS) | ((with_reducible refine AllVw.mk ?_); intro V hV))))
    refine RgD.det rfl rfl rfl rfl (Det.build (cells := [.int .u32 (r : Int), .int .i64 ((absN h % 65536 : Nat) : Int), .int .i64 ((absN q % 65536 : Nat) : Int), .int .i64 ((absN i % 65536 : Nat) : Int), .bool p, .int .i64 ((absN s % 32768 : Nat) : Int)]) PVals.found (by kernel_rfl)) ?_
    (refine Reach.rwalk ?_; (repeat (first | ((with_reducible refine AllSt.mk ?_); (try clear hS); intro w hS) | ((with_reducible refine AllVw.mk ?_); intro V hV))))
    (refine RgD.fin0 fun w hb => ?_; replace hS := hS.below hb; clear hb)
    (refine Reach.walk ?_; (repeat (first | ((with_reducible refine AllSt.mk ?_); (try clear hS); intro w hS) | ((with_reducible refine AllVw.mk ?_); intro V hV))))
    (with_reducible apply doneQ_row Try.results16); (· exact slotFound); (· assumption); (· exact Sel.found); (· exact rfl)
    exact ⟨_, _, _, _, rfl, hS.tail.tail⟩
end Go.Proofs.Ytaengifldfgjcaa
