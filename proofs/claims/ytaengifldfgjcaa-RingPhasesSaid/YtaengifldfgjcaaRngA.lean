/-
  Rings in a host's memory: what the queues' helpers compute.
-/
import Derived.Test.YtaengifldfgjcaaEntJ
import Derived.Test.YtaengifldfgjcaaIns
import Derived.Test.YtaengifldfgjcaaStC
namespace Go.Proofs.Ytaengifldfgjcaa
open Go.Fk Go.RowKit
attribute [local irreducible] Wp WpL Det thenQ blockQ
theorem boolV {a b : Bool} (h : a = b) : Value.bool a = Value.bool b := by rw [h]

/-- A ring's cells. -/
abbrev loopC (V : Option Addr) (m c base d sz head n : Nat) : List Value := [.slice V m c, .int .i64 (base : Int), .int .i64 (d : Int), .int .i64 (sz : Int), .int .i64 (head : Int), .int .i64 (n : Int)]
abbrev compC (V : Option Addr) (m c base d sz head n posted : Nat) : List Value := [.slice V m c, .int .i64 (base : Int), .int .i64 (d : Int), .int .i64 (sz : Int), .int .i64 (head : Int), .int .i64 (n : Int), .int .i64 (posted : Int)]
instance : RowT Try.prog 59 := ⟨_, Try.underlying59, rfl⟩
instance : RowT Try.prog 63 := ⟨_, Try.underlying63, rfl⟩
instance : RowT Try.prog 69 := ⟨_, Try.underlying69, rfl⟩
instance : SizeT Try.prog 59 6 := ⟨by kernel_rfl⟩
instance : SizeT Try.prog 63 6 := ⟨by kernel_rfl⟩
instance : SizeT Try.prog 69 7 := ⟨by kernel_rfl⟩
instance : Elem Try.prog 59 6 64 (.agg #[.slice none 0 0, .int .i64 0, .int .i64 0, .int .i64 0, .int .i64 0, .int .i64 0]) := ⟨by kernel_rfl, rfl, by decide⟩
instance : BuildT Try.prog 59 [.slice none 0 0, .int .i64 0, .int .i64 0, .int .i64 0, .int .i64 0, .int .i64 0] [(0, 1), (1, 1), (2, 1), (3, 1), (4, 1), (5, 1)] := ⟨by kernel_rfl⟩
instance : BuildT Try.prog 63 [.slice none 0 0, .int .i64 0, .int .i64 0, .int .i64 0, .int .i64 0, .int .i64 0] [(0, 6)] := ⟨by kernel_rfl⟩
instance : BuildT Try.prog 69 [.slice none 0 0, .int .i64 0, .int .i64 0, .int .i64 0, .int .i64 0, .int .i64 0, .int .i64 0] [(0, 6), (6, 1)] := ⟨by kernel_rfl⟩
instance : FieldT Try.prog 59 0 0 := ⟨by kernel_rfl⟩
instance : FieldT Try.prog 59 1 1 := ⟨by kernel_rfl⟩
instance : FieldT Try.prog 59 2 2 := ⟨by kernel_rfl⟩
instance : FieldT Try.prog 59 3 3 := ⟨by kernel_rfl⟩
instance : FieldT Try.prog 59 4 4 := ⟨by kernel_rfl⟩
instance : FieldT Try.prog 59 5 5 := ⟨by kernel_rfl⟩
instance : FieldT Try.prog 63 0 0 := ⟨by kernel_rfl⟩
instance : FieldT Try.prog 69 0 0 := ⟨by kernel_rfl⟩
instance : FieldT Try.prog 69 1 6 := ⟨by kernel_rfl⟩
instance : PtrT Try.prog 26 := ⟨_, Try.underlying26⟩
instance : PtrT Try.prog 37 := ⟨_, Try.underlying37⟩
instance : IntT Try.prog 27 .i64 := ⟨Try.underlying27⟩

/-- The ring lies in memory. -/
def fineR (m : Nat) (base d : Int) (sz : Nat) : Prop := 2 ≤ d ∧ d ≤ 64 ∧ 0 ≤ base ∧ base ≤ m ∧ d * sz ≤ m - base
instance (m : Nat) (base d : Int) (sz : Nat) : Decidable (fineR m base d sz) := by unfold fineR; infer_instance

section
variable {w w0 : World} {M : Nat → Prop} {L : List Ch}

set_option maxHeartbeats 1000000 in
theorem made_any {V : Option Addr} {m c sz : Nat} {base d : Int} (hsz : sz = 64 ∨ sz = 16) (hm : m ≤ 1099511627776) (hS : St w0 M w L) :
    Calls Try.prog 27 #[.slice V m c, .int .i64 base, .int .i64 d, .int .i64 (sz : Int)] w fun x w' =>
      x = .returned (.tuple #[.agg #[.slice V m c, .int .i64 base, .int .i64 d, .int .i64 (sz : Int), .int .i64 0, .int .i64 0], .bool (decide (fineR m base d sz))]) ∧ St w0 M w' L := by
  (refine calls_of (P := Try.prog) _ Try.func27 rfl Try.ntmps27 (Nat.le_of_ble_eq_true rfl) ?_; dsimp only [argE, Nat.reduceAdd])
  (refine Reach.walk ?_; (repeat (first | ((with_reducible refine AllSt.mk ?_); (try clear hS); intro w hS) | ((with_reducible refine AllVw.mk ?_); intro V hV))))
  ((with_reducible apply WpL.al); (· assumption); (· exact rfl); (· exact rfl); clear hS)
  intro g w hS
  (refine Reach.walk ?_; (repeat (first | ((with_reducible refine AllSt.mk ?_); (try clear hS); intro w hS) | ((with_reducible refine AllVw.mk ?_); intro V hV))))
  refine WpL.cut (fun e' w' => w' = w ∧ e'.Has [(10, .bool (decide (fineR m base d sz))), (8, .pointer (some ⟨g, 0, none⟩)), (0, .slice V m c), (1, .int .i64 base), (2, .int .i64 d), (3, .int .i64 (sz : Int))]) ?_ ?_
  · have h : ¬ 2 ≤ d ∨ (2 ≤ d ∧ ¬ d ≤ 64) ∨ (2 ≤ d ∧ d ≤ 64 ∧ ¬ 0 ≤ base) ∨ (2 ≤ d ∧ d ≤ 64 ∧ 0 ≤ base ∧ ¬ base ≤ m) ∨ (2 ≤ d ∧ d ≤ 64 ∧ 0 ≤ base ∧ base ≤ m) := by omega
    rcases hsz with rfl | rfl <;> rcases h with h1 | ⟨h1, h2⟩ | ⟨h1, h2, h3⟩ | ⟨h1, h2, h3, h4⟩ | ⟨h1, h2, h3, h4⟩
    all_goals
      (refine Reach.walk ?_; (repeat (first | ((with_reducible refine AllSt.mk ?_); (try clear hS); intro w hS) | ((with_reducible refine AllVw.mk ?_); intro V hV))))
      refine ⟨rfl, boolV ?_, rfl, rfl, rfl, rfl, rfl, trivial⟩
      unfold fineR
      first
      | exact (decide_eq_false (by omega)).symm
      | exact decide_eq_decide.2 (by omega)
  rintro e w' ⟨rfl, he⟩
  obtain ⟨e0, rfl⟩ := he.eq
  clear he
  dsimp only [Env.sets]
  (refine Reach.walk ?_; (repeat (first | ((with_reducible refine AllSt.mk ?_); (try clear hS); intro w hS) | ((with_reducible refine AllVw.mk ?_); intro V hV))))
  refine WpL.det rfl (Det.build (cells := [.slice V m c, .int .i64 base, .int .i64 d, .int .i64 (sz : Int), .int .i64 0, .int .i64 0]) PVals.found rfl) ?_
  (refine Reach.walk ?_; (repeat (first | ((with_reducible refine AllSt.mk ?_); (try clear hS); intro w hS) | ((with_reducible refine AllVw.mk ?_); intro V hV))))
  (with_reducible apply doneQ_row2 Try.results27); (· exact slotFound); (· exact slotFound); (· assumption); (· exact Sel.found); (· exact rfl)
  exact ⟨rfl, hS.tail⟩
end
end Go.Proofs.Ytaengifldfgjcaa
