/-
  Laws on elements: what the walks come to.
-/
import Derived.Test.YtkffgdccjgdiaaaGfS
import Derived.Test.YtkffgdccjgdiaaaGfM
namespace Go.Proofs.Ytkffgdccjgdiaaa
open Go.Fk Go.RowKit
attribute [local irreducible] Wp WpL Det thenQ blockQ
def I64 (z : Int) : Prop := -9223372036854775808 ≤ z ∧ z ≤ 9223372036854775807
section
variable {w w0 : World} {M : Nat → Prop} {L : List Ch} {m g : Nat} {F : FS}
theorem sizeF (h : Gf.Is m) (hI : FI w0 M g m L w) : Calls Try.prog 21 #[.pointer (some ⟨g, 0, none⟩)] w fun x w' => x = .returned (.int .i64 (Gf.sz m : Int)) ∧ FI w0 M g m L w' := by
  obtain ⟨F, hF, hS⟩ := hI
  refine (size_any h (lookM F) hS).mono ?_
  rintro x w1 ⟨rfl, rfl⟩
  exact ⟨rfl, F, hF, hS⟩
theorem addF (h : Gf.Is m) {y z : Int} {a b : Nat} (ha : inE m y = a) (hb : inE m z = b) (hI : FI w0 M g m L w) :
    Calls Try.prog 24 #[.pointer (some ⟨g, 0, none⟩), .int .i64 y, .int .i64 z] w fun x w' => x = .returned (.int .i64 ((a ^^^ b : Nat) : Int)) ∧ FI w0 M g m L w' := by
  subst ha hb
  obtain ⟨F, hF, hS⟩ := hI
  refine (add_any h (lookM F) hS).mono ?_
  rintro x w1 ⟨rfl, rfl⟩
  exact ⟨rfl, F, hF, hS⟩
theorem mulF (h : Gf.Is m) {y z : Int} {a b : Nat} (ha : inE m y = a) (hb : inE m z = b) (hI : FI w0 M g m L w) :
    Calls Try.prog 23 #[.pointer (some ⟨g, 0, none⟩), .int .i64 y, .int .i64 z] w fun x w' => x = .returned (.int .i64 (Gf.mul m a b : Nat)) ∧ FI w0 M g m L w' := by
  subst ha hb
  obtain ⟨F, hF, hS⟩ := hI
  exact mul_any h hF hS
theorem invF (h : Gf.Is m) {y : Int} {a : Nat} (ha : inE m y = a) (hI : FI w0 M g m L w) :
    Calls Try.prog 25 #[.pointer (some ⟨g, 0, none⟩), .int .i64 y] w fun x w' => x = .returned (.int .i64 (Gf.inv m a : Nat)) ∧ FI w0 M g m L w' := by
  subst ha
  obtain ⟨F, hF, hS⟩ := hI
  exact inv_any h hF hS
theorem powF (h : Gf.Is m) {y n : Int} {k : Nat} (hk : powZ m y n = k) (hn : I64 n) (hI : FI w0 M g m L w) :
    Calls Try.prog 33 #[.pointer (some ⟨g, 0, none⟩), .int .i64 y, .int .i64 n] w fun x w' => x = .returned (.int .i64 (k : Nat)) ∧ FI w0 M g m L w' := by
  subst hk
  obtain ⟨F, hF, hS⟩ := hI
  exact pow_any h hn hF hS
theorem logF (h : Gf.Is m) {y z : Int} (hz : logZ m y = z) (hI : FI w0 M g m L w) :
    Calls Try.prog 35 #[.pointer (some ⟨g, 0, none⟩), .int .i64 y] w fun x w' => x = .returned (.int .i64 z) ∧ FI w0 M g m L w' := by
  subst hz
  obtain ⟨F, hF, hS⟩ := hI
  exact log_any h hF hS
theorem expF (h : Gf.Is m) {n : Int} {k : Nat} (hk : Gf.E m (turn m n) = k) (hn : I64 n) (hI : FI w0 M g m L w) :
    Calls Try.prog 22 #[.pointer (some ⟨g, 0, none⟩), .int .i64 n] w fun x w' => x = .returned (.int .i64 (k : Nat)) ∧ FI w0 M g m L w' := by
  subst hk
  obtain ⟨F, hF, hS⟩ := hI
  exact exp_any h hn hF hS
theorem FI.toBelow {W w : World} (h : FI W (feet []) g m L w) : Below W.heap.size W w := let ⟨_, _, hS⟩ := h; hS.toBelow

theorem logZ_range (h : Gf.Is m) (z : Int) : -1 ≤ logZ m z ∧ logZ m z < 8191 := by
  have h1 := inE_lt h z
  have h2 := Gf.sz_le h
  unfold logZ
  split
  · omega
  · have := (Gf.lg_spec h (by assumption) h1).1
    omega
end

/-! ### The laws -/
theorem gfMakes_any {c : Int} (hc : I64 c) (W : World) : Calls Try.prog 7 #[.int .i64 c] W fun x w' => x = .returned (.bool true) ∧ Below W.heap.size W w' := by
  unfold I64 at hc
  (refine calls_of (P := Try.prog) _ Try.func7 rfl Try.ntmps7 (Nat.le_of_ble_eq_true rfl) ?_; dsimp only [argE, Nat.reduceAdd])
  (refine Reach.walk ?_; (repeat (first | ((with_reducible refine AllSt.mk ?_); (try clear hS); intro w hS) | ((with_reducible refine AllVw.mk ?_); intro V hV))))
  (with_reducible apply WpL.call); (· exact rfl); (· exact Try.call14); (· exact Vals.found)
  refine (awake_any (St.start W)).mono ?_
  rintro x w ⟨rfl, hS⟩
  refine ⟨_, rfl, ?_⟩
  (refine Reach.walk ?_; (repeat (first | ((with_reducible refine AllSt.mk ?_); (try clear hS); intro w hS) | ((with_reducible refine AllVw.mk ?_); intro V hV))))
  (with_reducible apply WpL.call); (· exact rfl); (· exact Try.call28); (· exact Vals.found)
  refine (new_any hS).mono ?_
  clear hS
  rintro x w (⟨⟨h1, h2⟩, g, rfl, hS⟩ | ⟨h, rfl, hS⟩)
  · refine ⟨_, rfl, ?_⟩
    obtain ⟨m, rfl⟩ := Int.eq_ofNat_of_zero_le (show 0 ≤ c by omega)
    rw [Int.toNat_natCast] at hS
    have hm : Gf.Is m := ⟨by omega, by omega⟩
    obtain ⟨e1, e2, e3⟩ := shl_sz hm
    (refine Reach.walk ?_; (repeat (first | ((with_reducible refine AllSt.mk ?_); (try clear hS); intro w hS) | ((with_reducible refine AllVw.mk ?_); intro V hV))))
    (with_reducible apply WpL.call); (· exact rfl); (· exact Try.call29); (· exact Vals.found)
    refine (fieldM_any (m := m) (lookM .zero) hS).mono ?_
    rintro x w1 ⟨rfl, rfl⟩
    refine ⟨_, rfl, ?_⟩
    (refine Reach.walk ?_; (repeat (first | ((with_reducible refine AllSt.mk ?_); (try clear hS); intro w hS) | ((with_reducible refine AllVw.mk ?_); intro V hV))))
    (with_reducible apply WpL.call); (· exact rfl); (· exact Try.call21); (· exact Vals.found)
    refine (size_any hm (lookM .zero) hS).mono ?_
    rintro x w1 ⟨rfl, rfl⟩
    refine ⟨_, rfl, ?_⟩
    have q1 : decide ((Gf.sz m : Int) = ((1 <<< m - 1 : Nat) : Int)) = true := decide_eq_true (by omega)
    (refine Reach.walk ?_; (repeat (first | ((with_reducible refine AllSt.mk ?_); (try clear hS); intro w hS) | ((with_reducible refine AllVw.mk ?_); intro V hV))))
    (with_reducible apply doneQ_one Try.results7); (· exact slotFound)
    exact ⟨by rw [q1], hS.toBelow⟩
  · refine ⟨_, rfl, ?_⟩
    by_cases h1 : c < 2
    · (refine Reach.walk ?_; (repeat (first | ((with_reducible refine AllSt.mk ?_); (try clear hS); intro w hS) | ((with_reducible refine AllVw.mk ?_); intro V hV))))
      (with_reducible apply doneQ_one Try.results7); (· exact slotFound)
      exact ⟨rfl, hS.toBelow⟩
    · have h2 : 13 < c := by omega
      (refine Reach.walk ?_; (repeat (first | ((with_reducible refine AllSt.mk ?_); (try clear hS); intro w hS) | ((with_reducible refine AllVw.mk ?_); intro V hV))))
      (with_reducible apply doneQ_one Try.results7); (· exact slotFound)
      exact ⟨rfl, hS.toBelow⟩

end Go.Proofs.Ytkffgdccjgdiaaa
