/-
  Calls out of an argument.
-/
import Derived.Test.YtaapnfoimcccjaaBlkN
import Derived.Test.YtaapnfoimcccjaaArgF
namespace Go.Proofs.Ytaapnfoimcccjaa
open Go.Fk Go.RowKit
theorem tv_of : ∀ (n : Nat) (cs : List Value), cs.length = n * 3 → (∀ i, i < n → AllIs [.int .i64, .int .i64, .int .i64] ((cs.drop (i * 3)).take 3)) → ∃ ss : List Tr, ss.length = n ∧ (∀ s ∈ ss, TrIn s) ∧ cs = tv ss
  | 0, cs, h, _ => ⟨[], rfl, fun s hs => (by cases hs), List.eq_nil_of_length_eq_zero (by simpa using h)⟩
  | n + 1, cs, h, hk => by
    have h0 := hk 0 (by omega)
    simp only [Nat.zero_mul, List.drop_zero] at h0
    obtain ⟨ss, h1, h1b, h2⟩ := tv_of n (cs.drop 3) (by rw [List.length_drop]; omega) fun i hi => by
      have := hk (i + 1) (by omega)
      rwa [show (i + 1) * 3 = 3 + i * 3 by omega, ← List.drop_drop] at this
    obtain ⟨a, r, h3, b1, h4⟩ := h0.i64
    obtain ⟨b, r2, rfl, b2, h5⟩ := h4.i64
    obtain ⟨c, r3, rfl, b3, h6⟩ := h5.i64
    obtain rfl := h6.nil
    refine ⟨(a, b, c) :: ss, by simp [h1], fun s hs => ?_, ?_⟩
    · rcases List.mem_cons.1 hs with rfl | hs
      · exact ⟨b1, b2, b3⟩
      · exact h1b s hs
    rw [← List.take_append_drop 3 cs, h3, h2]
    rfl
end Go.Proofs.Ytaapnfoimcccjaa
