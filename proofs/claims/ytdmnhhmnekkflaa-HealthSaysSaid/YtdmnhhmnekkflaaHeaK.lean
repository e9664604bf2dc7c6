/-
  Spaces, as they come in.
-/
import Derived.Test.YtdmnhhmnekkflaaHeaJ
import Derived.Test.YtdmnhhmnekkflaaArgF
namespace Go.Proofs.Ytdmnhhmnekkflaa
open Go.Fk Go.RowKit
theorem sv_of : ∀ (n : Nat) (cs : List Value), cs.length = n * 3 → (∀ i, i < n → AllIs [.int .i64, .int .i64, .int .i64] ((cs.drop (i * 3)).take 3)) → ∃ ss : List Sp, ss.length = n ∧ cs = sv ss
  | 0, cs, h, _ => ⟨[], rfl, List.eq_nil_of_length_eq_zero (by simpa using h)⟩
  | n + 1, cs, h, hk => by
    have h0 := hk 0 (by omega)
    simp only [Nat.zero_mul, List.drop_zero] at h0
    obtain ⟨ss, h1, h2⟩ := sv_of n (cs.drop 3) (by rw [List.length_drop]; omega) fun i hi => by
      have := hk (i + 1) (by omega)
      rwa [show (i + 1) * 3 = 3 + i * 3 by omega, ← List.drop_drop] at this
    obtain ⟨a, r, h3, _, h4⟩ := h0.i64
    obtain ⟨b, r2, rfl, _, h5⟩ := h4.i64
    obtain ⟨c, r3, rfl, _, h6⟩ := h5.i64
    obtain rfl := h6.nil
    refine ⟨(a, b, c) :: ss, by simp [h1], ?_⟩
    rw [← List.take_append_drop 3 cs, h3, h2]
    rfl
end Go.Proofs.Ytdmnhhmnekkflaa
