/-
  A script, as it comes in.
-/
import Derived.Test.YtaengifldfgjcaaRngI
import Derived.Test.YtaengifldfgjcaaArgF
namespace Go.Proofs.Ytaengifldfgjcaa
open Go.Fk Go.RowKit
theorem ov_of : ∀ (n : Nat) (cs : List Value), cs.length = n * 10 → (∀ i, i < n → AllIs [.int .i64, .int .i64, .int .i64, .int .u8, .int .u32, .int .i64, .int .i64, .int .i64, .bool, .int .i64] ((cs.drop (i * 10)).take 10)) → ∃ os : List ROp, os.length = n ∧ (∀ o ∈ os, o.Fits) ∧ cs = ov os
  | 0, cs, h, _ => ⟨[], rfl, fun o h => (by cases h), List.eq_nil_of_length_eq_zero (by simpa using h)⟩
  | n + 1, cs, h, hk => by
    have h0 := hk 0 (by omega)
    simp only [Nat.zero_mul, List.drop_zero] at h0
    obtain ⟨os, h1, hf, h2⟩ := ov_of n (cs.drop 10) (by rw [List.length_drop]; omega) fun i hi => by
      have := hk (i + 1) (by omega)
      rwa [show (i + 1) * 10 = 10 + i * 10 by omega, ← List.drop_drop] at this
    obtain ⟨a0, r0, h3, g0, k0⟩ := h0.i64
    obtain ⟨a1, r1, rfl, g1, k1⟩ := k0.i64
    obtain ⟨a2, r2, rfl, g2, k2⟩ := k1.i64
    obtain ⟨a3, r3, rfl, g3, k3⟩ := k2.u8
    obtain ⟨a4, r4, rfl, g4, k4⟩ := k3.u32
    obtain ⟨a5, r5, rfl, g5, k5⟩ := k4.i64
    obtain ⟨a6, r6, rfl, g6, k6⟩ := k5.i64
    obtain ⟨a7, r7, rfl, g7, k7⟩ := k6.i64
    obtain ⟨a8, r8, rfl, k8⟩ := k7.b
    obtain ⟨a9, r9, rfl, g9, k9⟩ := k8.i64
    obtain rfl := k9.nil
    refine ⟨⟨a0, a1, a2, a3, ⟨a4, a5, a6, a7, a8, a9⟩⟩ :: os, by simp [h1], ?_, ?_⟩
    · intro o ho
      rcases List.mem_cons.1 ho with rfl | ho
      · exact ⟨g0, g1, g2, g3, ⟨g4, g5, g6, g7, g9⟩⟩
      · exact hf o ho
    · rw [← List.take_append_drop 10 cs, h3, h2]
      rfl
end Go.Proofs.Ytaengifldfgjcaa
