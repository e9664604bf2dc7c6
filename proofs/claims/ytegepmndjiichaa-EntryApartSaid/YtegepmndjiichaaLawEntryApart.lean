/-
  EntryApart: for every input the law returns true; each argument reads behind the call as it read before.
-/
import Derived.Test.YtegepmndjiichaaEntM
import Derived.Test.YtegepmndjiichaaArgF
import Derived.Deep.CondSized
namespace Go.Proofs.Ytegepmndjiichaa.entryApartDone
open Go.Fk Go.RowKit Go.ChangeShapes Go.WideShapes Go.ChangeAt
set_option linter.unusedVariables false

theorem own : ownKnob Try.prog.godebug = none := by kernel_rfl
theorem laidOut : laidOutB Try.prog = true := by kernel_rfl

theorem contract (H : Type) (enc : TypeId × Value → H) (W : World) (base : Nat) (args : Array Value) (ds gs : List (DataW H)) (before : List MemPlace)
    (hval : ∀ (j : Nat) t v, Try.f5.params[j]? = some t → args[j]? = some v → Value.okWide Try.prog W .any base t v)
    (hW : DataW.Whole enc Try.prog Try.f5.params.toList Rows.entryApartSpec.vars false W args.toList ds gs before)
    (hsz : (DataW.weightsEach Try.prog (Try.f5.params.toList ++ Rows.entryApartSpec.plain.varTypes Try.prog) (ds ++ gs)).all (· ≤ reachBytes) = true) :
    Calls Try.prog 5 args W fun e W' => ∃ v, e = .returned v ∧ Rows.entryApartSpec.post enc Try.prog Try.f5 false true false false W args v W' := by
  have hW' := hW
  obtain ⟨p, q, hA0, hV, rfl, hfz, hnd⟩ := hW
  have hA : DataW.TrodAll enc Try.prog W 0 (fun _ => true) true Try.f5.params.toList args.toList ds p := hA0
  rw [Try.params5] at hA hval hsz
  obtain ⟨v0, vs0, d0, ds0, p0, q0, hargs, rfl, rfl, h0, r0⟩ := trodAll_cons hA
  obtain ⟨v1, vs1, d1, ds1, p1, q1, rfl, rfl, rfl, h1, r1⟩ := trodAll_cons r0
  obtain ⟨v2, vs2, d2, ds2, p2, q2, rfl, rfl, rfl, h2, r2⟩ := trodAll_cons r1
  obtain ⟨v3, vs3, d3, ds3, p3, q3, rfl, rfl, rfl, h3, r3⟩ := trodAll_cons r2
  obtain ⟨rfl, rfl, rfl⟩ := trodAll_nil r3
  obtain rfl : args = #[v0, v1, v2, v3] := by cases args; simp_all
  obtain ⟨rfl, rfl⟩ := trodVars_none hV
  have k0 := h0
  have lt0 : ∀ x ∈ p0, x.block < W.heap.size := by obtain ⟨m, hm⟩ := k0; exact DataW.trod_lt m _ _ _ hm
  obtain ⟨cs0, rfl, ak0⟩ := argFlat (ks := [.int .i64, .int .i64, .int .i64, .int .u64, .int .u64, .int .i64, .bool]) 9 Try.underlying26 (by kernel_rfl) (hval 0 26 v0 rfl rfl) h0
  obtain ⟨f0_0, rs0_0, rfl, g0_0, ak0_0⟩ := ak0.i64
  obtain ⟨f0_1, rs0_1, rfl, g0_1, ak0_1⟩ := ak0_0.i64
  obtain ⟨f0_2, rs0_2, rfl, g0_2, ak0_2⟩ := ak0_1.i64
  obtain ⟨f0_3, rs0_3, rfl, g0_3, ak0_3⟩ := ak0_2.u64
  obtain ⟨f0_4, rs0_4, rfl, g0_4, ak0_4⟩ := ak0_3.u64
  obtain ⟨f0_5, rs0_5, rfl, g0_5, ak0_5⟩ := ak0_4.i64
  obtain ⟨f0_6, rs0_6, rfl, ak0_6⟩ := ak0_5.b
  obtain rfl := ak0_6.nil
  have k1 := h1
  have lt1 : ∀ x ∈ p1, x.block < W.heap.size := by obtain ⟨m, hm⟩ := k1; exact DataW.trod_lt m _ _ _ hm
  obtain ⟨cs1, rfl, ak1⟩ := argFlat (ks := [.int .i64, .int .i64, .int .i64, .int .u64, .int .u64, .int .i64, .bool]) 9 Try.underlying26 (by kernel_rfl) (hval 1 26 v1 rfl rfl) h1
  obtain ⟨f1_0, rs1_0, rfl, g1_0, ak1_0⟩ := ak1.i64
  obtain ⟨f1_1, rs1_1, rfl, g1_1, ak1_1⟩ := ak1_0.i64
  obtain ⟨f1_2, rs1_2, rfl, g1_2, ak1_2⟩ := ak1_1.i64
  obtain ⟨f1_3, rs1_3, rfl, g1_3, ak1_3⟩ := ak1_2.u64
  obtain ⟨f1_4, rs1_4, rfl, g1_4, ak1_4⟩ := ak1_3.u64
  obtain ⟨f1_5, rs1_5, rfl, g1_5, ak1_5⟩ := ak1_4.i64
  obtain ⟨f1_6, rs1_6, rfl, ak1_6⟩ := ak1_5.b
  obtain rfl := ak1_6.nil
  have k2 := h2
  have lt2 : ∀ x ∈ p2, x.block < W.heap.size := by obtain ⟨m, hm⟩ := k2; exact DataW.trod_lt m _ _ _ hm
  obtain ⟨cs2, rfl, ak2⟩ := argFlat (ks := [.int .u32, .int .i64, .int .i64, .int .i64, .bool, .int .i64]) 9 Try.underlying32 (by kernel_rfl) (hval 2 32 v2 rfl rfl) h2
  obtain ⟨f2_0, rs2_0, rfl, g2_0, ak2_0⟩ := ak2.u32
  obtain ⟨f2_1, rs2_1, rfl, g2_1, ak2_1⟩ := ak2_0.i64
  obtain ⟨f2_2, rs2_2, rfl, g2_2, ak2_2⟩ := ak2_1.i64
  obtain ⟨f2_3, rs2_3, rfl, g2_3, ak2_3⟩ := ak2_2.i64
  obtain ⟨f2_4, rs2_4, rfl, ak2_4⟩ := ak2_3.b
  obtain ⟨f2_5, rs2_5, rfl, g2_5, ak2_5⟩ := ak2_4.i64
  obtain rfl := ak2_5.nil
  have k3 := h3
  have lt3 : ∀ x ∈ p3, x.block < W.heap.size := by obtain ⟨m, hm⟩ := k3; exact DataW.trod_lt m _ _ _ hm
  obtain ⟨cs3, rfl, ak3⟩ := argFlat (ks := [.int .u32, .int .i64, .int .i64, .int .i64, .bool, .int .i64]) 9 Try.underlying32 (by kernel_rfl) (hval 3 32 v3 rfl rfl) h3
  obtain ⟨f3_0, rs3_0, rfl, g3_0, ak3_0⟩ := ak3.u32
  obtain ⟨f3_1, rs3_1, rfl, g3_1, ak3_1⟩ := ak3_0.i64
  obtain ⟨f3_2, rs3_2, rfl, g3_2, ak3_2⟩ := ak3_1.i64
  obtain ⟨f3_3, rs3_3, rfl, g3_3, ak3_3⟩ := ak3_2.i64
  obtain ⟨f3_4, rs3_4, rfl, ak3_4⟩ := ak3_3.b
  obtain ⟨f3_5, rs3_5, rfl, g3_5, ak3_5⟩ := ak3_4.i64
  obtain rfl := ak3_5.nil
  clear hA0 hval
  refine (entryApart_any f0_0 f0_1 f0_2 f0_5 f0_3 f0_4 f0_6 g0_3 g0_4 g0_5 f1_0 f1_1 f1_2 f1_5 f1_3 f1_4 f1_6 g1_3 g1_4 g1_5 f2_0 f2_1 f2_2 f2_3 f2_5 f2_4 g2_0 f3_0 f3_1 f3_2 f3_3 f3_5 f3_4 g3_0 W).mono fun e W' ⟨he, bel⟩ => ?_
  subst he
  exact ⟨_, rfl, _, _, _, [], _, [], hW', trodAll_mk1 (shut_bool Try.underlying4 _), (trodAll_cons_mk (Below.trod laidOut (by kernel_rfl) (of_decide_eq_true (by kernel_rfl)) k0 bel lt0) (trodAll_cons_mk (Below.trod laidOut (by kernel_rfl) (of_decide_eq_true (by kernel_rfl)) k1 bel lt1) (trodAll_cons_mk (Below.trod laidOut (by kernel_rfl) (of_decide_eq_true (by kernel_rfl)) k2 bel lt2) (trodAll_cons_mk (Below.trod laidOut (by kernel_rfl) (of_decide_eq_true (by kernel_rfl)) k3 bel lt3) trodAll_mk0)))), rfl, bel.frame _, fun h => by cases h⟩

set_option maxRecDepth 100000 in
theorem lifted (os : Os) (started : os.Started) (H : Type) (enc : TypeId × Value → H) :
    ReturnsInHanded {} Try.checked os 5 .any (Rows.entryApartSpec.pre6 enc Try.prog Try.f5 Rows.entryApartRow.domain false) (Rows.entryApartSpec.post enc Try.prog Try.f5 false true false false) := by
  refine returnsInHanded_of_change_sized (C := Try.checked) own started (by kernel_rfl) Try.func5
    (ChangeSpec.witness6 (enc := enc) (C := Try.checked) false ⟨#[], #[.agg #[.int .i64 0, .int .i64 0, .int .i64 0, .int .u64 0, .int .u64 0, .int .i64 0, .bool false], .agg #[.int .i64 0, .int .i64 0, .int .i64 0, .int .u64 0, .int .u64 0, .int .i64 0, .bool false], .agg #[.int .u32 0, .int .i64 0, .int .i64 0, .int .i64 0, .bool false, .int .i64 0], .agg #[.int .u32 0, .int .i64 0, .int .i64 0, .int .i64 0, .bool false, .int .i64 0]], []⟩ 8 (by kernel_rfl) (by kernel_rfl) (by kernel_rfl) (by kernel_rfl)) ?_
  intro W base args ds gs before hval hW _ hsz _
  exact contract H enc W base args ds gs before hval hW hsz

theorem over : Rows.entryApartRow.holds Try.pinned (OpenSpec.ofChange Rows.entryApartSpec) :=
  OpenClaim.holds_of_wide 5 Try.f5 rfl rfl rfl rfl rfl rfl rfl ⟨rfl, rfl, rfl, rfl, rfl⟩ rfl rfl rfl rfl rfl (by kernel_rfl) Try.func5 (by kernel_rfl)
    (of_decide_eq_true (by kernel_rfl)) (by unfold Func.isWrapper; first | (rw [if_pos (by decide +kernel)]; kernel_rfl) | (rw [if_neg (by decide +kernel)]; exact ⟨rfl, rfl⟩))
    (fun os started H enc _ => lifted os started H enc)

theorem proved : Rows.EntryApartSaid := over
end Go.Proofs.Ytegepmndjiichaa.entryApartDone
