/-
  EntryBack: for every input the law returns true; each argument reads behind the call as it read before.
-/
import Derived.Test.YtegepmndjiichaaEntN
import Derived.Test.YtegepmndjiichaaArgF
import Derived.Deep.CondSized
namespace Go.Proofs.Ytegepmndjiichaa.entryBackDone
open Go.Fk Go.RowKit Go.ChangeShapes Go.WideShapes Go.ChangeAt
set_option linter.unusedVariables false

theorem own : ownKnob Try.prog.godebug = none := by kernel_rfl
theorem laidOut : laidOutB Try.prog = true := by kernel_rfl

theorem contract (H : Type) (enc : TypeId × Value → H) (W : World) (base : Nat) (args : Array Value) (ds gs : List (DataW H)) (before : List MemPlace)
    (hval : ∀ (j : Nat) t v, Try.f7.params[j]? = some t → args[j]? = some v → Value.okWide Try.prog W .any base t v)
    (hW : DataW.Whole enc Try.prog Try.f7.params.toList Rows.entryBackSpec.vars false W args.toList ds gs before)
    (hsz : (DataW.weightsEach Try.prog (Try.f7.params.toList ++ Rows.entryBackSpec.plain.varTypes Try.prog) (ds ++ gs)).all (· ≤ reachBytes) = true) :
    Calls Try.prog 7 args W fun e W' => ∃ v, e = .returned v ∧ Rows.entryBackSpec.post enc Try.prog Try.f7 false true false false W args v W' := by
  have hW' := hW
  obtain ⟨p, q, hA0, hV, rfl, hfz, hnd⟩ := hW
  have hA : DataW.TrodAll enc Try.prog W 0 (fun _ => true) true Try.f7.params.toList args.toList ds p := hA0
  rw [Try.params7] at hA hval hsz
  obtain ⟨v0, vs0, d0, ds0, p0, q0, hargs, rfl, rfl, h0, r0⟩ := trodAll_cons hA
  obtain ⟨v1, vs1, d1, ds1, p1, q1, rfl, rfl, rfl, h1, r1⟩ := trodAll_cons r0
  obtain ⟨v2, vs2, d2, ds2, p2, q2, rfl, rfl, rfl, h2, r2⟩ := trodAll_cons r1
  obtain ⟨rfl, rfl, rfl⟩ := trodAll_nil r2
  obtain rfl : args = #[v0, v1, v2] := by cases args; simp_all
  obtain ⟨rfl, rfl⟩ := trodVars_none hV
  have k0 := h0
  have lt0 : ∀ x ∈ p0, x.block < W.heap.size := by obtain ⟨m, hm⟩ := k0; exact DataW.trod_lt m _ _ _ hm
  obtain ⟨cs0, rfl, ak0⟩ := argFlat (ks := [.int .i64, .int .i64, .int .i64, .int .u64, .int .u64, .int .i64, .bool]) 9 Try.underlying26 (by kernel_rfl) (hval 0 26 v0 rfl rfl) h0
  obtain ⟨f0_0, rs0_0, rfl, g0_0, ak0_0⟩ := ak0.i64
  obtain ⟨f0_1, rs0_1, rfl, g0_1, ak0_1⟩ := ak0_0.i64
  obtain ⟨f0_2, rs0_2, rfl, g0_2, ak0_2⟩ := ak0_1.i64
  obtain ⟨f0_3, rs0_3, rfl, g0_3, ak0_3⟩ := ak0_2.u64
  obtain ⟨f0_4, rs0_4, rfl, g0_4, ak0_4⟩ := ak0_3.u64
  obtain ⟨f0_5, rs0_5, rfl, g0_5, ak0_5⟩ := ak0_4.i64
  obtain ⟨f0_6, rs0_6, rfl, ak0_6⟩ := ak0_5.b
  obtain rfl := ak0_6.nil
  have k1 := h1
  have lt1 : ∀ x ∈ p1, x.block < W.heap.size := by obtain ⟨m, hm⟩ := k1; exact DataW.trod_lt m _ _ _ hm
  obtain ⟨cs1, rfl, ak1⟩ := argFlat (ks := [.int .u32, .int .i64, .int .i64, .int .i64, .bool, .int .i64]) 9 Try.underlying32 (by kernel_rfl) (hval 1 32 v1 rfl rfl) h1
  obtain ⟨f1_0, rs1_0, rfl, g1_0, ak1_0⟩ := ak1.u32
  obtain ⟨f1_1, rs1_1, rfl, g1_1, ak1_1⟩ := ak1_0.i64
  obtain ⟨f1_2, rs1_2, rfl, g1_2, ak1_2⟩ := ak1_1.i64
  obtain ⟨f1_3, rs1_3, rfl, g1_3, ak1_3⟩ := ak1_2.i64
  obtain ⟨f1_4, rs1_4, rfl, ak1_4⟩ := ak1_3.b
  obtain ⟨f1_5, rs1_5, rfl, g1_5, ak1_5⟩ := ak1_4.i64
  obtain rfl := ak1_5.nil
  obtain ⟨a2, n2, c2, rfl⟩ := okWide_slice Try.underlying22 (hval 2 22 v2 rfl rfl)
  have k2 := h2
  have lt2 : ∀ x ∈ p2, x.block < W.heap.size := by obtain ⟨m, hm⟩ := k2; exact DataW.trod_lt m _ _ _ hm
  obtain ⟨l2, hn2, hv2, hr2, hd2⟩ := argBytes2 Try.underlying22 Try.underlying5 (by kernel_rfl) h2
  have hs2 : c2 ≤ 140737488351232 := by
    have h := sizedSlice hsz (j := 2) (t := 22) (e := 5) hd2 hv2.le rfl rfl Try.underlying22
    rw [show Try.prog.bytesOf 5 = 1 from by kernel_rfl] at h
    simp only [reachBytes] at h; omega
  have le2 := hv2.le
  clear hA0 hval
  refine (entryBack_any f0_0 f0_1 f0_2 f0_5 f0_3 f0_4 f0_6 g0_3 g0_4 g0_5 f1_0 f1_1 f1_2 f1_3 f1_5 f1_4 g1_0 a2 l2 n2 c2 hn2 hv2 (by omega) W hr2).mono fun e W' ⟨he, bel⟩ => ?_
  subst he
  exact ⟨_, rfl, _, _, _, [], _, [], hW', trodAll_mk1 (shut_bool Try.underlying4 _), (trodAll_cons_mk (Below.trod laidOut (by kernel_rfl) (of_decide_eq_true (by kernel_rfl)) k0 bel lt0) (trodAll_cons_mk (Below.trod laidOut (by kernel_rfl) (of_decide_eq_true (by kernel_rfl)) k1 bel lt1) (trodAll_cons_mk (Below.trod laidOut (by kernel_rfl) (of_decide_eq_true (by kernel_rfl)) k2 bel lt2) trodAll_mk0))), rfl, bel.frame _, fun h => by cases h⟩

set_option maxRecDepth 100000 in
theorem lifted (os : Os) (started : os.Started) (H : Type) (enc : TypeId × Value → H) :
    ReturnsInHanded {} Try.checked os 7 .any (Rows.entryBackSpec.pre6 enc Try.prog Try.f7 Rows.entryBackRow.domain false) (Rows.entryBackSpec.post enc Try.prog Try.f7 false true false false) := by
  refine returnsInHanded_of_change_sized (C := Try.checked) own started (by kernel_rfl) Try.func7
    (ChangeSpec.witness6 (enc := enc) (C := Try.checked) false ⟨#[], #[.agg #[.int .i64 0, .int .i64 0, .int .i64 0, .int .u64 0, .int .u64 0, .int .i64 0, .bool false], .agg #[.int .u32 0, .int .i64 0, .int .i64 0, .int .i64 0, .bool false, .int .i64 0], .slice none 0 0], []⟩ 8 (by kernel_rfl) (by kernel_rfl) (by kernel_rfl) (by kernel_rfl)) ?_
  intro W base args ds gs before hval hW _ hsz _
  exact contract H enc W base args ds gs before hval hW hsz

theorem over : Rows.entryBackRow.holds Try.pinned (OpenSpec.ofChange Rows.entryBackSpec) :=
  OpenClaim.holds_of_wide 7 Try.f7 rfl rfl rfl rfl rfl rfl rfl ⟨rfl, rfl, rfl, rfl, rfl⟩ rfl rfl rfl rfl rfl (by kernel_rfl) Try.func7 (by kernel_rfl)
    (of_decide_eq_true (by kernel_rfl)) (by unfold Func.isWrapper; first | (rw [if_pos (by decide +kernel)]; kernel_rfl) | (rw [if_neg (by decide +kernel)]; exact ⟨rfl, rfl⟩))
    (fun os started H enc _ => lifted os started H enc)

theorem proved : Rows.EntryBackSaid := over
end Go.Proofs.Ytegepmndjiichaa.entryBackDone
