/-
  HealthSays: for every input the law returns true; each argument reads behind the call as it read before.
-/
import Derived.Test.YtdmnhhmnekkflaaHeaK
import Derived.Test.YtdmnhhmnekkflaaArgF
import Derived.Deep.CondSized
namespace Go.Proofs.Ytdmnhhmnekkflaa.healthSaysDone
open Go.Fk Go.RowKit Go.ChangeShapes Go.WideShapes Go.ChangeAt
set_option linter.unusedVariables false

theorem own : ownKnob Try.prog.godebug = none := by kernel_rfl
theorem laidOut : laidOutB Try.prog = true := by kernel_rfl

theorem contract (H : Type) (enc : TypeId × Value → H) (W : World) (base : Nat) (args : Array Value) (ds gs : List (DataW H)) (before : List MemPlace)
    (hval : ∀ (j : Nat) t v, Try.f4.params[j]? = some t → args[j]? = some v → Value.okWide Try.prog W .any base t v)
    (hW : DataW.Whole enc Try.prog Try.f4.params.toList Rows.healthSaysSpec.vars false W args.toList ds gs before)
    (hsz : (DataW.weightsEach Try.prog (Try.f4.params.toList ++ Rows.healthSaysSpec.plain.varTypes Try.prog) (ds ++ gs)).all (· ≤ reachBytes) = true) :
    Calls Try.prog 4 args W fun e W' => ∃ v, e = .returned v ∧ Rows.healthSaysSpec.post enc Try.prog Try.f4 false true false false W args v W' := by
  have hW' := hW
  obtain ⟨p, q, hA0, hV, rfl, hfz, hnd⟩ := hW
  have hA : DataW.TrodAll enc Try.prog W 0 (fun _ => true) true Try.f4.params.toList args.toList ds p := hA0
  rw [Try.params4] at hA hval hsz
  obtain ⟨v0, vs0, d0, ds0, p0, q0, hargs, rfl, rfl, h0, r0⟩ := trodAll_cons hA
  obtain ⟨v1, vs1, d1, ds1, p1, q1, rfl, rfl, rfl, h1, r1⟩ := trodAll_cons r0
  obtain ⟨v2, vs2, d2, ds2, p2, q2, rfl, rfl, rfl, h2, r2⟩ := trodAll_cons r1
  obtain ⟨rfl, rfl, rfl⟩ := trodAll_nil r2
  obtain rfl : args = #[v0, v1, v2] := by cases args; simp_all
  obtain ⟨rfl, rfl⟩ := trodVars_none hV
  have k0 := h0
  have lt0 : ∀ x ∈ p0, x.block < W.heap.size := by obtain ⟨m, hm⟩ := k0; exact DataW.trod_lt m _ _ _ hm
  obtain ⟨cs0, rfl, ak0⟩ := argFlat (ks := [.int .i64, .int .i64, .int .i64, .int .i64, .int .i64, .int .i64, .int .i64, .int .i64, .int .i64, .int .i64, .int .i64]) 9 Try.underlying42 (by kernel_rfl) (hval 0 42 v0 rfl rfl) h0
  obtain ⟨f0_0, rs0_0, rfl, g0_0, ak0_0⟩ := ak0.i64
  obtain ⟨f0_1, rs0_1, rfl, g0_1, ak0_1⟩ := ak0_0.i64
  obtain ⟨f0_2, rs0_2, rfl, g0_2, ak0_2⟩ := ak0_1.i64
  obtain ⟨f0_3, rs0_3, rfl, g0_3, ak0_3⟩ := ak0_2.i64
  obtain ⟨f0_4, rs0_4, rfl, g0_4, ak0_4⟩ := ak0_3.i64
  obtain ⟨f0_5, rs0_5, rfl, g0_5, ak0_5⟩ := ak0_4.i64
  obtain ⟨f0_6, rs0_6, rfl, g0_6, ak0_6⟩ := ak0_5.i64
  obtain ⟨f0_7, rs0_7, rfl, g0_7, ak0_7⟩ := ak0_6.i64
  obtain ⟨f0_8, rs0_8, rfl, g0_8, ak0_8⟩ := ak0_7.i64
  obtain ⟨f0_9, rs0_9, rfl, g0_9, ak0_9⟩ := ak0_8.i64
  obtain ⟨f0_10, rs0_10, rfl, g0_10, ak0_10⟩ := ak0_9.i64
  obtain rfl := ak0_10.nil
  obtain ⟨a1, rfl, rfl, rfl, w1⟩ := open_int Try.underlying3 (hval 1 3 v1 rfl rfl) h1
  have b1 : -9223372036854775808 ≤ a1 ∧ a1 ≤ 9223372036854775807 := by simpa [Lit.wf, IntKind.min, IntKind.max, IntKind.signed, IntKind.bits] using w1
  obtain ⟨a2, n2, c2, rfl⟩ := okWide_slice Try.underlying43 (hval 2 43 v2 rfl rfl)
  have k2 := h2
  have lt2 : ∀ x ∈ p2, x.block < W.heap.size := by obtain ⟨m, hm⟩ := k2; exact DataW.trod_lt m _ _ _ hm
  obtain ⟨cs2, hz2, hv2, hr2, hd2, hw2⟩ := argFlats (ks := [.int .i64, .int .i64, .int .i64]) 9 Try.underlying43 (by kernel_rfl) h2
  rw [show Try.prog.cellsOf 76 = 3 from by kernel_rfl] at hz2 hw2
  have hs2 : c2 ≤ 140737488351232 := by
    have h := sizedSlice hsz (j := 2) (t := 43) (e := 76) hd2 hv2.le rfl rfl Try.underlying43
    have hb : 1 ≤ Try.prog.bytesOf 76 := of_decide_eq_true (by kernel_rfl)
    have := Nat.mul_le_mul_left c2 hb
    simp only [reachBytes] at h; omega
  clear hA0 hval
  obtain ⟨ss, hss, rfl⟩ := sv_of c2 cs2 hz2 hw2
  have le2 := hv2.le
  refine (healthSays_any (ss := ss) (by omega) hv2 (by omega) W hr2).mono fun e W' ⟨he, bel⟩ => ?_
  subst he
  exact ⟨_, rfl, _, _, _, [], _, [], hW', trodAll_mk1 (shut_bool Try.underlying4 _), (trodAll_cons_mk (Below.trod laidOut (by kernel_rfl) (of_decide_eq_true (by kernel_rfl)) k0 bel lt0) (trodAll_cons_mk (shut_int Try.underlying3 w1) (trodAll_cons_mk (Below.trod laidOut (by kernel_rfl) (of_decide_eq_true (by kernel_rfl)) k2 bel lt2) trodAll_mk0))), rfl, bel.frame _, fun h => by cases h⟩

set_option maxRecDepth 100000 in
theorem lifted (os : Os) (started : os.Started) (H : Type) (enc : TypeId × Value → H) :
    ReturnsInHanded {} Try.checked os 4 .any (Rows.healthSaysSpec.pre6 enc Try.prog Try.f4 Rows.healthSaysRow.domain false) (Rows.healthSaysSpec.post enc Try.prog Try.f4 false true false false) := by
  refine returnsInHanded_of_change_sized (C := Try.checked) own started (by kernel_rfl) Try.func4
    (ChangeSpec.witness6 (enc := enc) (C := Try.checked) false ⟨#[], #[.agg #[.int .i64 0, .int .i64 0, .int .i64 0, .int .i64 0, .int .i64 0, .int .i64 0, .int .i64 0, .int .i64 0, .int .i64 0, .int .i64 0, .int .i64 0], .int .i64 0, .slice none 0 0], []⟩ 8 (by kernel_rfl) (by kernel_rfl) (by kernel_rfl) (by kernel_rfl)) ?_
  intro W base args ds gs before hval hW _ hsz _
  exact contract H enc W base args ds gs before hval hW hsz

theorem over : Rows.healthSaysRow.holds Try.pinned (OpenSpec.ofChange Rows.healthSaysSpec) :=
  OpenClaim.holds_of_wide 4 Try.f4 rfl rfl rfl rfl rfl rfl rfl ⟨rfl, rfl, rfl, rfl, rfl⟩ rfl rfl rfl rfl rfl (by kernel_rfl) Try.func4 (by kernel_rfl)
    (of_decide_eq_true (by kernel_rfl)) (by unfold Func.isWrapper; first | (rw [if_pos (by decide +kernel)]; kernel_rfl) | (rw [if_neg (by decide +kernel)]; exact ⟨rfl, rfl⟩))
    (fun os started H enc _ => lifted os started H enc)

theorem proved : Rows.HealthSaysSaid := over
end Go.Proofs.Ytdmnhhmnekkflaa.healthSaysDone
