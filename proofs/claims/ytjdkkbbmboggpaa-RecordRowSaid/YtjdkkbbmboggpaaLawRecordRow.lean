/-
  RecordRow: for every input the law returns true; each argument reads behind the call as it read before.
-/
import Derived.Test.YtjdkkbbmboggpaaRecH
import Derived.Test.YtjdkkbbmboggpaaArgF
import Derived.Deep.CondSized
namespace Go.Proofs.Ytjdkkbbmboggpaa.recordRowDone
open Go.Fk Go.RowKit Go.ChangeShapes Go.WideShapes Go.ChangeAt
set_option linter.unusedVariables false

theorem own : ownKnob Try.prog.godebug = none := by kernel_rfl
theorem laidOut : laidOutB Try.prog = true := by kernel_rfl

theorem contract (H : Type) (enc : TypeId × Value → H) (W : World) (base : Nat) (args : Array Value) (ds gs : List (DataW H)) (before : List MemPlace)
    (hval : ∀ (j : Nat) t v, Try.f5.params[j]? = some t → args[j]? = some v → Value.okWide Try.prog W .any base t v)
    (hW : DataW.Whole enc Try.prog Try.f5.params.toList Rows.recordRowSpec.vars false W args.toList ds gs before)
    (hsz : (DataW.weightsEach Try.prog (Try.f5.params.toList ++ Rows.recordRowSpec.plain.varTypes Try.prog) (ds ++ gs)).all (· ≤ reachBytes) = true) :
    Calls Try.prog 5 args W fun e W' => ∃ v, e = .returned v ∧ Rows.recordRowSpec.post enc Try.prog Try.f5 false true false false W args v W' := by
  have hW' := hW
  obtain ⟨p, q, hA0, hV, rfl, hfz, hnd⟩ := hW
  have hA : DataW.TrodAll enc Try.prog W 0 (fun _ => true) true Try.f5.params.toList args.toList ds p := hA0
  rw [Try.params5] at hA hval hsz
  obtain ⟨v0, vs0, d0, ds0, p0, q0, hargs, rfl, rfl, h0, r0⟩ := trodAll_cons hA
  obtain ⟨v1, vs1, d1, ds1, p1, q1, rfl, rfl, rfl, h1, r1⟩ := trodAll_cons r0
  obtain ⟨rfl, rfl, rfl⟩ := trodAll_nil r1
  obtain rfl : args = #[v0, v1] := by cases args; simp_all
  obtain ⟨rfl, rfl⟩ := trodVars_none hV
  obtain ⟨a0, n0, c0, rfl⟩ := okWide_slice Try.underlying34 (hval 0 34 v0 rfl rfl)
  have k0 := h0
  have lt0 : ∀ x ∈ p0, x.block < W.heap.size := by obtain ⟨m, hm⟩ := k0; exact DataW.trod_lt m _ _ _ hm
  obtain ⟨cs0, hz0, hv0, hr0, hd0, hw0⟩ := argFlats (ks := [.int .i64, .int .u64, .int .u64, .int .u64, .int .u64]) 9 Try.underlying34 (by kernel_rfl) h0
  rw [show Try.prog.cellsOf 24 = 5 from by kernel_rfl] at hz0 hw0
  have hs0 : c0 ≤ 140737488351232 := by
    have h := sizedSlice hsz (j := 0) (t := 34) (e := 24) hd0 hv0.le rfl rfl Try.underlying34
    have hb : 1 ≤ Try.prog.bytesOf 24 := of_decide_eq_true (by kernel_rfl)
    have := Nat.mul_le_mul_left c0 hb
    simp only [reachBytes] at h; omega
  obtain ⟨a1, n1, c1, rfl⟩ := okWide_slice Try.underlying25 (hval 1 25 v1 rfl rfl)
  have k1 := h1
  have lt1 : ∀ x ∈ p1, x.block < W.heap.size := by obtain ⟨m, hm⟩ := k1; exact DataW.trod_lt m _ _ _ hm
  obtain ⟨l1, hn1, hv1, hr1, hd1⟩ := argBytes2 Try.underlying25 Try.underlying5 (by kernel_rfl) h1
  have hs1 : c1 ≤ 140737488351232 := by
    have h := sizedSlice hsz (j := 1) (t := 25) (e := 5) hd1 hv1.le rfl rfl Try.underlying25
    rw [show Try.prog.bytesOf 5 = 1 from by kernel_rfl] at h
    simp only [reachBytes] at h; omega
  have le1 := hv1.le
  clear hA0 hval
  have le0 := hv0.le
  obtain ⟨rs, hrl, rfl, hrs⟩ := rv_of c0 cs0 hz0 hw0
  refine (recordRow_any (rs := rs) (by omega) hv0 (by omega) hrs hn1 hv1 (by omega) W hr0 hr1).mono fun e W' ⟨he, bel⟩ => ?_
  subst he
  exact ⟨_, rfl, _, _, _, [], _, [], hW', trodAll_mk1 (shut_bool Try.underlying4 _), (trodAll_cons_mk (Below.trod laidOut (by kernel_rfl) (of_decide_eq_true (by kernel_rfl)) k0 bel lt0) (trodAll_cons_mk (Below.trod laidOut (by kernel_rfl) (of_decide_eq_true (by kernel_rfl)) k1 bel lt1) trodAll_mk0)), rfl, bel.frame _, fun h => by cases h⟩

set_option maxRecDepth 100000 in
theorem lifted (os : Os) (started : os.Started) (H : Type) (enc : TypeId × Value → H) :
    ReturnsInHanded {} Try.checked os 5 .any (Rows.recordRowSpec.pre6 enc Try.prog Try.f5 Rows.recordRowRow.domain false) (Rows.recordRowSpec.post enc Try.prog Try.f5 false true false false) := by
  refine returnsInHanded_of_change_sized (C := Try.checked) own started (by kernel_rfl) Try.func5
    (ChangeSpec.witness6 (enc := enc) (C := Try.checked) false ⟨#[], #[.slice none 0 0, .slice none 0 0], []⟩ 8 (by kernel_rfl) (by kernel_rfl) (by kernel_rfl) (by kernel_rfl)) ?_
  intro W base args ds gs before hval hW _ hsz _
  exact contract H enc W base args ds gs before hval hW hsz

theorem over : Rows.recordRowRow.holds Try.pinned (OpenSpec.ofChange Rows.recordRowSpec) :=
  OpenClaim.holds_of_wide 5 Try.f5 rfl rfl rfl rfl rfl rfl rfl ⟨rfl, rfl, rfl, rfl, rfl⟩ rfl rfl rfl rfl rfl (by kernel_rfl) Try.func5 (by kernel_rfl)
    (of_decide_eq_true (by kernel_rfl)) (by unfold Func.isWrapper; first | (rw [if_pos (by decide +kernel)]; kernel_rfl) | (rw [if_neg (by decide +kernel)]; exact ⟨rfl, rfl⟩))
    (fun os started H enc _ => lifted os started H enc)

theorem proved : Rows.RecordRowSaid := over
end Go.Proofs.Ytjdkkbbmboggpaa.recordRowDone
