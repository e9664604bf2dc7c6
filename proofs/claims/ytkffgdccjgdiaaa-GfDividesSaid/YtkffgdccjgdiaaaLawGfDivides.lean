/-
  GfDivides: for every input the law returns true; each argument reads behind the call as it read before.
-/
import Derived.Test.YtkffgdccjgdiaaaGfYd
import Derived.Test.YtkffgdccjgdiaaaArgF
import Derived.Deep.CondSized
namespace Go.Proofs.Ytkffgdccjgdiaaa.gfDividesDone
open Go.Fk Go.RowKit Go.ChangeShapes Go.WideShapes Go.ChangeAt
set_option linter.unusedVariables false

theorem own : ownKnob Try.prog.godebug = none := by kernel_rfl
theorem laidOut : laidOutB Try.prog = true := by kernel_rfl

theorem contract (H : Type) (enc : TypeId × Value → H) (W : World) (base : Nat) (args : Array Value) (ds gs : List (DataW H)) (before : List MemPlace)
    (hval : ∀ (j : Nat) t v, Try.f12.params[j]? = some t → args[j]? = some v → Value.okWide Try.prog W .any base t v)
    (hW : DataW.Whole enc Try.prog Try.f12.params.toList Rows.gfDividesSpec.vars false W args.toList ds gs before)
    (hsz : (DataW.weightsEach Try.prog (Try.f12.params.toList ++ Rows.gfDividesSpec.plain.varTypes Try.prog) (ds ++ gs)).all (· ≤ reachBytes) = true) :
    Calls Try.prog 12 args W fun e W' => ∃ v, e = .returned v ∧ Rows.gfDividesSpec.post enc Try.prog Try.f12 false true false false W args v W' := by
  have hW' := hW
  obtain ⟨p, q, hA0, hV, rfl, hfz, hnd⟩ := hW
  have hA : DataW.TrodAll enc Try.prog W 0 (fun _ => true) true Try.f12.params.toList args.toList ds p := hA0
  rw [Try.params12] at hA hval hsz
  obtain ⟨v0, vs0, d0, ds0, p0, q0, hargs, rfl, rfl, h0, r0⟩ := trodAll_cons hA
  obtain ⟨v1, vs1, d1, ds1, p1, q1, rfl, rfl, rfl, h1, r1⟩ := trodAll_cons r0
  obtain ⟨v2, vs2, d2, ds2, p2, q2, rfl, rfl, rfl, h2, r2⟩ := trodAll_cons r1
  obtain ⟨v3, vs3, d3, ds3, p3, q3, rfl, rfl, rfl, h3, r3⟩ := trodAll_cons r2
  obtain ⟨rfl, rfl, rfl⟩ := trodAll_nil r3
  obtain rfl : args = #[v0, v1, v2, v3] := by cases args; simp_all
  obtain ⟨rfl, rfl⟩ := trodVars_none hV
  obtain ⟨a0, rfl, rfl, rfl, w0⟩ := open_int Try.underlying3 (hval 0 3 v0 rfl rfl) h0
  have b0 : -9223372036854775808 ≤ a0 ∧ a0 ≤ 9223372036854775807 := by simpa [Lit.wf, IntKind.min, IntKind.max, IntKind.signed, IntKind.bits] using w0
  obtain ⟨a1, n1, c1, rfl⟩ := okWide_slice Try.underlying26 (hval 1 26 v1 rfl rfl)
  have k1 := h1
  have lt1 : ∀ x ∈ p1, x.block < W.heap.size := by obtain ⟨m, hm⟩ := k1; exact DataW.trod_lt m _ _ _ hm
  obtain ⟨z1, hz1, hv1, hr1, hd1, hw1⟩ := argInts2 Try.underlying26 Try.underlying3 (by kernel_rfl) h1
  have hs1 : c1 ≤ 140737488351232 := by
    have h := sizedSlice hsz (j := 1) (t := 26) (e := 3) hd1 hv1.le rfl rfl Try.underlying26
    rw [show Try.prog.bytesOf 3 = 8 from by kernel_rfl] at h
    simp only [reachBytes] at h; omega
  have le1 := hv1.le
  obtain ⟨a2, n2, c2, rfl⟩ := okWide_slice Try.underlying26 (hval 2 26 v2 rfl rfl)
  have k2 := h2
  have lt2 : ∀ x ∈ p2, x.block < W.heap.size := by obtain ⟨m, hm⟩ := k2; exact DataW.trod_lt m _ _ _ hm
  obtain ⟨z2, hz2, hv2, hr2, hd2, hw2⟩ := argInts2 Try.underlying26 Try.underlying3 (by kernel_rfl) h2
  have hs2 : c2 ≤ 140737488351232 := by
    have h := sizedSlice hsz (j := 2) (t := 26) (e := 3) hd2 hv2.le rfl rfl Try.underlying26
    rw [show Try.prog.bytesOf 3 = 8 from by kernel_rfl] at h
    simp only [reachBytes] at h; omega
  have le2 := hv2.le
  obtain ⟨a3, n3, c3, rfl⟩ := okWide_slice Try.underlying26 (hval 3 26 v3 rfl rfl)
  have k3 := h3
  have lt3 : ∀ x ∈ p3, x.block < W.heap.size := by obtain ⟨m, hm⟩ := k3; exact DataW.trod_lt m _ _ _ hm
  obtain ⟨z3, hz3, hv3, hr3, hd3, hw3⟩ := argInts2 Try.underlying26 Try.underlying3 (by kernel_rfl) h3
  have hs3 : c3 ≤ 140737488351232 := by
    have h := sizedSlice hsz (j := 3) (t := 26) (e := 3) hd3 hv3.le rfl rfl Try.underlying26
    rw [show Try.prog.bytesOf 3 = 8 from by kernel_rfl] at h
    simp only [reachBytes] at h; omega
  have le3 := hv3.le
  clear hA0 hval
  have hq1 : Rd W a1 (zv (z1.take n1)) := by have h := hv1.rd hr1 (Nat.le_refl _); rwa [List.drop_zero, ← zv_take] at h
  have hl1 : (z1.take n1).length = n1 := by rw [List.length_take]; omega
  have hq2 : Rd W a2 (zv (z2.take n2)) := by have h := hv2.rd hr2 (Nat.le_refl _); rwa [List.drop_zero, ← zv_take] at h
  have hl2 : (z2.take n2).length = n2 := by rw [List.length_take]; omega
  have hq3 : Rd W a3 (zv (z3.take n3)) := by have h := hv3.rd hr3 (Nat.le_refl _); rwa [List.drop_zero, ← zv_take] at h
  have hl3 : (z3.take n3).length = n3 := by rw [List.length_take]; omega
  refine (gfDivides_any b0 hl1 hv1 (by omega) hl2 hv2 (by omega) hl3 hv3 (by omega) W hq1 hq2 hq3).mono fun e W' ⟨he, bel⟩ => ?_
  subst he
  exact ⟨_, rfl, _, _, _, [], _, [], hW', trodAll_mk1 (shut_bool Try.underlying4 _), (trodAll_cons_mk (shut_int Try.underlying3 w0) (trodAll_cons_mk (Below.trod laidOut (by kernel_rfl) (of_decide_eq_true (by kernel_rfl)) k1 bel lt1) (trodAll_cons_mk (Below.trod laidOut (by kernel_rfl) (of_decide_eq_true (by kernel_rfl)) k2 bel lt2) (trodAll_cons_mk (Below.trod laidOut (by kernel_rfl) (of_decide_eq_true (by kernel_rfl)) k3 bel lt3) trodAll_mk0)))), rfl, bel.frame _, fun h => by cases h⟩

set_option maxRecDepth 100000 in
theorem lifted (os : Os) (started : os.Started) (H : Type) (enc : TypeId × Value → H) :
    ReturnsInHanded {} Try.checked os 12 .any (Rows.gfDividesSpec.pre6 enc Try.prog Try.f12 Rows.gfDividesRow.domain false) (Rows.gfDividesSpec.post enc Try.prog Try.f12 false true false false) := by
  refine returnsInHanded_of_change_sized (C := Try.checked) own started (by kernel_rfl) Try.func12
    (ChangeSpec.witness6 (enc := enc) (C := Try.checked) false ⟨#[], #[.int .i64 0, .slice none 0 0, .slice none 0 0, .slice none 0 0], []⟩ 8 (by kernel_rfl) (by kernel_rfl) (by kernel_rfl) (by kernel_rfl)) ?_
  intro W base args ds gs before hval hW _ hsz _
  exact contract H enc W base args ds gs before hval hW hsz

theorem over : Rows.gfDividesRow.holds Try.pinned (OpenSpec.ofChange Rows.gfDividesSpec) :=
  OpenClaim.holds_of_wide 12 Try.f12 rfl rfl rfl rfl rfl rfl rfl ⟨rfl, rfl, rfl, rfl, rfl⟩ rfl rfl rfl rfl rfl (by kernel_rfl) Try.func12 (by kernel_rfl)
    (of_decide_eq_true (by kernel_rfl)) (by unfold Func.isWrapper; first | (rw [if_pos (by decide +kernel)]; kernel_rfl) | (rw [if_neg (by decide +kernel)]; exact ⟨rfl, rfl⟩))
    (fun os started H enc _ => lifted os started H enc)

theorem proved : Rows.GfDividesSaid := over
end Go.Proofs.Ytkffgdccjgdiaaa.gfDividesDone
