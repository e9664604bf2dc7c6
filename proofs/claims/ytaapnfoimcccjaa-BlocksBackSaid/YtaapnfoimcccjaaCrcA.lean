/-
  Walks over crc: what the sums come to.
-/
import Derived.Test.YtaapnfoimcccjaaRows
import Derived.Test.YtaapnfoimcccjaaAuto
import Derived.Test.YtaapnfoimcccjaaCrcL
namespace Go.Proofs.Ytaapnfoimcccjaa
open Go.Fk Go.RowKit
attribute [local irreducible] Wp WpL Det thenQ blockQ

instance : IntT Try.prog 3 .i64 := ⟨Try.underlying3⟩
instance : IntT Try.prog 5 .u8 := ⟨Try.underlying5⟩
instance : IntT Try.prog 58 .u32 := ⟨Try.underlying58⟩
instance : IntT Try.prog 73 .u64 := ⟨Try.underlying73⟩
instance : IntT Try.prog 71 .u64 := ⟨Try.underlying71⟩
instance : SliceT Try.prog 49 5 := ⟨Try.underlying49⟩
instance : Cell1 Try.prog 5 := ⟨_, Try.underlying5, rfl⟩
instance : Cell1 Try.prog 58 := ⟨_, Try.underlying58, rfl⟩
instance : SizeT Try.prog 5 1 := ⟨by kernel_rfl⟩
instance : SizeT Try.prog 58 1 := ⟨by kernel_rfl⟩
instance : ArrT Try.prog 77 16 58 := ⟨Try.underlying77⟩


instance : SizeT Try.prog 77 16 := ⟨by kernel_rfl⟩
instance : RowT Try.prog 77 := ⟨_, Try.underlying77, rfl⟩
instance : Elem Try.prog 5 1 1 (.int .u8 0) := ⟨by kernel_rfl, rfl, by decide⟩
instance : Elem Try.prog 77 16 64 (.agg (Array.replicate 16 (.int .u32 0))) := ⟨by kernel_rfl, rfl, by decide⟩

def tabC : Array Value := #[.int .u32 0, .int .u32 498536548, .int .u32 997073096, .int .u32 651767980, .int .u32 1994146192, .int .u32 1802195444, .int .u32 1303535960, .int .u32 1342533948,
  .int .u32 3988292384, .int .u32 4027552580, .int .u32 3604390888, .int .u32 3412177804, .int .u32 2607071920, .int .u32 2262029012, .int .u32 2685067896, .int .u32 3183342108]
theorem tabC_at : ∀ j, j < 16 → tabC[j]? = some (.int .u32 ((Crc.tabN.getD j 0 : Nat) : Int)) := by
  intro j hj
  match j with
  | 0 | 1 | 2 | 3 | 4 | 5 | 6 | 7 | 8 | 9 | 10 | 11 | 12 | 13 | 14 | 15 => rfl
  | k + 16 => omega
theorem tabC_at' (j : Nat) (h : j < 16) : tabC[0 + j]? = some (.int .u32 ((Crc.tabN.getD j 0 : Nat) : Int)) := by rw [Nat.zero_add]; exact tabC_at j h
theorem tabC_one : ∀ v ∈ tabC.toList, v.oneCell' = true := by
  intro v hv
  simp only [tabC, List.mem_cons, List.not_mem_nil, or_false] at hv
  rcases hv with h | h | h | h | h | h | h | h | h | h | h | h | h | h | h | h <;> rw [h] <;> rfl

theorem steps_any (w : World) : Calls Try.prog 50 #[] w fun x w' => x = .returned (.agg tabC) ∧ Below w.heap.size w w' := by
  (refine calls_of (P := Try.prog) _ Try.func50 rfl Try.ntmps50 (Nat.le_of_ble_eq_true rfl) ?_; dsimp only [argE, Nat.reduceAdd])
  repeat (first | ((with_reducible apply WpL.det); (· exact rfl); (· exact Det.found)) | ((with_reducible apply WpL.nilN)) | ((with_reducible apply WpL.nil)) | ((with_reducible apply Wp.seq)) | ((with_reducible apply Wp.region)) | ((with_reducible apply thenQ_normal)) | ((with_reducible apply Wp.block)) | ((with_reducible apply Wp.skip)) | ((with_reducible apply Wp.ret)) | ((with_reducible apply Wp.exit)) | ((with_reducible apply thenQ_exit)) | ((with_reducible apply thenQ_ret)) | ((with_reducible apply blockQ_normal)) | ((with_reducible apply blockQ_ret)) | ((with_reducible apply blockQ_same)) | ((with_reducible apply blockQ_other); (· exact rfl)) | ((with_reducible apply WpL.unguard); (· exact rfl); (· exact rfl); (· exact boolFound)) | ((with_reducible apply WpL.skipG); (· exact rfl); (· exact rfl); (· exact boolFound); (· exact rfl)) | ((with_reducible apply Wp.condT); (· exact rfl); (· exact boolFound)) | ((with_reducible apply Wp.condF); (· exact rfl); (· exact boolFound)))
  refine WpL.alloc rfl ?_
  intro w1 hb1 hs1 hg1
  repeat (first | ((with_reducible apply WpL.det); (· exact rfl); (· exact Det.found)) | ((with_reducible apply WpL.nilN)) | ((with_reducible apply WpL.nil)) | ((with_reducible apply Wp.seq)) | ((with_reducible apply Wp.region)) | ((with_reducible apply thenQ_normal)) | ((with_reducible apply Wp.block)) | ((with_reducible apply Wp.skip)) | ((with_reducible apply Wp.ret)) | ((with_reducible apply Wp.exit)) | ((with_reducible apply thenQ_exit)) | ((with_reducible apply thenQ_ret)) | ((with_reducible apply blockQ_normal)) | ((with_reducible apply blockQ_ret)) | ((with_reducible apply blockQ_same)) | ((with_reducible apply blockQ_other); (· exact rfl)) | ((with_reducible apply WpL.unguard); (· exact rfl); (· exact rfl); (· exact boolFound)) | ((with_reducible apply WpL.skipG); (· exact rfl); (· exact rfl); (· exact boolFound); (· exact rfl)) | ((with_reducible apply Wp.condT); (· exact rfl); (· exact boolFound)) | ((with_reducible apply Wp.condF); (· exact rfl); (· exact boolFound)))
  refine WpL.run (v := .agg tabC) (w' := w1) rfl (by kernel_rfl) ?_
  refine WpL.storeRow (n := 16) rfl rfl rfl (by simp [Value.cells]) tabC_one hg1 ?_
  intro w2 hb2 hs2 hg2
  repeat (first | ((with_reducible apply WpL.det); (· exact rfl); (· exact Det.found)) | ((with_reducible apply WpL.nilN)) | ((with_reducible apply WpL.nil)) | ((with_reducible apply Wp.seq)) | ((with_reducible apply Wp.region)) | ((with_reducible apply thenQ_normal)) | ((with_reducible apply Wp.block)) | ((with_reducible apply Wp.skip)) | ((with_reducible apply Wp.ret)) | ((with_reducible apply Wp.exit)) | ((with_reducible apply thenQ_exit)) | ((with_reducible apply thenQ_ret)) | ((with_reducible apply blockQ_normal)) | ((with_reducible apply blockQ_ret)) | ((with_reducible apply blockQ_same)) | ((with_reducible apply blockQ_other); (· exact rfl)) | ((with_reducible apply WpL.unguard); (· exact rfl); (· exact rfl); (· exact boolFound)) | ((with_reducible apply WpL.skipG); (· exact rfl); (· exact rfl); (· exact boolFound); (· exact rfl)) | ((with_reducible apply Wp.condT); (· exact rfl); (· exact boolFound)) | ((with_reducible apply Wp.condF); (· exact rfl); (· exact boolFound)))
  exact doneQ_cell (n := 16) Try.results50 rfl hg2 rfl ⟨rfl, hb1.write hb2 (Nat.le_refl _)⟩

/-- Sum is More from 0 on. -/
theorem sum_of (b : Value) (w : World) (R : Ending → World → Prop) (h : Calls Try.prog 49 #[.int .u32 0, b] w R) (hR : ∀ x w, R x w → ∃ v, x = .returned v) :
    Calls Try.prog 43 #[b] w R := by
  (refine calls_of (P := Try.prog) _ Try.func43 rfl Try.ntmps43 (Nat.le_of_ble_eq_true rfl) ?_; dsimp only [argE, Nat.reduceAdd])
  repeat (first | ((with_reducible apply WpL.det); (· exact rfl); (· exact Det.found)) | ((with_reducible apply WpL.nilN)) | ((with_reducible apply WpL.nil)) | ((with_reducible apply Wp.seq)) | ((with_reducible apply Wp.region)) | ((with_reducible apply thenQ_normal)) | ((with_reducible apply Wp.block)) | ((with_reducible apply Wp.skip)) | ((with_reducible apply Wp.ret)) | ((with_reducible apply Wp.exit)) | ((with_reducible apply thenQ_exit)) | ((with_reducible apply thenQ_ret)) | ((with_reducible apply blockQ_normal)) | ((with_reducible apply blockQ_ret)) | ((with_reducible apply blockQ_same)) | ((with_reducible apply blockQ_other); (· exact rfl)) | ((with_reducible apply WpL.unguard); (· exact rfl); (· exact rfl); (· exact boolFound)) | ((with_reducible apply WpL.skipG); (· exact rfl); (· exact rfl); (· exact boolFound); (· exact rfl)) | ((with_reducible apply Wp.condT); (· exact rfl); (· exact boolFound)) | ((with_reducible apply Wp.condF); (· exact rfl); (· exact boolFound)))
  (with_reducible apply WpL.call); (· exact rfl); (· exact Try.call49); (· exact Vals.found)
  refine h.mono ?_
  intro x w' hx
  obtain ⟨v, rfl⟩ := hR _ _ hx
  refine ⟨v, rfl, ?_⟩
  repeat (first | ((with_reducible apply WpL.det); (· exact rfl); (· exact Det.found)) | ((with_reducible apply WpL.nilN)) | ((with_reducible apply WpL.nil)) | ((with_reducible apply Wp.seq)) | ((with_reducible apply Wp.region)) | ((with_reducible apply thenQ_normal)) | ((with_reducible apply Wp.block)) | ((with_reducible apply Wp.skip)) | ((with_reducible apply Wp.ret)) | ((with_reducible apply Wp.exit)) | ((with_reducible apply thenQ_exit)) | ((with_reducible apply thenQ_ret)) | ((with_reducible apply blockQ_normal)) | ((with_reducible apply blockQ_ret)) | ((with_reducible apply blockQ_same)) | ((with_reducible apply blockQ_other); (· exact rfl)) | ((with_reducible apply WpL.unguard); (· exact rfl); (· exact rfl); (· exact boolFound)) | ((with_reducible apply WpL.skipG); (· exact rfl); (· exact rfl); (· exact boolFound); (· exact rfl)) | ((with_reducible apply Wp.condT); (· exact rfl); (· exact boolFound)) | ((with_reducible apply Wp.condF); (· exact rfl); (· exact boolFound)))
  exact doneQ_one Try.results43 rfl hx
end Go.Proofs.Ytaapnfoimcccjaa
