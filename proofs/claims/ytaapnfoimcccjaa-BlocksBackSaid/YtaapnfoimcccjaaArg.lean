/-
  What a law is told of its arguments: slices of bytes and of numbers as they come in. It holds for any program; conditions stand at each theorem.
-/
import Derived.Test.YtaapnfoimcccjaaRows
import Derived.Test.YtaapnfoimcccjaaMem2
import Derived.ProofKit
import Derived.OpenShut
import Derived.ShutString
import Derived.ChangeOld
import Derived.SizedLaws
import Derived.JoinedCond
namespace Go.Fk
open Go.RowKit Go.ChangeShapes Go.WideShapes Go.ChangeAt

/-- What a slice reads as. -/
def SliceD {H : Type} (d : DataW H) (len cap : Nat) : Prop := (d = .nil ∧ len = 0 ∧ cap = 0) ∨ ∃ elems spare : List (DataW H), d = .slice elems spare ∧ elems.length = len ∧ spare.length = cap - len

section
variable {H : Type} {enc : TypeId × Value → H} {P : Program} {W : World}
theorem argInts {t el : TypeId} {k : IntKind} (ht : P.underlying t = some (.slice el)) (he : P.underlying el = some (.int k)) (hc : P.cellsOf el = 1) {A : Option Addr} {len cap : Nat} {d : DataW H} {p : List MemPlace}
    (h : DataW.Trod enc P W 0 (fun _ => true) true t (.slice A len cap) d p) :
    ∃ zs : List Int, zs.length = cap ∧ len ≤ cap ∧ cap ≤ maxLen ∧ Rd W A (zs.map (Value.int k)) ∧ SliceD d len cap ∧ ∀ z ∈ zs, (Lit.int k z).wf = true := by
  obtain ⟨fuel, hf⟩ := h
  rcases open_ints ht he hc hf with ⟨hcs, hx⟩ | ⟨a, l, c, zs, hcs, _, hl, hm, hz, hx, hcell, hwz⟩
  · simp [Value.cells] at hcs
    obtain ⟨rfl, rfl, rfl⟩ := hcs
    simp only [Prod.mk.injEq] at hx
    exact ⟨[], rfl, Nat.le_refl _, Nat.zero_le _, .inl rfl, .inl ⟨hx.1, rfl, rfl⟩, by simp⟩
  · simp [Value.cells] at hcs
    obtain ⟨rfl, rfl, rfl⟩ := hcs
    simp only [if_true] at hz
    simp only [Prod.mk.injEq] at hx
    refine ⟨zs, hz, hl, hm, .inr ⟨a, rfl, fun j u hu => ?_⟩, .inr ⟨_, _, hx.1, by simp [lits]; omega, by simp [lits]; omega⟩, hwz⟩
    rw [List.getElem?_map] at hu
    cases hj : zs[j]? with
    | none => rw [hj] at hu; cases hu
    | some z =>
      rw [hj] at hu
      have hjl := (List.getElem?_eq_some_iff.1 hj).1
      rw [hcell j hjl, ← hu]
      simp [List.getD_eq_getElem?_getD, hj]

theorem argBytes {t el : TypeId} (ht : P.underlying t = some (.slice el)) (he : P.underlying el = some (.int .u8)) (hc : P.cellsOf el = 1) {A : Option Addr} {len cap : Nat} {d : DataW H} {p : List MemPlace}
    (h : DataW.Trod enc P W 0 (fun _ => true) true t (.slice A len cap) d p) :
    ∃ l : List UInt8, l.length = len ∧ len ≤ cap ∧ cap ≤ maxLen ∧ Rd W A (bv l) ∧ SliceD d len cap := by
  obtain ⟨zs, hz, hl, hm, hr, hd, hw⟩ := argInts ht he hc h
  refine ⟨(zs.take len).map fun z => UInt8.ofNat z.toNat, by simp; omega, hl, hm, ?_, hd⟩
  have e1 : bv ((zs.take len).map fun z => UInt8.ofNat z.toNat) = (zs.map (Value.int .u8)).take len := by
    rw [← List.map_take, bv, List.map_map]
    refine List.map_congr_left fun z hz' => ?_
    have hzw := hw z (List.mem_of_mem_take hz')
    simp [Lit.wf, IntKind.min, IntKind.max, IntKind.signed, IntKind.bits] at hzw
    simp only [Function.comp]
    refine int_eq ?_
    have : (UInt8.ofNat z.toNat).toNat = z.toNat % 256 := by simp
    rw [this]; omega
  rw [e1]
  exact hr.take _

/-- The form's own reach: a slice's capacity. -/
theorem sizedSlice {ts : List TypeId} {ds : List (DataW H)} (h : (DataW.weightsEach P ts ds).all (· ≤ reachBytes) = true) {j : Nat} {t e : TypeId} {d : DataW H} {len cap : Nat} (hs : SliceD d len cap) (hlc : len ≤ cap)
    (ht : ts[j]? = some t) (hd : ds[j]? = some d) (hu : P.underlying t = some (.slice e)) : cap * P.bytesOf e ≤ reachBytes := by
  rcases hs with ⟨_, _, rfl⟩ | ⟨elems, spare, rfl, h1, h2⟩
  · simp
  · have := sized_slice h ht hd hu
    rw [h1, h2, Nat.add_sub_cancel' hlc] at this
    exact this
end

end Go.Fk
namespace Go.Proofs.Ytaapnfoimcccjaa
open Go.Fk
theorem bulkAll_len {H : Type} : ∀ l : List (DataW H), l.length ≤ Rows.uptoBulkAll l
  | [] => Nat.zero_le _
  | d :: r => by
    have h1 : 1 ≤ Rows.uptoBulk d := by
      cases d with
      | lit l => cases l <;> simp [Rows.uptoBulk]
      | _ => simp [Rows.uptoBulk]
    have h2 := bulkAll_len r
    simp only [Rows.uptoBulkAll, List.length_cons]; omega
/-- The second form's bound: a slice's places. -/
theorem bulk_slice {H : Type} {d : DataW H} {len cap : Nat} (hs : SliceD d len cap) (hlc : len ≤ cap) : cap ≤ Rows.uptoBulk d := by
  rcases hs with ⟨_, _, rfl⟩ | ⟨elems, spare, rfl, h1, h2⟩
  · exact Nat.zero_le _
  · have h3 := bulkAll_len elems
    have h4 := bulkAll_len spare
    simp only [Rows.uptoBulk]; omega
end Go.Proofs.Ytaapnfoimcccjaa
