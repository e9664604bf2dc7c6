/-
  What a law is told of an argument that is a slice of slices of bytes.
-/
import Derived.Test.YtnbbkhabeihckaaArg
import Derived.Deep.Matrix
namespace Go.Proofs.Ytnbbkhabeihckaa
open Go.Fk Go.RowKit Go.ChangeShapes Go.WideShapes Go.ChangeAt Go.Deep

theorem bulkAll_append {H : Type} : ∀ l r : List (DataW H), Rows.uptoBulkAll (l ++ r) = Rows.uptoBulkAll l + Rows.uptoBulkAll r
  | [], r => by simp [Rows.uptoBulkAll]
  | d :: l, r => by simp only [List.cons_append, Rows.uptoBulkAll, bulkAll_append l r]; omega
theorem bulk_intRow {H : Type} {k : IntKind} {A : Option Addr} {L : Nat} {zs : List Int} (hl : L ≤ zs.length) (hn : A = none → L = 0) : L ≤ Rows.uptoBulk (intRow (H := H) k A L zs) := by
  cases A with
  | none => rw [hn rfl]; exact Nat.zero_le _
  | some a =>
    have h := bulkAll_len (H := H) (lits k (zs.take L))
    simp only [intRow, Rows.uptoBulk]
    simp only [lits, List.length_map, List.length_take] at h
    rw [Nat.min_eq_left hl] at h
    have h2 : Rows.uptoBulkAll (H := H) (lits k (zs.take L)) = Rows.uptoBulkAll (List.map (fun n => DataW.lit (Lit.int k n)) (zs.take L)) := rfl
    omega

theorem argRows {H : Type} {enc : TypeId × Value → H} {P : Program} {W : World} {t e q : TypeId} (ht : P.underlying t = some (.slice e)) (he : P.underlying e = some (.slice q)) (hq : P.underlying q = some (.int .u8)) (ce : P.cellsOf e = 1) (cq : P.cellsOf q = 1)
    {A : Option Addr} {len cap : Nat} {d : DataW H} {p : List MemPlace} (h : DataW.Trod enc P W 0 (fun _ => true) true t (.slice A len cap) d p) :
    ∃ (row : Nat → Option Addr) (cp : Nat → Nat) (ls : Nat → List UInt8), len ≤ maxLen ∧ (∀ r, r < len → ∃ a, A = some a ∧ W.cell? (a.add r) = some (.slice (row r) (ls r).length (cp r)) ∧ Rd W (row r) (bv (ls r))) ∧
      ∀ k, k ≤ len → ((List.range k).flatMap ls).length ≤ Rows.uptoBulk d := by
  obtain ⟨fuel, hf⟩ := h
  rcases open_int_rows ht he hq ce cq hf with ⟨hcs, hx⟩ | ⟨a, l, c, row, L, C, Z, hcs, _, hl, hm, hx, hrow⟩
  · simp [Value.cells] at hcs
    obtain ⟨rfl, rfl, rfl⟩ := hcs
    exact ⟨fun _ => none, fun _ => 0, fun _ => [], Nat.zero_le _, fun r hr => absurd hr (Nat.not_lt_zero _), fun k hk => by
      have : k = 0 := by omega
      subst this; simp⟩
  · simp [Value.cells] at hcs
    obtain ⟨rfl, rfl, rfl⟩ := hcs
    simp only [Prod.mk.injEq] at hx
    have hlen : ∀ r, r < len → (((Z r).take (L r)).map fun z => UInt8.ofNat z.toNat).length = L r := fun r hr => by
      obtain ⟨_, h1, _, h3, _⟩ := hrow r (by omega)
      simp; omega
    refine ⟨row, C, fun r => ((Z r).take (L r)).map fun z => UInt8.ofNat z.toNat, by omega, fun r hr => ?_, fun k hk => ?_⟩
    · obtain ⟨h0, h1, h2, h3, h4, h5, h6⟩ := hrow r (by omega)
      refine ⟨a, rfl, by rw [hlen r hr]; exact h0, ?_⟩
      have e1 : bv (((Z r).take (L r)).map fun z => UInt8.ofNat z.toNat) = ((Z r).map (Value.int .u8)).take (L r) := by
        rw [← List.map_take, bv, List.map_map]
        refine List.map_congr_left fun z hz' => ?_
        have hzw := h4 z (List.mem_of_mem_take hz')
        simp [Lit.wf, IntKind.min, IntKind.max, IntKind.signed, IntKind.bits] at hzw
        simp only [Function.comp]
        refine int_eq ?_
        have : (UInt8.ofNat z.toNat).toNat = z.toNat % 256 := by simp
        rw [this]; omega
      simp only [e1]
      refine Rd.take ?_ _
      cases hA : row r with
      | none =>
        have : Z r = [] := List.eq_nil_of_length_eq_zero (by rw [h3, h5 hA])
        rw [this]; exact Rd.nil _ _
      | some a' =>
        refine .inr ⟨a', rfl, fun j u hu => ?_⟩
        rw [List.getElem?_map] at hu
        cases hj : (Z r)[j]? with
        | none => rw [hj] at hu; cases hu
        | some z =>
          rw [hj] at hu
          have hjl := (List.getElem?_eq_some_iff.1 hj).1
          rw [(h6 a' hA).2 j (by omega), ← hu]
          simp [List.getD_eq_getElem?_getD, hj]
    · rw [hx.1]
      have h2 : ∀ k, k ≤ len → ((List.range k).flatMap fun r => ((Z r).take (L r)).map fun z => UInt8.ofNat z.toNat).length ≤ Rows.uptoBulkAll ((List.range k).map fun r => intRow (H := H) .u8 (row r) (L r) (Z r)) := fun k => by
        induction k with
        | zero => intro _; simp
        | succ k ih =>
          intro hk
          obtain ⟨_, h1, _, h3, _, h5, _⟩ := hrow k (by omega)
          have := ih (by omega)
          have h4 := bulk_intRow (H := H) (k := .u8) (A := row k) (L := L k) (zs := Z k) (by omega) (fun h => by have := h5 h; omega)
          rw [List.range_succ, List.flatMap_append, List.map_append, List.length_append, bulkAll_append]
          simp only [List.flatMap_cons, List.flatMap_nil, List.append_nil, List.map_cons, List.map_nil, Rows.uptoBulkAll, hlen k (by omega)]
          omega
      have h3 := h2 k hk
      have h4 : (List.range len).map (fun r => intRow (H := H) .u8 (row r) (L r) (Z r)) = (List.range k).map (fun r => intRow (H := H) .u8 (row r) (L r) (Z r)) ++ (List.range' k (len - k)).map (fun r => intRow (H := H) .u8 (row r) (L r) (Z r)) := by
        rw [← List.map_append]
        congr 1
        have : len = k + (len - k) := by omega
        rw [List.range_eq_range', List.range_eq_range', this, ← List.range'_append_1]
        simp
      simp only [Rows.uptoBulk]
      rw [h4, bulkAll_append]
      omega
end Go.Proofs.Ytnbbkhabeihckaa
