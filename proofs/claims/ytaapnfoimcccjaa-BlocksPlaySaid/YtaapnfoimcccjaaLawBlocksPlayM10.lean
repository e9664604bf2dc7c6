/-
  Parts of a proof: What a law is told of its arguments: slices as views, structs of numbers and truths by value, slices of such structs. It holds for any program; conditions stand at each theorem; Calls out of an argument.
-/
import Derived.Deep.Slices
import Derived.Deep.Fields
import Derived.ChangeSame
import Derived.Test.YtaapnfoimcccjaaLawBlocksPlayM9
set_option linter.unusedVariables false
namespace Go.Fk
open Go.RowKit Go.ChangeShapes Go.WideShapes Go.ChangeAt Go.Deep

inductive CK where
  | int (k : IntKind)
  | bool
def CK.is : CK → Value → Prop
  | .int k, .int k' z => k' = k ∧ (Lit.int k' z).wf = true
  | .bool, .bool _ => True
  | _, _ => False
def AllIs : List CK → List Value → Prop
  | [], [] => True
  | k :: ks, v :: vs => k.is v ∧ AllIs ks vs
  | _, _ => False
theorem AllIs.length : ∀ {ks : List CK} {vs : List Value}, AllIs ks vs → vs.length = ks.length
  | [], [], _ => rfl
  | [], _ :: _, h => h.elim
  | _ :: _, [], h => h.elim
  | _ :: _, _ :: _, h => by simp [AllIs.length h.2]
theorem AllIs.append : ∀ {ks ks' : List CK} {vs vs' : List Value}, AllIs ks vs → AllIs ks' vs' → AllIs (ks ++ ks') (vs ++ vs')
  | [], _, [], _, _, h => h
  | [], _, _ :: _, _, h, _ => h.elim
  | _ :: _, _, [], _, h, _ => h.elim
  | _ :: _, _, _ :: _, _, h, h' => ⟨h.1, AllIs.append h.2 h'⟩
theorem AllIs.nil {vs : List Value} (h : AllIs [] vs) : vs = [] := by
  cases vs with
  | nil => rfl
  | cons _ _ => exact h.elim
theorem AllIs.cons {k : CK} {ks : List CK} {vs : List Value} (h : AllIs (k :: ks) vs) : ∃ v r, vs = v :: r ∧ k.is v ∧ AllIs ks r := by
  cases vs with
  | nil => exact h.elim
  | cons v r => exact ⟨v, r, rfl, h.1, h.2⟩
theorem CK.is_int {k : IntKind} {v : Value} (h : (CK.int k).is v) : ∃ z, v = .int k z ∧ (Lit.int k z).wf = true := by
  cases v <;> simp only [CK.is] at h
  all_goals first
    | exact h.elim
    | (obtain ⟨rfl, h⟩ := h; exact ⟨_, rfl, h⟩)
theorem CK.is_bool {v : Value} (h : CK.bool.is v) : ∃ b, v = .bool b := by
  cases v <;> simp only [CK.is] at h
  all_goals first
    | exact h.elim
    | exact ⟨_, rfl⟩
section
variable {ks : List CK} {vs : List Value}
theorem AllIs.i64 (h : AllIs (.int .i64 :: ks) vs) : ∃ z r, vs = .int .i64 z :: r ∧ (-9223372036854775808 ≤ z ∧ z ≤ 9223372036854775807) ∧ AllIs ks r := by
  obtain ⟨v, r, rfl, h1, h2⟩ := h.cons
  obtain ⟨z, rfl, hw⟩ := CK.is_int h1
  exact ⟨z, r, rfl, by simpa [Lit.wf, IntKind.min, IntKind.max, IntKind.signed, IntKind.bits] using hw, h2⟩
theorem AllIs.u64 (h : AllIs (.int .u64 :: ks) vs) : ∃ (m : Nat) (r : List Value), vs = .int .u64 (m : Int) :: r ∧ m < 18446744073709551616 ∧ AllIs ks r := by
  obtain ⟨v, r, rfl, h1, h2⟩ := h.cons
  obtain ⟨z, rfl, hw⟩ := CK.is_int h1
  have hw : 0 ≤ z ∧ z ≤ 18446744073709551615 := by simpa [Lit.wf, IntKind.min, IntKind.max, IntKind.signed, IntKind.bits] using hw
  obtain ⟨m, rfl⟩ := Int.eq_ofNat_of_zero_le hw.1
  exact ⟨m, r, rfl, by omega, h2⟩
theorem AllIs.u32 (h : AllIs (.int .u32 :: ks) vs) : ∃ (m : Nat) (r : List Value), vs = .int .u32 (m : Int) :: r ∧ m < 4294967296 ∧ AllIs ks r := by
  obtain ⟨v, r, rfl, h1, h2⟩ := h.cons
  obtain ⟨z, rfl, hw⟩ := CK.is_int h1
  have hw : 0 ≤ z ∧ z ≤ 4294967295 := by simpa [Lit.wf, IntKind.min, IntKind.max, IntKind.signed, IntKind.bits] using hw
  obtain ⟨m, rfl⟩ := Int.eq_ofNat_of_zero_le hw.1
  exact ⟨m, r, rfl, by omega, h2⟩
theorem AllIs.u8 (h : AllIs (.int .u8 :: ks) vs) : ∃ (m : Nat) (r : List Value), vs = .int .u8 (m : Int) :: r ∧ m < 256 ∧ AllIs ks r := by
  obtain ⟨v, r, rfl, h1, h2⟩ := h.cons
  obtain ⟨z, rfl, hw⟩ := CK.is_int h1
  have hw : 0 ≤ z ∧ z ≤ 255 := by simpa [Lit.wf, IntKind.min, IntKind.max, IntKind.signed, IntKind.bits] using hw
  obtain ⟨m, rfl⟩ := Int.eq_ofNat_of_zero_le hw.1
  exact ⟨m, r, rfl, by omega, h2⟩
theorem AllIs.b (h : AllIs (.bool :: ks) vs) : ∃ b r, vs = .bool b :: r ∧ AllIs ks r := by
  obtain ⟨v, r, rfl, h1, h2⟩ := h.cons
  obtain ⟨b, rfl⟩ := CK.is_bool h1
  exact ⟨b, r, rfl, h2⟩
end

def flats (g : TypeId → Option (List CK)) (P : Program) : Nat → List Field → Option (List CK)
  | _, [] => some []
  | o, f :: r => if f.offset = o then (g f.type).bind fun ks => if ks.length = P.cellsOf f.type then (flats g P (o + ks.length) r).map (ks ++ ·) else none else none
/-- What the cells of a type of numbers and truths are. -/
def flat (P : Program) : Nat → TypeId → Option (List CK)
  | 0, _ => none
  | d + 1, t => match P.underlying t with
    | some (.int k) => some [.int k]
    | some .bool => some [.bool]
    | some (.struct fs) => (flats (flat P d) P 0 fs.toList).bind fun ks => if ks.length = P.cellsOf t then some ks else none
    | _ => none
theorem flats_spec {g : TypeId → Option (List CK)} {P : Program} {cs : List Value} : ∀ (l : List Field) (o : Nat) (ks : List CK), flats g P o l = some ks →
    (∀ f ∈ l, ∀ ks', g f.type = some ks' → AllIs ks' ((cs.drop f.offset).take (P.cellsOf f.type))) → AllIs ks ((cs.drop o).take ks.length)
  | [], o, ks, h, _ => by
    simp only [flats, Option.some.injEq] at h
    subst h; simp [AllIs]
  | f :: r, o, ks, h, hf => by
    simp only [flats] at h
    split at h
    · rename_i ho
      cases hg : g f.type with
      | none => rw [hg] at h; cases h
      | some k1 =>
        rw [hg] at h
        simp only [Option.bind_some] at h
        split at h
        · rename_i hl
          cases hr : flats g P (o + k1.length) r with
          | none => rw [hr] at h; cases h
          | some k2 =>
            rw [hr] at h
            simp only [Option.map_some, Option.some.injEq] at h
            subst h
            have h1 := hf f List.mem_cons_self k1 hg
            have h2 := flats_spec r _ k2 hr fun f' hf' => hf f' (List.mem_cons_of_mem _ hf')
            rw [ho, ← hl] at h1
            rw [List.length_append, List.take_add, List.drop_drop]
            exact h1.append h2
        · cases h
    · cases h

section
variable {H : Type} {enc : TypeId × Value → H} {P : Program} {w W : World} {base : Nat} {spare : Nat → Bool} {held : Bool}
theorem flat_trod : ∀ (d : Nat) (t : TypeId) (ks : List CK), flat P d t = some ks → ∀ (fuel : Nat) (cs : List Value) (x : DataW H × List MemPlace), DataW.trod enc P w base spare held fuel t cs = some x → AllIs ks cs
  | 0, t, ks, h, _, _, _, _ => by cases h
  | d + 1, t, ks, h, fuel, cs, x, hx => by
    unfold flat at h
    split at h
    · rename_i k hu
      simp only [Option.some.injEq] at h
      subst h
      obtain ⟨n, rfl, _, hw⟩ := DataW.trod_int hu hx
      exact ⟨⟨rfl, hw⟩, trivial⟩
    · rename_i hu
      simp only [Option.some.injEq] at h
      subst h
      obtain ⟨b, rfl, _⟩ := DataW.trod_bool hu hx
      exact ⟨trivial, trivial⟩
    · rename_i fs hu
      cases hf : flats (flat P d) P 0 fs.toList with
      | none => rw [hf] at h; cases h
      | some k1 =>
        rw [hf] at h
        simp only [Option.bind_some] at h
        split at h
        · rename_i hl
          simp only [Option.some.injEq] at h
          subst h
          obtain ⟨xs, n, _, _, hlen, hxl, hall⟩ := DataW.trod_struct hu hx
          have h1 := flats_spec (cs := cs) fs.toList 0 k1 hf fun f hfm ks' hg => by
            obtain ⟨i, hi, hfi⟩ := List.getElem_of_mem hfm
            have hfi' : fs[i]? = some f := by
              rw [← Array.getElem?_toList, List.getElem?_eq_getElem hi, hfi]
            have h2 := hall i f hfi'
            have hi2 : i < xs.length := by rw [hxl]; simpa using hi
            rw [List.getElem?_eq_getElem hi2] at h2
            exact flat_trod d _ _ hg _ _ _ h2
          rw [List.drop_zero, List.take_of_length_le (by omega)] at h1
          exact h1
        · cases h
    · cases h
/-- A struct by value. -/
theorem argFlat {r : Go.Reach} {b0 : Nat} {t : TypeId} {fs : Array Field} {ks : List CK} {v : Value} {d : DataW H} {p : List MemPlace} (n : Nat) (hu : P.underlying t = some (.struct fs)) (hk : flat P n t = some ks) (hv : Value.okWide P w r b0 t v) (h : DataW.Trod enc P w base spare held t v d p) :
    ∃ cs : List Value, v = .agg cs.toArray ∧ AllIs ks cs := by
  obtain ⟨cs, rfl, _⟩ := okWide_struct hu hv
  obtain ⟨fuel, hf⟩ := h
  exact ⟨cs.toList, rfl, flat_trod n t ks hk fuel _ _ hf⟩

theorem argInts2 {t el : TypeId} (ht : P.underlying t = some (.slice el)) (he : P.underlying el = some (.int .i64)) (hc : P.cellsOf el = 1) {A : Option Addr} {len cap : Nat} {d : DataW H} {p : List MemPlace}
    (h : DataW.Trod enc P W 0 (fun _ => true) true t (.slice A len cap) d p) :
    ∃ zs : List Int, zs.length = cap ∧ IsVw A len cap A 0 ∧ Rd W A (zv zs) ∧ SliceD d len cap ∧ ∀ z ∈ zs, -9223372036854775808 ≤ z ∧ z ≤ 9223372036854775807 := by
  have hA : A = none → cap = 0 := fun hA => by
    subst hA
    obtain ⟨fuel, hf⟩ := h
    rcases open_ints ht he hc hf with ⟨hcs, _⟩ | ⟨a, l, c, zs, hcs, _⟩
    · simp [Value.cells] at hcs; exact hcs.2
    · simp [Value.cells] at hcs
  obtain ⟨zs, hz, hl, hm, hr, hd, hw⟩ := argInts ht he hc h
  refine ⟨zs, hz, IsVw.base hl hm hA, hr, hd, fun z hzm => ?_⟩
  have := hw z hzm
  simpa [Lit.wf, IntKind.min, IntKind.max, IntKind.signed, IntKind.bits] using this
theorem argBytes2 {t el : TypeId} (ht : P.underlying t = some (.slice el)) (he : P.underlying el = some (.int .u8)) (hc : P.cellsOf el = 1) {A : Option Addr} {len cap : Nat} {d : DataW H} {p : List MemPlace}
    (h : DataW.Trod enc P W 0 (fun _ => true) true t (.slice A len cap) d p) :
    ∃ l : List UInt8, l.length = len ∧ IsVw A len cap A 0 ∧ Rd W A (bv l) ∧ SliceD d len cap := by
  have hA : A = none → cap = 0 := fun hA => by
    subst hA
    obtain ⟨fuel, hf⟩ := h
    rcases open_ints ht he hc hf with ⟨hcs, _⟩ | ⟨a, l, c, zs, hcs, _⟩
    · simp [Value.cells] at hcs; exact hcs.2
    · simp [Value.cells] at hcs
  obtain ⟨l, hn, hl, hm, hr, hd⟩ := argBytes ht he hc h
  exact ⟨l, hn, IsVw.base hl hm hA, hr, hd⟩
/-- A slice of structs of numbers and truths. -/
theorem argFlats {t el : TypeId} {ks : List CK} (n : Nat) (ht : P.underlying t = some (.slice el)) (hk : flat P n el = some ks) {A : Option Addr} {len cap : Nat} {d : DataW H} {p : List MemPlace}
    (h : DataW.Trod enc P W 0 (fun _ => true) true t (.slice A len cap) d p) :
    ∃ cs : List Value, cs.length = cap * P.cellsOf el ∧ IsVw A len cap A 0 ∧ Rd W A cs ∧ SliceD d len cap ∧ ∀ i, i < cap → AllIs ks ((cs.drop (i * P.cellsOf el)).take (P.cellsOf el)) := by
  obtain ⟨fuel, hf⟩ := h
  rcases open_slice ht hf with ⟨hcs, hx⟩ | ⟨a, l, c, m, n', D, Pl, hcs, _, hl, hm, hmm, hx, hi⟩
  · simp [Value.cells] at hcs
    obtain ⟨rfl, rfl, rfl⟩ := hcs
    simp only [Prod.mk.injEq] at hx
    exact ⟨[], by simp, IsVw.nil, .inl rfl, .inl ⟨hx.1, rfl, rfl⟩, fun i hi => absurd hi (Nat.not_lt_zero _)⟩
  · simp [Value.cells] at hcs
    obtain ⟨rfl, rfl, rfl⟩ := hcs
    simp only [if_true] at hmm
    subst hmm
    simp only [Prod.mk.injEq] at hx
    generalize hsz : P.cellsOf el = sz at *
    have hcell : ∀ i, i < m → ∃ cs' : List Value, cs'.length = sz ∧ (∀ j, j < sz → W.cell? (a.add (i * sz + j)) = cs'[j]?) ∧ AllIs ks cs' := fun i him => by
      obtain ⟨cs', h1, h2⟩ := hi i him
      obtain ⟨_, h3, h4⟩ := World.cells?_some h1
      refine ⟨cs', h3, fun j hj => ?_, flat_trod n el ks hk _ _ _ h2⟩
      have := h4 j hj
      rwa [Go.Deep.add_add] at this
    let g : Nat → Value := fun j => (W.cell? (a.add j)).getD undef
    have hg : ∀ j, j < m * sz → W.cell? (a.add j) = some (g j) := fun j hj => by
      have hs0 : 0 < sz := Nat.pos_of_ne_zero fun h0 => by subst h0; simp at hj
      have hq : j / sz < m := Nat.div_lt_of_lt_mul (by rwa [Nat.mul_comm] at hj)
      obtain ⟨cs', h1, h2, _⟩ := hcell (j / sz) hq
      have h3 := h2 (j % sz) (Nat.mod_lt _ hs0)
      rw [show j / sz * sz + j % sz = j by rw [Nat.mul_comm]; exact Nat.div_add_mod j sz, List.getElem?_eq_getElem (by rw [h1]; exact Nat.mod_lt _ hs0)] at h3
      show _ = some ((W.cell? (a.add j)).getD undef)
      rw [h3]; rfl
    refine ⟨(List.range (m * sz)).map g, by simp, IsVw.base hl hm (by simp), .inr ⟨a, rfl, fun j u hu => ?_⟩, .inr ⟨_, _, hx.1, by simp, by simp⟩, fun i him => ?_⟩
    · rw [List.getElem?_map] at hu
      have hj : j < m * sz := by
        rcases Nat.lt_or_ge j (m * sz) with h | h
        · exact h
        · rw [List.getElem?_eq_none (by simpa using h)] at hu; cases hu
      rw [List.getElem?_range hj] at hu
      rw [hg j hj]; exact hu
    · obtain ⟨cs', h1, h2, h3⟩ := hcell i him
      have hle : i * sz + sz ≤ m * sz := by
        have := Nat.mul_le_mul_right sz (show i + 1 ≤ m by omega)
        rwa [Nat.add_mul, Nat.one_mul] at this
      have : (((List.range (m * sz)).map g).drop (i * sz)).take sz = cs' := by
        refine List.ext_getElem? fun j => ?_
        rw [List.getElem?_take]
        split
        · rename_i hj
          rw [List.getElem?_drop, List.getElem?_map, List.getElem?_range (by omega)]
          have h4 := h2 j hj
          rw [hg _ (by omega)] at h4
          exact h4
        · rw [List.getElem?_eq_none (by omega)]
      rw [this]; exact h3
end
end Go.Fk

namespace Go.Proofs.Ytaapnfoimcccjaa
open Go.Fk Go.RowKit
theorem tv_of : ∀ (n : Nat) (cs : List Value), cs.length = n * 3 → (∀ i, i < n → AllIs [.int .i64, .int .i64, .int .i64] ((cs.drop (i * 3)).take 3)) → ∃ ss : List Tr, ss.length = n ∧ (∀ s ∈ ss, TrIn s) ∧ cs = tv ss
  | 0, cs, h, _ => ⟨[], rfl, fun s hs => (by cases hs), List.eq_nil_of_length_eq_zero (by simpa using h)⟩
  | n + 1, cs, h, hk => by
    have h0 := hk 0 (by omega)
    simp only [Nat.zero_mul, List.drop_zero] at h0
    obtain ⟨ss, h1, h1b, h2⟩ := tv_of n (cs.drop 3) (by rw [List.length_drop]; omega) fun i hi => by
      have := hk (i + 1) (by omega)
      rwa [show (i + 1) * 3 = 3 + i * 3 by omega, ← List.drop_drop] at this
    obtain ⟨a, r, h3, b1, h4⟩ := h0.i64
    obtain ⟨b, r2, rfl, b2, h5⟩ := h4.i64
    obtain ⟨c, r3, rfl, b3, h6⟩ := h5.i64
    obtain rfl := h6.nil
    refine ⟨(a, b, c) :: ss, by simp [h1], fun s hs => ?_, ?_⟩
    · rcases List.mem_cons.1 hs with rfl | hs
      · exact ⟨b1, b2, b3⟩
      · exact h1b s hs
    rw [← List.take_append_drop 3 cs, h3, h2]
    rfl
end Go.Proofs.Ytaapnfoimcccjaa
