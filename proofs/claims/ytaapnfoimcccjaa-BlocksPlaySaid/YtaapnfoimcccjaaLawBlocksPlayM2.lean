/-
  Parts of a proof: What the walk finds by itself: each theorem says what it is told; the tactic that stands at its hypothesis finds it; More rules for the engine: slices written out, conversions between bytes and texts, make, copy. They hold for any program; conditions stand at each theorem; Regions that draw their order, shown one operation behind the other: what is known stands in the env, what is not yet known in a list of open slots, each with what holds of its value. It holds for any program; conditions stand at each theorem; More rules for the engine: structs by value, a variable's fields, make, append where there is room. They hold for any program; conditions stand at each theorem; Structs of numbers and truths are compared. It holds for any program; conditions stand at each theorem; What a call knows of memory, as a list of parts that lie apart from one another: one hypothesis that the walk carries along. It holds for any program; conditions stand at each theorem; The walk's rules over the parts of memory that a call knows. They hold for any program; conditions stand at each theorem.
-/
import Derived.Laws.BytesString
import Derived.Deep.OwnRows
import Derived.ArgAppend
import Derived.Laws.StructEq
import Derived.Laws.ResultCell
import Derived.Test.YtaapnfoimcccjaaLawBlocksPlayM1
set_option linter.unusedVariables false
namespace Go.Fk
open Go.RowKit

/-- What an operation that leaves the world alone yields. -/
theorem Det.found {P : Program} {I : World → Prop} {o : Op} {ty : TypeId} {e : Env} {v : Value} (h : Det P I o ty e v := by (first | ((with_reducible apply Det.move); (· (first | exact Env.ev_const _ _ | exact Env.ev_func _ _ | exact Env.ev_global _ _ | (apply Env.evt; (repeat (first | exact Env.hit _ _ _ | ((with_reducible apply Env.miss); (· exact rfl)) | exact Env.ap_undef _ | exact rfl)))))) | ((with_reducible apply Det.assign); (· (first | exact Env.ev_const _ _ | exact Env.ev_func _ _ | exact Env.ev_global _ _ | (apply Env.evt; (repeat (first | exact Env.hit _ _ _ | ((with_reducible apply Env.miss); (· exact rfl)) | exact Env.ap_undef _ | exact rfl)))))) | ((with_reducible apply Det.isBin); (first | ((with_reducible apply Det.lss); (· exact rfl); (· exact rfl)) | ((with_reducible apply Det.leq); (· exact rfl); (· exact rfl)) | ((with_reducible apply Det.gtr); (· exact rfl); (· exact rfl)) | ((with_reducible apply Det.geq); (· exact rfl); (· exact rfl)) | ((with_reducible apply Det.eql); (· exact rfl); (· exact rfl)) | ((with_reducible apply Det.neq); (· exact rfl); (· exact rfl)) | ((with_reducible apply Det.addN); (· exact rfl); (· (first | with_reducible rfl | exact (Int.cast_ofNat_Int).symm | with_reducible assumption | exact rfl)); (· exact rfl); (· (first | with_reducible rfl | exact (Int.cast_ofNat_Int).symm | with_reducible assumption | exact rfl)); (· (repeat (first | (with_reducible apply lim_xor) | (with_reducible apply lim_or) | (with_reducible apply lim_and) | (with_reducible apply lim_shr) | (simp only [lim]; omega))))) | ((with_reducible apply Det.add); (· exact rfl); (· exact rfl); (· omega); (· omega)) | ((with_reducible apply Det.sub); (· exact rfl); (· exact rfl); (· omega); (· omega)) | ((with_reducible apply Det.mulN); (· exact rfl); (· (first | with_reducible rfl | exact (Int.cast_ofNat_Int).symm | with_reducible assumption | exact rfl)); (· exact rfl); (· (first | with_reducible rfl | exact (Int.cast_ofNat_Int).symm | with_reducible assumption | exact rfl)); (· (repeat (first | (with_reducible apply lim_xor) | (with_reducible apply lim_or) | (with_reducible apply lim_and) | (with_reducible apply lim_shr) | (simp only [lim]; omega))))) | ((with_reducible apply Det.mul); (· exact rfl); (· exact rfl); (· omega); (· omega)) | ((with_reducible apply Det.addU64); (· exact rfl); (· exact rfl); (· omega); (· omega)) | ((with_reducible apply Det.subU64); (· exact rfl); (· exact rfl); (· omega); (· omega)) | ((with_reducible apply Det.addU32); (· exact rfl); (· exact rfl); (· omega); (· omega)) | ((with_reducible apply Det.addU16); (· exact rfl); (· exact rfl); (· omega); (· omega)) | ((with_reducible apply Det.quoN); (· exact rfl); (· (first | with_reducible rfl | exact (Int.cast_ofNat_Int).symm | with_reducible assumption | exact rfl)); (· exact rfl); (· (first | with_reducible rfl | exact (Int.cast_ofNat_Int).symm | with_reducible assumption | exact rfl)); (· omega); (· (repeat (first | (with_reducible apply lim_xor) | (with_reducible apply lim_or) | (with_reducible apply lim_and) | (with_reducible apply lim_shr) | (simp only [lim]; omega))))) | ((with_reducible apply Det.remN); (· exact rfl); (· (first | with_reducible rfl | exact (Int.cast_ofNat_Int).symm | with_reducible assumption | exact rfl)); (· exact rfl); (· (first | with_reducible rfl | exact (Int.cast_ofNat_Int).symm | with_reducible assumption | exact rfl)); (· omega)) | ((with_reducible apply Det.quo); (· exact rfl); (· exact rfl); (· omega); (· omega); (· omega)) | ((with_reducible apply Det.rem); (· exact rfl); (· exact rfl); (· omega); (· omega)) | ((with_reducible apply Det.andN); (· exact rfl); (· (first | with_reducible rfl | exact (Int.cast_ofNat_Int).symm | with_reducible assumption | exact rfl)); (· exact rfl); (· (first | with_reducible rfl | exact (Int.cast_ofNat_Int).symm | with_reducible assumption | exact rfl)); (· (repeat (first | (with_reducible apply lim_xor) | (with_reducible apply lim_or) | (with_reducible apply lim_and) | (with_reducible apply lim_shr) | (simp only [lim]; omega)))); (· (repeat (first | (with_reducible apply lim_xor) | (with_reducible apply lim_or) | (with_reducible apply lim_and) | (with_reducible apply lim_shr) | (simp only [lim]; omega))))) | ((with_reducible apply Det.orN); (· exact rfl); (· (first | with_reducible rfl | exact (Int.cast_ofNat_Int).symm | with_reducible assumption | exact rfl)); (· exact rfl); (· (first | with_reducible rfl | exact (Int.cast_ofNat_Int).symm | with_reducible assumption | exact rfl)); (· (repeat (first | (with_reducible apply lim_xor) | (with_reducible apply lim_or) | (with_reducible apply lim_and) | (with_reducible apply lim_shr) | (simp only [lim]; omega)))); (· (repeat (first | (with_reducible apply lim_xor) | (with_reducible apply lim_or) | (with_reducible apply lim_and) | (with_reducible apply lim_shr) | (simp only [lim]; omega))))) | ((with_reducible apply Det.xorN); (· exact rfl); (· (first | with_reducible rfl | exact (Int.cast_ofNat_Int).symm | with_reducible assumption | exact rfl)); (· exact rfl); (· (first | with_reducible rfl | exact (Int.cast_ofNat_Int).symm | with_reducible assumption | exact rfl)); (· (repeat (first | (with_reducible apply lim_xor) | (with_reducible apply lim_or) | (with_reducible apply lim_and) | (with_reducible apply lim_shr) | (simp only [lim]; omega)))); (· (repeat (first | (with_reducible apply lim_xor) | (with_reducible apply lim_or) | (with_reducible apply lim_and) | (with_reducible apply lim_shr) | (simp only [lim]; omega))))) | ((with_reducible apply Det.shrN); (· exact rfl); (· (first | with_reducible rfl | exact (Int.cast_ofNat_Int).symm | with_reducible assumption | exact rfl)); (· exact rfl); (· (first | with_reducible rfl | exact (Int.cast_ofNat_Int).symm | with_reducible assumption | exact rfl)); (· (simp only [IntKind.bits]; omega))) | ((with_reducible apply Det.shlN); (· exact rfl); (· (first | with_reducible rfl | exact (Int.cast_ofNat_Int).symm | with_reducible assumption | exact rfl)); (· exact rfl); (· (first | with_reducible rfl | exact (Int.cast_ofNat_Int).symm | with_reducible assumption | exact rfl)); (· (simp only [IntKind.bits]; omega)); (· (repeat (first | (with_reducible apply lim_xor) | (with_reducible apply lim_or) | (with_reducible apply lim_and) | (with_reducible apply lim_shr) | (simp only [lim]; omega))))) | ((with_reducible apply Det.eqlStr); (· exact rfl); (· exact rfl)) | ((with_reducible apply Det.neqStr); (· exact rfl); (· exact rfl)) | ((with_reducible apply Det.eqlNil); (· exact rfl); (· exact rfl)) | ((with_reducible apply Det.addW); (· exact rfl); (· exact rfl)) | ((with_reducible apply Det.subW); (· exact rfl); (· exact rfl)) | ((with_reducible apply Det.mulW); (· exact rfl); (· exact rfl)))) | ((with_reducible apply Det.isConv); (first | ((with_reducible apply Det.convLim); (· exact rfl); (· (first | with_reducible rfl | exact (Int.cast_ofNat_Int).symm | with_reducible assumption | exact rfl)); (· (repeat (first | (with_reducible apply lim_xor) | (with_reducible apply lim_or) | (with_reducible apply lim_and) | (with_reducible apply lim_shr) | (simp only [lim]; omega))))) | ((with_reducible apply Det.convU8); (· exact rfl); (· (first | with_reducible rfl | exact (Int.cast_ofNat_Int).symm | with_reducible assumption | exact rfl))) | ((with_reducible apply Det.convU16); (· exact rfl); (· (first | with_reducible rfl | exact (Int.cast_ofNat_Int).symm | with_reducible assumption | exact rfl))) | ((with_reducible apply Det.convU32); (· exact rfl); (· (first | with_reducible rfl | exact (Int.cast_ofNat_Int).symm | with_reducible assumption | exact rfl))) | ((with_reducible apply Det.conv); (· exact rfl)))) | ((with_reducible apply Det.isIndex); (first | ((with_reducible apply Det.indexS1B); (· exact rfl); (· exact rfl); (· (first | with_reducible rfl | exact (Int.cast_ofNat_Int).symm | with_reducible assumption | exact rfl)); (· omega)) | ((with_reducible apply Det.indexS1); (· exact rfl); (· exact rfl); (· (first | with_reducible rfl | exact (Int.cast_ofNat_Int).symm | with_reducible assumption | exact rfl)); (· omega)) | ((with_reducible apply Det.indexA1B); (· exact rfl); (· exact rfl); (· (first | with_reducible rfl | exact (Int.cast_ofNat_Int).symm | with_reducible assumption | exact rfl)); (· omega)) | ((with_reducible apply Det.indexS); (· exact rfl); (· exact rfl); (· omega); (· omega)) | ((with_reducible apply Det.indexA); (· exact rfl); (· exact rfl); (· omega); (· omega)))) | ((with_reducible apply Det.isSlice); (first | ((with_reducible apply Det.sliceLo); (· exact rfl); (· exact rfl); (· omega); (· omega)) | ((with_reducible apply Det.sliceHi); (· exact rfl); (· exact rfl); (· omega); (· omega)) | ((with_reducible apply Det.sliceLoHi); (· exact rfl); (· exact rfl); (· exact rfl); (· omega); (· omega); (· omega)) | ((with_reducible apply Det.sliceHiMax); (· exact rfl); (· exact rfl); (· exact rfl); (· omega); (· omega); (· omega)))) | ((with_reducible apply Det.isUn); (first | ((with_reducible apply Det.not); (· exact rfl)) | ((with_reducible apply Det.neg); (· exact rfl); (· omega); (· omega)) | ((with_reducible apply Det.complU32); (· exact rfl); (· (first | with_reducible rfl | exact (Int.cast_ofNat_Int).symm | with_reducible assumption | exact rfl)); (· omega)) | ((with_reducible apply Det.compl); (· exact rfl); (· exact rfl); (· (repeat (first | (with_reducible apply lim_xor) | (with_reducible apply lim_or) | (with_reducible apply lim_and) | (with_reducible apply lim_shr) | (simp only [lim]; omega))))))) | ((with_reducible apply Det.len); (· exact rfl)) | ((with_reducible apply Det.extract); (· exact rfl); (· exact rfl)) | ((with_reducible apply Det.fieldAddr); (· exact rfl)) | ((with_reducible apply Det.pickT); (· exact rfl); (· (first | exact rfl | assumption | exact decide_eq_true rfl | exact decide_eq_false (fun h => h rfl) | exact decide_eq_true (by omega) | exact decide_eq_false (by omega) | (simp only [Bool.not_eq_true', Bool.not_eq_false', Bool.not_true, Bool.not_false, decide_eq_true_eq, decide_eq_false_iff_not]; first | done | omega | assumption))); (· (first | exact Env.ev_const _ _ | exact Env.ev_func _ _ | exact Env.ev_global _ _ | (apply Env.evt; (repeat (first | exact Env.hit _ _ _ | ((with_reducible apply Env.miss); (· exact rfl)) | exact Env.ap_undef _ | exact rfl)))))) | ((with_reducible apply Det.pickF); (· exact rfl); (· (first | exact rfl | assumption | exact decide_eq_true rfl | exact decide_eq_false (fun h => h rfl) | exact decide_eq_true (by omega) | exact decide_eq_false (by omega) | (simp only [Bool.not_eq_true', Bool.not_eq_false', Bool.not_true, Bool.not_false, decide_eq_true_eq, decide_eq_false_iff_not]; first | done | omega | assumption))); (· (first | exact Env.ev_const _ _ | exact Env.ev_func _ _ | exact Env.ev_global _ _ | (apply Env.evt; (repeat (first | exact Env.hit _ _ _ | ((with_reducible apply Env.miss); (· exact rfl)) | exact Env.ap_undef _ | exact rfl)))))))) : Det P I o ty e v := h
theorem boolFound {t b : Bool} (h : t = b := by (first | exact rfl | assumption | exact decide_eq_true rfl | exact decide_eq_false (fun h => h rfl) | exact decide_eq_true (by omega) | exact decide_eq_false (by omega) | (simp only [Bool.not_eq_true', Bool.not_eq_false', Bool.not_true, Bool.not_false, decide_eq_true_eq, decide_eq_false_iff_not]; first | done | omega | assumption))) : t = b := h
theorem Vals.found {e : Env} {l : List Operand} {s : List Value} (h : Vals e l s := by (first | exact Vals.nil | (apply Vals.cons; (· (first | exact Env.ev_const _ _ | exact Env.ev_func _ _ | exact Env.ev_global _ _ | (apply Env.evt; (repeat (first | exact Env.hit _ _ _ | ((with_reducible apply Env.miss); (· exact rfl)) | exact Env.ap_undef _ | exact rfl))))); (· (first | exact Vals.nil | (apply Vals.cons; (· (first | exact Env.ev_const _ _ | exact Env.ev_func _ _ | exact Env.ev_global _ _ | (apply Env.evt; (repeat (first | exact Env.hit _ _ _ | ((with_reducible apply Env.miss); (· exact rfl)) | exact Env.ap_undef _ | exact rfl))))); (· (first | exact Vals.nil | (apply Vals.cons; (· (first | exact Env.ev_const _ _ | exact Env.ev_func _ _ | exact Env.ev_global _ _ | (apply Env.evt; (repeat (first | exact Env.hit _ _ _ | ((with_reducible apply Env.miss); (· exact rfl)) | exact Env.ap_undef _ | exact rfl))))); (· (first | exact Vals.nil | (apply Vals.cons; (· (first | exact Env.ev_const _ _ | exact Env.ev_func _ _ | exact Env.ev_global _ _ | (apply Env.evt; (repeat (first | exact Env.hit _ _ _ | ((with_reducible apply Env.miss); (· exact rfl)) | exact Env.ap_undef _ | exact rfl))))); (· (first | exact Vals.nil | (apply Vals.cons; (· (first | exact Env.ev_const _ _ | exact Env.ev_func _ _ | exact Env.ev_global _ _ | (apply Env.evt; (repeat (first | exact Env.hit _ _ _ | ((with_reducible apply Env.miss); (· exact rfl)) | exact Env.ap_undef _ | exact rfl))))); (· (first | exact Vals.nil | (apply Vals.cons; (· (first | exact Env.ev_const _ _ | exact Env.ev_func _ _ | exact Env.ev_global _ _ | (apply Env.evt; (repeat (first | exact Env.hit _ _ _ | ((with_reducible apply Env.miss); (· exact rfl)) | exact Env.ap_undef _ | exact rfl))))); (· (first | exact Vals.nil | (apply Vals.cons; (· (first | exact Env.ev_const _ _ | exact Env.ev_func _ _ | exact Env.ev_global _ _ | (apply Env.evt; (repeat (first | exact Env.hit _ _ _ | ((with_reducible apply Env.miss); (· exact rfl)) | exact Env.ap_undef _ | exact rfl))))); (· exact Vals.nil)))))))))))))))))))))) : Vals e l s := h
theorem Env.found {e : Env} {x : Operand} {v : Value} (h : e.eval x = v := by (first | exact Env.ev_const _ _ | exact Env.ev_func _ _ | exact Env.ev_global _ _ | (apply Env.evt; (repeat (first | exact Env.hit _ _ _ | ((with_reducible apply Env.miss); (· exact rfl)) | exact Env.ap_undef _ | exact rfl))))) : e.eval x = v := h
theorem slotFound {e : Env} {t : Nat} {v : Value} (h : e t = v := by (repeat (first | exact Env.hit _ _ _ | ((with_reducible apply Env.miss); (· exact rfl)) | exact Env.ap_undef _ | exact rfl))) : e t = v := h
end Go.Fk

namespace Go.Fk
open Go.RowKit

/-! ### A slice written out -/
/-- The parts, in their order from k on. -/
def BVals (e : Env) : Nat → List (Nat × Operand) → List Value → Prop
  | _, [], [] => True
  | k, (i, x) :: r, v :: s => i = k ∧ e.eval x = v ∧ BVals e (k + 1) r s
  | _, _, _ => False
theorem BVals.nil {e : Env} {k : Nat} : BVals e k [] [] := trivial
theorem BVals.cons {e : Env} {k i : Nat} {x : Operand} {v : Value} {r : List (Nat × Operand)} {s : List Value} (hi : i = k) (hx : e.eval x = v) (hr : BVals e (k + 1) r s) : BVals e k ((i, x) :: r) (v :: s) := ⟨hi, hx, hr⟩

theorem fill_parts {e : Env} : ∀ (r : List (Nat × Operand)) (s pre post : List Value), BVals e pre.length r s → (∀ v ∈ s, v.oneCell' = true) → post.length = s.length →
    Instr.fill (fun i => some (i * 1, 1)) (pre ++ post).toArray (r.map fun p => (p.1, e.eval p.2)) = some (pre ++ s).toArray
  | [], [], pre, post, _, _, hp => by
    have : post = [] := List.eq_nil_of_length_eq_zero (by simpa using hp)
    subst this; simp [Instr.fill]
  | (i, x) :: r, v :: s, pre, [], _, _, hp => by simp at hp
  | (i, x) :: r, v :: s, pre, p :: post, ⟨hi, hx, hr⟩, h1, hp => by
    subst hi
    have hv : v.cells = #[v] := by have := h1 v List.mem_cons_self; cases v <;> simp_all [Value.oneCell', Value.cells]
    simp only [List.length_cons] at hp
    simp only [List.map_cons, Instr.fill, hx, hv]
    rw [if_neg (by simp)]
    have h2 := fill_parts r s (pre ++ [v]) post (by simpa using hr) (fun u hu => h1 u (List.mem_cons_of_mem _ hu)) (by omega)
    have e1 : (#[v].zipIdx.foldl (fun cs (x : Value × Nat) => cs.setIfInBounds (pre.length * 1 + x.2) x.1) (pre ++ p :: post).toArray) = (pre ++ [v] ++ post).toArray := by simp
    rw [e1, h2]
    simp
  | [], _ :: _, _, _, h, _, _ => h.elim
  | _ :: _, [], _, _, h, _, _ => by cases h

section
variable {P : Program} {N : Nat} {ops : Array Oper} {K : Env → World → Prop} {rest : List Oper} {e : Env} {w : World} {ty : TypeId} {pos : String} {after : Array Edge}
variable {B : Nat} {t el : TypeId} {sz bytes : Nat} {z : Value} {v : Value} {n : Nat} {xs : List Value} {x y : Operand}

theorem run_buildSlice [ht : SliceT P t el] [he : Elem P el 1 bytes z] {r : List (Nat × Operand)} {vs : List Value} (hv : BVals e 0 r vs) (h1 : ∀ v ∈ vs, v.oneCell' = true) (hl : vs.length = n) (hn : n ≤ 16777216) (w : World) :
    (Instr.buildSlice t n (r.toArray.map fun (i, x) => (i, e.eval x))).run P w = .ok (.slice (some ⟨w.heap.size, 0, none⟩) n n) (w.alloc (.cells vs.toArray el)) := by
  obtain ⟨i, hi, hz, hsize, hby⟩ := he.get
  have hf := fill_parts r vs [] ((List.range n).map fun j => z.cells[j % z.cells.size]!) hv h1 (by simp [hl])
  have hbig : ¬ (16777216 < n * 1) := by omega
  simp only [List.nil_append] at hf
  by_cases h0 : n = 0
  · subst h0
    have : vs = [] := List.eq_nil_of_length_eq_zero hl
    subst this
    cases r with
    | nil => simp [Instr.buildSlice, run_underlying ht.hu, SizeT.run, sizeOf, typeInfo, hi, hsize, Instr.fill, newRow, show Array.map (fun _ => (default : Value)) (Array.range 0) = #[] from by apply Array.ext'; simp]
    | cons p r => obtain ⟨p1, p2⟩ := p; cases hv
  · have e1 : (List.map (fun j => z.cells[j % z.cells.size]!) (List.range n)).toArray = (Array.range (n * 1)).map fun j => z.cells[j % z.cells.size]! := by
      apply Array.ext'
      simp
    rw [e1] at hf
    simp only [Instr.buildSlice, Sem.run_bind, run_underlying ht.hu, Result.andThen_ok, sizeOf, typeInfo, run_program, hi, hsize, Sem.run_pure, zeroValue, hz]
    rw [if_neg (by simpa using hbig)]
    have h0' : ¬ n * 1 = 0 := by omega
    simp [h0, typeInfo, hi, hz, newRow]
    simp at hf
    simp [hf]

theorem WpL.buildSlice [ht : SliceT P t el] [he : Elem P el 1 bytes z] {d : Tmp} {r : List (Nat × Operand)} {vs : List Value} (hd : dOk N (some d) = true) (hv : BVals e 0 r vs) (h1 : ∀ v ∈ vs, v.oneCell' = true) (hl : vs.length = n) (hn : n ≤ 16777216)
    (h : ∀ w', Below w.heap.size w w' → w'.heap.size = w.heap.size + 1 → Blk w' w.heap.size el vs.toArray → WpL P N ops K rest (e.set d (.slice (some ⟨w.heap.size, 0, none⟩) n n)) w') :
    WpL P N ops K (⟨some d, .buildSlice t n r.toArray, ty, pos, after, none⟩ :: rest) e w :=
  WpL.run (w' := w.alloc (.cells vs.toArray el)) hd (by simp only [execOp, Sem.run_bind]; rw [run_buildSlice hv h1 hl hn w]; simp) (h _ ((Below.refl _ _).alloc (Nat.le_refl _) _) (by simp) (Blk.new _ _ _))

/-- Bytes from one of them on. -/
theorem Rd.dropB {w : World} {A : Option Addr} {l : List UInt8} {c m : Nat} (hr : Rd w A (bv l)) (hc : l.length ≤ c) :
    Rd w (if c = ((m : Nat) : Int).toNat then A else A.map (·.add (((m : Nat) : Int).toNat * 1))) (bv (l.drop m)) := by
  have h := Rd.slice hr (l := m) (k := l.length - m) (m := c) (sz := 1) (by omega)
  simp only [Int.toNat_natCast]
  rw [Nat.mul_one, Nat.mul_one] at h
  rw [Nat.mul_one]
  rw [bv_drop]
  rwa [List.take_of_length_le (by simp)] at h
/-! ### Conversions between bytes and texts -/
/-- A constant text as bytes: they stay as they are; a mark is laid behind them. -/
theorem WpL.markStr [ht : SliceT P t el] [hb : IntT P el .u8] {d : Tmp} {g len cap : Nat} {cs : Array Value} (hd : dOk N (some d) = true) (hx : e.eval x = .slice (some ⟨g, 0, none⟩) len cap) (hg : Blk w g el cs)
    (h : ∀ w', w.grownBy w' (some g) → w'.heap.size = w.heap.size → At w' ⟨g, 0, none⟩ cs.toList → WpL P N ops K rest (e.set d (.slice (some ⟨g, 0, none⟩) len cap)) w') :
    WpL P N ops K (⟨some d, .convert t t x, ty, pos, after, none⟩ :: rest) e w := by
  have hsh : w.shape? g = some (el, cs.size) := by have := hg; unfold Blk at this; simp [World.shape?, this]
  have hfr : (w.freeze ⟨g, cs.size, none⟩ 1).heap[g]? = some (.cells cs el (cs.size, cs.size + 1)) := by
    have := hg
    unfold Blk at this
    simp [World.freeze, Array.getElem?_modify, this]
  refine WpL.run (w' := w.freeze ⟨g, cs.size, none⟩ 1) hd ?_ (h _ ⟨rfl, rfl, rfl, by simp [World.freeze], fun k _ hk => ?_⟩ (by simp [World.freeze]) fun j u hu => ?_)
  · simp [execOp, hx, convert, run_underlying ht.hu, run_underlying hb.hu, markStringish, hsh]
  · simp only [World.freeze, Nat.one_ne_zero, if_false, Array.getElem?_modify]
    rw [if_neg (fun e => hk (by rw [e]))]
  · rw [add_mk, cell_of_row _ g (0 + j) cs el _ hfr]; simpa using hu

theorem foldl_push (l : List UInt8) : ∀ acc : List UInt8, (l.map fun b => (b.toNat : Int)).foldl (fun r n => r.push (UInt8.ofNat n.toNat)) (⟨acc.toArray⟩ : ByteArray) = ⟨(acc ++ l).toArray⟩ := by
  induction l with
  | nil => intro acc; simp
  | cons b l ih =>
    intro acc
    have h : (⟨acc.toArray⟩ : ByteArray).push (UInt8.ofNat ((b.toNat : Int)).toNat) = ⟨(acc ++ [b]).toArray⟩ := by
      simp [ByteArray.push]
    rw [List.map_cons, List.foldl_cons, h, ih]
    simp
theorem run_bytesStr {A : Option Addr} {l : List UInt8} {n c : Nat} (hr : Rd w A (bv l)) (hn : l.length = n) : (Conv.bytesToString (.slice A n c)).run P w = .ok (.string ⟨l.toArray⟩) w := by
  subst hn
  cases A with
  | none =>
    rcases hr with h | ⟨a, h, _⟩
    · have : l = [] := by simpa [bv] using h
      subst this; simp [Conv.bytesToString]; rfl
    · cases h
  | some a =>
    have hl : (loadCells a l.length).run P w = .ok ((l.map fun b => (b.toNat : Int)).map (Value.int .u8)).toArray w := by
      rcases hr with h | ⟨a', h, hat⟩
      · have : l = [] := by simpa [bv] using h
        subst this; simp [loadCells, loadCellsFrom]
      · injection h with h; subst h
        have := run_loadCells_list (P := P) w a (bv l) hat
        rw [bv_length] at this
        rw [this]; simp [bv]
    rw [run_bytesToString w a _ c _ hl]
    have := foldl_push l []
    simp only [List.nil_append] at this
    rw [← this]; rfl
end

class StrT (P : Program) (t : TypeId) : Prop where
  hu : P.underlying t = some .string
theorem Det.str {P : Program} {I : World → Prop} {ty : TypeId} {e : Env} {x : Operand} {t t' el : TypeId} [ht : SliceT P t el] [hs : StrT P t'] [hb : IntT P el .u8] {A : Option Addr} {l : List UInt8} {n c : Nat} (hx : e.eval x = .slice A n c)
    (hr : ∀ w, I w → Rd w A (bv l)) (hn : l.length = n) : Det P I (.convert t t' x) ty e (.string ⟨l.toArray⟩) := fun _ _ _ _ w hw => by
  have h : (convert t t' (.slice A n c)).run P w = .ok (.string ⟨l.toArray⟩) w := by
    rw [run_convert_bytes_string w t t' el A n c ht.hu hb.hu hs.hu]
    exact run_bytesStr (hr w hw) hn
  simp [execOp, hx, h]
theorem WpL.str {P : Program} {N : Nat} {ops : Array Oper} {K : Env → World → Prop} {rest : List Oper} {e : Env} {w : World} {ty : TypeId} {pos : String} {after : Array Edge} {x : Operand}
    {t t' el : TypeId} [ht : SliceT P t el] [hs : StrT P t'] [hb : IntT P el .u8] {d : Tmp} {A : Option Addr} {l : List UInt8} {n c : Nat} (hd : dOk N (some d) = true) (hx : e.eval x = .slice A n c)
    (hr : Rd w A (bv l)) (hn : l.length = n) (h : WpL P N ops K rest (e.set d (.string ⟨l.toArray⟩)) w) : WpL P N ops K (⟨some d, .convert t t' x, ty, pos, after, none⟩ :: rest) e w :=
  WpL.det hd (Det.str hx (by rintro _ rfl; exact hr) hn) h
/-- A guarded load. -/
theorem WpL.loadAG {P : Program} {N : Nat} {ops : Array Oper} {K : Env → World → Prop} {rest : List Oper} {e : Env} {w : World} {ty : TypeId} {pos : String} {after : Array Edge} {x : Operand} {t : TypeId}
    [Cell1 P t] {i d d' : Tmp} {b c : Bool} {a : Addr} {j : Nat} {xs : List Value} {v : Value} (hj : (ops[i]?).bind (·.dst) = some d) (he : e d = .bool c) (hb : c = b) (hd : dOk N (some d') = true) (hx : e.eval x = .pointer (some (a.add j))) (hr : At w a xs) (hc : xs[j]? = some v)
    (h : WpL P N ops K rest (e.set d' v) w) : WpL P N ops K (⟨some d', .load t x, ty, pos, after, some (i, b)⟩ :: rest) e w :=
  WpL.detG hj he hb hd (Det.load1 hx (by rintro _ rfl; exact hr j v hc)) h
theorem WpL.strG {P : Program} {N : Nat} {ops : Array Oper} {K : Env → World → Prop} {rest : List Oper} {e : Env} {w : World} {ty : TypeId} {pos : String} {after : Array Edge} {x : Operand}
    {t t' el : TypeId} [ht : SliceT P t el] [hs : StrT P t'] [hb : IntT P el .u8] {i d d' : Tmp} {b c' : Bool} {A : Option Addr} {l : List UInt8} {n c : Nat} (hj : (ops[i]?).bind (·.dst) = some d) (he : e d = .bool c') (hb : c' = b) (hd : dOk N (some d') = true) (hx : e.eval x = .slice A n c)
    (hr : Rd w A (bv l)) (hn : l.length = n) (h : WpL P N ops K rest (e.set d' (.string ⟨l.toArray⟩)) w) : WpL P N ops K (⟨some d', .convert t t' x, ty, pos, after, some (i, b)⟩ :: rest) e w :=
  WpL.detG hj he hb hd (Det.str hx (by rintro _ rfl; exact hr) hn) h
theorem BVals.found {e : Env} {k : Nat} {l : List (Nat × Operand)} {s : List Value} (h : BVals e k l s := by (repeat (first | exact BVals.nil | ((with_reducible apply BVals.cons); (· exact rfl); (· (first | exact Env.ev_const _ _ | exact Env.ev_func _ _ | exact Env.ev_global _ _ | (apply Env.evt; (repeat (first | exact Env.hit _ _ _ | ((with_reducible apply Env.miss); (· exact rfl)) | exact Env.ap_undef _ | exact rfl))))))))) : BVals e k l s := h
/-- All of one cell: numbers, texts and the like. -/
def oneAll : List Value → Bool
  | [] => true
  | v :: r => v.oneCell' && oneAll r
theorem oneAll_spec : ∀ {l : List Value}, oneAll l = true → ∀ v ∈ l, v.oneCell' = true
  | [], _, v, hv => by cases hv
  | u :: r, h, v, hv => by
    simp only [oneAll, Bool.and_eq_true] at h
    rcases List.mem_cons.1 hv with e | e
    · subst e; exact h.1
    · exact oneAll_spec h.2 v e

theorem Appended.below {w0 w : World} {el : TypeId} {sz : Nat} {v v' : Value} {n m : Nat} {xs : List Value} {w' : World} (h : Appended w w0.heap.size el sz v n xs v' w') (hb : Below w0.heap.size w0 w)
    {ys : List Value} (hv : Sl w w0.heap.size el sz v m ys) : Below w0.heap.size w0 w' := by
  refine hb.step (Nat.le_refl _) h.2.1 fun g hg => ?_
  rcases hv.own with h | ⟨g', h, hB, _⟩
  · rw [h] at hg; cases hg
  · rw [h] at hg; injection hg with hg; omega
/-- A slice of bytes that the call has made. -/
def SlB (w : World) (B : Nat) (el : TypeId) (v : Value) (l : List UInt8) : Prop := Sl w B el 1 v l.length (bv l)
theorem SlB.nil (w : World) (B : Nat) (el : TypeId) : SlB w B el (.slice none 0 0) [] := Sl.nil w B el 1
theorem SlB.form {w : World} {B : Nat} {el : TypeId} {v : Value} {l : List UInt8} (h : SlB w B el v l) : ∃ A cap, v = .slice A l.length cap ∧ l.length ≤ cap ∧ cap ≤ maxLen ∧ (A = none → l.length = 0 ∧ cap = 0) ∧ Rd w A (bv l) := Sl.form h

section
variable {P : Program} {N : Nat} {ops : Array Oper} {K : Env → World → Prop} {rest : List Oper} {e : Env} {w : World} {ty : TypeId} {pos : String} {after : Array Edge}
variable {t el : TypeId} {v : Value} {x y : Operand} {z : Value}
/-- Bytes are appended to a slice of the call's own, from block w0.heap.size on. -/
theorem WpL.appendB [ht : SliceT P t el] [he : Elem P el 1 1 z] {d : Tmp} {w0 : World} {xs : List UInt8} (hd : dOk N (some d) = true) (hx : e.eval x = v) {A : Option Addr} {m c : Nat} {l : List UInt8} (hy : e.eval y = .slice A m c) (hown : SlB w w0.heap.size el v xs) (hr : Rd w A (bv l))
    (hl : l.length = m) (hbytes : xs.length + m ≤ 140737488355328) (hb : Below w0.heap.size w0 w)
    (h : ∀ v' w', SlB w' w0.heap.size el v' (xs ++ l) → Below w0.heap.size w0 w' → w.grownBy w' v.ownBlock → (v'.ownBlock = v.ownBlock ∨ ∃ g, v'.ownBlock = some g ∧ w.heap.size ≤ g) → WpL P N ops K rest (e.set d v') w') :
    WpL P N ops K (⟨some d, .call { callee := .builtin .append, args := #[x, y], argTypes := #[t, t] }, ty, pos, after, none⟩ :: rest) e w := by
  subst hl
  refine WpL.append hd hx hy hown hr (by simp) (bv_one _) (by simpa using hbytes) (by simp only [maxLen]; omega) hb.size fun v' w' ha => ?_
  have hb' := ha.below hb hown
  obtain ⟨h1, h2, h3⟩ := ha
  refine h v' w' ?_ hb' h2 h3
  unfold SlB
  rw [List.length_append, bv_append]
  exact h1
end

/-- A slice of the call's own has become another: its own block, and new ones, alone have changed. -/
structure Grew (w : World) (v : Value) (w' : World) (v' : Value) : Prop where
  by_ : w.grownBy w' v.ownBlock
  own : v'.ownBlock = v.ownBlock ∨ ∃ g, v'.ownBlock = some g ∧ w.heap.size ≤ g
theorem Grew.refl (w : World) (v : Value) : Grew w v w v := ⟨⟨rfl, rfl, rfl, Nat.le_refl _, fun _ _ _ => rfl⟩, .inl rfl⟩
theorem Grew.trans {w w1 w2 : World} {v v1 v2 : Value} (h : Grew w v w1 v1) (k : Grew w1 v1 w2 v2) : Grew w v w2 v2 := by
  refine ⟨⟨k.by_.os.trans h.by_.os, k.by_.tape.trans h.by_.tape, k.by_.output.trans h.by_.output, Nat.le_trans h.by_.size k.by_.size, fun b hb hne => ?_⟩, ?_⟩
  · refine (k.by_.block b (Nat.lt_of_lt_of_le hb h.by_.size) fun e => ?_).trans (h.by_.block b hb hne)
    rcases h.own with h1 | ⟨g, h1, h2⟩
    · exact hne (e.trans h1)
    · rw [h1] at e; injection e with e; omega
  · rcases k.own with h1 | ⟨g, h1, h2⟩
    · rw [h1]; exact h.own
    · exact .inr ⟨g, h1, Nat.le_trans h.by_.size h2⟩
theorem Grew.below {w0 w w' : World} {v v' : Value} {el : TypeId} {l : List UInt8} (h : Grew w v w' v') (hb : Below w0.heap.size w0 w) (hv : SlB w w0.heap.size el v l) : Below w0.heap.size w0 w' := by
  refine hb.step (Nat.le_refl _) h.by_ fun g hg => ?_
  rcases Sl.own hv with h1 | ⟨g', h1, hB, _⟩
  · rw [h1] at hg; cases hg
  · rw [h1] at hg; injection hg with hg; omega
/-- Behind what has changed the own block alone: what is below stays. -/
theorem Grew.of_below {w w' : World} (v : Value) (h : Below w.heap.size w w') : Grew w v w' v := ⟨⟨h.os, h.tape, h.output, h.size, fun k hk _ => h.block k hk⟩, .inl rfl⟩
theorem SlB.below {w w' : World} {B : Nat} {el : TypeId} {v : Value} {l : List UInt8} (h : SlB w B el v l) (hb : Below w.heap.size w w') : SlB w' B el v l := Sl.below h hb
theorem SlB.mono {w : World} {B B' : Nat} {el : TypeId} {v : Value} {l : List UInt8} (h : SlB w B el v l) (hB : B' ≤ B) : SlB w B' el v l := Sl.mono h hB

section
variable {P : Program} {N : Nat} {ops : Array Oper} {K : Env → World → Prop} {rest : List Oper} {e : Env} {w : World} {ty : TypeId} {pos : String} {after : Array Edge}
variable {t el : TypeId} {v : Value} {x y : Operand} {z : Value}
/-- Bytes are appended to a slice of the call's own, from block B on. -/
theorem WpL.appendG [ht : SliceT P t el] [he : Elem P el 1 1 z] {d : Tmp} {B : Nat} {xs : List UInt8} (hd : dOk N (some d) = true) (hx : e.eval x = v) {A : Option Addr} {m c : Nat} {l : List UInt8} (hy : e.eval y = .slice A m c) (hown : SlB w B el v xs) (hr : Rd w A (bv l))
    (hl : l.length = m) (hbytes : xs.length + m ≤ 140737488355328) (hb : B ≤ w.heap.size)
    (h : ∀ v' w', SlB w' B el v' (xs ++ l) → Grew w v w' v' → WpL P N ops K rest (e.set d v') w') :
    WpL P N ops K (⟨some d, .call { callee := .builtin .append, args := #[x, y], argTypes := #[t, t] }, ty, pos, after, none⟩ :: rest) e w := by
  subst hl
  refine WpL.append hd hx hy hown hr (by simp) (bv_one _) (by simpa using hbytes) (by simp only [maxLen]; omega) hb fun v' w' ha => ?_
  obtain ⟨h1, h2, h3⟩ := ha
  refine h v' w' ?_ ⟨h2, h3⟩
  unfold SlB
  rw [List.length_append, bv_append]
  exact h1
end

theorem SlB.block {w : World} {B : Nat} {el : TypeId} {v : Value} {l : List UInt8} (h : SlB w B el v l) (h0 : 0 < l.length) :
    ∃ g c, v = .slice (some ⟨g, 0, none⟩) l.length c ∧ B ≤ g ∧ g < w.heap.size ∧ l.length ≤ c ∧ c ≤ maxLen := by
  obtain ⟨_, h2⟩ := h
  rcases h2 with ⟨_, h⟩ | ⟨g, cap, cur, rfl, hb, hg, hn, hm, _⟩
  · omega
  · exact ⟨g, cap, rfl, hb, (Array.getElem?_eq_some_iff.1 hg).1, hn, hm⟩
/-- A byte is stored into bytes of the call's own. -/
theorem WpL.storeS {P : Program} {N : Nat} {ops : Array Oper} {K : Env → World → Prop} {rest : List Oper} {e : Env} {w : World} {ty : TypeId} {pos : String} {after : Array Edge} {x y : Operand} {t el : TypeId}
    [hs : SizeT P t 1] {B g c m j : Nat} {l : List UInt8} {b : UInt8} {k : Int} (hx : e.eval x = .pointer (some ⟨g, j, none⟩)) (hy : e.eval y = .int .u8 k) (hk : k = (b.toNat : Int)) (hown : SlB w B el (.slice (some ⟨g, 0, none⟩) m c) l) (hj : j < l.length)
    (h : ∀ w', SlB w' B el (.slice (some ⟨g, 0, none⟩) m c) (l.set j b) → w.grownBy w' (some g) → w'.heap.size = w.heap.size → WpL P N ops K rest e w') : WpL P N ops K (⟨none, .store t x y, ty, pos, after, none⟩ :: rest) e w := by
  obtain ⟨h1, h2⟩ := hown
  rcases h2 with ⟨h2, _⟩ | ⟨g', cap, cur, h2, hb, hg, hn, hm, hc, ht⟩
  · cases h2
  · injection h2 with h3 h4 h5
    injection h3 with h3
    injection h3 with h3 _ _
    subst h3 h5
    have hlen : l.length ≤ cur.size := by have := h1; simp at this; omega
    refine WpL.store1 hx hy rfl hg (by omega) fun w' hg' hs' hb' => h w' ?_ hg' hs'
    refine ⟨by simp, .inr ⟨g, c, _, by rw [h4]; simp, hb, hb', by simpa using hn, hm, by simpa using hc, ?_⟩⟩
    simp only [List.length_set, Array.toList_setIfInBounds, bv, hk]
    rw [List.take_set, ht]
    simp only [bv]
    rw [List.map_set]
/-- A cut: behind a piece of code only what J tells is known. -/
theorem Wp.cut {P : Program} {n : Nat} {c : Code} {K : Env → World → Prop} {Q : Exit → Env → World → Prop} {e : Env} {w : World} (J : Env → World → Prop) (h : Wp P n c (thenQ J Q) e w) (hk : ∀ e w, J e w → K e w) : Wp P n c (thenQ K Q) e w :=
  h.mono fun x e w hx => by
    cases x with
    | normal => exact hk _ _ hx
    | _ => exact hx
end Go.Fk

namespace Go.Fk
open Go.RowKit

abbrev Open := List (Tmp × Spec)
/-- For every value that the open slots may hold. -/
def AllE (w : World) (C : Env → Prop) : Open → Env → Prop
  | [], e => C e
  | (t, V) :: r, e => ∀ x, V x w → AllE w C r (e.set t x)
def gam (e : Env) : Open → Tmp → Spec
  | [], t => fun v _ => v = e t
  | (t', V) :: r, t => if t = t' then V else gam e r t

theorem gam_off {e : Env} {t : Tmp} : ∀ {E : Open}, t ∉ E.map (·.1) → gam e E t = fun v _ => v = e t
  | [], _ => rfl
  | (t', V) :: r, h => by
    simp only [List.map_cons, List.mem_cons, not_or] at h
    unfold gam
    rw [if_neg h.1]; exact gam_off h.2
theorem gam_set {e : Env} {d : Tmp} {c : Value} {t : Tmp} (h : t ≠ d) : ∀ {E : Open}, gam (e.set d c) E t = gam e E t
  | [] => by simp only [gam, Env.set_other e c h]
  | (t', V) :: r => by unfold gam; rw [gam_set h]
theorem gam_last {e : Env} {d : Tmp} {V : Spec} {t : Tmp} : ∀ {E : Open}, d ∉ E.map (·.1) → gam e (E ++ [(d, V)]) t = if t = d then V else gam e E t
  | [], _ => by simp only [List.nil_append, gam]
  | (t', V') :: r, h => by
    simp only [List.map_cons, List.mem_cons, not_or] at h
    simp only [List.cons_append, gam]
    rw [gam_last h.2]
    by_cases h1 : t = t'
    · subst h1; rw [if_pos rfl, if_pos rfl, if_neg (fun e => h.1 e.symm)]
    · rw [if_neg h1, if_neg h1]

def sub (L : List Tmp) (E : Open) : Open := E.filter fun p => L.contains p.1
theorem AllE.inst {w : World} {C : Env → Prop} {e : Env} (L : List Tmp) : ∀ {E : Open} {ê : Env}, (E.map (·.1)).Nodup → (∀ t ∈ L, gam ê E t (e t) w) → AllE w C (sub L E) ê → ∃ e', C e' ∧ ∀ t ∈ L, e' t = e t
  | [], ê, _, hg, h => ⟨ê, h, fun t ht => (hg t ht).symm⟩
  | (t, V) :: r, ê, hn, hg, h => by
    simp only [List.map_cons, List.nodup_cons] at hn
    by_cases ht : t ∈ L
    · have hs : sub L ((t, V) :: r) = (t, V) :: sub L r := by simp [sub, List.filter_cons, ht]
      rw [hs] at h
      have hV : V (e t) w := by have := hg t ht; simpa [gam] using this
      refine AllE.inst L hn.2 (fun t' ht' => ?_) (h _ hV)
      by_cases htt : t' = t
      · subst htt
        rw [gam_off hn.1]
        exact (Env.set_same _ _ _).symm
      · rw [gam_set htt]
        have := hg t' ht'
        unfold gam at this
        rwa [if_neg htt] at this
    · have hs : sub L ((t, V) :: r) = sub L r := by simp [sub, List.filter_cons, ht]
      rw [hs] at h
      refine AllE.inst L hn.2 (fun t' ht' => ?_) h
      have htt : t' ≠ t := fun e => ht (e ▸ ht')
      have := hg t' ht'
      unfold gam at this
      rwa [if_neg htt] at this
theorem AllE.full {w : World} {C : Env → Prop} {e : Env} : ∀ {E : Open} {ê : Env}, (E.map (·.1)).Nodup → (∀ t, gam ê E t (e t) w) → AllE w C E ê → C e
  | [], ê, _, hg, h => by
    have : ê = e := funext fun t => (hg t).symm
    subst this; exact h
  | (t, V) :: r, ê, hn, hg, h => by
    simp only [List.map_cons, List.nodup_cons] at hn
    have hV : V (e t) w := by have := hg t; simpa [gam] using this
    refine AllE.full hn.2 (fun t' => ?_) (h _ hV)
    by_cases htt : t' = t
    · subst htt
      rw [gam_off hn.1]
      exact (Env.set_same _ _ _).symm
    · rw [gam_set htt]
      have := hg t'
      unfold gam at this
      rwa [if_neg htt] at this

section
variable {P : Program} {n : Nat} {ops : Array Oper} {w0 : World} {Fin : (Tmp → Spec) → Prop} {rest : List Oper} {e : Env} {E : Open} {ty : TypeId} {pos : String} {after : Array Edge} {guard : Option (Nat × Bool)}

/-- The operations from here on, each shown once. -/
def RgD (P : Program) (n : Nat) (ops : Array Oper) (w0 : World) (Fin : (Tmp → Spec) → Prop) (l : List Oper) (e : Env) (E : Open) : Prop :=
  (E.map (·.1)).Nodup → RgL P n ops (Below w0.heap.size w0) (fun w w' => Below w.heap.size w w') Fin l (gam e E)

def notSelect : Op → Bool
  | .select _ _ => false
  | _ => true

theorem one_ob {o : Oper} {d : Tmp} {V : Spec} (hd : o.dst = some d) (hs : notSelect o.op = true) (hn : (E.map (·.1)).Nodup)
    (h : ∀ w, Below w0.heap.size w0 w → AllE w (fun e => WpL P n ops (fun e' w' => (Below w0.heap.size w0 w' ∧ Below w.heap.size w w') ∧ V (e' d) w') [o] e w) (sub (o.looksAt ops) E) e) :
    Ob P ops (Below w0.heap.size w0) (fun w w' => Below w.heap.size w w') o (gam e E) V := by
  intro e1 w hw hg
  obtain ⟨e', ⟨_, h1⟩, h2⟩ := AllE.inst (o.looksAt ops) hn hg (h w hw)
  have hops : ∀ x ∈ o.op.operands, e1.eval x = e'.eval x := fun x hx => by
    cases x with
    | tmp t => exact (h2 t (List.mem_append_left _ (List.mem_filterMap.2 ⟨.tmp t, by simpa using hx, rfl⟩))).symm
    | _ => rfl
  have hy : Region.wanted o (yieldedE ops e1) = Region.wanted o (yieldedE ops e') := by
    unfold Region.wanted
    cases hgd : o.guard with
    | none => rfl
    | some p =>
      obtain ⟨g, b⟩ := p
      simp only
      have : yieldedE ops e1 g = yieldedE ops e' g := by
        unfold yieldedE
        cases hb : (ops[g]?).bind (·.dst) with
        | none => rfl
        | some t =>
          simp only
          rw [h2 t (List.mem_append_right _ (by rw [hgd]; simp only; rw [hb]; simp))]
      rw [this]
  have hx : execOp e1.eval o = execOp e'.eval o := execOp_congr o (fun cs b hc => by rw [hc] at hs; cases hs) hops
  rw [hy]
  by_cases hwt : Region.wanted o (yieldedE ops e') = true
  · rw [if_pos hwt] at h1 ⊢
    unfold OpW at h1
    unfold RunsTo
    rw [hx]
    generalize (execOp e'.eval o).run P w = r at h1 ⊢
    have fin : ∀ v w', WpL P n ops (fun e' w' => (Below w0.heap.size w0 w' ∧ Below w.heap.size w w') ∧ V (e' d) w') [] (e'.setD o.dst v) w' → Below w0.heap.size w0 w' ∧ Below w.heap.size w w' ∧ V v w' := fun v w' h => by
      have h : (Below w0.heap.size w0 w' ∧ Below w.heap.size w w') ∧ V (e'.setD o.dst v d) w' := h
      rw [hd] at h
      simp only [Env.setD, Env.set_same] at h
      exact ⟨h.1.1, h.1.2, h.2⟩
    cases r with
    | halt x w' => exact h1.elim
    | ok x w' =>
      cases x <;> simp only at h1 ⊢
      case value v => exact fin _ _ h1
      case skip => exact fin _ _ h1
      case enter f args => exact h1.mono fun x w'' ⟨v, hv, hx⟩ => ⟨v, hv, fin _ _ hx⟩
      case row row args => exact h1.mono fun v w'' hx => fin _ _ hx
  · rw [if_neg hwt] at h1 ⊢
    have h : (Below w0.heap.size w0 w ∧ Below w.heap.size w w) ∧ V (e'.setD o.dst undef d) w := h1
    rw [hd] at h
    simp only [Env.setD, Env.set_same] at h
    exact h.2

/-- One operation whose value is known ahead. -/
theorem RgD.known {o : Op} {d : Tmp} {c : Value} (hd : dOk n (some d) = true) (hs : notSelect o = true) (hk : (E.map (·.1)).contains d = false) (E' : Open) (hE : sub ((⟨some d, o, ty, pos, after, guard⟩ : Oper).looksAt ops) E = E')
    (h : ∀ w, Below w0.heap.size w0 w → AllE w (fun e => WpL P n ops (fun e' w' => (Below w0.heap.size w0 w' ∧ Below w.heap.size w w') ∧ e' d = c) [⟨some d, o, ty, pos, after, guard⟩] e w) E' e)
    (hr : RgD P n ops w0 Fin rest (e.set d c) E) : RgD P n ops w0 Fin (⟨some d, o, ty, pos, after, guard⟩ :: rest) e E := fun hn => by
  subst hE
  have hk : d ∉ E.map (·.1) := by simpa using hk
  refine ⟨fun v _ => v = c, hd, fun _ _ _ h _ _ _ => h, one_ob rfl hs hn h, ?_⟩
  have : setG (gam e E) (some d) (fun v _ => v = c) = gam (e.set d c) E := funext fun t => by
    unfold setG
    by_cases ht : t = d
    · subst ht; rw [if_pos rfl, gam_off hk, Env.set_same]
    · rw [if_neg (fun h => ht (by injection h with h; exact h.symm)), gam_set ht]
  simp only [this]
  exact hr hn
/-- One operation of whose value something holds, and goes on to hold. -/
theorem RgD.spec {o : Op} {d : Tmp} (V : Spec) (hd : dOk n (some d) = true) (hs : notSelect o = true) (hk : (E.map (·.1)).contains d = false) (E' : Open) (hE : sub ((⟨some d, o, ty, pos, after, guard⟩ : Oper).looksAt ops) E = E')
    (hst : ∀ v w w', V v w → Below w.heap.size w w' → V v w')
    (h : ∀ w, Below w0.heap.size w0 w → AllE w (fun e => WpL P n ops (fun e' w' => (Below w0.heap.size w0 w' ∧ Below w.heap.size w w') ∧ V (e' d) w') [⟨some d, o, ty, pos, after, guard⟩] e w) E' e)
    (hr : RgD P n ops w0 Fin rest e (E ++ [(d, V)])) : RgD P n ops w0 Fin (⟨some d, o, ty, pos, after, guard⟩ :: rest) e E := fun hn => by
  subst hE
  have hk : d ∉ E.map (·.1) := by simpa using hk
  refine ⟨V, hd, fun v w w' h _ _ hb => hst v w w' h hb, one_ob rfl hs hn h, ?_⟩
  have : setG (gam e E) (some d) V = gam e (E ++ [(d, V)]) := funext fun t => by
    unfold setG
    rw [gam_last hk]
    by_cases ht : t = d
    · subst ht; rw [if_pos rfl, if_pos rfl]
    · rw [if_neg (fun h => ht (by injection h with h; exact h.symm)), if_neg ht]
  simp only [this]
  refine hr ?_
  simp only [List.map_append, List.map_cons, List.map_nil]
  exact List.nodup_append.2 ⟨hn, by simp, fun a ha b hb => by simp only [List.mem_singleton] at hb; subst hb; exact fun h => hk (h ▸ ha)⟩
/-- What leaves the world alone, of known operands. -/
theorem RgD.det {o : Op} {d : Tmp} {c : Value} (hd : dOk n (some d) = true) (hs : notSelect o = true) (hk : (E.map (·.1)).contains d = false) (hE : sub ((⟨some d, o, ty, pos, after, none⟩ : Oper).looksAt ops) E = [])
    (h : Det P (Below w0.heap.size w0) o ty e c) (hr : RgD P n ops w0 Fin rest (e.set d c) E) : RgD P n ops w0 Fin (⟨some d, o, ty, pos, after, none⟩ :: rest) e E :=
  RgD.known hd hs hk [] hE (fun w hw => WpL.det hd (fun _ _ _ _ w' hw' => by subst hw'; exact h _ _ _ _ _ hw) ⟨⟨hw, Below.refl _ _⟩, Env.set_same _ _ _⟩) hr
theorem RgD.detG {o : Op} {j d d' : Nat} {b t : Bool} {c : Value} (hj : (ops[j]?).bind (·.dst) = some d) (he : e d = .bool t) (ht : t = b) (hd : dOk n (some d') = true) (hs : notSelect o = true) (hk : (E.map (·.1)).contains d' = false)
    (hE : sub ((⟨some d', o, ty, pos, after, some (j, b)⟩ : Oper).looksAt ops) E = [])
    (h : Det P (Below w0.heap.size w0) o ty e c) (hr : RgD P n ops w0 Fin rest (e.set d' c) E) : RgD P n ops w0 Fin (⟨some d', o, ty, pos, after, some (j, b)⟩ :: rest) e E :=
  RgD.known hd hs hk [] hE (fun w hw => WpL.detG hj he ht hd (fun _ _ _ _ w' hw' => by subst hw'; exact h _ _ _ _ _ hw) ⟨⟨hw, Below.refl _ _⟩, Env.set_same _ _ _⟩) hr
theorem RgD.skipG {o : Op} {j d d' : Nat} {b t : Bool} (hj : (ops[j]?).bind (·.dst) = some d) (he : e d = .bool t) (ht : t = !b) (hd : dOk n (some d') = true) (hs : notSelect o = true) (hk : (E.map (·.1)).contains d' = false)
    (hE : sub ((⟨some d', o, ty, pos, after, some (j, b)⟩ : Oper).looksAt ops) E = [])
    (hr : RgD P n ops w0 Fin rest (e.set d' undef) E) : RgD P n ops w0 Fin (⟨some d', o, ty, pos, after, some (j, b)⟩ :: rest) e E :=
  RgD.known hd hs hk [] hE (fun w hw => WpL.skipG hj he ht hd ⟨⟨hw, Below.refl _ _⟩, Env.set_same _ _ _⟩) hr
theorem RgD.known0 {o : Op} {d : Tmp} {c : Value} (hd : dOk n (some d) = true) (hs : notSelect o = true) (hk : (E.map (·.1)).contains d = false) (hE : sub ((⟨some d, o, ty, pos, after, guard⟩ : Oper).looksAt ops) E = [])
    (h : ∀ w, Below w0.heap.size w0 w → WpL P n ops (fun e' w' => (Below w0.heap.size w0 w' ∧ Below w.heap.size w w') ∧ e' d = c) [⟨some d, o, ty, pos, after, guard⟩] e w)
    (hr : RgD P n ops w0 Fin rest (e.set d c) E) : RgD P n ops w0 Fin (⟨some d, o, ty, pos, after, guard⟩ :: rest) e E := RgD.known hd hs hk [] hE h hr
theorem RgD.known1 {o : Op} {d t : Tmp} {V : Spec} {c : Value} (hd : dOk n (some d) = true) (hs : notSelect o = true) (hk : (E.map (·.1)).contains d = false) (hE : sub ((⟨some d, o, ty, pos, after, guard⟩ : Oper).looksAt ops) E = [(t, V)])
    (h : ∀ w, Below w0.heap.size w0 w → ∀ x, V x w → WpL P n ops (fun e' w' => (Below w0.heap.size w0 w' ∧ Below w.heap.size w w') ∧ e' d = c) [⟨some d, o, ty, pos, after, guard⟩] (e.set t x) w)
    (hr : RgD P n ops w0 Fin rest (e.set d c) E) : RgD P n ops w0 Fin (⟨some d, o, ty, pos, after, guard⟩ :: rest) e E := RgD.known hd hs hk [(t, V)] hE h hr
theorem RgD.spec0 {o : Op} {d : Tmp} (V : Spec) (hd : dOk n (some d) = true) (hs : notSelect o = true) (hk : (E.map (·.1)).contains d = false) (hE : sub ((⟨some d, o, ty, pos, after, guard⟩ : Oper).looksAt ops) E = [])
    (hst : ∀ v w w', V v w → Below w.heap.size w w' → V v w')
    (h : ∀ w, Below w0.heap.size w0 w → WpL P n ops (fun e' w' => (Below w0.heap.size w0 w' ∧ Below w.heap.size w w') ∧ V (e' d) w') [⟨some d, o, ty, pos, after, guard⟩] e w)
    (hr : RgD P n ops w0 Fin rest e (E ++ [(d, V)])) : RgD P n ops w0 Fin (⟨some d, o, ty, pos, after, guard⟩ :: rest) e E := RgD.spec V hd hs hk [] hE hst h hr
theorem RgD.spec1 {o : Op} {d t : Tmp} {U : Spec} (V : Spec) (hd : dOk n (some d) = true) (hs : notSelect o = true) (hk : (E.map (·.1)).contains d = false) (hE : sub ((⟨some d, o, ty, pos, after, guard⟩ : Oper).looksAt ops) E = [(t, U)])
    (hst : ∀ v w w', V v w → Below w.heap.size w w' → V v w')
    (h : ∀ w, Below w0.heap.size w0 w → ∀ x, U x w → WpL P n ops (fun e' w' => (Below w0.heap.size w0 w' ∧ Below w.heap.size w w') ∧ V (e' d) w') [⟨some d, o, ty, pos, after, guard⟩] (e.set t x) w)
    (hr : RgD P n ops w0 Fin rest e (E ++ [(d, V)])) : RgD P n ops w0 Fin (⟨some d, o, ty, pos, after, guard⟩ :: rest) e E := RgD.spec V hd hs hk [(t, U)] hE hst h hr
/-- A load from memory that was there ahead of the region. -/
theorem RgD.loadA {t : TypeId} {x : Operand} [Cell1 P t] {d : Tmp} {a : Addr} {j : Nat} {xs : List Value} {v : Value} (hd : dOk n (some d) = true) (hk : (E.map (·.1)).contains d = false) (hE : sub ((⟨some d, .load t x, ty, pos, after, none⟩ : Oper).looksAt ops) E = [])
    (hx : e.eval x = .pointer (some (a.add j))) (hr : At w0 a xs) (hc : xs[j]? = some v)
    (h : RgD P n ops w0 Fin rest (e.set d v) E) : RgD P n ops w0 Fin (⟨some d, .load t x, ty, pos, after, none⟩ :: rest) e E :=
  RgD.det hd rfl hk hE (Det.load1 hx fun w hw => (hr.below hw) j v hc) h
/-- A load from a block that was known ahead of the region. -/
theorem RgD.loadB {t el : TypeId} {x : Operand} [Cell1 P t] {d : Tmp} {g i : Nat} {cs : Array Value} {v : Value} (hd : dOk n (some d) = true) (hk : (E.map (·.1)).contains d = false) (hE : sub ((⟨some d, .load t x, ty, pos, after, none⟩ : Oper).looksAt ops) E = [])
    (hx : e.eval x = .pointer (some ⟨g, i, none⟩)) (hg : Blk w0 g el cs) (hc : cs[i]? = some v)
    (h : RgD P n ops w0 Fin rest (e.set d v) E) : RgD P n ops w0 Fin (⟨some d, .load t x, ty, pos, after, none⟩ :: rest) e E :=
  RgD.det hd rfl hk hE (Det.load1 hx fun w hw => by rw [(hg.stay hw).cell, hc]) h
/-- Bytes that were there ahead of the region, as a text. -/
theorem RgD.str {x : Operand} {t t' el : TypeId} [ht : SliceT P t el] [hs : StrT P t'] [hb : IntT P el .u8] {d : Tmp} {A : Option Addr} {l : List UInt8} {m c : Nat} (hd : dOk n (some d) = true) (hk : (E.map (·.1)).contains d = false) (hE : sub ((⟨some d, .convert t t' x, ty, pos, after, none⟩ : Oper).looksAt ops) E = [])
    (hx : e.eval x = .slice A m c) (hr : Rd w0 A (bv l)) (hn : l.length = m)
    (h : RgD P n ops w0 Fin rest (e.set d (.string ⟨l.toArray⟩)) E) : RgD P n ops w0 Fin (⟨some d, .convert t t' x, ty, pos, after, none⟩ :: rest) e E :=
  RgD.det hd rfl hk hE (Det.str hx (fun w hw => hr.below hw) hn) h
theorem RgD.strG {x : Operand} {t t' el : TypeId} [ht : SliceT P t el] [hs : StrT P t'] [hb : IntT P el .u8] {d d' j : Tmp} {b c' : Bool} {A : Option Addr} {l : List UInt8} {m c : Nat} (hj : (ops[j]?).bind (·.dst) = some d) (he : e d = .bool c') (hc : c' = b)
    (hd : dOk n (some d') = true) (hk : (E.map (·.1)).contains d' = false) (hE : sub ((⟨some d', .convert t t' x, ty, pos, after, some (j, b)⟩ : Oper).looksAt ops) E = [])
    (hx : e.eval x = .slice A m c) (hr : Rd w0 A (bv l)) (hn : l.length = m)
    (h : RgD P n ops w0 Fin rest (e.set d' (.string ⟨l.toArray⟩)) E) : RgD P n ops w0 Fin (⟨some d', .convert t t' x, ty, pos, after, some (j, b)⟩ :: rest) e E :=
  RgD.detG hj he hc hd rfl hk hE (Det.str hx (fun w hw => hr.below hw) hn) h
end

/-- THE RULE, in this form: N operations shown so, the others in order behind them. -/
theorem Wp.drawD {P : Program} {n : Nat} {l : List Oper} {id : Nat} {Q : Exit → Env → World → Prop} {e : Env} {w : World} (N : Nat) (hm : P.follows .mixedOrders = true)
    (hok : rgOk l N = true) (hN : Nat.ble N l.length = true)
    (h : RgD P n l.toArray w (fun Γ => ∀ e' w', Below w.heap.size w w' → (∀ t, Γ t (e' t) w') → WpL P n l.toArray (Q .normal) (l.drop N) e' w') (l.take N) e []) :
    Wp P n (.region id l.toArray true) Q e w := by
  refine Wp.draw N (Below w.heap.size w) (fun w w' => Below w.heap.size w w') hm hok (Nat.le_of_ble_eq_true hN) (fun w => Below.refl _ _) (Below.refl _ _).drew ?_
  exact h (by simp)
theorem RgD.fin {P : Program} {n : Nat} {ops ops' : Array Oper} {w0 : World} {K : Env → World → Prop} {tail : List Oper} {e : Env} {E : Open}
    (h : ∀ w, Below w0.heap.size w0 w → AllE w (fun e => WpL P n ops' K tail e w) E e) :
    RgD P n ops w0 (fun Γ => ∀ e' w', Below w0.heap.size w0 w' → (∀ t, Γ t (e' t) w') → WpL P n ops' K tail e' w') [] e E :=
  fun hn e' w' hb hg => AllE.full hn hg (h w' hb)
theorem RgD.fin0 {P : Program} {n : Nat} {ops ops' : Array Oper} {w0 : World} {K : Env → World → Prop} {tail : List Oper} {e : Env}
    (h : ∀ w, Below w0.heap.size w0 w → WpL P n ops' K tail e w) :
    RgD P n ops w0 (fun Γ => ∀ e' w', Below w0.heap.size w0 w' → (∀ t, Γ t (e' t) w') → WpL P n ops' K tail e' w') [] e [] := RgD.fin h
theorem RgD.fin1 {P : Program} {n : Nat} {ops ops' : Array Oper} {w0 : World} {K : Env → World → Prop} {tail : List Oper} {e : Env} {t : Tmp} {V : Spec}
    (h : ∀ w, Below w0.heap.size w0 w → ∀ x, V x w → WpL P n ops' K tail (e.set t x) w) :
    RgD P n ops w0 (fun Γ => ∀ e' w', Below w0.heap.size w0 w' → (∀ t, Γ t (e' t) w') → WpL P n ops' K tail e' w') [] e [(t, V)] := RgD.fin h
end Go.Fk

namespace Go.Fk
open Go.RowKit

section
variable {P : Program} {N : Nat} {ops : Array Oper} {K : Env → World → Prop} {rest : List Oper} {e : Env} {w : World} {ty : TypeId} {pos : String} {after : Array Edge} {x y : Operand} {I : World → Prop}
/-- A struct or an array out of a block that it fills. -/
theorem Det.loadRow {n g : Nat} {t ty' : TypeId} {cs : Array Value} [h : RowT P ty'] [hs : SizeT P ty' n] (hx : e.eval x = .pointer (some ⟨g, 0, none⟩)) (hg : ∀ w, I w → Blk w g t cs) (hn : cs.size = n) :
    Det P I (.load ty' x) ty e (.agg cs) := fun _ _ _ _ w hw => by
  obtain ⟨d, hu, hd⟩ := h.hu
  simp [execOp, hx, Instr.loadAt, Instr.sureAddr, run_loadVar_row (P := P) w g t ty' cs (0, 0) d (hg w hw) hu (by cases d <;> simp_all) (by rw [hs.hs, hn])]
theorem WpL.loadRow {n g : Nat} {t ty' : TypeId} {cs : Array Value} [h : RowT P ty'] [hs : SizeT P ty' n] {d : Tmp} (hd : dOk N (some d) = true) (hx : e.eval x = .pointer (some ⟨g, 0, none⟩)) (hg : Blk w g t cs) (hn : cs.size = n)
    (hk : WpL P N ops K rest (e.set d (.agg cs)) w) : WpL P N ops K (⟨some d, .load ty' x, ty, pos, after, none⟩ :: rest) e w :=
  WpL.det hd (Det.loadRow (t := t) hx (by rintro _ rfl; exact hg) hn) hk


theorem PVals.found {r : List (Nat × Operand)} {s : List (Nat × Value)} (h : PVals e r s := by (repeat (first | exact PVals.nil | ((with_reducible apply PVals.cons); (· (first | exact Env.ev_const _ _ | exact Env.ev_func _ _ | exact Env.ev_global _ _ | (apply Env.evt; (repeat (first | exact Env.hit _ _ _ | ((with_reducible apply Env.miss); (· exact rfl)) | exact Env.ap_undef _ | exact rfl))))))))) : PVals e r s := h
/-- A new slice of noughts: bytes. -/
theorem WpL.makeB {t el : TypeId} [ht : SliceT P t el] [he : Elem P el 1 1 (.int .u8 0)] {d : Tmp} {n : Nat} {kl kc : IntKind} (hd : dOk N (some d) = true) (hx : e.eval x = .int kl (n : Int)) (hy : e.eval y = .int kc (n : Int)) (hn : n ≤ 140737488355328)
    (h : ∀ w', Below w.heap.size w w' → w'.heap.size = w.heap.size + 1 → SlB w' w.heap.size el (.slice (some ⟨w.heap.size, 0, none⟩) n n) (List.replicate n 0) → WpL P N ops K rest (e.set d (.slice (some ⟨w.heap.size, 0, none⟩) n n)) w') :
    WpL P N ops K (⟨some d, .makeSlice t x y, ty, pos, after, none⟩ :: rest) e w := by
  obtain ⟨i, hi, hz, hsize, hby⟩ := he.get
  have hr := _root_.Go.run_make_row (P := P) t el i (.int .u8 0) ht.hu hi hz hsize rfl kl kc n (by rw [hby]; omega) (by omega) w
  refine WpL.run (w' := w.alloc (.cells (madeCells #[.int .u8 0] n) el)) hd (by simp only [execOp, hx, hy, Sem.run_bind, hr]; rfl) (h _ ((Below.refl _ _).alloc (Nat.le_refl _) _) (by simp) ?_)
  refine ⟨by simp, .inr ⟨w.heap.size, n, _, by rw [List.length_replicate], Nat.le_refl _, heap_alloc_new w _, by simp, by simp only [maxLen]; omega, by rw [size_madeCells]; omega, ?_⟩⟩
  have e1 : (madeCells #[.int .u8 0] n).toList = List.replicate n (.int .u8 0) := by
    refine List.ext_getElem (by simp [madeCells]) fun j h1 h2 => ?_
    have h3 : j % 1 = 0 := Nat.mod_one j
    simp [madeCells, h3]
  rw [e1]
  simp [bv]

/-- One byte is appended where there is room: in bytes of the call's own. -/
theorem WpL.appendIn {t el : TypeId} [ht : SliceT P t el] [he : Elem P el 1 1 (.int .u8 0)] {d : Tmp} {B g c M o m c1 c2 : Nat} {l : List UInt8} {b : UInt8} {A : Option Addr} (hd : dOk N (some d) = true) (hx : e.eval x = .slice (some ⟨g, o, none⟩) m c1) (hy : e.eval y = .slice A 1 c2)
    (hown : SlB w B el (.slice (some ⟨g, 0, none⟩) M c) l) (hr : Rd w A (bv [b])) (hroom : m + 1 ≤ c1) (hin : o + m < l.length)
    (h : ∀ w', SlB w' B el (.slice (some ⟨g, 0, none⟩) M c) (l.set (o + m) b) → w.grownBy w' (some g) → w'.heap.size = w.heap.size → WpL P N ops K rest (e.set d (.slice (some ⟨g, o, none⟩) (m + 1) c1)) w') :
    WpL P N ops K (⟨some d, .call { callee := .builtin .append, args := #[x, y], argTypes := #[t, t] }, ty, pos, after, none⟩ :: rest) e w := by
  obtain ⟨i, hi, hz, hsize, hby⟩ := he.get
  obtain ⟨h1, h2⟩ := hown
  rcases h2 with ⟨h2, _⟩ | ⟨g', cap, cur, h2, hb, hg, hn, hm, hc, htk⟩
  · cases h2
  · injection h2 with h3 h4 h5
    injection h3 with h3
    injection h3 with h3 _ _
    subst h3 h5
    have hlen : l.length ≤ cur.size := by have := h1; simp at this; omega
    rcases hr with hr | ⟨a, rfl, hat⟩
    · simp [bv] at hr
    have hcell : w.cell? ⟨g, o + m * 1 + 0, none⟩ = some (cur[o + m]'(by omega)) := by
      rw [cell_of_row w g _ cur el (0, 0) hg]
      simp only [Nat.mul_one, Nat.add_zero]
      exact Array.getElem?_eq_getElem (by omega)
    have hfz : w.frozen? ⟨g, o + m * 1 + 0, none⟩ = false := frozen_of_row w g _ cur el hg
    have hrun := run_append_room_cells (P := P) w t ty el i ht.hu hi g o m c1 a 1 c2 (bv [b]) (by simp [hsize]) (fun j u hu => hat j u hu) (bv_one _) hroom
      (fun j hj => by
        have : j = 0 := by simp at hj; omega
        subst this; rw [hsize, hcell]; rfl)
      (fun j hj => by
        have : j = 0 := by simp at hj; omega
        subst this; rw [hsize]; exact hfz)
    rw [hsize, Nat.mul_one] at hrun
    have hset : w.setCells g (o + m) (bv [b]) = w.setCell ⟨g, o + m, none⟩ (.int .u8 (b.toNat : Int)) := by simp [bv, World.setCells]
    rw [hset] at hrun
    refine WpL.run (w' := w.setCell ⟨g, o + m, none⟩ (.int .u8 (b.toNat : Int))) hd ?_ (h _ ?_ (grown_setCell _ _ _) (by simp [World.setCell]))
    · simp [execOp, resolve, invoke, builtin, hx, hy, hrun]
    · have hb' : Blk w g el cur := hg
      refine ⟨by simp, .inr ⟨g, c, _, by rw [h4]; simp, hb, hb'.setCell _ _, by simpa using hn, hm, by simpa using hc, ?_⟩⟩
      simp only [List.length_set, Array.toList_setIfInBounds, bv]
      rw [List.take_set, htk]
      simp only [bv]
      rw [List.map_set]
end
theorem doneQ_cell2 {P : Program} {fn : Func} {R : Ending → World → Prop} {e : Env} {w : World} {p u : Tmp} {ty t : TypeId} {g n : Nat} {cs : Array Value} {v : Value} [h : RowT P ty] [hs : SizeT P ty n] (hr : fn.results = #[.cell p ty, .tmp u])
    (hp : e p = .pointer (some ⟨g, 0, none⟩)) (hv : e u = v) (hg : Blk w g t cs) (hn : cs.size = n) (hR : R (.returned (.tuple #[.agg cs, v])) w) : doneQ P fn R .ret e w := by
  obtain ⟨d, hu, hd⟩ := h.hu
  subst hv
  refine ⟨_, fun tmps ht => ?_, hR⟩
  have h1 := run_loadVar_row (P := P) w g t ty cs (0, 0) d hg hu (by cases d <;> simp_all) (by rw [hs.hs, hn])
  rw [results_cell_tmp hr tmps P w, ht p, hp, ← ht u]
  simp [asAddr, h1]
end Go.Fk

namespace Go.Fk
open Go.RowKit

def eqCell : Value → Value → Bool
  | .int _ a, .int _ b => a == b
  | .bool a, .bool b => a == b
  | _, _ => false
def eqCells : List Value → List Value → Bool
  | a :: as, b :: bs => eqCell a b && eqCells as bs
  | _, _ => true
def simpleAt (P : Program) : Nat → List Field → Bool
  | _, [] => true
  | k, f :: fs => (f.name != "_") && (f.offset == k) && (match P.underlying f.type with | some (.int _) => true | some .bool => true | _ => false) && simpleAt P (k + 1) fs
def fitCells (P : Program) : List Field → List Value → Bool
  | [], [] => true
  | f :: fs, v :: vs => (match P.underlying f.type, v with | some (.int q), .int q' _ => decide (q = q') | some .bool, .bool _ => true | _, _ => false) && fitCells P fs vs
  | _, _ => false

theorem run_eqFields_simple {P : Program} (d : Nat) (xs ys : Array Value) : ∀ (fs : List Field) (k : Nat) (vs us : List Value) (w : World), simpleAt P k fs = true → fitCells P fs vs = true → fitCells P fs us = true → xs.toList.drop k = vs → ys.toList.drop k = us →
    (Op.eqFields (d + 1) xs ys fs).run P w = .ok (eqCells vs us) w
  | [], k, [], [], w, _, _, _, _, _ => by simp [Op.eqFields, eqCells]
  | [], k, _ :: _, _, w, _, h, _, _, _ => by simp [fitCells] at h
  | [], k, [], _ :: _, w, _, _, h, _, _ => by simp [fitCells] at h
  | f :: fs, k, [], _, w, _, h, _, _, _ => by simp [fitCells] at h
  | f :: fs, k, _ :: _, [], w, _, _, h, _, _ => by simp [fitCells] at h
  | f :: fs, k, v :: vs, u :: us, w, hs, hv, hu, hx, hy => by
    simp only [simpleAt, Bool.and_eq_true, bne_iff_ne, ne_eq, beq_iff_eq] at hs
    obtain ⟨⟨⟨hname, hoff⟩, hty⟩, hrest⟩ := hs
    simp only [fitCells, Bool.and_eq_true] at hv hu
    have hxk : xs[k]? = some v := by
      have : (xs.toList.drop k)[0]? = some v := by rw [hx]; rfl
      simpa using this
    have hyk : ys[k]? = some u := by
      have : (ys.toList.drop k)[0]? = some u := by rw [hy]; rfl
      simpa using this
    have hx' : xs.toList.drop (k + 1) = vs := by rw [← List.drop_drop, hx]; rfl
    have hy' : ys.toList.drop (k + 1) = us := by rw [← List.drop_drop, hy]; rfl
    have ih := run_eqFields_simple d xs ys fs (k + 1) vs us w hrest hv.2 hu.2 hx' hy'
    cases ht : P.underlying f.type with
    | none => rw [ht] at hty; cases hty
    | some td =>
      rw [ht] at hty hv hu
      cases td
      case int q =>
        cases v <;> simp at hv
        cases u <;> simp at hu
        rename_i k1 a k2 b
        obtain ⟨hk1, hv⟩ := hv
        obtain ⟨hk2, hu⟩ := hu
        subst hk1 hk2
        have hpx : (part f.type xs f.offset).run P w = .ok (.int q a) w := by simp [part, isAgg, run_underlying ht, hoff, hxk]
        have hpy : (part f.type ys f.offset).run P w = .ok (.int q b) w := by simp [part, isAgg, run_underlying ht, hoff, hyk]
        simp only [Op.eqFields, hname, ne_eq, not_false_eq_true, if_true, Sem.run_bind, hpx, Result.andThen_ok, hpy]
        by_cases hab : a = b
        · simp [Op.equalIn, run_underlying ht, eqCells, eqCell, hab, ih]
        · simp [Op.equalIn, run_underlying ht, eqCells, eqCell, hab]
      case bool =>
        cases v <;> simp at hv
        cases u <;> simp at hu
        rename_i a b
        have hpx : (part f.type xs f.offset).run P w = .ok (.bool a) w := by simp [part, isAgg, run_underlying ht, hoff, hxk]
        have hpy : (part f.type ys f.offset).run P w = .ok (.bool b) w := by simp [part, isAgg, run_underlying ht, hoff, hyk]
        simp only [Op.eqFields, hname, ne_eq, not_false_eq_true, if_true, Sem.run_bind, hpx, Result.andThen_ok, hpy]
        by_cases hab : a = b
        · simp [Op.equalIn, run_underlying ht, eqCells, eqCell, hab, ih]
        · simp [Op.equalIn, run_underlying ht, eqCells, eqCell, hab]
      all_goals simp at hty

class BoolT (P : Program) (t : TypeId) : Prop where
  hu : P.underlying t = some .bool
class EqT (P : Program) (t : TypeId) : Prop where
  hu : P.underlying t = some (.struct (P.fieldsOf t))
  hp : P.stoodInHeld t = false
  hg : P.eqGuardType P.depth t = false
  hs : simpleAt P 0 (P.fieldsOf t).toList = true

section
variable {P : Program} {e : Env} {ty t t' : TypeId} {x y : Operand} {I : World → Prop} {xs ys : Array Value}
theorem Det.eqlRow [h : EqT P t] (hx : e.eval x = .agg xs) (hy : e.eval y = .agg ys) (h1 : fitCells P (P.fieldsOf t).toList xs.toList = true) (h2 : fitCells P (P.fieldsOf t).toList ys.toList = true) :
    Det P I (.binOp .eql t x y t') ty e (.bool (eqCells xs.toList ys.toList)) := fun _ _ _ _ w _ => by
  have hr := run_equalIn_struct (P := P) w 9999 t xs ys h.hu h.hp
  have hf := run_eqFields_simple (P := P) 9998 xs ys _ 0 xs.toList ys.toList w h.hs h1 h2 rfl rfl
  rw [hf] at hr
  simp only [execOp, hx, hy, Sem.run_bind, run_eqGuard_agg w .eql t x y xs ys h.hg, Result.andThen_ok, run_eql_struct, hr, Sem.run_pure]
theorem Det.neqRow [h : EqT P t] (hx : e.eval x = .agg xs) (hy : e.eval y = .agg ys) (h1 : fitCells P (P.fieldsOf t).toList xs.toList = true) (h2 : fitCells P (P.fieldsOf t).toList ys.toList = true) :
    Det P I (.binOp .neq t x y t') ty e (.bool (!eqCells xs.toList ys.toList)) := fun _ _ _ _ w _ => by
  have hr := run_equalIn_struct (P := P) w 9999 t xs ys h.hu h.hp
  have hf := run_eqFields_simple (P := P) 9998 xs ys _ 0 xs.toList ys.toList w h.hs h1 h2 rfl rfl
  rw [hf] at hr
  simp only [execOp, hx, hy, Sem.run_bind, run_eqGuard_agg w .neq t x y xs ys h.hg, Result.andThen_ok, run_neq_struct, hr, Sem.run_pure]
theorem Det.eqlBool {a b : Bool} [h : BoolT P t] (hx : e.eval x = .bool a) (hy : e.eval y = .bool b) : Det P I (.binOp .eql t x y t') ty e (.bool (a == b)) := fun _ _ _ _ w _ => by
  have hr := run_equalIn_bool' (P := P) w 9999 t a b h.hu
  simp [execOp, hx, hy, eqGuard, binOp, Op.equal, Op.maxDepth, hr]
theorem Det.neqBool {a b : Bool} [h : BoolT P t] (hx : e.eval x = .bool a) (hy : e.eval y = .bool b) : Det P I (.binOp .neq t x y t') ty e (.bool (a != b)) := fun _ _ _ _ w _ => by
  have hr := run_equalIn_bool' (P := P) w 9999 t a b h.hu
  simp [execOp, hx, hy, eqGuard, binOp, Op.equal, Op.maxDepth, hr, bne]
end
end Go.Fk

namespace Go.Fk
open Go.RowKit

/-- A part of memory: a block known whole; a slice of the call's own (nil, or the head of a block); what is read and never written. -/
inductive Ch where
  | blk (g : Nat) (t : TypeId) (cs : List Value)
  | own (A : Option Addr) (n c : Nat) (el : TypeId) (sz : Nat) (xs : List Value)
  | ro (A : Option Addr) (xs : List Value)
  /-- like a slice of the call's own, or full and never to be written: it may be read, and appended to -/
  | app (A : Option Addr) (n c : Nat) (el : TypeId) (sz : Nat) (xs : List Value)
  /-- a block that holds no cells: a loop's record, .. -/
  | obj (g : Nat) (o : Obj)

def Full (w : World) (A : Option Addr) (n c sz : Nat) (xs : List Value) : Prop := c = n ∧ n ≤ maxLen ∧ xs.length = n * sz ∧ ∃ a, A = some a ∧ a.block < w.heap.size ∧ At w a xs
def Ch.foot : Ch → Option Nat
  | .blk g _ _ => some g
  | .own A _ _ _ _ _ => A.map (·.block)
  | .app A _ _ _ _ _ => A.map (·.block)
  | .obj g _ => some g
  | .ro _ _ => none
def Ch.isRo : Ch → Bool
  | .ro _ _ => true
  | _ => false
def Ch.Is (w : World) : Ch → Prop
  | .blk g t cs => Blk w g t cs.toArray
  | .own A n c el sz xs => Sl w 0 el sz (.slice A n c) n xs
  | .ro A xs => Rd w A xs
  | .app A n c el sz xs => Sl w 0 el sz (.slice A n c) n xs ∨ Full w A n c sz xs
  | .obj g o => w.heap[g]? = some o
def feet (L : List Ch) : Nat → Prop := fun g => ∃ c ∈ L, c.foot = some g
/-- Where the part may lie: the call's own or what it may write; or else old and never written. -/
def Ch.Ok (w0 : World) (M : Nat → Prop) : Ch → Prop
  | .ro A xs => xs = [] ∨ ∃ a, A = some a ∧ a.block < w0.heap.size ∧ ¬ M a.block
  | c => ∀ g, c.foot = some g → w0.heap.size ≤ g ∨ M g
def Off (a b : Ch) : Prop := ∀ g, a.foot = some g → b.foot ≠ some g

/-- Of the old blocks those of S alone have changed. -/
structure Chg (w : World) (S : Nat → Prop) (w' : World) : Prop where
  os : w'.os = w.os
  tape : w'.tape = w.tape
  output : w'.output = w.output
  size : w.heap.size ≤ w'.heap.size
  block : ∀ k, k < w.heap.size → ¬ S k → w'.heap[k]? = w.heap[k]?
theorem Chg.refl (w : World) (S : Nat → Prop) : Chg w S w := ⟨rfl, rfl, rfl, Nat.le_refl _, fun _ _ _ => rfl⟩
theorem Chg.of_grown {w w' : World} {row : Option Nat} (h : w.grownBy w' row) : Chg w (fun k => row = some k) w' :=
  ⟨h.os, h.tape, h.output, h.size, fun k hk hs => h.block k hk fun e => hs e.symm⟩
theorem Chg.of_below {w w' : World} (h : Below w.heap.size w w') (S : Nat → Prop) : Chg w S w' :=
  ⟨h.os, h.tape, h.output, h.size, fun k hk _ => h.block k hk⟩
theorem Chg.below {w w' : World} {S : Nat → Prop} (h : Chg w S w') (hs : ∀ k, ¬ S k) : Below w.heap.size w w' :=
  ⟨h.os, h.tape, h.output, h.size, fun k hk => h.block k hk (hs k)⟩

structure St (w0 : World) (M : Nat → Prop) (w : World) (L : List Ch) : Prop where
  chg : Chg w0 M w
  hold : ∀ c ∈ L, c.Is w ∧ c.Ok w0 M
  apart : L.Pairwise Off

section
variable {w0 w w' : World} {M : Nat → Prop} {L L' : List Ch} {c : Ch}

theorem Ch.Is.lt (h : c.Is w) {g : Nat} (hg : c.foot = some g) : g < w.heap.size := by
  cases c with
  | blk g' t cs => simp [Ch.foot] at hg; subst hg; exact Blk.lt h
  | obj g' o => simp [Ch.foot] at hg; subst hg; exact (Array.getElem?_eq_some_iff.1 (show w.heap[g']? = some o from h)).1
  | own A n cap el sz xs =>
    rcases (show Sl w 0 el sz (.slice A n cap) n xs from h).own with h1 | ⟨g', h1, _, h2⟩
    · cases A with
      | none => simp [Ch.foot] at hg
      | some a => simp [Value.ownBlock] at h1
    · cases A with
      | none => simp [Ch.foot] at hg
      | some a => simp [Ch.foot] at hg; simp [Value.ownBlock] at h1; omega
  | ro A xs => cases hg
  | app A n cap el sz xs =>
    cases A with
    | none => simp [Ch.foot] at hg
    | some a =>
      simp [Ch.foot] at hg
      rcases (show Sl w 0 el sz (.slice (some a) n cap) n xs ∨ Full w (some a) n cap sz xs from h) with h | ⟨_, _, _, a', h1, h2, _⟩
      · rcases h.own with h1 | ⟨g', h1, _, h2⟩
        · simp [Value.ownBlock] at h1
        · simp [Value.ownBlock] at h1; omega
      · injection h1 with h1; subst h1; omega
theorem Sl.keepC {S : Nat → Prop} {el : TypeId} {sz n cap : Nat} {A : Option Addr} {xs : List Value} (h : Sl w 0 el sz (.slice A n cap) n xs) (hc : Chg w S w') (hf : ∀ g, A.map (·.block) = some g → ¬ S g) : Sl w' 0 el sz (.slice A n cap) n xs := by
  obtain ⟨h1, h2⟩ := h
  refine ⟨h1, ?_⟩
  rcases h2 with h2 | ⟨g, cap', cur, h2, hb, hg, rest⟩
  · exact .inl h2
  · refine .inr ⟨g, cap', cur, h2, hb, ?_, rest⟩
    injection h2 with h2
    subst h2
    exact (hc.block g (Array.getElem?_eq_some_iff.1 hg).1 (hf g rfl)).trans hg
/-- A part stays where nothing of it has changed. -/
theorem Ch.Is.keep {S : Nat → Prop} (h : c.Is w) (hc : Chg w S w') (hf : ∀ g, c.foot = some g → ¬ S g) (hro : c.isRo = false) : c.Is w' := by
  cases c with
  | blk g t cs =>
    have h : Blk w g t cs.toArray := h
    exact (hc.block g h.lt (hf g rfl)).trans h
  | obj g o =>
    have h : w.heap[g]? = some o := h
    exact (hc.block g (Array.getElem?_eq_some_iff.1 h).1 (hf g rfl)).trans h
  | own A n cap el sz xs =>
    exact Sl.keepC (show Sl w 0 el sz (.slice A n cap) n xs from h) hc hf
  | app A n cap el sz xs =>
    rcases (show Sl w 0 el sz (.slice A n cap) n xs ∨ Full w A n cap sz xs from h) with h | ⟨h0, h1, h2, a, rfl, h4, h5⟩
    · exact .inl (Sl.keepC h hc hf)
    · refine .inr ⟨h0, h1, h2, a, rfl, Nat.lt_of_lt_of_le h4 hc.size, fun j u hu => ?_⟩
      rw [World.cell?_of_block (w := w) (by rw [add_block]; exact hc.block a.block h4 (hf _ rfl))]
      exact h5 j u hu
  | ro A xs => cases hro
theorem Rd.keep {S : Nat → Prop} {A : Option Addr} {xs : List Value} (h : Rd w A xs) (hc : Chg w S w') (hf : xs = [] ∨ ∃ a, A = some a ∧ ¬ S a.block) : Rd w' A xs := by
  rcases h with h | ⟨a, rfl, h⟩
  · exact .inl h
  · rcases hf with hf | ⟨a', ha', hf⟩
    · exact .inl hf
    · injection ha' with ha'
      subst ha'
      refine .inr ⟨a, rfl, fun j u hu => ?_⟩
      have h1 := h j u hu
      have h2 := cell_lt h1
      rw [add_block] at h2
      rw [World.cell?_of_block (w := w) (by rw [add_block]; exact hc.block a.block h2 hf)]
      exact h1

/-- What was known holds behind a change of some of it; new parts come in their place. -/
theorem St.step {pre post Γ : List Ch} (h : St w0 M w (pre ++ Γ)) (h' : St w (feet pre) w' post) (hro : ∀ c ∈ post, c.isRo = false) : St w0 M w' (post ++ Γ) := by
  have hp := List.pairwise_append.1 h.apart
  have hfeet : ∀ g, feet pre g → w0.heap.size ≤ g ∨ M g := fun g ⟨c, hc, hg⟩ => by
    have h1 := (h.hold c (List.mem_append_left _ hc)).2
    cases c with
    | ro A xs => cases hg
    | blk g' t cs => exact h1 g hg
    | obj g' o => exact h1 g hg
    | own A n cap el sz xs => exact h1 g hg
    | app A n cap el sz xs => exact h1 g hg
  have hoff : ∀ c ∈ Γ, ∀ g, c.foot = some g → ¬ feet pre g := fun c hc g hg ⟨d, hd, hd'⟩ => hp.2.2 d hd c hc g hd' hg
  refine ⟨⟨h'.chg.os.trans h.chg.os, h'.chg.tape.trans h.chg.tape, h'.chg.output.trans h.chg.output, Nat.le_trans h.chg.size h'.chg.size, fun k hk hM => ?_⟩, fun c hc => ?_, ?_⟩
  · refine (h'.chg.block k (Nat.lt_of_lt_of_le hk h.chg.size) fun hf => ?_).trans (h.chg.block k hk hM)
    rcases hfeet k hf with h1 | h1
    · omega
    · exact hM h1
  · rcases List.mem_append.1 hc with hc | hc
    · obtain ⟨h1, h2⟩ := h'.hold c hc
      refine ⟨h1, ?_⟩
      have h3 := hro c hc
      have h4 : ∀ g, c.foot = some g → w0.heap.size ≤ g ∨ M g := fun g hg => by
        have : w.heap.size ≤ g ∨ feet pre g := by
          cases c with
          | ro A xs => cases h3
          | blk g' t cs => exact h2 g hg
          | obj g' o => exact h2 g hg
          | own A n cap el sz xs => exact h2 g hg
          | app A n cap el sz xs => exact h2 g hg
        rcases this with h5 | h5
        · exact .inl (Nat.le_trans h.chg.size h5)
        · exact hfeet g h5
      cases c with
      | ro A xs => cases h3
      | blk g' t cs => exact h4
      | obj g' o => exact h4
      | own A n cap el sz xs => exact h4
      | app A n cap el sz xs => exact h4
    · obtain ⟨h1, h2⟩ := h.hold c (List.mem_append_right _ hc)
      refine ⟨?_, h2⟩
      cases hr : c.isRo with
      | false => exact h1.keep h'.chg (hoff c hc) hr
      | true =>
        cases c with
        | ro A xs =>
          refine Rd.keep (show Rd w A xs from h1) h'.chg ?_
          rcases h2 with h2 | ⟨a, h2, h3, h4⟩
          · exact .inl h2
          · refine .inr ⟨a, h2, fun hf => ?_⟩
            rcases hfeet _ hf with h5 | h5
            · omega
            · exact h4 h5
        | blk g' t cs => cases hr
        | obj g' o => cases hr
        | own A n cap el sz xs => cases hr
        | app A n cap el sz xs => cases hr
  · refine List.pairwise_append.2 ⟨h'.apart, hp.2.1, fun a ha b hb g hg hb' => ?_⟩
    have h3 := hro a ha
    have h2 := (h'.hold a ha).2
    have h5 : w.heap.size ≤ g ∨ feet pre g := by
      cases a with
      | ro A xs => cases h3
      | blk g' t cs => exact h2 g hg
      | obj g' o => exact h2 g hg
      | own A n cap el sz xs => exact h2 g hg
      | app A n cap el sz xs => exact h2 g hg
    rcases h5 with h5 | h5
    · have := (h.hold b (List.mem_append_right _ hb)).1.lt hb'
      omega
    · exact hoff b hb g hb' h5

/-- The parts that a call is handed. -/
theorem St.part {pre Γ : List Ch} (h : St w0 M w (pre ++ Γ)) : St w (feet pre) w pre := by
  refine ⟨Chg.refl _ _, fun c hc => ?_, (List.pairwise_append.1 h.apart).1⟩
  obtain ⟨h1, h2⟩ := h.hold c (List.mem_append_left _ hc)
  refine ⟨h1, ?_⟩
  cases c with
  | ro A xs =>
    rcases h2 with h2 | ⟨a, h2, h3, h4⟩
    · exact .inl h2
    · refine .inr ⟨a, h2, Nat.lt_of_lt_of_le h3 h.chg.size, fun ⟨d, hd, hd'⟩ => ?_⟩
      have h5 := (h.hold d (List.mem_append_left _ hd)).2
      have h6 : w0.heap.size ≤ a.block ∨ M a.block := by
        cases d with
        | ro A xs => cases hd'
        | blk g' t cs => exact h5 _ hd'
        | obj g' o => exact h5 _ hd'
        | own A n cap el sz xs => exact h5 _ hd'
        | app A n cap el sz xs => exact h5 _ hd'
      rcases h6 with h6 | h6
      · omega
      · exact h4 h6
  | blk g' t cs => exact fun g hg => .inr ⟨_, hc, hg⟩
  | obj g' o => exact fun g hg => .inr ⟨_, hc, hg⟩
  | own A n cap el sz xs => exact fun g hg => .inr ⟨_, hc, hg⟩
  | app A n cap el sz xs => exact fun g hg => .inr ⟨_, hc, hg⟩

theorem Off.symm {a b : Ch} (h : Off a b) : Off b a := fun g hb ha => h g ha hb
theorem St.perm (h : St w0 M w L) (hp : L.Perm L') : St w0 M w L' :=
  ⟨h.chg, fun c hc => h.hold c (hp.mem_iff.2 hc), hp.pairwise h.apart fun h => h.symm⟩
theorem St.sub (h : St w0 M w L) (hs : L'.Sublist L) : St w0 M w L' :=
  ⟨h.chg, fun c hc => h.hold c (hs.subset hc), h.apart.sublist hs⟩
theorem St.tail (h : St w0 M w (c :: L)) : St w0 M w L := h.sub (List.sublist_cons_self _ _)
theorem St.drop1 {a b : Ch} (h : St w0 M w (a :: b :: L)) : St w0 M w (a :: L) := h.sub (.cons_cons _ (List.sublist_cons_self _ _))
theorem St.drop2 {a b c : Ch} (h : St w0 M w (a :: b :: c :: L)) : St w0 M w (a :: b :: L) := h.sub (.cons_cons _ (.cons_cons _ (List.sublist_cons_self _ _)))
theorem St.drop3 {a b c d : Ch} (h : St w0 M w (a :: b :: c :: d :: L)) : St w0 M w (a :: b :: c :: L) := h.sub (.cons_cons _ (.cons_cons _ (.cons_cons _ (List.sublist_cons_self _ _))))
theorem St.swap1 {a b : Ch} (h : St w0 M w (a :: b :: L)) : St w0 M w (b :: a :: L) := h.perm (List.Perm.swap _ _ _)
theorem St.mono {M' : Nat → Prop} (h : St w0 M w L) (hM : ∀ g, M g ↔ M' g) : St w0 M' w L := by
  have : M = M' := funext fun g => propext (hM g)
  subst this; exact h
theorem St.below (h : St w0 M w L) (hb : Below w.heap.size w w') : St w0 M w' L := by
  have := St.step (pre := []) (post := []) (Γ := L) (by simpa using h) ⟨Chg.of_below hb _, by simp, by simp⟩ (by simp)
  simpa using this
theorem St.drew (h : St w0 M w L) : St w0 M w.drew L := h.below (Below.refl _ _).drew
theorem St.start (w : World) : St w (feet []) w [] := ⟨Chg.refl _ _, by simp, by simp⟩
theorem St.toBelow (h : St w0 (feet []) w L) : Below w0.heap.size w0 w := h.chg.below fun k ⟨_, hc, _⟩ => by cases hc
/-- A new part behind what is old. -/
theorem St.new (h : St w0 M w L) (hb : Below w.heap.size w w') (hc : c.Is w') (hro : c.isRo = false) (hn : ∀ g, c.foot = some g → w.heap.size ≤ g) : St w0 M w' (c :: L) := by
  refine St.step (pre := []) (post := [c]) (Γ := L) (by simpa using h) ⟨Chg.of_below hb _, fun d hd => ?_, by simp⟩ (by simpa using hro)
  simp only [List.mem_singleton] at hd
  subst hd
  refine ⟨hc, ?_⟩
  cases d with
  | ro A xs => cases hro
  | blk g' t cs => exact fun g hg => .inl (hn g hg)
  | obj g' o => exact fun g hg => .inl (hn g hg)
  | own A n cap el sz xs => exact fun g hg => .inl (hn g hg)
  | app A n cap el sz xs => exact fun g hg => .inl (hn g hg)
/-- The first part becomes another one: it may have moved to new memory. -/
theorem St.put {d : Ch} (h : St w0 M w (c :: L)) (hg : Chg w (fun k => c.foot = some k) w') (hd : d.Is w') (hro : d.isRo = false) (hn : ∀ g, d.foot = some g → c.foot = some g ∨ w.heap.size ≤ g) : St w0 M w' (d :: L) := by
  have hS : ∀ k, (fun k => c.foot = some k) k → feet [c] k := fun k hk => ⟨c, List.mem_singleton.2 rfl, hk⟩
  refine St.step (pre := [c]) (post := [d]) (Γ := L) h ⟨⟨hg.os, hg.tape, hg.output, hg.size, fun k hk hf => hg.block k hk fun hk' => hf (hS k hk')⟩, fun d' hd' => ?_, by simp⟩ (by simpa using hro)
  simp only [List.mem_singleton] at hd'
  subst hd'
  refine ⟨hd, ?_⟩
  have h1 : ∀ g, d'.foot = some g → w.heap.size ≤ g ∨ feet [c] g := fun g hg' => (hn g hg').elim (fun h => .inr (hS g h)) .inl
  cases d' with
  | ro A xs => cases hro
  | blk g' t cs => exact h1
  | obj g' o => exact h1
  | own A n cap el sz xs => exact h1
  | app A n cap el sz xs => exact h1
/-- What is read and never written. -/
theorem St.addRo {A : Option Addr} {xs : List Value} (h : St w0 M w L) (hr : Rd w A xs) (hf : xs = [] ∨ ∃ a, A = some a ∧ a.block < w0.heap.size ∧ ¬ M a.block) : St w0 M w (.ro A xs :: L) := by
  refine ⟨h.chg, fun c hc => ?_, ?_⟩
  · rcases List.mem_cons.1 hc with rfl | hc
    · exact ⟨hr, hf⟩
    · exact h.hold c hc
  · exact List.pairwise_cons.2 ⟨fun b _ g hg => (by cases hg), h.apart⟩
/-- At the beginning, where the call may write nothing old. -/
theorem St.startRo {A : Option Addr} {xs : List Value} {L : List Ch} (h : St w (feet []) w L) (hr : Rd w A xs) : St w (feet []) w (.ro A xs :: L) := by
  refine h.addRo hr ?_
  rcases hr with hr | ⟨a, rfl, hr⟩
  · exact .inl hr
  · cases xs with
    | nil => exact .inl rfl
    | cons x r =>
      refine .inr ⟨a, rfl, ?_, fun ⟨_, hc, _⟩ => by cases hc⟩
      have := cell_lt (hr 0 x rfl)
      rwa [add_block] at this
end

/-! ### Finding a part -/
inductive Sel : Ch → List Ch → List Ch → Prop
  | here {c : Ch} {L : List Ch} : Sel c (c :: L) L
  | there {c d : Ch} {L L' : List Ch} (h : Sel c L L') : Sel c (d :: L) (d :: L')
theorem Sel.perm {c : Ch} {L L' : List Ch} (h : Sel c L L') : L.Perm (c :: L') := by
  induction h with
  | here => exact .refl _
  | there _ ih => exact (List.Perm.cons _ ih).trans (List.Perm.swap _ _ _)
inductive Take : List Ch → List Ch → List Ch → Prop
  | nil {L : List Ch} : Take L [] L
  | cons {c : Ch} {L L1 pre Γ : List Ch} (h : Sel c L L1) (h' : Take L1 pre Γ) : Take L (c :: pre) Γ
theorem Take.perm {L pre Γ : List Ch} (h : Take L pre Γ) : L.Perm (pre ++ Γ) := by
  induction h with
  | nil => exact .refl _
  | cons h _ ih => exact h.perm.trans (List.Perm.cons _ ih)

section
variable {w0 w w' : World} {M : Nat → Prop} {L L' pre post Γ : List Ch} {c : Ch}
theorem St.call (h : St w0 M w L) (ht : Take L pre Γ) : St w (feet pre) w pre := (h.perm ht.perm).part
theorem St.take (h : St w0 M w L) (ht : Take L pre Γ) : St w0 M w (pre ++ Γ) := h.perm ht.perm
theorem St.back (h : St w0 M w L) (ht : Take L pre Γ) (h' : St w (feet pre) w' post) (hro : (post.all fun c => !c.isRo) = true) : St w0 M w' (post ++ Γ) :=
  (h.perm ht.perm).step h' fun c hc => by simpa using List.all_eq_true.1 hro c hc
theorem St.pick (h : St w0 M w L) (hs : Sel c L L') : St w0 M w (c :: L') := h.perm hs.perm
theorem St.is (h : St w0 M w L) (hs : Sel c L L') : c.Is w := ((h.pick hs).hold c List.mem_cons_self).1
/-- Only the parts that are named; in the order named. -/
theorem St.only (h : St w0 M w L) (ht : Take L pre Γ) : St w0 M w pre := (h.perm ht.perm).sub (List.sublist_append_left _ _)
end

/-! ### Slices and views of them -/
def adr (A : Option Addr) : Addr := A.getD ⟨0, 0, none⟩
/-- V, of n places and c with what is spare, begins at place o of A. -/
structure IsVw (V : Option Addr) (n c : Nat) (A : Option Addr) (o : Nat) : Prop where
  le : n ≤ c
  max : c ≤ maxLen
  at_ : c = 0 ∨ ∃ a, A = some a ∧ V = some (a.add o)
theorem IsVw.base {A : Option Addr} {n c : Nat} (h : n ≤ c) (hm : c ≤ maxLen) (h0 : A = none → c = 0) : IsVw A n c A 0 :=
  ⟨h, hm, by
    cases A with
    | none => exact .inl (h0 rfl)
    | some a => exact .inr ⟨a, rfl, by rw [add_zero]⟩⟩
theorem IsVw.cut {V A : Option Addr} {n c o lo hi : Nat} (h : IsVw V n c A o) (h1 : lo ≤ hi) (h2 : hi ≤ c) : IsVw (if c = lo then V else V.map (·.add lo)) (hi - lo) (c - lo) A (o + lo) :=
  ⟨by omega, Nat.le_trans (Nat.sub_le _ _) h.max, by
    by_cases hc : c = lo
    · exact .inl (by omega)
    · rcases h.at_ with h0 | ⟨a, h1, h2⟩
      · exact .inl (by omega)
      · refine .inr ⟨a, h1, ?_⟩
        rw [if_neg hc, h2]
        simp [add_add]⟩
theorem IsVw.addr {V A : Option Addr} {n c o i : Nat} (h : IsVw V n c A o) (hi : i < n) : ∃ a, V = some a ∧ a.add i = (adr A).add (o + i) := by
  have := h.le
  rcases h.at_ with h0 | ⟨a, h1, h2⟩
  · omega
  · exact ⟨_, h2, by rw [h1, add_add]; rfl⟩
theorem IsVw.rd {V A : Option Addr} {n c o : Nat} {xs : List Value} {w : World} (h : IsVw V n c A o) (hr : Rd w A xs) {m : Nat} (hm : m ≤ n) : Rd w V ((xs.drop o).take m) := by
  have := h.le
  rcases h.at_ with h0 | ⟨a, rfl, rfl⟩
  · exact .inl (by rw [show m = 0 by omega]; simp)
  · rcases hr with rfl | ⟨a', h1, h2⟩
    · exact .inl (by simp)
    · injection h1 with h1
      subst h1
      exact .inr ⟨_, rfl, (h2.drop o).take m⟩

/-! ### Looking up a cell -/
/-- The part tells what stands at the address. -/
def Tells (c : Ch) (a : Addr) (v : Value) : Prop :=
  match c with
  | .blk g _ cs => ∃ i, a = ⟨g, i, none⟩ ∧ cs[i]? = some v
  | .own A _ _ _ _ xs => ∃ i, a = (adr A).add i ∧ xs[i]? = some v
  | .ro A xs => ∃ i, a = (adr A).add i ∧ xs[i]? = some v
  | .app A _ _ _ _ xs => ∃ i, a = (adr A).add i ∧ xs[i]? = some v
  | .obj _ _ => False
theorem Ch.app_rd {w : World} {A : Option Addr} {n c sz : Nat} {el : TypeId} {xs : List Value} (h : (Ch.app A n c el sz xs).Is w) : Rd w A xs := by
  rcases (show Sl w 0 el sz (.slice A n c) n xs ∨ Full w A n c sz xs from h) with h | ⟨_, _, _, a, rfl, _, h5⟩
  · obtain ⟨A', cap', h1, _, _, _, hr⟩ := h.form
    injection h1 with h1
    subst h1
    exact hr
  · exact .inr ⟨a, rfl, h5⟩
theorem Tells.cell {w : World} {c : Ch} {a : Addr} {v : Value} (hc : c.Is w) (h : Tells c a v) : w.cell? a = some v := by
  cases c with
  | blk g t cs =>
    obtain ⟨i, rfl, hi⟩ := h
    rw [(show Blk w g t cs.toArray from hc).cell]; simpa using hi
  | own A n cap el sz xs =>
    obtain ⟨i, rfl, hi⟩ := h
    obtain ⟨A', cap', h1, _, _, _, hr⟩ := (show Sl w 0 el sz (.slice A n cap) n xs from hc).form
    injection h1 with h1
    subst h1
    obtain ⟨a, rfl, hat⟩ := hr.at_ (List.getElem?_eq_some_iff.1 hi).1
    exact hat i v hi
  | ro A xs =>
    obtain ⟨i, rfl, hi⟩ := h
    obtain ⟨a, rfl, hat⟩ := (show Rd w A xs from hc).at_ (List.getElem?_eq_some_iff.1 hi).1
    exact hat i v hi
  | app A n cap el sz xs =>
    obtain ⟨i, rfl, hi⟩ := h
    obtain ⟨a, rfl, hat⟩ := (Ch.app_rd hc).at_ (List.getElem?_eq_some_iff.1 hi).1
    exact hat i v hi
  | obj g o => exact h.elim
inductive Look : List Ch → Addr → Value → Prop
  | here {c : Ch} {L : List Ch} {a : Addr} {v : Value} (h : Tells c a v) : Look (c :: L) a v
  | there {c : Ch} {L : List Ch} {a : Addr} {v : Value} (h : Look L a v) : Look (c :: L) a v
theorem Look.blk {g : Nat} {t : TypeId} {cs : List Value} {L : List Ch} {i : Nat} {v : Value} (h : cs[i]? = some v) : Look (.blk g t cs :: L) ⟨g, i, none⟩ v := .here ⟨i, rfl, h⟩
theorem Look.own {A : Option Addr} {n c : Nat} {el : TypeId} {sz : Nat} {xs : List Value} {L : List Ch} {i : Nat} {v : Value} (h : xs[i]? = some v) : Look (.own A n c el sz xs :: L) ((adr A).add i) v := .here ⟨i, rfl, h⟩
theorem Look.ro {A : Option Addr} {xs : List Value} {L : List Ch} {i : Nat} {v : Value} (h : xs[i]? = some v) : Look (.ro A xs :: L) ((adr A).add i) v := .here ⟨i, rfl, h⟩
theorem Look.app {A : Option Addr} {n c : Nat} {el : TypeId} {sz : Nat} {xs : List Value} {L : List Ch} {i : Nat} {v : Value} (h : xs[i]? = some v) : Look (.app A n c el sz xs :: L) ((adr A).add i) v := .here ⟨i, rfl, h⟩
theorem Look.roB {g : Nat} {xs : List Value} {L : List Ch} {i : Nat} {v : Value} (h : xs[i]? = some v) : Look (.ro (some ⟨g, 0, none⟩) xs :: L) ⟨g, i, none⟩ v :=
  .here ⟨i, by show _ = (⟨g, 0, none⟩ : Addr).add i; rw [add_mk, Nat.zero_add], h⟩
theorem Look.mem {c : Ch} {L : List Ch} {a : Addr} {v : Value} (hc : c ∈ L) (h : Tells c a v) : Look L a v := by
  induction L with
  | nil => cases hc
  | cons d L ih =>
    rcases List.mem_cons.1 hc with rfl | hc
    · exact .here h
    · exact .there (ih hc)
theorem Look.ex {L : List Ch} {a : Addr} {v : Value} (h : Look L a v) : ∃ c ∈ L, Tells c a v := by
  induction h with
  | here h => exact ⟨_, List.mem_cons_self, h⟩
  | there _ ih => obtain ⟨c, hc, h⟩ := ih; exact ⟨c, List.mem_cons_of_mem _ hc, h⟩
theorem Look.cell {w0 w : World} {M : Nat → Prop} {L : List Ch} {a : Addr} {v : Value} (h : Look L a v) (hS : St w0 M w L) : w.cell? a = some v := by
  obtain ⟨c, hc, h⟩ := h.ex
  exact h.cell (hS.hold c hc).1
theorem bvg {l : List UInt8} {i : Nat} (h : i < l.length) : (bv l)[i]? = some (.int .u8 ((l.getD i 0).toNat : Int)) := by
  rw [bv_get h]; simp [List.getD_eq_getElem?_getD, h]
theorem zvg {l : List Int} {i : Nat} (h : i < l.length) : (zv l)[i]? = some (.int .i64 (l.getD i 0)) := by
  rw [zv_get h]; simp [List.getD_eq_getElem?_getD, h]
/-- Numbers of 64 bits. -/
def uv (l : List Nat) : List Value := l.map fun z : Nat => .int .u64 (z : Int)
@[simp] theorem uv_length (l : List Nat) : (uv l).length = l.length := by simp [uv]
theorem uvg {l : List Nat} {i : Nat} (h : i < l.length) : (uv l)[i]? = some (.int .u64 ((l.getD i 0 : Nat) : Int)) := by
  simp [uv, h, List.getD_eq_getElem?_getD]
theorem byte_lt (l : List UInt8) (i : Nat) : (l.getD i 0).toNat < 256 := UInt8.toNat_lt _

/-! ### What is read through a slice -/
inductive Rds : List Ch → Option Addr → List Value → Prop
  | own {A : Option Addr} {n c : Nat} {el : TypeId} {sz : Nat} {xs : List Value} {L : List Ch} : Rds (.own A n c el sz xs :: L) A xs
  | ro {A : Option Addr} {xs : List Value} {L : List Ch} : Rds (.ro A xs :: L) A xs
  | blk {g : Nat} {t : TypeId} {cs : List Value} {L : List Ch} : Rds (.blk g t cs :: L) (some ⟨g, 0, none⟩) cs
  | app {A : Option Addr} {n c : Nat} {el : TypeId} {sz : Nat} {xs : List Value} {L : List Ch} : Rds (.app A n c el sz xs :: L) A xs
  | there {c : Ch} {A : Option Addr} {xs : List Value} {L : List Ch} (h : Rds L A xs) : Rds (c :: L) A xs
theorem Rds.ex {L : List Ch} {A : Option Addr} {xs : List Value} (h : Rds L A xs) : ∃ c ∈ L, ∀ w, c.Is w → Rd w A xs := by
  induction h with
  | own =>
    refine ⟨_, List.mem_cons_self, fun w h => ?_⟩
    obtain ⟨A', cap', h1, _, _, _, hr⟩ := (show Sl w 0 _ _ (.slice _ _ _) _ _ from h).form
    injection h1 with h1
    subst h1
    exact hr
  | ro => exact ⟨_, List.mem_cons_self, fun w h => h⟩
  | app => exact ⟨_, List.mem_cons_self, fun w h => Ch.app_rd h⟩
  | blk => exact ⟨_, List.mem_cons_self, fun w h => .inr ⟨_, rfl, by have := (show Blk w _ _ _ from h).at_; simpa using this⟩⟩
  | there _ ih => obtain ⟨c, hc, h⟩ := ih; exact ⟨c, List.mem_cons_of_mem _ hc, h⟩
theorem Rds.rd {w0 w : World} {M : Nat → Prop} {L : List Ch} {A : Option Addr} {xs : List Value} (h : Rds L A xs) (hS : St w0 M w L) : Rd w A xs := by
  obtain ⟨c, hc, h⟩ := h.ex
  exact h w (hS.hold c hc).1
theorem Rds.look {L : List Ch} {A : Option Addr} {xs : List Value} {i : Nat} {v : Value} (h : Rds L A xs) (hi : xs[i]? = some v) : Look L ((adr A).add i) v := by
  induction h with
  | own => exact Look.own hi
  | ro => exact Look.ro hi
  | app => exact Look.app hi
  | blk => exact .here ⟨i, by show (⟨_, 0, none⟩ : Addr).add i = _; rw [add_mk, Nat.zero_add], hi⟩
  | there _ ih => exact .there (ih hi)
/-- Through a view: n places from o on. -/
def RdsV (L : List Ch) (V : Option Addr) (n : Nat) (ys : List Value) : Prop := ∀ w0 M w, St w0 M w L → Rd w V ys ∧ ys.length = n
theorem RdsV.of {L : List Ch} {V A : Option Addr} {n c o : Nat} {xs : List Value} (hv : IsVw V n c A o) (h : Rds L A xs) (hl : o + n ≤ xs.length) : RdsV L V n ((xs.drop o).take n) :=
  fun _ _ _ hS => ⟨hv.rd (h.rd hS) (Nat.le_refl _), by simp; omega⟩
theorem RdsV.whole {L : List Ch} {A : Option Addr} {n : Nat} {xs : List Value} (h : Rds L A xs) (hl : xs.length = n) : RdsV L A n xs := fun _ _ _ hS => ⟨h.rd hS, hl⟩
theorem RdsV.byte {L : List Ch} {V A : Option Addr} {n c o : Nat} {l : List UInt8} (hv : IsVw V n c A o) (h : Rds L A (bv l)) (hl : o + n ≤ l.length) : RdsV L V n (bv ((l.drop o).take n)) := by
  have := RdsV.of hv h (by simpa using hl)
  rwa [bv_take, bv_drop]
theorem RdsV.ints {L : List Ch} {V A : Option Addr} {n c o : Nat} {l : List Int} (hv : IsVw V n c A o) (h : Rds L A (zv l)) (hl : o + n ≤ l.length) : RdsV L V n (zv ((l.drop o).take n)) := by
  have := RdsV.of hv h (by simpa using hl)
  rwa [zv_take, zv_drop]

/-! ### A cell is written -/
inductive PutAt : List Value → Nat → Value → List Value → Prop
  | here {u v : Value} {r : List Value} : PutAt (u :: r) 0 v (v :: r)
  | there {u v : Value} {r r' : List Value} {i : Nat} (h : PutAt r i v r') : PutAt (u :: r) (i + 1) v (u :: r')
theorem PutAt.set {l : List Value} {i : Nat} {v : Value} {l' : List Value} (h : PutAt l i v l') : l' = l.set i v ∧ i < l.length := by
  induction h with
  | here => simp
  | there _ ih => simp [ih.1, ih.2]
/-- The part that tells of the address becomes another. -/
inductive Upd : List Ch → Addr → Value → List Ch → Prop
  | blk {g : Nat} {t : TypeId} {cs cs' : List Value} {L : List Ch} {i : Nat} {v : Value} (hi : i < cs.length) (h : cs.set i v = cs') : Upd (.blk g t cs :: L) ⟨g, i, none⟩ v (.blk g t cs' :: L)
  | own {A : Option Addr} {n c : Nat} {el : TypeId} {sz : Nat} {xs xs' : List Value} {L : List Ch} {i : Nat} {v : Value} (hi : i < xs.length) (h : xs.set i v = xs') : Upd (.own A n c el sz xs :: L) ((adr A).add i) v (.own A n c el sz xs' :: L)
  | there {c : Ch} {L L' : List Ch} {a : Addr} {v : Value} (h : Upd L a v L') : Upd (c :: L) a v (c :: L')
theorem Upd.blkP {g : Nat} {t : TypeId} {cs cs' : List Value} {L : List Ch} {i : Nat} {v : Value} (h : PutAt cs i v cs') : Upd (.blk g t cs :: L) ⟨g, i, none⟩ v (.blk g t cs' :: L) := .blk h.set.2 h.set.1.symm
theorem bv_set (l : List UInt8) (i : Nat) (k : Int) (b : UInt8) (h : k = (b.toNat : Int)) : (bv l).set i (.int .u8 k) = bv (l.set i b) := by
  subst h; simp [bv, List.map_set]
theorem zv_set (l : List Int) (i : Nat) (z : Int) : (zv l).set i (.int .i64 z) = zv (l.set i z) := by simp [zv, List.map_set]
theorem uv_set (l : List Nat) (i : Nat) (z : Nat) : (uv l).set i (.int .u64 (z : Int)) = uv (l.set i z) := by simp [uv, List.map_set]
theorem Upd.ownB {A : Option Addr} {n c : Nat} {el : TypeId} {sz : Nat} {l : List UInt8} {L : List Ch} {i k : Nat} {z : Int} (hz : z = (k : Int)) (hk : k < 256) (hi : i < l.length) : Upd (.own A n c el sz (bv l) :: L) ((adr A).add i) (.int .u8 z) (.own A n c el sz (bv (l.set i (UInt8.ofNat k))) :: L) :=
  .own (by simpa using hi) (bv_set _ _ _ _ (by rw [hz, UInt8.toNat_ofNat', Nat.mod_eq_of_lt hk]))
theorem Upd.ownZ {A : Option Addr} {n c : Nat} {el : TypeId} {sz : Nat} {l : List Int} {L : List Ch} {i : Nat} {z : Int} (hi : i < l.length) : Upd (.own A n c el sz (zv l) :: L) ((adr A).add i) (.int .i64 z) (.own A n c el sz (zv (l.set i z)) :: L) :=
  .own (by simpa using hi) (zv_set _ _ _)
theorem Upd.ownU {A : Option Addr} {n c : Nat} {el : TypeId} {sz : Nat} {l : List Nat} {L : List Ch} {i k : Nat} {z : Int} (hz : z = (k : Int)) (hi : i < l.length) : Upd (.own A n c el sz (uv l) :: L) ((adr A).add i) (.int .u64 z) (.own A n c el sz (uv (l.set i k)) :: L) :=
  .own (by simpa using hi) (by rw [hz]; exact uv_set _ _ _)
/-- What a store does to the world. -/
structure Stores (w : World) (a : Addr) (v : Value) : Prop where
  cell : ∃ u, w.cell? a = some u
  frozen : w.frozen? a = false
  spot : a.spot = none
theorem Upd.run {w0 w : World} {M : Nat → Prop} {L L' : List Ch} {a : Addr} {v : Value} (hu : Upd L a v L') (hv : v.oneCell' = true) (hS : St w0 M w L) : Stores w a v ∧ St w0 M (w.setCell a v) L' := by
  have hsel : ∃ c d Γ, L.Perm (c :: Γ) ∧ L'.Perm (d :: Γ) ∧ ((∃ g t cs i, c = .blk g t cs ∧ i < cs.length ∧ a = ⟨g, i, none⟩ ∧ d = .blk g t (cs.set i v)) ∨
      (∃ A n cap el sz xs i, c = .own A n cap el sz xs ∧ i < xs.length ∧ a = (adr A).add i ∧ d = .own A n cap el sz (xs.set i v))) := by
    clear hS
    induction hu with
    | blk hi h => subst h; exact ⟨_, _, _, .refl _, .refl _, .inl ⟨_, _, _, _, rfl, hi, rfl, rfl⟩⟩
    | own hi h => subst h; exact ⟨_, _, _, .refl _, .refl _, .inr ⟨_, _, _, _, _, _, _, rfl, hi, rfl, rfl⟩⟩
    | there _ ih =>
      obtain ⟨c', d, Γ, h1, h2, h3⟩ := ih hv
      exact ⟨c', d, _ :: Γ, (List.Perm.cons _ h1).trans (List.Perm.swap _ _ _), (List.Perm.cons _ h2).trans (List.Perm.swap _ _ _), h3⟩
  obtain ⟨c, d, Γ, h1, h2, h3⟩ := hsel
  have hS := hS.perm h1
  have hc := (hS.hold c List.mem_cons_self).1
  rcases h3 with ⟨g, t, cs, i, rfl, hi, rfl, rfl⟩ | ⟨A, n, cap, el, sz, xs, i, rfl, hi, rfl, rfl⟩
  · have hb : Blk w g t cs.toArray := hc
    refine ⟨⟨⟨cs[i], by rw [hb.cell]; simp [hi]⟩, hb.frozen i, rfl⟩, ?_⟩
    refine (hS.put (d := .blk g t (cs.set i v)) (Chg.of_grown (grown_setCell w _ v)) ?_ rfl (fun g hg => .inl hg)).perm h2.symm
    have := hb.setCell i v
    simpa [Ch.Is] using this
  · obtain ⟨hl, h4⟩ := (show Sl w 0 el sz (.slice A n cap) n xs from hc)
    rcases h4 with ⟨h4, h5⟩ | ⟨g, cap', cur, h4, hb, hg, hn, hm, hcs, htk⟩
    · subst h5; simp at hl; subst hl; simp at hi
    · injection h4 with h4 h5 h6
      subst h4 h6
      have hadr : (adr (some (⟨g, 0, none⟩ : Addr))).add i = ⟨g, i, none⟩ := by
        show (⟨g, 0, none⟩ : Addr).add i = _
        rw [add_mk, Nat.zero_add]
      rw [hadr]
      have hicur : i < cur.size := by
        have : xs.length ≤ cur.size := by rw [← htk, List.length_take]; simp; omega
        omega
      have hblk : Blk w g el cur := hg
      refine ⟨⟨⟨cur[i], by rw [hblk.cell]; simp [hicur]⟩, hblk.frozen i, rfl⟩, ?_⟩
      refine (hS.put (d := .own (some ⟨g, 0, none⟩) n cap el sz (xs.set i v)) (Chg.of_grown (grown_setCell w ⟨g, i, none⟩ v)) ?_ rfl (fun g hg => .inl hg)).perm h2.symm
      refine ⟨by simpa using hl, .inr ⟨g, cap, _, rfl, Nat.zero_le _, hblk.setCell i v, hn, hm, by simpa using hcs, ?_⟩⟩
      rw [Array.toList_setIfInBounds, List.take_set, htk]

end Go.Fk

namespace Go.Fk
open Go.RowKit

section
variable {P : Program} {N : Nat} {ops : Array Oper} {K : Env → World → Prop} {rest : List Oper} {e : Env} {w : World} {ty : TypeId} {pos : String} {after : Array Edge} {x y : Operand}
variable {w0 : World} {M : Nat → Prop} {L L1 L' : List Ch} {t el : TypeId} {d : Tmp} {v : Value}

/-! ### Loads and stores -/
theorem WpL.ld [Cell1 P t] {a : Addr} (hS : St w0 M w L) (hd : dOk N (some d) = true) (hx : e.eval x = .pointer (some a)) (hl : Look L a v) (h : WpL P N ops K rest (e.set d v) w) :
    WpL P N ops K (⟨some d, .load t x, ty, pos, after, none⟩ :: rest) e w := WpL.load1 hd hx (hl.cell hS) h

theorem WpL.st [hs : SizeT P t 1] {a : Addr} (hS : St w0 M w L) (hx : e.eval x = .pointer (some a)) (hy : e.eval y = v) (hv : v.oneCell' = true) (hu : Upd L a v L') (h : ∀ w', St w0 M w' L' → WpL P N ops K rest e w') :
    WpL P N ops K (⟨none, .store t x y, ty, pos, after, none⟩ :: rest) e w := by
  have hcs : v.cells = #[v] := by cases v <;> simp_all [Value.oneCell', Value.cells]
  obtain ⟨⟨⟨u, h1⟩, h2, h3⟩, hS'⟩ := hu.run hv hS
  refine WpL.runSkip (w' := w.setCell a v) rfl ?_ (h _ hS')
  have hst := run_store P w a v .plain hv
  rw [h1] at hst
  simp only [h2, Bool.false_eq_true, if_false] at hst
  simp [execOp, hx, hy, Instr.storeAt, Instr.sureAddr, storeVar, SizeT.run (P := P) (t := t) w, hcs, storeCells, add_zero, hst]

/-- A whole struct or array is loaded. -/
theorem WpL.ldRow {n g : Nat} {t ty' : TypeId} {cs : List Value} [RowT P ty'] [SizeT P ty' n] (hS : St w0 M w L) (hd : dOk N (some d) = true) (hx : e.eval x = .pointer (some ⟨g, 0, none⟩)) (hsel : Sel (.blk g t cs) L L1) (hn : cs.length = n)
    (h : WpL P N ops K rest (e.set d (.agg cs.toArray)) w) : WpL P N ops K (⟨some d, .load ty' x, ty, pos, after, none⟩ :: rest) e w :=
  WpL.loadRow (t := t) hd hx (hS.is hsel) (by simpa using hn) h

/-- A block becomes another one at its place. -/
inductive Swap : Ch → Ch → List Ch → List Ch → Prop
  | here {c d : Ch} {L : List Ch} : Swap c d (c :: L) (d :: L)
  | there {c d b : Ch} {L L' : List Ch} (h : Swap c d L L') : Swap c d (b :: L) (b :: L')
theorem Swap.perm {c d : Ch} {L L' : List Ch} (h : Swap c d L L') : ∃ Γ, L.Perm (c :: Γ) ∧ L'.Perm (d :: Γ) := by
  induction h with
  | here => exact ⟨_, .refl _, .refl _⟩
  | there _ ih => obtain ⟨Γ, h1, h2⟩ := ih; exact ⟨_ :: Γ, (List.Perm.cons _ h1).trans (List.Perm.swap _ _ _), (List.Perm.cons _ h2).trans (List.Perm.swap _ _ _)⟩
theorem St.swap {c d : Ch} {w' : World} (hS : St w0 M w L) (hs : Swap c d L L') (hg : Chg w (fun k => c.foot = some k) w') (hd : d.Is w') (hro : d.isRo = false) (hn : ∀ g, d.foot = some g → c.foot = some g ∨ w.heap.size ≤ g) : St w0 M w' L' := by
  obtain ⟨Γ, h1, h2⟩ := hs.perm
  exact ((hS.perm h1).put hg hd hro hn).perm h2.symm

theorem WpL.stRow {n g : Nat} {cells : Array Value} {cs : List Value} [hs : SizeT P t n] (hS : St w0 M w L) (hx : e.eval x = .pointer (some ⟨g, 0, none⟩)) (hy : e.eval y = .agg cells) (hsw : Swap (.blk g el cs) (.blk g el cells.toList) L L') (hn : cells.size = n) (hc : cs.length = n) (h1 : ∀ v ∈ cells.toList, v.oneCell' = true)
    (h : ∀ w', St w0 M w' L' → WpL P N ops K rest e w') : WpL P N ops K (⟨none, .store t x y, ty, pos, after, none⟩ :: rest) e w := by
  obtain ⟨Γ, h2, h3⟩ := hsw.perm
  have hb : Blk w g el cs.toArray := ((hS.perm h2).hold _ List.mem_cons_self).1
  refine WpL.storeRow (n := n) hx hy hn (by simpa using hc) h1 hb fun w' hg _ hb' => h w' ?_
  exact hS.swap hsw (Chg.of_grown hg) (by simpa [Ch.Is] using hb') rfl fun g hg => .inl hg

/-! ### New memory -/
theorem WpL.bx {cs : List Value} (hS : St w0 M w L) (hd : dOk N (some d) = true) (hx : e.eval x = v) (hc : v.cells = cs.toArray)
    (h : ∀ g w', St w0 M w' (.blk g el cs :: L) → WpL P N ops K rest (e.set d (.pointer (some ⟨g, 0, none⟩))) w') :
    WpL P N ops K (⟨some d, .box el x, ty, pos, after, none⟩ :: rest) e w :=
  WpL.box hd hx fun w' hb hs hg => h _ w' (hS.new hb (by rw [hc] at hg; exact hg) rfl fun g hg => by injection hg with hg; omega)
theorem WpL.al {sz bytes : Nat} {z : Value} [he : Elem P el sz bytes z] {cs : List Value} (hS : St w0 M w L) (hd : dOk N (some d) = true) (hc : z.cells = cs.toArray)
    (h : ∀ g w', St w0 M w' (.blk g el cs :: L) → WpL P N ops K rest (e.set d (.pointer (some ⟨g, 0, none⟩))) w') :
    WpL P N ops K (⟨some d, .alloc el, ty, pos, after, none⟩ :: rest) e w :=
  WpL.alloc hd fun w' hb hs hg => h _ w' (hS.new hb (by rw [hc] at hg; exact hg) rfl fun g hg => by injection hg with hg; omega)

/-- A new slice, each place the element's noughts. -/
theorem WpL.mk1 [ht : SliceT P t el] {bytes : Nat} {z : Value} [he : Elem P el 1 bytes z] {n : Nat} {kl kc : IntKind} {i j : Int} (hS : St w0 M w L) (hd : dOk N (some d) = true) (hx : e.eval x = .int kl i) (hi : i = (n : Int)) (hy : e.eval y = .int kc j) (hj : j = (n : Int)) (hz : z.cells = #[z])
    (hn : bytes * n ≤ 281474976710656) (hm : n ≤ 9223372036854775807)
    (h : ∀ A w', IsVw A n n A 0 → St w0 M w' (.own A n n el 1 (List.replicate n z) :: L) → WpL P N ops K rest (e.set d (.slice A n n)) w') :
    WpL P N ops K (⟨some d, .makeSlice t x y, ty, pos, after, none⟩ :: rest) e w := by
  subst hi hj
  obtain ⟨i, hi, hzz, hsize, hby⟩ := he.get
  have hr := _root_.Go.run_make_row (P := P) t el i z ht.hu hi hzz hsize hz kl kc n (by rw [hby]; omega) (by omega) w
  refine WpL.run (w' := w.alloc (.cells (madeCells #[z] n) el)) hd (by simp only [execOp, hx, hy, Sem.run_bind, hr]; rfl) (h (some ⟨w.heap.size, 0, none⟩) _ (IsVw.base (Nat.le_refl _) (by simp only [maxLen]; omega) (by simp)) ?_)
  refine hS.new ((Below.refl _ _).alloc (Nat.le_refl _) _) ⟨by simp, .inr ⟨w.heap.size, n, _, rfl, Nat.zero_le _, heap_alloc_new w _, Nat.le_refl _, by simp only [maxLen]; omega, by rw [size_madeCells]; omega, ?_⟩⟩ rfl fun g hg => by simp [Ch.foot] at hg; omega
  refine List.ext_getElem (by simp [madeCells]) fun j h1 h2 => ?_
  have h3 : j % 1 = 0 := Nat.mod_one j
  simp [madeCells, h3]
theorem uv_append (l r : List Nat) : uv (l ++ r) = uv l ++ uv r := by simp [uv]
theorem uv_one (l : List Nat) : ∀ u ∈ uv l, u.oneCell' = true := by simp [uv, Value.oneCell']
theorem replicate_bv (n : Nat) : List.replicate n (Value.int .u8 0) = bv (List.replicate n 0) := by simp [bv]
theorem replicate_zv (n : Nat) : List.replicate n (Value.int .i64 0) = zv (List.replicate n 0) := by simp [zv]
theorem replicate_uv (n : Nat) : List.replicate n (Value.int .u64 0) = uv (List.replicate n 0) := by simp [uv]

/-- A slice written out. -/
theorem WpL.bs [ht : SliceT P t el] {bytes n : Nat} {z : Value} [he : Elem P el 1 bytes z] {r : List (Nat × Operand)} {vs xs : List Value} (hS : St w0 M w L) (hd : dOk N (some d) = true) (hv : BVals e 0 r vs) (h1 : ∀ v ∈ vs, v.oneCell' = true) (hl : vs.length = n) (hn : n ≤ 16777216) (hxs : vs = xs)
    (h : ∀ A w', IsVw A n n A 0 → St w0 M w' (.own A n n el 1 xs :: L) → WpL P N ops K rest (e.set d (.slice A n n)) w') :
    WpL P N ops K (⟨some d, .buildSlice t n r.toArray, ty, pos, after, none⟩ :: rest) e w := by
  subst hxs
  refine WpL.buildSlice (bytes := bytes) hd hv h1 hl hn fun w' hb hs hg => h _ w' (IsVw.base (Nat.le_refl _) (by simp only [maxLen]; omega) (by simp)) ?_
  exact hS.new hb ⟨by simpa using hl, .inr ⟨_, n, _, rfl, Nat.zero_le _, hg, Nat.le_refl _, by simp only [maxLen]; omega, by simp [hl], by simp [← hl]⟩⟩ rfl fun g hg => by simp [Ch.foot] at hg; omega
/-- Of bytes, of numbers. -/
inductive BytesOf : List Value → List UInt8 → Prop
  | nil : BytesOf [] []
  | cons {z : Int} {k : Nat} {vs : List Value} {l : List UInt8} (hz : z = (k : Int)) (hk : k < 256) (h : BytesOf vs l) : BytesOf (.int .u8 z :: vs) (UInt8.ofNat k :: l)
theorem BytesOf.eq {vs : List Value} {l : List UInt8} (h : BytesOf vs l) : vs = bv l := by
  induction h with
  | nil => rfl
  | cons hz hk _ ih =>
    rw [ih]
    simp only [bv, List.map_cons, UInt8.toNat_ofNat', Nat.reducePow]
    rw [Nat.mod_eq_of_lt hk, hz]
inductive IntsOf : List Value → List Int → Prop
  | nil : IntsOf [] []
  | cons {z : Int} {vs : List Value} {l : List Int} (h : IntsOf vs l) : IntsOf (.int .i64 z :: vs) (z :: l)
theorem IntsOf.eq {vs : List Value} {l : List Int} (h : IntsOf vs l) : vs = zv l := by
  induction h with
  | nil => rfl
  | cons _ ih => rw [ih]; rfl
inductive U64sOf : List Value → List Nat → Prop
  | nil : U64sOf [] []
  | cons {z : Int} {k : Nat} {vs : List Value} {l : List Nat} (hz : z = (k : Int)) (h : U64sOf vs l) : U64sOf (.int .u64 z :: vs) (k :: l)
theorem U64sOf.eq {vs : List Value} {l : List Nat} (h : U64sOf vs l) : vs = uv l := by
  induction h with
  | nil => rfl
  | cons hz _ ih => rw [ih, hz]; rfl

/-! ### Append -/
theorem WpL.app [ht : SliceT P t el] {sz bytes : Nat} {z : Value} [he : Elem P el sz bytes z] {A V : Option Addr} {n c m c2 : Nat} {xs ys zs : List Value} (hS : St w0 M w L) (hd : dOk N (some d) = true) (hx : e.eval x = .slice A n c) (hy : e.eval y = .slice V m c2)
    (hsel : Sel (.own A n c el sz xs) L L1) (hr : RdsV L V (m * sz) ys) (h1 : ∀ u ∈ ys, u.oneCell' = true) (hz : xs ++ ys = zs) (hb : (n + m) * bytes ≤ 140737488355328) (hm : n + m ≤ 9223372036854775807)
    (h : ∀ A' c' w', IsVw A' (n + m) c' A' 0 → St w0 M w' (.own A' (n + m) c' el sz zs :: L1) → WpL P N ops K rest (e.set d (.slice A' (n + m) c')) w') :
    WpL P N ops K (⟨some d, .call { callee := .builtin .append, args := #[x, y], argTypes := #[t, t] }, ty, pos, after, none⟩ :: rest) e w := by
  subst hz
  have hS1 := hS.pick hsel
  have hown : Sl w 0 el sz (.slice A n c) n xs := (hS1.hold _ List.mem_cons_self).1
  obtain ⟨hrd, hlen⟩ := hr w0 M w hS
  refine WpL.append hd hx hy hown hrd hlen h1 hb (by simp only [maxLen]; omega) (Nat.zero_le _) fun v' w' ⟨h2, h3, h4⟩ => ?_
  obtain ⟨A', c', rfl, h5, h6, h7, _⟩ := h2.form
  refine h A' c' w' (IsVw.base h5 h6 fun h => (h7 h).2) (hS1.put ⟨h3.os, h3.tape, h3.output, h3.size, fun k hk hf => h3.block k hk fun hk' => hf ?_⟩ h2 rfl fun g hg => ?_)
  · cases A with
    | none => simp [Value.ownBlock] at hk'
    | some a => simpa [Value.ownBlock, Ch.foot] using hk'.symm
  · cases A' with
    | none => simp [Ch.foot] at hg
    | some a' =>
      simp only [Ch.foot, Option.map_some, Option.some.injEq] at hg
      rcases h4 with h4 | ⟨g', h4, h8⟩
      · left
        cases A with
        | none => simp [Value.ownBlock] at h4
        | some a => simp only [Value.ownBlock, Option.some.injEq] at h4; simp only [Ch.foot, Option.map_some, Option.some.injEq]; omega
      · right
        simp only [Value.ownBlock, Option.some.injEq] at h4; omega

/-! ### Slice expressions -/
theorem WpL.slLo [ht : SliceT P t el] [hs : SizeT P el 1] {V A : Option Addr} {n c o m : Nat} {k : IntKind} {i : Int} (hd : dOk N (some d) = true) (hx : e.eval x = .slice V n c) (hv : IsVw V n c A o) {lo : Operand} (hl : e.eval lo = .int k i) (hi : i = (m : Int)) (hm : m ≤ n)
    (h : ∀ V', IsVw V' (n - m) (c - m) A (o + m) → WpL P N ops K rest (e.set d (.slice V' (n - m) (c - m))) w) : WpL P N ops K (⟨some d, .slice t x (some lo) none none, ty, pos, after, none⟩ :: rest) e w := by
  subst hi
  have hle := hv.le
  refine WpL.det hd (Det.sliceLo hx hl (by omega) (by omega)) ?_
  have := h _ (hv.cut hm hv.le)
  simpa using this
theorem WpL.slHi [ht : SliceT P t el] {sz : Nat} [hs : SizeT P el sz] {V A : Option Addr} {n c o m : Nat} {k : IntKind} {i : Int} (hd : dOk N (some d) = true) (hx : e.eval x = .slice V n c) (hv : IsVw V n c A o) {hi : Operand} (hh : e.eval hi = .int k i) (hi' : i = (m : Int)) (hm : m ≤ n)
    (h : ∀ V', IsVw V' m c A o → WpL P N ops K rest (e.set d (.slice V' m c)) w) : WpL P N ops K (⟨some d, .slice t x none (some hi) none, ty, pos, after, none⟩ :: rest) e w := by
  subst hi'
  have hle := hv.le
  refine WpL.det hd (Det.sliceHi hx hh (by omega) (by omega)) ?_
  have := h V ⟨by omega, hv.max, hv.at_⟩
  simpa using this
theorem WpL.slLoHi [ht : SliceT P t el] [hs : SizeT P el 1] {V A : Option Addr} {n c o m m' : Nat} {k k' : IntKind} {i j : Int} (hd : dOk N (some d) = true) (hx : e.eval x = .slice V n c) (hv : IsVw V n c A o) {lo hi : Operand} (hl : e.eval lo = .int k i) (hi' : i = (m : Int)) (hh : e.eval hi = .int k' j) (hj : j = (m' : Int)) (hm : m ≤ m') (hm' : m' ≤ n)
    (h : ∀ V', IsVw V' (m' - m) (c - m) A (o + m) → WpL P N ops K rest (e.set d (.slice V' (m' - m) (c - m))) w) : WpL P N ops K (⟨some d, .slice t x (some lo) (some hi) none, ty, pos, after, none⟩ :: rest) e w := by
  subst hi' hj
  have hle := hv.le
  refine WpL.det hd (Det.sliceLoHi hx hl hh (by omega) (by omega) (by omega)) ?_
  have := h _ (hv.cut hm (by omega))
  simpa using this
theorem Det.ix [SliceT P t el] [SizeT P el 1] {I : World → Prop} {V A : Option Addr} {n c o m : Nat} {k : IntKind} {i : Int} (hx : e.eval x = .slice V n c) (hy : e.eval y = .int k i) (hv : IsVw V n c A o) (hi : i = (m : Int)) (hm : m < n) :
    Det P I (.indexAddr t x y) ty e (.pointer (some ((adr A).add (o + m)))) := by
  obtain ⟨a, rfl, ha⟩ := hv.addr hm
  rw [← ha]
  exact Det.indexS1 hx hy hi hm
theorem byte_lim {k : IntKind} (l : List UInt8) (i : Nat) (h : 256 ≤ lim k) : (l.getD i 0).toNat < lim k := Nat.lt_of_lt_of_le (UInt8.toNat_lt _) h
theorem Det.ix0 [SliceT P t el] [SizeT P el 1] {I : World → Prop} {V A : Option Addr} {n c m : Nat} {k : IntKind} {i : Int} (hx : e.eval x = .slice V n c) (hy : e.eval y = .int k i) (hv : IsVw V n c A 0) (hi : i = (m : Int)) (hm : m < n) :
    Det P I (.indexAddr t x y) ty e (.pointer (some ((adr A).add m))) := by
  have := Det.ix (P := P) (I := I) (t := t) (ty := ty) hx hy hv hi hm
  rwa [Nat.zero_add] at this
theorem Det.fieldAddr0 {I : World → Prop} {s : TypeId} {k off g : Nat} [h : FieldT P s k off] (hx : e.eval x = .pointer (some ⟨g, 0, none⟩)) : Det P I (.fieldAddr s x k) ty e (.pointer (some ⟨g, off, none⟩)) := by
  have := Det.fieldAddr (P := P) (I := I) (s := s) (k := k) (ty := ty) hx
  rwa [Nat.zero_add] at this

/-! ### Bytes as a text -/
theorem WpL.sr {t' : TypeId} [ht : SliceT P t el] [hs : StrT P t'] [hb : IntT P el .u8] {V : Option Addr} {l : List UInt8} {n c : Nat} (hS : St w0 M w L) (hd : dOk N (some d) = true) (hx : e.eval x = .slice V n c) (hr : RdsV L V n (bv l))
    (h : WpL P N ops K rest (e.set d (.string ⟨l.toArray⟩)) w) : WpL P N ops K (⟨some d, .convert t t' x, ty, pos, after, none⟩ :: rest) e w := by
  obtain ⟨h1, h2⟩ := hr w0 M w hS
  exact WpL.str hd hx h1 (by simpa using h2) h

/-! ### Contracts that say what lies below -/
theorem St.newSl {w' : World} {sz n : Nat} {xs : List Value} {v : Value} (hS : St w0 M w L) (hb : Below w.heap.size w w') (hv : Sl w' w.heap.size el sz v n xs) : ∃ A c, v = .slice A n c ∧ IsVw A n c A 0 ∧ St w0 M w' (.own A n c el sz xs :: L) := by
  obtain ⟨A, c, rfl, h1, h2, h3, _⟩ := hv.form
  refine ⟨A, c, rfl, IsVw.base h1 h2 fun h => (h3 h).2, hS.new hb (hv.mono (Nat.zero_le _)) rfl fun g hg => ?_⟩
  cases A with
  | none => simp [Ch.foot] at hg
  | some a =>
    simp only [Ch.foot, Option.map_some, Option.some.injEq] at hg
    rcases hv.own with h | ⟨g', h, h4, _⟩
    · simp [Value.ownBlock] at h
    · simp only [Value.ownBlock, Option.some.injEq] at h; omega
theorem Rd.isVw {A : Option Addr} {n c : Nat} {xs : List Value} (hr : Rd w A xs) (hl : xs.length = n) (h0 : n = 0 → c = 0 ∨ A ≠ none) (hn : n ≤ c) (hm : c ≤ maxLen) : IsVw A n c A 0 := by
  refine IsVw.base hn hm fun h => ?_
  subst h
  rcases hr with rfl | ⟨a, h, _⟩
  · simp only [List.length_nil] at hl
    rcases h0 hl.symm with h | h
    · exact h
    · exact absurd rfl h
  · cases h

/-- Nil is a slice of one's own. -/
theorem St.nil_ {sz : Nat} (hS : St w0 M w L) : St w0 M w (.own none 0 0 el sz [] :: L) :=
  hS.new (Below.refl _ _) ⟨by simp, .inl ⟨rfl, rfl⟩⟩ rfl fun g hg => by simp [Ch.foot] at hg
theorem IsVw.nil : IsVw none 0 0 none 0 := ⟨Nat.le_refl _, Nat.zero_le _, .inl rfl⟩

/-! ### The end of a call -/
theorem St.end_ {pre post : List Ch} {w' : World} (h : St w (feet pre) w' L) (ht : Take L post L1) : St w (feet pre) w' post := h.only ht
end
/-- A struct comes back in memory. -/
theorem doneQ_row {P : Program} {fn : Func} {R : Ending → World → Prop} {e : Env} {w w0 : World} {M : Nat → Prop} {L L1 : List Ch} {p : Tmp} {ty t : TypeId} {g n : Nat} {cs : List Value} [h : RowT P ty] [hs : SizeT P ty n] (hr : fn.results = #[.cell p ty])
    (hp : e p = .pointer (some ⟨g, 0, none⟩)) (hS : St w0 M w L) (hsel : Sel (.blk g t cs) L L1) (hn : cs.length = n) (hR : R (.returned (.agg cs.toArray)) w) : doneQ P fn R .ret e w :=
  doneQ_cell (t := t) hr hp (hS.is hsel) (by simpa using hn) hR
theorem doneQ_row2 {P : Program} {fn : Func} {R : Ending → World → Prop} {e : Env} {w w0 : World} {M : Nat → Prop} {L L1 : List Ch} {p u : Tmp} {ty t : TypeId} {g n : Nat} {cs : List Value} {v : Value} [h : RowT P ty] [hs : SizeT P ty n] (hr : fn.results = #[.cell p ty, .tmp u])
    (hp : e p = .pointer (some ⟨g, 0, none⟩)) (hv : e u = v) (hS : St w0 M w L) (hsel : Sel (.blk g t cs) L L1) (hn : cs.length = n) (hR : R (.returned (.tuple #[.agg cs.toArray, v])) w) : doneQ P fn R .ret e w :=
  doneQ_cell2 (t := t) hr hp hv (hS.is hsel) (by simpa using hn) hR

/-! ### Regions that draw their order -/
section
variable {P : Program} {n : Nat} {ops : Array Oper} {w : World} {Fin : (Tmp → Spec) → Prop} {rest : List Oper} {e : Env} {E : Open} {ty : TypeId} {pos : String} {after : Array Edge}
variable {w0 : World} {M : Nat → Prop} {L L1 : List Ch} {t el : TypeId} {d : Tmp} {v : Value} {x y : Operand}
theorem RgD.ld [Cell1 P t] {a : Addr} (hS : St w0 M w L) (hd : dOk n (some d) = true) (hk : (E.map (·.1)).contains d = false) (hE : sub ((⟨some d, .load t x, ty, pos, after, none⟩ : Oper).looksAt ops) E = [])
    (hx : e.eval x = .pointer (some a)) (hl : Look L a v) (h : RgD P n ops w Fin rest (e.set d v) E) : RgD P n ops w Fin (⟨some d, .load t x, ty, pos, after, none⟩ :: rest) e E :=
  RgD.det hd rfl hk hE (Det.load1 hx fun _ hw => hl.cell (hS.below hw)) h
theorem RgD.slLo [ht : SliceT P t el] [hs : SizeT P el 1] {V A : Option Addr} {m c o k' : Nat} {k : IntKind} {i : Int} (hd : dOk n (some d) = true) {lo : Operand} (hk : (E.map (·.1)).contains d = false) (hE : sub ((⟨some d, .slice t x (some lo) none none, ty, pos, after, none⟩ : Oper).looksAt ops) E = [])
    (hx : e.eval x = .slice V m c) (hv : IsVw V m c A o) (hl : e.eval lo = .int k i) (hi : i = (k' : Int)) (hm : k' ≤ m)
    (h : ∀ V', IsVw V' (m - k') (c - k') A (o + k') → RgD P n ops w Fin rest (e.set d (.slice V' (m - k') (c - k'))) E) : RgD P n ops w Fin (⟨some d, .slice t x (some lo) none none, ty, pos, after, none⟩ :: rest) e E := by
  subst hi
  have hle := hv.le
  refine RgD.det hd rfl hk hE (Det.sliceLo hx hl (by omega) (by omega)) ?_
  have := h _ (hv.cut hm hv.le)
  simpa using this
theorem RgD.slHi [ht : SliceT P t el] {sz : Nat} [hs : SizeT P el sz] {V A : Option Addr} {m c o k' : Nat} {k : IntKind} {i : Int} (hd : dOk n (some d) = true) {hi : Operand} (hk : (E.map (·.1)).contains d = false) (hE : sub ((⟨some d, .slice t x none (some hi) none, ty, pos, after, none⟩ : Oper).looksAt ops) E = [])
    (hx : e.eval x = .slice V m c) (hv : IsVw V m c A o) (hl : e.eval hi = .int k i) (hi' : i = (k' : Int)) (hm : k' ≤ m)
    (h : ∀ V', IsVw V' k' c A o → RgD P n ops w Fin rest (e.set d (.slice V' k' c)) E) : RgD P n ops w Fin (⟨some d, .slice t x none (some hi) none, ty, pos, after, none⟩ :: rest) e E := by
  subst hi'
  have hle := hv.le
  refine RgD.det hd rfl hk hE (Det.sliceHi hx hl (by omega) (by omega)) ?_
  have := h V ⟨by omega, hv.max, hv.at_⟩
  simpa using this
theorem RgD.sr {t' : TypeId} [ht : SliceT P t el] [hs : StrT P t'] [hb : IntT P el .u8] {V : Option Addr} {l : List UInt8} {m c : Nat} (hS : St w0 M w L) (hd : dOk n (some d) = true) (hk : (E.map (·.1)).contains d = false) (hE : sub ((⟨some d, .convert t t' x, ty, pos, after, none⟩ : Oper).looksAt ops) E = [])
    (hx : e.eval x = .slice V m c) (hr : RdsV L V m (bv l)) (h : RgD P n ops w Fin rest (e.set d (.string ⟨l.toArray⟩)) E) : RgD P n ops w Fin (⟨some d, .convert t t' x, ty, pos, after, none⟩ :: rest) e E := by
  obtain ⟨h1, h2⟩ := hr w0 M w hS
  exact RgD.str hd hk hE hx h1 (by simpa using h2) h
end
end Go.Fk
