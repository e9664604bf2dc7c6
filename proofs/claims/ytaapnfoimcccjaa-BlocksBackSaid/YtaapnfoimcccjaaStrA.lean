/-
  More rules for the engine: a variable's fields, composite literals, guards that hold. They hold for any program; conditions stand at each theorem.
-/
import Derived.Test.YtaapnfoimcccjaaMem
namespace Go.Fk
open Go.RowKit

def fieldOff (P : Program) (s : TypeId) (k : Nat) : Option Nat :=
  match P.underlying s with
  | some (.struct fs) => (match fs[k]? with
    | some f => (match P.info? f.type with
      | some i => if i.size = 0 then none else some f.offset
      | none => none)
    | none => none)
  | _ => none
class FieldT (P : Program) (s : TypeId) (k : Nat) (off : outParam Nat) : Prop where
  h : fieldOff P s k = some off

section
variable {P : Program} {N : Nat} {ops : Array Oper} {K : Env → World → Prop} {rest : List Oper} {e : Env} {w : World} {ty : TypeId} {pos : String} {after : Array Edge} {x y : Operand} {I : World → Prop}

theorem Det.fieldAddr {s : TypeId} {k off g o : Nat} [h : FieldT P s k off] (hx : e.eval x = .pointer (some ⟨g, o, none⟩)) : Det P I (.fieldAddr s x k) ty e (.pointer (some ⟨g, o + off, none⟩)) := fun _ _ _ _ w _ => by
  have hf := h.h
  unfold fieldOff at hf
  split at hf
  · rename_i fs hu
    split at hf
    · rename_i f hk
      split at hf
      · rename_i i hi
        split at hf
        · cases hf
        · rename_i h0
          injection hf with hf
          subst hf
          simp [execOp, hx, Instr.fieldAt, run_underlying hu, hk, Instr.sureAddr, fieldPlace, sizeOf, typeInfo, hi, h0, add_mk]
      · cases hf
    · cases hf
  · cases hf

/-- A guard that holds is struck. -/
theorem WpL.unguard {o : Op} {dst : Option Tmp} {j d : Nat} {b c : Bool} (hj : (ops[j]?).bind (·.dst) = some d) (he : e d = .bool c) (hc : c = b)
    (h : WpL P N ops K (⟨dst, o, ty, pos, after, none⟩ :: rest) e w) : WpL P N ops K (⟨dst, o, ty, pos, after, some (j, b)⟩ :: rest) e w := by
  obtain ⟨h1, h2⟩ := h
  rw [if_pos (by rfl)] at h2
  exact ⟨h1, by
    rw [if_pos (by simp [Region.wanted, yieldedE, hj, he, hc])]
    exact h2⟩

/-- What a composite literal is made of: its noughts, and where each part lies. -/
def buildOf (P : Program) (t : TypeId) : Option (List Value × List (Nat × Nat)) :=
  match P.underlying t, P.info? t with
  | some (.struct fs), some i => (match i.zero with
    | some z => (fs.toList.mapM fun f => (P.info? f.type).map fun j => (f.offset, j.size)).map fun ps => (z.cells.toList, ps)
    | none => none)
  | _, _ => none
class BuildT (P : Program) (t : TypeId) (zero : outParam (List Value)) (places : outParam (List (Nat × Nat))) : Prop where
  h : buildOf P t = some (zero, places)
/-- The parts, as they are. -/
def PVals (e : Env) : List (Nat × Operand) → List (Nat × Value) → Prop
  | [], [] => True
  | (i, x) :: r, (j, v) :: s => i = j ∧ e.eval x = v ∧ PVals e r s
  | _, _ => False
theorem PVals.nil : PVals e [] [] := trivial
theorem PVals.cons {i : Nat} {v : Value} {r : List (Nat × Operand)} {s : List (Nat × Value)} (hx : e.eval x = v) (hr : PVals e r s) : PVals e ((i, x) :: r) ((i, v) :: s) := ⟨rfl, hx, hr⟩
theorem PVals.map : ∀ {r : List (Nat × Operand)} {s : List (Nat × Value)}, PVals e r s → r.map (fun p => (p.1, e.eval p.2)) = s
  | [], [], _ => rfl
  | (i, x) :: r, (j, v) :: s, ⟨h1, h2, h3⟩ => by simp [h1, h2, PVals.map h3]
theorem run_mapM_places : ∀ (l : List Field) (ps : List (Nat × Nat)), (l.mapM fun f => (P.info? f.type).map fun j => (f.offset, j.size)) = some ps →
    (l.mapM fun f => (do pure (f.offset, ← sizeOf f.type) : Sem (Nat × Nat))).run P w = .ok ps w
  | [], ps, h => by
    simp at h
    subst h; simp
  | f :: l, ps, h => by
    simp only [List.mapM_cons, Option.bind_eq_bind, Option.bind_eq_some_iff, Option.map_eq_some_iff, Option.pure_def, Option.some.injEq] at h
    obtain ⟨p, ⟨i, hi, rfl⟩, ps', h2, rfl⟩ := h
    have ih := run_mapM_places l ps' h2
    simp only [List.mapM_cons, Sem.run_bind, sizeOf, typeInfo, run_program, hi, Sem.run_pure, Result.andThen_ok]
    simp only [sizeOf, typeInfo] at ih
    rw [ih]
    simp
theorem Det.build {t : TypeId} {zero cells : List Value} {places : List (Nat × Nat)} [hb : BuildT P t zero places] {r : List (Nat × Operand)} {s : List (Nat × Value)} (hv : PVals e r s)
    (hf : Instr.fill (places.toArray[·]?) zero.toArray s = some cells.toArray) : Det P I (.build t r.toArray) ty e (.agg cells.toArray) := fun _ _ _ _ w _ => by
  have h := hb.h
  unfold buildOf at h
  split at h
  · rename_i fs i hu hi
    split at h
    · rename_i z hz
      simp only [Option.map_eq_some_iff, Prod.mk.injEq] at h
      obtain ⟨ps, h1, h2, rfl⟩ := h
      have hm := run_mapM_places (w := w) fs.toList ps h1
      have hm' : (fs.mapM fun f => (do pure (f.offset, ← sizeOf f.type) : Sem (Nat × Nat))).run P w = .ok ps.toArray w := by
        rw [← Array.toArray_toList (xs := fs), List.mapM_toArray]
        show ((fs.toList.mapM fun f => (do pure (f.offset, ← sizeOf f.type) : Sem (Nat × Nat))) >>= fun a => pure a.toArray).run P w = _
        rw [Sem.run_bind, hm]
        rfl
      have hz' : z.cells = zero.toArray := by rw [← h2]
      have hmap : (r.toArray.map fun (i, x) => (i, e.eval x)) = s.toArray := by rw [List.map_toArray]; exact congrArg List.toArray hv.map
      simp only [execOp, Instr.build, hmap, Sem.run_bind, zeroValue, typeInfo, run_program, hi, hz, Sem.run_pure, Result.andThen_ok, run_underlying hu, hm', hz', hf]
    · cases h
  · cases h
end
end Go.Fk
