/-
  More rules for the engine: structs by value, a variable's fields, make, append where there is room. They hold for any program; conditions stand at each theorem.
-/
import Derived.Test.YtaapnfoimcccjaaRgd
import Derived.Deep.OwnRows
import Derived.ArgAppend
import Derived.Laws.StructEq
import Derived.Laws.ResultCell
namespace Go.Fk
open Go.RowKit

section
variable {P : Program} {N : Nat} {ops : Array Oper} {K : Env → World → Prop} {rest : List Oper} {e : Env} {w : World} {ty : TypeId} {pos : String} {after : Array Edge} {x y : Operand} {I : World → Prop}
/-- A struct or an array out of a block that it fills. -/
theorem Det.loadRow {n g : Nat} {t ty' : TypeId} {cs : Array Value} [h : RowT P ty'] [hs : SizeT P ty' n] (hx : e.eval x = .pointer (some ⟨g, 0, none⟩)) (hg : ∀ w, I w → Blk w g t cs) (hn : cs.size = n) :
    Det P I (.load ty' x) ty e (.agg cs) := fun _ _ _ _ w hw => by
  obtain ⟨d, hu, hd⟩ := h.hu
  simp [execOp, hx, Instr.loadAt, Instr.sureAddr, run_loadVar_row (P := P) w g t ty' cs (0, 0) d (hg w hw) hu (by cases d <;> simp_all) (by rw [hs.hs, hn])]
theorem WpL.loadRow {n g : Nat} {t ty' : TypeId} {cs : Array Value} [h : RowT P ty'] [hs : SizeT P ty' n] {d : Tmp} (hd : dOk N (some d) = true) (hx : e.eval x = .pointer (some ⟨g, 0, none⟩)) (hg : Blk w g t cs) (hn : cs.size = n)
    (hk : WpL P N ops K rest (e.set d (.agg cs)) w) : WpL P N ops K (⟨some d, .load ty' x, ty, pos, after, none⟩ :: rest) e w :=
  WpL.det hd (Det.loadRow (t := t) hx (by rintro _ rfl; exact hg) hn) hk


theorem PVals.found {r : List (Nat × Operand)} {s : List (Nat × Value)} (h : PVals e r s := by (repeat (first | exact PVals.nil | ((with_reducible apply PVals.cons); (· (first | exact Env.ev_const _ _ | exact Env.ev_func _ _ | exact Env.ev_global _ _ | (apply Env.evt; (repeat (first | exact Env.hit _ _ _ | ((with_reducible apply Env.miss); (· exact rfl)) | exact Env.ap_undef _ | exact rfl))))))))) : PVals e r s := h
/-- A new slice of noughts: bytes. -/
theorem WpL.makeB {t el : TypeId} [ht : SliceT P t el] [he : Elem P el 1 1 (.int .u8 0)] {d : Tmp} {n : Nat} {kl kc : IntKind} (hd : dOk N (some d) = true) (hx : e.eval x = .int kl (n : Int)) (hy : e.eval y = .int kc (n : Int)) (hn : n ≤ 140737488355328)
    (h : ∀ w', Below w.heap.size w w' → w'.heap.size = w.heap.size + 1 → SlB w' w.heap.size el (.slice (some ⟨w.heap.size, 0, none⟩) n n) (List.replicate n 0) → WpL P N ops K rest (e.set d (.slice (some ⟨w.heap.size, 0, none⟩) n n)) w') :
    WpL P N ops K (⟨some d, .makeSlice t x y, ty, pos, after, none⟩ :: rest) e w := by
  obtain ⟨i, hi, hz, hsize, hby⟩ := he.get
  have hr := _root_.Go.run_make_row (P := P) t el i (.int .u8 0) ht.hu hi hz hsize rfl kl kc n (by rw [hby]; omega) (by omega) w
  refine WpL.run (w' := w.alloc (.cells (madeCells #[.int .u8 0] n) el)) hd (by simp only [execOp, hx, hy, Sem.run_bind, hr]; rfl) (h _ ((Below.refl _ _).alloc (Nat.le_refl _) _) (by simp) ?_)
  refine ⟨by simp, .inr ⟨w.heap.size, n, _, by rw [List.length_replicate], Nat.le_refl _, heap_alloc_new w _, by simp, by simp only [maxLen]; omega, by rw [size_madeCells]; omega, ?_⟩⟩
  have e1 : (madeCells #[.int .u8 0] n).toList = List.replicate n (.int .u8 0) := by
    refine List.ext_getElem (by simp [madeCells]) fun j h1 h2 => ?_
    have h3 : j % 1 = 0 := Nat.mod_one j
    simp [madeCells, h3]
  rw [e1]
  simp [bv]

/-- One byte is appended where there is room: in bytes of the call's own. -/
theorem WpL.appendIn {t el : TypeId} [ht : SliceT P t el] [he : Elem P el 1 1 (.int .u8 0)] {d : Tmp} {B g c M o m c1 c2 : Nat} {l : List UInt8} {b : UInt8} {A : Option Addr} (hd : dOk N (some d) = true) (hx : e.eval x = .slice (some ⟨g, o, none⟩) m c1) (hy : e.eval y = .slice A 1 c2)
    (hown : SlB w B el (.slice (some ⟨g, 0, none⟩) M c) l) (hr : Rd w A (bv [b])) (hroom : m + 1 ≤ c1) (hin : o + m < l.length)
    (h : ∀ w', SlB w' B el (.slice (some ⟨g, 0, none⟩) M c) (l.set (o + m) b) → w.grownBy w' (some g) → w'.heap.size = w.heap.size → WpL P N ops K rest (e.set d (.slice (some ⟨g, o, none⟩) (m + 1) c1)) w') :
    WpL P N ops K (⟨some d, .call { callee := .builtin .append, args := #[x, y], argTypes := #[t, t] }, ty, pos, after, none⟩ :: rest) e w := by
  obtain ⟨i, hi, hz, hsize, hby⟩ := he.get
  obtain ⟨h1, h2⟩ := hown
  rcases h2 with ⟨h2, _⟩ | ⟨g', cap, cur, h2, hb, hg, hn, hm, hc, htk⟩
  · cases h2
  · injection h2 with h3 h4 h5
    injection h3 with h3
    injection h3 with h3 _ _
    subst h3 h5
    have hlen : l.length ≤ cur.size := by have := h1; simp at this; omega
    rcases hr with hr | ⟨a, rfl, hat⟩
    · simp [bv] at hr
    have hcell : w.cell? ⟨g, o + m * 1 + 0, none⟩ = some (cur[o + m]'(by omega)) := by
      rw [cell_of_row w g _ cur el (0, 0) hg]
      simp only [Nat.mul_one, Nat.add_zero]
      exact Array.getElem?_eq_getElem (by omega)
    have hfz : w.frozen? ⟨g, o + m * 1 + 0, none⟩ = false := frozen_of_row w g _ cur el hg
    have hrun := run_append_room_cells (P := P) w t ty el i ht.hu hi g o m c1 a 1 c2 (bv [b]) (by simp [hsize]) (fun j u hu => hat j u hu) (bv_one _) hroom
      (fun j hj => by
        have : j = 0 := by simp at hj; omega
        subst this; rw [hsize, hcell]; rfl)
      (fun j hj => by
        have : j = 0 := by simp at hj; omega
        subst this; rw [hsize]; exact hfz)
    rw [hsize, Nat.mul_one] at hrun
    have hset : w.setCells g (o + m) (bv [b]) = w.setCell ⟨g, o + m, none⟩ (.int .u8 (b.toNat : Int)) := by simp [bv, World.setCells]
    rw [hset] at hrun
    refine WpL.run (w' := w.setCell ⟨g, o + m, none⟩ (.int .u8 (b.toNat : Int))) hd ?_ (h _ ?_ (grown_setCell _ _ _) (by simp [World.setCell]))
    · simp [execOp, resolve, invoke, builtin, hx, hy, hrun]
    · have hb' : Blk w g el cur := hg
      refine ⟨by simp, .inr ⟨g, c, _, by rw [h4]; simp, hb, hb'.setCell _ _, by simpa using hn, hm, by simpa using hc, ?_⟩⟩
      simp only [List.length_set, Array.toList_setIfInBounds, bv]
      rw [List.take_set, htk]
      simp only [bv]
      rw [List.map_set]
end
theorem doneQ_cell2 {P : Program} {fn : Func} {R : Ending → World → Prop} {e : Env} {w : World} {p u : Tmp} {ty t : TypeId} {g n : Nat} {cs : Array Value} {v : Value} [h : RowT P ty] [hs : SizeT P ty n] (hr : fn.results = #[.cell p ty, .tmp u])
    (hp : e p = .pointer (some ⟨g, 0, none⟩)) (hv : e u = v) (hg : Blk w g t cs) (hn : cs.size = n) (hR : R (.returned (.tuple #[.agg cs, v])) w) : doneQ P fn R .ret e w := by
  obtain ⟨d, hu, hd⟩ := h.hu
  subst hv
  refine ⟨_, fun tmps ht => ?_, hR⟩
  have h1 := run_loadVar_row (P := P) w g t ty cs (0, 0) d hg hu (by cases d <;> simp_all) (by rw [hs.hs, hn])
  rw [results_cell_tmp hr tmps P w, ht p, hp, ← ht u]
  simp [asAddr, h1]
end Go.Fk
