/-
  A part of a slice, in a region that draws its order. It holds for any program; conditions stand at each theorem.
-/
import Derived.Test.YtaapnfoimcccjaaStC
namespace Go.Fk
open Go.RowKit
section
variable {P : Program} {n : Nat} {ops : Array Oper} {w : World} {Fin : (Tmp → Spec) → Prop} {rest : List Oper} {e : Env} {E : Open} {ty : TypeId} {pos : String} {after : Array Edge}
variable {t el : TypeId} {d : Tmp} {x : Operand}
theorem RgD.slLoHi [ht : SliceT P t el] [hs : SizeT P el 1] {V A : Option Addr} {m c o k1 k2 : Nat} {k k' : IntKind} {i j : Int} (hd : dOk n (some d) = true) {lo hi : Operand} (hk : (E.map (·.1)).contains d = false) (hE : sub ((⟨some d, .slice t x (some lo) (some hi) none, ty, pos, after, none⟩ : Oper).looksAt ops) E = [])
    (hx : e.eval x = .slice V m c) (hv : IsVw V m c A o) (hl : e.eval lo = .int k i) (hi1 : i = (k1 : Int)) (hh : e.eval hi = .int k' j) (hj : j = (k2 : Int)) (hm : k1 ≤ k2) (hm' : k2 ≤ m)
    (h : ∀ V', IsVw V' (k2 - k1) (c - k1) A (o + k1) → RgD P n ops w Fin rest (e.set d (.slice V' (k2 - k1) (c - k1))) E) : RgD P n ops w Fin (⟨some d, .slice t x (some lo) (some hi) none, ty, pos, after, none⟩ :: rest) e E := by
  subst hi1 hj
  have hle := hv.le
  refine RgD.det hd rfl hk hE (Det.sliceLoHi hx hl hh (by omega) (by omega) (by omega)) ?_
  have := h _ (hv.cut hm (by omega))
  simpa using this
/-- A new block. -/
def NewBlk (w : World) (el : TypeId) (cs : List Value) : Spec := fun x w' => ∃ g, x = .pointer (some ⟨g, 0, none⟩) ∧ w.heap.size ≤ g ∧ Blk w' g el cs.toArray
theorem RgD.al {sz bytes : Nat} {z : Value} [he : Elem P el sz bytes z] {cs : List Value} (hd : dOk n (some d) = true) (hk : (E.map (·.1)).contains d = false) (hE : sub ((⟨some d, .alloc el, ty, pos, after, none⟩ : Oper).looksAt ops) E = []) (hc : z.cells = cs.toArray)
    (hr : RgD P n ops w Fin rest e (E ++ [(d, NewBlk w el cs)])) : RgD P n ops w Fin (⟨some d, .alloc el, ty, pos, after, none⟩ :: rest) e E := by
  refine RgD.spec0 (NewBlk w el cs) hd rfl hk hE (fun x w w' ⟨g, h, h1, h2⟩ hb => ⟨g, h, h1, h2.stay hb⟩) (fun w5 hb5 => ?_) hr
  refine WpL.alloc hd ?_
  intro w6 hb6 hs6 hg6
  rw [hc] at hg6
  exact ⟨⟨hb5.on hb6, hb6⟩, _, Env.set_same _ _ _, hb5.size, hg6⟩
theorem RgD.finAl {ops' : Array Oper} {w0 : World} {M : Nat → Prop} {L : List Ch} {K : Env → World → Prop} {tail : List Oper} {cs : List Value} {t : Tmp} (hS : St w0 M w L)
    (h : ∀ w' g, St w0 M w' (.blk g el cs :: L) → WpL P n ops' K tail (e.set t (.pointer (some ⟨g, 0, none⟩))) w') :
    RgD P n ops w (fun Γ => ∀ e' w', Below w.heap.size w w' → (∀ t, Γ t (e' t) w') → WpL P n ops' K tail e' w') [] e [(t, NewBlk w el cs)] := by
  refine RgD.fin1 fun w7 hb7 x ⟨g, hx, hgg, hg8⟩ => ?_
  subst hx
  exact h _ _ (hS.new hb7 hg8 rfl fun g' hg' => by injection hg' with hg'; omega)
end
end Go.Fk
