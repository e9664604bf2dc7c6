/-
  Two slices made in a region that draws its order. It holds for any program; conditions stand at each theorem.
-/
import Derived.Test.YtaapnfoimcccjaaStD
namespace Go.Fk
open Go.RowKit
section
variable {P : Program} {n : Nat} {ops : Array Oper} {w : World} {Fin : (Tmp → Spec) → Prop} {rest : List Oper} {e : Env} {E : Open} {ty : TypeId} {pos : String} {after : Array Edge}
variable {t el : TypeId} {d : Tmp} {x y : Operand}
/-- A new slice, each place the element's nought. -/
def NewRow (w : World) (el : TypeId) (k : Nat) (z : Value) : Spec := fun x w' => ∃ g, x = .slice (some ⟨g, 0, none⟩) k k ∧ w.heap.size ≤ g ∧ Blk w' g el (List.replicate k z).toArray
theorem RgD.mk [ht : SliceT P t el] {bytes k : Nat} {z : Value} [he : Elem P el 1 bytes z] {kl kc : IntKind} {i j : Int} (hd : dOk n (some d) = true) (hk : (E.map (·.1)).contains d = false) (hE : sub ((⟨some d, .makeSlice t x y, ty, pos, after, none⟩ : Oper).looksAt ops) E = [])
    (hx : e.eval x = .int kl i) (hi : i = (k : Int)) (hy : e.eval y = .int kc j) (hj : j = (k : Int)) (hz : z.cells = #[z]) (hn : bytes * k ≤ 281474976710656) (hm : k ≤ 9223372036854775807)
    (hr : RgD P n ops w Fin rest e (E ++ [(d, NewRow w el k z)])) : RgD P n ops w Fin (⟨some d, .makeSlice t x y, ty, pos, after, none⟩ :: rest) e E := by
  subst hi hj
  obtain ⟨i, hi, hzz, hsize, hby⟩ := he.get
  have hmade : madeCells #[z] k = (List.replicate k z).toArray := by
    apply Array.ext'
    refine List.ext_getElem (by simp [madeCells]) fun j h1 h2 => ?_
    have h3 : j % 1 = 0 := Nat.mod_one j
    simp [madeCells, h3]
  refine RgD.spec0 (NewRow w el k z) hd rfl hk hE (fun x w w' ⟨g, h, h1, h2⟩ hb => ⟨g, h, h1, h2.stay hb⟩) (fun w5 hb5 => ?_) hr
  have hr := _root_.Go.run_make_row (P := P) t el i z ht.hu hi hzz hsize hz kl kc k (by rw [hby]; omega) (by omega) w5
  have hb6 : Below w5.heap.size w5 (w5.alloc (.cells (madeCells #[z] k) el)) := (Below.refl _ _).alloc (Nat.le_refl _) _
  refine WpL.run (w' := w5.alloc (.cells (madeCells #[z] k) el)) hd (by simp only [execOp, hx, hy, Sem.run_bind, hr]; rfl) ?_
  exact ⟨⟨hb5.on hb6, hb6⟩, _, Env.set_same _ _ _, hb5.size, by rw [← hmade]; exact heap_alloc_new w5 _⟩
theorem RgD.finMk2 {ops' : Array Oper} {w0 : World} {M : Nat → Prop} {L : List Ch} {K : Env → World → Prop} {tail : List Oper} {k1 k2 : Nat} {z : Value} {t1 t2 : Tmp} (hS : St w0 M w L) (hne : k1 ≠ k2) (h1 : k1 ≤ maxLen) (h2 : k2 ≤ maxLen)
    (h : ∀ w' A1 A2, IsVw A1 k1 k1 A1 0 → IsVw A2 k2 k2 A2 0 → St w0 M w' (.own A1 k1 k1 el 1 (List.replicate k1 z) :: .own A2 k2 k2 el 1 (List.replicate k2 z) :: L) → WpL P n ops' K tail ((e.set t1 (.slice A1 k1 k1)).set t2 (.slice A2 k2 k2)) w') :
    RgD P n ops w (fun Γ => ∀ e' w', Below w.heap.size w w' → (∀ t, Γ t (e' t) w') → WpL P n ops' K tail e' w') [] e [(t1, NewRow w el k1 z), (t2, NewRow w el k2 z)] := by
  refine RgD.fin fun w7 hb7 => ?_
  rintro x1 ⟨g1, rfl, hg1, hB1⟩ x2 ⟨g2, rfl, hg2, hB2⟩
  have hgg : g1 ≠ g2 := fun e => by
    subst e
    have h5 : some (Obj.cells (List.replicate k1 z).toArray el (0, 0)) = some (Obj.cells (List.replicate k2 z).toArray el (0, 0)) := hB1.symm.trans hB2
    have h6 := congrArg List.length (congrArg Array.toList (Obj.cells.inj (Option.some.inj h5)).1)
    simp at h6
    exact hne h6
  refine h w7 _ _ (IsVw.base (Nat.le_refl _) h1 (by simp)) (IsVw.base (Nat.le_refl _) h2 (by simp)) ?_
  refine St.step (pre := []) (post := [_, _]) (Γ := L) (by simpa using hS) ⟨Chg.of_below hb7 _, fun c hc => ?_, ?_⟩ (fun c hc => ?_)
  · simp only [List.mem_cons, List.not_mem_nil, or_false] at hc
    rcases hc with rfl | rfl
    · exact ⟨⟨by simp, .inr ⟨g1, k1, _, rfl, Nat.zero_le _, hB1, Nat.le_refl _, h1, by simp, by simp⟩⟩, fun g hg => .inl (by simp [Ch.foot] at hg; omega)⟩
    · exact ⟨⟨by simp, .inr ⟨g2, k2, _, rfl, Nat.zero_le _, hB2, Nat.le_refl _, h2, by simp, by simp⟩⟩, fun g hg => .inl (by simp [Ch.foot] at hg; omega)⟩
  · simp only [List.pairwise_cons, List.mem_singleton, List.not_mem_nil, false_imp_iff, implies_true, List.Pairwise.nil, and_true, forall_eq]
    intro g hg hg'
    simp [Ch.foot] at hg hg'
    omega
  · simp only [List.mem_cons, List.not_mem_nil, or_false] at hc
    rcases hc with rfl | rfl <;> rfl
end
end Go.Fk
