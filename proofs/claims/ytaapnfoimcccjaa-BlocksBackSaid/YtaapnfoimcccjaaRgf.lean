/-
  Regions that draw their order, each operation of which keeps one condition on the world. It holds for any program; conditions stand at each theorem.
-/
import Derived.Test.YtaapnfoimcccjaaRgi
namespace Go.Fk
open Go.RowKit
section
variable {P : Program} {n : Nat} {ops : Array Oper} {I : World → Prop} {Fin : (Tmp → Spec) → Prop} {rest : List Oper} {e : Env} {ty : TypeId} {pos : String} {after : Array Edge} {guard : Option (Nat × Bool)}
def RgF (P : Program) (n : Nat) (ops : Array Oper) (I : World → Prop) (Fin : (Tmp → Spec) → Prop) (l : List Oper) (e : Env) : Prop := RgL P n ops I (fun _ _ => True) Fin l (fun t v _ => v = e t)
theorem RgF.op {o : Op} {d : Tmp} {c : Value} (hd : dOk n (some d) = true) (hs : notSelect o = true)
    (h : ∀ w, I w → WpL P n ops (fun e' w' => I w' ∧ e' d = c) [⟨some d, o, ty, pos, after, guard⟩] e w)
    (hr : RgF P n ops I Fin rest (e.set d c)) : RgF P n ops I Fin (⟨some d, o, ty, pos, after, guard⟩ :: rest) e := by
  refine ⟨fun v _ => v = c, hd, fun _ _ _ h _ _ _ => h, fun e1 w hw hg => ?_, ?_⟩
  · obtain ⟨_, h1⟩ := h w hw
    have hops : ∀ x ∈ o.operands, e1.eval x = e.eval x := fun x hx => by
      cases x with
      | tmp t => exact hg t (List.mem_append_left _ (List.mem_filterMap.2 ⟨.tmp t, by simpa using hx, rfl⟩))
      | _ => rfl
    have hy : Region.wanted ⟨some d, o, ty, pos, after, guard⟩ (yieldedE ops e1) = Region.wanted ⟨some d, o, ty, pos, after, guard⟩ (yieldedE ops e) := by
      unfold Region.wanted
      cases hgd : guard with
      | none => rfl
      | some p =>
        obtain ⟨g, b⟩ := p
        simp only
        have : yieldedE ops e1 g = yieldedE ops e g := by
          unfold yieldedE
          cases hb : (ops[g]?).bind (·.dst) with
          | none => rfl
          | some t =>
            simp only
            rw [hg t (List.mem_append_right _ (by rw [hgd]; simp only; rw [hb]; simp))]
        rw [this]
    have hx : execOp e1.eval ⟨some d, o, ty, pos, after, guard⟩ = execOp e.eval ⟨some d, o, ty, pos, after, guard⟩ := execOp_congr _ (fun cs b hc => by simp only at hc; rw [hc] at hs; cases hs) hops
    rw [hy]
    have fin : ∀ v w', WpL P n ops (fun e' w' => I w' ∧ e' d = c) [] (e.setD (some d) v) w' → I w' ∧ True ∧ v = c := fun v w' h => by
      have h : I w' ∧ (e.setD (some d) v) d = c := h
      simp only [Env.setD, Env.set_same] at h
      exact ⟨h.1, trivial, h.2⟩
    by_cases hwt : Region.wanted ⟨some d, o, ty, pos, after, guard⟩ (yieldedE ops e) = true
    · rw [if_pos hwt] at h1 ⊢
      unfold OpW at h1
      unfold RunsTo
      rw [hx]
      generalize (execOp e.eval ⟨some d, o, ty, pos, after, guard⟩).run P w = r at h1 ⊢
      cases r with
      | halt x w' => exact h1.elim
      | ok x w' =>
        cases x <;> simp only at h1 ⊢
        case value v => exact fin _ _ h1
        case skip => exact fin _ _ h1
        case enter f args => exact h1.mono fun x w'' ⟨v, hv, hx⟩ => ⟨v, hv, fin _ _ hx⟩
        case row row args => exact h1.mono fun v w'' hx => fin _ _ hx
    · rw [if_neg hwt] at h1 ⊢
      exact (fin _ _ h1).2.2
  · have : setG (fun t v _ => v = e t) (some d) (fun v _ => v = c) = fun t v (_ : World) => v = (e.set d c) t := funext fun t => by
      unfold setG
      by_cases ht : t = d
      · subst ht; rw [if_pos rfl, Env.set_same]
      · rw [if_neg (fun h => ht (by injection h with h; exact h.symm)), Env.set_other _ _ ht]
    simp only [this]
    exact hr
theorem RgF.det {o : Op} {d : Tmp} {c : Value} (hd : dOk n (some d) = true) (hs : notSelect o = true)
    (h : Det P I o ty e c) (hr : RgF P n ops I Fin rest (e.set d c)) : RgF P n ops I Fin (⟨some d, o, ty, pos, after, none⟩ :: rest) e :=
  RgF.op hd hs (fun w hw => WpL.det hd (fun _ _ _ _ w' hw' => by subst hw'; exact h _ _ _ _ _ hw) ⟨hw, Env.set_same _ _ _⟩) hr
theorem RgF.ld {t : TypeId} {d : Tmp} {x : Operand} {v : Value} [Cell1 P t] {a : Addr} (hI : ∀ w, I w → w.cell? a = some v) (hd : dOk n (some d) = true)
    (hx : e.eval x = .pointer (some a)) (hr : RgF P n ops I Fin rest (e.set d v)) : RgF P n ops I Fin (⟨some d, .load t x, ty, pos, after, none⟩ :: rest) e :=
  RgF.det hd rfl (Det.load1 hx fun w hw => hI w hw) hr
/-- THE RULE, in this form. -/
theorem Wp.drawF {l : List Oper} {id : Nat} {Q : Exit → Env → World → Prop} {w : World} (N : Nat) (I : World → Prop) (hI : I w.drew) (hm : P.follows .mixedOrders = true) (hok : rgOk l N = true) (hN : Nat.ble N l.length = true)
    (h : RgF P n l.toArray I (fun Γ => ∀ e' w', I w' → (∀ t, Γ t (e' t) w') → WpL P n l.toArray (Q .normal) (l.drop N) e' w') (l.take N) e) :
    Wp P n (.region id l.toArray true) Q e w := Wp.draw N I (fun _ _ => True) hm hok (Nat.le_of_ble_eq_true hN) (fun _ => trivial) hI h
theorem RgF.fin {ops' : Array Oper} {K : Env → World → Prop} {tail : List Oper}
    (h : ∀ w, I w → WpL P n ops' K tail e w) : RgF P n ops I (fun Γ => ∀ e' w', I w' → (∀ t, Γ t (e' t) w') → WpL P n ops' K tail e' w') [] e := by
  intro e' w' hi hg
  have : e' = e := funext fun t => hg t
  subst this
  exact h w' hi
end
end Go.Fk
