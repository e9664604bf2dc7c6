/-
  Regions that draw their order, shown one operation behind the other: what is known stands in the env, what is not yet
  known in a list of open slots, each with what holds of its value. It holds for any program; conditions stand at each theorem.
-/
import Derived.Test.YtaapnfoimcccjaaMem2
namespace Go.Fk
open Go.RowKit

abbrev Open := List (Tmp × Spec)
/-- For every value that the open slots may hold. -/
def AllE (w : World) (C : Env → Prop) : Open → Env → Prop
  | [], e => C e
  | (t, V) :: r, e => ∀ x, V x w → AllE w C r (e.set t x)
def gam (e : Env) : Open → Tmp → Spec
  | [], t => fun v _ => v = e t
  | (t', V) :: r, t => if t = t' then V else gam e r t

theorem gam_off {e : Env} {t : Tmp} : ∀ {E : Open}, t ∉ E.map (·.1) → gam e E t = fun v _ => v = e t
  | [], _ => rfl
  | (t', V) :: r, h => by
    simp only [List.map_cons, List.mem_cons, not_or] at h
    unfold gam
    rw [if_neg h.1]; exact gam_off h.2
theorem gam_set {e : Env} {d : Tmp} {c : Value} {t : Tmp} (h : t ≠ d) : ∀ {E : Open}, gam (e.set d c) E t = gam e E t
  | [] => by simp only [gam, Env.set_other e c h]
  | (t', V) :: r => by unfold gam; rw [gam_set h]
theorem gam_last {e : Env} {d : Tmp} {V : Spec} {t : Tmp} : ∀ {E : Open}, d ∉ E.map (·.1) → gam e (E ++ [(d, V)]) t = if t = d then V else gam e E t
  | [], _ => by simp only [List.nil_append, gam]
  | (t', V') :: r, h => by
    simp only [List.map_cons, List.mem_cons, not_or] at h
    simp only [List.cons_append, gam]
    rw [gam_last h.2]
    by_cases h1 : t = t'
    · subst h1; rw [if_pos rfl, if_pos rfl, if_neg (fun e => h.1 e.symm)]
    · rw [if_neg h1, if_neg h1]

def sub (L : List Tmp) (E : Open) : Open := E.filter fun p => L.contains p.1
theorem AllE.inst {w : World} {C : Env → Prop} {e : Env} (L : List Tmp) : ∀ {E : Open} {ê : Env}, (E.map (·.1)).Nodup → (∀ t ∈ L, gam ê E t (e t) w) → AllE w C (sub L E) ê → ∃ e', C e' ∧ ∀ t ∈ L, e' t = e t
  | [], ê, _, hg, h => ⟨ê, h, fun t ht => (hg t ht).symm⟩
  | (t, V) :: r, ê, hn, hg, h => by
    simp only [List.map_cons, List.nodup_cons] at hn
    by_cases ht : t ∈ L
    · have hs : sub L ((t, V) :: r) = (t, V) :: sub L r := by simp [sub, List.filter_cons, ht]
      rw [hs] at h
      have hV : V (e t) w := by have := hg t ht; simpa [gam] using this
      refine AllE.inst L hn.2 (fun t' ht' => ?_) (h _ hV)
      by_cases htt : t' = t
      · subst htt
        rw [gam_off hn.1]
        exact (Env.set_same _ _ _).symm
      · rw [gam_set htt]
        have := hg t' ht'
        unfold gam at this
        rwa [if_neg htt] at this
    · have hs : sub L ((t, V) :: r) = sub L r := by simp [sub, List.filter_cons, ht]
      rw [hs] at h
      refine AllE.inst L hn.2 (fun t' ht' => ?_) h
      have htt : t' ≠ t := fun e => ht (e ▸ ht')
      have := hg t' ht'
      unfold gam at this
      rwa [if_neg htt] at this
theorem AllE.full {w : World} {C : Env → Prop} {e : Env} : ∀ {E : Open} {ê : Env}, (E.map (·.1)).Nodup → (∀ t, gam ê E t (e t) w) → AllE w C E ê → C e
  | [], ê, _, hg, h => by
    have : ê = e := funext fun t => (hg t).symm
    subst this; exact h
  | (t, V) :: r, ê, hn, hg, h => by
    simp only [List.map_cons, List.nodup_cons] at hn
    have hV : V (e t) w := by have := hg t; simpa [gam] using this
    refine AllE.full hn.2 (fun t' => ?_) (h _ hV)
    by_cases htt : t' = t
    · subst htt
      rw [gam_off hn.1]
      exact (Env.set_same _ _ _).symm
    · rw [gam_set htt]
      have := hg t'
      unfold gam at this
      rwa [if_neg htt] at this

section
variable {P : Program} {n : Nat} {ops : Array Oper} {w0 : World} {Fin : (Tmp → Spec) → Prop} {rest : List Oper} {e : Env} {E : Open} {ty : TypeId} {pos : String} {after : Array Edge} {guard : Option (Nat × Bool)}

/-- The operations from here on, each shown once. -/
def RgD (P : Program) (n : Nat) (ops : Array Oper) (w0 : World) (Fin : (Tmp → Spec) → Prop) (l : List Oper) (e : Env) (E : Open) : Prop :=
  (E.map (·.1)).Nodup → RgL P n ops (Below w0.heap.size w0) (fun w w' => Below w.heap.size w w') Fin l (gam e E)

def notSelect : Op → Bool
  | .select _ _ => false
  | _ => true

theorem one_ob {o : Oper} {d : Tmp} {V : Spec} (hd : o.dst = some d) (hs : notSelect o.op = true) (hn : (E.map (·.1)).Nodup)
    (h : ∀ w, Below w0.heap.size w0 w → AllE w (fun e => WpL P n ops (fun e' w' => (Below w0.heap.size w0 w' ∧ Below w.heap.size w w') ∧ V (e' d) w') [o] e w) (sub (o.looksAt ops) E) e) :
    Ob P ops (Below w0.heap.size w0) (fun w w' => Below w.heap.size w w') o (gam e E) V := by
  intro e1 w hw hg
  obtain ⟨e', ⟨_, h1⟩, h2⟩ := AllE.inst (o.looksAt ops) hn hg (h w hw)
  have hops : ∀ x ∈ o.op.operands, e1.eval x = e'.eval x := fun x hx => by
    cases x with
    | tmp t => exact (h2 t (List.mem_append_left _ (List.mem_filterMap.2 ⟨.tmp t, by simpa using hx, rfl⟩))).symm
    | _ => rfl
  have hy : Region.wanted o (yieldedE ops e1) = Region.wanted o (yieldedE ops e') := by
    unfold Region.wanted
    cases hgd : o.guard with
    | none => rfl
    | some p =>
      obtain ⟨g, b⟩ := p
      simp only
      have : yieldedE ops e1 g = yieldedE ops e' g := by
        unfold yieldedE
        cases hb : (ops[g]?).bind (·.dst) with
        | none => rfl
        | some t =>
          simp only
          rw [h2 t (List.mem_append_right _ (by rw [hgd]; simp only; rw [hb]; simp))]
      rw [this]
  have hx : execOp e1.eval o = execOp e'.eval o := execOp_congr o (fun cs b hc => by rw [hc] at hs; cases hs) hops
  rw [hy]
  by_cases hwt : Region.wanted o (yieldedE ops e') = true
  · rw [if_pos hwt] at h1 ⊢
    unfold OpW at h1
    unfold RunsTo
    rw [hx]
    generalize (execOp e'.eval o).run P w = r at h1 ⊢
    have fin : ∀ v w', WpL P n ops (fun e' w' => (Below w0.heap.size w0 w' ∧ Below w.heap.size w w') ∧ V (e' d) w') [] (e'.setD o.dst v) w' → Below w0.heap.size w0 w' ∧ Below w.heap.size w w' ∧ V v w' := fun v w' h => by
      have h : (Below w0.heap.size w0 w' ∧ Below w.heap.size w w') ∧ V (e'.setD o.dst v d) w' := h
      rw [hd] at h
      simp only [Env.setD, Env.set_same] at h
      exact ⟨h.1.1, h.1.2, h.2⟩
    cases r with
    | halt x w' => exact h1.elim
    | ok x w' =>
      cases x <;> simp only at h1 ⊢
      case value v => exact fin _ _ h1
      case skip => exact fin _ _ h1
      case enter f args => exact h1.mono fun x w'' ⟨v, hv, hx⟩ => ⟨v, hv, fin _ _ hx⟩
      case row row args => exact h1.mono fun v w'' hx => fin _ _ hx
  · rw [if_neg hwt] at h1 ⊢
    have h : (Below w0.heap.size w0 w ∧ Below w.heap.size w w) ∧ V (e'.setD o.dst undef d) w := h1
    rw [hd] at h
    simp only [Env.setD, Env.set_same] at h
    exact h.2

/-- One operation whose value is known ahead. -/
theorem RgD.known {o : Op} {d : Tmp} {c : Value} (hd : dOk n (some d) = true) (hs : notSelect o = true) (hk : (E.map (·.1)).contains d = false) (E' : Open) (hE : sub ((⟨some d, o, ty, pos, after, guard⟩ : Oper).looksAt ops) E = E')
    (h : ∀ w, Below w0.heap.size w0 w → AllE w (fun e => WpL P n ops (fun e' w' => (Below w0.heap.size w0 w' ∧ Below w.heap.size w w') ∧ e' d = c) [⟨some d, o, ty, pos, after, guard⟩] e w) E' e)
    (hr : RgD P n ops w0 Fin rest (e.set d c) E) : RgD P n ops w0 Fin (⟨some d, o, ty, pos, after, guard⟩ :: rest) e E := fun hn => by
  subst hE
  have hk : d ∉ E.map (·.1) := by simpa using hk
  refine ⟨fun v _ => v = c, hd, fun _ _ _ h _ _ _ => h, one_ob rfl hs hn h, ?_⟩
  have : setG (gam e E) (some d) (fun v _ => v = c) = gam (e.set d c) E := funext fun t => by
    unfold setG
    by_cases ht : t = d
    · subst ht; rw [if_pos rfl, gam_off hk, Env.set_same]
    · rw [if_neg (fun h => ht (by injection h with h; exact h.symm)), gam_set ht]
  simp only [this]
  exact hr hn
/-- One operation of whose value something holds, and goes on to hold. -/
theorem RgD.spec {o : Op} {d : Tmp} (V : Spec) (hd : dOk n (some d) = true) (hs : notSelect o = true) (hk : (E.map (·.1)).contains d = false) (E' : Open) (hE : sub ((⟨some d, o, ty, pos, after, guard⟩ : Oper).looksAt ops) E = E')
    (hst : ∀ v w w', V v w → Below w.heap.size w w' → V v w')
    (h : ∀ w, Below w0.heap.size w0 w → AllE w (fun e => WpL P n ops (fun e' w' => (Below w0.heap.size w0 w' ∧ Below w.heap.size w w') ∧ V (e' d) w') [⟨some d, o, ty, pos, after, guard⟩] e w) E' e)
    (hr : RgD P n ops w0 Fin rest e (E ++ [(d, V)])) : RgD P n ops w0 Fin (⟨some d, o, ty, pos, after, guard⟩ :: rest) e E := fun hn => by
  subst hE
  have hk : d ∉ E.map (·.1) := by simpa using hk
  refine ⟨V, hd, fun v w w' h _ _ hb => hst v w w' h hb, one_ob rfl hs hn h, ?_⟩
  have : setG (gam e E) (some d) V = gam e (E ++ [(d, V)]) := funext fun t => by
    unfold setG
    rw [gam_last hk]
    by_cases ht : t = d
    · subst ht; rw [if_pos rfl, if_pos rfl]
    · rw [if_neg (fun h => ht (by injection h with h; exact h.symm)), if_neg ht]
  simp only [this]
  refine hr ?_
  simp only [List.map_append, List.map_cons, List.map_nil]
  exact List.nodup_append.2 ⟨hn, by simp, fun a ha b hb => by simp only [List.mem_singleton] at hb; subst hb; exact fun h => hk (h ▸ ha)⟩
/-- What leaves the world alone, of known operands. -/
theorem RgD.det {o : Op} {d : Tmp} {c : Value} (hd : dOk n (some d) = true) (hs : notSelect o = true) (hk : (E.map (·.1)).contains d = false) (hE : sub ((⟨some d, o, ty, pos, after, none⟩ : Oper).looksAt ops) E = [])
    (h : Det P (Below w0.heap.size w0) o ty e c) (hr : RgD P n ops w0 Fin rest (e.set d c) E) : RgD P n ops w0 Fin (⟨some d, o, ty, pos, after, none⟩ :: rest) e E :=
  RgD.known hd hs hk [] hE (fun w hw => WpL.det hd (fun _ _ _ _ w' hw' => by subst hw'; exact h _ _ _ _ _ hw) ⟨⟨hw, Below.refl _ _⟩, Env.set_same _ _ _⟩) hr
theorem RgD.detG {o : Op} {j d d' : Nat} {b t : Bool} {c : Value} (hj : (ops[j]?).bind (·.dst) = some d) (he : e d = .bool t) (ht : t = b) (hd : dOk n (some d') = true) (hs : notSelect o = true) (hk : (E.map (·.1)).contains d' = false)
    (hE : sub ((⟨some d', o, ty, pos, after, some (j, b)⟩ : Oper).looksAt ops) E = [])
    (h : Det P (Below w0.heap.size w0) o ty e c) (hr : RgD P n ops w0 Fin rest (e.set d' c) E) : RgD P n ops w0 Fin (⟨some d', o, ty, pos, after, some (j, b)⟩ :: rest) e E :=
  RgD.known hd hs hk [] hE (fun w hw => WpL.detG hj he ht hd (fun _ _ _ _ w' hw' => by subst hw'; exact h _ _ _ _ _ hw) ⟨⟨hw, Below.refl _ _⟩, Env.set_same _ _ _⟩) hr
theorem RgD.skipG {o : Op} {j d d' : Nat} {b t : Bool} (hj : (ops[j]?).bind (·.dst) = some d) (he : e d = .bool t) (ht : t = !b) (hd : dOk n (some d') = true) (hs : notSelect o = true) (hk : (E.map (·.1)).contains d' = false)
    (hE : sub ((⟨some d', o, ty, pos, after, some (j, b)⟩ : Oper).looksAt ops) E = [])
    (hr : RgD P n ops w0 Fin rest (e.set d' undef) E) : RgD P n ops w0 Fin (⟨some d', o, ty, pos, after, some (j, b)⟩ :: rest) e E :=
  RgD.known hd hs hk [] hE (fun w hw => WpL.skipG hj he ht hd ⟨⟨hw, Below.refl _ _⟩, Env.set_same _ _ _⟩) hr
theorem RgD.known0 {o : Op} {d : Tmp} {c : Value} (hd : dOk n (some d) = true) (hs : notSelect o = true) (hk : (E.map (·.1)).contains d = false) (hE : sub ((⟨some d, o, ty, pos, after, guard⟩ : Oper).looksAt ops) E = [])
    (h : ∀ w, Below w0.heap.size w0 w → WpL P n ops (fun e' w' => (Below w0.heap.size w0 w' ∧ Below w.heap.size w w') ∧ e' d = c) [⟨some d, o, ty, pos, after, guard⟩] e w)
    (hr : RgD P n ops w0 Fin rest (e.set d c) E) : RgD P n ops w0 Fin (⟨some d, o, ty, pos, after, guard⟩ :: rest) e E := RgD.known hd hs hk [] hE h hr
theorem RgD.known1 {o : Op} {d t : Tmp} {V : Spec} {c : Value} (hd : dOk n (some d) = true) (hs : notSelect o = true) (hk : (E.map (·.1)).contains d = false) (hE : sub ((⟨some d, o, ty, pos, after, guard⟩ : Oper).looksAt ops) E = [(t, V)])
    (h : ∀ w, Below w0.heap.size w0 w → ∀ x, V x w → WpL P n ops (fun e' w' => (Below w0.heap.size w0 w' ∧ Below w.heap.size w w') ∧ e' d = c) [⟨some d, o, ty, pos, after, guard⟩] (e.set t x) w)
    (hr : RgD P n ops w0 Fin rest (e.set d c) E) : RgD P n ops w0 Fin (⟨some d, o, ty, pos, after, guard⟩ :: rest) e E := RgD.known hd hs hk [(t, V)] hE h hr
theorem RgD.spec0 {o : Op} {d : Tmp} (V : Spec) (hd : dOk n (some d) = true) (hs : notSelect o = true) (hk : (E.map (·.1)).contains d = false) (hE : sub ((⟨some d, o, ty, pos, after, guard⟩ : Oper).looksAt ops) E = [])
    (hst : ∀ v w w', V v w → Below w.heap.size w w' → V v w')
    (h : ∀ w, Below w0.heap.size w0 w → WpL P n ops (fun e' w' => (Below w0.heap.size w0 w' ∧ Below w.heap.size w w') ∧ V (e' d) w') [⟨some d, o, ty, pos, after, guard⟩] e w)
    (hr : RgD P n ops w0 Fin rest e (E ++ [(d, V)])) : RgD P n ops w0 Fin (⟨some d, o, ty, pos, after, guard⟩ :: rest) e E := RgD.spec V hd hs hk [] hE hst h hr
theorem RgD.spec1 {o : Op} {d t : Tmp} {U : Spec} (V : Spec) (hd : dOk n (some d) = true) (hs : notSelect o = true) (hk : (E.map (·.1)).contains d = false) (hE : sub ((⟨some d, o, ty, pos, after, guard⟩ : Oper).looksAt ops) E = [(t, U)])
    (hst : ∀ v w w', V v w → Below w.heap.size w w' → V v w')
    (h : ∀ w, Below w0.heap.size w0 w → ∀ x, U x w → WpL P n ops (fun e' w' => (Below w0.heap.size w0 w' ∧ Below w.heap.size w w') ∧ V (e' d) w') [⟨some d, o, ty, pos, after, guard⟩] (e.set t x) w)
    (hr : RgD P n ops w0 Fin rest e (E ++ [(d, V)])) : RgD P n ops w0 Fin (⟨some d, o, ty, pos, after, guard⟩ :: rest) e E := RgD.spec V hd hs hk [(t, U)] hE hst h hr
/-- A load from memory that was there ahead of the region. -/
theorem RgD.loadA {t : TypeId} {x : Operand} [Cell1 P t] {d : Tmp} {a : Addr} {j : Nat} {xs : List Value} {v : Value} (hd : dOk n (some d) = true) (hk : (E.map (·.1)).contains d = false) (hE : sub ((⟨some d, .load t x, ty, pos, after, none⟩ : Oper).looksAt ops) E = [])
    (hx : e.eval x = .pointer (some (a.add j))) (hr : At w0 a xs) (hc : xs[j]? = some v)
    (h : RgD P n ops w0 Fin rest (e.set d v) E) : RgD P n ops w0 Fin (⟨some d, .load t x, ty, pos, after, none⟩ :: rest) e E :=
  RgD.det hd rfl hk hE (Det.load1 hx fun w hw => (hr.below hw) j v hc) h
/-- A load from a block that was known ahead of the region. -/
theorem RgD.loadB {t el : TypeId} {x : Operand} [Cell1 P t] {d : Tmp} {g i : Nat} {cs : Array Value} {v : Value} (hd : dOk n (some d) = true) (hk : (E.map (·.1)).contains d = false) (hE : sub ((⟨some d, .load t x, ty, pos, after, none⟩ : Oper).looksAt ops) E = [])
    (hx : e.eval x = .pointer (some ⟨g, i, none⟩)) (hg : Blk w0 g el cs) (hc : cs[i]? = some v)
    (h : RgD P n ops w0 Fin rest (e.set d v) E) : RgD P n ops w0 Fin (⟨some d, .load t x, ty, pos, after, none⟩ :: rest) e E :=
  RgD.det hd rfl hk hE (Det.load1 hx fun w hw => by rw [(hg.stay hw).cell, hc]) h
/-- Bytes that were there ahead of the region, as a text. -/
theorem RgD.str {x : Operand} {t t' el : TypeId} [ht : SliceT P t el] [hs : StrT P t'] [hb : IntT P el .u8] {d : Tmp} {A : Option Addr} {l : List UInt8} {m c : Nat} (hd : dOk n (some d) = true) (hk : (E.map (·.1)).contains d = false) (hE : sub ((⟨some d, .convert t t' x, ty, pos, after, none⟩ : Oper).looksAt ops) E = [])
    (hx : e.eval x = .slice A m c) (hr : Rd w0 A (bv l)) (hn : l.length = m)
    (h : RgD P n ops w0 Fin rest (e.set d (.string ⟨l.toArray⟩)) E) : RgD P n ops w0 Fin (⟨some d, .convert t t' x, ty, pos, after, none⟩ :: rest) e E :=
  RgD.det hd rfl hk hE (Det.str hx (fun w hw => hr.below hw) hn) h
theorem RgD.strG {x : Operand} {t t' el : TypeId} [ht : SliceT P t el] [hs : StrT P t'] [hb : IntT P el .u8] {d d' j : Tmp} {b c' : Bool} {A : Option Addr} {l : List UInt8} {m c : Nat} (hj : (ops[j]?).bind (·.dst) = some d) (he : e d = .bool c') (hc : c' = b)
    (hd : dOk n (some d') = true) (hk : (E.map (·.1)).contains d' = false) (hE : sub ((⟨some d', .convert t t' x, ty, pos, after, some (j, b)⟩ : Oper).looksAt ops) E = [])
    (hx : e.eval x = .slice A m c) (hr : Rd w0 A (bv l)) (hn : l.length = m)
    (h : RgD P n ops w0 Fin rest (e.set d' (.string ⟨l.toArray⟩)) E) : RgD P n ops w0 Fin (⟨some d', .convert t t' x, ty, pos, after, some (j, b)⟩ :: rest) e E :=
  RgD.detG hj he hc hd rfl hk hE (Det.str hx (fun w hw => hr.below hw) hn) h
end

/-- THE RULE, in this form: N operations shown so, the others in order behind them. -/
theorem Wp.drawD {P : Program} {n : Nat} {l : List Oper} {id : Nat} {Q : Exit → Env → World → Prop} {e : Env} {w : World} (N : Nat) (hm : P.follows .mixedOrders = true)
    (hok : rgOk l N = true) (hN : Nat.ble N l.length = true)
    (h : RgD P n l.toArray w (fun Γ => ∀ e' w', Below w.heap.size w w' → (∀ t, Γ t (e' t) w') → WpL P n l.toArray (Q .normal) (l.drop N) e' w') (l.take N) e []) :
    Wp P n (.region id l.toArray true) Q e w := by
  refine Wp.draw N (Below w.heap.size w) (fun w w' => Below w.heap.size w w') hm hok (Nat.le_of_ble_eq_true hN) (fun w => Below.refl _ _) (Below.refl _ _).drew ?_
  exact h (by simp)
theorem RgD.fin {P : Program} {n : Nat} {ops ops' : Array Oper} {w0 : World} {K : Env → World → Prop} {tail : List Oper} {e : Env} {E : Open}
    (h : ∀ w, Below w0.heap.size w0 w → AllE w (fun e => WpL P n ops' K tail e w) E e) :
    RgD P n ops w0 (fun Γ => ∀ e' w', Below w0.heap.size w0 w' → (∀ t, Γ t (e' t) w') → WpL P n ops' K tail e' w') [] e E :=
  fun hn e' w' hb hg => AllE.full hn hg (h w' hb)
theorem RgD.fin0 {P : Program} {n : Nat} {ops ops' : Array Oper} {w0 : World} {K : Env → World → Prop} {tail : List Oper} {e : Env}
    (h : ∀ w, Below w0.heap.size w0 w → WpL P n ops' K tail e w) :
    RgD P n ops w0 (fun Γ => ∀ e' w', Below w0.heap.size w0 w' → (∀ t, Γ t (e' t) w') → WpL P n ops' K tail e' w') [] e [] := RgD.fin h
theorem RgD.fin1 {P : Program} {n : Nat} {ops ops' : Array Oper} {w0 : World} {K : Env → World → Prop} {tail : List Oper} {e : Env} {t : Tmp} {V : Spec}
    (h : ∀ w, Below w0.heap.size w0 w → ∀ x, V x w → WpL P n ops' K tail (e.set t x) w) :
    RgD P n ops w0 (fun Γ => ∀ e' w', Below w0.heap.size w0 w' → (∀ t, Γ t (e' t) w') → WpL P n ops' K tail e' w') [] e [(t, V)] := RgD.fin h
end Go.Fk
