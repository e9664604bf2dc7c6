/-
  Regions that draw their order and in whose head one operation stores: each operation is shown once, over the parts of memory ahead of the store (LA)
  and behind it (LB of what temporary t0 holds). It holds for any program; conditions stand at each theorem.
-/
import Derived.Test.YtaapnfoimcccjaaRgs
namespace Go.Fk
open Go.RowKit

def RB (base : Nat) (w w' : World) : Prop := w.heap.size ≤ w'.heap.size ∧ ∀ k, base ≤ k → k < w.heap.size → w'.heap[k]? = w.heap[k]?
def IS (w0 : World) (M : Nat → Prop) (L : List Ch) (base : Nat) (w : World) : Prop := base ≤ w.heap.size ∧ St w0 M w L
theorem RB.refl {base : Nat} (w : World) : RB base w w := ⟨Nat.le_refl _, fun _ _ _ => rfl⟩
theorem RB.below {base : Nat} {w w' : World} (hb : Below w.heap.size w w') : RB base w w' := ⟨hb.size, fun k _ hk => hb.block k hk⟩
theorem IS.below {w0 : World} {M : Nat → Prop} {L : List Ch} {base : Nat} {w w' : World} (h : IS w0 M L base w) (hb : Below w.heap.size w w') : IS w0 M L base w' := ⟨Nat.le_trans h.1 hb.size, h.2.below hb⟩

section
variable {P : Program} {n : Nat} {ops : Array Oper} {w0 : World} {M : Nat → Prop} {LA : List Ch} {LB : Value → List Ch} {base t0 : Nat} {Fin : (Tmp → Spec) → Prop} {rest : List Oper} {e : Env} {E : Open} {ty : TypeId} {pos : String} {after : Array Edge}

def RgS (P : Program) (n : Nat) (ops : Array Oper) (w0 : World) (M : Nat → Prop) (LA : List Ch) (LB : Value → List Ch) (base t0 : Nat) (Fin : (Tmp → Spec) → Prop) (l : List Oper) (e : Env) (E : Open) : Prop :=
  (E.map (·.1)).Nodup → RgLG n (Ob2 P ops (IS w0 M LA base) (fun x => IS w0 M (LB x) base) (RB base) t0) (RB base) Fin l (gam e E)

theorem one_obG {o : Oper} {d : Tmp} {V : Spec} {L : List Ch} (hd : o.dst = some d) (hs : notSelect o.op = true) (hn : (E.map (·.1)).Nodup)
    (h : ∀ w, IS w0 M L base w → AllE w (fun e => WpL P n ops (fun e' w' => Below w.heap.size w w' ∧ V (e' d) w') [o] e w) (sub (o.looksAt ops) E) e) :
    Ob P ops (IS w0 M L base) (RB base) o (gam e E) V := by
  intro e1 w hw hg
  obtain ⟨e', ⟨_, h1⟩, h2⟩ := AllE.inst (o.looksAt ops) hn hg (h w hw)
  have hops : ∀ x ∈ o.op.operands, e1.eval x = e'.eval x := fun x hx => by
    cases x with
    | tmp t => exact (h2 t (List.mem_append_left _ (List.mem_filterMap.2 ⟨.tmp t, by simpa using hx, rfl⟩))).symm
    | _ => rfl
  have hy : Region.wanted o (yieldedE ops e1) = Region.wanted o (yieldedE ops e') := by
    unfold Region.wanted
    cases hgd : o.guard with
    | none => rfl
    | some p =>
      obtain ⟨g, b⟩ := p
      simp only
      have : yieldedE ops e1 g = yieldedE ops e' g := by
        unfold yieldedE
        cases hb : (ops[g]?).bind (·.dst) with
        | none => rfl
        | some t =>
          simp only
          rw [h2 t (List.mem_append_right _ (by rw [hgd]; simp only; rw [hb]; simp))]
      rw [this]
  have hx : execOp e1.eval o = execOp e'.eval o := execOp_congr o (fun cs b hc => by rw [hc] at hs; cases hs) hops
  rw [hy]
  by_cases hwt : Region.wanted o (yieldedE ops e') = true
  · rw [if_pos hwt] at h1 ⊢
    unfold OpW at h1
    unfold RunsTo
    rw [hx]
    generalize (execOp e'.eval o).run P w = r at h1 ⊢
    have fin : ∀ v w', WpL P n ops (fun e' w' => Below w.heap.size w w' ∧ V (e' d) w') [] (e'.setD o.dst v) w' → IS w0 M L base w' ∧ RB base w w' ∧ V v w' := fun v w' h => by
      have h : Below w.heap.size w w' ∧ V (e'.setD o.dst v d) w' := h
      rw [hd] at h
      simp only [Env.setD, Env.set_same] at h
      exact ⟨hw.below h.1, .below h.1, h.2⟩
    cases r with
    | halt x w' => exact h1.elim
    | ok x w' =>
      cases x <;> simp only at h1 ⊢
      case value v => exact fin _ _ h1
      case skip => exact fin _ _ h1
      case enter f args => exact h1.mono fun x w'' ⟨v, hv, hx⟩ => ⟨v, hv, fin _ _ hx⟩
      case row row args => exact h1.mono fun v w'' hx => fin _ _ hx
  · rw [if_neg hwt] at h1 ⊢
    have h : Below w.heap.size w w ∧ V (e'.setD o.dst undef d) w := h1
    rw [hd] at h
    simp only [Env.setD, Env.set_same] at h
    exact h.2

variable {guard : Option (Nat × Bool)}
theorem RgS.known {o : Op} {d : Tmp} {c : Value} (hd : dOk n (some d) = true) (hs : notSelect o = true) (hk : (E.map (·.1)).contains d = false) (E' : Open) (hE : sub ((⟨some d, o, ty, pos, after, guard⟩ : Oper).looksAt ops) E = E')
    (h : ∀ w L, (L = LA ∨ ∃ x, L = LB x) → St w0 M w L → AllE w (fun e => WpL P n ops (fun e' w' => Below w.heap.size w w' ∧ e' d = c) [⟨some d, o, ty, pos, after, guard⟩] e w) E' e)
    (hr : RgS P n ops w0 M LA LB base t0 Fin rest (e.set d c) E) : RgS P n ops w0 M LA LB base t0 Fin (⟨some d, o, ty, pos, after, guard⟩ :: rest) e E := fun hn => by
  subst hE
  have hk : d ∉ E.map (·.1) := by simpa using hk
  refine ⟨fun v _ => v = c, hd, fun _ _ _ h _ => h, ?_, ?_⟩
  · unfold Ob2
    rw [if_neg (by simp)]
    exact ⟨one_obG rfl hs hn fun w hw => h w LA (.inl rfl) hw.2, fun x => one_obG rfl hs hn fun w hw => h w (LB x) (.inr ⟨x, rfl⟩) hw.2⟩
  have : setG (gam e E) (some d) (fun v _ => v = c) = gam (e.set d c) E := funext fun t => by
    unfold setG
    by_cases ht : t = d
    · subst ht; rw [if_pos rfl, gam_off hk, Env.set_same]
    · rw [if_neg (fun h => ht (by injection h with h; exact h.symm)), gam_set ht]
  simp only [this]
  exact hr hn
theorem RgS.spec {o : Op} {d : Tmp} (V : Spec) (hd : dOk n (some d) = true) (hs : notSelect o = true) (hk : (E.map (·.1)).contains d = false) (E' : Open) (hE : sub ((⟨some d, o, ty, pos, after, guard⟩ : Oper).looksAt ops) E = E')
    (hst : ∀ v w w', V v w → RB base w w' → V v w')
    (h : ∀ w L, (L = LA ∨ ∃ x, L = LB x) → base ≤ w.heap.size → St w0 M w L → AllE w (fun e => WpL P n ops (fun e' w' => Below w.heap.size w w' ∧ V (e' d) w') [⟨some d, o, ty, pos, after, guard⟩] e w) E' e)
    (hr : RgS P n ops w0 M LA LB base t0 Fin rest e (E ++ [(d, V)])) : RgS P n ops w0 M LA LB base t0 Fin (⟨some d, o, ty, pos, after, guard⟩ :: rest) e E := fun hn => by
  subst hE
  have hk : d ∉ E.map (·.1) := by simpa using hk
  refine ⟨V, hd, hst, ?_, ?_⟩
  · unfold Ob2
    rw [if_neg (by simp)]
    exact ⟨one_obG rfl hs hn fun w hw => h w LA (.inl rfl) hw.1 hw.2, fun x => one_obG rfl hs hn fun w hw => h w (LB x) (.inr ⟨x, rfl⟩) hw.1 hw.2⟩
  have : setG (gam e E) (some d) V = gam e (E ++ [(d, V)]) := funext fun t => by
    unfold setG
    rw [gam_last hk]
    by_cases ht : t = d
    · subst ht; rw [if_pos rfl, if_pos rfl]
    · rw [if_neg (fun h => ht (by injection h with h; exact h.symm)), if_neg ht]
  simp only [this]
  refine hr ?_
  simp only [List.map_append, List.map_cons, List.map_nil]
  exact List.nodup_append.2 ⟨hn, by simp, fun a ha b hb => by simp only [List.mem_singleton] at hb; subst hb; exact fun h => hk (h ▸ ha)⟩
theorem RgS.det {o : Op} {d : Tmp} {c : Value} (hd : dOk n (some d) = true) (hs : notSelect o = true) (hk : (E.map (·.1)).contains d = false) (hE : sub ((⟨some d, o, ty, pos, after, none⟩ : Oper).looksAt ops) E = [])
    (h : Det P (fun w => ∃ L, (L = LA ∨ ∃ x, L = LB x) ∧ St w0 M w L) o ty e c) (hr : RgS P n ops w0 M LA LB base t0 Fin rest (e.set d c) E) : RgS P n ops w0 M LA LB base t0 Fin (⟨some d, o, ty, pos, after, none⟩ :: rest) e E :=
  RgS.known hd hs hk [] hE (fun w L hL hw => WpL.det hd (fun _ _ _ _ w' hw' => by subst hw'; exact h _ _ _ _ _ ⟨L, hL, hw⟩) ⟨Below.refl _ _, Env.set_same _ _ _⟩) hr
theorem RgS.ld {t : TypeId} {d : Tmp} {x : Operand} {v : Value} [Cell1 P t] {a : Addr} (hd : dOk n (some d) = true) (hk : (E.map (·.1)).contains d = false) (hE : sub ((⟨some d, .load t x, ty, pos, after, none⟩ : Oper).looksAt ops) E = [])
    (hx : e.eval x = .pointer (some a)) (hA : Look LA a v) (hB : ∀ u, Look (LB u) a v) (hr : RgS P n ops w0 M LA LB base t0 Fin rest (e.set d v) E) : RgS P n ops w0 M LA LB base t0 Fin (⟨some d, .load t x, ty, pos, after, none⟩ :: rest) e E :=
  RgS.det hd rfl hk hE (Det.load1 hx fun _ ⟨L, hL, hw⟩ => hL.elim (fun h => by subst h; exact hA.cell hw) fun ⟨u, h⟩ => by subst h; exact (hB u).cell hw) hr
theorem RgS.call {o : Op} {d : Tmp} {c : Value} (hd : dOk n (some d) = true) (hs : notSelect o = true) (hk : (E.map (·.1)).contains d = false) (hE : sub ((⟨some d, o, ty, pos, after, guard⟩ : Oper).looksAt ops) E = [])
    (h : ∀ w L, (L = LA ∨ ∃ x, L = LB x) → St w0 M w L → WpL P n ops (fun e' w' => Below w.heap.size w w' ∧ e' d = c) [⟨some d, o, ty, pos, after, guard⟩] e w)
    (hr : RgS P n ops w0 M LA LB base t0 Fin rest (e.set d c) E) : RgS P n ops w0 M LA LB base t0 Fin (⟨some d, o, ty, pos, after, guard⟩ :: rest) e E := RgS.known hd hs hk [] hE h hr

theorem run_storeAt {t : TypeId} {a : Addr} {v : Value} {w : World} {x y : Operand} [hs : SizeT P t 1] {L L' : List Ch} (hx : e.eval x = .pointer (some a)) (hy : e.eval y = v) (hv : v.oneCell' = true) (hu : Upd L a v L') (hS : St w0 M w L) :
    (execOp e.eval ⟨none, .store t x y, ty, pos, after, none⟩).run P w = .ok .skip (w.setCell a v) ∧ St w0 M (w.setCell a v) L' := by
  have hcs : v.cells = #[v] := by cases v <;> simp_all [Value.oneCell', Value.cells]
  obtain ⟨⟨⟨u, h1⟩, h2, h3⟩, hS'⟩ := hu.run hv hS
  refine ⟨?_, hS'⟩
  have hst := run_store P w a v .plain hv
  rw [h1] at hst
  simp only [h2, Bool.false_eq_true, if_false] at hst
  simp [execOp, hx, hy, Instr.storeAt, Instr.sureAddr, storeVar, SizeT.run (P := P) (t := t) w, hcs, storeCells, add_zero, hst]
/-- The store, of what is known; or of what temporary t0 holds. -/
theorem RgS.st {t : TypeId} {a : Addr} {v : Value} {x y : Operand} [hs : SizeT P t 1] (hE : sub ((⟨none, .store t x y, ty, pos, after, none⟩ : Oper).looksAt ops) E = [])
    (hx : e.eval x = .pointer (some a)) (hy : e.eval y = v) (hv : v.oneCell' = true) (hu : ∀ u, Upd LA a v (LB u)) (hab : a.block < base)
    (hr : RgS P n ops w0 M LA LB base t0 Fin rest e E) : RgS P n ops w0 M LA LB base t0 Fin (⟨none, .store t x y, ty, pos, after, none⟩ :: rest) e E := fun hn => by
  refine ⟨fun _ _ => True, rfl, fun _ _ _ _ _ => trivial, ?_, ?_⟩
  · unfold Ob2
    rw [if_pos rfl]
    refine ⟨fun e1 w hw hg => ⟨rfl, ?_⟩, rfl⟩
    have hops : ∀ z ∈ (Op.store t x y).operands, e1.eval z = e.eval z := fun z hz => by
      cases z with
      | tmp u =>
        have hmem : u ∈ (⟨none, .store t x y, ty, pos, after, none⟩ : Oper).looksAt ops := List.mem_append_left _ (List.mem_filterMap.2 ⟨.tmp u, by simpa using hz, rfl⟩)
        have h1 := hg u hmem
        have h2 : u ∉ E.map (·.1) := fun h3 => by
          obtain ⟨⟨u', V⟩, h4, rfl⟩ := List.mem_map.1 h3
          have : (u', V) ∈ sub ((⟨none, .store t x y, ty, pos, after, none⟩ : Oper).looksAt ops) E := List.mem_filter.2 ⟨h4, by simpa using hmem⟩
          rw [hE] at this; cases this
        rw [gam_off h2] at h1
        exact h1
      | _ => rfl
    have hx' : execOp e1.eval ⟨none, .store t x y, ty, pos, after, none⟩ = execOp e.eval ⟨none, .store t x y, ty, pos, after, none⟩ := execOp_congr _ (fun cs b hc => by cases hc) hops
    have h5 := run_storeAt (P := P) (t := t) (ty := ty) (pos := pos) (after := after) hx hy hv (hu (e1 t0)) hw.2
    unfold RunsTo
    rw [hx', h5.1]
    have hgr := grown_setCell w a v
    exact ⟨⟨Nat.le_trans hw.1 hgr.size, h5.2⟩, hgr.size, fun k h6 h7 => hgr.block k h7 (by intro h8; injection h8 with h8; omega)⟩
  have : setG (gam e E) none (fun _ _ => True) = gam e E := funext fun u => by unfold setG; rw [if_neg (by simp)]
  simp only [this]
  exact hr hn
theorem RgS.stT {t : TypeId} {a : Addr} {V : Spec} {x : Operand} [hs : SizeT P t 1] (hE : sub ((⟨none, .store t x (.tmp t0), ty, pos, after, none⟩ : Oper).looksAt ops) E = [(t0, V)]) (hx : e.eval x = .pointer (some a)) (hx0 : x ≠ .tmp t0)
    (hV : ∀ u w, V u w → u.oneCell' = true) (hu : ∀ u, u.oneCell' = true → Upd LA a u (LB u)) (hab : a.block < base)
    (hr : RgS P n ops w0 M LA LB base t0 Fin rest e E) : RgS P n ops w0 M LA LB base t0 Fin (⟨none, .store t x (.tmp t0), ty, pos, after, none⟩ :: rest) e E := fun hn => by
  refine ⟨fun _ _ => True, rfl, fun _ _ _ _ _ => trivial, ?_, ?_⟩
  · unfold Ob2
    rw [if_pos rfl]
    refine ⟨fun e1 w hw hg => ⟨rfl, ?_⟩, rfl⟩
    have hm0 : t0 ∈ (⟨none, .store t x (.tmp t0), ty, pos, after, none⟩ : Oper).looksAt ops := List.mem_append_left _ (List.mem_filterMap.2 ⟨.tmp t0, by simp [Op.operands], rfl⟩)
    have hin : (t0, V) ∈ E := by
      have : (t0, V) ∈ sub ((⟨none, .store t x (.tmp t0), ty, pos, after, none⟩ : Oper).looksAt ops) E := by rw [hE]; exact List.mem_singleton.2 rfl
      exact (List.mem_filter.1 this).1
    have h0 : V (e1 t0) w := by
      have h1 := hg t0 hm0
      have h2 : ∀ (E : Open), (E.map (·.1)).Nodup → (t0, V) ∈ E → gam e E t0 = V := fun E => by
        induction E with
        | nil => intro _ h; cases h
        | cons p r ih =>
          intro hnd h
          obtain ⟨t', V'⟩ := p
          simp only [List.map_cons, List.nodup_cons] at hnd
          rcases List.mem_cons.1 h with h | h
          · injection h with h3 h4; subst h3 h4; simp [gam]
          · unfold gam
            rw [if_neg (fun h5 => hnd.1 (by rw [← h5]; exact List.mem_map.2 ⟨_, h, rfl⟩))]
            exact ih hnd.2 h
      rwa [h2 E hn hin] at h1
    have hxe : e1.eval x = e.eval x := by
      cases x with
      | tmp u =>
        have hmem : u ∈ (⟨none, .store t (.tmp u) (.tmp t0), ty, pos, after, none⟩ : Oper).looksAt ops := List.mem_append_left _ (List.mem_filterMap.2 ⟨.tmp u, by simp [Op.operands], rfl⟩)
        have h1 := hg u hmem
        have h2 : u ∉ E.map (·.1) := fun h3 => by
          obtain ⟨⟨u', V'⟩, h4, rfl⟩ := List.mem_map.1 h3
          have : (u', V') ∈ sub ((⟨none, .store t (.tmp u') (.tmp t0), ty, pos, after, none⟩ : Oper).looksAt ops) E := List.mem_filter.2 ⟨h4, by simpa using hmem⟩
          rw [hE] at this
          simp only [List.mem_singleton, Prod.mk.injEq] at this
          exact hx0 (by rw [this.1])
        rw [gam_off h2] at h1
        exact h1
      | _ => rfl
    have h5 := run_storeAt (P := P) (t := t) (x := x) (e := e1) (ty := ty) (pos := pos) (after := after) (y := .tmp t0) (hxe.trans hx) rfl (hV _ _ h0) (hu (e1 t0) (hV _ _ h0)) hw.2
    unfold RunsTo
    rw [show (execOp e1.eval ⟨none, .store t x (.tmp t0), ty, pos, after, none⟩).run P w = _ from h5.1]
    have hgr := grown_setCell w a (e1 t0)
    exact ⟨⟨Nat.le_trans hw.1 hgr.size, h5.2⟩, hgr.size, fun k h6 h7 => hgr.block k h7 (by intro h8; injection h8 with h8; omega)⟩
  have : setG (gam e E) none (fun _ _ => True) = gam e E := funext fun u => by unfold setG; rw [if_neg (by simp)]
  simp only [this]
  exact hr hn

/-- A new slice, each place the element's nought. -/
def NewRowB (base : Nat) (el : TypeId) (k : Nat) (z : Value) : Spec := fun x w' => ∃ g, x = .slice (some ⟨g, 0, none⟩) k k ∧ base ≤ g ∧ Blk w' g el (List.replicate k z).toArray
theorem RgS.mk {t el : TypeId} {d : Tmp} {x y : Operand} [ht : SliceT P t el] {bytes k : Nat} {z : Value} [he : Elem P el 1 bytes z] {kl kc : IntKind} {i j : Int} (hd : dOk n (some d) = true) (hk : (E.map (·.1)).contains d = false) (hE : sub ((⟨some d, .makeSlice t x y, ty, pos, after, none⟩ : Oper).looksAt ops) E = [])
    (hx : e.eval x = .int kl i) (hi : i = (k : Int)) (hy : e.eval y = .int kc j) (hj : j = (k : Int)) (hz : z.cells = #[z]) (hn : bytes * k ≤ 281474976710656) (hm : k ≤ 9223372036854775807)
    (hr : RgS P n ops w0 M LA LB base t0 Fin rest e (E ++ [(d, NewRowB base el k z)])) : RgS P n ops w0 M LA LB base t0 Fin (⟨some d, .makeSlice t x y, ty, pos, after, none⟩ :: rest) e E := by
  subst hi hj
  obtain ⟨i, hi, hzz, hsize, hby⟩ := he.get
  have hmade : madeCells #[z] k = (List.replicate k z).toArray := by
    apply Array.ext'
    refine List.ext_getElem (by simp [madeCells]) fun j h1 h2 => ?_
    have h3 : j % 1 = 0 := Nat.mod_one j
    simp [madeCells, h3]
  refine RgS.spec (NewRowB base el k z) hd rfl hk [] hE (fun x w w' ⟨g, h, h1, h2⟩ hR => ⟨g, h, h1, (hR.2 g h1 h2.lt).trans h2⟩) (fun w5 L hL hbase hw5 => ?_) hr
  have hr := _root_.Go.run_make_row (P := P) t el i z ht.hu hi hzz hsize hz kl kc k (by rw [hby]; omega) (by omega) w5
  have hb6 : Below w5.heap.size w5 (w5.alloc (.cells (madeCells #[z] k) el)) := (Below.refl _ _).alloc (Nat.le_refl _) _
  refine WpL.run (w' := w5.alloc (.cells (madeCells #[z] k) el)) hd (by simp only [execOp, hx, hy, Sem.run_bind, hr]; rfl) ?_
  exact ⟨hb6, _, Env.set_same _ _ _, hbase, by rw [← hmade]; exact heap_alloc_new w5 _⟩
end

section
variable {P : Program} {n : Nat} {l : List Oper} {w w0 : World} {M : Nat → Prop} {LA : List Ch} {LB : Value → List Ch} {Q : Exit → Env → World → Prop} {e : Env}
/-- THE RULE: the s-th of N operations stores. -/
theorem Wp.drawAB (N s t0 : Nat) {id : Nat} (hS : St w0 M w LA) (hm : P.follows .mixedOrders = true) (hok : rgOk l N = true) (hN : Nat.ble N l.length = true) (hsk : storeOk l N s t0 = true)
    (h : RgS P n l.toArray w0 M LA LB w.heap.size t0 (fun Γ => ∀ e' w', IS w0 M (LB (e' t0)) w.heap.size w' → (∀ t, Γ t (e' t) w') → WpL P n l.toArray (Q .normal) (l.drop N) e' w') (l.take N) e []) :
    Wp P n (.region id l.toArray true) Q e w :=
  Wp.drawS N s t0 (IS w0 M LA w.heap.size) (fun x => IS w0 M (LB x) w.heap.size) (RB w.heap.size) hm hok (Nat.le_of_ble_eq_true hN) (fun w => RB.refl w) ⟨Nat.le_refl _, hS.drew⟩ hsk (h (by simp))
theorem RgS.fin0 {ops ops' : Array Oper} {K : Env → World → Prop} {tail : List Oper} {base t0 : Nat}
    (h : ∀ w, St w0 M w (LB (e t0)) → WpL P n ops' K tail e w) :
    RgS P n ops w0 M LA LB base t0 (fun Γ => ∀ e' w', IS w0 M (LB (e' t0)) base w' → (∀ t, Γ t (e' t) w') → WpL P n ops' K tail e' w') [] e [] := by
  intro hn e' w' hB hg
  have he : e = e' := funext fun t => (hg t).symm
  subst he
  exact h w' hB.2
theorem St.feet_lt {L : List Ch} (hS : St w0 M w L) : ∀ c ∈ L, ∀ g, c.foot = some g → g < w.heap.size := fun c hc g hg => (hS.hold c hc).1.lt hg
theorem RgS.finMk2 {ops ops' : Array Oper} {K : Env → World → Prop} {tail : List Oper} {base t0 k1 k2 : Nat} {el : TypeId} {z : Value} {t2 : Tmp} (hb : w0.heap.size ≤ base) (hLB : ∀ x, ∀ c ∈ LB x, ∀ g, c.foot = some g → g < base) (ht : t0 ≠ t2) (hne : k1 ≠ k2) (h1 : k1 ≤ maxLen) (h2 : k2 ≤ maxLen)
    (h : ∀ w' A1 A2, IsVw A1 k1 k1 A1 0 → IsVw A2 k2 k2 A2 0 → St w0 M w' (.own A1 k1 k1 el 1 (List.replicate k1 z) :: .own A2 k2 k2 el 1 (List.replicate k2 z) :: LB (.slice A1 k1 k1)) → WpL P n ops' K tail ((e.set t0 (.slice A1 k1 k1)).set t2 (.slice A2 k2 k2)) w') :
    RgS P n ops w0 M LA LB base t0 (fun Γ => ∀ e' w', IS w0 M (LB (e' t0)) base w' → (∀ t, Γ t (e' t) w') → WpL P n ops' K tail e' w') [] e [(t0, NewRowB base el k1 z), (t2, NewRowB base el k2 z)] := by
  intro hn e' w' hB hg
  obtain ⟨g1, hx1, hg1, hB1⟩ : NewRowB base el k1 z (e' t0) w' := by have := hg t0; simpa [gam] using this
  obtain ⟨g2, hx2, hg2, hB2⟩ : NewRowB base el k2 z (e' t2) w' := by have := hg t2; simpa [gam, ht.symm] using this
  have hrest : ∀ t, t ≠ t0 → t ≠ t2 → e' t = e t := fun t h3 h4 => by have := hg t; simpa [gam, h3, h4] using this
  have hgg : g1 ≠ g2 := fun e => by
    subst e
    have h5 : some (Obj.cells (List.replicate k1 z).toArray el (0, 0)) = some (Obj.cells (List.replicate k2 z).toArray el (0, 0)) := hB1.symm.trans hB2
    have h6 := congrArg List.length (congrArg Array.toList (Obj.cells.inj (Option.some.inj h5)).1)
    simp at h6
    exact hne h6
  have he : e' = (e.set t0 (.slice (some ⟨g1, 0, none⟩) k1 k1)).set t2 (.slice (some ⟨g2, 0, none⟩) k2 k2) := funext fun t => by
    by_cases h3 : t = t2
    · subst h3; rw [Env.set_same]; exact hx2
    · rw [Env.set_other _ _ h3]
      by_cases h4 : t = t0
      · subst h4; rw [Env.set_same]; exact hx1
      · rw [Env.set_other _ _ h4]; exact hrest t h4 h3
  rw [hx1] at hB
  rw [he]
  have hB' := hB.2
  refine h w' _ _ (IsVw.base (Nat.le_refl _) h1 (by simp)) (IsVw.base (Nat.le_refl _) h2 (by simp)) ⟨hB'.chg, fun c hc => ?_, ?_⟩
  · rcases List.mem_cons.1 hc with rfl | hc
    · exact ⟨⟨by simp, .inr ⟨g1, k1, _, rfl, Nat.zero_le _, hB1, Nat.le_refl _, h1, by simp, by simp⟩⟩, fun g hg => .inl (by simp [Ch.foot] at hg; omega)⟩
    rcases List.mem_cons.1 hc with rfl | hc
    · exact ⟨⟨by simp, .inr ⟨g2, k2, _, rfl, Nat.zero_le _, hB2, Nat.le_refl _, h2, by simp, by simp⟩⟩, fun g hg => .inl (by simp [Ch.foot] at hg; omega)⟩
    · exact hB'.hold c hc
  · refine List.pairwise_cons.2 ⟨fun c hc g hg hg' => ?_, List.pairwise_cons.2 ⟨fun c hc g hg hg' => ?_, hB'.apart⟩⟩
    · simp [Ch.foot] at hg
      rcases List.mem_cons.1 hc with rfl | hc
      · simp [Ch.foot] at hg'; omega
      · have := hLB _ c hc g hg'; omega
    · simp [Ch.foot] at hg
      have := hLB _ c hc g hg'; omega
end
end Go.Fk
