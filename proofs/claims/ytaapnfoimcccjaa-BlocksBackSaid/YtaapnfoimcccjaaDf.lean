/-
  Functions that defer calls: the frame's deferred calls stand beside the env. It holds for any program; conditions stand at each theorem.
-/
import Derived.Test.YtaapnfoimcccjaaStD
import Derived.Defers
namespace Go.Fk
open Go.RowKit

def RepD (ds : List Deferred) (n : Nat) (a : Act) (e : Env) : Prop := a.defers = ds ∧ a.tmps.size = n ∧ ∀ t, a.tmps.getD t undef = e t
section
variable {ds : List Deferred} {n : Nat} {a : Act} {e : Env}
theorem RepD.eval (h : RepD ds n a e) : a.eval = e.eval := by
  funext x
  cases x with
  | tmp t => exact h.2.2 t
  | _ => rfl
theorem RepD.put (h : RepD ds n a e) {d : Option Nat} (hd : dOk n d = true) (v : Value) : RepD ds n (a.put d v) (e.setD d v) := by
  have h0 : Rep n { a with defers := [] } e := ⟨rfl, h.2.1, h.2.2⟩
  have h1 := h0.put hd v
  cases d with
  | none => exact h
  | some d => exact ⟨h.1, h1.2.1, h1.2.2⟩
theorem RepD.yielded (h : RepD ds n a e) (ops : Array Oper) : yielded ops a.tmps = yieldedE ops e :=
  Rep.yielded (a := { a with defers := [] }) ⟨rfl, h.2.1, h.2.2⟩ ops
end

section
variable {P : Program} {n : Nat} {ds : List Deferred}
theorem OpW.wpD {o : Oper} {e : Env} {w : World} {next : Env → World → Prop} {a : Act} {K : Act → World → Prop} {Q : Exit → Act → World → Prop}
    (h : OpW P o e w next) (ha : RepD ds n a e) (hd : dOk n o.dst = true) (hk : ∀ a e w, RepD ds n a e → next e w → K a w) : o.wp P a w K Q := by
  unfold OpW at h
  unfold Oper.wp
  rw [ha.eval]
  generalize (execOp e.eval o).run P w = r at h ⊢
  cases r with
  | halt x w' => exact h.elim
  | ok x w' =>
    cases x <;> simp only at h <;> simp only [Oper.upon]
    case value v => exact hk _ _ _ (ha.put hd v) h
    case skip => exact hk _ _ _ (ha.put hd _) h
    case enter f args =>
      refine h.mono fun x w'' hx => ?_
      obtain ⟨v, rfl, hx⟩ := hx
      exact hk _ _ _ (ha.put hd v) hx
    case row row args => exact h.mono fun v w'' hx => hk _ _ _ (ha.put hd v) hx
theorem WpL.wpListD {ops : Array Oper} {K : Env → World → Prop} {Q : Exit → Act → World → Prop} {tail : List Oper} (hq : ∀ a e w, RepD ds n a e → K e w → Go.wpList P ops Q tail a w) :
    ∀ (l : List Oper) (e : Env) (w : World) (a : Act), RepD ds n a e → WpL P n ops K l e w → Go.wpList P ops Q (l ++ tail) a w
  | [], e, w, a, ha, h => hq a e w ha h
  | o :: rest, e, w, a, ha, h => by
    obtain ⟨hd, h⟩ := h
    rw [List.cons_append]
    unfold Go.wpList
    rw [ha.yielded]
    by_cases hw : Region.wanted o (yieldedE ops e) = true
    · rw [if_pos hw] at h ⊢
      exact .inl (h.wpD ha hd fun a e w ha h => WpL.wpListD hq rest e w a ha h)
    · rw [if_neg hw] at h ⊢
      exact WpL.wpListD hq rest _ _ _ (ha.put hd _) h
end

abbrev PostD := Exit → List Deferred → Env → World → Prop
def WpD (P : Program) (n : Nat) (ds : List Deferred) (c : Code) (Q : PostD) (e : Env) (w : World) : Prop :=
  ∀ a, RepD ds n a e → c.wp P (fun x a' w' => ∃ ds' e', RepD ds' n a' e' ∧ Q x ds' e' w') a w
def thenD (K : List Deferred → Env → World → Prop) (Q : PostD) : PostD
  | .normal, ds, e, w => K ds e w
  | x, ds, e, w => Q x ds e w
section
variable {P : Program} {n : Nat} {ds : List Deferred} {Q : PostD} {e : Env} {w : World}
theorem WpD.seq {x y : Code} (h : WpD P n ds x (thenD (fun ds e w => WpD P n ds y Q e w) Q) e w) : WpD P n ds (.seq x y) Q e w := fun a ha =>
  wp_seq (wp_mono (h a ha) fun x a' _ ⟨ds', e', h1, h2⟩ => by
    cases x with
    | normal => exact h2 a' h1
    | _ => exact ⟨ds', e', h1, h2⟩)
theorem WpD.skip (h : Q .normal ds e w) : WpD P n ds .skip Q e w := fun _ ha => wp_skip ⟨ds, e, ha, h⟩
theorem WpD.ret (h : Q .ret ds e w) : WpD P n ds .ret Q e w := fun _ ha => wp_ret ⟨ds, e, ha, h⟩
theorem WpD.condT {c : Operand} {x y : Code} {t : Bool} (hc : e.eval c = .bool t) (ht : t = true) (h : WpD P n ds x Q e w) : WpD P n ds (.cond c x y) Q e w := fun a ha =>
  wp_cond_split (t := t) (by rw [ha.eval, hc]) (fun _ => h a ha) (fun hf => by rw [ht] at hf; cases hf)
theorem WpD.condF {c : Operand} {x y : Code} {t : Bool} (hc : e.eval c = .bool t) (ht : t = false) (h : WpD P n ds y Q e w) : WpD P n ds (.cond c x y) Q e w := fun a ha =>
  wp_cond_split (t := t) (by rw [ha.eval, hc]) (fun hf => by rw [ht] at hf; cases hf) (fun _ => h a ha)
theorem WpD.region {l : List Oper} {id : Nat} (h : WpL P n l.toArray (fun e w => Q .normal ds e w) l e w) : WpD P n ds (.region id l.toArray false) Q e w := fun a ha => by
  refine wp_region_lit ?_
  have := WpL.wpListD (tail := []) (Q := fun x a' w' => ∃ ds' e', RepD ds' n a' e' ∧ Q x ds' e' w') (fun a e w ha hk => ⟨ds, e, ha, hk⟩) l e w a ha h
  rwa [List.append_nil] at this
/-- The last operation defers a call. -/
theorem WpD.regionD {l pre : List Oper} {o : Oper} {id : Nat} (hl : l = pre ++ [o]) (hg : o.guard = none) (hdst : o.dst = none)
    (h : WpL P n l.toArray (fun e w => ∃ d, (execOp e.eval o).run P w = .ok (.defer d) w ∧ Q .normal (d :: ds) e w) pre e w) : WpD P n ds (.region id l.toArray false) Q e w := fun a ha => by
  refine wp_region_lit ?_
  have := WpL.wpListD (tail := [o]) (Q := fun x a' w' => ∃ ds' e', RepD ds' n a' e' ∧ Q x ds' e' w') (fun a e w ha ⟨d, h1, h2⟩ => by
    unfold Go.wpList
    have hw : Region.wanted o (yielded l.toArray a.tmps) = true := by simp [Region.wanted, hg]
    rw [if_pos hw]
    refine .inl ?_
    unfold Oper.wp
    rw [ha.eval, h1]
    simp only [Oper.upon, hdst, Act.put]
    unfold Go.wpList
    exact ⟨d :: ds, e, ⟨by rw [← ha.1], ha.2.1, ha.2.2⟩, h2⟩) pre e w a ha h
  rwa [← hl] at this
end

/-! ### A call's beginning and end -/
def leaveQ (P : Program) (fn : Func) (R : Ending → World → Prop) : PostD
  | .normal, ds, _, w | .ret, ds, _, w => ∀ tmps, Leaves P fn tmps R ds .returning w
  | _, _, _, _ => False
theorem rep_init {n : Nat} {fn : Func} {args : List Value} (hn : fn.ntmps = n) (hargs : args.length ≤ n) : Rep n { tmps := args.toArray ++ Array.replicate (fn.ntmps - args.toArray.size) undef, defers := [] } (argE args 0) := by
  rw [← initE_eq]
  refine ⟨rfl, by simp [hn]; omega, fun t => ?_⟩
  simp only [Array.getD_eq_getD_getElem?, initE, List.getD_eq_getElem?_getD]
  by_cases ht : t < args.length
  · rw [Array.getElem?_append_left (by simpa using ht)]; simp
  · rw [Array.getElem?_append_right (by simpa using Nat.le_of_not_lt ht), List.getElem?_eq_none (Nat.le_of_not_lt ht)]
    simp only [Array.getElem?_replicate]
    split <;> rfl
theorem calls_ofD {P : Program} {f : FuncId} {fn : Func} {c : Code} {args : List Value} {w : World} {R : Ending → World → Prop} (n : Nat)
    (hf : P.funcs[f]? = some fn) (hb : fn.body = some c) (hn : fn.ntmps = n) (hargs : args.length ≤ n)
    (h : WpD P n [] c (leaveQ P fn R) (argE args 0) w) : Calls P f args.toArray w R := by
  refine calls_of_wp_defers hf hb (wp_mono (h _ (rep_init hn hargs)) fun x a' w' ⟨ds', e', h1, h2⟩ => ?_)
  cases x with
  | normal => have h3 := h2 a'.tmps; rw [← h1.1] at h3; exact h3
  | ret => have h3 := h2 a'.tmps; rw [← h1.1] at h3; exact h3
  | _ => exact h2.elim
/-- A function entered as a deferred call. -/
theorem callsD_of {P : Program} {f : FuncId} {fn : Func} {c : Code} {args : List Value} {u : FrameMode} {w : World} {R : Ending → World → Prop} (n : Nat)
    (hf : P.funcs[f]? = some fn) (hb : fn.body = some c) (hn : fn.ntmps = n) (hargs : args.length ≤ n)
    (h : Wp P n c (doneQ P fn R) (argE args 0) w) : CallsD P f args.toArray u w fun e u' w' => u' = u ∧ R e w' := by
  refine callsD_of_wp hf hb (wp_mono (h _ (rep_init hn hargs)) fun x a' w' ⟨e', h1, h2⟩ => ?_)
  cases x with
  | normal => obtain ⟨v, h3, h4⟩ := h2; exact ⟨h1.1, v, h3 _ h1.2.2, h4⟩
  | ret => obtain ⟨v, h3, h4⟩ := h2; exact ⟨h1.1, v, h3 _ h1.2.2, h4⟩
  | _ => exact h2.elim
theorem settle_returning : settle .returning = .returning := rfl
/-- The function's code, as it is reached: one walk for both ways in. -/
theorem leaves_call {P : Program} {fn : Func} {tmps : Array Value} {R R' : Ending → World → Prop} {fv : Fn} {cap dargs : Array Value} {ds : List Deferred} {w : World} {f : FuncId} {args : Array Value}
    (hi : (invoke (.fn fv cap) dargs).run P w = .ok (.enter f args) w) (hc : CallsD P f args .returning w fun e u' w' => u' = .returning ∧ R' e w')
    (h : ∀ e w', R' e w' → (∃ v, e = .returned v) ∧ Leaves P fn tmps R ds .returning w') : Leaves P fn tmps R ({ target := .fn fv cap, args := dargs } :: ds) .returning w := by
  refine leaves_cons (by simp) hi (hc.mono ?_)
  rintro e u' w' ⟨rfl, hr⟩
  obtain ⟨⟨v, rfl⟩, h2⟩ := h e w' hr
  exact h2
/-- A function without a body. -/
theorem WpL.ext1 {P : Program} {N : Nat} {ops : Array Oper} {K : Env → World → Prop} {rest : List Oper} {e : Env} {w w' : World} {ty : TypeId} {pos : String} {after : Array Edge} {d : Tmp} {v : Value} {f : FuncId} {l : List Operand} {argTypes : Array TypeId} {vs : List Value} (hd : dOk N (some d) = true) (ha : Vals e l vs) (hr : (callFunc f vs.toArray).run P w = .ok (.value v) w')
    (h : WpL P N ops K rest (e.set d v) w') : WpL P N ops K (⟨some d, .call { callee := .value (.func f), args := l.toArray, argTypes }, ty, pos, after, none⟩ :: rest) e w :=
  WpL.run hd (w' := w') (by simp [execOp, resolve, Deferred.ofValue, invoke, Env.eval, List.map_toArray, ha.map, hr]) h
/-- A method as a value, called. -/
theorem WpL.callM {P : Program} {N : Nat} {ops : Array Oper} {K : Env → World → Prop} {rest : List Oper} {e : Env} {w : World} {ty : TypeId} {pos : String} {after : Array Edge} {d : Tmp} {f : FuncId} {first : List Value} {u : Operand} {argTypes : Array TypeId} (hd : dOk N (some d) = true) (hu : e.eval u = .func (.func f) first.toArray #[]) (hf : ∀ args w, (callFunc f args).run P w = .ok (.enter f args) w)
    (h : Calls P f first.toArray w fun x w'' => ∃ v, x = .returned v ∧ WpL P N ops K rest (e.set d v) w'') :
    WpL P N ops K (⟨some d, .call { callee := .value u, args := #[], argTypes }, ty, pos, after, none⟩ :: rest) e w :=
  ⟨hd, by
    rw [if_pos (by rfl)]
    unfold OpW
    have : (execOp e.eval ⟨some d, .call { callee := .value u, args := #[], argTypes }, ty, pos, after, none⟩).run P w = .ok (.enter f first.toArray) w := by
      simp [execOp, resolve, Deferred.ofValue, invoke, hu, hf]
    rw [this]
    exact h⟩
end Go.Fk
