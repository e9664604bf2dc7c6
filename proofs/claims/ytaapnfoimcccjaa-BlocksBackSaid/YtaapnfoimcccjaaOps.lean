/-
  The operations' rules for the engine: 'Det' says what an operation yields in every world of a class; 'WpL.det' takes it in a
  list of operations, 'Rg.det' in a region that draws its order. They hold for any program; conditions stand at each theorem.
-/
import Derived.Test.YtaapnfoimcccjaaRg
import Derived.WalkKit
namespace Go.Fk

/-- In every world of the class the operation yields v and leaves the world as it is. -/
def Det (P : Program) (I : World → Prop) (o : Op) (ty : TypeId) (e : Env) (v : Value) : Prop :=
  ∀ (dst : Option Tmp) (pos : String) (after : Array Edge) (guard : Option (Nat × Bool)) (w : World), I w → (execOp e.eval ⟨dst, o, ty, pos, after, guard⟩).run P w = .ok (.value v) w

section
variable {P : Program} {n : Nat} {ops : Array Oper} {K : Env → World → Prop} {rest : List Oper} {e : Env} {w : World} {dst : Option Tmp} {ty : TypeId} {pos : String} {after : Array Edge}

theorem WpL.nil (h : K e w) : WpL P n ops K [] e w := h
theorem WpL.nilN {Q : Exit → Env → World → Prop} (h : Q .normal e w) : WpL P n ops (Q .normal) [] e w := h

theorem WpL.det {o : Op} {v : Value} {d : Tmp} (hd : dOk n (some d) = true) (hr : Det P (fun w' => w' = w) o ty e v) (h : WpL P n ops K rest (e.set d v) w) : WpL P n ops K (⟨some d, o, ty, pos, after, none⟩ :: rest) e w :=
  ⟨hd, by
    rw [if_pos (by rfl)]
    unfold OpW
    rw [hr _ _ _ _ w rfl]
    exact h⟩
/-- An operation whose value nobody wants. -/
theorem WpL.det0 {o : Op} {v : Value} (hr : Det P (fun w' => w' = w) o ty e v) (h : WpL P n ops K rest e w) : WpL P n ops K (⟨none, o, ty, pos, after, none⟩ :: rest) e w :=
  ⟨rfl, by
    rw [if_pos (by rfl)]
    unfold OpW
    rw [hr _ _ _ _ w rfl]
    exact h⟩

/-- A guarded operation whose guard holds. -/
theorem WpL.detG {o : Op} {v : Value} {j d d' : Nat} {b c : Bool} (hj : (ops[j]?).bind (·.dst) = some d) (he : e d = .bool c) (hc : c = b) (hd : dOk n (some d') = true)
    (hr : Det P (fun w' => w' = w) o ty e v) (h : WpL P n ops K rest (e.set d' v) w) : WpL P n ops K (⟨some d', o, ty, pos, after, some (j, b)⟩ :: rest) e w :=
  ⟨hd, by
    rw [if_pos (by simp [Region.wanted, yieldedE, hj, he, hc])]
    unfold OpW
    rw [hr _ _ _ _ w rfl]
    exact h⟩

/-- A guarded operation whose guard fails. -/
theorem WpL.skipG {o : Op} {j d d' : Nat} {b c : Bool} (hj : (ops[j]?).bind (·.dst) = some d) (he : e d = .bool c) (hc : c = !b) (hd : dOk n (some d') = true)
    (h : WpL P n ops K rest (e.set d' undef) w) : WpL P n ops K (⟨some d', o, ty, pos, after, some (j, b)⟩ :: rest) e w :=
  ⟨hd, by
    rw [if_neg (by simp [Region.wanted, yieldedE, hj, he, hc])]
    exact h⟩

/-- Any operation, its run at hand. -/
theorem WpL.run {o : Op} {v : Value} {w' : World} (hd : dOk n dst = true) (hr : (execOp e.eval ⟨dst, o, ty, pos, after, none⟩).run P w = .ok (.value v) w')
    (h : WpL P n ops K rest (e.setD dst v) w') : WpL P n ops K (⟨dst, o, ty, pos, after, none⟩ :: rest) e w :=
  ⟨hd, by
    rw [if_pos (by rfl)]
    unfold OpW
    rw [hr]
    exact h⟩
theorem WpL.runSkip {o : Op} {w' : World} (hd : dOk n dst = true) (hr : (execOp e.eval ⟨dst, o, ty, pos, after, none⟩).run P w = .ok .skip w')
    (h : WpL P n ops K rest (e.setD dst undef) w') : WpL P n ops K (⟨dst, o, ty, pos, after, none⟩ :: rest) e w :=
  ⟨hd, by
    rw [if_pos (by rfl)]
    unfold OpW
    rw [hr]
    exact h⟩

/-! ### Reading slots; the code's rules in a form that is met by its first sign -/
theorem Env.ev_tmp (e : Env) (t : Nat) : e.eval (.tmp t) = e t := rfl
theorem Env.ev_const (e : Env) (v : Value) : e.eval (.const v) = v := rfl
theorem Env.ev_global (e : Env) (g : Nat) : e.eval (.global g) = .pointer (some ⟨g, 0, none⟩) := rfl
theorem Env.ev_func (e : Env) (f : FuncId) : e.eval (.func f) = .func (.func f) #[] #[] := rfl
theorem Env.ap_set (e : Env) (d t : Nat) (v : Value) : (e.set d v) t = if t = d then v else e t := by
  by_cases h : t = d
  · subst h; rw [Env.set_same, if_pos rfl]
  · rw [Env.set_other e v h, if_neg h]
theorem Env.evt {e : Env} {t : Nat} {v : Value} (h : e t = v) : e.eval (.tmp t) = v := h
theorem Env.hit (e : Env) (d : Nat) (v : Value) : (e.set d v) d = v := Env.set_same e d v
theorem Env.miss {e : Env} {d t : Nat} {v u : Value} (h : Nat.beq t d = false) (h' : e t = u) : (e.set d v) t = u := by
  rw [Env.set_other e v (by intro he; subst he; rw [Nat.beq_refl] at h; cases h), h']
def undefE : Env := fun _ => undef
theorem Env.ap_undef (t : Nat) : undefE t = undef := rfl

theorem thenQ_normal {K : Env → World → Prop} {Q : Exit → Env → World → Prop} {e : Env} {w : World} (h : K e w) : thenQ K Q .normal e w := h
theorem thenQ_exit {K : Env → World → Prop} {Q : Exit → Env → World → Prop} {e : Env} {w : World} {i : Nat} (h : Q (.exit i) e w) : thenQ K Q (.exit i) e w := h
theorem thenQ_ret {K : Env → World → Prop} {Q : Exit → Env → World → Prop} {e : Env} {w : World} (h : Q .ret e w) : thenQ K Q .ret e w := h
theorem blockQ_normal {Q : Exit → Env → World → Prop} {e : Env} {w : World} {id : Nat} (h : Q .normal e w) : blockQ id Q .normal e w := h
theorem blockQ_ret {Q : Exit → Env → World → Prop} {e : Env} {w : World} {id : Nat} (h : Q .ret e w) : blockQ id Q .ret e w := h
theorem blockQ_same {Q : Exit → Env → World → Prop} {e : Env} {w : World} {id : Nat} (h : Q .normal e w) : blockQ id Q (.exit id) e w := by show (if id = id then Q .normal e w else Q (.exit id) e w); rw [if_pos rfl]; exact h
theorem blockQ_other {Q : Exit → Env → World → Prop} {e : Env} {w : World} {id id' : Nat} (hne : Nat.beq id' id = false) (h : Q (.exit id') e w) : blockQ id Q (.exit id') e w := by
  show (if id' = id then Q .normal e w else Q (.exit id') e w)
  rw [if_neg (by intro h'; subst h'; rw [Nat.beq_refl] at hne; cases hne)]; exact h
theorem doneQ_one {P : Program} {fn : Func} {R : Ending → World → Prop} {e : Env} {w : World} {t : Tmp} {v : Value} (hr : fn.results = #[.tmp t]) (hv : e t = v) (h : R (.returned v) w) : doneQ P fn R .ret e w :=
  ⟨_, resOf_one hr e w, by rw [hv]; exact h⟩
theorem doneQ_two {P : Program} {fn : Func} {R : Ending → World → Prop} {e : Env} {w : World} {t u : Tmp} {v v' : Value} (hr : fn.results = #[.tmp t, .tmp u]) (hv : e t = v) (hv' : e u = v') (h : R (.returned (.tuple #[v, v'])) w) : doneQ P fn R .ret e w :=
  ⟨_, resOf_two hr e w, by rw [hv, hv']; exact h⟩
theorem doneQ_three {P : Program} {fn : Func} {R : Ending → World → Prop} {e : Env} {w : World} {t u s : Tmp} {v v' v'' : Value} (hr : fn.results = #[.tmp t, .tmp u, .tmp s]) (hv : e t = v) (hv' : e u = v') (hv'' : e s = v'') (h : R (.returned (.tuple #[v, v', v''])) w) :
    doneQ P fn R .ret e w := ⟨_, resOf_three hr e w, by rw [hv, hv', hv'']; exact h⟩
theorem doneQ_none {P : Program} {fn : Func} {R : Ending → World → Prop} {e : Env} {w : World} (hr : fn.results = #[]) (h : R (.returned (.tuple #[])) w) : doneQ P fn R .ret e w := ⟨_, resOf_none hr e w, h⟩
theorem doneQ_end {P : Program} {fn : Func} {R : Ending → World → Prop} {e : Env} {w : World} (h : doneQ P fn R .ret e w) : doneQ P fn R .normal e w := h

/-! ### Calls of functions that have a body -/
theorem run_call {f : FuncId} {args : Array Operand} {argTypes : Array TypeId} {vs : Array Value} (h : ∀ args w, (callFunc f args).run P w = .ok (.enter f args) w) (ha : args.map e.eval = vs) (guard : Option (Nat × Bool)) (w : World) :
    (execOp e.eval ⟨dst, .call { callee := .value (.func f), args, argTypes }, ty, pos, after, guard⟩).run P w = .ok (.enter f vs) w := by
  simp [execOp, resolve, Deferred.ofValue, invoke, Env.eval, ha, h]

theorem WpL.callAny {f : FuncId} {d : Tmp} {args : Array Operand} {argTypes : Array TypeId} {vs : Array Value} (hd : dOk n (some d) = true) (hf : ∀ args w, (callFunc f args).run P w = .ok (.enter f args) w) (ha : args.map e.eval = vs)
    (h : Calls P f vs w fun x w'' => ∃ v, x = .returned v ∧ WpL P n ops K rest (e.set d v) w'') :
    WpL P n ops K (⟨some d, .call { callee := .value (.func f), args, argTypes }, ty, pos, after, none⟩ :: rest) e w :=
  ⟨hd, by
    rw [if_pos (by rfl)]
    unfold OpW
    rw [run_call hf ha]
    exact h⟩
theorem WpL.callAnyG {f : FuncId} {d' : Tmp} {args : Array Operand} {argTypes : Array TypeId} {vs : Array Value} {j d : Nat} {b c : Bool} (hj : (ops[j]?).bind (·.dst) = some d) (he : e d = .bool c) (hc : c = b)
    (hd : dOk n (some d') = true) (hf : ∀ args w, (callFunc f args).run P w = .ok (.enter f args) w) (ha : args.map e.eval = vs)
    (h : Calls P f vs w fun x w'' => ∃ v, x = .returned v ∧ WpL P n ops K rest (e.set d' v) w'') :
    WpL P n ops K (⟨some d', .call { callee := .value (.func f), args, argTypes }, ty, pos, after, some (j, b)⟩ :: rest) e w :=
  ⟨hd, by
    rw [if_pos (by simp [Region.wanted, yieldedE, hj, he, hc])]
    unfold OpW
    rw [run_call hf ha]
    exact h⟩
/-- The values of a list of operands. -/
def Vals (e : Env) : List Operand → List Value → Prop
  | [], [] => True
  | x :: r, v :: s => e.eval x = v ∧ Vals e r s
  | _, _ => False
theorem Vals.map {e : Env} : ∀ {l : List Operand} {s : List Value}, Vals e l s → l.map e.eval = s
  | [], [], _ => rfl
  | _ :: _, _ :: _, h => by rw [List.map_cons, h.1, Vals.map h.2]
theorem Vals.nil {e : Env} : Vals e [] [] := trivial
theorem Vals.cons {e : Env} {x : Operand} {v : Value} {l : List Operand} {s : List Value} (h : e.eval x = v) (hr : Vals e l s) : Vals e (x :: l) (v :: s) := ⟨h, hr⟩
theorem WpL.call {f : FuncId} {d : Tmp} {l : List Operand} {argTypes : Array TypeId} {vs : List Value} (hd : dOk n (some d) = true) (hf : ∀ args w, (callFunc f args).run P w = .ok (.enter f args) w) (ha : Vals e l vs)
    (h : Calls P f vs.toArray w fun x w'' => ∃ v, x = .returned v ∧ WpL P n ops K rest (e.set d v) w'') :
    WpL P n ops K (⟨some d, .call { callee := .value (.func f), args := l.toArray, argTypes }, ty, pos, after, none⟩ :: rest) e w :=
  WpL.callAny hd hf (by rw [List.map_toArray, ha.map]) h
theorem WpL.callG {f : FuncId} {d' : Tmp} {l : List Operand} {argTypes : Array TypeId} {vs : List Value} {j d : Nat} {b c : Bool} (hj : (ops[j]?).bind (·.dst) = some d) (he : e d = .bool c) (hc : c = b)
    (hd : dOk n (some d') = true) (hf : ∀ args w, (callFunc f args).run P w = .ok (.enter f args) w) (ha : Vals e l vs)
    (h : Calls P f vs.toArray w fun x w'' => ∃ v, x = .returned v ∧ WpL P n ops K rest (e.set d' v) w'') :
    WpL P n ops K (⟨some d', .call { callee := .value (.func f), args := l.toArray, argTypes }, ty, pos, after, some (j, b)⟩ :: rest) e w :=
  WpL.callAnyG hj he hc hd hf (by rw [List.map_toArray, ha.map]) h
end

/-! ### Which kind of operation is it? (Nothing is said: the walk asks by them.) -/
theorem Det.isBin {P : Program} {I : World → Prop} {ty : TypeId} {e : Env} {x y : Operand} {v : Value} {t t' : TypeId} {o : BinOp} (h : Det P I (.binOp o t x y t') ty e v) : Det P I (.binOp o t x y t') ty e v := h
theorem Det.isConv {P : Program} {I : World → Prop} {ty : TypeId} {e : Env} {x : Operand} {v : Value} {t t' : TypeId} (h : Det P I (.convert t t' x) ty e v) : Det P I (.convert t t' x) ty e v := h
theorem Det.isIndex {P : Program} {I : World → Prop} {ty : TypeId} {e : Env} {x y : Operand} {v : Value} {t : TypeId} (h : Det P I (.indexAddr t x y) ty e v) : Det P I (.indexAddr t x y) ty e v := h
theorem Det.isSlice {P : Program} {I : World → Prop} {ty : TypeId} {e : Env} {x : Operand} {v : Value} {t : TypeId} {l h m : Option Operand} (h' : Det P I (.slice t x l h m) ty e v) : Det P I (.slice t x l h m) ty e v := h'
theorem Det.isUn {P : Program} {I : World → Prop} {ty : TypeId} {e : Env} {x : Operand} {v : Value} {t : TypeId} {o : UnOp} (h : Det P I (.unOp o t x) ty e v) : Det P I (.unOp o t x) ty e v := h

/-! ### Operations that leave the world alone -/
section
variable {P : Program} {I : World → Prop} {ty : TypeId} {e : Env} {x y c : Operand} {v u : Value} {t t' : TypeId} {k : IntKind} {a b : Int}

theorem Det.move (hx : e.eval x = v) : Det P I (.move x) ty e v := fun _ _ _ _ _ _ => by simp [execOp, hx]
theorem Det.assign (hx : e.eval x = v) : Det P I (.assign x) ty e v := fun _ _ _ _ _ _ => by simp [execOp, hx]
theorem Det.pick {b : Bool} (hc : e.eval c = .bool b) (hv : (if b then e.eval x else e.eval y) = v) : Det P I (.pick c x y) ty e v := fun _ _ _ _ _ _ => by
  subst hv; cases b <;> simp [execOp, hc, asBool]
theorem Det.pickT {b : Bool} (hc : e.eval c = .bool b) (hb : b = true) (hv : e.eval x = v) : Det P I (.pick c x y) ty e v := .pick hc (by rw [if_pos hb]; exact hv)
theorem Det.pickF {b : Bool} (hc : e.eval c = .bool b) (hb : b = false) (hv : e.eval y = v) : Det P I (.pick c x y) ty e v := .pick hc (by rw [hb]; exact hv)
theorem Det.extract {l : List Value} {i : Nat} (hx : e.eval x = .tuple l.toArray) (hv : l[i]? = some v) : Det P I (.extract x i) ty e v := fun _ _ _ _ _ _ => by
  simp [execOp, hx, Instr.extract, hv]

/-! integers -/
theorem Det.intArith {op : BinOp} (hop : op = .add ∨ op = .sub ∨ op = .mul) (hx : e.eval x = .int k a) (hy : e.eval y = .int k b) :
    Det P I (.binOp op t x y t') ty e (.int k (k.wrap (match op with | .add => a + b | .sub => a - b | _ => a * b))) := fun _ _ _ _ _ _ => by
  rcases hop with rfl | rfl | rfl <;> simp [execOp, hx, hy, eqGuard, binOp, Op.intArith]

theorem Det.addW (hx : e.eval x = .int k a) (hy : e.eval y = .int k b) : Det P I (.binOp .add t x y t') ty e (.int k (k.wrap (a + b))) := Det.intArith (.inl rfl) hx hy
theorem Det.subW (hx : e.eval x = .int k a) (hy : e.eval y = .int k b) : Det P I (.binOp .sub t x y t') ty e (.int k (k.wrap (a - b))) := Det.intArith (.inr (.inl rfl)) hx hy
theorem Det.mulW (hx : e.eval x = .int k a) (hy : e.eval y = .int k b) : Det P I (.binOp .mul t x y t') ty e (.int k (k.wrap (a * b))) := Det.intArith (.inr (.inr rfl)) hx hy

theorem wrap_i64 {a : Int} (h1 : -9223372036854775808 ≤ a) (h2 : a ≤ 9223372036854775807) : IntKind.i64.wrap a = a := by
  rw [IntKind.wrap_i64]; omega
theorem wrap_u64 {a : Int} (h1 : 0 ≤ a) (h2 : a < 18446744073709551616) : IntKind.u64.wrap a = a := by
  simp only [IntKind.wrap, IntKind.bits, IntKind.signed]; simp; omega
theorem wrap_u32 {a : Int} (h1 : 0 ≤ a) (h2 : a < 4294967296) : IntKind.u32.wrap a = a := by rw [IntKind.wrap_u32']; omega
theorem wrap_u16 {a : Int} (h1 : 0 ≤ a) (h2 : a < 65536) : IntKind.u16.wrap a = a := by rw [IntKind.wrap_u16]; omega
theorem wrap_u8 {a : Int} (h1 : 0 ≤ a) (h2 : a < 256) : IntKind.u8.wrap a = a := by rw [IntKind.wrap_u8']; omega

theorem Det.add (hx : e.eval x = .int .i64 a) (hy : e.eval y = .int .i64 b) (h1 : -9223372036854775808 ≤ a + b) (h2 : a + b ≤ 9223372036854775807) :
    Det P I (.binOp .add t x y t') ty e (.int .i64 (a + b)) := by have := Det.addW (P := P) (I := I) (t := t) (t' := t') (ty := ty) hx hy; rwa [wrap_i64 h1 h2] at this
theorem Det.sub (hx : e.eval x = .int .i64 a) (hy : e.eval y = .int .i64 b) (h1 : -9223372036854775808 ≤ a - b) (h2 : a - b ≤ 9223372036854775807) :
    Det P I (.binOp .sub t x y t') ty e (.int .i64 (a - b)) := by have := Det.subW (P := P) (I := I) (t := t) (t' := t') (ty := ty) hx hy; rwa [wrap_i64 h1 h2] at this
theorem Det.mul (hx : e.eval x = .int .i64 a) (hy : e.eval y = .int .i64 b) (h1 : -9223372036854775808 ≤ a * b) (h2 : a * b ≤ 9223372036854775807) :
    Det P I (.binOp .mul t x y t') ty e (.int .i64 (a * b)) := by have := Det.mulW (P := P) (I := I) (t := t) (t' := t') (ty := ty) hx hy; rwa [wrap_i64 h1 h2] at this
theorem Det.addU64 (hx : e.eval x = .int .u64 a) (hy : e.eval y = .int .u64 b) (h1 : 0 ≤ a + b) (h2 : a + b < 18446744073709551616) :
    Det P I (.binOp .add t x y t') ty e (.int .u64 (a + b)) := by have := Det.addW (P := P) (I := I) (t := t) (t' := t') (ty := ty) hx hy; rwa [wrap_u64 h1 h2] at this
theorem Det.subU64 (hx : e.eval x = .int .u64 a) (hy : e.eval y = .int .u64 b) (h1 : 0 ≤ a - b) (h2 : a - b < 18446744073709551616) :
    Det P I (.binOp .sub t x y t') ty e (.int .u64 (a - b)) := by have := Det.subW (P := P) (I := I) (t := t) (t' := t') (ty := ty) hx hy; rwa [wrap_u64 h1 h2] at this
theorem Det.addU32 (hx : e.eval x = .int .u32 a) (hy : e.eval y = .int .u32 b) (h1 : 0 ≤ a + b) (h2 : a + b < 4294967296) :
    Det P I (.binOp .add t x y t') ty e (.int .u32 (a + b)) := by have := Det.addW (P := P) (I := I) (t := t) (t' := t') (ty := ty) hx hy; rwa [wrap_u32 h1 h2] at this
theorem Det.addU16 (hx : e.eval x = .int .u16 a) (hy : e.eval y = .int .u16 b) (h1 : 0 ≤ a + b) (h2 : a + b < 65536) :
    Det P I (.binOp .add t x y t') ty e (.int .u16 (a + b)) := by have := Det.addW (P := P) (I := I) (t := t) (t' := t') (ty := ty) hx hy; rwa [wrap_u16 h1 h2] at this

/-- Quotients and rests: of numbers that are not negative by such as are positive. -/
theorem Det.quoW (hx : e.eval x = .int k a) (hy : e.eval y = .int k b) (h0 : b ≠ 0) : Det P I (.binOp .quo t x y t') ty e (.int k (k.wrap (a.tdiv b))) := fun _ _ _ _ _ _ => by
  simp [execOp, hx, hy, eqGuard, binOp, Op.intDiv, h0]
theorem Det.remW (hx : e.eval x = .int k a) (hy : e.eval y = .int k b) (h0 : b ≠ 0) : Det P I (.binOp .rem t x y t') ty e (.int k (a.tmod b)) := fun _ _ _ _ _ _ => by
  simp [execOp, hx, hy, eqGuard, binOp, Op.intDiv, h0]
theorem Det.quo (hx : e.eval x = .int .i64 a) (hy : e.eval y = .int .i64 b) (h0 : 0 ≤ a) (h1 : a ≤ 9223372036854775807) (h2 : 0 < b) : Det P I (.binOp .quo t x y t') ty e (.int .i64 (a / b)) := by
  have := Det.quoW (P := P) (I := I) (t := t) (t' := t') (ty := ty) hx hy (by omega)
  have hq : a / b ≤ a := Int.ediv_le_self b h0
  have hq0 : 0 ≤ a / b := Int.ediv_nonneg h0 (by omega)
  rwa [Int.tdiv_eq_ediv_of_nonneg h0, wrap_i64 (by omega) (by omega)] at this
theorem Det.rem (hx : e.eval x = .int k a) (hy : e.eval y = .int k b) (h0 : 0 ≤ a) (h2 : 0 < b) : Det P I (.binOp .rem t x y t') ty e (.int k (a % b)) := by
  have := Det.remW (P := P) (I := I) (t := t) (t' := t') (ty := ty) hx hy (by omega)
  rwa [Int.tmod_eq_emod_of_nonneg h0] at this

/-- Bits. -/
theorem Det.bitsW {op : BinOp} (hop : op = .and ∨ op = .or ∨ op = .xor ∨ op = .andNot) (hx : e.eval x = .int k a) (hy : e.eval y = .int k b) :
    Det P I (.binOp op t x y t') ty e (.int k (k.wrap (match op with
      | .and => BitVec.ofInt k.bits a &&& BitVec.ofInt k.bits b
      | .or => BitVec.ofInt k.bits a ||| BitVec.ofInt k.bits b
      | .xor => BitVec.ofInt k.bits a ^^^ BitVec.ofInt k.bits b
      | _ => BitVec.ofInt k.bits a &&& ~~~BitVec.ofInt k.bits b : BitVec k.bits).toNat)) := fun _ _ _ _ _ _ => by
  rcases hop with rfl | rfl | rfl | rfl <;> simp [execOp, hx, hy, eqGuard, binOp, Op.intBits]

/-- How many numbers a kind without a sign has. -/
def lim : IntKind → Nat
  | .u8 => 256 | .u16 => 65536 | .u32 => 4294967296 | .u64 => 18446744073709551616 | .i64 => 9223372036854775808 | _ => 0

theorem ofInt_lim {k : IntKind} {m : Nat} (hm : m < lim k) : (BitVec.ofInt k.bits (m : Int)).toNat = m := by
  rw [BitVec.ofInt_natCast, BitVec.toNat_ofNat]
  refine Nat.mod_eq_of_lt ?_
  cases k <;> simp only [lim, IntKind.bits] at hm ⊢ <;> omega
theorem wrap_lim {k : IntKind} {m : Nat} (hm : m < lim k) : k.wrap (m : Int) = m := by
  cases k <;> simp only [lim] at hm
  all_goals first
    | (rw [wrap_u8] <;> omega)
    | (rw [wrap_u16] <;> omega)
    | (rw [wrap_u32] <;> omega)
    | (rw [wrap_u64] <;> omega)
    | (rw [wrap_i64] <;> omega)
    | omega
theorem lim_pow {k : IntKind} {m : Nat} (hm : m < lim k) : ∃ s, lim k = 2 ^ s := by
  cases k <;> simp only [lim] at hm ⊢
  all_goals first
    | exact ⟨8, rfl⟩
    | exact ⟨16, rfl⟩
    | exact ⟨32, rfl⟩
    | exact ⟨64, rfl⟩
    | exact ⟨63, rfl⟩
    | omega

theorem Det.and {p q : Nat} (hx : e.eval x = .int k (p : Int)) (hy : e.eval y = .int k (q : Int)) (hp : p < lim k) (hq : q < lim k) :
    Det P I (.binOp .and t x y t') ty e (.int k ((p &&& q : Nat) : Int)) := by
  have := Det.bitsW (P := P) (I := I) (t := t) (t' := t') (ty := ty) (.inl rfl) hx hy
  simp only [BitVec.toNat_and, ofInt_lim hp, ofInt_lim hq] at this
  rwa [wrap_lim (Nat.lt_of_le_of_lt Nat.and_le_left hp)] at this
theorem Det.or {p q : Nat} (hx : e.eval x = .int k (p : Int)) (hy : e.eval y = .int k (q : Int)) (hp : p < lim k) (hq : q < lim k) :
    Det P I (.binOp .or t x y t') ty e (.int k ((p ||| q : Nat) : Int)) := by
  have := Det.bitsW (P := P) (I := I) (t := t) (t' := t') (ty := ty) (.inr (.inl rfl)) hx hy
  simp only [BitVec.toNat_or, ofInt_lim hp, ofInt_lim hq] at this
  obtain ⟨s, hs⟩ := lim_pow hp
  rwa [wrap_lim (by rw [hs] at hp hq ⊢; exact Nat.or_lt_two_pow hp hq)] at this
theorem Det.xor {p q : Nat} (hx : e.eval x = .int k (p : Int)) (hy : e.eval y = .int k (q : Int)) (hp : p < lim k) (hq : q < lim k) :
    Det P I (.binOp .xor t x y t') ty e (.int k ((p ^^^ q : Nat) : Int)) := by
  have := Det.bitsW (P := P) (I := I) (t := t) (t' := t') (ty := ty) (.inr (.inr (.inl rfl))) hx hy
  simp only [BitVec.toNat_xor, ofInt_lim hp, ofInt_lim hq] at this
  obtain ⟨s, hs⟩ := lim_pow hp
  rwa [wrap_lim (by rw [hs] at hp hq ⊢; exact Nat.xor_lt_two_pow hp hq)] at this

/-- Shifts. -/
theorem Det.shlW {k' : IntKind} (hx : e.eval x = .int k a) (hy : e.eval y = .int k' b) (hb : 0 ≤ b) :
    Det P I (.binOp .shl t x y t') ty e (.int k (k.wrap (a * 2 ^ (min b.toNat k.bits)))) := fun _ _ _ _ _ _ => by
  have hb' : ¬ b < 0 := by omega
  simp [execOp, hx, hy, eqGuard, binOp, Op.shift, hb']
theorem Det.shrW {k' : IntKind} (hx : e.eval x = .int k a) (hy : e.eval y = .int k' b) (hb : 0 ≤ b) :
    Det P I (.binOp .shr t x y t') ty e (.int k (a.fdiv (2 ^ (min b.toNat k.bits)))) := fun _ _ _ _ _ _ => by
  have hb' : ¬ b < 0 := by omega
  simp [execOp, hx, hy, eqGuard, binOp, Op.shift, hb']
/-- Of a number without a sign. -/
theorem Det.shr {k' : IntKind} {p q : Nat} (hx : e.eval x = .int k (p : Int)) (hy : e.eval y = .int k' (q : Int)) (hq : q ≤ k.bits) :
    Det P I (.binOp .shr t x y t') ty e (.int k ((p >>> q : Nat) : Int)) := by
  have := Det.shrW (P := P) (I := I) (t := t) (t' := t') (ty := ty) hx hy (by omega)
  have e1 : (p : Int).fdiv (2 ^ (min ((q : Int)).toNat k.bits)) = ((p >>> q : Nat) : Int) := by
    rw [Int.toNat_natCast, Nat.min_eq_left hq, Nat.shiftRight_eq_div_pow, Int.fdiv_eq_ediv_of_nonneg _ (by exact Int.le_of_lt (Int.pow_pos (by decide)))]
    norm_cast
  rwa [e1] at this
theorem Det.shl {k' : IntKind} {p q : Nat} (hx : e.eval x = .int k (p : Int)) (hy : e.eval y = .int k' (q : Int)) (hq : q ≤ k.bits) (hr : p <<< q < lim k) :
    Det P I (.binOp .shl t x y t') ty e (.int k ((p <<< q : Nat) : Int)) := by
  have := Det.shlW (P := P) (I := I) (t := t) (t' := t') (ty := ty) hx hy (by omega)
  have e1 : (p : Int) * 2 ^ (min ((q : Int)).toNat k.bits) = ((p <<< q : Nat) : Int) := by
    rw [Int.toNat_natCast, Nat.min_eq_left hq, Nat.shiftLeft_eq]; norm_cast
  rwa [e1, wrap_lim hr] at this

/-- The same, the numbers first brought to natural ones. -/
theorem Det.andN {p q : Nat} (hx : e.eval x = .int k a) (ha : a = (p : Int)) (hy : e.eval y = .int k b) (hb : b = (q : Int)) (hp : p < lim k) (hq : q < lim k) :
    Det P I (.binOp .and t x y t') ty e (.int k ((p &&& q : Nat) : Int)) := Det.and (ha ▸ hx) (hb ▸ hy) hp hq
theorem Det.orN {p q : Nat} (hx : e.eval x = .int k a) (ha : a = (p : Int)) (hy : e.eval y = .int k b) (hb : b = (q : Int)) (hp : p < lim k) (hq : q < lim k) :
    Det P I (.binOp .or t x y t') ty e (.int k ((p ||| q : Nat) : Int)) := Det.or (ha ▸ hx) (hb ▸ hy) hp hq
theorem Det.xorN {p q : Nat} (hx : e.eval x = .int k a) (ha : a = (p : Int)) (hy : e.eval y = .int k b) (hb : b = (q : Int)) (hp : p < lim k) (hq : q < lim k) :
    Det P I (.binOp .xor t x y t') ty e (.int k ((p ^^^ q : Nat) : Int)) := Det.xor (ha ▸ hx) (hb ▸ hy) hp hq
theorem Det.shrN {k' : IntKind} {p q : Nat} (hx : e.eval x = .int k a) (ha : a = (p : Int)) (hy : e.eval y = .int k' b) (hb : b = (q : Int)) (hq : q ≤ k.bits) :
    Det P I (.binOp .shr t x y t') ty e (.int k ((p >>> q : Nat) : Int)) := Det.shr (ha ▸ hx) (hb ▸ hy) hq
theorem Det.shlN {k' : IntKind} {p q : Nat} (hx : e.eval x = .int k a) (ha : a = (p : Int)) (hy : e.eval y = .int k' b) (hb : b = (q : Int)) (hq : q ≤ k.bits) (hr : p <<< q < lim k) :
    Det P I (.binOp .shl t x y t') ty e (.int k ((p <<< q : Nat) : Int)) := Det.shl (ha ▸ hx) (hb ▸ hy) hq hr
theorem Det.addN {p q : Nat} (hx : e.eval x = .int k a) (ha : a = (p : Int)) (hy : e.eval y = .int k b) (hb : b = (q : Int)) (hr : p + q < lim k) :
    Det P I (.binOp .add t x y t') ty e (.int k ((p + q : Nat) : Int)) := by
  subst ha hb
  have := Det.addW (P := P) (I := I) (t := t) (t' := t') (ty := ty) hx hy
  rwa [← Int.natCast_add, wrap_lim hr] at this
theorem Det.mulN {p q : Nat} (hx : e.eval x = .int k a) (ha : a = (p : Int)) (hy : e.eval y = .int k b) (hb : b = (q : Int)) (hr : p * q < lim k) :
    Det P I (.binOp .mul t x y t') ty e (.int k ((p * q : Nat) : Int)) := by
  subst ha hb
  have := Det.mulW (P := P) (I := I) (t := t) (t' := t') (ty := ty) hx hy
  rwa [← Int.natCast_mul, wrap_lim hr] at this
theorem Det.quoN {p q : Nat} (hx : e.eval x = .int k a) (ha : a = (p : Int)) (hy : e.eval y = .int k b) (hb : b = (q : Int)) (hq : 0 < q) (hp : p < lim k) :
    Det P I (.binOp .quo t x y t') ty e (.int k ((p / q : Nat) : Int)) := by
  subst ha hb
  have := Det.quoW (P := P) (I := I) (t := t) (t' := t') (ty := ty) hx hy (by omega)
  rw [Int.tdiv_eq_ediv_of_nonneg (by omega), ← Int.natCast_ediv, wrap_lim (Nat.lt_of_le_of_lt (Nat.div_le_self _ _) hp)] at this
  exact this
theorem Det.remN {p q : Nat} (hx : e.eval x = .int k a) (ha : a = (p : Int)) (hy : e.eval y = .int k b) (hb : b = (q : Int)) (hq : 0 < q) :
    Det P I (.binOp .rem t x y t') ty e (.int k ((p % q : Nat) : Int)) := by
  subst ha hb
  have := Det.remW (P := P) (I := I) (t := t) (t' := t') (ty := ty) hx hy (by omega)
  rwa [Int.tmod_eq_emod_of_nonneg (by omega), ← Int.natCast_emod] at this

/-- Comparisons. -/
theorem Det.lss (hx : e.eval x = .int k a) (hy : e.eval y = .int k b) : Det P I (.binOp .lss t x y t') ty e (.bool (decide (a < b))) := fun _ _ _ _ _ _ => by
  simp [execOp, hx, hy, eqGuard, binOp, Op.intCmp]
theorem Det.leq (hx : e.eval x = .int k a) (hy : e.eval y = .int k b) : Det P I (.binOp .leq t x y t') ty e (.bool (decide (a ≤ b))) := fun _ _ _ _ _ _ => by
  simp [execOp, hx, hy, eqGuard, binOp, Op.intCmp]
theorem Det.gtr (hx : e.eval x = .int k a) (hy : e.eval y = .int k b) : Det P I (.binOp .gtr t x y t') ty e (.bool (decide (b < a))) := fun _ _ _ _ _ _ => by
  simp [execOp, hx, hy, eqGuard, binOp, Op.intCmp]
theorem Det.geq (hx : e.eval x = .int k a) (hy : e.eval y = .int k b) : Det P I (.binOp .geq t x y t') ty e (.bool (decide (b ≤ a))) := fun _ _ _ _ _ _ => by
  simp [execOp, hx, hy, eqGuard, binOp, Op.intCmp]
theorem Det.eql (hx : e.eval x = .int k a) (hy : e.eval y = .int k b) : Det P I (.binOp .eql t x y t') ty e (.bool (decide (a = b))) := fun _ _ _ _ _ _ => by
  simp [execOp, hx, hy, eqGuard, binOp, Op.intCmp]; exact Bool.eq_iff_iff.2 (by simp)
theorem Det.neq (hx : e.eval x = .int k a) (hy : e.eval y = .int k b) : Det P I (.binOp .neq t x y t') ty e (.bool (decide (a ≠ b))) := fun _ _ _ _ _ _ => by
  simp [execOp, hx, hy, eqGuard, binOp, Op.intCmp]; exact Bool.eq_iff_iff.2 (by simp)

/-- Strings: as lists of bytes. -/
theorem Det.eqlStr {s r : List UInt8} (hx : e.eval x = .string ⟨s.toArray⟩) (hy : e.eval y = .string ⟨r.toArray⟩) : Det P I (.binOp .eql t x y t') ty e (.bool (decide (s = r))) := fun _ _ _ _ _ _ => by
  simp only [execOp, hx, hy, eqGuard, binOp, Op.stringOp, ByteArray.toList_eq]
  exact congrArg (fun b => Result.ok (Next.value (Value.bool b)) _) (Bool.eq_iff_iff.2 (by simp))
theorem Det.neqStr {s r : List UInt8} (hx : e.eval x = .string ⟨s.toArray⟩) (hy : e.eval y = .string ⟨r.toArray⟩) : Det P I (.binOp .neq t x y t') ty e (.bool (decide (s ≠ r))) := fun _ _ _ _ _ _ => by
  simp only [execOp, hx, hy, eqGuard, binOp, Op.stringOp, ByteArray.toList_eq]
  exact congrArg (fun b => Result.ok (Next.value (Value.bool b)) _) (Bool.eq_iff_iff.2 (by simp))

/-- One operand. -/
theorem Det.not {b : Bool} (hx : e.eval x = .bool b) : Det P I (.unOp .not t x) ty e (.bool (!b)) := fun _ _ _ _ _ _ => by simp [execOp, hx, Op.unary]
theorem Det.negW (hx : e.eval x = .int k a) : Det P I (.unOp .neg t x) ty e (.int k (k.wrap (0 - a))) := fun _ _ _ _ _ _ => by simp [execOp, hx, Op.unary, Op.intArith]
theorem Det.neg (hx : e.eval x = .int .i64 a) (h1 : -9223372036854775807 ≤ a) (h2 : a ≤ 9223372036854775808) : Det P I (.unOp .neg t x) ty e (.int .i64 (-a)) := by
  have := Det.negW (P := P) (I := I) (t := t) (ty := ty) hx
  rwa [wrap_i64 (by omega) (by omega), Int.zero_sub] at this

theorem Det.compl {p : Nat} (hx : e.eval x = .int k (p : Int)) (hk : k.signed = false) (hp : p < lim k) : Det P I (.unOp .xor t x) ty e (.int k (((lim k - 1) ^^^ p : Nat) : Int)) := fun _ _ _ _ _ _ => by
  have h1 : k.max = ((lim k - 1 : Nat) : Int) := by cases k <;> first | (simp [IntKind.signed] at hk; done) | decide
  have h2 : lim k - 1 < lim k := by omega
  have h3 : (lim k - 1) ^^^ p < lim k := by
    obtain ⟨s, hs⟩ := lim_pow hp
    rw [hs] at hp h2 ⊢; exact Nat.xor_lt_two_pow h2 hp
  simp only [execOp, hx, Op.unary, hk, Bool.false_eq_true, if_false, Op.intBits, h1, BitVec.toNat_xor, ofInt_lim h2, ofInt_lim hp, wrap_lim h3]
  simp

theorem Det.complU32 {p : Nat} (hx : e.eval x = .int .u32 a) (ha : a = (p : Int)) (hp : p < 4294967296) : Det P I (.unOp .xor t x) ty e (.int .u32 ((4294967295 ^^^ p : Nat) : Int)) := Det.compl (ha ▸ hx) rfl hp

/-- Conversions. -/
theorem Det.convW {src dst : TypeId} {k' : IntKind} {d : TypeDesc} (hs : P.underlying src = some d) (hd : P.underlying dst = some (.int k')) (hx : e.eval x = .int k a) :
    Det P I (.convert src dst x) ty e (.int k' (k'.wrap a)) := fun _ _ _ _ w _ => by
  simp only [execOp, hx, convert, Sem.run_bind, run_underlying hs, run_underlying hd, Result.andThen_ok]
  cases d <;> simp [Conv.intToInt]
end

/-- The arguments as slots. -/
def argE : List Value → Nat → Env
  | [], _ => undefE
  | v :: r, k => (argE r (k + 1)).set k v
theorem argE_at : ∀ (l : List Value) (k t : Nat), argE l k t = if t < k then undef else l.getD (t - k) undef
  | [], k, t => by simp [argE, undefE]
  | v :: r, k, t => by
    unfold argE
    rw [Env.ap_set, argE_at r (k + 1) t]
    by_cases h1 : t = k
    · subst h1; simp
    · rw [if_neg h1]
      by_cases h2 : t < k
      · rw [if_pos (by omega), if_pos h2]
      · rw [if_neg (by omega), if_neg h2, show t - k = (t - (k + 1)) + 1 by omega]
        simp
theorem initE_eq (l : List Value) : initE l = argE l 0 := by
  funext t
  rw [argE_at]
  simp [initE]
/-- A call's beginning. -/
theorem calls_of {P : Program} {f : FuncId} {fn : Func} {c : Code} {args : List Value} {w : World} {R : Ending → World → Prop} (n : Nat)
    (hf : P.funcs[f]? = some fn) (hb : fn.body = some c) (hn : fn.ntmps = n) (hargs : args.length ≤ n)
    (h : Wp P n c (doneQ P fn R) (argE args 0) w) : Calls P f args.toArray w R := calls_intro hf hb hn hargs (by rw [initE_eq]; exact h)

end Go.Fk
