/-
  An engine for walks: the frame's temporaries as a function ('Env'), a weakest precondition 'Wp' over it, and a rule for
  regions that draw their order: each operation is shown once, in the order of the text, against every world that the others may leave.
  It holds for any program; conditions stand at each theorem.
-/
import Derived.Calls
import Derived.Orders
import Derived.Tactics
namespace Go.Fk

abbrev Env := Nat → Value

def Env.set (e : Env) (d : Nat) (v : Value) : Env := fun t => cond (Nat.beq t d) v (e t)
def Env.setD (e : Env) (d : Option Nat) (v : Value) : Env := match d with | some d => e.set d v | none => e
def Env.eval (e : Env) : Operand → Value
  | .tmp t => e t
  | .const v => v
  | .global g => .pointer (some ⟨g, 0, none⟩)
  | .func f => .func (.func f) #[] #[]

theorem Env.set_same (e : Env) (d : Nat) (v : Value) : e.set d v d = v := by simp [Env.set]
theorem Env.set_other (e : Env) {d t : Nat} (v : Value) (h : t ≠ d) : e.set d v t = e t := by
  unfold Env.set
  cases hb : Nat.beq t d with
  | true => exact absurd (Nat.eq_of_beq_eq_true hb) h
  | false => rfl
theorem Env.set_self {e : Env} {d : Nat} {v : Value} (h : e d = v) : e.set d v = e := by
  funext t
  by_cases ht : t = d
  · subst ht; rw [Env.set_same, h]
  · exact Env.set_other e v ht

/-- Some slots' values. -/
def Env.Has (e : Env) : List (Nat × Value) → Prop
  | [] => True
  | (d, v) :: r => e d = v ∧ e.Has r
def Env.sets (e : Env) : List (Nat × Value) → Env
  | [] => e
  | (d, v) :: r => (e.sets r).set d v
theorem Env.Has.sets {e : Env} : ∀ {l : List (Nat × Value)}, e.Has l → e.sets l = e
  | [], _ => rfl
  | (_, _) :: _, h => by
    unfold Env.sets
    rw [Env.Has.sets h.2]
    exact Env.set_self h.1
theorem Env.Has.eq {e : Env} {l : List (Nat × Value)} (h : e.Has l) : ∃ e0 : Env, e = e0.sets l := ⟨e, h.sets.symm⟩

/-- The frame of n temporaries is the function e. -/
def Rep (n : Nat) (a : Act) (e : Env) : Prop := a.defers = [] ∧ a.tmps.size = n ∧ ∀ t, a.tmps.getD t undef = e t

def dOk (n : Nat) : Option Nat → Bool
  | some d => Nat.blt d n
  | none => true

theorem Rep.eval {n : Nat} {a : Act} {e : Env} (h : Rep n a e) : a.eval = e.eval := by
  funext x
  cases x with
  | tmp t => exact h.2.2 t
  | _ => rfl

theorem Rep.put {n : Nat} {a : Act} {e : Env} (h : Rep n a e) {d : Option Nat} (hd : dOk n d = true) (v : Value) : Rep n (a.put d v) (e.setD d v) := by
  cases d with
  | none => exact h
  | some d =>
    obtain ⟨h1, h2, h3⟩ := h
    have hlt : d < n := by simpa [dOk, Nat.blt_eq] using hd
    refine ⟨h1, by simp [Act.put, h2], fun t => ?_⟩
    by_cases ht : t = d
    · subst ht
      simp only [Act.put, Env.setD, Env.set_same]
      simp [h2, hlt]
    · simp only [Act.put, Env.setD]
      rw [Env.set_other e v ht, ← h3 t]
      simp [Array.getD_eq_getD_getElem?, Array.getElem?_setIfInBounds_ne (Ne.symm ht)]

def yieldedE (ops : Array Oper) (e : Env) (j : Nat) : Option Bool :=
  match (ops[j]?).bind (·.dst) with
  | some d => (match e d with | .bool b => some b | _ => none)
  | none => none

theorem Rep.yielded {n : Nat} {a : Act} {e : Env} (h : Rep n a e) (ops : Array Oper) : yielded ops a.tmps = yieldedE ops e := by
  funext j
  unfold Go.yielded yieldedE
  cases hj : (ops[j]?).bind (·.dst) with
  | none => rfl
  | some d =>
    have h3 := h.2.2 d
    simp only [Option.bind_some]
    rw [Array.getD_eq_getD_getElem?] at h3
    cases hd : a.tmps[d]? with
    | none =>
      rw [hd] at h3
      simp only [Option.getD_none] at h3
      rw [← h3]
      rfl
    | some v =>
      rw [hd] at h3
      simp only [Option.getD_some] at h3
      rw [← h3]
      cases v <;> rfl

section
variable (P : Program) (n : Nat)

def Wp (c : Code) (Q : Exit → Env → World → Prop) (e : Env) (w : World) : Prop :=
  ∀ a, Rep n a e → c.wp P (fun x a' w' => ∃ e', Rep n a' e' ∧ Q x e' w') a w

/-- What an operation hands on. -/
def OpW (o : Oper) (e : Env) (w : World) (next : Env → World → Prop) : Prop :=
  match (execOp e.eval o).run P w with
  | .ok (.value v) w' => next (e.setD o.dst v) w'
  | .ok .skip w' => next (e.setD o.dst undef) w'
  | .ok (.enter f args) w' => Calls P f args w' fun x w'' => ∃ v, x = .returned v ∧ next (e.setD o.dst v) w''
  | .ok (.row row args) w' => Rows P row args w' fun v w'' => next (e.setD o.dst v) w''
  | _ => False

/-- A list of operations, one behind the other. -/
def WpL (ops : Array Oper) (K : Env → World → Prop) : List Oper → Env → World → Prop
  | [], e, w => K e w
  | o :: rest, e, w => dOk n o.dst = true ∧
    if Region.wanted o (yieldedE ops e) then OpW P o e w (WpL ops K rest) else WpL ops K rest (e.setD o.dst undef) w
end

section
variable {P : Program} {n : Nat}

theorem OpW.wp {o : Oper} {e : Env} {w : World} {next : Env → World → Prop} {a : Act} {K : Act → World → Prop} {Q : Exit → Act → World → Prop}
    (h : OpW P o e w next) (ha : Rep n a e) (hd : dOk n o.dst = true) (hk : ∀ a e w, Rep n a e → next e w → K a w) : o.wp P a w K Q := by
  unfold OpW at h
  unfold Oper.wp
  rw [ha.eval]
  generalize (execOp e.eval o).run P w = r at h ⊢
  cases r with
  | halt x w' => exact h.elim
  | ok x w' =>
    cases x <;> simp only at h <;> simp only [Oper.upon]
    case value v => exact hk _ _ _ (ha.put hd v) h
    case skip => exact hk _ _ _ (ha.put hd _) h
    case enter f args =>
      refine h.mono fun x w'' hx => ?_
      obtain ⟨v, rfl, hx⟩ := hx
      exact hk _ _ _ (ha.put hd v) hx
    case row row args => exact h.mono fun v w'' hx => hk _ _ _ (ha.put hd v) hx

theorem WpL.wpList {ops : Array Oper} {K : Env → World → Prop} {Q : Exit → Act → World → Prop} (hq : ∀ a e w, Rep n a e → K e w → Q .normal a w) :
    ∀ (l : List Oper) (e : Env) (w : World) (a : Act), Rep n a e → WpL P n ops K l e w → wpList P ops Q l a w
  | [], e, w, a, ha, h => hq a e w ha h
  | o :: rest, e, w, a, ha, h => by
    obtain ⟨hd, h⟩ := h
    unfold Go.wpList
    rw [ha.yielded]
    by_cases hw : Region.wanted o (yieldedE ops e) = true
    · rw [if_pos hw] at h ⊢
      exact .inl (h.wp ha hd fun a e w ha h => WpL.wpList hq rest e w a ha h)
    · rw [if_neg hw] at h ⊢
      exact WpL.wpList hq rest _ _ _ (ha.put hd _) h

/-! ### Code -/
def thenQ (K : Env → World → Prop) (Q : Exit → Env → World → Prop) : Exit → Env → World → Prop
  | .normal, e, w => K e w
  | x, e, w => Q x e w
def blockQ (id : Nat) (Q : Exit → Env → World → Prop) : Exit → Env → World → Prop
  | .exit id', e, w => if id' = id then Q .normal e w else Q (.exit id') e w
  | x, e, w => Q x e w

variable {Q : Exit → Env → World → Prop} {e : Env} {w : World}

theorem Wp.mono {c : Code} {Q' : Exit → Env → World → Prop} (h : Wp P n c Q e w) (hq : ∀ x e w, Q x e w → Q' x e w) : Wp P n c Q' e w :=
  fun a ha => wp_mono (h a ha) fun x _ _ ⟨e', h1, h2⟩ => ⟨e', h1, hq _ _ _ h2⟩

theorem Wp.seq {x y : Code} (h : Wp P n x (thenQ (Wp P n y Q) Q) e w) : Wp P n (.seq x y) Q e w := fun a ha =>
  wp_seq (wp_mono (h a ha) fun x a' _ ⟨e', h1, h2⟩ => by
    cases x with
    | normal => exact h2 a' h1
    | _ => exact ⟨e', h1, h2⟩)

theorem Wp.skip (h : Q .normal e w) : Wp P n .skip Q e w := fun _ ha => wp_skip ⟨e, ha, h⟩
theorem Wp.ret (h : Q .ret e w) : Wp P n .ret Q e w := fun _ ha => wp_ret ⟨e, ha, h⟩
theorem Wp.exit {id : Nat} (h : Q (.exit id) e w) : Wp P n (.exit id) Q e w := fun _ ha => wp_exit ⟨e, ha, h⟩

theorem Wp.cond {c : Operand} {x y : Code} (t : Bool) (hc : e.eval c = .bool t) (ht : t = true → Wp P n x Q e w) (hf : t = false → Wp P n y Q e w) :
    Wp P n (.cond c x y) Q e w := fun a ha =>
  wp_cond_split (t := t) (by rw [ha.eval, hc]) (fun h => ht h a ha) (fun h => hf h a ha)
theorem Wp.condT {c : Operand} {x y : Code} {t : Bool} (hc : e.eval c = .bool t) (h : t = true) (ht : Wp P n x Q e w) : Wp P n (.cond c x y) Q e w :=
  .cond t hc (fun _ => ht) (fun hf => by rw [h] at hf; cases hf)
theorem Wp.condF {c : Operand} {x y : Code} {t : Bool} (hc : e.eval c = .bool t) (h : t = false) (ht : Wp P n y Q e w) : Wp P n (.cond c x y) Q e w :=
  .cond t hc (fun hf => by rw [h] at hf; cases hf) (fun _ => ht)

theorem Wp.block {id : Nat} {c : Code} (h : Wp P n c (blockQ id Q) e w) : Wp P n (.block id c) Q e w := fun a ha =>
  wp_block (wp_mono (h a ha) fun x a' w' ⟨e', h1, h2⟩ => by
    cases x with
    | exit id' =>
      simp only [blockQ] at h2
      simp only [Exit.inBlock]
      by_cases hid : id' = id
      · rw [if_pos hid] at h2 ⊢; exact ⟨e', h1, h2⟩
      · rw [if_neg hid] at h2 ⊢; exact ⟨e', h1, h2⟩
    | _ => exact ⟨e', h1, h2⟩)

theorem Wp.loop {c : Code} (I : Env → World → Prop) (μ : Env → World → Nat) (h0 : I e w)
    (round : ∀ e w, I e w → Wp P n c (thenQ (fun e' w' => I e' w' ∧ μ e' w' < μ e w) Q) e w) : Wp P n (.loop c) Q e w := by
  intro a ha
  -- the measure hangs on the env: carried by the frame itself
  let env : Act → Env := fun a t => a.tmps.getD t undef
  have henv : ∀ a e, Rep n a e → env a = e := fun a e h => funext fun t => h.2.2 t
  refine wp_loop (fun a' w' => Rep n a' (env a') ∧ I (env a') w') (fun a' w' => μ (env a') w') ?_ ?_
  · rw [henv a e ha]; exact ⟨ha, h0⟩
  · intro a' w' ⟨h1, h2⟩
    refine wp_mono (round _ _ h2 a' h1) fun x a'' w'' ⟨e', h3, h4⟩ => ?_
    cases x with
    | normal =>
      simp only [Exit.then]
      rw [henv _ _ h3]
      exact ⟨⟨h3, h4.1⟩, h4.2⟩
    | _ => exact ⟨e', h3, h4⟩

theorem Wp.region {id : Nat} {l : List Oper} (h : WpL P n l.toArray (Q .normal) l e w) : Wp P n (.region id l.toArray false) Q e w := fun a ha =>
  wp_region_lit (WpL.wpList (fun _ e _ ha hk => ⟨e, ha, hk⟩) l e w a ha h)

/-! ### A call's beginning and end -/
def resOf (P : Program) (fn : Func) (e : Env) (w : World) (v : Value) : Prop :=
  ∀ tmps : Array Value, (∀ t, tmps.getD t undef = e t) → (results fn tmps).run P w = .ok v w

def doneQ (P : Program) (fn : Func) (R : Ending → World → Prop) : Exit → Env → World → Prop
  | .normal, e, w | .ret, e, w => ∃ v, resOf P fn e w v ∧ R (.returned v) w
  | _, _, _ => False

def initE (args : List Value) : Env := fun t => args.getD t undef

theorem calls_intro {f : FuncId} {fn : Func} {c : Code} {args : List Value} {w : World} {R : Ending → World → Prop}
    (hf : P.funcs[f]? = some fn) (hb : fn.body = some c) (hn : fn.ntmps = n) (hargs : args.length ≤ n)
    (h : Wp P n c (doneQ P fn R) (initE args) w) : Calls P f args.toArray w R := by
  have ha : Rep n { tmps := args.toArray ++ Array.replicate (fn.ntmps - args.toArray.size) undef, defers := [] } (initE args) := by
    refine ⟨rfl, by simp [hn]; omega, fun t => ?_⟩
    simp only [Array.getD_eq_getD_getElem?, initE, List.getD_eq_getElem?_getD]
    by_cases ht : t < args.length
    · rw [Array.getElem?_append_left (by simpa using ht)]; simp
    · rw [Array.getElem?_append_right (by simpa using Nat.le_of_not_lt ht), List.getElem?_eq_none (Nat.le_of_not_lt ht)]
      simp only [Array.getElem?_replicate]
      split <;> rfl
  refine calls_of_wp hf hb (wp_mono (h _ ha) fun x a' w' ⟨e', h1, h2⟩ => ?_)
  cases x with
  | normal => obtain ⟨v, h3, h4⟩ := h2; exact ⟨h1.1, v, h3 _ h1.2.2, h4⟩
  | ret => obtain ⟨v, h3, h4⟩ := h2; exact ⟨h1.1, v, h3 _ h1.2.2, h4⟩
  | _ => exact h2.elim

theorem resOf_one {fn : Func} {t : Tmp} (h : fn.results = #[.tmp t]) (e : Env) (w : World) : resOf P fn e w (e t) := fun tmps ht => by
  rw [← ht t]; exact results_tmp h tmps P w
theorem resOf_two {fn : Func} {t u : Tmp} (h : fn.results = #[.tmp t, .tmp u]) (e : Env) (w : World) : resOf P fn e w (.tuple #[e t, e u]) := fun tmps ht => by
  rw [← ht t, ← ht u]; exact results_tmp2 h tmps P w
theorem resOf_none {fn : Func} (h : fn.results = #[]) (e : Env) (w : World) : resOf P fn e w (.tuple #[]) := fun tmps _ => results_none h tmps P w
theorem resOf_three {fn : Func} {t u v : Tmp} (h : fn.results = #[.tmp t, .tmp u, .tmp v]) (e : Env) (w : World) : resOf P fn e w (.tuple #[e t, e u, e v]) := fun tmps ht => by
  rw [← ht t, ← ht u, ← ht v]; simp [results, h]

end
end Go.Fk
