/-
  Parts of a proof: An engine for walks: the frame's temporaries as a function ('Env'), a weakest precondition 'Wp' over it, and a rule for regions that draw their order: each operation is shown once, in the order of the text, against every world that the others may leave. It holds for any program; conditions stand at each theorem; A rule for a region that draws its order: each operation is shown once, in the order of the text, against every world that the others may leave; a tail of operations that is forced to come last is walked in order. It holds for any program; The operations' rules for the engine: 'Det' says what an operation yields in every world of a class; 'WpL.det' takes it in a list of operations, 'Rg.det' in a region that draws its order. They hold for any program; conditions stand at each theorem; Memory for the engine: what is read through an address ('At', 'Rd'); slices that the call itself has made ('Sl'); the rules of loads, indexes, slice expressions, append, make, copy. They hold for any program; conditions stand at each theorem; More rules for the engine: a variable's fields, composite literals, guards that hold. They hold for any program; conditions stand at each theorem.
-/
import Derived.Calls
import Derived.Orders
import Derived.Tactics
import Derived.WalkKit
import Derived.OwnWalk
import Derived.Below
import Derived.Deep.MidRow
set_option linter.unusedVariables false
namespace Go.Fk

abbrev Env := Nat → Value

def Env.set (e : Env) (d : Nat) (v : Value) : Env := fun t => cond (Nat.beq t d) v (e t)
def Env.setD (e : Env) (d : Option Nat) (v : Value) : Env := match d with | some d => e.set d v | none => e
def Env.eval (e : Env) : Operand → Value
  | .tmp t => e t
  | .const v => v
  | .global g => .pointer (some ⟨g, 0, none⟩)
  | .func f => .func (.func f) #[] #[]

theorem Env.set_same (e : Env) (d : Nat) (v : Value) : e.set d v d = v := by simp [Env.set]
theorem Env.set_other (e : Env) {d t : Nat} (v : Value) (h : t ≠ d) : e.set d v t = e t := by
  unfold Env.set
  cases hb : Nat.beq t d with
  | true => exact absurd (Nat.eq_of_beq_eq_true hb) h
  | false => rfl
theorem Env.set_self {e : Env} {d : Nat} {v : Value} (h : e d = v) : e.set d v = e := by
  funext t
  by_cases ht : t = d
  · subst ht; rw [Env.set_same, h]
  · exact Env.set_other e v ht

/-- Some slots' values. -/
def Env.Has (e : Env) : List (Nat × Value) → Prop
  | [] => True
  | (d, v) :: r => e d = v ∧ e.Has r
def Env.sets (e : Env) : List (Nat × Value) → Env
  | [] => e
  | (d, v) :: r => (e.sets r).set d v
theorem Env.Has.sets {e : Env} : ∀ {l : List (Nat × Value)}, e.Has l → e.sets l = e
  | [], _ => rfl
  | (_, _) :: _, h => by
    unfold Env.sets
    rw [Env.Has.sets h.2]
    exact Env.set_self h.1
theorem Env.Has.eq {e : Env} {l : List (Nat × Value)} (h : e.Has l) : ∃ e0 : Env, e = e0.sets l := ⟨e, h.sets.symm⟩

/-- The frame of n temporaries is the function e. -/
def Rep (n : Nat) (a : Act) (e : Env) : Prop := a.defers = [] ∧ a.tmps.size = n ∧ ∀ t, a.tmps.getD t undef = e t

def dOk (n : Nat) : Option Nat → Bool
  | some d => Nat.blt d n
  | none => true

theorem Rep.eval {n : Nat} {a : Act} {e : Env} (h : Rep n a e) : a.eval = e.eval := by
  funext x
  cases x with
  | tmp t => exact h.2.2 t
  | _ => rfl

theorem Rep.put {n : Nat} {a : Act} {e : Env} (h : Rep n a e) {d : Option Nat} (hd : dOk n d = true) (v : Value) : Rep n (a.put d v) (e.setD d v) := by
  cases d with
  | none => exact h
  | some d =>
    obtain ⟨h1, h2, h3⟩ := h
    have hlt : d < n := by simpa [dOk, Nat.blt_eq] using hd
    refine ⟨h1, by simp [Act.put, h2], fun t => ?_⟩
    by_cases ht : t = d
    · subst ht
      simp only [Act.put, Env.setD, Env.set_same]
      simp [h2, hlt]
    · simp only [Act.put, Env.setD]
      rw [Env.set_other e v ht, ← h3 t]
      simp [Array.getD_eq_getD_getElem?, Array.getElem?_setIfInBounds_ne (Ne.symm ht)]

def yieldedE (ops : Array Oper) (e : Env) (j : Nat) : Option Bool :=
  match (ops[j]?).bind (·.dst) with
  | some d => (match e d with | .bool b => some b | _ => none)
  | none => none

theorem Rep.yielded {n : Nat} {a : Act} {e : Env} (h : Rep n a e) (ops : Array Oper) : yielded ops a.tmps = yieldedE ops e := by
  funext j
  unfold Go.yielded yieldedE
  cases hj : (ops[j]?).bind (·.dst) with
  | none => rfl
  | some d =>
    have h3 := h.2.2 d
    simp only [Option.bind_some]
    rw [Array.getD_eq_getD_getElem?] at h3
    cases hd : a.tmps[d]? with
    | none =>
      rw [hd] at h3
      simp only [Option.getD_none] at h3
      rw [← h3]
      rfl
    | some v =>
      rw [hd] at h3
      simp only [Option.getD_some] at h3
      rw [← h3]
      cases v <;> rfl

section
variable (P : Program) (n : Nat)

def Wp (c : Code) (Q : Exit → Env → World → Prop) (e : Env) (w : World) : Prop :=
  ∀ a, Rep n a e → c.wp P (fun x a' w' => ∃ e', Rep n a' e' ∧ Q x e' w') a w

/-- What an operation hands on. -/
def OpW (o : Oper) (e : Env) (w : World) (next : Env → World → Prop) : Prop :=
  match (execOp e.eval o).run P w with
  | .ok (.value v) w' => next (e.setD o.dst v) w'
  | .ok .skip w' => next (e.setD o.dst undef) w'
  | .ok (.enter f args) w' => Calls P f args w' fun x w'' => ∃ v, x = .returned v ∧ next (e.setD o.dst v) w''
  | .ok (.row row args) w' => Rows P row args w' fun v w'' => next (e.setD o.dst v) w''
  | _ => False

/-- A list of operations, one behind the other. -/
def WpL (ops : Array Oper) (K : Env → World → Prop) : List Oper → Env → World → Prop
  | [], e, w => K e w
  | o :: rest, e, w => dOk n o.dst = true ∧
    if Region.wanted o (yieldedE ops e) then OpW P o e w (WpL ops K rest) else WpL ops K rest (e.setD o.dst undef) w
end

section
variable {P : Program} {n : Nat}

theorem OpW.wp {o : Oper} {e : Env} {w : World} {next : Env → World → Prop} {a : Act} {K : Act → World → Prop} {Q : Exit → Act → World → Prop}
    (h : OpW P o e w next) (ha : Rep n a e) (hd : dOk n o.dst = true) (hk : ∀ a e w, Rep n a e → next e w → K a w) : o.wp P a w K Q := by
  unfold OpW at h
  unfold Oper.wp
  rw [ha.eval]
  generalize (execOp e.eval o).run P w = r at h ⊢
  cases r with
  | halt x w' => exact h.elim
  | ok x w' =>
    cases x <;> simp only at h <;> simp only [Oper.upon]
    case value v => exact hk _ _ _ (ha.put hd v) h
    case skip => exact hk _ _ _ (ha.put hd _) h
    case enter f args =>
      refine h.mono fun x w'' hx => ?_
      obtain ⟨v, rfl, hx⟩ := hx
      exact hk _ _ _ (ha.put hd v) hx
    case row row args => exact h.mono fun v w'' hx => hk _ _ _ (ha.put hd v) hx

theorem WpL.wpList {ops : Array Oper} {K : Env → World → Prop} {Q : Exit → Act → World → Prop} (hq : ∀ a e w, Rep n a e → K e w → Q .normal a w) :
    ∀ (l : List Oper) (e : Env) (w : World) (a : Act), Rep n a e → WpL P n ops K l e w → wpList P ops Q l a w
  | [], e, w, a, ha, h => hq a e w ha h
  | o :: rest, e, w, a, ha, h => by
    obtain ⟨hd, h⟩ := h
    unfold Go.wpList
    rw [ha.yielded]
    by_cases hw : Region.wanted o (yieldedE ops e) = true
    · rw [if_pos hw] at h ⊢
      exact .inl (h.wp ha hd fun a e w ha h => WpL.wpList hq rest e w a ha h)
    · rw [if_neg hw] at h ⊢
      exact WpL.wpList hq rest _ _ _ (ha.put hd _) h

/-! ### Code -/
def thenQ (K : Env → World → Prop) (Q : Exit → Env → World → Prop) : Exit → Env → World → Prop
  | .normal, e, w => K e w
  | x, e, w => Q x e w
def blockQ (id : Nat) (Q : Exit → Env → World → Prop) : Exit → Env → World → Prop
  | .exit id', e, w => if id' = id then Q .normal e w else Q (.exit id') e w
  | x, e, w => Q x e w

variable {Q : Exit → Env → World → Prop} {e : Env} {w : World}

theorem Wp.mono {c : Code} {Q' : Exit → Env → World → Prop} (h : Wp P n c Q e w) (hq : ∀ x e w, Q x e w → Q' x e w) : Wp P n c Q' e w :=
  fun a ha => wp_mono (h a ha) fun x _ _ ⟨e', h1, h2⟩ => ⟨e', h1, hq _ _ _ h2⟩

theorem Wp.seq {x y : Code} (h : Wp P n x (thenQ (Wp P n y Q) Q) e w) : Wp P n (.seq x y) Q e w := fun a ha =>
  wp_seq (wp_mono (h a ha) fun x a' _ ⟨e', h1, h2⟩ => by
    cases x with
    | normal => exact h2 a' h1
    | _ => exact ⟨e', h1, h2⟩)

theorem Wp.skip (h : Q .normal e w) : Wp P n .skip Q e w := fun _ ha => wp_skip ⟨e, ha, h⟩
theorem Wp.ret (h : Q .ret e w) : Wp P n .ret Q e w := fun _ ha => wp_ret ⟨e, ha, h⟩
theorem Wp.exit {id : Nat} (h : Q (.exit id) e w) : Wp P n (.exit id) Q e w := fun _ ha => wp_exit ⟨e, ha, h⟩

theorem Wp.cond {c : Operand} {x y : Code} (t : Bool) (hc : e.eval c = .bool t) (ht : t = true → Wp P n x Q e w) (hf : t = false → Wp P n y Q e w) :
    Wp P n (.cond c x y) Q e w := fun a ha =>
  wp_cond_split (t := t) (by rw [ha.eval, hc]) (fun h => ht h a ha) (fun h => hf h a ha)
theorem Wp.condT {c : Operand} {x y : Code} {t : Bool} (hc : e.eval c = .bool t) (h : t = true) (ht : Wp P n x Q e w) : Wp P n (.cond c x y) Q e w :=
  .cond t hc (fun _ => ht) (fun hf => by rw [h] at hf; cases hf)
theorem Wp.condF {c : Operand} {x y : Code} {t : Bool} (hc : e.eval c = .bool t) (h : t = false) (ht : Wp P n y Q e w) : Wp P n (.cond c x y) Q e w :=
  .cond t hc (fun hf => by rw [h] at hf; cases hf) (fun _ => ht)

theorem Wp.block {id : Nat} {c : Code} (h : Wp P n c (blockQ id Q) e w) : Wp P n (.block id c) Q e w := fun a ha =>
  wp_block (wp_mono (h a ha) fun x a' w' ⟨e', h1, h2⟩ => by
    cases x with
    | exit id' =>
      simp only [blockQ] at h2
      simp only [Exit.inBlock]
      by_cases hid : id' = id
      · rw [if_pos hid] at h2 ⊢; exact ⟨e', h1, h2⟩
      · rw [if_neg hid] at h2 ⊢; exact ⟨e', h1, h2⟩
    | _ => exact ⟨e', h1, h2⟩)

theorem Wp.loop {c : Code} (I : Env → World → Prop) (μ : Env → World → Nat) (h0 : I e w)
    (round : ∀ e w, I e w → Wp P n c (thenQ (fun e' w' => I e' w' ∧ μ e' w' < μ e w) Q) e w) : Wp P n (.loop c) Q e w := by
  intro a ha
  -- the measure hangs on the env: carried by the frame itself
  let env : Act → Env := fun a t => a.tmps.getD t undef
  have henv : ∀ a e, Rep n a e → env a = e := fun a e h => funext fun t => h.2.2 t
  refine wp_loop (fun a' w' => Rep n a' (env a') ∧ I (env a') w') (fun a' w' => μ (env a') w') ?_ ?_
  · rw [henv a e ha]; exact ⟨ha, h0⟩
  · intro a' w' ⟨h1, h2⟩
    refine wp_mono (round _ _ h2 a' h1) fun x a'' w'' ⟨e', h3, h4⟩ => ?_
    cases x with
    | normal =>
      simp only [Exit.then]
      rw [henv _ _ h3]
      exact ⟨⟨h3, h4.1⟩, h4.2⟩
    | _ => exact ⟨e', h3, h4⟩

theorem Wp.region {id : Nat} {l : List Oper} (h : WpL P n l.toArray (Q .normal) l e w) : Wp P n (.region id l.toArray false) Q e w := fun a ha =>
  wp_region_lit (WpL.wpList (fun _ e _ ha hk => ⟨e, ha, hk⟩) l e w a ha h)

/-! ### A call's beginning and end -/
def resOf (P : Program) (fn : Func) (e : Env) (w : World) (v : Value) : Prop :=
  ∀ tmps : Array Value, (∀ t, tmps.getD t undef = e t) → (results fn tmps).run P w = .ok v w

def doneQ (P : Program) (fn : Func) (R : Ending → World → Prop) : Exit → Env → World → Prop
  | .normal, e, w | .ret, e, w => ∃ v, resOf P fn e w v ∧ R (.returned v) w
  | _, _, _ => False

def initE (args : List Value) : Env := fun t => args.getD t undef

theorem calls_intro {f : FuncId} {fn : Func} {c : Code} {args : List Value} {w : World} {R : Ending → World → Prop}
    (hf : P.funcs[f]? = some fn) (hb : fn.body = some c) (hn : fn.ntmps = n) (hargs : args.length ≤ n)
    (h : Wp P n c (doneQ P fn R) (initE args) w) : Calls P f args.toArray w R := by
  have ha : Rep n { tmps := args.toArray ++ Array.replicate (fn.ntmps - args.toArray.size) undef, defers := [] } (initE args) := by
    refine ⟨rfl, by simp [hn]; omega, fun t => ?_⟩
    simp only [Array.getD_eq_getD_getElem?, initE, List.getD_eq_getElem?_getD]
    by_cases ht : t < args.length
    · rw [Array.getElem?_append_left (by simpa using ht)]; simp
    · rw [Array.getElem?_append_right (by simpa using Nat.le_of_not_lt ht), List.getElem?_eq_none (Nat.le_of_not_lt ht)]
      simp only [Array.getElem?_replicate]
      split <;> rfl
  refine calls_of_wp hf hb (wp_mono (h _ ha) fun x a' w' ⟨e', h1, h2⟩ => ?_)
  cases x with
  | normal => obtain ⟨v, h3, h4⟩ := h2; exact ⟨h1.1, v, h3 _ h1.2.2, h4⟩
  | ret => obtain ⟨v, h3, h4⟩ := h2; exact ⟨h1.1, v, h3 _ h1.2.2, h4⟩
  | _ => exact h2.elim

theorem resOf_one {fn : Func} {t : Tmp} (h : fn.results = #[.tmp t]) (e : Env) (w : World) : resOf P fn e w (e t) := fun tmps ht => by
  rw [← ht t]; exact results_tmp h tmps P w
theorem resOf_two {fn : Func} {t u : Tmp} (h : fn.results = #[.tmp t, .tmp u]) (e : Env) (w : World) : resOf P fn e w (.tuple #[e t, e u]) := fun tmps ht => by
  rw [← ht t, ← ht u]; exact results_tmp2 h tmps P w
theorem resOf_none {fn : Func} (h : fn.results = #[]) (e : Env) (w : World) : resOf P fn e w (.tuple #[]) := fun tmps _ => results_none h tmps P w
theorem resOf_three {fn : Func} {t u v : Tmp} (h : fn.results = #[.tmp t, .tmp u, .tmp v]) (e : Env) (w : World) : resOf P fn e w (.tuple #[e t, e u, e v]) := fun tmps ht => by
  rw [← ht t, ← ht u, ← ht v]; simp [results, h]

end
end Go.Fk

namespace Go.Fk

/-- What an operation looks at and writes. -/
def namesOf (ops : Array Oper) (o : Oper) : List Tmp := o.looksAt ops ++ o.dst.toList

/-- The operations ahead of which each one can't come: a set of bits each. -/
def befores : List Oper → List Nat → List Nat
  | [], bs => bs
  | o :: r, bs => befores r (bs ++ [o.after.toList.foldl (fun s e => if Region.binds .any e then s ||| 2 ^ e.on ||| bs.getD e.on 0 else s) 0])

def allB (n : Nat) (p : Nat → Bool) : Bool := (List.range n).all p

/-- Edges lead back; whoever touches a temporary that another writes is ordered to it as in the text; from N on all are ordered. -/
def rgOk (l : List Oper) (N : Nat) : Bool :=
  let ops := l.toArray
  let bs := befores l []
  let nm := l.map (namesOf ops)
  let ds := l.map (·.dst)
  (allB l.length fun i => (l.getD i default).after.toList.all fun e => !Region.binds .any e || Nat.blt e.on i) &&
  (allB l.length fun i => allB l.length fun j =>
    i == j || !((nm.getD i []).any fun t => (ds.getD j none) == some t) || (bs.getD (max i j) 0).testBit (min i j)) &&
  (allB l.length fun i => Nat.blt i N || allB i fun j => (bs.getD i 0).testBit j)

section
variable {l : List Oper}

/-- All that L says of the direct predecessors of i it says of j: for each L that is shut under going back. -/
def Bef (l : List Oper) (i j : Nat) : Prop :=
  ∀ L : Nat → Prop, (∀ k o e, l[k]? = some o → e ∈ o.after.toList → Region.binds .any e = true → L k → L e.on) →
    (∀ o e, l[i]? = some o → e ∈ o.after.toList → Region.binds .any e = true → L e.on) → L j

theorem Bef.of_listed {i j : Nat} (h : Bef l i j) {L : Nat → Prop} (hL : ∀ k o e, l[k]? = some o → e ∈ o.after.toList → Region.binds .any e = true → L k → L e.on) (hi : L i) : L j :=
  h L hL fun o e ho he hb => hL i o e ho he hb hi

theorem testBit_foldl (es : List Edge) (bs : List Nat) (j : Nat) : ∀ s : Nat,
    (es.foldl (fun s e => if Region.binds .any e then s ||| 2 ^ e.on ||| bs.getD e.on 0 else s) s).testBit j = true →
    s.testBit j = true ∨ ∃ e ∈ es, Region.binds .any e = true ∧ (e.on = j ∨ (bs.getD e.on 0).testBit j = true) := by
  induction es with
  | nil => intro s h; exact .inl h
  | cons e es ih =>
    intro s h
    rw [List.foldl_cons] at h
    rcases ih _ h with h | ⟨e', he', hb, h⟩
    · by_cases hb : Region.binds .any e = true
      · rw [if_pos hb] at h
        simp only [Nat.testBit_or, Bool.or_eq_true, Nat.testBit_two_pow, decide_eq_true_eq] at h
        rcases h with (h | h) | h
        · exact .inl h
        · exact .inr ⟨e, List.mem_cons_self, hb, .inl h⟩
        · exact .inr ⟨e, List.mem_cons_self, hb, .inr h⟩
      · rw [if_neg hb] at h; exact .inl h
    · exact .inr ⟨e', List.mem_cons_of_mem _ he', hb, h⟩

theorem befores_spec : ∀ (r : List Oper) (bs : List Nat) (k : Nat), bs.length = k → (∀ j, r[j]? = l[k + j]?) →
    (∀ i j, i < k → (bs.getD i 0).testBit j = true → Bef l i j) →
    (∀ i j, ((befores r bs).getD i 0).testBit j = true → Bef l i j)
  | [], bs, k, hk, _, hb => fun i j h => by
    by_cases hi : i < k
    · exact hb i j hi h
    · rw [befores, List.getD_eq_getElem?_getD, List.getElem?_eq_none (by omega)] at h
      simp at h
  | o :: r, bs, k, hk, hr, hb => by
    refine befores_spec r _ (k + 1) (by simp [hk]) (fun j => by have := hr (j + 1); simpa [Nat.add_assoc, Nat.add_comm 1 j] using this) fun i j hi h => ?_
    by_cases hik : i < k
    · rw [List.getD_eq_getElem?_getD, List.getElem?_append_left (by omega), ← List.getD_eq_getElem?_getD] at h
      exact hb i j hik h
    · have hik : i = k := by omega
      subst hik
      have ho : l[i]? = some o := by simpa using (hr 0).symm
      have e1 : (bs ++ [o.after.toList.foldl (fun s e => if Region.binds .any e then s ||| 2 ^ e.on ||| bs.getD e.on 0 else s) 0]).getD i 0 =
          o.after.toList.foldl (fun s e => if Region.binds .any e then s ||| 2 ^ e.on ||| bs.getD e.on 0 else s) 0 := by
        rw [List.getD_eq_getElem?_getD, List.getElem?_append_right (by omega)]; simp [hk]
      rw [e1] at h
      rcases testBit_foldl _ _ _ _ h with h | ⟨e, he, hbd, h⟩
      · simp at h
      · intro L hL hp
        rcases h with h | h
        · rw [← h]; exact hp o e ho he hbd
        · by_cases hlt : e.on < i
          · exact (hb e.on j hlt h).of_listed hL (hp o e ho he hbd)
          · rw [List.getD_eq_getElem?_getD, List.getElem?_eq_none (by omega)] at h
            simp at h

structure RgOk (l : List Oper) (N : Nat) : Prop where
  back : ∀ i o e, l[i]? = some o → e ∈ o.after.toList → Region.binds .any e = true → e.on < i
  order : ∀ i j oi oj t, l[i]? = some oi → l[j]? = some oj → i ≠ j → t ∈ namesOf l.toArray oi → oj.dst = some t → Bef l (max i j) (min i j)
  tail : ∀ i j, i < l.length → N ≤ i → j < i → Bef l i j

theorem allB_spec {n : Nat} {p : Nat → Bool} (h : allB n p = true) (i : Nat) (hi : i < n) : p i = true :=
  List.all_eq_true.1 h i (by simpa using hi)

theorem rgOk_spec {N : Nat} (h : rgOk l N = true) : RgOk l N := by
  unfold rgOk at h
  simp only [Bool.and_eq_true] at h
  obtain ⟨⟨h1, h2⟩, h3⟩ := h
  have hbs : ∀ i j, ((befores l []).getD i 0).testBit j = true → Bef l i j := befores_spec l [] 0 rfl (by simp) (by intro i j h; omega)
  refine ⟨fun i o e ho he hb => ?_, fun i j oi oj t hi hj hne ht hd => ?_, fun i j hi hN hj => ?_⟩
  · have hlt : i < l.length := (List.getElem?_eq_some_iff.1 ho).1
    have h := allB_spec h1 i hlt
    rw [List.getD_eq_getElem?_getD, ho] at h
    have := List.all_eq_true.1 h e he
    rw [hb] at this
    simpa [Nat.blt_eq] using this
  · have hlt : i < l.length := (List.getElem?_eq_some_iff.1 hi).1
    have hlt' : j < l.length := (List.getElem?_eq_some_iff.1 hj).1
    have h := allB_spec (allB_spec h2 i hlt) j hlt'
    simp only [List.getD_eq_getElem?_getD, List.getElem?_map, hi, hj, Option.map_some, Option.getD_some, Bool.or_eq_true, beq_iff_eq] at h
    rcases h with (h | h) | h
    · exact absurd h hne
    · exfalso
      have : ((namesOf l.toArray oi).any fun u => oj.dst == some u) = true := List.any_eq_true.2 ⟨t, ht, by rw [hd]; simp⟩
      rw [this] at h
      simp at h
    · exact hbs _ _ (by simpa [List.getD_eq_getElem?_getD] using h)
  · have h := allB_spec h3 i hi
    simp only [Bool.or_eq_true] at h
    rcases h with h | h
    · simp only [Nat.blt_eq] at h; omega
    · exact hbs _ _ (allB_spec h j hj)
end

/-! ### The rule -/
abbrev Spec := Value → World → Prop

/-- What an operation yields, as a condition. -/
def RunsTo (P : Program) (o : Oper) (ev : Operand → Value) (w : World) (φ : Value → World → Prop) : Prop :=
  match (execOp ev o).run P w with
  | .ok (.value v) w' => φ v w'
  | .ok .skip w' => φ undef w'
  | .ok (.enter f args) w' => Calls P f args w' fun x w'' => ∃ v, x = .returned v ∧ φ v w''
  | .ok (.row row args) w' => Rows P row args w' φ
  | _ => False

def Ob (P : Program) (ops : Array Oper) (I : World → Prop) (St : World → World → Prop) (o : Oper) (Γ : Tmp → Spec) (V : Spec) : Prop :=
  ∀ (e : Env) (w : World), I w → (∀ t ∈ o.looksAt ops, Γ t (e t) w) →
    if Region.wanted o (yieldedE ops e) then RunsTo P o e.eval w (fun v w' => I w' ∧ St w w' ∧ V v w') else V undef w

def setG (Γ : Tmp → Spec) (d : Option Tmp) (V : Spec) : Tmp → Spec := fun t => if d = some t then V else Γ t

/-- The operations in the order of the text, each with what it yields. -/
def RgL (P : Program) (n : Nat) (ops : Array Oper) (I : World → Prop) (St : World → World → Prop) (Fin : (Tmp → Spec) → Prop) : List Oper → (Tmp → Spec) → Prop
  | [], Γ => Fin Γ
  | o :: r, Γ => ∃ V : Spec, dOk n o.dst = true ∧ (∀ v w w', V v w → I w → I w' → St w w' → V v w') ∧ Ob P ops I St o Γ V ∧ RgL P n ops I St Fin r (setG Γ o.dst V)

section
variable {P : Program} {n : Nat} {l : List Oper} {I : World → Prop} {St : World → World → Prop}

/-- The context ahead of operation i. -/
def ctx (ops : List Oper) (Vs : List Spec) (Γ0 : Tmp → Spec) : Nat → Tmp → Spec
  | 0 => Γ0
  | i + 1 => setG (ctx ops Vs Γ0 i) ((ops[i]?).bind (·.dst)) (Vs.getD i fun _ _ => False)

theorem RgL.specs {ops : Array Oper} {Fin : (Tmp → Spec) → Prop} {l : List Oper} {Γ0 : Tmp → Spec} : ∀ (r : List Oper) (k : Nat) (Vs : List Spec), Vs.length = k → (∀ j, r[j]? = l[k + j]?) →
    RgL P n ops I St Fin r (ctx l Vs Γ0 k) →
    ∃ Vs' : List Spec, Vs'.length = k + r.length ∧ (∀ i, i < k → Vs'[i]? = Vs[i]?) ∧ Fin (ctx l Vs' Γ0 (k + r.length)) ∧
      ∀ i o, k ≤ i → i < k + r.length → l[i]? = some o → ∃ V, Vs'[i]? = some V ∧ dOk n o.dst = true ∧ (∀ v w w', V v w → I w → I w' → St w w' → V v w') ∧ Ob P ops I St o (ctx l Vs' Γ0 i) V
  | [], k, Vs, hk, _, h => ⟨Vs, by simpa using hk, fun _ _ => rfl, h, fun i o h1 h2 => by simp at h2; omega⟩
  | o :: r, k, Vs, hk, hr, h => by
    obtain ⟨V, hd, hst, hob, h⟩ := h
    have ho : l[k]? = some o := by simpa using (hr 0).symm
    have hpre : ∀ (Vs' : List Spec) (i : Nat), (∀ j, j < i → Vs'[j]? = Vs[j]?) → ctx l Vs' Γ0 i = ctx l Vs Γ0 i := fun Vs' i => by
      induction i with
      | zero => intro _; rfl
      | succ i ih =>
        intro hj
        simp only [ctx]
        rw [ih fun j h => hj j (by omega), List.getD_eq_getElem?_getD, List.getD_eq_getElem?_getD, hj i (by omega)]
    have e1 : ∀ j, j < k → (Vs ++ [V])[j]? = Vs[j]? := fun j hj => by rw [List.getElem?_append_left (by omega)]
    have e2 : (Vs ++ [V])[k]? = some V := by rw [List.getElem?_append_right (by omega)]; simp [hk]
    have hctx : ctx l (Vs ++ [V]) Γ0 (k + 1) = setG (ctx l Vs Γ0 k) o.dst V := by
      simp only [ctx]
      rw [hpre _ k e1, ho, List.getD_eq_getElem?_getD, e2]
      rfl
    obtain ⟨Vs', h1, h2, h3, h4⟩ := RgL.specs r (k + 1) (Vs ++ [V]) (by simp [hk]) (fun j => by have := hr (j + 1); simpa [Nat.add_assoc, Nat.add_comm 1 j] using this) (by rw [hctx]; exact h)
    have h2' : ∀ i, i < k → Vs'[i]? = Vs[i]? := fun i hi => (h2 i (by omega)).trans (e1 i hi)
    refine ⟨Vs', by simp at h1 ⊢; omega, h2', by simpa [Nat.add_assoc, Nat.add_comm 1] using h3, fun i o' hi1 hi2 ho' => ?_⟩
    by_cases hik : i = k
    · subst hik
      rw [ho] at ho'
      injection ho' with ho'
      subst ho'
      exact ⟨V, (h2 i (by omega)).trans e2, hd, hst, by rw [hpre Vs' i h2']; exact hob⟩
    · exact h4 i o' (by omega) (by simp at hi2; omega) ho'

/-- How far the run of a region has come: what is listed; the frame; the world. -/
structure Mid (l : List Oper) (N : Nat) (Vs : List Spec) (Γ0 : Tmp → Spec) (I : World → Prop) (listed : Array Bool) (e : Env) (w : World) : Prop where
  size : listed.size = l.length
  inv : I w
  down : ∀ k o ed, l[k]? = some o → ed ∈ o.after.toList → Region.binds .any ed = true → listed.getD k true = true → listed.getD ed.on true = true
  head : ∀ i, N ≤ i → i < l.length → listed.getD i true = false
  last : ∀ j o d, l[j]? = some o → o.dst = some d → listed.getD j true = true → (∀ j' o', j < j' → l[j']? = some o' → o'.dst = some d → listed.getD j' true = false) →
    ∀ V, Vs[j]? = some V → V (e d) w
  none : ∀ t, (∀ j o, l[j]? = some o → o.dst = some t → listed.getD j true = false) → Γ0 t (e t) w

/-- The last writer of a temporary ahead of i, if there is one. -/
theorem ctx_at (Vs : List Spec) (Γ0 : Tmp → Spec) (t : Tmp) : ∀ i, i ≤ l.length →
    ((∀ j o, j < i → l[j]? = some o → o.dst ≠ some t) ∧ ctx l Vs Γ0 i t = Γ0 t) ∨
    ∃ j o, j < i ∧ l[j]? = some o ∧ o.dst = some t ∧ (∀ j' o', j < j' → j' < i → l[j']? = some o' → o'.dst ≠ some t) ∧ ctx l Vs Γ0 i t = Vs.getD j fun _ _ => False
  | 0, _ => .inl ⟨fun j o h => by omega, rfl⟩
  | i + 1, hi => by
    have hlt : i < l.length := by omega
    have ho : l[i]? = some l[i] := List.getElem?_eq_getElem hlt
    by_cases hd : l[i].dst = some t
    · refine .inr ⟨i, l[i], by omega, ho, hd, fun j' o' h1 h2 => by omega, ?_⟩
      simp [ctx, ho, setG, hd]
    · have hc : ctx l Vs Γ0 (i + 1) t = ctx l Vs Γ0 i t := by simp [ctx, ho, setG, hd]
      rw [hc]
      rcases ctx_at Vs Γ0 t i (by omega) with ⟨h1, h2⟩ | ⟨j, o, h1, h2, h3, h4, h5⟩
      · refine .inl ⟨fun j o hj hjo => ?_, h2⟩
        by_cases hji : j = i
        · subst hji; rw [ho] at hjo; injection hjo with hjo; rw [← hjo]; exact hd
        · exact h1 j o (by omega) hjo
      · refine .inr ⟨j, o, by omega, h2, h3, fun j' o' hj1 hj2 hjo => ?_, h5⟩
        by_cases hji : j' = i
        · subst hji; rw [ho] at hjo; injection hjo with hjo; rw [← hjo]; exact hd
        · exact h4 j' o' hj1 (by omega) hjo

theorem getD_set_same {a : Array Bool} {i : Nat} : (a.setIfInBounds i true).getD i true = true := by
  rw [Array.getD_eq_getD_getElem?, Array.getElem?_setIfInBounds_self]
  split <;> rfl

theorem looks_names {ops : Array Oper} {o : Oper} {t : Tmp} (h : t ∈ o.looksAt ops) : t ∈ namesOf ops o := List.mem_append_left _ h
theorem dst_names {ops : Array Oper} {o : Oper} {t : Tmp} (h : o.dst = some t) : t ∈ namesOf ops o := List.mem_append_right _ (by rw [h]; exact List.mem_singleton_self t)

/-- Behind one operation. -/
theorem Mid.step {N : Nat} {Vs : List Spec} {Γ0 : Tmp → Spec} {listed : Array Bool} {e : Env} {w w' : World} (hok : RgOk l N) (hm : Mid l N Vs Γ0 I listed e w)
    (hst : ∀ (i : Nat) (V : Spec) v w w', Vs[i]? = some V → V v w → I w → I w' → St w w' → V v w') (h0 : ∀ t v w w', Γ0 t v w → I w → I w' → St w w' → Γ0 t v w')
    {i : Nat} {o : Oper} (ho : l[i]? = some o) (hun : listed.getD i true = false) (hiN : i < N) (hpre : ∀ ed ∈ o.after.toList, Region.binds .any ed = true → listed.getD ed.on true = true)
    {v : Value} (hI : I w') (hS : St w w') (hV : ∀ V, Vs[i]? = some V → V v w') : Mid l N Vs Γ0 I (listed.setIfInBounds i true) (e.setD o.dst v) w' := by
  have hget : ∀ k, (listed.setIfInBounds i true).getD k true = true ↔ k = i ∨ listed.getD k true = true := fun k => by
    by_cases hk : k = i
    · subst hk; simp only [getD_set_same, true_or]
    · rw [getD_set_ne true (Ne.symm hk)]; simp [hk]
  have hgetf : ∀ k, (listed.setIfInBounds i true).getD k true = false ↔ k ≠ i ∧ listed.getD k true = false := fun k => by
    have := hget k
    cases hb : (listed.setIfInBounds i true).getD k true <;> cases hb' : listed.getD k true <;> simp [hb, hb'] at this ⊢ <;> exact this
  -- whoever writes what i writes, and is listed, stands ahead of i
  have hw : ∀ j oj d, l[j]? = some oj → oj.dst = some d → o.dst = some d → j ≠ i → listed.getD j true = true → j < i := fun j oj d hj hjd hd hne hl => by
    rcases Nat.lt_or_ge j i with h | h
    · exact h
    · exfalso
      have hb := hok.order j i oj o d hj ho hne (dst_names hjd) hd
      rw [Nat.max_eq_left (by omega), Nat.min_eq_right (by omega)] at hb
      have := hb.of_listed (L := fun k => listed.getD k true = true) hm.down hl
      rw [hun] at this
      cases this
  have hw2 : ∀ j oj d, l[j]? = some oj → oj.dst = some d → o.dst = some d → j < i → listed.getD j true = true := fun j oj d hj hjd hd hlt => by
    have hb := hok.order i j o oj d ho hj (by omega) (dst_names hd) hjd
    rw [Nat.max_eq_left (by omega), Nat.min_eq_right (by omega)] at hb
    exact hb _ hm.down fun o' ed ho' he hbd => by rw [ho] at ho'; injection ho' with ho'; subst ho'; exact hpre ed he hbd
  refine ⟨by simp [hm.size], hI, fun k o' ed hk he hb hl => ?_, fun k h1 h2 => (hgetf k).2 ⟨by omega, hm.head k h1 h2⟩, fun j oj d hj hd hl hlater V hVj => ?_, fun t hno => ?_⟩
  · rcases (hget k).1 hl with rfl | hl
    · rw [ho] at hk; injection hk with hk; subst hk
      exact (hget _).2 (.inr (hpre ed he hb))
    · exact (hget _).2 (.inr (hm.down k o' ed hk he hb hl))
  · rcases (hget j).1 hl with rfl | hl'
    · rw [ho] at hj; injection hj with hj; subst hj
      rw [hd]; simp only [Env.setD, Env.set_same]
      exact hV V hVj
    · by_cases hji : j = i
      · subst hji; rw [hun] at hl'; cases hl'
      by_cases hod : o.dst = some d
      · -- i writes d, and j is ahead of i: then i is a later writer that is listed
        have hlt := hw j oj d hj hd hod hji hl'
        have := hlater i o hlt ho hod
        rw [(hget i).2 (.inl rfl)] at this
        cases this
      · have hed : (e.setD o.dst v) d = e d := by
          cases h : o.dst with
          | none => rfl
          | some d' => exact Env.set_other e v (fun h' => hod (by rw [h, h']))
        rw [hed]
        refine hst j V _ w w' hVj (hm.last j oj d hj hd hl' (fun j' o' h1 h2 h3 => ((hgetf j').1 (hlater j' o' h1 h2 h3)).2) V hVj) hm.inv hI hS
  · have hod : o.dst ≠ some t := fun h => by
      have := hno i o ho h
      rw [(hget i).2 (.inl rfl)] at this
      cases this
    have hed : (e.setD o.dst v) t = e t := by
      cases h : o.dst with
      | none => rfl
      | some d' => exact Env.set_other e v (fun h' => hod (by rw [h, h']))
    rw [hed]
    exact h0 t _ w w' (hm.none t fun j oj hj hd => ((hgetf j).1 (hno j oj hj hd)).2) hm.inv hI hS

/-- What i looks at is what the text's order says. -/
theorem Mid.looks {N : Nat} {Vs : List Spec} {Γ0 : Tmp → Spec} {listed : Array Bool} {e : Env} {w : World} (hok : RgOk l N) (hm : Mid l N Vs Γ0 I listed e w) (hlen : Vs.length = N) (hN : N ≤ l.length)
    {i : Nat} {o : Oper} (ho : l[i]? = some o) (hun : listed.getD i true = false) (hiN : i < N) (hpre : ∀ ed ∈ o.after.toList, Region.binds .any ed = true → listed.getD ed.on true = true) :
    ∀ t ∈ o.looksAt l.toArray, ctx l Vs Γ0 i t (e t) w := fun t ht => by
  have hafter : ∀ j oj, i ≤ j → l[j]? = some oj → oj.dst = some t → listed.getD j true = false := fun j oj hij hj hd => by
    by_cases hji : j = i
    · subst hji; exact hun
    cases hl : listed.getD j true with
    | false => rfl
    | true =>
      exfalso
      have hb := hok.order i j o oj t ho hj (Ne.symm hji) (looks_names ht) hd
      rw [Nat.max_eq_right (by omega), Nat.min_eq_left (by omega)] at hb
      have := hb.of_listed (L := fun k => listed.getD k true = true) hm.down hl
      rw [hun] at this
      cases this
  rcases ctx_at (l := l) Vs Γ0 t i (by omega) with ⟨h1, h2⟩ | ⟨j, oj, h1, h2, h3, h4, h5⟩
  · rw [h2]
    refine hm.none t fun j oj hj hd => ?_
    rcases Nat.lt_or_ge j i with h | h
    · exact absurd hd (h1 j oj h hj)
    · exact hafter j oj h hj hd
  · rw [h5]
    have hb := hok.order i j o oj t ho h2 (by omega) (looks_names ht) h3
    rw [Nat.max_eq_left (by omega), Nat.min_eq_right (by omega)] at hb
    have hlj : listed.getD j true = true := hb _ hm.down fun o' ed ho' he hbd => by rw [ho] at ho'; injection ho' with ho'; subst ho'; exact hpre ed he hbd
    have hV : Vs[j]? = some Vs[j] := List.getElem?_eq_getElem (by omega)
    rw [List.getD_eq_getElem?_getD, hV]
    refine hm.last j oj t h2 h3 hlj (fun j' o' hj1 hj2 hj3 => ?_) _ hV
    rcases Nat.lt_or_ge j' i with h | h
    · exact absurd hj3 (h4 j' o' hj1 h hj2)
    · exact hafter j' o' h hj2 hj3

/-- All of the head has come up. -/
theorem Mid.full {N : Nat} {Vs : List Spec} {Γ0 : Tmp → Spec} {listed : Array Bool} {e : Env} {w : World} (hm : Mid l N Vs Γ0 I listed e w) (hlen : Vs.length = N) (hN : N ≤ l.length)
    (hall : ∀ i, i < N → listed.getD i true = true) : ∀ t, ctx l Vs Γ0 N t (e t) w := fun t => by
  rcases ctx_at (l := l) Vs Γ0 t N hN with ⟨h1, h2⟩ | ⟨j, oj, h1, h2, h3, h4, h5⟩
  · rw [h2]
    refine hm.none t fun j oj hj hd => ?_
    rcases Nat.lt_or_ge j N with h | h
    · exact absurd hd (h1 j oj h hj)
    · exact hm.head j h (List.getElem?_eq_some_iff.1 hj).1
  · rw [h5]
    have hV : Vs[j]? = some Vs[j] := List.getElem?_eq_getElem (by omega)
    rw [List.getD_eq_getElem?_getD, hV]
    refine hm.last j oj t h2 h3 (hall j h1) (fun j' o' hj1 hj2 hj3 => ?_) _ hV
    rcases Nat.lt_or_ge j' N with h | h
    · exact absurd hj3 (h4 j' o' hj1 h hj2)
    · exact hm.head j' h (List.getElem?_eq_some_iff.1 hj2).1

/-- How many have not come up. -/
def left (m : Nat) (listed : Array Bool) : Nat := ((List.range m).filter fun i => !listed.getD i true).length

theorem left_set {m : Nat} {listed : Array Bool} {i : Nat} (hi : i < m) (hun : listed.getD i true = false) : left m (listed.setIfInBounds i true) < left m listed := by
  unfold left
  have hsub : ∀ (r : List Nat), (r.filter fun k => !(listed.setIfInBounds i true).getD k true).length ≤ (r.filter fun k => !listed.getD k true).length ∧
      (i ∈ r → (r.filter fun k => !(listed.setIfInBounds i true).getD k true).length < (r.filter fun k => !listed.getD k true).length) := fun r => by
    induction r with
    | nil => simp
    | cons k r ih =>
      by_cases hk : k = i
      · subst hk
        simp only [List.filter_cons, getD_set_same, hun, Bool.not_true, Bool.not_false, if_true, Bool.false_eq_true, if_false, List.length_cons]
        exact ⟨by omega, fun _ => by omega⟩
      · rw [List.filter_cons, List.filter_cons, getD_set_ne true (Ne.symm hk)]
        cases hb : listed.getD k true
        · simp only [Bool.not_false, if_true, List.length_cons, List.mem_cons]
          exact ⟨by omega, fun h => by have := ih.2 (h.resolve_left (Ne.symm hk)); omega⟩
        · simp only [Bool.not_true, Bool.false_eq_true, if_false, List.mem_cons]
          exact ⟨ih.1, fun h => ih.2 (h.resolve_left (Ne.symm hk))⟩
  exact (hsub _).2 (by simpa using hi)

theorem left_zero {m : Nat} {listed : Array Bool} (h : left m listed = 0) : ∀ i, i < m → listed.getD i true = true := fun i hi => by
  cases hb : listed.getD i true with
  | true => rfl
  | false =>
    have hmem : i ∈ (List.range m).filter fun i => !listed.getD i true := List.mem_filter.2 ⟨by simpa using hi, by rw [hb]; rfl⟩
    unfold left at h
    rw [List.length_eq_zero_iff.1 h] at hmem
    cases hmem

theorem ready_nil_of_all {listed : Array Bool} (h : ∀ i, i < l.length → listed.getD i true = true) : Region.ready .any l.toArray listed = [] := by
  cases hr : Region.ready .any l.toArray listed with
  | nil => rfl
  | cons i r =>
    have hmem : i ∈ Region.ready .any l.toArray listed := by rw [hr]; exact List.mem_cons_self
    obtain ⟨h1, o, h2, _⟩ := mem_ready.1 hmem
    have hlt : i < l.length := by
      have := (Array.getElem?_eq_some_iff.1 h2).1
      simpa using this
    rw [h i hlt] at h1
    cases h1

theorem all_of_ready_nil {N : Nat} (hok : RgOk l N) {listed : Array Bool} (hr : Region.ready .any l.toArray listed = []) : ∀ i, i < l.length → listed.getD i true = true := by
  intro i
  induction i using Nat.strongRecOn with
  | _ i ih =>
    intro hi
    cases hb : listed.getD i true with
    | true => rfl
    | false =>
      have ho : l[i]? = some l[i] := List.getElem?_eq_getElem hi
      have : i ∈ Region.ready .any l.toArray listed := mem_ready.2 ⟨hb, l[i], by simp, fun ed he hbd => by
        have hlt := hok.back i l[i] ed ho (by simpa using he) hbd
        have h := ih ed.on hlt (by omega)
        rw [Array.getD_eq_getD_getElem?] at h ⊢
        cases hx : listed[ed.on]? with
        | some b => rw [hx] at h; exact h
        | none =>
          exfalso
          have h2 : listed.getD i true = true := by
            rw [Array.getD_eq_getD_getElem?]
            have : listed[i]? = none := by
              rw [Array.getElem?_eq_none_iff] at hx ⊢
              omega
            rw [this]; rfl
          rw [hb] at h2; cases h2⟩
      rw [hr] at this
      cases this

theorem Ob.wpOp {ops : Array Oper} {o : Oper} {Γ : Tmp → Spec} {V : Spec} (h : Ob P ops I St o Γ V) {a : Act} {e : Env} {w : World} (ha : Rep n a e) (hd : dOk n o.dst = true) {i : Nat} (ho : ops[i]? = some o)
    (hI : I w) (hΓ : ∀ t ∈ o.looksAt ops, Γ t (e t) w) (hSt : St w w) {K : Act → World → Prop} {Q : Exit → Act → World → Prop}
    (hk : ∀ v a' w', Rep n a' (e.setD o.dst v) → I w' → St w w' → V v w' → K a' w') : wpOp P ops Q i K a w := by
  have h1 := h e w hI hΓ
  unfold Go.wpOp
  simp only [ho]
  rw [ha.yielded]
  by_cases hw : Region.wanted o (yieldedE ops e) = true
  · rw [if_pos hw] at h1 ⊢
    refine .inl ?_
    unfold RunsTo at h1
    unfold Oper.wp
    rw [ha.eval]
    generalize (execOp e.eval o).run P w = r at h1 ⊢
    cases r with
    | halt x w' => exact h1.elim
    | ok x w' =>
      cases x <;> simp only at h1 <;> simp only [Oper.upon]
      case value v => exact hk _ _ _ (ha.put hd v) h1.1 h1.2.1 h1.2.2
      case skip => exact hk _ _ _ (ha.put hd _) h1.1 h1.2.1 h1.2.2
      case enter f args =>
        refine h1.mono fun x w'' hx => ?_
        obtain ⟨v, rfl, hx⟩ := hx
        exact hk _ _ _ (ha.put hd v) hx.1 hx.2.1 hx.2.2
      case row row args => exact h1.mono fun v w'' hx => hk _ _ _ (ha.put hd v) hx.1 hx.2.1 hx.2.2
  · rw [if_neg hw] at h1 ⊢
    exact hk _ _ _ (ha.put hd _) hI hSt h1

theorem getD_false_true {listed : Array Bool} {i : Nat} (h : listed.getD i false = true) : listed.getD i true = true := by
  rw [Array.getD_eq_getD_getElem?] at h ⊢
  cases hx : listed[i]? with
  | some b => rw [hx] at h; exact h
  | none => rfl

/-- The tail, whose order is forced. -/
theorem tail_sound {N : Nat} (hok : RgOk l N) {K : Env → World → Prop} {Q : Exit → Act → World → Prop} (hq : ∀ a e w, Rep n a e → K e w → Q .normal a w) :
    ∀ (r : List Oper) (k : Nat) (listed : Array Bool) (a : Act) (e : Env) (w : World), N ≤ k → listed.size = l.length → k + r.length = l.length → (∀ j, r[j]? = l[k + j]?) →
      (∀ i, i < l.length → listed.getD i true = decide (i < k)) → Rep n a e → WpL P n l.toArray K r e w → ∀ fuel, r.length ≤ fuel → wpAny P .any l.toArray Q fuel listed a w
  | [], k, listed, a, e, w, hNk, hsz, hk, _, hl, ha, h, fuel, _ => by
    have hall : ∀ i, i < l.length → listed.getD i true = true := fun i hi => by rw [hl i hi]; simp at hk; simp; omega
    exact wpAny_done (ready_nil_of_all hall) (hq a e w ha h) fuel
  | o :: r, k, listed, a, e, w, hNk, hsz, hk, hr, hl, ha, h, 0, hf => by simp at hf
  | o :: r, k, listed, a, e, w, hNk, hsz, hk, hr, hl, ha, h, fuel + 1, hf => by
    have ho : l[k]? = some o := by simpa using (hr 0).symm
    have hkl : k < l.length := (List.getElem?_eq_some_iff.1 ho).1
    refine ⟨fun h0 => ?_, fun i hi => ?_⟩
    · have := all_of_ready_nil hok h0 k hkl
      rw [hl k hkl] at this
      simp at this
    · obtain ⟨hun, o', ho', hpre⟩ := mem_ready.1 hi
      have hil : i < l.length := by have := (Array.getElem?_eq_some_iff.1 ho').1; simpa using this
      have ho'' : l[i]? = some o' := by simpa using ho'
      have hki : k ≤ i := by
        rw [hl i hil] at hun
        simpa using hun
      have hik : i = k := by
        rcases Nat.lt_or_ge k i with hlt | hge
        · exfalso
          have hdown : ∀ m om ed, l[m]? = some om → ed ∈ om.after.toList → Region.binds .any ed = true → (m < k → ed.on < k) := fun m om ed hm he hb hmk => by
            have := hok.back m om ed hm he hb; omega
          have hb := hok.tail i k hil (by omega) hlt
          have := hb (fun m => m < k) hdown fun om ed hm he hb' => by
            rw [ho''] at hm; injection hm with hm; subst hm
            have h1 := getD_false_true (hpre ed (by simpa using he) hb')
            have h2 := hok.back i o' ed ho'' he hb'
            rw [hl ed.on (by omega)] at h1
            simpa using h1
          omega
        · omega
      subst hik
      rw [ho] at ho''; injection ho'' with ho''; subst ho''
      obtain ⟨hd, h⟩ := h
      have hl' : ∀ j, j < l.length → (listed.setIfInBounds i true).getD j true = decide (j < i + 1) := fun j hj => by
        by_cases hji : j = i
        · subst hji; rw [getD_set_same]; simp
        · rw [getD_set_ne true (Ne.symm hji), hl j hj]
          have : j < i ↔ j < i + 1 := by omega
          simp [this]
      have ih : ∀ a' e' w', Rep n a' e' → WpL P n l.toArray K r e' w' → wpAny P .any l.toArray Q fuel (listed.setIfInBounds i true) a' w' := fun a' e' w' ha' h' =>
        tail_sound hok hq r (i + 1) _ a' e' w' (by omega) (by simp [hsz]) (by simp at hk; omega) (fun j => by have := hr (j + 1); simpa [Nat.add_assoc, Nat.add_comm 1 j] using this) hl' ha' h' fuel (by simp at hf; omega)
      unfold Go.wpOp
      simp only [ho']
      rw [ha.yielded]
      by_cases hw : Region.wanted o (yieldedE l.toArray e) = true
      · rw [if_pos hw] at h ⊢
        exact .inl (h.wp ha hd fun a' e' w' ha' h' => ih a' e' w' ha' h')
      · rw [if_neg hw] at h ⊢
        exact ih _ _ _ (ha.put hd _) h

/-- The head, in whatever order it comes. -/
theorem head_sound {N : Nat} (hok : RgOk l N) (hN : N ≤ l.length) {Vs : List Spec} {Γ0 : Tmp → Spec} (hlen : Vs.length = N) (hSt : ∀ w, St w w)
    (hst : ∀ (i : Nat) (V : Spec) v w w', Vs[i]? = some V → V v w → I w → I w' → St w w' → V v w') (h0 : ∀ t v w w', Γ0 t v w → I w → I w' → St w w' → Γ0 t v w')
    (hops : ∀ i o, i < N → l[i]? = some o → ∃ V, Vs[i]? = some V ∧ dOk n o.dst = true ∧ Ob P l.toArray I St o (ctx l Vs Γ0 i) V)
    {K : Env → World → Prop} {Q : Exit → Act → World → Prop} (hq : ∀ a e w, Rep n a e → K e w → Q .normal a w)
    (hfin : ∀ e w, I w → (∀ t, ctx l Vs Γ0 N t (e t) w) → WpL P n l.toArray K (l.drop N) e w) :
    ∀ (fuel : Nat) (listed : Array Bool) (a : Act) (e : Env) (w : World), Rep n a e → Mid l N Vs Γ0 I listed e w → left l.length listed ≤ fuel → wpAny P .any l.toArray Q fuel listed a w := by
  intro fuel
  -- where the head has come up whole the tail follows
  have hswitch : ∀ (fuel : Nat) (listed : Array Bool) (a : Act) (e : Env) (w : World), Rep n a e → Mid l N Vs Γ0 I listed e w → left l.length listed ≤ fuel →
      (∀ i, i < N → listed.getD i true = true) → wpAny P .any l.toArray Q fuel listed a w := fun fuel listed a e w ha hm hf hall => by
    have hl : ∀ i, i < l.length → listed.getD i true = decide (i < N) := fun i hi => by
      by_cases h : i < N
      · rw [hall i h]; simp [h]
      · rw [hm.head i (by omega) hi]; simp [h]
    refine tail_sound hok hq (l.drop N) N listed a e w (Nat.le_refl _) hm.size (by simp; omega) (fun j => by rw [List.getElem?_drop]) hl ha (hfin e w hm.inv (hm.full hlen hN hall)) fuel ?_
    refine Nat.le_trans ?_ hf
    unfold left
    have : (List.range l.length).filter (fun i => !listed.getD i true) = (List.range l.length).filter (fun i => decide (N ≤ i)) := by
      refine List.filter_congr fun i hi => ?_
      rw [hl i (by simpa using hi)]
      by_cases h : i < N
      · simp [h]
      · simp [h]; omega
    rw [this]
    have hr : List.range l.length = List.range N ++ (List.range (l.length - N)).map (N + ·) := by
      rw [← List.range_add]; congr 1; omega
    rw [hr, List.filter_append]
    have e1 : ((List.range (l.length - N)).map (N + ·)).filter (fun i => decide (N ≤ i)) = (List.range (l.length - N)).map (N + ·) := by
      rw [List.filter_eq_self]
      intro x hx
      obtain ⟨y, _, rfl⟩ := List.mem_map.1 hx
      simp
    rw [List.length_append, e1]
    simp
  induction fuel with
  | zero =>
    intro listed a e w ha hm hf
    have hall := left_zero (Nat.le_zero.1 hf)
    exact hswitch 0 listed a e w ha hm hf fun i hi => hall i (by omega)
  | succ fuel ih =>
    intro listed a e w ha hm hf
    by_cases hall : ∀ i, i < N → listed.getD i true = true
    · exact hswitch _ listed a e w ha hm hf hall
    · refine ⟨fun h0 => absurd (fun i hi => all_of_ready_nil hok h0 i (by omega)) hall, fun i hi => ?_⟩
      obtain ⟨hun, o, ho', hpre0⟩ := mem_ready.1 hi
      have hil : i < l.length := by have := (Array.getElem?_eq_some_iff.1 ho').1; simpa using this
      have ho : l[i]? = some o := by simpa using ho'
      have hpre : ∀ ed ∈ o.after.toList, Region.binds .any ed = true → listed.getD ed.on true = true := fun ed he hb => getD_false_true (hpre0 ed (by simpa using he) hb)
      have hiN : i < N := by
        rcases Nat.lt_or_ge i N with h | h
        · exact h
        · exfalso
          refine hall fun j hj => ?_
          exact hok.tail i j hil h (by omega) _ hm.down fun o' ed h1 h2 h3 => by rw [ho] at h1; injection h1 with h1; subst h1; exact hpre ed h2 h3
      obtain ⟨V, hVi, hd, hob⟩ := hops i o hiN ho
      refine hob.wpOp ha hd ho' hm.inv (hm.looks hok hlen hN ho hun hiN hpre) (hSt w) fun v a' w' ha' hI' hS' hV' => ?_
      refine ih _ a' _ w' ha' (hm.step hok hst h0 ho hun hiN hpre hI' hS' fun V' hV'' => by rw [hVi] at hV''; injection hV'' with hV''; subst hV''; exact hV') ?_
      have := left_set hil hun
      omega

/-- THE RULE. -/
theorem Wp.draw {id : Nat} {Q : Exit → Env → World → Prop} {e : Env} {w : World} (N : Nat) (I : World → Prop) (St : World → World → Prop) (hm : P.follows .mixedOrders = true)
    (hok : rgOk l N = true) (hN : N ≤ l.length) (hSt : ∀ w, St w w) (hI : I w.drew)
    (h : RgL P n l.toArray I St (fun Γ => ∀ e' w', I w' → (∀ t, Γ t (e' t) w') → WpL P n l.toArray (Q .normal) (l.drop N) e' w') (l.take N) (fun t v _ => v = e t)) :
    Wp P n (.region id l.toArray true) Q e w := fun a ha => by
  have hok := rgOk_spec hok
  have hlt : (l.take N).length = N := by simp; omega
  have h' : RgL P n l.toArray I St (fun Γ => ∀ e' w', I w' → (∀ t, Γ t (e' t) w') → WpL P n l.toArray (Q .normal) (l.drop N) e' w') (l.take N) (ctx (l.take N) [] (fun t v _ => v = e t) 0) := h
  obtain ⟨Vs, h1, _, h3, h4⟩ := RgL.specs (l := l.take N) (Γ0 := fun t v _ => v = e t) (l.take N) 0 [] rfl (fun j => by simp) h'
  simp only [Nat.zero_add] at h1 h3 h4
  rw [hlt] at h1 h3
  have hctx : ∀ i, i ≤ N → ctx (l.take N) Vs (fun t v _ => v = e t) i = ctx l Vs (fun t v _ => v = e t) i := fun i => by
    induction i with
    | zero => intro _; rfl
    | succ i ih =>
      intro hi
      simp only [ctx]
      rw [ih (by omega), List.getElem?_take, if_pos (by omega)]
  rw [hctx N (Nat.le_refl _)] at h3
  refine wp_region_any hm (head_sound (St := St) (I := I) hok hN h1 hSt (fun i V v w w' hV => ?_) (fun t v w w' h _ _ _ => h) (fun i o hi ho => ?_) (fun a e w ha hk => ⟨e, ha, hk⟩) h3 _ _ a e _ ha
    ⟨by simp, hI, fun k o ed hk he hb hl => ?_, fun i h1 h2 => ?_, fun j o d hj _ hl => ?_, fun t _ => rfl⟩ ?_)
  · have hi : i < N := by have := (List.getElem?_eq_some_iff.1 hV).1; omega
    obtain ⟨V', hV', _, hs, _⟩ := h4 i (l[i]'(by omega)) (Nat.zero_le _) (by simp; omega) (by rw [List.getElem?_take, if_pos hi]; exact List.getElem?_eq_getElem (by omega))
    rw [hV] at hV'; injection hV' with hV'; subst hV'
    exact hs v w w'
  · obtain ⟨V, h5, h6, _, h8⟩ := h4 i o (Nat.zero_le _) (by simp; have := (List.getElem?_eq_some_iff.1 ho).1; omega) (by rw [List.getElem?_take, if_pos hi]; exact ho)
    rw [hctx i (by omega)] at h8
    exact ⟨V, h5, h6, h8⟩
  · exfalso
    have hkl : k < l.length := (List.getElem?_eq_some_iff.1 hk).1
    simp [Array.getD_eq_getD_getElem?, hkl] at hl
  · simp [Array.getD_eq_getD_getElem?, h2]
  · exfalso
    have hkl : j < l.length := (List.getElem?_eq_some_iff.1 hj).1
    simp [Array.getD_eq_getD_getElem?, hkl] at hl
  · unfold left
    exact Nat.le_trans (List.length_filter_le _ _) (by simp)
end
end Go.Fk

namespace Go.Fk

/-- In every world of the class the operation yields v and leaves the world as it is. -/
def Det (P : Program) (I : World → Prop) (o : Op) (ty : TypeId) (e : Env) (v : Value) : Prop :=
  ∀ (dst : Option Tmp) (pos : String) (after : Array Edge) (guard : Option (Nat × Bool)) (w : World), I w → (execOp e.eval ⟨dst, o, ty, pos, after, guard⟩).run P w = .ok (.value v) w

section
variable {P : Program} {n : Nat} {ops : Array Oper} {K : Env → World → Prop} {rest : List Oper} {e : Env} {w : World} {dst : Option Tmp} {ty : TypeId} {pos : String} {after : Array Edge}

theorem WpL.nil (h : K e w) : WpL P n ops K [] e w := h
theorem WpL.nilN {Q : Exit → Env → World → Prop} (h : Q .normal e w) : WpL P n ops (Q .normal) [] e w := h

theorem WpL.det {o : Op} {v : Value} {d : Tmp} (hd : dOk n (some d) = true) (hr : Det P (fun w' => w' = w) o ty e v) (h : WpL P n ops K rest (e.set d v) w) : WpL P n ops K (⟨some d, o, ty, pos, after, none⟩ :: rest) e w :=
  ⟨hd, by
    rw [if_pos (by rfl)]
    unfold OpW
    rw [hr _ _ _ _ w rfl]
    exact h⟩
/-- An operation whose value nobody wants. -/
theorem WpL.det0 {o : Op} {v : Value} (hr : Det P (fun w' => w' = w) o ty e v) (h : WpL P n ops K rest e w) : WpL P n ops K (⟨none, o, ty, pos, after, none⟩ :: rest) e w :=
  ⟨rfl, by
    rw [if_pos (by rfl)]
    unfold OpW
    rw [hr _ _ _ _ w rfl]
    exact h⟩

/-- A guarded operation whose guard holds. -/
theorem WpL.detG {o : Op} {v : Value} {j d d' : Nat} {b c : Bool} (hj : (ops[j]?).bind (·.dst) = some d) (he : e d = .bool c) (hc : c = b) (hd : dOk n (some d') = true)
    (hr : Det P (fun w' => w' = w) o ty e v) (h : WpL P n ops K rest (e.set d' v) w) : WpL P n ops K (⟨some d', o, ty, pos, after, some (j, b)⟩ :: rest) e w :=
  ⟨hd, by
    rw [if_pos (by simp [Region.wanted, yieldedE, hj, he, hc])]
    unfold OpW
    rw [hr _ _ _ _ w rfl]
    exact h⟩

/-- A guarded operation whose guard fails. -/
theorem WpL.skipG {o : Op} {j d d' : Nat} {b c : Bool} (hj : (ops[j]?).bind (·.dst) = some d) (he : e d = .bool c) (hc : c = !b) (hd : dOk n (some d') = true)
    (h : WpL P n ops K rest (e.set d' undef) w) : WpL P n ops K (⟨some d', o, ty, pos, after, some (j, b)⟩ :: rest) e w :=
  ⟨hd, by
    rw [if_neg (by simp [Region.wanted, yieldedE, hj, he, hc])]
    exact h⟩

/-- Any operation, its run at hand. -/
theorem WpL.run {o : Op} {v : Value} {w' : World} (hd : dOk n dst = true) (hr : (execOp e.eval ⟨dst, o, ty, pos, after, none⟩).run P w = .ok (.value v) w')
    (h : WpL P n ops K rest (e.setD dst v) w') : WpL P n ops K (⟨dst, o, ty, pos, after, none⟩ :: rest) e w :=
  ⟨hd, by
    rw [if_pos (by rfl)]
    unfold OpW
    rw [hr]
    exact h⟩
theorem WpL.runSkip {o : Op} {w' : World} (hd : dOk n dst = true) (hr : (execOp e.eval ⟨dst, o, ty, pos, after, none⟩).run P w = .ok .skip w')
    (h : WpL P n ops K rest (e.setD dst undef) w') : WpL P n ops K (⟨dst, o, ty, pos, after, none⟩ :: rest) e w :=
  ⟨hd, by
    rw [if_pos (by rfl)]
    unfold OpW
    rw [hr]
    exact h⟩

/-! ### Reading slots; the code's rules in a form that is met by its first sign -/
theorem Env.ev_tmp (e : Env) (t : Nat) : e.eval (.tmp t) = e t := rfl
theorem Env.ev_const (e : Env) (v : Value) : e.eval (.const v) = v := rfl
theorem Env.ev_global (e : Env) (g : Nat) : e.eval (.global g) = .pointer (some ⟨g, 0, none⟩) := rfl
theorem Env.ev_func (e : Env) (f : FuncId) : e.eval (.func f) = .func (.func f) #[] #[] := rfl
theorem Env.ap_set (e : Env) (d t : Nat) (v : Value) : (e.set d v) t = if t = d then v else e t := by
  by_cases h : t = d
  · subst h; rw [Env.set_same, if_pos rfl]
  · rw [Env.set_other e v h, if_neg h]
theorem Env.evt {e : Env} {t : Nat} {v : Value} (h : e t = v) : e.eval (.tmp t) = v := h
theorem Env.hit (e : Env) (d : Nat) (v : Value) : (e.set d v) d = v := Env.set_same e d v
theorem Env.miss {e : Env} {d t : Nat} {v u : Value} (h : Nat.beq t d = false) (h' : e t = u) : (e.set d v) t = u := by
  rw [Env.set_other e v (by intro he; subst he; rw [Nat.beq_refl] at h; cases h), h']
def undefE : Env := fun _ => undef
theorem Env.ap_undef (t : Nat) : undefE t = undef := rfl

theorem thenQ_normal {K : Env → World → Prop} {Q : Exit → Env → World → Prop} {e : Env} {w : World} (h : K e w) : thenQ K Q .normal e w := h
theorem thenQ_exit {K : Env → World → Prop} {Q : Exit → Env → World → Prop} {e : Env} {w : World} {i : Nat} (h : Q (.exit i) e w) : thenQ K Q (.exit i) e w := h
theorem thenQ_ret {K : Env → World → Prop} {Q : Exit → Env → World → Prop} {e : Env} {w : World} (h : Q .ret e w) : thenQ K Q .ret e w := h
theorem blockQ_normal {Q : Exit → Env → World → Prop} {e : Env} {w : World} {id : Nat} (h : Q .normal e w) : blockQ id Q .normal e w := h
theorem blockQ_ret {Q : Exit → Env → World → Prop} {e : Env} {w : World} {id : Nat} (h : Q .ret e w) : blockQ id Q .ret e w := h
theorem blockQ_same {Q : Exit → Env → World → Prop} {e : Env} {w : World} {id : Nat} (h : Q .normal e w) : blockQ id Q (.exit id) e w := by show (if id = id then Q .normal e w else Q (.exit id) e w); rw [if_pos rfl]; exact h
theorem blockQ_other {Q : Exit → Env → World → Prop} {e : Env} {w : World} {id id' : Nat} (hne : Nat.beq id' id = false) (h : Q (.exit id') e w) : blockQ id Q (.exit id') e w := by
  show (if id' = id then Q .normal e w else Q (.exit id') e w)
  rw [if_neg (by intro h'; subst h'; rw [Nat.beq_refl] at hne; cases hne)]; exact h
theorem doneQ_one {P : Program} {fn : Func} {R : Ending → World → Prop} {e : Env} {w : World} {t : Tmp} {v : Value} (hr : fn.results = #[.tmp t]) (hv : e t = v) (h : R (.returned v) w) : doneQ P fn R .ret e w :=
  ⟨_, resOf_one hr e w, by rw [hv]; exact h⟩
theorem doneQ_two {P : Program} {fn : Func} {R : Ending → World → Prop} {e : Env} {w : World} {t u : Tmp} {v v' : Value} (hr : fn.results = #[.tmp t, .tmp u]) (hv : e t = v) (hv' : e u = v') (h : R (.returned (.tuple #[v, v'])) w) : doneQ P fn R .ret e w :=
  ⟨_, resOf_two hr e w, by rw [hv, hv']; exact h⟩
theorem doneQ_three {P : Program} {fn : Func} {R : Ending → World → Prop} {e : Env} {w : World} {t u s : Tmp} {v v' v'' : Value} (hr : fn.results = #[.tmp t, .tmp u, .tmp s]) (hv : e t = v) (hv' : e u = v') (hv'' : e s = v'') (h : R (.returned (.tuple #[v, v', v''])) w) :
    doneQ P fn R .ret e w := ⟨_, resOf_three hr e w, by rw [hv, hv', hv'']; exact h⟩
theorem doneQ_none {P : Program} {fn : Func} {R : Ending → World → Prop} {e : Env} {w : World} (hr : fn.results = #[]) (h : R (.returned (.tuple #[])) w) : doneQ P fn R .ret e w := ⟨_, resOf_none hr e w, h⟩
theorem doneQ_end {P : Program} {fn : Func} {R : Ending → World → Prop} {e : Env} {w : World} (h : doneQ P fn R .ret e w) : doneQ P fn R .normal e w := h

/-! ### Calls of functions that have a body -/
theorem run_call {f : FuncId} {args : Array Operand} {argTypes : Array TypeId} {vs : Array Value} (h : ∀ args w, (callFunc f args).run P w = .ok (.enter f args) w) (ha : args.map e.eval = vs) (guard : Option (Nat × Bool)) (w : World) :
    (execOp e.eval ⟨dst, .call { callee := .value (.func f), args, argTypes }, ty, pos, after, guard⟩).run P w = .ok (.enter f vs) w := by
  simp [execOp, resolve, Deferred.ofValue, invoke, Env.eval, ha, h]

theorem WpL.callAny {f : FuncId} {d : Tmp} {args : Array Operand} {argTypes : Array TypeId} {vs : Array Value} (hd : dOk n (some d) = true) (hf : ∀ args w, (callFunc f args).run P w = .ok (.enter f args) w) (ha : args.map e.eval = vs)
    (h : Calls P f vs w fun x w'' => ∃ v, x = .returned v ∧ WpL P n ops K rest (e.set d v) w'') :
    WpL P n ops K (⟨some d, .call { callee := .value (.func f), args, argTypes }, ty, pos, after, none⟩ :: rest) e w :=
  ⟨hd, by
    rw [if_pos (by rfl)]
    unfold OpW
    rw [run_call hf ha]
    exact h⟩
theorem WpL.callAnyG {f : FuncId} {d' : Tmp} {args : Array Operand} {argTypes : Array TypeId} {vs : Array Value} {j d : Nat} {b c : Bool} (hj : (ops[j]?).bind (·.dst) = some d) (he : e d = .bool c) (hc : c = b)
    (hd : dOk n (some d') = true) (hf : ∀ args w, (callFunc f args).run P w = .ok (.enter f args) w) (ha : args.map e.eval = vs)
    (h : Calls P f vs w fun x w'' => ∃ v, x = .returned v ∧ WpL P n ops K rest (e.set d' v) w'') :
    WpL P n ops K (⟨some d', .call { callee := .value (.func f), args, argTypes }, ty, pos, after, some (j, b)⟩ :: rest) e w :=
  ⟨hd, by
    rw [if_pos (by simp [Region.wanted, yieldedE, hj, he, hc])]
    unfold OpW
    rw [run_call hf ha]
    exact h⟩
/-- The values of a list of operands. -/
def Vals (e : Env) : List Operand → List Value → Prop
  | [], [] => True
  | x :: r, v :: s => e.eval x = v ∧ Vals e r s
  | _, _ => False
theorem Vals.map {e : Env} : ∀ {l : List Operand} {s : List Value}, Vals e l s → l.map e.eval = s
  | [], [], _ => rfl
  | _ :: _, _ :: _, h => by rw [List.map_cons, h.1, Vals.map h.2]
theorem Vals.nil {e : Env} : Vals e [] [] := trivial
theorem Vals.cons {e : Env} {x : Operand} {v : Value} {l : List Operand} {s : List Value} (h : e.eval x = v) (hr : Vals e l s) : Vals e (x :: l) (v :: s) := ⟨h, hr⟩
theorem WpL.call {f : FuncId} {d : Tmp} {l : List Operand} {argTypes : Array TypeId} {vs : List Value} (hd : dOk n (some d) = true) (hf : ∀ args w, (callFunc f args).run P w = .ok (.enter f args) w) (ha : Vals e l vs)
    (h : Calls P f vs.toArray w fun x w'' => ∃ v, x = .returned v ∧ WpL P n ops K rest (e.set d v) w'') :
    WpL P n ops K (⟨some d, .call { callee := .value (.func f), args := l.toArray, argTypes }, ty, pos, after, none⟩ :: rest) e w :=
  WpL.callAny hd hf (by rw [List.map_toArray, ha.map]) h
theorem WpL.callG {f : FuncId} {d' : Tmp} {l : List Operand} {argTypes : Array TypeId} {vs : List Value} {j d : Nat} {b c : Bool} (hj : (ops[j]?).bind (·.dst) = some d) (he : e d = .bool c) (hc : c = b)
    (hd : dOk n (some d') = true) (hf : ∀ args w, (callFunc f args).run P w = .ok (.enter f args) w) (ha : Vals e l vs)
    (h : Calls P f vs.toArray w fun x w'' => ∃ v, x = .returned v ∧ WpL P n ops K rest (e.set d' v) w'') :
    WpL P n ops K (⟨some d', .call { callee := .value (.func f), args := l.toArray, argTypes }, ty, pos, after, some (j, b)⟩ :: rest) e w :=
  WpL.callAnyG hj he hc hd hf (by rw [List.map_toArray, ha.map]) h
end

/-! ### Which kind of operation is it? (Nothing is said: the walk asks by them.) -/
theorem Det.isBin {P : Program} {I : World → Prop} {ty : TypeId} {e : Env} {x y : Operand} {v : Value} {t t' : TypeId} {o : BinOp} (h : Det P I (.binOp o t x y t') ty e v) : Det P I (.binOp o t x y t') ty e v := h
theorem Det.isConv {P : Program} {I : World → Prop} {ty : TypeId} {e : Env} {x : Operand} {v : Value} {t t' : TypeId} (h : Det P I (.convert t t' x) ty e v) : Det P I (.convert t t' x) ty e v := h
theorem Det.isIndex {P : Program} {I : World → Prop} {ty : TypeId} {e : Env} {x y : Operand} {v : Value} {t : TypeId} (h : Det P I (.indexAddr t x y) ty e v) : Det P I (.indexAddr t x y) ty e v := h
theorem Det.isSlice {P : Program} {I : World → Prop} {ty : TypeId} {e : Env} {x : Operand} {v : Value} {t : TypeId} {l h m : Option Operand} (h' : Det P I (.slice t x l h m) ty e v) : Det P I (.slice t x l h m) ty e v := h'
theorem Det.isUn {P : Program} {I : World → Prop} {ty : TypeId} {e : Env} {x : Operand} {v : Value} {t : TypeId} {o : UnOp} (h : Det P I (.unOp o t x) ty e v) : Det P I (.unOp o t x) ty e v := h

/-! ### Operations that leave the world alone -/
section
variable {P : Program} {I : World → Prop} {ty : TypeId} {e : Env} {x y c : Operand} {v u : Value} {t t' : TypeId} {k : IntKind} {a b : Int}

theorem Det.move (hx : e.eval x = v) : Det P I (.move x) ty e v := fun _ _ _ _ _ _ => by simp [execOp, hx]
theorem Det.assign (hx : e.eval x = v) : Det P I (.assign x) ty e v := fun _ _ _ _ _ _ => by simp [execOp, hx]
theorem Det.pick {b : Bool} (hc : e.eval c = .bool b) (hv : (if b then e.eval x else e.eval y) = v) : Det P I (.pick c x y) ty e v := fun _ _ _ _ _ _ => by
  subst hv; cases b <;> simp [execOp, hc, asBool]
theorem Det.pickT {b : Bool} (hc : e.eval c = .bool b) (hb : b = true) (hv : e.eval x = v) : Det P I (.pick c x y) ty e v := .pick hc (by rw [if_pos hb]; exact hv)
theorem Det.pickF {b : Bool} (hc : e.eval c = .bool b) (hb : b = false) (hv : e.eval y = v) : Det P I (.pick c x y) ty e v := .pick hc (by rw [hb]; exact hv)
theorem Det.extract {l : List Value} {i : Nat} (hx : e.eval x = .tuple l.toArray) (hv : l[i]? = some v) : Det P I (.extract x i) ty e v := fun _ _ _ _ _ _ => by
  simp [execOp, hx, Instr.extract, hv]

/-! integers -/
theorem Det.intArith {op : BinOp} (hop : op = .add ∨ op = .sub ∨ op = .mul) (hx : e.eval x = .int k a) (hy : e.eval y = .int k b) :
    Det P I (.binOp op t x y t') ty e (.int k (k.wrap (match op with | .add => a + b | .sub => a - b | _ => a * b))) := fun _ _ _ _ _ _ => by
  rcases hop with rfl | rfl | rfl <;> simp [execOp, hx, hy, eqGuard, binOp, Op.intArith]

theorem Det.addW (hx : e.eval x = .int k a) (hy : e.eval y = .int k b) : Det P I (.binOp .add t x y t') ty e (.int k (k.wrap (a + b))) := Det.intArith (.inl rfl) hx hy
theorem Det.subW (hx : e.eval x = .int k a) (hy : e.eval y = .int k b) : Det P I (.binOp .sub t x y t') ty e (.int k (k.wrap (a - b))) := Det.intArith (.inr (.inl rfl)) hx hy
theorem Det.mulW (hx : e.eval x = .int k a) (hy : e.eval y = .int k b) : Det P I (.binOp .mul t x y t') ty e (.int k (k.wrap (a * b))) := Det.intArith (.inr (.inr rfl)) hx hy

theorem wrap_i64 {a : Int} (h1 : -9223372036854775808 ≤ a) (h2 : a ≤ 9223372036854775807) : IntKind.i64.wrap a = a := by
  rw [IntKind.wrap_i64]; omega
theorem wrap_u64 {a : Int} (h1 : 0 ≤ a) (h2 : a < 18446744073709551616) : IntKind.u64.wrap a = a := by
  simp only [IntKind.wrap, IntKind.bits, IntKind.signed]; simp; omega
theorem wrap_u32 {a : Int} (h1 : 0 ≤ a) (h2 : a < 4294967296) : IntKind.u32.wrap a = a := by rw [IntKind.wrap_u32']; omega
theorem wrap_u16 {a : Int} (h1 : 0 ≤ a) (h2 : a < 65536) : IntKind.u16.wrap a = a := by rw [IntKind.wrap_u16]; omega
theorem wrap_u8 {a : Int} (h1 : 0 ≤ a) (h2 : a < 256) : IntKind.u8.wrap a = a := by rw [IntKind.wrap_u8']; omega

theorem Det.add (hx : e.eval x = .int .i64 a) (hy : e.eval y = .int .i64 b) (h1 : -9223372036854775808 ≤ a + b) (h2 : a + b ≤ 9223372036854775807) :
    Det P I (.binOp .add t x y t') ty e (.int .i64 (a + b)) := by have := Det.addW (P := P) (I := I) (t := t) (t' := t') (ty := ty) hx hy; rwa [wrap_i64 h1 h2] at this
theorem Det.sub (hx : e.eval x = .int .i64 a) (hy : e.eval y = .int .i64 b) (h1 : -9223372036854775808 ≤ a - b) (h2 : a - b ≤ 9223372036854775807) :
    Det P I (.binOp .sub t x y t') ty e (.int .i64 (a - b)) := by have := Det.subW (P := P) (I := I) (t := t) (t' := t') (ty := ty) hx hy; rwa [wrap_i64 h1 h2] at this
theorem Det.mul (hx : e.eval x = .int .i64 a) (hy : e.eval y = .int .i64 b) (h1 : -9223372036854775808 ≤ a * b) (h2 : a * b ≤ 9223372036854775807) :
    Det P I (.binOp .mul t x y t') ty e (.int .i64 (a * b)) := by have := Det.mulW (P := P) (I := I) (t := t) (t' := t') (ty := ty) hx hy; rwa [wrap_i64 h1 h2] at this
theorem Det.addU64 (hx : e.eval x = .int .u64 a) (hy : e.eval y = .int .u64 b) (h1 : 0 ≤ a + b) (h2 : a + b < 18446744073709551616) :
    Det P I (.binOp .add t x y t') ty e (.int .u64 (a + b)) := by have := Det.addW (P := P) (I := I) (t := t) (t' := t') (ty := ty) hx hy; rwa [wrap_u64 h1 h2] at this
theorem Det.subU64 (hx : e.eval x = .int .u64 a) (hy : e.eval y = .int .u64 b) (h1 : 0 ≤ a - b) (h2 : a - b < 18446744073709551616) :
    Det P I (.binOp .sub t x y t') ty e (.int .u64 (a - b)) := by have := Det.subW (P := P) (I := I) (t := t) (t' := t') (ty := ty) hx hy; rwa [wrap_u64 h1 h2] at this
theorem Det.addU32 (hx : e.eval x = .int .u32 a) (hy : e.eval y = .int .u32 b) (h1 : 0 ≤ a + b) (h2 : a + b < 4294967296) :
    Det P I (.binOp .add t x y t') ty e (.int .u32 (a + b)) := by have := Det.addW (P := P) (I := I) (t := t) (t' := t') (ty := ty) hx hy; rwa [wrap_u32 h1 h2] at this
theorem Det.addU16 (hx : e.eval x = .int .u16 a) (hy : e.eval y = .int .u16 b) (h1 : 0 ≤ a + b) (h2 : a + b < 65536) :
    Det P I (.binOp .add t x y t') ty e (.int .u16 (a + b)) := by have := Det.addW (P := P) (I := I) (t := t) (t' := t') (ty := ty) hx hy; rwa [wrap_u16 h1 h2] at this

/-- Quotients and rests: of numbers that are not negative by such as are positive. -/
theorem Det.quoW (hx : e.eval x = .int k a) (hy : e.eval y = .int k b) (h0 : b ≠ 0) : Det P I (.binOp .quo t x y t') ty e (.int k (k.wrap (a.tdiv b))) := fun _ _ _ _ _ _ => by
  simp [execOp, hx, hy, eqGuard, binOp, Op.intDiv, h0]
theorem Det.remW (hx : e.eval x = .int k a) (hy : e.eval y = .int k b) (h0 : b ≠ 0) : Det P I (.binOp .rem t x y t') ty e (.int k (a.tmod b)) := fun _ _ _ _ _ _ => by
  simp [execOp, hx, hy, eqGuard, binOp, Op.intDiv, h0]
theorem Det.quo (hx : e.eval x = .int .i64 a) (hy : e.eval y = .int .i64 b) (h0 : 0 ≤ a) (h1 : a ≤ 9223372036854775807) (h2 : 0 < b) : Det P I (.binOp .quo t x y t') ty e (.int .i64 (a / b)) := by
  have := Det.quoW (P := P) (I := I) (t := t) (t' := t') (ty := ty) hx hy (by omega)
  have hq : a / b ≤ a := Int.ediv_le_self b h0
  have hq0 : 0 ≤ a / b := Int.ediv_nonneg h0 (by omega)
  rwa [Int.tdiv_eq_ediv_of_nonneg h0, wrap_i64 (by omega) (by omega)] at this
theorem Det.rem (hx : e.eval x = .int k a) (hy : e.eval y = .int k b) (h0 : 0 ≤ a) (h2 : 0 < b) : Det P I (.binOp .rem t x y t') ty e (.int k (a % b)) := by
  have := Det.remW (P := P) (I := I) (t := t) (t' := t') (ty := ty) hx hy (by omega)
  rwa [Int.tmod_eq_emod_of_nonneg h0] at this

/-- Bits. -/
theorem Det.bitsW {op : BinOp} (hop : op = .and ∨ op = .or ∨ op = .xor ∨ op = .andNot) (hx : e.eval x = .int k a) (hy : e.eval y = .int k b) :
    Det P I (.binOp op t x y t') ty e (.int k (k.wrap (match op with
      | .and => BitVec.ofInt k.bits a &&& BitVec.ofInt k.bits b
      | .or => BitVec.ofInt k.bits a ||| BitVec.ofInt k.bits b
      | .xor => BitVec.ofInt k.bits a ^^^ BitVec.ofInt k.bits b
      | _ => BitVec.ofInt k.bits a &&& ~~~BitVec.ofInt k.bits b : BitVec k.bits).toNat)) := fun _ _ _ _ _ _ => by
  rcases hop with rfl | rfl | rfl | rfl <;> simp [execOp, hx, hy, eqGuard, binOp, Op.intBits]

/-- How many numbers a kind without a sign has. -/
def lim : IntKind → Nat
  | .u8 => 256 | .u16 => 65536 | .u32 => 4294967296 | .u64 => 18446744073709551616 | .i64 => 9223372036854775808 | _ => 0

theorem ofInt_lim {k : IntKind} {m : Nat} (hm : m < lim k) : (BitVec.ofInt k.bits (m : Int)).toNat = m := by
  rw [BitVec.ofInt_natCast, BitVec.toNat_ofNat]
  refine Nat.mod_eq_of_lt ?_
  cases k <;> simp only [lim, IntKind.bits] at hm ⊢ <;> omega
theorem wrap_lim {k : IntKind} {m : Nat} (hm : m < lim k) : k.wrap (m : Int) = m := by
  cases k <;> simp only [lim] at hm
  all_goals first
    | (rw [wrap_u8] <;> omega)
    | (rw [wrap_u16] <;> omega)
    | (rw [wrap_u32] <;> omega)
    | (rw [wrap_u64] <;> omega)
    | (rw [wrap_i64] <;> omega)
    | omega
theorem lim_pow {k : IntKind} {m : Nat} (hm : m < lim k) : ∃ s, lim k = 2 ^ s := by
  cases k <;> simp only [lim] at hm ⊢
  all_goals first
    | exact ⟨8, rfl⟩
    | exact ⟨16, rfl⟩
    | exact ⟨32, rfl⟩
    | exact ⟨64, rfl⟩
    | exact ⟨63, rfl⟩
    | omega

theorem Det.and {p q : Nat} (hx : e.eval x = .int k (p : Int)) (hy : e.eval y = .int k (q : Int)) (hp : p < lim k) (hq : q < lim k) :
    Det P I (.binOp .and t x y t') ty e (.int k ((p &&& q : Nat) : Int)) := by
  have := Det.bitsW (P := P) (I := I) (t := t) (t' := t') (ty := ty) (.inl rfl) hx hy
  simp only [BitVec.toNat_and, ofInt_lim hp, ofInt_lim hq] at this
  rwa [wrap_lim (Nat.lt_of_le_of_lt Nat.and_le_left hp)] at this
theorem Det.or {p q : Nat} (hx : e.eval x = .int k (p : Int)) (hy : e.eval y = .int k (q : Int)) (hp : p < lim k) (hq : q < lim k) :
    Det P I (.binOp .or t x y t') ty e (.int k ((p ||| q : Nat) : Int)) := by
  have := Det.bitsW (P := P) (I := I) (t := t) (t' := t') (ty := ty) (.inr (.inl rfl)) hx hy
  simp only [BitVec.toNat_or, ofInt_lim hp, ofInt_lim hq] at this
  obtain ⟨s, hs⟩ := lim_pow hp
  rwa [wrap_lim (by rw [hs] at hp hq ⊢; exact Nat.or_lt_two_pow hp hq)] at this
theorem Det.xor {p q : Nat} (hx : e.eval x = .int k (p : Int)) (hy : e.eval y = .int k (q : Int)) (hp : p < lim k) (hq : q < lim k) :
    Det P I (.binOp .xor t x y t') ty e (.int k ((p ^^^ q : Nat) : Int)) := by
  have := Det.bitsW (P := P) (I := I) (t := t) (t' := t') (ty := ty) (.inr (.inr (.inl rfl))) hx hy
  simp only [BitVec.toNat_xor, ofInt_lim hp, ofInt_lim hq] at this
  obtain ⟨s, hs⟩ := lim_pow hp
  rwa [wrap_lim (by rw [hs] at hp hq ⊢; exact Nat.xor_lt_two_pow hp hq)] at this

/-- Shifts. -/
theorem Det.shlW {k' : IntKind} (hx : e.eval x = .int k a) (hy : e.eval y = .int k' b) (hb : 0 ≤ b) :
    Det P I (.binOp .shl t x y t') ty e (.int k (k.wrap (a * 2 ^ (min b.toNat k.bits)))) := fun _ _ _ _ _ _ => by
  have hb' : ¬ b < 0 := by omega
  simp [execOp, hx, hy, eqGuard, binOp, Op.shift, hb']
theorem Det.shrW {k' : IntKind} (hx : e.eval x = .int k a) (hy : e.eval y = .int k' b) (hb : 0 ≤ b) :
    Det P I (.binOp .shr t x y t') ty e (.int k (a.fdiv (2 ^ (min b.toNat k.bits)))) := fun _ _ _ _ _ _ => by
  have hb' : ¬ b < 0 := by omega
  simp [execOp, hx, hy, eqGuard, binOp, Op.shift, hb']
/-- Of a number without a sign. -/
theorem Det.shr {k' : IntKind} {p q : Nat} (hx : e.eval x = .int k (p : Int)) (hy : e.eval y = .int k' (q : Int)) (hq : q ≤ k.bits) :
    Det P I (.binOp .shr t x y t') ty e (.int k ((p >>> q : Nat) : Int)) := by
  have := Det.shrW (P := P) (I := I) (t := t) (t' := t') (ty := ty) hx hy (by omega)
  have e1 : (p : Int).fdiv (2 ^ (min ((q : Int)).toNat k.bits)) = ((p >>> q : Nat) : Int) := by
    rw [Int.toNat_natCast, Nat.min_eq_left hq, Nat.shiftRight_eq_div_pow, Int.fdiv_eq_ediv_of_nonneg _ (by exact Int.le_of_lt (Int.pow_pos (by decide)))]
    norm_cast
  rwa [e1] at this
theorem Det.shl {k' : IntKind} {p q : Nat} (hx : e.eval x = .int k (p : Int)) (hy : e.eval y = .int k' (q : Int)) (hq : q ≤ k.bits) (hr : p <<< q < lim k) :
    Det P I (.binOp .shl t x y t') ty e (.int k ((p <<< q : Nat) : Int)) := by
  have := Det.shlW (P := P) (I := I) (t := t) (t' := t') (ty := ty) hx hy (by omega)
  have e1 : (p : Int) * 2 ^ (min ((q : Int)).toNat k.bits) = ((p <<< q : Nat) : Int) := by
    rw [Int.toNat_natCast, Nat.min_eq_left hq, Nat.shiftLeft_eq]; norm_cast
  rwa [e1, wrap_lim hr] at this

/-- The same, the numbers first brought to natural ones. -/
theorem Det.andN {p q : Nat} (hx : e.eval x = .int k a) (ha : a = (p : Int)) (hy : e.eval y = .int k b) (hb : b = (q : Int)) (hp : p < lim k) (hq : q < lim k) :
    Det P I (.binOp .and t x y t') ty e (.int k ((p &&& q : Nat) : Int)) := Det.and (ha ▸ hx) (hb ▸ hy) hp hq
theorem Det.orN {p q : Nat} (hx : e.eval x = .int k a) (ha : a = (p : Int)) (hy : e.eval y = .int k b) (hb : b = (q : Int)) (hp : p < lim k) (hq : q < lim k) :
    Det P I (.binOp .or t x y t') ty e (.int k ((p ||| q : Nat) : Int)) := Det.or (ha ▸ hx) (hb ▸ hy) hp hq
theorem Det.xorN {p q : Nat} (hx : e.eval x = .int k a) (ha : a = (p : Int)) (hy : e.eval y = .int k b) (hb : b = (q : Int)) (hp : p < lim k) (hq : q < lim k) :
    Det P I (.binOp .xor t x y t') ty e (.int k ((p ^^^ q : Nat) : Int)) := Det.xor (ha ▸ hx) (hb ▸ hy) hp hq
theorem Det.shrN {k' : IntKind} {p q : Nat} (hx : e.eval x = .int k a) (ha : a = (p : Int)) (hy : e.eval y = .int k' b) (hb : b = (q : Int)) (hq : q ≤ k.bits) :
    Det P I (.binOp .shr t x y t') ty e (.int k ((p >>> q : Nat) : Int)) := Det.shr (ha ▸ hx) (hb ▸ hy) hq
theorem Det.shlN {k' : IntKind} {p q : Nat} (hx : e.eval x = .int k a) (ha : a = (p : Int)) (hy : e.eval y = .int k' b) (hb : b = (q : Int)) (hq : q ≤ k.bits) (hr : p <<< q < lim k) :
    Det P I (.binOp .shl t x y t') ty e (.int k ((p <<< q : Nat) : Int)) := Det.shl (ha ▸ hx) (hb ▸ hy) hq hr
theorem Det.addN {p q : Nat} (hx : e.eval x = .int k a) (ha : a = (p : Int)) (hy : e.eval y = .int k b) (hb : b = (q : Int)) (hr : p + q < lim k) :
    Det P I (.binOp .add t x y t') ty e (.int k ((p + q : Nat) : Int)) := by
  subst ha hb
  have := Det.addW (P := P) (I := I) (t := t) (t' := t') (ty := ty) hx hy
  rwa [← Int.natCast_add, wrap_lim hr] at this
theorem Det.mulN {p q : Nat} (hx : e.eval x = .int k a) (ha : a = (p : Int)) (hy : e.eval y = .int k b) (hb : b = (q : Int)) (hr : p * q < lim k) :
    Det P I (.binOp .mul t x y t') ty e (.int k ((p * q : Nat) : Int)) := by
  subst ha hb
  have := Det.mulW (P := P) (I := I) (t := t) (t' := t') (ty := ty) hx hy
  rwa [← Int.natCast_mul, wrap_lim hr] at this
theorem Det.quoN {p q : Nat} (hx : e.eval x = .int k a) (ha : a = (p : Int)) (hy : e.eval y = .int k b) (hb : b = (q : Int)) (hq : 0 < q) (hp : p < lim k) :
    Det P I (.binOp .quo t x y t') ty e (.int k ((p / q : Nat) : Int)) := by
  subst ha hb
  have := Det.quoW (P := P) (I := I) (t := t) (t' := t') (ty := ty) hx hy (by omega)
  rw [Int.tdiv_eq_ediv_of_nonneg (by omega), ← Int.natCast_ediv, wrap_lim (Nat.lt_of_le_of_lt (Nat.div_le_self _ _) hp)] at this
  exact this
theorem Det.remN {p q : Nat} (hx : e.eval x = .int k a) (ha : a = (p : Int)) (hy : e.eval y = .int k b) (hb : b = (q : Int)) (hq : 0 < q) :
    Det P I (.binOp .rem t x y t') ty e (.int k ((p % q : Nat) : Int)) := by
  subst ha hb
  have := Det.remW (P := P) (I := I) (t := t) (t' := t') (ty := ty) hx hy (by omega)
  rwa [Int.tmod_eq_emod_of_nonneg (by omega), ← Int.natCast_emod] at this

/-- Comparisons. -/
theorem Det.lss (hx : e.eval x = .int k a) (hy : e.eval y = .int k b) : Det P I (.binOp .lss t x y t') ty e (.bool (decide (a < b))) := fun _ _ _ _ _ _ => by
  simp [execOp, hx, hy, eqGuard, binOp, Op.intCmp]
theorem Det.leq (hx : e.eval x = .int k a) (hy : e.eval y = .int k b) : Det P I (.binOp .leq t x y t') ty e (.bool (decide (a ≤ b))) := fun _ _ _ _ _ _ => by
  simp [execOp, hx, hy, eqGuard, binOp, Op.intCmp]
theorem Det.gtr (hx : e.eval x = .int k a) (hy : e.eval y = .int k b) : Det P I (.binOp .gtr t x y t') ty e (.bool (decide (b < a))) := fun _ _ _ _ _ _ => by
  simp [execOp, hx, hy, eqGuard, binOp, Op.intCmp]
theorem Det.geq (hx : e.eval x = .int k a) (hy : e.eval y = .int k b) : Det P I (.binOp .geq t x y t') ty e (.bool (decide (b ≤ a))) := fun _ _ _ _ _ _ => by
  simp [execOp, hx, hy, eqGuard, binOp, Op.intCmp]
theorem Det.eql (hx : e.eval x = .int k a) (hy : e.eval y = .int k b) : Det P I (.binOp .eql t x y t') ty e (.bool (decide (a = b))) := fun _ _ _ _ _ _ => by
  simp [execOp, hx, hy, eqGuard, binOp, Op.intCmp]; exact Bool.eq_iff_iff.2 (by simp)
theorem Det.neq (hx : e.eval x = .int k a) (hy : e.eval y = .int k b) : Det P I (.binOp .neq t x y t') ty e (.bool (decide (a ≠ b))) := fun _ _ _ _ _ _ => by
  simp [execOp, hx, hy, eqGuard, binOp, Op.intCmp]; exact Bool.eq_iff_iff.2 (by simp)

/-- Strings: as lists of bytes. -/
theorem Det.eqlStr {s r : List UInt8} (hx : e.eval x = .string ⟨s.toArray⟩) (hy : e.eval y = .string ⟨r.toArray⟩) : Det P I (.binOp .eql t x y t') ty e (.bool (decide (s = r))) := fun _ _ _ _ _ _ => by
  simp only [execOp, hx, hy, eqGuard, binOp, Op.stringOp, ByteArray.toList_eq]
  exact congrArg (fun b => Result.ok (Next.value (Value.bool b)) _) (Bool.eq_iff_iff.2 (by simp))
theorem Det.neqStr {s r : List UInt8} (hx : e.eval x = .string ⟨s.toArray⟩) (hy : e.eval y = .string ⟨r.toArray⟩) : Det P I (.binOp .neq t x y t') ty e (.bool (decide (s ≠ r))) := fun _ _ _ _ _ _ => by
  simp only [execOp, hx, hy, eqGuard, binOp, Op.stringOp, ByteArray.toList_eq]
  exact congrArg (fun b => Result.ok (Next.value (Value.bool b)) _) (Bool.eq_iff_iff.2 (by simp))

/-- One operand. -/
theorem Det.not {b : Bool} (hx : e.eval x = .bool b) : Det P I (.unOp .not t x) ty e (.bool (!b)) := fun _ _ _ _ _ _ => by simp [execOp, hx, Op.unary]
theorem Det.negW (hx : e.eval x = .int k a) : Det P I (.unOp .neg t x) ty e (.int k (k.wrap (0 - a))) := fun _ _ _ _ _ _ => by simp [execOp, hx, Op.unary, Op.intArith]
theorem Det.neg (hx : e.eval x = .int .i64 a) (h1 : -9223372036854775807 ≤ a) (h2 : a ≤ 9223372036854775808) : Det P I (.unOp .neg t x) ty e (.int .i64 (-a)) := by
  have := Det.negW (P := P) (I := I) (t := t) (ty := ty) hx
  rwa [wrap_i64 (by omega) (by omega), Int.zero_sub] at this

theorem Det.compl {p : Nat} (hx : e.eval x = .int k (p : Int)) (hk : k.signed = false) (hp : p < lim k) : Det P I (.unOp .xor t x) ty e (.int k (((lim k - 1) ^^^ p : Nat) : Int)) := fun _ _ _ _ _ _ => by
  have h1 : k.max = ((lim k - 1 : Nat) : Int) := by cases k <;> first | (simp [IntKind.signed] at hk; done) | decide
  have h2 : lim k - 1 < lim k := by omega
  have h3 : (lim k - 1) ^^^ p < lim k := by
    obtain ⟨s, hs⟩ := lim_pow hp
    rw [hs] at hp h2 ⊢; exact Nat.xor_lt_two_pow h2 hp
  simp only [execOp, hx, Op.unary, hk, Bool.false_eq_true, if_false, Op.intBits, h1, BitVec.toNat_xor, ofInt_lim h2, ofInt_lim hp, wrap_lim h3]
  simp

theorem Det.complU32 {p : Nat} (hx : e.eval x = .int .u32 a) (ha : a = (p : Int)) (hp : p < 4294967296) : Det P I (.unOp .xor t x) ty e (.int .u32 ((4294967295 ^^^ p : Nat) : Int)) := Det.compl (ha ▸ hx) rfl hp

/-- Conversions. -/
theorem Det.convW {src dst : TypeId} {k' : IntKind} {d : TypeDesc} (hs : P.underlying src = some d) (hd : P.underlying dst = some (.int k')) (hx : e.eval x = .int k a) :
    Det P I (.convert src dst x) ty e (.int k' (k'.wrap a)) := fun _ _ _ _ w _ => by
  simp only [execOp, hx, convert, Sem.run_bind, run_underlying hs, run_underlying hd, Result.andThen_ok]
  cases d <;> simp [Conv.intToInt]
end

/-- The arguments as slots. -/
def argE : List Value → Nat → Env
  | [], _ => undefE
  | v :: r, k => (argE r (k + 1)).set k v
theorem argE_at : ∀ (l : List Value) (k t : Nat), argE l k t = if t < k then undef else l.getD (t - k) undef
  | [], k, t => by simp [argE, undefE]
  | v :: r, k, t => by
    unfold argE
    rw [Env.ap_set, argE_at r (k + 1) t]
    by_cases h1 : t = k
    · subst h1; simp
    · rw [if_neg h1]
      by_cases h2 : t < k
      · rw [if_pos (by omega), if_pos h2]
      · rw [if_neg (by omega), if_neg h2, show t - k = (t - (k + 1)) + 1 by omega]
        simp
theorem initE_eq (l : List Value) : initE l = argE l 0 := by
  funext t
  rw [argE_at]
  simp [initE]
/-- A call's beginning. -/
theorem calls_of {P : Program} {f : FuncId} {fn : Func} {c : Code} {args : List Value} {w : World} {R : Ending → World → Prop} (n : Nat)
    (hf : P.funcs[f]? = some fn) (hb : fn.body = some c) (hn : fn.ntmps = n) (hargs : args.length ≤ n)
    (h : Wp P n c (doneQ P fn R) (argE args 0) w) : Calls P f args.toArray w R := calls_intro hf hb hn hargs (by rw [initE_eq]; exact h)

end Go.Fk

namespace Go.Fk
open Go.RowKit

/-! ### Types -/
class IntT (P : Program) (t : TypeId) (k : outParam IntKind) : Prop where
  hu : P.underlying t = some (.int k)
class SliceT (P : Program) (t : TypeId) (el : outParam TypeId) : Prop where
  hu : P.underlying t = some (.slice el)
class ArrT (P : Program) (t : TypeId) (len : outParam Nat) (el : outParam TypeId) : Prop where
  hu : P.underlying t = some (.array len el)
class Cell1 (P : Program) (t : TypeId) : Prop where
  hu : ∃ d, P.underlying t = some d ∧ d.isRow = false
class SizeT (P : Program) (t : TypeId) (sz : outParam Nat) : Prop where
  hs : (P.info? t).map (·.size) = some sz
class Elem (P : Program) (el : TypeId) (sz bytes : outParam Nat) (z : outParam Value) : Prop where
  hi : (P.info? el).map (fun i => (i.zero, i.size, i.bytes)) = some (some z, sz, bytes)
  zs : z.cells.size = sz
  pos : 0 < sz

theorem SizeT.run {P : Program} {t : TypeId} {sz : Nat} [h : SizeT P t sz] (w : World) : (sizeOf t).run P w = .ok sz w := by
  have := h.hs
  cases hi : P.info? t with
  | none => rw [hi] at this; cases this
  | some i => rw [hi] at this; simp at this; simp [sizeOf, typeInfo, hi, this]
theorem Elem.get {P : Program} {el : TypeId} {sz bytes : Nat} {z : Value} (h : Elem P el sz bytes z) : ∃ i, P.info? el = some i ∧ i.zero = some z ∧ i.size = sz ∧ i.bytes = bytes := by
  have := h.hi
  cases hi : P.info? el with
  | none => rw [hi] at this; cases this
  | some i => rw [hi] at this; simp at this; exact ⟨i, rfl, this.1, this.2.1, this.2.2⟩

/-! ### What is read -/
def At (w : World) (a : Addr) (xs : List Value) : Prop := ∀ j u, xs[j]? = some u → w.cell? (a.add j) = some u
def Rd (w : World) (A : Option Addr) (xs : List Value) : Prop := xs = [] ∨ ∃ a, A = some a ∧ At w a xs

theorem add_add (a : Addr) (i j : Nat) : (a.add i).add j = a.add (i + j) := by
  unfold Addr.add
  by_cases hi : i = 0
  · subst hi; simp
  · by_cases hj : j = 0
    · subst hj; simp
    · rw [if_neg hi, if_neg hj, if_neg (by omega)]; simp; omega
theorem add_block (a : Addr) (i : Nat) : (a.add i).block = a.block := by unfold Addr.add; split <;> rfl
theorem add_zero (a : Addr) : a.add 0 = a := by simp [Addr.add]
theorem add_mk (b o i : Nat) : (⟨b, o, none⟩ : Addr).add i = ⟨b, o + i, none⟩ := Addr.add_mid b o i

theorem cell_lt {w : World} {a : Addr} {v : Value} (h : w.cell? a = some v) : a.block < w.heap.size := block_lt_of_cell h

theorem At.below {w w' : World} {a : Addr} {xs : List Value} (h : At w a xs) (hb : Below w.heap.size w w') : At w' a xs := fun j u hu => by
  rw [hb.cell (cell_lt (h j u hu))]; exact h j u hu
theorem At.drop {w : World} {a : Addr} {xs : List Value} (h : At w a xs) (k : Nat) : At w (a.add k) (xs.drop k) := fun j u hu => by
  rw [add_add]; exact h _ u (by rwa [List.getElem?_drop] at hu)
theorem At.take {w : World} {a : Addr} {xs : List Value} (h : At w a xs) (k : Nat) : At w a (xs.take k) := fun j u hu => by
  rw [List.getElem?_take] at hu
  split at hu
  · exact h j u hu
  · cases hu
theorem Rd.nil (w : World) (A : Option Addr) : Rd w A [] := .inl rfl
theorem Rd.below {w w' : World} {A : Option Addr} {xs : List Value} (h : Rd w A xs) (hb : Below w.heap.size w w') : Rd w' A xs := by
  rcases h with h | ⟨a, h, h'⟩
  · exact .inl h
  · exact .inr ⟨a, h, h'.below hb⟩
theorem Rd.drew {w : World} {A : Option Addr} {xs : List Value} (h : Rd w A xs) : Rd w.drew A xs := h
theorem Rd.at_ {w : World} {A : Option Addr} {xs : List Value} (h : Rd w A xs) {i : Nat} (hi : i < xs.length) : ∃ a, A = some a ∧ At w a xs := by
  rcases h with h | h
  · subst h; simp at hi
  · exact h
theorem Rd.take {w : World} {A : Option Addr} {xs : List Value} (h : Rd w A xs) (k : Nat) : Rd w A (xs.take k) := by
  rcases h with rfl | ⟨a, h, h'⟩
  · exact .inl (by simp)
  · exact .inr ⟨a, h, h'.take k⟩
/-- A slice expression's memory. -/
theorem Rd.slice {w : World} {A : Option Addr} {xs : List Value} (h : Rd w A xs) {l k m sz : Nat} (hk : m = l → k = 0) :
    Rd w (if m = l then A else A.map (·.add (l * sz))) ((xs.drop (l * sz)).take (k * sz)) := by
  by_cases hml : m = l
  · rw [hk hml]; exact .inl (by simp)
  · rw [if_neg hml]
    rcases h with rfl | ⟨a, rfl, h'⟩
    · exact .inl (by simp)
    · exact .inr ⟨_, rfl, (h'.drop _).take _⟩

/-! ### Numbers in memory -/
def bv (l : List UInt8) : List Value := l.map fun b => .int .u8 (b.toNat : Int)
def zv (l : List Int) : List Value := l.map fun z => .int .i64 z
@[simp] theorem bv_length (l : List UInt8) : (bv l).length = l.length := by simp [bv]
@[simp] theorem zv_length (l : List Int) : (zv l).length = l.length := by simp [zv]
theorem bv_append (l r : List UInt8) : bv (l ++ r) = bv l ++ bv r := by simp [bv]
theorem zv_append (l r : List Int) : zv (l ++ r) = zv l ++ zv r := by simp [zv]
theorem bv_take (l : List UInt8) (k : Nat) : bv (l.take k) = (bv l).take k := by simp [bv]
theorem bv_drop (l : List UInt8) (k : Nat) : bv (l.drop k) = (bv l).drop k := by simp [bv]
theorem zv_take (l : List Int) (k : Nat) : zv (l.take k) = (zv l).take k := by simp [zv]
theorem zv_drop (l : List Int) (k : Nat) : zv (l.drop k) = (zv l).drop k := by simp [zv]
theorem bv_get {l : List UInt8} {i : Nat} (h : i < l.length) : (bv l)[i]? = some (.int .u8 (l[i].toNat : Int)) := by simp [bv, h]
theorem zv_get {l : List Int} {i : Nat} (h : i < l.length) : (zv l)[i]? = some (.int .i64 l[i]) := by simp [zv, h]
theorem bv_one (l : List UInt8) : ∀ u ∈ bv l, u.oneCell' = true := by simp [bv, Value.oneCell']
theorem zv_one (l : List Int) : ∀ u ∈ zv l, u.oneCell' = true := by simp [zv, Value.oneCell']

section
variable {P : Program} {I : World → Prop} {ty : TypeId} {e : Env} {x y : Operand} {v : Value} {t el : TypeId}

theorem Det.conv {src dst : TypeId} {k k' : IntKind} {a : Int} [hs : IntT P src k] [hd : IntT P dst k'] (hx : e.eval x = .int k a) : Det P I (.convert src dst x) ty e (.int k' (k'.wrap a)) :=
  Det.convW hs.hu hd.hu hx

theorem Det.load1 [h : Cell1 P t] {a : Addr} (hx : e.eval x = .pointer (some a)) (hc : ∀ w, I w → w.cell? a = some v) : Det P I (.load t x) ty e v := fun _ _ _ _ w hw => by
  obtain ⟨d, hu, hd⟩ := h.hu
  have hagg : (isAgg t).run P w = .ok false w := by
    unfold isAgg
    rw [Sem.run_bind, run_underlying hu w]
    cases d <;> simp_all
  simp [execOp, hx, Instr.loadAt, Instr.sureAddr, loadVar, hagg, hc w hw]

theorem Det.indexS [h : SliceT P t el] {sz : Nat} [hs : SizeT P el sz] {a : Addr} {len cap : Nat} {k : IntKind} {i : Int} (hx : e.eval x = .slice (some a) len cap) (hy : e.eval y = .int k i)
    (h0 : 0 ≤ i) (h1 : i < len) : Det P I (.indexAddr t x y) ty e (.pointer (some (a.add (i.toNat * sz)))) := fun _ _ _ _ w _ => by
  simp [execOp, hx, hy, Instr.indexAt, asIntOf, run_underlying h.hu, h0, h1, SizeT.run (P := P) (t := el) w]

theorem Det.indexA {n : Nat} [h : ArrT P t n el] {sz : Nat} [hs : SizeT P el sz] {a : Addr} {k : IntKind} {i : Int} (hx : e.eval x = .pointer (some a)) (hy : e.eval y = .int k i)
    (h0 : 0 ≤ i) (h1 : i < n) : Det P I (.indexAddr t x y) ty e (.pointer (some (a.add (i.toNat * sz)))) := fun _ _ _ _ w _ => by
  simp [execOp, hx, hy, Instr.indexAt, Instr.sureAddr, asIntOf, run_underlying h.hu, h0, h1, SizeT.run (P := P) (t := el) w]

/-- Elements of one cell; the index a natural number; where the block and the place in it are written out. -/
theorem Det.indexS1 [SliceT P t el] [SizeT P el 1] {a : Addr} {len cap m : Nat} {k : IntKind} (hx : e.eval x = .slice (some a) len cap) {i : Int} (hy : e.eval y = .int k i) (hi : i = (m : Int)) (h1 : m < len) :
    Det P I (.indexAddr t x y) ty e (.pointer (some (a.add m))) := by
  subst hi
  have := Det.indexS (P := P) (I := I) (t := t) (ty := ty) hx hy (by omega) (by omega)
  simpa using this
theorem Det.indexS1B [SliceT P t el] [SizeT P el 1] {g o : Nat} {len cap m : Nat} {k : IntKind} (hx : e.eval x = .slice (some ⟨g, o, none⟩) len cap) {i : Int} (hy : e.eval y = .int k i) (hi : i = (m : Int)) (h1 : m < len) :
    Det P I (.indexAddr t x y) ty e (.pointer (some ⟨g, o + m, none⟩)) := by
  have := Det.indexS1 (P := P) (I := I) (t := t) (ty := ty) hx hy hi h1
  rwa [add_mk] at this
theorem Det.indexA1B {n : Nat} [ArrT P t n el] [SizeT P el 1] {g o m : Nat} {k : IntKind} (hx : e.eval x = .pointer (some ⟨g, o, none⟩)) {i : Int} (hy : e.eval y = .int k i) (hi : i = (m : Int)) (h1 : m < n) :
    Det P I (.indexAddr t x y) ty e (.pointer (some ⟨g, o + m, none⟩)) := by
  subst hi
  have := Det.indexA (P := P) (I := I) (t := t) (ty := ty) hx hy (by omega) (by omega)
  simpa [add_mk] using this

theorem Det.len [h : SliceT P t el] {A : Option Addr} {n cap : Nat} (hx : e.eval x = .slice A n cap) :
    Det P I (.call { callee := .builtin .len, args := #[x], argTypes := #[t] }) ty e (.int .i64 n) := fun _ _ _ _ _ _ => by
  simp [execOp, resolve, invoke, builtin, Builtin.len_, hx, run_underlying h.hu, goInt]

/-- A bound. -/
theorem run_bound {k : IntKind} {i : Int} {y : Nat} {code : BoundsCode} (h0 : 0 ≤ i) (h1 : i ≤ y) (w : World) : (Instr.sliceBound (.int k i) y code).run P w = .ok i.toNat w := by
  simp [Instr.sliceBound, asIntOf, h0, h1]

theorem Det.sliceLo [h : SliceT P t el] {sz : Nat} [hs : SizeT P el sz] {A : Option Addr} {n cap : Nat} {lo : Operand} {k : IntKind} {l : Int} (hx : e.eval x = .slice A n cap) (hl : e.eval lo = .int k l)
    (h0 : 0 ≤ l) (h1 : l ≤ n) : Det P I (.slice t x (some lo) none none) ty e (.slice (if cap = l.toNat then A else A.map (·.add (l.toNat * sz))) (n - l.toNat) (cap - l.toNat)) := fun _ _ _ _ w _ => by
  simp [execOp, hx, hl, Instr.sliceAt, Instr.slice, Instr.sliceBounds, run_underlying h.hu, run_bound h0 h1, SizeT.run (P := P) (t := el) w]
theorem Det.sliceHi [h : SliceT P t el] {sz : Nat} [hs : SizeT P el sz] {A : Option Addr} {n cap : Nat} {hi : Operand} {k : IntKind} {m : Int} (hx : e.eval x = .slice A n cap) (hh : e.eval hi = .int k m)
    (h0 : 0 ≤ m) (h1 : m ≤ cap) : Det P I (.slice t x none (some hi) none) ty e (.slice A m.toNat cap) := fun _ _ _ _ w _ => by
  simp [execOp, hx, hh, Instr.sliceAt, Instr.slice, Instr.sliceBounds, run_underlying h.hu, run_bound h0 h1, SizeT.run (P := P) (t := el) w]
  cases A <;> simp [add_zero]
theorem Det.sliceLoHi [h : SliceT P t el] {sz : Nat} [hs : SizeT P el sz] {A : Option Addr} {n cap : Nat} {lo hi : Operand} {k k' : IntKind} {l m : Int} (hx : e.eval x = .slice A n cap) (hl : e.eval lo = .int k l)
    (hh : e.eval hi = .int k' m) (h0 : 0 ≤ l) (h1 : l ≤ m) (h2 : m ≤ cap) :
    Det P I (.slice t x (some lo) (some hi) none) ty e (.slice (if cap = l.toNat then A else A.map (·.add (l.toNat * sz))) (m.toNat - l.toNat) (cap - l.toNat)) := fun _ _ _ _ w _ => by
  have h3 : l ≤ (m.toNat : Int) := by omega
  simp [execOp, hx, hl, hh, Instr.sliceAt, Instr.slice, Instr.sliceBounds, run_underlying h.hu, run_bound (show (0 : Int) ≤ m by omega) h2, run_bound h0 h3, SizeT.run (P := P) (t := el) w]
theorem Det.sliceHiMax [h : SliceT P t el] {sz : Nat} [hs : SizeT P el sz] {A : Option Addr} {n cap : Nat} {hi mx : Operand} {k k' : IntKind} {m c : Int} (hx : e.eval x = .slice A n cap) (hh : e.eval hi = .int k m)
    (hm : e.eval mx = .int k' c) (h0 : 0 ≤ m) (h1 : m ≤ c) (h2 : c ≤ cap) : Det P I (.slice t x none (some hi) (some mx)) ty e (.slice A m.toNat c.toNat) := fun _ _ _ _ w _ => by
  have h3 : m ≤ (c.toNat : Int) := by omega
  simp [execOp, hx, hh, hm, Instr.sliceAt, Instr.slice, Instr.sliceBounds, run_underlying h.hu, run_bound (show (0 : Int) ≤ c by omega) h2, run_bound h0 h3, SizeT.run (P := P) (t := el) w]
  cases A <;> simp [add_zero]

/-- A slice against nil. -/
theorem run_equalIn_nil [h : SliceT P t el] {A : Option Addr} {n cap : Nat} (d : Nat) (w : World) : (Op.equalIn (d + 1) t (.slice A n cap) (.slice none 0 0)).run P w = .ok A.isNone w := by
  cases A <;> simp [Op.equalIn, run_underlying h.hu]
theorem Det.eqlNil [h : SliceT P t el] {A : Option Addr} {n cap : Nat} (hx : e.eval x = .slice A n cap) (hy : e.eval y = .slice none 0 0) {t' : TypeId} :
    Det P I (.binOp .eql t x y t') ty e (.bool A.isNone) := fun _ _ _ _ w _ => by
  have := run_equalIn_nil (P := P) (t := t) (A := A) (n := n) (cap := cap) 9999 w
  simp only [execOp, hx, hy, eqGuard, binOp]
  simp [Op.equal, Op.maxDepth, this]
end

/-! ### Slices that the call has made -/
/-- v is nil and holds nothing, or leads to the head of a block of its own, from block B on, whose first cells are xs (n elements of sz cells each). -/
def Sl (w : World) (B : Nat) (el : TypeId) (sz : Nat) (v : Value) (n : Nat) (xs : List Value) : Prop :=
  xs.length = n * sz ∧
  ((v = .slice none 0 0 ∧ n = 0) ∨
   ∃ g cap cur, v = .slice (some ⟨g, 0, none⟩) n cap ∧ B ≤ g ∧ w.heap[g]? = some (.cells cur el (0, 0)) ∧ n ≤ cap ∧ cap ≤ maxLen ∧ cap * sz ≤ cur.size ∧ cur.toList.take (n * sz) = xs)

section
variable {w w' : World} {B B' : Nat} {el : TypeId} {sz : Nat} {v : Value} {n : Nat} {xs : List Value}

theorem Sl.nil (w : World) (B : Nat) (el : TypeId) (sz : Nat) : Sl w B el sz (.slice none 0 0) 0 [] := ⟨by simp, .inl ⟨rfl, rfl⟩⟩
theorem Sl.of_own (h : w.ownsRow B el sz v n xs) : Sl w B el sz v n xs := by
  refine ⟨h.1, ?_⟩
  rcases h.2 with h | ⟨g, cap, cur, h1, h2, h3, h4, h5, h6, h7⟩
  · exact .inl h
  · exact .inr ⟨g, cap, cur, h1, h2, h3, h4, h5, Nat.le_of_eq h6.symm, h7⟩
theorem Sl.mono (h : Sl w B el sz v n xs) (hB : B' ≤ B) : Sl w B' el sz v n xs := by
  refine ⟨h.1, ?_⟩
  rcases h.2 with h | ⟨g, cap, cur, h1, h2, h3⟩
  · exact .inl h
  · exact .inr ⟨g, cap, cur, h1, Nat.le_trans hB h2, h3⟩
theorem Sl.form (h : Sl w B el sz v n xs) : ∃ A cap, v = .slice A n cap ∧ n ≤ cap ∧ cap ≤ maxLen ∧ (A = none → n = 0 ∧ cap = 0) ∧ Rd w A xs := by
  obtain ⟨h1, h2⟩ := h
  rcases h2 with ⟨rfl, rfl⟩ | ⟨g, cap, cur, rfl, _, hg, hn, hm, hc, ht⟩
  · exact ⟨none, 0, rfl, Nat.le_refl _, Nat.zero_le _, fun _ => ⟨rfl, rfl⟩, .inl (List.eq_nil_of_length_eq_zero (by simpa using h1))⟩
  · refine ⟨some ⟨g, 0, none⟩, cap, rfl, hn, hm, (by simp), .inr ⟨_, rfl, fun j u hu => ?_⟩⟩
    rw [add_mk, cell_of_row w g (0 + j) cur el (0, 0) hg]
    rw [← ht, List.getElem?_take] at hu
    split at hu
    · simpa using hu
    · cases hu
theorem Sl.own (h : Sl w B el sz v n xs) : v.ownBlock = none ∨ ∃ g, v.ownBlock = some g ∧ B ≤ g ∧ g < w.heap.size := by
  obtain ⟨_, h2⟩ := h
  rcases h2 with ⟨rfl, _⟩ | ⟨g, cap, cur, rfl, hb, hg, _⟩
  · exact .inl rfl
  · exact .inr ⟨g, rfl, hb, (Array.getElem?_eq_some_iff.1 hg).1⟩
theorem Sl.kept {row : Option Nat} (h : Sl w B el sz v n xs) (hg : w.grownBy w' row) (hne : v.ownBlock = none ∨ v.ownBlock ≠ row) : Sl w' B el sz v n xs := by
  refine ⟨h.1, ?_⟩
  rcases h.2 with hn | ⟨g, cap, cur, rfl, hb, hgg, rest⟩
  · exact .inl hn
  · refine .inr ⟨g, cap, cur, rfl, hb, ?_, rest⟩
    rw [hg.block g (Array.getElem?_eq_some_iff.1 hgg).1 (by simpa [Value.ownBlock] using hne)]
    exact hgg
theorem Sl.below (h : Sl w B el sz v n xs) (hb : Below w.heap.size w w') : Sl w' B el sz v n xs :=
  h.kept (row := none) ⟨hb.os, hb.tape, hb.output, hb.size, fun k hk _ => hb.block k hk⟩ (by cases hv : v.ownBlock <;> simp)
theorem Sl.len (h : Sl w B el sz v n xs) : n ≤ maxLen := by
  obtain ⟨_, cap, _, h1, h2, _⟩ := h.form
  omega
end

/-- What changed: blocks from B on alone. -/
theorem Below.of_grown {B : Nat} {w w' : World} {row : Option Nat} (hg : w.grownBy w' row) (hB : B ≤ w.heap.size) (hr : ∀ g, row = some g → B ≤ g) : Below B w w' :=
  (Below.refl B w).grown hg hB hr

section
variable {P : Program} {w : World} {B : Nat} {t el : TypeId} {sz bytes : Nat} {z : Value} {v : Value} {n : Nat} {xs : List Value}

/-- What an append comes to. -/
def Appended (w : World) (B : Nat) (el : TypeId) (sz : Nat) (v : Value) (n : Nat) (xs : List Value) (v' : Value) (w' : World) : Prop :=
  Sl w' B el sz v' n xs ∧ w.grownBy w' v.ownBlock ∧ (v'.ownBlock = v.ownBlock ∨ ∃ g, v'.ownBlock = some g ∧ w.heap.size ≤ g)

theorem run_append_sl [ht : SliceT P t el] [he : Elem P el sz bytes z] (ty : TypeId) (hown : Sl w B el sz v n xs) {A : Option Addr} {m c : Nat} {news : List Value} (hl : news.length = m * sz) (hr : Rd w A news)
    (h1 : ∀ u ∈ news, u.oneCell' = true) (hbytes : (n + m) * bytes ≤ 140737488355328) (hmax : n + m ≤ maxLen) (hbase : B ≤ w.heap.size) :
    ∃ v' w', (Builtin.append_ #[t, t] ty #[v, .slice A m c]).run P w = .ok v' w' ∧ Appended w B el sz v (n + m) (xs ++ news) v' w' := by
  obtain ⟨i, hi, hz, hsize, hby⟩ := he.get
  have hzs := he.zs
  have hsz := he.pos
  subst hsize
  subst hby
  have hlen : (xs ++ news).length = (n + m) * i.size := by rw [List.length_append, hown.1, hl, Nat.add_mul]
  by_cases hm0 : m = 0
  · -- nothing is appended
    subst hm0
    have hn : news = [] := List.eq_nil_of_length_eq_zero (by simpa using hl)
    subst hn
    have hsame : Appended w B el i.size v (n + 0) (xs ++ []) v w := ⟨by simpa using hown, ⟨rfl, rfl, rfl, Nat.le_refl _, fun _ _ _ => rfl⟩, .inl rfl⟩
    refine ⟨v, w, ?_, hsame⟩
    obtain ⟨A', cap, rfl, hnc, _⟩ := hown.form
    cases A <;> cases A' <;> simp [Builtin.append_, run_underlying ht.hu, sizeOf, typeInfo, hi, Builtin.lenOf, Builtin.firstCells, hnc, storeCells, loadCells, loadCellsFrom]
  · have hpos : 0 < news.length := by rw [hl]; exact Nat.mul_pos (by omega) hsz
    obtain ⟨a, rfl, hat⟩ := hr.at_ hpos
    have hmx := hmax
    simp only [maxLen] at hmx
    have grown : ∀ (old : Nat), old < n + m →
        Appended w B el i.size v (n + m) (xs ++ news) (.slice (some ⟨w.heap.size, 0, none⟩) (n + m) (grownCap w (n + m) old el))
          (w.drew.alloc (.cells (xs.toArray ++ news.toArray ++ Builtin.zeroCells z.cells (grownCap w (n + m) old el - (n + m))) el)) := by
      intro old ho
      have hge := grownCap_ge w (n + m) old el
      have hcm : grownCap w (n + m) old el ≤ maxLen := grownCap_le_maxLen w (n + m) old el hmax
      refine ⟨⟨hlen, .inr ⟨w.heap.size, _, _, rfl, hbase, heap_alloc_new w.drew _, hge, hcm, ?_, ?_⟩⟩, ⟨rfl, rfl, rfl, by simp, fun k hk _ => Below.heap_alloc w.drew _ k hk⟩, .inr ⟨_, rfl, Nat.le_refl _⟩⟩
      · simp only [Array.size_append, List.size_toArray, size_zeroCells, hzs, hown.1, hl, ← Nat.add_mul]
        refine Nat.le_of_eq ?_
        congr 1
        omega
      · simp only [Array.toList_append, List.append_assoc]
        rw [← List.append_assoc, ← hlen]
        exact List.take_left
    rcases hown.2 with ⟨rfl, rfl⟩ | ⟨g, cap, cur, rfl, hbg, hg, hnc, hcm, hcs, htake⟩
    · have hx : xs = [] := List.eq_nil_of_length_eq_zero (by simpa using hown.1)
      subst hx
      have hrun := run_append_nil (P := P) w t ty el i z ht.hu hi hz a m c news hl hat (by omega) (by omega) (by have hb := hbytes; simp only [Nat.zero_add] at hb; omega)
      have hgr := grown 0 (by omega)
      simp only [Nat.zero_add, List.nil_append, Array.empty_append] at hgr ⊢
      exact ⟨_, _, hrun, hgr⟩
    · by_cases hroom : n + m ≤ cap
      · have hfit : n * i.size + news.length ≤ cur.size := by rw [hl, ← Nat.add_mul]; exact Nat.le_trans (Nat.mul_le_mul_right _ hroom) hcs
        have hrun := run_append_room (P := P) w t ty el i ht.hu hi g n cap cur hg a m c news hl hat h1 hroom hfit
        refine ⟨_, _, hrun, ⟨hlen, .inr ⟨g, cap, _, rfl, hbg, setRow_heap w g cur _ el _ hg, hroom, hcm, ?_, ?_⟩⟩, ⟨rfl, rfl, rfl, by simp, fun k _ hk => setRow_other w g k _ (fun e => hk (by simp [Value.ownBlock, e]))⟩, .inl rfl⟩
        · simp only [List.size_toArray, List.length_append, List.length_take, List.length_drop, Array.length_toList]
          omega
        · rw [htake, ← hlen]
          exact List.take_left
      · have holds : ∀ j u, xs[j]? = some u → w.cell? ((⟨g, 0, none⟩ : Addr).add j) = some u := by
          intro j u hu
          rw [add_mk, cell_of_row w g (0 + j) cur el (0, 0) hg]
          rw [← htake, List.getElem?_take] at hu
          split at hu
          · simpa using hu
          · cases hu
        have hrun := run_append_grow (P := P) w t ty el i z ht.hu hi hz ⟨g, 0, none⟩ n cap xs hown.1 holds a m c news hl hat (by omega) (by omega) (growslice_fits (by omega) hbytes)
        exact ⟨_, _, hrun, grown cap (by omega)⟩
end

/-! ### Rules that change the world -/
section
variable {P : Program} {N : Nat} {ops : Array Oper} {K : Env → World → Prop} {rest : List Oper} {e : Env} {w : World} {dst : Option Tmp} {ty : TypeId} {pos : String} {after : Array Edge}
variable {B : Nat} {t el : TypeId} {sz bytes : Nat} {z : Value} {v : Value} {n : Nat} {xs : List Value} {x y : Operand}

theorem WpL.append [ht : SliceT P t el] [he : Elem P el sz bytes z] {d : Tmp} (hd : dOk N (some d) = true) (hx : e.eval x = v) {A : Option Addr} {m c : Nat} {news : List Value} (hy : e.eval y = .slice A m c) (hown : Sl w B el sz v n xs) (hr : Rd w A news)
    (hl : news.length = m * sz) (h1 : ∀ u ∈ news, u.oneCell' = true) (hbytes : (n + m) * bytes ≤ 140737488355328) (hmax : n + m ≤ maxLen) (hbase : B ≤ w.heap.size)
    (h : ∀ v' w', Appended w B el sz v (n + m) (xs ++ news) v' w' → WpL P N ops K rest (e.set d v') w') :
    WpL P N ops K (⟨some d, .call { callee := .builtin .append, args := #[x, y], argTypes := #[t, t] }, ty, pos, after, none⟩ :: rest) e w := by
  obtain ⟨v', w', hrun, happ⟩ := run_append_sl (P := P) (t := t) ty hown (c := c) hl hr h1 hbytes hmax hbase
  exact WpL.run hd (by simp [execOp, resolve, invoke, builtin, hx, hy, hrun]) (h v' w' happ)

end

/-! ### Sizes of numbers -/
theorem lim_xor {k : IntKind} {p q : Nat} (hp : p < lim k) (hq : q < lim k) : p ^^^ q < lim k := by
  obtain ⟨s, hs⟩ := lim_pow hp
  rw [hs] at hp hq ⊢; exact Nat.xor_lt_two_pow hp hq
theorem lim_or {k : IntKind} {p q : Nat} (hp : p < lim k) (hq : q < lim k) : p ||| q < lim k := by
  obtain ⟨s, hs⟩ := lim_pow hp
  rw [hs] at hp hq ⊢; exact Nat.or_lt_two_pow hp hq
theorem lim_and {k : IntKind} {p q : Nat} (hp : p < lim k) : p &&& q < lim k := Nat.lt_of_le_of_lt Nat.and_le_left hp
theorem lim_shr {k : IntKind} {p q : Nat} (hp : p < lim k) : p >>> q < lim k := Nat.lt_of_le_of_lt (by rw [Nat.shiftRight_eq_div_pow]; exact Nat.div_le_self _ _) hp

section
variable {P : Program} {I : World → Prop} {ty : TypeId} {e : Env} {x : Operand}
/-- A conversion that loses nothing; one to fewer bits. -/
theorem Det.convLim {src dst : TypeId} {k k' : IntKind} {p : Nat} [IntT P src k] [IntT P dst k'] {a : Int} (hx : e.eval x = .int k a) (ha : a = (p : Int)) (hp : p < lim k') : Det P I (.convert src dst x) ty e (.int k' (p : Int)) := by
  subst ha
  have := Det.conv (P := P) (I := I) (src := src) (dst := dst) (ty := ty) hx
  rwa [wrap_lim hp] at this
theorem Det.convU8 {src dst : TypeId} {k : IntKind} {p : Nat} [IntT P src k] [IntT P dst .u8] {a : Int} (hx : e.eval x = .int k a) (ha : a = (p : Int)) : Det P I (.convert src dst x) ty e (.int .u8 ((p % 256 : Nat) : Int)) := by
  subst ha
  have := Det.conv (P := P) (I := I) (src := src) (dst := dst) (ty := ty) hx
  rwa [IntKind.wrap_u8', show (p : Int) % 256 = ((p % 256 : Nat) : Int) by omega] at this
theorem Det.convU16 {src dst : TypeId} {k : IntKind} {p : Nat} [IntT P src k] [IntT P dst .u16] {a : Int} (hx : e.eval x = .int k a) (ha : a = (p : Int)) : Det P I (.convert src dst x) ty e (.int .u16 ((p % 65536 : Nat) : Int)) := by
  subst ha
  have := Det.conv (P := P) (I := I) (src := src) (dst := dst) (ty := ty) hx
  rwa [IntKind.wrap_u16, show (p : Int) % 65536 = ((p % 65536 : Nat) : Int) by omega] at this
theorem Det.convU32 {src dst : TypeId} {k : IntKind} {p : Nat} [IntT P src k] [IntT P dst .u32] {a : Int} (hx : e.eval x = .int k a) (ha : a = (p : Int)) : Det P I (.convert src dst x) ty e (.int .u32 ((p % 4294967296 : Nat) : Int)) := by
  subst ha
  have := Det.conv (P := P) (I := I) (src := src) (dst := dst) (ty := ty) hx
  rwa [IntKind.wrap_u32', show (p : Int) % 4294967296 = ((p % 4294967296 : Nat) : Int) by omega] at this
end
theorem WpL.norm {P : Program} {n : Nat} {ops : Array Oper} {K : Env → World → Prop} {l : List Oper} {e e' : Env} {w : World} (he : e = e') (h : WpL P n ops K l e' w) : WpL P n ops K l e w := he ▸ h

/-! ### Blocks known whole -/
def Blk (w : World) (g : Nat) (t : TypeId) (cs : Array Value) : Prop := w.heap[g]? = some (.cells cs t (0, 0))
section
variable {w w' : World} {g : Nat} {t : TypeId} {cs : Array Value}
theorem Blk.lt (h : Blk w g t cs) : g < w.heap.size := (Array.getElem?_eq_some_iff.1 h).1
theorem Blk.cell (h : Blk w g t cs) (i : Nat) : w.cell? ⟨g, i, none⟩ = cs[i]? := cell_of_row w g i cs t (0, 0) h
theorem Blk.frozen (h : Blk w g t cs) (i : Nat) : w.frozen? ⟨g, i, none⟩ = false := frozen_of_row w g i cs t h
theorem Blk.new (w : World) (t : TypeId) (cs : Array Value) : Blk (w.alloc (.cells cs t)) w.heap.size t cs := heap_alloc_new w _
theorem Blk.alloc (h : Blk w g t cs) (o : Obj) : Blk (w.alloc o) g t cs := (Below.heap_alloc w o g h.lt).trans h
theorem Blk.below {B : Nat} (h : Blk w g t cs) (hb : Below B w w') (hg : g < B) : Blk w' g t cs := (hb.block g hg).trans h
theorem Blk.stay (h : Blk w g t cs) (hb : Below w.heap.size w w') : Blk w' g t cs := h.below hb h.lt
theorem Blk.grown {row : Option Nat} (h : Blk w g t cs) (hb : w.grownBy w' row) (hg : some g ≠ row) : Blk w' g t cs := (hb.block g h.lt hg).trans h
theorem Blk.setRow (h : Blk w g t cs) (cs' : Array Value) : Blk (w.setRow g cs') g t cs' := setRow_heap w g cs cs' t (0, 0) h
theorem Blk.setCell (h : Blk w g t cs) (i : Nat) (u : Value) : Blk (w.setCell ⟨g, i, none⟩ u) g t (cs.setIfInBounds i u) := heap_setCell_same w g i cs t u h
theorem Blk.at_ (h : Blk w g t cs) : At w ⟨g, 0, none⟩ cs.toList := fun j u hu => by rw [add_mk, h.cell]; simpa using hu
theorem grown_setRow (w : World) (g : Nat) (cs : Array Value) : w.grownBy (w.setRow g cs) (some g) :=
  ⟨rfl, rfl, rfl, by simp, fun k _ hk => setRow_other w g k cs (fun e => hk (by rw [e]))⟩
theorem grown_setCell (w : World) (a : Addr) (u : Value) : w.grownBy (w.setCell a u) (some a.block) :=
  ⟨rfl, rfl, rfl, by simp [World.setCell], fun k _ hk => Below.heap_setCell w a u k (fun e => hk (by rw [e]))⟩
end

section
variable {P : Program} {N : Nat} {ops : Array Oper} {K : Env → World → Prop} {rest : List Oper} {e : Env} {w : World} {ty : TypeId} {pos : String} {after : Array Edge} {x y : Operand} {t el : TypeId}
/-- A load of one cell. -/
theorem WpL.load1 [Cell1 P t] {d : Tmp} {a : Addr} {v : Value} (hd : dOk N (some d) = true) (hx : e.eval x = .pointer (some a)) (hc : w.cell? a = some v) (h : WpL P N ops K rest (e.set d v) w) :
    WpL P N ops K (⟨some d, .load t x, ty, pos, after, none⟩ :: rest) e w := WpL.det hd (Det.load1 hx (by rintro _ rfl; exact hc)) h
/-- A load out of a block known whole. -/
theorem WpL.loadB [Cell1 P t] {d : Tmp} {g i : Nat} {cs : Array Value} {v : Value} (hd : dOk N (some d) = true) (hx : e.eval x = .pointer (some ⟨g, i, none⟩)) (hg : Blk w g el cs) (hc : cs[i]? = some v) (h : WpL P N ops K rest (e.set d v) w) :
    WpL P N ops K (⟨some d, .load t x, ty, pos, after, none⟩ :: rest) e w := WpL.load1 hd hx (by rw [hg.cell, hc]) h
/-- A load of element i of what is read through an address. -/
theorem WpL.loadA [Cell1 P t] {d : Tmp} {a : Addr} {j : Nat} {xs : List Value} {v : Value} (hd : dOk N (some d) = true) (hx : e.eval x = .pointer (some (a.add j))) (hr : At w a xs) (hc : xs[j]? = some v) (h : WpL P N ops K rest (e.set d v) w) :
    WpL P N ops K (⟨some d, .load t x, ty, pos, after, none⟩ :: rest) e w := WpL.load1 hd hx (hr _ _ hc) h

/-- A new variable with a value; a new one of noughts. -/
theorem WpL.box {d : Tmp} {v : Value} (hd : dOk N (some d) = true) (hx : e.eval x = v)
    (h : ∀ w', Below w.heap.size w w' → w'.heap.size = w.heap.size + 1 → Blk w' w.heap.size el v.cells → WpL P N ops K rest (e.set d (.pointer (some ⟨w.heap.size, 0, none⟩))) w') :
    WpL P N ops K (⟨some d, .box el x, ty, pos, after, none⟩ :: rest) e w :=
  WpL.run (w' := w.alloc (.cells v.cells el)) hd (by simp [execOp, hx, Instr.box, newVar, newRow]) (h _ ((Below.refl _ _).alloc (Nat.le_refl _) _) (by simp) (Blk.new _ _ _))
theorem WpL.alloc {sz bytes : Nat} {z : Value} [he : Elem P el sz bytes z] {d : Tmp} (hd : dOk N (some d) = true)
    (h : ∀ w', Below w.heap.size w w' → w'.heap.size = w.heap.size + 1 → Blk w' w.heap.size el z.cells → WpL P N ops K rest (e.set d (.pointer (some ⟨w.heap.size, 0, none⟩))) w') :
    WpL P N ops K (⟨some d, .alloc el, ty, pos, after, none⟩ :: rest) e w := by
  obtain ⟨i, hi, hz, hsize, hby⟩ := he.get
  exact WpL.run (w' := w.alloc (.cells z.cells el)) hd (by simp [execOp, Instr.alloc, zeroValue, typeInfo, hi, hz, newVar, newRow]) (h _ ((Below.refl _ _).alloc (Nat.le_refl _) _) (by simp) (Blk.new _ _ _))

/-- A store of one cell into a block known whole. -/
theorem WpL.store1 [hs : SizeT P t 1] {g i : Nat} {v : Value} {cs : Array Value} (hx : e.eval x = .pointer (some ⟨g, i, none⟩)) (hy : e.eval y = v) (hv : v.oneCell' = true) (hg : Blk w g el cs) (hi : i < cs.size)
    (h : ∀ w', w.grownBy w' (some g) → w'.heap.size = w.heap.size → Blk w' g el (cs.setIfInBounds i v) → WpL P N ops K rest e w') : WpL P N ops K (⟨none, .store t x y, ty, pos, after, none⟩ :: rest) e w := by
  have hcs : v.cells = #[v] := by cases v <;> simp_all [Value.oneCell', Value.cells]
  refine WpL.runSkip (w' := w.setCell ⟨g, i, none⟩ v) rfl ?_ (h _ (grown_setCell _ _ _) (by simp [World.setCell]) (hg.setCell _ _))
  have hst := run_store P w ⟨g, i, none⟩ v .plain hv
  rw [hg.cell, Array.getElem?_eq_getElem hi] at hst
  simp only [hg.frozen, Bool.false_eq_true, if_false] at hst
  simp [execOp, hx, hy, Instr.storeAt, Instr.sureAddr, storeVar, SizeT.run (P := P) (t := t) w, hcs, storeCells, add_zero, hst]

/-- A whole array or struct goes into a block that it fills. -/
theorem WpL.storeRow {n g : Nat} [hs : SizeT P t n] {cells cur : Array Value} (hx : e.eval x = .pointer (some ⟨g, 0, none⟩)) (hy : e.eval y = .agg cells) (hn : cells.size = n) (hc : cur.size = n) (h1 : ∀ v ∈ cells.toList, v.oneCell' = true)
    (hg : Blk w g el cur) (h : ∀ w', w.grownBy w' (some g) → w'.heap.size = w.heap.size → Blk w' g el cells → WpL P N ops K rest e w') : WpL P N ops K (⟨none, .store t x y, ty, pos, after, none⟩ :: rest) e w := by
  refine WpL.runSkip (w' := w.setRow g cells) rfl ?_ (h _ (grown_setRow _ _ _) (by simp) (hg.setRow _))
  have hst := run_storeCells_at P g 0 el cells.toList 0 cur w hg (by simp; omega) h1
  have e1 : (cur.toList.take (0 + 0) ++ cells.toList ++ cur.toList.drop (0 + 0 + cells.toList.length)).toArray = cells := by
    have : cur.toList.drop (0 + 0 + cells.toList.length) = [] := List.drop_eq_nil_of_le (by simp; omega)
    rw [this]; simp
  rw [e1] at hst
  simp [execOp, hx, hy, Instr.storeAt, Instr.sureAddr, storeVar, SizeT.run (P := P) (t := t) w, Value.cells, hn, hst]

theorem _root_.Go.RowKit.Below.step {B : Nat} {w0 w w' : World} {row : Option Nat} (h : Below B w0 w) (hB : B ≤ w0.heap.size) (hg : w.grownBy w' row) (hr : ∀ g, row = some g → B ≤ g) : Below B w0 w' :=
  h.grown hg (Nat.le_trans hB h.size) hr
theorem _root_.Go.RowKit.Below.on {w0 w w' : World} (h : Below w0.heap.size w0 w) (h' : Below w.heap.size w w') : Below w0.heap.size w0 w' := h.trans (h'.mono h.size)
theorem _root_.Go.RowKit.Below.write {w0 w w' : World} {g : Nat} (h : Below w0.heap.size w0 w) (hg : w.grownBy w' (some g)) (hr : w0.heap.size ≤ g) : Below w0.heap.size w0 w' :=
  h.step (Nat.le_refl _) hg (fun k hk => by injection hk with hk; omega)

/-! ### Loops -/
theorem Wp.loopG {Q : Exit → Env → World → Prop} {c : Code} (I : Nat → Env → World → Prop) {m : Nat} (h0 : I m e w)
    (round : ∀ m e w, I m e w → Wp P N c (thenQ (fun e' w' => ∃ m', m' < m ∧ I m' e' w') Q) e w) : Wp P N (.loop c) Q e w := by
  have hex : ∀ e w, (∃ m, I m e w) → ∃ m, I m e w ∧ ∀ k, k < m → ¬ I k e w := fun e w ⟨m, hm⟩ => by
    induction m using Nat.strongRecOn with
    | _ m ih =>
      by_cases h : ∃ k, k < m ∧ I k e w
      · obtain ⟨k, hk, hi⟩ := h; exact ih k hk hi
      · exact ⟨m, hm, fun k hk hi => h ⟨k, hk, hi⟩⟩
  let μ : Env → World → Nat := fun e w => @dite Nat (∃ m, I m e w) (Classical.propDecidable _) (fun h => (hex e w h).choose) (fun _ => 0)
  have hμ : ∀ e w, (∃ m, I m e w) → I (μ e w) e w ∧ ∀ k, k < μ e w → ¬ I k e w := fun e w h => by
    have : μ e w = (hex e w h).choose := by simp only [μ]; rw [dif_pos h]
    rw [this]; exact (hex e w h).choose_spec
  refine Wp.loop (fun e w => ∃ m, I m e w) μ ⟨m, h0⟩ fun e w hI => (round _ e w (hμ e w hI).1).mono fun x e' w' hx => ?_
  cases x with
  | normal =>
    obtain ⟨m', hm', hi⟩ := hx
    refine ⟨⟨m', hi⟩, ?_⟩
    rcases Nat.lt_or_ge m' (μ e' w') with h | h
    · exact absurd hi ((hμ e' w' ⟨m', hi⟩).2 m' h)
    · exact Nat.lt_of_le_of_lt h hm'
  | _ => exact hx
/-- A counter that goes up to M. -/
theorem Wp.loopUp {Q : Exit → Env → World → Prop} {c : Code} (M : Nat) (I : Nat → Env → World → Prop) {k0 : Nat} (hk0 : k0 ≤ M) (h0 : I k0 e w)
    (round : ∀ k e w, k ≤ M → I k e w → Wp P N c (thenQ (fun e' w' => k < M ∧ I (k + 1) e' w') Q) e w) : Wp P N (.loop c) Q e w := by
  refine Wp.loopG (fun m e w => ∃ k, k ≤ M ∧ m = M - k ∧ I k e w) ⟨k0, hk0, rfl, h0⟩ ?_
  rintro m e w ⟨k, hk, rfl, hi⟩
  refine (round k e w hk hi).mono fun x e' w' hx => ?_
  cases x with
  | normal => exact ⟨M - (k + 1), by have := hx.1; omega, k + 1, hx.1, rfl, hx.2⟩
  | _ => exact hx
theorem int_eq {k : IntKind} {a b : Int} (h : a = b) : Value.int k a = Value.int k b := by rw [h]
end

class RowT (P : Program) (t : TypeId) : Prop where
  hu : ∃ d, P.underlying t = some d ∧ d.isRow = true
theorem doneQ_cell {P : Program} {fn : Func} {R : Ending → World → Prop} {e : Env} {w : World} {p : Tmp} {ty t : TypeId} {g n : Nat} {cs : Array Value} [h : RowT P ty] [hs : SizeT P ty n] (hr : fn.results = #[.cell p ty])
    (hp : e p = .pointer (some ⟨g, 0, none⟩)) (hg : Blk w g t cs) (hn : cs.size = n) (hR : R (.returned (.agg cs)) w) : doneQ P fn R .ret e w := by
  obtain ⟨d, hu, hd⟩ := h.hu
  refine ⟨_, fun tmps ht => results_cell_row hr tmps w g t cs (0, 0) d (by rw [ht]; exact hp) hg hu (by cases d <;> simp_all) (by rw [hs.hs, hn]), hR⟩
end Go.Fk

namespace Go.Fk
open Go.RowKit

def fieldOff (P : Program) (s : TypeId) (k : Nat) : Option Nat :=
  match P.underlying s with
  | some (.struct fs) => (match fs[k]? with
    | some f => (match P.info? f.type with
      | some i => if i.size = 0 then none else some f.offset
      | none => none)
    | none => none)
  | _ => none
class FieldT (P : Program) (s : TypeId) (k : Nat) (off : outParam Nat) : Prop where
  h : fieldOff P s k = some off

section
variable {P : Program} {N : Nat} {ops : Array Oper} {K : Env → World → Prop} {rest : List Oper} {e : Env} {w : World} {ty : TypeId} {pos : String} {after : Array Edge} {x y : Operand} {I : World → Prop}

theorem Det.fieldAddr {s : TypeId} {k off g o : Nat} [h : FieldT P s k off] (hx : e.eval x = .pointer (some ⟨g, o, none⟩)) : Det P I (.fieldAddr s x k) ty e (.pointer (some ⟨g, o + off, none⟩)) := fun _ _ _ _ w _ => by
  have hf := h.h
  unfold fieldOff at hf
  split at hf
  · rename_i fs hu
    split at hf
    · rename_i f hk
      split at hf
      · rename_i i hi
        split at hf
        · cases hf
        · rename_i h0
          injection hf with hf
          subst hf
          simp [execOp, hx, Instr.fieldAt, run_underlying hu, hk, Instr.sureAddr, fieldPlace, sizeOf, typeInfo, hi, h0, add_mk]
      · cases hf
    · cases hf
  · cases hf

/-- A guard that holds is struck. -/
theorem WpL.unguard {o : Op} {dst : Option Tmp} {j d : Nat} {b c : Bool} (hj : (ops[j]?).bind (·.dst) = some d) (he : e d = .bool c) (hc : c = b)
    (h : WpL P N ops K (⟨dst, o, ty, pos, after, none⟩ :: rest) e w) : WpL P N ops K (⟨dst, o, ty, pos, after, some (j, b)⟩ :: rest) e w := by
  obtain ⟨h1, h2⟩ := h
  rw [if_pos (by rfl)] at h2
  exact ⟨h1, by
    rw [if_pos (by simp [Region.wanted, yieldedE, hj, he, hc])]
    exact h2⟩

/-- What a composite literal is made of: its noughts, and where each part lies. -/
def buildOf (P : Program) (t : TypeId) : Option (List Value × List (Nat × Nat)) :=
  match P.underlying t, P.info? t with
  | some (.struct fs), some i => (match i.zero with
    | some z => (fs.toList.mapM fun f => (P.info? f.type).map fun j => (f.offset, j.size)).map fun ps => (z.cells.toList, ps)
    | none => none)
  | _, _ => none
class BuildT (P : Program) (t : TypeId) (zero : outParam (List Value)) (places : outParam (List (Nat × Nat))) : Prop where
  h : buildOf P t = some (zero, places)
/-- The parts, as they are. -/
def PVals (e : Env) : List (Nat × Operand) → List (Nat × Value) → Prop
  | [], [] => True
  | (i, x) :: r, (j, v) :: s => i = j ∧ e.eval x = v ∧ PVals e r s
  | _, _ => False
theorem PVals.nil : PVals e [] [] := trivial
theorem PVals.cons {i : Nat} {v : Value} {r : List (Nat × Operand)} {s : List (Nat × Value)} (hx : e.eval x = v) (hr : PVals e r s) : PVals e ((i, x) :: r) ((i, v) :: s) := ⟨rfl, hx, hr⟩
theorem PVals.map : ∀ {r : List (Nat × Operand)} {s : List (Nat × Value)}, PVals e r s → r.map (fun p => (p.1, e.eval p.2)) = s
  | [], [], _ => rfl
  | (i, x) :: r, (j, v) :: s, ⟨h1, h2, h3⟩ => by simp [h1, h2, PVals.map h3]
theorem run_mapM_places : ∀ (l : List Field) (ps : List (Nat × Nat)), (l.mapM fun f => (P.info? f.type).map fun j => (f.offset, j.size)) = some ps →
    (l.mapM fun f => (do pure (f.offset, ← sizeOf f.type) : Sem (Nat × Nat))).run P w = .ok ps w
  | [], ps, h => by
    simp at h
    subst h; simp
  | f :: l, ps, h => by
    simp only [List.mapM_cons, Option.bind_eq_bind, Option.bind_eq_some_iff, Option.map_eq_some_iff, Option.pure_def, Option.some.injEq] at h
    obtain ⟨p, ⟨i, hi, rfl⟩, ps', h2, rfl⟩ := h
    have ih := run_mapM_places l ps' h2
    simp only [List.mapM_cons, Sem.run_bind, sizeOf, typeInfo, run_program, hi, Sem.run_pure, Result.andThen_ok]
    simp only [sizeOf, typeInfo] at ih
    rw [ih]
    simp
theorem Det.build {t : TypeId} {zero cells : List Value} {places : List (Nat × Nat)} [hb : BuildT P t zero places] {r : List (Nat × Operand)} {s : List (Nat × Value)} (hv : PVals e r s)
    (hf : Instr.fill (places.toArray[·]?) zero.toArray s = some cells.toArray) : Det P I (.build t r.toArray) ty e (.agg cells.toArray) := fun _ _ _ _ w _ => by
  have h := hb.h
  unfold buildOf at h
  split at h
  · rename_i fs i hu hi
    split at h
    · rename_i z hz
      simp only [Option.map_eq_some_iff, Prod.mk.injEq] at h
      obtain ⟨ps, h1, h2, rfl⟩ := h
      have hm := run_mapM_places (w := w) fs.toList ps h1
      have hm' : (fs.mapM fun f => (do pure (f.offset, ← sizeOf f.type) : Sem (Nat × Nat))).run P w = .ok ps.toArray w := by
        rw [← Array.toArray_toList (xs := fs), List.mapM_toArray]
        show ((fs.toList.mapM fun f => (do pure (f.offset, ← sizeOf f.type) : Sem (Nat × Nat))) >>= fun a => pure a.toArray).run P w = _
        rw [Sem.run_bind, hm]
        rfl
      have hz' : z.cells = zero.toArray := by rw [← h2]
      have hmap : (r.toArray.map fun (i, x) => (i, e.eval x)) = s.toArray := by rw [List.map_toArray]; exact congrArg List.toArray hv.map
      simp only [execOp, Instr.build, hmap, Sem.run_bind, zeroValue, typeInfo, run_program, hi, hz, Sem.run_pure, Result.andThen_ok, run_underlying hu, hm', hz', hf]
    · cases h
  · cases h
end
end Go.Fk
