/-
  A rule for a region that draws its order: each operation is shown once, in the order of the text, against every world that the
  others may leave; a tail of operations that is forced to come last is walked in order. It holds for any program.
-/
import Derived.Test.YtaapnfoimcccjaaEng
namespace Go.Fk

/-- What an operation looks at and writes. -/
def namesOf (ops : Array Oper) (o : Oper) : List Tmp := o.looksAt ops ++ o.dst.toList

/-- The operations ahead of which each one can't come: a set of bits each. -/
def befores : List Oper → List Nat → List Nat
  | [], bs => bs
  | o :: r, bs => befores r (bs ++ [o.after.toList.foldl (fun s e => if Region.binds .any e then s ||| 2 ^ e.on ||| bs.getD e.on 0 else s) 0])

def allB (n : Nat) (p : Nat → Bool) : Bool := (List.range n).all p

/-- Edges lead back; whoever touches a temporary that another writes is ordered to it as in the text; from N on all are ordered. -/
def rgOk (l : List Oper) (N : Nat) : Bool :=
  let ops := l.toArray
  let bs := befores l []
  let nm := l.map (namesOf ops)
  let ds := l.map (·.dst)
  (allB l.length fun i => (l.getD i default).after.toList.all fun e => !Region.binds .any e || Nat.blt e.on i) &&
  (allB l.length fun i => allB l.length fun j =>
    i == j || !((nm.getD i []).any fun t => (ds.getD j none) == some t) || (bs.getD (max i j) 0).testBit (min i j)) &&
  (allB l.length fun i => Nat.blt i N || allB i fun j => (bs.getD i 0).testBit j)

section
variable {l : List Oper}

/-- All that L says of the direct predecessors of i it says of j: for each L that is shut under going back. -/
def Bef (l : List Oper) (i j : Nat) : Prop :=
  ∀ L : Nat → Prop, (∀ k o e, l[k]? = some o → e ∈ o.after.toList → Region.binds .any e = true → L k → L e.on) →
    (∀ o e, l[i]? = some o → e ∈ o.after.toList → Region.binds .any e = true → L e.on) → L j

theorem Bef.of_listed {i j : Nat} (h : Bef l i j) {L : Nat → Prop} (hL : ∀ k o e, l[k]? = some o → e ∈ o.after.toList → Region.binds .any e = true → L k → L e.on) (hi : L i) : L j :=
  h L hL fun o e ho he hb => hL i o e ho he hb hi

theorem testBit_foldl (es : List Edge) (bs : List Nat) (j : Nat) : ∀ s : Nat,
    (es.foldl (fun s e => if Region.binds .any e then s ||| 2 ^ e.on ||| bs.getD e.on 0 else s) s).testBit j = true →
    s.testBit j = true ∨ ∃ e ∈ es, Region.binds .any e = true ∧ (e.on = j ∨ (bs.getD e.on 0).testBit j = true) := by
  induction es with
  | nil => intro s h; exact .inl h
  | cons e es ih =>
    intro s h
    rw [List.foldl_cons] at h
    rcases ih _ h with h | ⟨e', he', hb, h⟩
    · by_cases hb : Region.binds .any e = true
      · rw [if_pos hb] at h
        simp only [Nat.testBit_or, Bool.or_eq_true, Nat.testBit_two_pow, decide_eq_true_eq] at h
        rcases h with (h | h) | h
        · exact .inl h
        · exact .inr ⟨e, List.mem_cons_self, hb, .inl h⟩
        · exact .inr ⟨e, List.mem_cons_self, hb, .inr h⟩
      · rw [if_neg hb] at h; exact .inl h
    · exact .inr ⟨e', List.mem_cons_of_mem _ he', hb, h⟩

theorem befores_spec : ∀ (r : List Oper) (bs : List Nat) (k : Nat), bs.length = k → (∀ j, r[j]? = l[k + j]?) →
    (∀ i j, i < k → (bs.getD i 0).testBit j = true → Bef l i j) →
    (∀ i j, ((befores r bs).getD i 0).testBit j = true → Bef l i j)
  | [], bs, k, hk, _, hb => fun i j h => by
    by_cases hi : i < k
    · exact hb i j hi h
    · rw [befores, List.getD_eq_getElem?_getD, List.getElem?_eq_none (by omega)] at h
      simp at h
  | o :: r, bs, k, hk, hr, hb => by
    refine befores_spec r _ (k + 1) (by simp [hk]) (fun j => by have := hr (j + 1); simpa [Nat.add_assoc, Nat.add_comm 1 j] using this) fun i j hi h => ?_
    by_cases hik : i < k
    · rw [List.getD_eq_getElem?_getD, List.getElem?_append_left (by omega), ← List.getD_eq_getElem?_getD] at h
      exact hb i j hik h
    · have hik : i = k := by omega
      subst hik
      have ho : l[i]? = some o := by simpa using (hr 0).symm
      have e1 : (bs ++ [o.after.toList.foldl (fun s e => if Region.binds .any e then s ||| 2 ^ e.on ||| bs.getD e.on 0 else s) 0]).getD i 0 =
          o.after.toList.foldl (fun s e => if Region.binds .any e then s ||| 2 ^ e.on ||| bs.getD e.on 0 else s) 0 := by
        rw [List.getD_eq_getElem?_getD, List.getElem?_append_right (by omega)]; simp [hk]
      rw [e1] at h
      rcases testBit_foldl _ _ _ _ h with h | ⟨e, he, hbd, h⟩
      · simp at h
      · intro L hL hp
        rcases h with h | h
        · rw [← h]; exact hp o e ho he hbd
        · by_cases hlt : e.on < i
          · exact (hb e.on j hlt h).of_listed hL (hp o e ho he hbd)
          · rw [List.getD_eq_getElem?_getD, List.getElem?_eq_none (by omega)] at h
            simp at h

structure RgOk (l : List Oper) (N : Nat) : Prop where
  back : ∀ i o e, l[i]? = some o → e ∈ o.after.toList → Region.binds .any e = true → e.on < i
  order : ∀ i j oi oj t, l[i]? = some oi → l[j]? = some oj → i ≠ j → t ∈ namesOf l.toArray oi → oj.dst = some t → Bef l (max i j) (min i j)
  tail : ∀ i j, i < l.length → N ≤ i → j < i → Bef l i j

theorem allB_spec {n : Nat} {p : Nat → Bool} (h : allB n p = true) (i : Nat) (hi : i < n) : p i = true :=
  List.all_eq_true.1 h i (by simpa using hi)

theorem rgOk_spec {N : Nat} (h : rgOk l N = true) : RgOk l N := by
  unfold rgOk at h
  simp only [Bool.and_eq_true] at h
  obtain ⟨⟨h1, h2⟩, h3⟩ := h
  have hbs : ∀ i j, ((befores l []).getD i 0).testBit j = true → Bef l i j := befores_spec l [] 0 rfl (by simp) (by intro i j h; omega)
  refine ⟨fun i o e ho he hb => ?_, fun i j oi oj t hi hj hne ht hd => ?_, fun i j hi hN hj => ?_⟩
  · have hlt : i < l.length := (List.getElem?_eq_some_iff.1 ho).1
    have h := allB_spec h1 i hlt
    rw [List.getD_eq_getElem?_getD, ho] at h
    have := List.all_eq_true.1 h e he
    rw [hb] at this
    simpa [Nat.blt_eq] using this
  · have hlt : i < l.length := (List.getElem?_eq_some_iff.1 hi).1
    have hlt' : j < l.length := (List.getElem?_eq_some_iff.1 hj).1
    have h := allB_spec (allB_spec h2 i hlt) j hlt'
    simp only [List.getD_eq_getElem?_getD, List.getElem?_map, hi, hj, Option.map_some, Option.getD_some, Bool.or_eq_true, beq_iff_eq] at h
    rcases h with (h | h) | h
    · exact absurd h hne
    · exfalso
      have : ((namesOf l.toArray oi).any fun u => oj.dst == some u) = true := List.any_eq_true.2 ⟨t, ht, by rw [hd]; simp⟩
      rw [this] at h
      simp at h
    · exact hbs _ _ (by simpa [List.getD_eq_getElem?_getD] using h)
  · have h := allB_spec h3 i hi
    simp only [Bool.or_eq_true] at h
    rcases h with h | h
    · simp only [Nat.blt_eq] at h; omega
    · exact hbs _ _ (allB_spec h j hj)
end

/-! ### The rule -/
abbrev Spec := Value → World → Prop

/-- What an operation yields, as a condition. -/
def RunsTo (P : Program) (o : Oper) (ev : Operand → Value) (w : World) (φ : Value → World → Prop) : Prop :=
  match (execOp ev o).run P w with
  | .ok (.value v) w' => φ v w'
  | .ok .skip w' => φ undef w'
  | .ok (.enter f args) w' => Calls P f args w' fun x w'' => ∃ v, x = .returned v ∧ φ v w''
  | .ok (.row row args) w' => Rows P row args w' φ
  | _ => False

def Ob (P : Program) (ops : Array Oper) (I : World → Prop) (St : World → World → Prop) (o : Oper) (Γ : Tmp → Spec) (V : Spec) : Prop :=
  ∀ (e : Env) (w : World), I w → (∀ t ∈ o.looksAt ops, Γ t (e t) w) →
    if Region.wanted o (yieldedE ops e) then RunsTo P o e.eval w (fun v w' => I w' ∧ St w w' ∧ V v w') else V undef w

def setG (Γ : Tmp → Spec) (d : Option Tmp) (V : Spec) : Tmp → Spec := fun t => if d = some t then V else Γ t

/-- The operations in the order of the text, each with what it yields. -/
def RgL (P : Program) (n : Nat) (ops : Array Oper) (I : World → Prop) (St : World → World → Prop) (Fin : (Tmp → Spec) → Prop) : List Oper → (Tmp → Spec) → Prop
  | [], Γ => Fin Γ
  | o :: r, Γ => ∃ V : Spec, dOk n o.dst = true ∧ (∀ v w w', V v w → I w → I w' → St w w' → V v w') ∧ Ob P ops I St o Γ V ∧ RgL P n ops I St Fin r (setG Γ o.dst V)

section
variable {P : Program} {n : Nat} {l : List Oper} {I : World → Prop} {St : World → World → Prop}

/-- The context ahead of operation i. -/
def ctx (ops : List Oper) (Vs : List Spec) (Γ0 : Tmp → Spec) : Nat → Tmp → Spec
  | 0 => Γ0
  | i + 1 => setG (ctx ops Vs Γ0 i) ((ops[i]?).bind (·.dst)) (Vs.getD i fun _ _ => False)

theorem RgL.specs {ops : Array Oper} {Fin : (Tmp → Spec) → Prop} {l : List Oper} {Γ0 : Tmp → Spec} : ∀ (r : List Oper) (k : Nat) (Vs : List Spec), Vs.length = k → (∀ j, r[j]? = l[k + j]?) →
    RgL P n ops I St Fin r (ctx l Vs Γ0 k) →
    ∃ Vs' : List Spec, Vs'.length = k + r.length ∧ (∀ i, i < k → Vs'[i]? = Vs[i]?) ∧ Fin (ctx l Vs' Γ0 (k + r.length)) ∧
      ∀ i o, k ≤ i → i < k + r.length → l[i]? = some o → ∃ V, Vs'[i]? = some V ∧ dOk n o.dst = true ∧ (∀ v w w', V v w → I w → I w' → St w w' → V v w') ∧ Ob P ops I St o (ctx l Vs' Γ0 i) V
  | [], k, Vs, hk, _, h => ⟨Vs, by simpa using hk, fun _ _ => rfl, h, fun i o h1 h2 => by simp at h2; omega⟩
  | o :: r, k, Vs, hk, hr, h => by
    obtain ⟨V, hd, hst, hob, h⟩ := h
    have ho : l[k]? = some o := by simpa using (hr 0).symm
    have hpre : ∀ (Vs' : List Spec) (i : Nat), (∀ j, j < i → Vs'[j]? = Vs[j]?) → ctx l Vs' Γ0 i = ctx l Vs Γ0 i := fun Vs' i => by
      induction i with
      | zero => intro _; rfl
      | succ i ih =>
        intro hj
        simp only [ctx]
        rw [ih fun j h => hj j (by omega), List.getD_eq_getElem?_getD, List.getD_eq_getElem?_getD, hj i (by omega)]
    have e1 : ∀ j, j < k → (Vs ++ [V])[j]? = Vs[j]? := fun j hj => by rw [List.getElem?_append_left (by omega)]
    have e2 : (Vs ++ [V])[k]? = some V := by rw [List.getElem?_append_right (by omega)]; simp [hk]
    have hctx : ctx l (Vs ++ [V]) Γ0 (k + 1) = setG (ctx l Vs Γ0 k) o.dst V := by
      simp only [ctx]
      rw [hpre _ k e1, ho, List.getD_eq_getElem?_getD, e2]
      rfl
    obtain ⟨Vs', h1, h2, h3, h4⟩ := RgL.specs r (k + 1) (Vs ++ [V]) (by simp [hk]) (fun j => by have := hr (j + 1); simpa [Nat.add_assoc, Nat.add_comm 1 j] using this) (by rw [hctx]; exact h)
    have h2' : ∀ i, i < k → Vs'[i]? = Vs[i]? := fun i hi => (h2 i (by omega)).trans (e1 i hi)
    refine ⟨Vs', by simp at h1 ⊢; omega, h2', by simpa [Nat.add_assoc, Nat.add_comm 1] using h3, fun i o' hi1 hi2 ho' => ?_⟩
    by_cases hik : i = k
    · subst hik
      rw [ho] at ho'
      injection ho' with ho'
      subst ho'
      exact ⟨V, (h2 i (by omega)).trans e2, hd, hst, by rw [hpre Vs' i h2']; exact hob⟩
    · exact h4 i o' (by omega) (by simp at hi2; omega) ho'

/-- How far the run of a region has come: what is listed; the frame; the world. -/
structure Mid (l : List Oper) (N : Nat) (Vs : List Spec) (Γ0 : Tmp → Spec) (I : World → Prop) (listed : Array Bool) (e : Env) (w : World) : Prop where
  size : listed.size = l.length
  inv : I w
  down : ∀ k o ed, l[k]? = some o → ed ∈ o.after.toList → Region.binds .any ed = true → listed.getD k true = true → listed.getD ed.on true = true
  head : ∀ i, N ≤ i → i < l.length → listed.getD i true = false
  last : ∀ j o d, l[j]? = some o → o.dst = some d → listed.getD j true = true → (∀ j' o', j < j' → l[j']? = some o' → o'.dst = some d → listed.getD j' true = false) →
    ∀ V, Vs[j]? = some V → V (e d) w
  none : ∀ t, (∀ j o, l[j]? = some o → o.dst = some t → listed.getD j true = false) → Γ0 t (e t) w

/-- The last writer of a temporary ahead of i, if there is one. -/
theorem ctx_at (Vs : List Spec) (Γ0 : Tmp → Spec) (t : Tmp) : ∀ i, i ≤ l.length →
    ((∀ j o, j < i → l[j]? = some o → o.dst ≠ some t) ∧ ctx l Vs Γ0 i t = Γ0 t) ∨
    ∃ j o, j < i ∧ l[j]? = some o ∧ o.dst = some t ∧ (∀ j' o', j < j' → j' < i → l[j']? = some o' → o'.dst ≠ some t) ∧ ctx l Vs Γ0 i t = Vs.getD j fun _ _ => False
  | 0, _ => .inl ⟨fun j o h => by omega, rfl⟩
  | i + 1, hi => by
    have hlt : i < l.length := by omega
    have ho : l[i]? = some l[i] := List.getElem?_eq_getElem hlt
    by_cases hd : l[i].dst = some t
    · refine .inr ⟨i, l[i], by omega, ho, hd, fun j' o' h1 h2 => by omega, ?_⟩
      simp [ctx, ho, setG, hd]
    · have hc : ctx l Vs Γ0 (i + 1) t = ctx l Vs Γ0 i t := by simp [ctx, ho, setG, hd]
      rw [hc]
      rcases ctx_at Vs Γ0 t i (by omega) with ⟨h1, h2⟩ | ⟨j, o, h1, h2, h3, h4, h5⟩
      · refine .inl ⟨fun j o hj hjo => ?_, h2⟩
        by_cases hji : j = i
        · subst hji; rw [ho] at hjo; injection hjo with hjo; rw [← hjo]; exact hd
        · exact h1 j o (by omega) hjo
      · refine .inr ⟨j, o, by omega, h2, h3, fun j' o' hj1 hj2 hjo => ?_, h5⟩
        by_cases hji : j' = i
        · subst hji; rw [ho] at hjo; injection hjo with hjo; rw [← hjo]; exact hd
        · exact h4 j' o' hj1 (by omega) hjo

theorem getD_set_same {a : Array Bool} {i : Nat} : (a.setIfInBounds i true).getD i true = true := by
  rw [Array.getD_eq_getD_getElem?, Array.getElem?_setIfInBounds_self]
  split <;> rfl

theorem looks_names {ops : Array Oper} {o : Oper} {t : Tmp} (h : t ∈ o.looksAt ops) : t ∈ namesOf ops o := List.mem_append_left _ h
theorem dst_names {ops : Array Oper} {o : Oper} {t : Tmp} (h : o.dst = some t) : t ∈ namesOf ops o := List.mem_append_right _ (by rw [h]; exact List.mem_singleton_self t)

/-- Behind one operation. -/
theorem Mid.step {N : Nat} {Vs : List Spec} {Γ0 : Tmp → Spec} {listed : Array Bool} {e : Env} {w w' : World} (hok : RgOk l N) (hm : Mid l N Vs Γ0 I listed e w)
    (hst : ∀ (i : Nat) (V : Spec) v w w', Vs[i]? = some V → V v w → I w → I w' → St w w' → V v w') (h0 : ∀ t v w w', Γ0 t v w → I w → I w' → St w w' → Γ0 t v w')
    {i : Nat} {o : Oper} (ho : l[i]? = some o) (hun : listed.getD i true = false) (hiN : i < N) (hpre : ∀ ed ∈ o.after.toList, Region.binds .any ed = true → listed.getD ed.on true = true)
    {v : Value} (hI : I w') (hS : St w w') (hV : ∀ V, Vs[i]? = some V → V v w') : Mid l N Vs Γ0 I (listed.setIfInBounds i true) (e.setD o.dst v) w' := by
  have hget : ∀ k, (listed.setIfInBounds i true).getD k true = true ↔ k = i ∨ listed.getD k true = true := fun k => by
    by_cases hk : k = i
    · subst hk; simp only [getD_set_same, true_or]
    · rw [getD_set_ne true (Ne.symm hk)]; simp [hk]
  have hgetf : ∀ k, (listed.setIfInBounds i true).getD k true = false ↔ k ≠ i ∧ listed.getD k true = false := fun k => by
    have := hget k
    cases hb : (listed.setIfInBounds i true).getD k true <;> cases hb' : listed.getD k true <;> simp [hb, hb'] at this ⊢ <;> exact this
  -- whoever writes what i writes, and is listed, stands ahead of i
  have hw : ∀ j oj d, l[j]? = some oj → oj.dst = some d → o.dst = some d → j ≠ i → listed.getD j true = true → j < i := fun j oj d hj hjd hd hne hl => by
    rcases Nat.lt_or_ge j i with h | h
    · exact h
    · exfalso
      have hb := hok.order j i oj o d hj ho hne (dst_names hjd) hd
      rw [Nat.max_eq_left (by omega), Nat.min_eq_right (by omega)] at hb
      have := hb.of_listed (L := fun k => listed.getD k true = true) hm.down hl
      rw [hun] at this
      cases this
  have hw2 : ∀ j oj d, l[j]? = some oj → oj.dst = some d → o.dst = some d → j < i → listed.getD j true = true := fun j oj d hj hjd hd hlt => by
    have hb := hok.order i j o oj d ho hj (by omega) (dst_names hd) hjd
    rw [Nat.max_eq_left (by omega), Nat.min_eq_right (by omega)] at hb
    exact hb _ hm.down fun o' ed ho' he hbd => by rw [ho] at ho'; injection ho' with ho'; subst ho'; exact hpre ed he hbd
  refine ⟨by simp [hm.size], hI, fun k o' ed hk he hb hl => ?_, fun k h1 h2 => (hgetf k).2 ⟨by omega, hm.head k h1 h2⟩, fun j oj d hj hd hl hlater V hVj => ?_, fun t hno => ?_⟩
  · rcases (hget k).1 hl with rfl | hl
    · rw [ho] at hk; injection hk with hk; subst hk
      exact (hget _).2 (.inr (hpre ed he hb))
    · exact (hget _).2 (.inr (hm.down k o' ed hk he hb hl))
  · rcases (hget j).1 hl with rfl | hl'
    · rw [ho] at hj; injection hj with hj; subst hj
      rw [hd]; simp only [Env.setD, Env.set_same]
      exact hV V hVj
    · by_cases hji : j = i
      · subst hji; rw [hun] at hl'; cases hl'
      by_cases hod : o.dst = some d
      · -- i writes d, and j is ahead of i: then i is a later writer that is listed
        have hlt := hw j oj d hj hd hod hji hl'
        have := hlater i o hlt ho hod
        rw [(hget i).2 (.inl rfl)] at this
        cases this
      · have hed : (e.setD o.dst v) d = e d := by
          cases h : o.dst with
          | none => rfl
          | some d' => exact Env.set_other e v (fun h' => hod (by rw [h, h']))
        rw [hed]
        refine hst j V _ w w' hVj (hm.last j oj d hj hd hl' (fun j' o' h1 h2 h3 => ((hgetf j').1 (hlater j' o' h1 h2 h3)).2) V hVj) hm.inv hI hS
  · have hod : o.dst ≠ some t := fun h => by
      have := hno i o ho h
      rw [(hget i).2 (.inl rfl)] at this
      cases this
    have hed : (e.setD o.dst v) t = e t := by
      cases h : o.dst with
      | none => rfl
      | some d' => exact Env.set_other e v (fun h' => hod (by rw [h, h']))
    rw [hed]
    exact h0 t _ w w' (hm.none t fun j oj hj hd => ((hgetf j).1 (hno j oj hj hd)).2) hm.inv hI hS

/-- What i looks at is what the text's order says. -/
theorem Mid.looks {N : Nat} {Vs : List Spec} {Γ0 : Tmp → Spec} {listed : Array Bool} {e : Env} {w : World} (hok : RgOk l N) (hm : Mid l N Vs Γ0 I listed e w) (hlen : Vs.length = N) (hN : N ≤ l.length)
    {i : Nat} {o : Oper} (ho : l[i]? = some o) (hun : listed.getD i true = false) (hiN : i < N) (hpre : ∀ ed ∈ o.after.toList, Region.binds .any ed = true → listed.getD ed.on true = true) :
    ∀ t ∈ o.looksAt l.toArray, ctx l Vs Γ0 i t (e t) w := fun t ht => by
  have hafter : ∀ j oj, i ≤ j → l[j]? = some oj → oj.dst = some t → listed.getD j true = false := fun j oj hij hj hd => by
    by_cases hji : j = i
    · subst hji; exact hun
    cases hl : listed.getD j true with
    | false => rfl
    | true =>
      exfalso
      have hb := hok.order i j o oj t ho hj (Ne.symm hji) (looks_names ht) hd
      rw [Nat.max_eq_right (by omega), Nat.min_eq_left (by omega)] at hb
      have := hb.of_listed (L := fun k => listed.getD k true = true) hm.down hl
      rw [hun] at this
      cases this
  rcases ctx_at (l := l) Vs Γ0 t i (by omega) with ⟨h1, h2⟩ | ⟨j, oj, h1, h2, h3, h4, h5⟩
  · rw [h2]
    refine hm.none t fun j oj hj hd => ?_
    rcases Nat.lt_or_ge j i with h | h
    · exact absurd hd (h1 j oj h hj)
    · exact hafter j oj h hj hd
  · rw [h5]
    have hb := hok.order i j o oj t ho h2 (by omega) (looks_names ht) h3
    rw [Nat.max_eq_left (by omega), Nat.min_eq_right (by omega)] at hb
    have hlj : listed.getD j true = true := hb _ hm.down fun o' ed ho' he hbd => by rw [ho] at ho'; injection ho' with ho'; subst ho'; exact hpre ed he hbd
    have hV : Vs[j]? = some Vs[j] := List.getElem?_eq_getElem (by omega)
    rw [List.getD_eq_getElem?_getD, hV]
    refine hm.last j oj t h2 h3 hlj (fun j' o' hj1 hj2 hj3 => ?_) _ hV
    rcases Nat.lt_or_ge j' i with h | h
    · exact absurd hj3 (h4 j' o' hj1 h hj2)
    · exact hafter j' o' h hj2 hj3

/-- All of the head has come up. -/
theorem Mid.full {N : Nat} {Vs : List Spec} {Γ0 : Tmp → Spec} {listed : Array Bool} {e : Env} {w : World} (hm : Mid l N Vs Γ0 I listed e w) (hlen : Vs.length = N) (hN : N ≤ l.length)
    (hall : ∀ i, i < N → listed.getD i true = true) : ∀ t, ctx l Vs Γ0 N t (e t) w := fun t => by
  rcases ctx_at (l := l) Vs Γ0 t N hN with ⟨h1, h2⟩ | ⟨j, oj, h1, h2, h3, h4, h5⟩
  · rw [h2]
    refine hm.none t fun j oj hj hd => ?_
    rcases Nat.lt_or_ge j N with h | h
    · exact absurd hd (h1 j oj h hj)
    · exact hm.head j h (List.getElem?_eq_some_iff.1 hj).1
  · rw [h5]
    have hV : Vs[j]? = some Vs[j] := List.getElem?_eq_getElem (by omega)
    rw [List.getD_eq_getElem?_getD, hV]
    refine hm.last j oj t h2 h3 (hall j h1) (fun j' o' hj1 hj2 hj3 => ?_) _ hV
    rcases Nat.lt_or_ge j' N with h | h
    · exact absurd hj3 (h4 j' o' hj1 h hj2)
    · exact hm.head j' h (List.getElem?_eq_some_iff.1 hj2).1

/-- How many have not come up. -/
def left (m : Nat) (listed : Array Bool) : Nat := ((List.range m).filter fun i => !listed.getD i true).length

theorem left_set {m : Nat} {listed : Array Bool} {i : Nat} (hi : i < m) (hun : listed.getD i true = false) : left m (listed.setIfInBounds i true) < left m listed := by
  unfold left
  have hsub : ∀ (r : List Nat), (r.filter fun k => !(listed.setIfInBounds i true).getD k true).length ≤ (r.filter fun k => !listed.getD k true).length ∧
      (i ∈ r → (r.filter fun k => !(listed.setIfInBounds i true).getD k true).length < (r.filter fun k => !listed.getD k true).length) := fun r => by
    induction r with
    | nil => simp
    | cons k r ih =>
      by_cases hk : k = i
      · subst hk
        simp only [List.filter_cons, getD_set_same, hun, Bool.not_true, Bool.not_false, if_true, Bool.false_eq_true, if_false, List.length_cons]
        exact ⟨by omega, fun _ => by omega⟩
      · rw [List.filter_cons, List.filter_cons, getD_set_ne true (Ne.symm hk)]
        cases hb : listed.getD k true
        · simp only [Bool.not_false, if_true, List.length_cons, List.mem_cons]
          exact ⟨by omega, fun h => by have := ih.2 (h.resolve_left (Ne.symm hk)); omega⟩
        · simp only [Bool.not_true, Bool.false_eq_true, if_false, List.mem_cons]
          exact ⟨ih.1, fun h => ih.2 (h.resolve_left (Ne.symm hk))⟩
  exact (hsub _).2 (by simpa using hi)

theorem left_zero {m : Nat} {listed : Array Bool} (h : left m listed = 0) : ∀ i, i < m → listed.getD i true = true := fun i hi => by
  cases hb : listed.getD i true with
  | true => rfl
  | false =>
    have hmem : i ∈ (List.range m).filter fun i => !listed.getD i true := List.mem_filter.2 ⟨by simpa using hi, by rw [hb]; rfl⟩
    unfold left at h
    rw [List.length_eq_zero_iff.1 h] at hmem
    cases hmem

theorem ready_nil_of_all {listed : Array Bool} (h : ∀ i, i < l.length → listed.getD i true = true) : Region.ready .any l.toArray listed = [] := by
  cases hr : Region.ready .any l.toArray listed with
  | nil => rfl
  | cons i r =>
    have hmem : i ∈ Region.ready .any l.toArray listed := by rw [hr]; exact List.mem_cons_self
    obtain ⟨h1, o, h2, _⟩ := mem_ready.1 hmem
    have hlt : i < l.length := by
      have := (Array.getElem?_eq_some_iff.1 h2).1
      simpa using this
    rw [h i hlt] at h1
    cases h1

theorem all_of_ready_nil {N : Nat} (hok : RgOk l N) {listed : Array Bool} (hr : Region.ready .any l.toArray listed = []) : ∀ i, i < l.length → listed.getD i true = true := by
  intro i
  induction i using Nat.strongRecOn with
  | _ i ih =>
    intro hi
    cases hb : listed.getD i true with
    | true => rfl
    | false =>
      have ho : l[i]? = some l[i] := List.getElem?_eq_getElem hi
      have : i ∈ Region.ready .any l.toArray listed := mem_ready.2 ⟨hb, l[i], by simp, fun ed he hbd => by
        have hlt := hok.back i l[i] ed ho (by simpa using he) hbd
        have h := ih ed.on hlt (by omega)
        rw [Array.getD_eq_getD_getElem?] at h ⊢
        cases hx : listed[ed.on]? with
        | some b => rw [hx] at h; exact h
        | none =>
          exfalso
          have h2 : listed.getD i true = true := by
            rw [Array.getD_eq_getD_getElem?]
            have : listed[i]? = none := by
              rw [Array.getElem?_eq_none_iff] at hx ⊢
              omega
            rw [this]; rfl
          rw [hb] at h2; cases h2⟩
      rw [hr] at this
      cases this

theorem Ob.wpOp {ops : Array Oper} {o : Oper} {Γ : Tmp → Spec} {V : Spec} (h : Ob P ops I St o Γ V) {a : Act} {e : Env} {w : World} (ha : Rep n a e) (hd : dOk n o.dst = true) {i : Nat} (ho : ops[i]? = some o)
    (hI : I w) (hΓ : ∀ t ∈ o.looksAt ops, Γ t (e t) w) (hSt : St w w) {K : Act → World → Prop} {Q : Exit → Act → World → Prop}
    (hk : ∀ v a' w', Rep n a' (e.setD o.dst v) → I w' → St w w' → V v w' → K a' w') : wpOp P ops Q i K a w := by
  have h1 := h e w hI hΓ
  unfold Go.wpOp
  simp only [ho]
  rw [ha.yielded]
  by_cases hw : Region.wanted o (yieldedE ops e) = true
  · rw [if_pos hw] at h1 ⊢
    refine .inl ?_
    unfold RunsTo at h1
    unfold Oper.wp
    rw [ha.eval]
    generalize (execOp e.eval o).run P w = r at h1 ⊢
    cases r with
    | halt x w' => exact h1.elim
    | ok x w' =>
      cases x <;> simp only at h1 <;> simp only [Oper.upon]
      case value v => exact hk _ _ _ (ha.put hd v) h1.1 h1.2.1 h1.2.2
      case skip => exact hk _ _ _ (ha.put hd _) h1.1 h1.2.1 h1.2.2
      case enter f args =>
        refine h1.mono fun x w'' hx => ?_
        obtain ⟨v, rfl, hx⟩ := hx
        exact hk _ _ _ (ha.put hd v) hx.1 hx.2.1 hx.2.2
      case row row args => exact h1.mono fun v w'' hx => hk _ _ _ (ha.put hd v) hx.1 hx.2.1 hx.2.2
  · rw [if_neg hw] at h1 ⊢
    exact hk _ _ _ (ha.put hd _) hI hSt h1

theorem getD_false_true {listed : Array Bool} {i : Nat} (h : listed.getD i false = true) : listed.getD i true = true := by
  rw [Array.getD_eq_getD_getElem?] at h ⊢
  cases hx : listed[i]? with
  | some b => rw [hx] at h; exact h
  | none => rfl

/-- The tail, whose order is forced. -/
theorem tail_sound {N : Nat} (hok : RgOk l N) {K : Env → World → Prop} {Q : Exit → Act → World → Prop} (hq : ∀ a e w, Rep n a e → K e w → Q .normal a w) :
    ∀ (r : List Oper) (k : Nat) (listed : Array Bool) (a : Act) (e : Env) (w : World), N ≤ k → listed.size = l.length → k + r.length = l.length → (∀ j, r[j]? = l[k + j]?) →
      (∀ i, i < l.length → listed.getD i true = decide (i < k)) → Rep n a e → WpL P n l.toArray K r e w → ∀ fuel, r.length ≤ fuel → wpAny P .any l.toArray Q fuel listed a w
  | [], k, listed, a, e, w, hNk, hsz, hk, _, hl, ha, h, fuel, _ => by
    have hall : ∀ i, i < l.length → listed.getD i true = true := fun i hi => by rw [hl i hi]; simp at hk; simp; omega
    exact wpAny_done (ready_nil_of_all hall) (hq a e w ha h) fuel
  | o :: r, k, listed, a, e, w, hNk, hsz, hk, hr, hl, ha, h, 0, hf => by simp at hf
  | o :: r, k, listed, a, e, w, hNk, hsz, hk, hr, hl, ha, h, fuel + 1, hf => by
    have ho : l[k]? = some o := by simpa using (hr 0).symm
    have hkl : k < l.length := (List.getElem?_eq_some_iff.1 ho).1
    refine ⟨fun h0 => ?_, fun i hi => ?_⟩
    · have := all_of_ready_nil hok h0 k hkl
      rw [hl k hkl] at this
      simp at this
    · obtain ⟨hun, o', ho', hpre⟩ := mem_ready.1 hi
      have hil : i < l.length := by have := (Array.getElem?_eq_some_iff.1 ho').1; simpa using this
      have ho'' : l[i]? = some o' := by simpa using ho'
      have hki : k ≤ i := by
        rw [hl i hil] at hun
        simpa using hun
      have hik : i = k := by
        rcases Nat.lt_or_ge k i with hlt | hge
        · exfalso
          have hdown : ∀ m om ed, l[m]? = some om → ed ∈ om.after.toList → Region.binds .any ed = true → (m < k → ed.on < k) := fun m om ed hm he hb hmk => by
            have := hok.back m om ed hm he hb; omega
          have hb := hok.tail i k hil (by omega) hlt
          have := hb (fun m => m < k) hdown fun om ed hm he hb' => by
            rw [ho''] at hm; injection hm with hm; subst hm
            have h1 := getD_false_true (hpre ed (by simpa using he) hb')
            have h2 := hok.back i o' ed ho'' he hb'
            rw [hl ed.on (by omega)] at h1
            simpa using h1
          omega
        · omega
      subst hik
      rw [ho] at ho''; injection ho'' with ho''; subst ho''
      obtain ⟨hd, h⟩ := h
      have hl' : ∀ j, j < l.length → (listed.setIfInBounds i true).getD j true = decide (j < i + 1) := fun j hj => by
        by_cases hji : j = i
        · subst hji; rw [getD_set_same]; simp
        · rw [getD_set_ne true (Ne.symm hji), hl j hj]
          have : j < i ↔ j < i + 1 := by omega
          simp [this]
      have ih : ∀ a' e' w', Rep n a' e' → WpL P n l.toArray K r e' w' → wpAny P .any l.toArray Q fuel (listed.setIfInBounds i true) a' w' := fun a' e' w' ha' h' =>
        tail_sound hok hq r (i + 1) _ a' e' w' (by omega) (by simp [hsz]) (by simp at hk; omega) (fun j => by have := hr (j + 1); simpa [Nat.add_assoc, Nat.add_comm 1 j] using this) hl' ha' h' fuel (by simp at hf; omega)
      unfold Go.wpOp
      simp only [ho']
      rw [ha.yielded]
      by_cases hw : Region.wanted o (yieldedE l.toArray e) = true
      · rw [if_pos hw] at h ⊢
        exact .inl (h.wp ha hd fun a' e' w' ha' h' => ih a' e' w' ha' h')
      · rw [if_neg hw] at h ⊢
        exact ih _ _ _ (ha.put hd _) h

/-- The head, in whatever order it comes. -/
theorem head_sound {N : Nat} (hok : RgOk l N) (hN : N ≤ l.length) {Vs : List Spec} {Γ0 : Tmp → Spec} (hlen : Vs.length = N) (hSt : ∀ w, St w w)
    (hst : ∀ (i : Nat) (V : Spec) v w w', Vs[i]? = some V → V v w → I w → I w' → St w w' → V v w') (h0 : ∀ t v w w', Γ0 t v w → I w → I w' → St w w' → Γ0 t v w')
    (hops : ∀ i o, i < N → l[i]? = some o → ∃ V, Vs[i]? = some V ∧ dOk n o.dst = true ∧ Ob P l.toArray I St o (ctx l Vs Γ0 i) V)
    {K : Env → World → Prop} {Q : Exit → Act → World → Prop} (hq : ∀ a e w, Rep n a e → K e w → Q .normal a w)
    (hfin : ∀ e w, I w → (∀ t, ctx l Vs Γ0 N t (e t) w) → WpL P n l.toArray K (l.drop N) e w) :
    ∀ (fuel : Nat) (listed : Array Bool) (a : Act) (e : Env) (w : World), Rep n a e → Mid l N Vs Γ0 I listed e w → left l.length listed ≤ fuel → wpAny P .any l.toArray Q fuel listed a w := by
  intro fuel
  -- where the head has come up whole the tail follows
  have hswitch : ∀ (fuel : Nat) (listed : Array Bool) (a : Act) (e : Env) (w : World), Rep n a e → Mid l N Vs Γ0 I listed e w → left l.length listed ≤ fuel →
      (∀ i, i < N → listed.getD i true = true) → wpAny P .any l.toArray Q fuel listed a w := fun fuel listed a e w ha hm hf hall => by
    have hl : ∀ i, i < l.length → listed.getD i true = decide (i < N) := fun i hi => by
      by_cases h : i < N
      · rw [hall i h]; simp [h]
      · rw [hm.head i (by omega) hi]; simp [h]
    refine tail_sound hok hq (l.drop N) N listed a e w (Nat.le_refl _) hm.size (by simp; omega) (fun j => by rw [List.getElem?_drop]) hl ha (hfin e w hm.inv (hm.full hlen hN hall)) fuel ?_
    refine Nat.le_trans ?_ hf
    unfold left
    have : (List.range l.length).filter (fun i => !listed.getD i true) = (List.range l.length).filter (fun i => decide (N ≤ i)) := by
      refine List.filter_congr fun i hi => ?_
      rw [hl i (by simpa using hi)]
      by_cases h : i < N
      · simp [h]
      · simp [h]; omega
    rw [this]
    have hr : List.range l.length = List.range N ++ (List.range (l.length - N)).map (N + ·) := by
      rw [← List.range_add]; congr 1; omega
    rw [hr, List.filter_append]
    have e1 : ((List.range (l.length - N)).map (N + ·)).filter (fun i => decide (N ≤ i)) = (List.range (l.length - N)).map (N + ·) := by
      rw [List.filter_eq_self]
      intro x hx
      obtain ⟨y, _, rfl⟩ := List.mem_map.1 hx
      simp
    rw [List.length_append, e1]
    simp
  induction fuel with
  | zero =>
    intro listed a e w ha hm hf
    have hall := left_zero (Nat.le_zero.1 hf)
    exact hswitch 0 listed a e w ha hm hf fun i hi => hall i (by omega)
  | succ fuel ih =>
    intro listed a e w ha hm hf
    by_cases hall : ∀ i, i < N → listed.getD i true = true
    · exact hswitch _ listed a e w ha hm hf hall
    · refine ⟨fun h0 => absurd (fun i hi => all_of_ready_nil hok h0 i (by omega)) hall, fun i hi => ?_⟩
      obtain ⟨hun, o, ho', hpre0⟩ := mem_ready.1 hi
      have hil : i < l.length := by have := (Array.getElem?_eq_some_iff.1 ho').1; simpa using this
      have ho : l[i]? = some o := by simpa using ho'
      have hpre : ∀ ed ∈ o.after.toList, Region.binds .any ed = true → listed.getD ed.on true = true := fun ed he hb => getD_false_true (hpre0 ed (by simpa using he) hb)
      have hiN : i < N := by
        rcases Nat.lt_or_ge i N with h | h
        · exact h
        · exfalso
          refine hall fun j hj => ?_
          exact hok.tail i j hil h (by omega) _ hm.down fun o' ed h1 h2 h3 => by rw [ho] at h1; injection h1 with h1; subst h1; exact hpre ed h2 h3
      obtain ⟨V, hVi, hd, hob⟩ := hops i o hiN ho
      refine hob.wpOp ha hd ho' hm.inv (hm.looks hok hlen hN ho hun hiN hpre) (hSt w) fun v a' w' ha' hI' hS' hV' => ?_
      refine ih _ a' _ w' ha' (hm.step hok hst h0 ho hun hiN hpre hI' hS' fun V' hV'' => by rw [hVi] at hV''; injection hV'' with hV''; subst hV''; exact hV') ?_
      have := left_set hil hun
      omega

/-- THE RULE. -/
theorem Wp.draw {id : Nat} {Q : Exit → Env → World → Prop} {e : Env} {w : World} (N : Nat) (I : World → Prop) (St : World → World → Prop) (hm : P.follows .mixedOrders = true)
    (hok : rgOk l N = true) (hN : N ≤ l.length) (hSt : ∀ w, St w w) (hI : I w.drew)
    (h : RgL P n l.toArray I St (fun Γ => ∀ e' w', I w' → (∀ t, Γ t (e' t) w') → WpL P n l.toArray (Q .normal) (l.drop N) e' w') (l.take N) (fun t v _ => v = e t)) :
    Wp P n (.region id l.toArray true) Q e w := fun a ha => by
  have hok := rgOk_spec hok
  have hlt : (l.take N).length = N := by simp; omega
  have h' : RgL P n l.toArray I St (fun Γ => ∀ e' w', I w' → (∀ t, Γ t (e' t) w') → WpL P n l.toArray (Q .normal) (l.drop N) e' w') (l.take N) (ctx (l.take N) [] (fun t v _ => v = e t) 0) := h
  obtain ⟨Vs, h1, _, h3, h4⟩ := RgL.specs (l := l.take N) (Γ0 := fun t v _ => v = e t) (l.take N) 0 [] rfl (fun j => by simp) h'
  simp only [Nat.zero_add] at h1 h3 h4
  rw [hlt] at h1 h3
  have hctx : ∀ i, i ≤ N → ctx (l.take N) Vs (fun t v _ => v = e t) i = ctx l Vs (fun t v _ => v = e t) i := fun i => by
    induction i with
    | zero => intro _; rfl
    | succ i ih =>
      intro hi
      simp only [ctx]
      rw [ih (by omega), List.getElem?_take, if_pos (by omega)]
  rw [hctx N (Nat.le_refl _)] at h3
  refine wp_region_any hm (head_sound (St := St) (I := I) hok hN h1 hSt (fun i V v w w' hV => ?_) (fun t v w w' h _ _ _ => h) (fun i o hi ho => ?_) (fun a e w ha hk => ⟨e, ha, hk⟩) h3 _ _ a e _ ha
    ⟨by simp, hI, fun k o ed hk he hb hl => ?_, fun i h1 h2 => ?_, fun j o d hj _ hl => ?_, fun t _ => rfl⟩ ?_)
  · have hi : i < N := by have := (List.getElem?_eq_some_iff.1 hV).1; omega
    obtain ⟨V', hV', _, hs, _⟩ := h4 i (l[i]'(by omega)) (Nat.zero_le _) (by simp; omega) (by rw [List.getElem?_take, if_pos hi]; exact List.getElem?_eq_getElem (by omega))
    rw [hV] at hV'; injection hV' with hV'; subst hV'
    exact hs v w w'
  · obtain ⟨V, h5, h6, _, h8⟩ := h4 i o (Nat.zero_le _) (by simp; have := (List.getElem?_eq_some_iff.1 ho).1; omega) (by rw [List.getElem?_take, if_pos hi]; exact ho)
    rw [hctx i (by omega)] at h8
    exact ⟨V, h5, h6, h8⟩
  · exfalso
    have hkl : k < l.length := (List.getElem?_eq_some_iff.1 hk).1
    simp [Array.getD_eq_getD_getElem?, hkl] at hl
  · simp [Array.getD_eq_getD_getElem?, h2]
  · exfalso
    have hkl : j < l.length := (List.getElem?_eq_some_iff.1 hj).1
    simp [Array.getD_eq_getD_getElem?, hkl] at hl
  · unfold left
    exact Nat.le_trans (List.length_filter_le _ _) (by simp)
end
end Go.Fk
