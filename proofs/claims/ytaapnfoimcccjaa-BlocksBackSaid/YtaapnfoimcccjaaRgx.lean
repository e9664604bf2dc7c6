/-
  Regions that draw their order, in a round or beside deferred calls; their forced tails may call yield. It holds for any program; conditions stand at each theorem. (The proofs are those of the text Rg, turned to the fenced calculus.)
-/
import Derived.Test.YtaapnfoimcccjaaRnd
import Derived.Test.YtaapnfoimcccjaaRgf
import Derived.OrdersIn
namespace Go.Fk
open Go.RowKit
theorem semAt_or {ro : Option Nat} (ρ : Operand → Value) (o : Oper) : Oper.semAt (frn ro).round ρ o = execOp ρ o ∨ ∃ c, o.op = .defer c := by
  by_cases hdf : ∃ c, o.op = .defer c
  · exact .inr hdf
  · exact .inl (Oper.semAt_eq _ _ _ fun c hc => hdf ⟨c, hc⟩)
theorem run_defer {P : Program} {w : World} (ρ : Operand → Value) (o : Oper) (c : Call) (hc : o.op = .defer c) : (∃ x w', (execOp ρ o).run P w = .halt x w') ∨ ∃ d w', (execOp ρ o).run P w = .ok (.defer d) w' := by
  have : execOp ρ o = (do pure (.defer (← resolve ρ c o.type))) := by unfold execOp; rw [hc]
  rw [this, Sem.run_bind]
  cases hr : (resolve ρ c o.type).run P w with
  | halt x w' => exact .inl ⟨_, _, rfl⟩
  | ok x w' => exact .inr ⟨_, _, rfl⟩
/-- An operation, or a call of yield. -/
def OpY (P : Program) (o : Oper) (e : Env) (w : World) (next : Env → World → Prop) : Prop :=
  OpW P o e w next ∨ ∃ r fn tmps assign body, (execOp e.eval o).run P w = .ok (.round r fn tmps assign body) w ∧ RoundIn Fence.wide 0 P r fn tmps assign body w fun x w' => ∃ v, x = .returned v ∧ next (e.setD o.dst v) w'
def WpY (P : Program) (n : Nat) (ops : Array Oper) (K : Env → World → Prop) : List Oper → Env → World → Prop
  | [], e, w => K e w
  | o :: rest, e, w => dOk n o.dst = true ∧
    if Region.wanted o (yieldedE ops e) then OpY P o e w (WpY P n ops K rest) else WpY P n ops K rest (e.setD o.dst undef) w
section
variable {P : Program} {n : Nat} {ds : List Deferred} {ro : Option Nat} {ops : Array Oper} {K : Env → World → Prop}
theorem OpY.wpIn {o : Oper} {e : Env} {w : World} {next : Env → World → Prop} {a : Act} {K : Act → World → Prop} {Q : Exit → Act → World → Prop}
    (h : OpY P o e w next) (ha : RepD ds n a e) (hd : dOk n o.dst = true) (hk : ∀ a e w, RepD ds n a e → next e w → K a w) : o.wpIn (frn ro) 0 P a w K Q := by
  rcases h with h | ⟨r, fn, tmps, assign, body, hr, hR⟩
  · exact h.wpIn ha hd hk
  · refine ⟨fun _ _ => trivial, ?_⟩
    rw [ha.eval]
    rcases semAt_or (ro := ro) e.eval o with hsem | ⟨c, hc⟩
    · rw [hsem, hr]
      refine ⟨fun h => (by cases h), RoundIn.mono (F := Fence.wide) hR fun x w' hx => ?_⟩
      obtain ⟨v, rfl, hx⟩ := hx
      exact hk _ _ _ (ha.put hd v) hx
    · exfalso
      rcases run_defer (P := P) (w := w) e.eval o c hc with ⟨x, w', h⟩ | ⟨d, w', h⟩
      · rw [hr] at h; cases h
      · rw [hr] at h; cases h
theorem WpL.toY : ∀ {l : List Oper} {e : Env} {w : World}, WpL P n ops K l e w → WpY P n ops K l e w
  | [], _, _, h => h
  | o :: rest, e, w, ⟨hd, h⟩ => by
    refine ⟨hd, ?_⟩
    by_cases hw : Region.wanted o (yieldedE ops e) = true
    · rw [if_pos hw] at h ⊢
      exact .inl (h.mono fun e w h => WpL.toY h)
    · rw [if_neg hw] at h ⊢
      exact WpL.toY h
theorem WpY.split {post : List Oper} : ∀ {l : List Oper} {e : Env} {w : World}, WpL P n ops (WpY P n ops K post) l e w → WpY P n ops K (l ++ post) e w
  | [], _, _, h => h
  | o :: rest, e, w, ⟨hd, h⟩ => by
    refine ⟨hd, ?_⟩
    by_cases hw : Region.wanted o (yieldedE ops e) = true
    · rw [if_pos hw] at h ⊢
      exact .inl (h.mono fun e w h => WpY.split h)
    · rw [if_neg hw] at h ⊢
      exact WpY.split h
theorem WpY.pass {o : Oper} {rest : List Oper} {e : Env} {w : World} (hd : dOk n o.dst = true) (hw : Region.wanted o (yieldedE ops e) = false) (h : WpY P n ops K rest (e.setD o.dst undef) w) : WpY P n ops K (o :: rest) e w :=
  ⟨hd, by rw [if_neg (by rw [hw]; decide)]; exact h⟩
theorem WpY.yield {rest : List Oper} {e : Env} {w : World} {d : Tmp} {u : Operand} {xs : List Operand} {argTypes : Array TypeId} {ty : TypeId} {pos : String} {after : Array Edge} {gd : Option (Nat × Bool)} {r : Nat} {vs : List Value}
    (hd : dOk n (some d) = true) (hw : Region.wanted ⟨some d, .call { callee := .value u, args := xs.toArray, argTypes }, ty, pos, after, gd⟩ (yieldedE ops e) = true) (hu : e.eval u = .func (.yield r) #[] #[]) (hv : Vals e xs vs)
    (h : YieldAt Fence.wide 0 P r vs.toArray w fun x w' => ∃ v, x = .returned v ∧ WpY P n ops K rest (e.set d v) w') : WpY P n ops K (⟨some d, .call { callee := .value u, args := xs.toArray, argTypes }, ty, pos, after, gd⟩ :: rest) e w := by
  refine ⟨hd, ?_⟩
  rw [if_pos hw]
  obtain ⟨fn, tmps, assign, body, hy, hR⟩ := h
  exact .inr ⟨r, fn, tmps, assign, body, by simp [execOp, resolve, Deferred.ofValue, invoke, hu, List.map_toArray, hv.map, hy], hR⟩
theorem WpY.wpListIn {Q : Exit → Act → World → Prop} (hq : ∀ a e w, RepD ds n a e → K e w → Q .normal a w) :
    ∀ (l : List Oper) (e : Env) (w : World) (a : Act), RepD ds n a e → WpY P n ops K l e w → Go.wpListIn (frn ro) 0 P ops Q l a w
  | [], e, w, a, ha, h => hq a e w ha h
  | o :: rest, e, w, a, ha, h => by
    obtain ⟨hd, h⟩ := h
    unfold Go.wpListIn
    rw [ha.yielded]
    by_cases hw : Region.wanted o (yieldedE ops e) = true
    · rw [if_pos hw] at h ⊢
      exact h.wpIn ha hd fun a e w ha h => WpY.wpListIn hq rest e w a ha h
    · rw [if_neg hw] at h ⊢
      exact ⟨fun _ _ => trivial, WpY.wpListIn hq rest _ _ _ (ha.put hd _) h⟩
theorem WpG.regionY {Q : PostD} {e : Env} {w : World} {l : List Oper} {id : Nat} (h : WpY P n l.toArray (Q .normal ds) l e w) : WpG ro P n ds (.region id l.toArray false) Q e w := fun a ha =>
  wpIn_region_lit (WpY.wpListIn (fun a e w ha hk => ⟨ds, e, ha, hk⟩) l e w a ha h)
theorem wpAnyIn_done {l : List Oper} {listed : Array Bool} {a : Act} {w : World} {Q : Exit → Act → World → Prop} (hr : Region.ready .any l.toArray listed = []) (h : Q .normal a w) : ∀ fuel, Go.wpAnyIn (frn ro) 0 P .any l.toArray Q fuel listed a w
  | 0 => ⟨hr, h⟩
  | _ + 1 => ⟨fun _ => h, fun i hi => by rw [hr] at hi; cases hi⟩
end
section
variable {P : Program} {n : Nat} {l : List Oper} {I : World → Prop} {St : World → World → Prop}
theorem Ob.wpOpIn {ro : Option Nat} {ds : List Deferred} {ops : Array Oper} {o : Oper} {Γ : Tmp → Spec} {V : Spec} (h : Ob P ops I St o Γ V) {a : Act} {e : Env} {w : World} (ha : RepD ds n a e) (hd : dOk n o.dst = true) {i : Nat} (ho : ops[i]? = some o)
    (hI : I w) (hΓ : ∀ t ∈ o.looksAt ops, Γ t (e t) w) (hSt : St w w) {K : Act → World → Prop} {Q : Exit → Act → World → Prop}
    (hk : ∀ v a' w', RepD ds n a' (e.setD o.dst v) → I w' → St w w' → V v w' → K a' w')   : Go.wpOpIn (frn ro) 0 P ops Q i K a w := by
  have h1 := h e w hI hΓ
  unfold Go.wpOpIn
  simp only [ho]
  rw [ha.yielded]
  by_cases hw : Region.wanted o (yieldedE ops e) = true
  · rw [if_pos hw] at h1 ⊢
    refine ⟨fun _ _ => trivial, ?_⟩
    unfold RunsTo at h1
    rw [ha.eval]
    rcases semAt_or (ro := ro) e.eval o with hsem | ⟨c, hc⟩
    · rw [hsem]
      generalize (execOp e.eval o).run P w = r at h1 ⊢
      cases r with
      | halt x w' => exact h1.elim
      | ok x w' =>
        cases x <;> simp only at h1 <;> simp only [Oper.uponIn]
        case value v => exact hk _ _ _ (ha.put hd v) h1.1 h1.2.1 h1.2.2
        case skip => exact hk _ _ _ (ha.put hd _) h1.1 h1.2.1 h1.2.2
        case enter f args =>
          refine ⟨fun h => (by cases h), (Calls.toIn h1).mono fun x w'' hx => ?_⟩
          obtain ⟨v, rfl, hx⟩ := hx
          exact hk _ _ _ (ha.put hd v) hx.1 hx.2.1 hx.2.2
        case row row args => exact ⟨fun h => (by cases h), Rows.toIn (h1.mono fun v w'' hx => hk _ _ _ (ha.put hd v) hx.1 hx.2.1 hx.2.2)⟩
    · exfalso
      rcases run_defer (P := P) (w := w) e.eval o c hc with ⟨x, w', hr⟩ | ⟨d, w', hr⟩
      · rw [hr] at h1; exact h1
      · rw [hr] at h1; exact h1
  · rw [if_neg hw] at h1 ⊢
    exact ⟨fun _ _ => trivial, hk _ _ _ (ha.put hd _) hI hSt h1⟩

/-- The tail, whose order is forced. -/
theorem tail_soundY {ro : Option Nat} {ds : List Deferred} {N : Nat} (hok : RgOk l N) {K : Env → World → Prop} {Q : Exit → Act → World → Prop} (hq : ∀ a e w, RepD ds n a e → K e w → Q .normal a w) :
    ∀ (r : List Oper) (k : Nat) (listed : Array Bool) (a : Act) (e : Env) (w : World), N ≤ k → listed.size = l.length → k + r.length = l.length → (∀ j, r[j]? = l[k + j]?) →
      (∀ i, i < l.length → listed.getD i true = decide (i < k)) → RepD ds n a e → WpY P n l.toArray K r e w → ∀ fuel, r.length ≤ fuel → Go.wpAnyIn (frn ro) 0 P .any l.toArray Q fuel listed a w
  | [], k, listed, a, e, w, hNk, hsz, hk, _, hl, ha, h, fuel, _ => by
    have hall : ∀ i, i < l.length → listed.getD i true = true := fun i hi => by rw [hl i hi]; simp at hk; simp; omega
    exact wpAnyIn_done (ready_nil_of_all hall) (hq a e w ha h) fuel
  | o :: r, k, listed, a, e, w, hNk, hsz, hk, hr, hl, ha, h, 0, hf => by simp at hf
  | o :: r, k, listed, a, e, w, hNk, hsz, hk, hr, hl, ha, h, fuel + 1, hf => by
    have ho : l[k]? = some o := by simpa using (hr 0).symm
    have hkl : k < l.length := (List.getElem?_eq_some_iff.1 ho).1
    refine ⟨fun h0 => ?_, fun i hi => ?_⟩
    · have := all_of_ready_nil hok h0 k hkl
      rw [hl k hkl] at this
      simp at this
    · obtain ⟨hun, o', ho', hpre⟩ := mem_ready.1 hi
      have hil : i < l.length := by have := (Array.getElem?_eq_some_iff.1 ho').1; simpa using this
      have ho'' : l[i]? = some o' := by simpa using ho'
      have hki : k ≤ i := by
        rw [hl i hil] at hun
        simpa using hun
      have hik : i = k := by
        rcases Nat.lt_or_ge k i with hlt | hge
        · exfalso
          have hdown : ∀ m om ed, l[m]? = some om → ed ∈ om.after.toList → Region.binds .any ed = true → (m < k → ed.on < k) := fun m om ed hm he hb hmk => by
            have := hok.back m om ed hm he hb; omega
          have hb := hok.tail i k hil (by omega) hlt
          have := hb (fun m => m < k) hdown fun om ed hm he hb' => by
            rw [ho''] at hm; injection hm with hm; subst hm
            have h1 := getD_false_true (hpre ed (by simpa using he) hb')
            have h2 := hok.back i o' ed ho'' he hb'
            rw [hl ed.on (by omega)] at h1
            simpa using h1
          omega
        · omega
      subst hik
      rw [ho] at ho''; injection ho'' with ho''; subst ho''
      obtain ⟨hd, h⟩ := h
      have hl' : ∀ j, j < l.length → (listed.setIfInBounds i true).getD j true = decide (j < i + 1) := fun j hj => by
        by_cases hji : j = i
        · subst hji; rw [getD_set_same]; simp
        · rw [getD_set_ne true (Ne.symm hji), hl j hj]
          have : j < i ↔ j < i + 1 := by omega
          simp [this]
      have ih : ∀ a' e' w', RepD ds n a' e' → WpY P n l.toArray K r e' w' → Go.wpAnyIn (frn ro) 0 P .any l.toArray Q fuel (listed.setIfInBounds i true) a' w' := fun a' e' w' ha' h' =>
        tail_soundY hok hq r (i + 1) _ a' e' w' (by omega) (by simp [hsz]) (by simp at hk; omega) (fun j => by have := hr (j + 1); simpa [Nat.add_assoc, Nat.add_comm 1 j] using this) hl' ha' h' fuel (by simp at hf; omega)
      unfold Go.wpOpIn
      simp only [ho']
      rw [ha.yielded]
      by_cases hw : Region.wanted o (yieldedE l.toArray e) = true
      · rw [if_pos hw] at h ⊢
        exact h.wpIn ha hd fun a' e' w' ha' h' => ih a' e' w' ha' h' 
      · rw [if_neg hw] at h ⊢
        exact ⟨fun _ _ => trivial, ih _ _ _ (ha.put hd _) h⟩

/-- The head, in whatever order it comes. -/
theorem head_soundY {ro : Option Nat} {ds : List Deferred} {N : Nat} (hok : RgOk l N) (hN : N ≤ l.length) {Vs : List Spec} {Γ0 : Tmp → Spec} (hlen : Vs.length = N) (hSt : ∀ w, St w w)
    (hst : ∀ (i : Nat) (V : Spec) v w w', Vs[i]? = some V → V v w → I w → I w' → St w w' → V v w') (h0 : ∀ t v w w', Γ0 t v w → I w → I w' → St w w' → Γ0 t v w')
    (hops : ∀ i o, i < N → l[i]? = some o → ∃ V, Vs[i]? = some V ∧ dOk n o.dst = true ∧ Ob P l.toArray I St o (ctx l Vs Γ0 i) V)
    {K : Env → World → Prop} {Q : Exit → Act → World → Prop} (hq : ∀ a e w, RepD ds n a e → K e w → Q .normal a w)
    (hfin : ∀ e w, I w → (∀ t, ctx l Vs Γ0 N t (e t) w) → WpY P n l.toArray K (l.drop N) e w) :
    ∀ (fuel : Nat) (listed : Array Bool) (a : Act) (e : Env) (w : World), RepD ds n a e → Mid l N Vs Γ0 I listed e w → left l.length listed ≤ fuel → Go.wpAnyIn (frn ro) 0 P .any l.toArray Q fuel listed a w := by
  intro fuel
  -- where the head has come up whole the tail follows
  have hswitch : ∀ (fuel : Nat) (listed : Array Bool) (a : Act) (e : Env) (w : World), RepD ds n a e → Mid l N Vs Γ0 I listed e w → left l.length listed ≤ fuel →
      (∀ i, i < N → listed.getD i true = true) → Go.wpAnyIn (frn ro) 0 P .any l.toArray Q fuel listed a w := fun fuel listed a e w ha hm hf hall => by
    have hl : ∀ i, i < l.length → listed.getD i true = decide (i < N) := fun i hi => by
      by_cases h : i < N
      · rw [hall i h]; simp [h]
      · rw [hm.head i (by omega) hi]; simp [h]
    refine tail_soundY hok hq (l.drop N) N listed a e w (Nat.le_refl _) hm.size (by simp; omega) (fun j => by rw [List.getElem?_drop]) hl ha (hfin e w hm.inv (hm.full hlen hN hall)) fuel ?_
    refine Nat.le_trans ?_ hf
    unfold left
    have : (List.range l.length).filter (fun i => !listed.getD i true) = (List.range l.length).filter (fun i => decide (N ≤ i)) := by
      refine List.filter_congr fun i hi => ?_
      rw [hl i (by simpa using hi)]
      by_cases h : i < N
      · simp [h]
      · simp [h]; omega
    rw [this]
    have hr : List.range l.length = List.range N ++ (List.range (l.length - N)).map (N + ·) := by
      rw [← List.range_add]; congr 1; omega
    rw [hr, List.filter_append]
    have e1 : ((List.range (l.length - N)).map (N + ·)).filter (fun i => decide (N ≤ i)) = (List.range (l.length - N)).map (N + ·) := by
      rw [List.filter_eq_self]
      intro x hx
      obtain ⟨y, _, rfl⟩ := List.mem_map.1 hx
      simp
    rw [List.length_append, e1]
    simp
  induction fuel with
  | zero =>
    intro listed a e w ha hm hf
    have hall := left_zero (Nat.le_zero.1 hf)
    exact hswitch 0 listed a e w ha hm hf fun i hi => hall i (by omega)
  | succ fuel ih =>
    intro listed a e w ha hm hf
    by_cases hall : ∀ i, i < N → listed.getD i true = true
    · exact hswitch _ listed a e w ha hm hf hall
    · refine ⟨fun h0 => absurd (fun i hi => all_of_ready_nil hok h0 i (by omega)) hall, fun i hi => ?_⟩
      obtain ⟨hun, o, ho', hpre0⟩ := mem_ready.1 hi
      have hil : i < l.length := by have := (Array.getElem?_eq_some_iff.1 ho').1; simpa using this
      have ho : l[i]? = some o := by simpa using ho'
      have hpre : ∀ ed ∈ o.after.toList, Region.binds .any ed = true → listed.getD ed.on true = true := fun ed he hb => getD_false_true (hpre0 ed (by simpa using he) hb)
      have hiN : i < N := by
        rcases Nat.lt_or_ge i N with h | h
        · exact h
        · exfalso
          refine hall fun j hj => ?_
          exact hok.tail i j hil h (by omega) _ hm.down fun o' ed h1 h2 h3 => by rw [ho] at h1; injection h1 with h1; subst h1; exact hpre ed h2 h3
      obtain ⟨V, hVi, hd, hob⟩ := hops i o hiN ho
      refine hob.wpOpIn ha hd ho' hm.inv (hm.looks hok hlen hN ho hun hiN hpre) (hSt w) fun v a' w' ha' hI' hS' hV' => ?_
      refine ih _ a' _ w' ha' (hm.step hok hst h0 ho hun hiN hpre hI' hS' fun V' hV'' => by rw [hVi] at hV''; injection hV'' with hV''; subst hV''; exact hV') ?_
      have := left_set hil hun
      omega

/-- THE RULE. -/
theorem WpG.drawY {ro : Option Nat} {ds : List Deferred} {id : Nat} {Q : PostD} {e : Env} {w : World} (N : Nat) (I : World → Prop) (St : World → World → Prop) (hm : P.follows .mixedOrders = true)
    (hok : rgOk l N = true) (hN : N ≤ l.length) (hSt : ∀ w, St w w) (hI : I w.drew)
    (h : RgL P n l.toArray I St (fun Γ => ∀ e' w', I w' → (∀ t, Γ t (e' t) w') → WpY P n l.toArray (Q .normal ds) (l.drop N) e' w') (l.take N) (fun t v _ => v = e t)) :
    WpG ro P n ds (.region id l.toArray true) Q e w := fun a ha => by
  have hok := rgOk_spec hok
  have hlt : (l.take N).length = N := by simp; omega
  have h' : RgL P n l.toArray I St (fun Γ => ∀ e' w', I w' → (∀ t, Γ t (e' t) w') → WpY P n l.toArray (Q .normal ds) (l.drop N) e' w') (l.take N) (ctx (l.take N) [] (fun t v _ => v = e t) 0) := h
  obtain ⟨Vs, h1, _, h3, h4⟩ := RgL.specs (l := l.take N) (Γ0 := fun t v _ => v = e t) (l.take N) 0 [] rfl (fun j => by simp) h'
  simp only [Nat.zero_add] at h1 h3 h4
  rw [hlt] at h1 h3
  have hctx : ∀ i, i ≤ N → ctx (l.take N) Vs (fun t v _ => v = e t) i = ctx l Vs (fun t v _ => v = e t) i := fun i => by
    induction i with
    | zero => intro _; rfl
    | succ i ih =>
      intro hi
      simp only [ctx]
      rw [ih (by omega), List.getElem?_take, if_pos (by omega)]
  rw [hctx N (Nat.le_refl _)] at h3
  refine wpIn_region_any hm (head_soundY (St := St) (I := I) hok hN h1 hSt (fun i V v w w' hV => ?_) (fun t v w w' h _ _ _ => h) (fun i o hi ho => ?_) (fun a e w ha hk => ⟨ds, e, ha, hk⟩) h3 _ _ a e _ ha
    ⟨by simp, hI, fun k o ed hk he hb hl => ?_, fun i h1 h2 => ?_, fun j o d hj _ hl => ?_, fun t _ => rfl⟩ ?_)
  · have hi : i < N := by have := (List.getElem?_eq_some_iff.1 hV).1; omega
    obtain ⟨V', hV', _, hs, _⟩ := h4 i (l[i]'(by omega)) (Nat.zero_le _) (by simp; omega) (by rw [List.getElem?_take, if_pos hi]; exact List.getElem?_eq_getElem (by omega))
    rw [hV] at hV'; injection hV' with hV'; subst hV'
    exact hs v w w'
  · obtain ⟨V, h5, h6, _, h8⟩ := h4 i o (Nat.zero_le _) (by simp; have := (List.getElem?_eq_some_iff.1 ho).1; omega) (by rw [List.getElem?_take, if_pos hi]; exact ho)
    rw [hctx i (by omega)] at h8
    exact ⟨V, h5, h6, h8⟩
  · exfalso
    have hkl : k < l.length := (List.getElem?_eq_some_iff.1 hk).1
    simp [Array.getD_eq_getD_getElem?, hkl] at hl
  · simp [Array.getD_eq_getD_getElem?, h2]
  · exfalso
    have hkl : j < l.length := (List.getElem?_eq_some_iff.1 hj).1
    simp [Array.getD_eq_getD_getElem?, hkl] at hl
  · unfold left
    exact Nat.le_trans (List.length_filter_le _ _) (by simp)
end
section
variable {P : Program} {n : Nat} {ds : List Deferred} {ro : Option Nat} {Q : PostD} {e : Env} {w : World} {l : List Oper} {id : Nat}
theorem RgL.mono {ops : Array Oper} {I : World → Prop} {St : World → World → Prop} {Fin Fin' : (Tmp → Spec) → Prop} (hf : ∀ Γ, Fin Γ → Fin' Γ) : ∀ {l : List Oper} {Γ : Tmp → Spec}, RgL P n ops I St Fin l Γ → RgL P n ops I St Fin' l Γ
  | [], Γ, h => hf Γ h
  | _ :: _, _, ⟨V, h1, h2, h3, h4⟩ => ⟨V, h1, h2, h3, RgL.mono hf h4⟩
theorem WpG.drawL (N : Nat) (I : World → Prop) (St : World → World → Prop) (hm : P.follows .mixedOrders = true)
    (hok : rgOk l N = true) (hN : N ≤ l.length) (hSt : ∀ w, St w w) (hI : I w.drew)
    (h : RgL P n l.toArray I St (fun Γ => ∀ e' w', I w' → (∀ t, Γ t (e' t) w') → WpL P n l.toArray (Q .normal ds) (l.drop N) e' w') (l.take N) (fun t v _ => v = e t)) :
    WpG ro P n ds (.region id l.toArray true) Q e w :=
  WpG.drawY N I St hm hok hN hSt hI (RgL.mono (fun Γ h e' w' h1 h2 => (h e' w' h1 h2).toY) h)
theorem WpG.drawD (N : Nat) (hm : P.follows .mixedOrders = true) (hok : rgOk l N = true) (hN : Nat.ble N l.length = true)
    (h : RgD P n l.toArray w (fun Γ => ∀ e' w', Below w.heap.size w w' → (∀ t, Γ t (e' t) w') → WpL P n l.toArray (Q .normal ds) (l.drop N) e' w') (l.take N) e []) :
    WpG ro P n ds (.region id l.toArray true) Q e w := by
  refine WpG.drawL N (Below w.heap.size w) (fun w w' => Below w.heap.size w w') hm hok (Nat.le_of_ble_eq_true hN) (fun w => Below.refl _ _) (Below.refl _ _).drew ?_
  exact h (by simp)
theorem WpG.drawDY (N : Nat) (hm : P.follows .mixedOrders = true) (hok : rgOk l N = true) (hN : Nat.ble N l.length = true)
    (h : RgD P n l.toArray w (fun Γ => ∀ e' w', Below w.heap.size w w' → (∀ t, Γ t (e' t) w') → WpY P n l.toArray (Q .normal ds) (l.drop N) e' w') (l.take N) e []) :
    WpG ro P n ds (.region id l.toArray true) Q e w := by
  refine WpG.drawY N (Below w.heap.size w) (fun w w' => Below w.heap.size w w') hm hok (Nat.le_of_ble_eq_true hN) (fun w => Below.refl _ _) (Below.refl _ _).drew ?_
  exact h (by simp)
theorem WpG.drawF (N : Nat) (I : World → Prop) (hI : I w.drew) (hm : P.follows .mixedOrders = true) (hok : rgOk l N = true) (hN : Nat.ble N l.length = true)
    (h : RgF P n l.toArray I (fun Γ => ∀ e' w', I w' → (∀ t, Γ t (e' t) w') → WpL P n l.toArray (Q .normal ds) (l.drop N) e' w') (l.take N) e) :
    WpG ro P n ds (.region id l.toArray true) Q e w := WpG.drawL N I (fun _ _ => True) hm hok (Nat.le_of_ble_eq_true hN) (fun _ => trivial) hI h
theorem RgD.finY {ops ops' : Array Oper} {w0 : World} {K : Env → World → Prop} {tail : List Oper}
    (h : ∀ w, Below w0.heap.size w0 w → WpY P n ops' K tail e w) :
    RgD P n ops w0 (fun Γ => ∀ e' w', Below w0.heap.size w0 w' → (∀ t, Γ t (e' t) w') → WpY P n ops' K tail e' w') [] e [] := by
  intro hn e' w' hb hg
  have : e' = e := funext fun t => hg t
  subst this
  exact h w' hb
end
end Go.Fk
