/-
  A range over a function: the walk of a round's body, the loop's law, and an iterator's contract, over what is known of memory. It holds for any program; conditions stand at each theorem.
-/
import Derived.Test.YtaapnfoimcccjaaDf
import Derived.RangeFuncCalls
import Derived.RangeFuncLeaves
import Derived.RangeFuncBound
import Derived.TacticsIn
namespace Go.Fk
open Go.RowKit

/-- The fence that bars nothing; a round's frame, or a plain one. -/
def frn (ro : Option Nat) : Fence := { Fence.wide with round := ro }
theorem frn_none : frn none = Fence.wide := rfl
theorem Rows.toIn {ro : Option Nat} {P : Program} {row : String} {args : Array Value} {w : World} {R : Value → World → Prop} (h : Rows P row args w R) : RowsIn (frn ro) 0 P row args w R := fun c cs _ => by
  obtain ⟨v, w', hr, hs⟩ := h c cs
  exact ⟨v, w', hr, stepsIn_wide.2 hs⟩
theorem Calls.toIn {ro : Option Nat} {P : Program} {f : FuncId} {args : Array Value} {w : World} {R : Ending → World → Prop} (h : Calls P f args w R) : CallsIn (frn ro) 0 P f args w R := by
  have := callsIn_wide (n := 0) |>.2 h
  exact this

section
variable {P : Program} {n : Nat} {ds : List Deferred} {ro : Option Nat}
theorem OpW.wpIn {o : Oper} {e : Env} {w : World} {next : Env → World → Prop} {a : Act} {K : Act → World → Prop} {Q : Exit → Act → World → Prop}
    (h : OpW P o e w next) (ha : RepD ds n a e) (hd : dOk n o.dst = true) (hk : ∀ a e w, RepD ds n a e → next e w → K a w) : o.wpIn (frn ro) 0 P a w K Q := by
  refine ⟨fun _ _ => trivial, ?_⟩
  have hsem : Oper.semAt (frn ro).round e.eval o = execOp e.eval o ∨ ∃ c, o.op = .defer c := by
    by_cases hdf : ∃ c, o.op = .defer c
    · exact .inr hdf
    · exact .inl (Oper.semAt_eq _ _ _ fun c hc => hdf ⟨c, hc⟩)
  unfold OpW at h
  rw [ha.eval]
  rcases hsem with hsem | ⟨c, hc⟩
  · rw [hsem]
    generalize (execOp e.eval o).run P w = r at h ⊢
    cases r with
    | halt x w' => exact h.elim
    | ok x w' =>
      cases x <;> simp only at h <;> simp only [Oper.uponIn]
      case value v => exact hk _ _ _ (ha.put hd v) h
      case skip => exact hk _ _ _ (ha.put hd _) h
      case enter f args =>
        refine ⟨fun h => (by cases h), (Calls.toIn h).mono fun x w'' hx => ?_⟩
        obtain ⟨v, rfl, hx⟩ := hx
        exact hk _ _ _ (ha.put hd v) hx
      case row row args => exact ⟨fun h => (by cases h), Rows.toIn (h.mono fun v w'' hx => hk _ _ _ (ha.put hd v) hx)⟩
  · exfalso
    have : execOp e.eval o = (do pure (.defer (← resolve e.eval c o.type))) := by unfold execOp; rw [hc]
    rw [this, Sem.run_bind] at h
    cases hr : (resolve e.eval c o.type).run P w with
    | halt x w' => rw [hr] at h; exact h
    | ok x w' => rw [hr] at h; exact h
theorem WpL.wpListIn {ops : Array Oper} {K : Env → World → Prop} {Q : Exit → Act → World → Prop} {tail : List Oper} (hq : ∀ a e w, RepD ds n a e → K e w → Go.wpListIn (frn ro) 0 P ops Q tail a w) :
    ∀ (l : List Oper) (e : Env) (w : World) (a : Act), RepD ds n a e → WpL P n ops K l e w → Go.wpListIn (frn ro) 0 P ops Q (l ++ tail) a w
  | [], e, w, a, ha, h => hq a e w ha h
  | o :: rest, e, w, a, ha, h => by
    obtain ⟨hd, h⟩ := h
    rw [List.cons_append]
    unfold Go.wpListIn
    rw [ha.yielded]
    by_cases hw : Region.wanted o (yieldedE ops e) = true
    · rw [if_pos hw] at h ⊢
      exact h.wpIn ha hd fun a e w ha h => WpL.wpListIn hq rest e w a ha h
    · rw [if_neg hw] at h ⊢
      exact ⟨fun _ _ => trivial, WpL.wpListIn hq rest _ _ _ (ha.put hd _) h⟩
end

/-! ### Code, in a round or not, with deferred calls or without -/
def WpG (ro : Option Nat) (P : Program) (n : Nat) (ds : List Deferred) (c : Code) (Q : PostD) (e : Env) (w : World) : Prop :=
  ∀ a, RepD ds n a e → c.wpIn (frn ro) 0 P (fun x a' w' => ∃ ds' e', RepD ds' n a' e' ∧ Q x ds' e' w') a w
def blockG (id : Nat) (Q : PostD) : PostD
  | .exit id', ds, e, w => if id' = id then Q .normal ds e w else Q (.exit id') ds e w
  | x, ds, e, w => Q x ds e w
section
variable {P : Program} {n : Nat} {ds : List Deferred} {ro : Option Nat} {Q : PostD} {e : Env} {w : World}
theorem WpG.mono {c : Code} {Q' : PostD} (h : WpG ro P n ds c Q e w) (hq : ∀ x ds e w, Q x ds e w → Q' x ds e w) : WpG ro P n ds c Q' e w :=
  fun a ha => wpIn_mono (h a ha) fun x _ _ ⟨ds', e', h1, h2⟩ => ⟨ds', e', h1, hq _ _ _ _ h2⟩
theorem WpG.seq {x y : Code} (h : WpG ro P n ds x (thenD (fun ds e w => WpG ro P n ds y Q e w) Q) e w) : WpG ro P n ds (.seq x y) Q e w := fun a ha =>
  wpIn_seq (wpIn_mono (h a ha) fun x a' _ ⟨ds', e', h1, h2⟩ => by
    cases x with
    | normal => exact h2 a' h1
    | _ => exact ⟨ds', e', h1, h2⟩)
theorem WpG.skip (h : Q .normal ds e w) : WpG ro P n ds .skip Q e w := fun _ ha => wpIn_skip ⟨ds, e, ha, h⟩
theorem WpG.ret (h : Q .ret ds e w) : WpG ro P n ds .ret Q e w := fun _ ha => wpIn_ret ⟨ds, e, ha, h⟩
theorem WpG.exit {id : Nat} (h : Q (.exit id) ds e w) : WpG ro P n ds (.exit id) Q e w := fun _ ha => wpIn_exit ⟨ds, e, ha, h⟩
theorem WpG.condT {c : Operand} {x y : Code} {t : Bool} (hc : e.eval c = .bool t) (ht : t = true) (h : WpG ro P n ds x Q e w) : WpG ro P n ds (.cond c x y) Q e w := fun a ha =>
  wpIn_cond_split (t := t) (by rw [ha.eval, hc]) (fun _ => h a ha) (fun hf => by rw [ht] at hf; cases hf)
theorem WpG.condF {c : Operand} {x y : Code} {t : Bool} (hc : e.eval c = .bool t) (ht : t = false) (h : WpG ro P n ds y Q e w) : WpG ro P n ds (.cond c x y) Q e w := fun a ha =>
  wpIn_cond_split (t := t) (by rw [ha.eval, hc]) (fun hf => by rw [ht] at hf; cases hf) (fun _ => h a ha)
theorem WpG.block {id : Nat} {c : Code} (h : WpG ro P n ds c (blockG id Q) e w) : WpG ro P n ds (.block id c) Q e w := fun a ha =>
  wpIn_block (wpIn_mono (h a ha) fun x a' w' ⟨ds', e', h1, h2⟩ => by
    cases x with
    | exit id' =>
      simp only [blockG] at h2
      simp only [Exit.inBlock]
      by_cases hid : id' = id
      · rw [if_pos hid] at h2 ⊢; exact ⟨ds', e', h1, h2⟩
      · rw [if_neg hid] at h2 ⊢; exact ⟨ds', e', h1, h2⟩
    | _ => exact ⟨ds', e', h1, h2⟩)
theorem WpG.region {l : List Oper} {id : Nat} (h : WpL P n l.toArray (Q .normal ds) l e w) : WpG ro P n ds (.region id l.toArray false) Q e w := fun a ha => by
  refine wpIn_region_lit ?_
  have := WpL.wpListIn (ro := ro) (tail := []) (Q := fun x a' w' => ∃ ds' e', RepD ds' n a' e' ∧ Q x ds' e' w') (fun a e w ha hk => ⟨ds, e, ha, hk⟩) l e w a ha h
  rwa [List.append_nil] at this
theorem WpG.loop {c : Code} (I : List Deferred → Env → World → Prop) (μ : Env → World → Nat) (h0 : I ds e w)
    (round : ∀ ds e w, I ds e w → WpG ro P n ds c (thenD (fun ds' e' w' => I ds' e' w' ∧ μ e' w' < μ e w) Q) e w) : WpG ro P n ds (.loop c) Q e w := by
  intro a ha
  let env : Act → Env := fun a t => a.tmps.getD t undef
  have henv : ∀ ds a e, RepD ds n a e → env a = e := fun ds a e h => funext fun t => h.2.2 t
  refine wpIn_loop (fun a' w' => RepD a'.defers n a' (env a') ∧ I a'.defers (env a') w') (fun a' w' => μ (env a') w') ?_ ?_
  · rw [henv ds a e ha, ha.1]; exact ⟨ha, h0⟩
  · intro a' w' ⟨h1, h2⟩
    refine wpIn_mono (round _ _ _ h2 a' h1) fun x a'' w'' ⟨ds', e', h3, h4⟩ => ?_
    cases x with
    | normal =>
      simp only [Exit.then]
      have h5 := h3.1
      subst h5
      rw [henv _ _ _ h3]
      exact ⟨⟨h3, h4.1⟩, h4.2⟩
    | _ => exact ⟨ds', e', h3, h4⟩
/-- A plain piece of code, walked as everywhere. -/
theorem WpG.plain {c : Code} {Q' : Exit → Env → World → Prop} (h : Wp P n c Q' e w) (hq : ∀ x e w, Q' x e w → Q x [] e w) : WpG none P n [] c Q e w := fun a ha => by
  have h1 := wpIn_wide (n := 0) |>.2 (h a ha)
  exact wpIn_mono (F := frn none) h1 fun x a' w' ⟨e', h2, h3⟩ => ⟨[], e', h2, hq _ _ _ h3⟩

theorem thenD_normal {K : List Deferred → Env → World → Prop} (h : K ds e w) : thenD K Q .normal ds e w := h
theorem thenD_exit {K : List Deferred → Env → World → Prop} {id : Nat} (h : Q (.exit id) ds e w) : thenD K Q (.exit id) ds e w := h
theorem thenD_ret {K : List Deferred → Env → World → Prop} (h : Q .ret ds e w) : thenD K Q .ret ds e w := h
theorem blockG_normal {id : Nat} (h : Q .normal ds e w) : blockG id Q .normal ds e w := h
theorem blockG_ret {id : Nat} (h : Q .ret ds e w) : blockG id Q .ret ds e w := h
theorem blockG_same {id : Nat} (h : Q .normal ds e w) : blockG id Q (.exit id) ds e w := by
  show if id = id then Q .normal ds e w else Q (.exit id) ds e w
  rw [if_pos rfl]; exact h
theorem blockG_other {id id' : Nat} (hn : Nat.beq id' id = false) (h : Q (.exit id') ds e w) : blockG id Q (.exit id') ds e w := by
  show if id' = id then Q .normal ds e w else Q (.exit id') ds e w
  rw [if_neg (fun he => by rw [he, Nat.beq_refl] at hn; cases hn)]
  exact h
end

/-! ### The yield call -/
/-- A region of which one operation calls yield: what is ahead; the call; what is behind. -/
theorem Wp.regionY {P : Program} {n : Nat} {Q : Exit → Env → World → Prop} {e : Env} {w : World} {l pre post : List Oper} {o : Oper} {id : Nat} (hl : l = pre ++ o :: post) {d : Tmp} {u : Operand} {xs : List Operand} {argTypes : Array TypeId} {ty : TypeId} {pos : String} {after : Array Edge} {gd : Option (Nat × Bool)}
    (ho : o = ⟨some d, .call { callee := .value u, args := xs.toArray, argTypes }, ty, pos, after, gd⟩) (hd : dOk n (some d) = true)
    (h : WpL P n l.toArray (fun e w => (Region.wanted o (yieldedE l.toArray e) = true ∧ ∃ r vs, e.eval u = .func (.yield r) #[] #[] ∧ Vals e xs vs ∧
        YieldAt Fence.wide 0 P r vs.toArray w fun x w' => ∃ v, x = .returned v ∧ WpL P n l.toArray (Q .normal) post (e.set d v) w') ∨
      (Region.wanted o (yieldedE l.toArray e) = false ∧ WpL P n l.toArray (Q .normal) post (e.set d undef) w)) pre e w) : Wp P n (.region id l.toArray false) Q e w := fun a ha => by
  have h2 : ∀ a e w, RepD [] n a e → WpL P n l.toArray (Q .normal) post e w → Go.wpListIn (frn none) 0 P l.toArray (fun x a' w' => ∃ e', Rep n a' e' ∧ Q x e' w') post a w := fun a e w ha h => by
    have := WpL.wpListIn (ro := none) (tail := []) (Q := fun x a' w' => ∃ e', Rep n a' e' ∧ Q x e' w') (fun a e w ha hk => ⟨e, ha, hk⟩) post e w a ha h
    rwa [List.append_nil] at this
  refine wpIn_wide (n := 0) |>.1 ?_
  rw [← frn_none]
  refine wpIn_region_lit ?_
  have := WpL.wpListIn (ro := none) (ds := []) (tail := o :: post) (Q := fun x a' w' => ∃ e', Rep n a' e' ∧ Q x e' w') (fun a e w ha hk => by
    unfold Go.wpListIn
    rw [ha.yielded]
    rcases hk with ⟨hw, r, vs, hu, hv, fn, tmps, assign, body, hy, hR⟩ | ⟨hw, hk⟩
    · rw [if_pos hw]
      refine ⟨fun _ _ => trivial, ?_⟩
      have hrun : (Oper.semAt (frn none).round a.eval o).run P w = .ok (.round r fn tmps assign body) w := by
        show (execOp a.eval o).run P w = _
        rw [ha.eval, ho]
        simp [execOp, resolve, Deferred.ofValue, invoke, hu, List.map_toArray, hv.map, hy]
      rw [hrun]
      refine ⟨fun h => (by cases h), RoundIn.mono (F := Fence.wide) hR fun x w' hx => ?_⟩
      obtain ⟨v, rfl, hx⟩ := hx
      rw [ho]
      exact h2 _ _ _ (ha.put (d := some d) hd v) hx
    · rw [if_neg (by rw [hw]; decide)]
      refine ⟨fun _ _ => trivial, ?_⟩
      rw [ho]
      exact h2 _ _ _ (ha.put (d := some d) hd undef) hk) pre e w a ha h
  rw [← hl] at this
  exact this
theorem Wp.regionYat (k : Nat) {P : Program} {n : Nat} {Q : Exit → Env → World → Prop} {e : Env} {w : World} {l : List Oper} {o : Oper} {id : Nat} (hl : l[k]? = some o) {d : Tmp} {u : Operand} {xs : List Operand} {argTypes : Array TypeId} {ty : TypeId} {pos : String} {after : Array Edge} {gd : Option (Nat × Bool)}
    (ho : o = ⟨some d, .call { callee := .value u, args := xs.toArray, argTypes }, ty, pos, after, gd⟩) (hd : dOk n (some d) = true)
    (h : WpL P n l.toArray (fun e w => (Region.wanted o (yieldedE l.toArray e) = true ∧ ∃ r vs, e.eval u = .func (.yield r) #[] #[] ∧ Vals e xs vs ∧
        YieldAt Fence.wide 0 P r vs.toArray w fun x w' => ∃ v, x = .returned v ∧ WpL P n l.toArray (Q .normal) (l.drop (k + 1)) (e.set d v) w') ∨
      (Region.wanted o (yieldedE l.toArray e) = false ∧ WpL P n l.toArray (Q .normal) (l.drop (k + 1)) (e.set d undef) w)) (l.take k) e w) : Wp P n (.region id l.toArray false) Q e w := by
  refine Wp.regionY (pre := l.take k) (post := l.drop (k + 1)) ?_ ho hd h
  obtain ⟨hk, hk2⟩ := List.getElem?_eq_some_iff.1 hl
  rw [← hk2, ← List.drop_eq_getElem_cons hk, List.take_append_drop]

/-! ### The loop -/
/-- An iterator's contract: whatever the caller keeps in Lc from round to round; Γ is what the iterator reads. -/
def IterOk (P : Program) (gf : Nat) (lb : Array Value) {α : Type} (encs : α → List Value) (xs : List α) (w0 : World) (M : Nat → Prop) (Γ : List Ch) : Prop :=
  ∀ (r : Nat) (I Ix : List α → List Ch → Prop),
    (∀ pre x rest Lc Γ' w, xs = pre ++ x :: rest → I pre Lc → St w0 M w (Lc ++ Γ') → YieldAt Fence.wide 0 P r (encs x).toArray w fun v w' =>
      (v = .returned (.bool true) ∧ ∃ Lc', I (pre ++ [x]) Lc' ∧ St w0 M w' (Lc' ++ Γ')) ∨ (v = .returned (.bool false) ∧ ∃ Lc', Ix (pre ++ [x]) Lc' ∧ St w0 M w' (Lc' ++ Γ'))) →
    ∀ Lc Γ' w, I [] Lc → St w0 M w (Lc ++ (Γ ++ Γ')) → Calls P gf (#[.func (.yield r) #[] #[]] ++ lb) w fun v w' => (∃ u, v = .returned u) ∧
      ((∃ Lc', I xs Lc' ∧ St w0 M w' (Lc' ++ (Γ ++ Γ'))) ∨ ∃ pre Lc', Ix pre Lc' ∧ St w0 M w' (Lc' ++ (Γ ++ Γ')))
def markD (D : Nat) : Deferred := { target := .collected D, args := #[] }
/-- How a round's body may be left. -/
def roundD {α : Type} (r : Nat) (o : Obj) (w0 : World) (M : Nat → Prop) (I : List α → List Ch → Prop) (Ix : Code → List α → List Ch → Prop) (xs : List α) (Γ' : List Ch) : PostD
  | .normal, _, _, w => ∃ Lc', I xs Lc' ∧ St w0 M w (.obj r o :: (Lc' ++ Γ'))
  | .ret, _, _, w => ∃ Lc', Ix .ret xs Lc' ∧ St w0 M w (.obj r o :: (Lc' ++ Γ'))
  | .exit id, _, _, w => ∃ Lc', Ix (.exit id) xs Lc' ∧ St w0 M w (.obj r o :: (Lc' ++ Γ'))
  | _, _, _, _ => False
theorem roundD.go {α : Type} {r : Nat} {o : Obj} {w0 w : World} {M : Nat → Prop} {I : List α → List Ch → Prop} {Ix : Code → List α → List Ch → Prop} {xs : List α} {Γ' Lc' : List Ch} {ds : List Deferred} {e : Env} (h : I xs Lc') (hS : St w0 M w (.obj r o :: (Lc' ++ Γ'))) : roundD r o w0 M I Ix xs Γ' .normal ds e w := ⟨_, h, hS⟩
theorem roundD.ret {α : Type} {r : Nat} {o : Obj} {w0 w : World} {M : Nat → Prop} {I : List α → List Ch → Prop} {Ix : Code → List α → List Ch → Prop} {xs : List α} {Γ' Lc' : List Ch} {ds : List Deferred} {e : Env} (h : Ix .ret xs Lc') (hS : St w0 M w (.obj r o :: (Lc' ++ Γ'))) : roundD r o w0 M I Ix xs Γ' .ret ds e w := ⟨_, h, hS⟩
theorem roundD.exit {α : Type} {r : Nat} {o : Obj} {w0 w : World} {M : Nat → Prop} {I : List α → List Ch → Prop} {Ix : Code → List α → List Ch → Prop} {xs : List α} {Γ' Lc' : List Ch} {ds : List Deferred} {e : Env} {id : Nat} (h : Ix (.exit id) xs Lc') (hS : St w0 M w (.obj r o :: (Lc' ++ Γ'))) : roundD r o w0 M I Ix xs Γ' (.exit id) ds e w := ⟨_, h, hS⟩
def Env.params (e : Env) : List Tmp → List Value → Env
  | p :: ps, v :: vs => Env.params (e.set p v) ps vs
  | _, _ => e
theorem rep_params {n : Nat} : ∀ (ps : List Tmp) (vs : List Value) (tmps : Array Value) (e : Env), (∀ p ∈ ps, p < n) → RepD [] n { tmps := tmps, defers := [] } e →
    RepD [] n { tmps := (ps.zip vs).foldl (fun t (p, v) => t.setIfInBounds p v) tmps, defers := [] } (e.params ps vs)
  | [], _, _, _, _, h => h
  | _ :: _, [], _, _, _, h => h
  | p :: ps, v :: vs, tmps, e, hp, h => by
    have hd : dOk n (some p) = true := by simpa [dOk, Nat.blt_eq] using hp p List.mem_cons_self
    exact rep_params ps vs (tmps.setIfInBounds p v) (e.set p v) (fun q hq => hp q (List.mem_cons_of_mem _ hq)) (h.put (d := some p) hd v)
theorem chg_putObj (w : World) (r : Nat) (o : Obj) : Chg w (fun k => some r = some k) (w.putObj r o) :=
  ⟨rfl, rfl, rfl, by simp, fun k _ hk => World.putObj_heap_other fun h => hk (by rw [h])⟩
theorem St.putObj {w0 w : World} {M : Nat → Prop} {r : Nat} {o : Obj} {L : List Ch} (o' : Obj) (hS : St w0 M w (.obj r o :: L)) : St w0 M (w.putObj r o') (.obj r o' :: L) := by
  have h1 : w.heap[r]? = some o := (hS.hold _ List.mem_cons_self).1
  exact hS.put (d := .obj r o') (chg_putObj w r o') (World.putObj_heap_same (Array.getElem?_eq_some_iff.1 h1).1) rfl (fun g hg => .inl hg)
theorem St.newObj {w0 w : World} {M : Nat → Prop} {o : Obj} {L : List Ch} (hS : St w0 M w L) : St w0 M (w.alloc o) (.obj w.heap.size o :: L) :=
  hS.new (c := .obj w.heap.size o) ((Below.refl _ w).alloc (Nat.le_refl _) _) (World.alloc_heap_new w o) rfl fun g hg => by cases hg; exact Nat.le_refl _

theorem WpG.rangeFunc {P : Program} {n : Nat} {ds : List Deferred} {Q : PostD} {e : Env} {w : World} {α : Type} {g : Operand} {ps : List Tmp} {assign body : Code} {gf : Nat} {lb : Array Value} {encs : α → List Value} {xs : List α} {w0 : World} {M : Nat → Prop} {Γ Γ0 Lc : List Ch}
    (hseq : IterOk P gf lb encs xs w0 M Γ) (hg : e.eval g = .func (.func gf) #[] lb) (eg : ∀ args w, (callFunc gf args).run P w = .ok (.enter gf args) w)
    (hps : ∀ x, (encs x).length = ps.length) (hpn : ∀ p ∈ ps, p < n)
    (I : List α → List Ch → Prop) (Ix : Code → List α → List Ch → Prop) (hS : St w0 M w (Lc ++ (Γ ++ Γ0))) (h0 : I [] Lc)
    (hbody : ∀ r pre x rest Lc Γ' w o, xs = pre ++ x :: rest → I pre Lc → St w0 M w (.obj r o :: (Lc ++ Γ')) →
      WpG (some r) P n [] assign (thenD (fun ds' e' w' => ds' = [] ∧ ∃ L1, St w0 M w' (.obj r o :: L1) ∧ ∀ w'' o', St w0 M w'' (.obj r o' :: L1) → WpG (some r) P n [] body (roundD r o' w0 M I Ix (pre ++ [x]) Γ') e' w'') (fun _ _ _ _ => False)) (e.params ps (encs x)) w)
    (hdone : ∀ D Lc w', I xs Lc → St w0 M w' (.obj D (.deferred (some [])) :: (Lc ++ (Γ ++ Γ0))) → Q .normal (markD D :: ds) e w')
    (hstop : ∀ D c pre Lc w', Ix c pre Lc → St w0 M w' (.obj D (.deferred (some [])) :: (Lc ++ (Γ ++ Γ0))) → WpG none P n (markD D :: ds) c Q e w') :
    WpG none P n ds (.rangeFunc g ps.toArray assign body) Q e w := fun a ha => by
  refine wpIn_rangeFunc (F := frn none) fun fn _ => ?_
  obtain ⟨rec, hrec⟩ : ∃ rec : LoopState → Option Code → Loop, rec = fun st pe => { state := st, pending := pe, fn, tmps := a.tmps, params := ps.toArray, assign, body, defers := w.heap.size } := ⟨_, rfl⟩
  have hS1 := (hS.newObj (o := .deferred (some []))).newObj (o := .loop (rec .ready none))
  rw [World.size_alloc] at hS1
  generalize hD : w.heap.size = D at *
  have hS2 : St w0 M ((w.alloc (.deferred (some []))).alloc (.loop (rec .ready none))) ((Ch.obj (D + 1) (.loop (rec .ready none)) :: Lc) ++ (Γ ++ (Ch.obj D (.deferred (some [])) :: Γ0))) := by
    refine hS1.perm ?_
    rw [List.cons_append]
    refine List.Perm.cons _ ?_
    rw [← List.append_assoc, ← List.append_assoc]
    exact List.perm_middle.symm
  have back : ∀ (o : Obj) (Lc' : List Ch) w', St w0 M w' ((Ch.obj (D + 1) o :: Lc') ++ (Γ ++ (Ch.obj D (.deferred (some [])) :: Γ0))) → St w0 M w' (.obj (D + 1) o :: .obj D (.deferred (some [])) :: (Lc' ++ (Γ ++ Γ0))) := fun o Lc' w' h => by
    refine h.perm ?_
    rw [List.cons_append]
    refine List.Perm.cons _ ?_
    rw [← List.append_assoc, ← List.append_assoc]
    exact List.perm_middle
  refine ⟨D + 1, [markD D], (w.alloc (.deferred (some []))).alloc (.loop (rec .ready none)), { target := .fn (.func gf) lb, args := #[.func (.yield (D + 1)) #[] #[]] }, (w.alloc (.deferred (some []))).alloc (.loop (rec .ready none)), gf,
    #[.func (.yield (D + 1)) #[] #[]] ++ lb, (w.alloc (.deferred (some []))).alloc (.loop (rec .ready none)), ?_, ?_, fun _ _ => trivial, ?_, fun h => (by cases h), Calls.toIn ?_⟩
  · have := run_enterLoop_outer (P := P) (w := w) fn a.tmps ps.toArray assign body
    rw [hD] at this
    rw [hrec]
    exact this
  · have hg' : a.eval g = .func (.func gf) #[] lb := by rw [ha.eval, hg]
    simp only [resolve, hg']
    simp [go_sem]
  · simp [invoke, go_sem, eg]
  refine (hseq (D + 1) (fun pre L => ∃ Lc, L = .obj (D + 1) (.loop (rec .ready none)) :: Lc ∧ I pre Lc) (fun pre L => ∃ c Lc, L = .obj (D + 1) (.loop (rec .done (some c))) :: Lc ∧ Ix c pre Lc) ?_
    (.obj (D + 1) (.loop (rec .ready none)) :: Lc) (.obj D (.deferred (some [])) :: Γ0) _ ⟨Lc, rfl, h0⟩ hS2).mono ?_
  · rintro pre x rest _ Γ' W hx ⟨Lc, rfl, hI⟩ hS3
    have hl : W.heap[D + 1]? = some (.loop (rec .ready none)) := (hS3.hold _ List.mem_cons_self).1
    have hy := run_yield (P := P) (args := (encs x).toArray) hl (by rw [hrec]; simp [hps x])
    rw [hrec] at hy
    refine ⟨fn, _, assign, body, hy, roundIn_of_wpIn (F := Fence.wide) trivial ?_⟩
    have hB := hbody (D + 1) pre x rest Lc Γ' W _ hx hI hS3 { tmps := (ps.zip (encs x)).foldl (fun t (p, v) => t.setIfInBounds p v) a.tmps, defers := [] } (rep_params ps (encs x) a.tmps e hpn ⟨rfl, ha.2.1, ha.2.2⟩)
    have hz : (ps.toArray.zip (encs x).toArray).foldl (fun tmps (t, a) => tmps.setIfInBounds t a) a.tmps = (ps.zip (encs x)).foldl (fun t (p, v) => t.setIfInBounds p v) a.tmps := by simp
    dsimp only
    rw [hz]
    refine wpIn_mono (F := frn (some (D + 1))) hB fun x1 a1 w1 ⟨ds', e', hr', hq⟩ => ?_
    cases x1 with
    | normal =>
      obtain ⟨rfl, L1, hS4, hnext⟩ := hq
      have hl1 : w1.heap[D + 1]? = some (.loop (rec .ready none)) := (hS4.hold _ List.mem_cons_self).1
      refine ⟨_, run_beginRound hl1 (by rw [hrec]), ?_⟩
      refine wpIn_mono (F := frn (some (D + 1))) (hnext _ _ (hS4.putObj _) a1 hr') fun x2 a2 w2 ⟨ds2, e2, hr2, hq2⟩ => ?_
      have fin : ∀ (jump : Option Code) (Lc' : List Ch), St w0 M w2 (.obj (D + 1) (.loop { rec .ready none with state := .busy }) :: (Lc' ++ Γ')) →
          (Instr.endRound (D + 1) jump).run P w2 = .ok (.bool jump.isNone) (w2.putObj (D + 1) (.loop (rec (if jump.isNone then .ready else .done) jump))) ∧
          St w0 M (w2.putObj (D + 1) (.loop (rec (if jump.isNone then .ready else .done) jump))) ((.obj (D + 1) (.loop (rec (if jump.isNone then .ready else .done) jump)) :: Lc') ++ Γ') := fun jump Lc' hS5 => by
        have hl2 : w2.heap[D + 1]? = some (.loop { rec .ready none with state := .busy }) := (hS5.hold _ List.mem_cons_self).1
        have := run_endRound (P := P) jump hl2
        rw [hrec] at this ⊢
        exact ⟨this, hS5.putObj _⟩
      cases x2 with
      | normal =>
        obtain ⟨Lc', hI', hS5⟩ := hq2
        obtain ⟨h1, h2⟩ := fin none Lc' hS5
        exact ⟨_, _, h1, .inl ⟨rfl, _, ⟨Lc', rfl, hI'⟩, h2⟩⟩
      | ret =>
        obtain ⟨Lc', hI', hS5⟩ := hq2
        obtain ⟨h1, h2⟩ := fin (some .ret) Lc' hS5
        exact ⟨_, _, h1, .inr ⟨rfl, _, ⟨.ret, Lc', rfl, hI'⟩, h2⟩⟩
      | exit id =>
        obtain ⟨Lc', hI', hS5⟩ := hq2
        obtain ⟨h1, h2⟩ := fin (some (.exit id)) Lc' hS5
        exact ⟨_, _, h1, .inr ⟨rfl, _, ⟨.exit id, Lc', rfl, hI'⟩, h2⟩⟩
      | goto t => exact hq2.elim
      | panic ch => exact hq2.elim
      | outgrown => exact hq2.elim
    | exit id => exact hq.elim
    | goto t => exact hq.elim
    | ret => exact hq.elim
    | panic ch => exact hq.elim
    | outgrown => exact hq.elim
  · rintro v w2 ⟨⟨u, rfl⟩, (⟨_, ⟨Lc', rfl, hI'⟩, hS3⟩ | ⟨pre, _, ⟨c, Lc', rfl, hI'⟩, hS3⟩)⟩
    · have hl : w2.heap[D + 1]? = some (.loop (rec .ready none)) := (hS3.hold _ List.mem_cons_self).1
      refine ⟨none, _, by have := run_endLoop (P := P) hl (by rw [hrec]; simp); rw [hrec] at this; exact this, ?_⟩
      exact ⟨_, e, ⟨by rw [ha.1]; rfl, ha.2.1, ha.2.2⟩, hdone D Lc' _ hI' ((back _ _ _ hS3).putObj _).tail⟩
    · have hl : w2.heap[D + 1]? = some (.loop (rec .done (some c))) := (hS3.hold _ List.mem_cons_self).1
      refine ⟨some c, _, by have := run_endLoop (P := P) hl (by rw [hrec]; simp); rw [hrec] at this; exact this, ?_⟩
      exact hstop D c pre Lc' _ hI' ((back _ _ _ hS3).putObj _).tail _ ⟨by rw [ha.1]; rfl, ha.2.1, ha.2.2⟩

/-! ### A call's beginning and end -/
def leaveG (P : Program) (fn : Func) (R : Ending → World → Prop) : PostD
  | .normal, ds, e, w | .ret, ds, e, w => ∀ tmps : Array Value, (∀ t, tmps.getD t undef = e t) → LeavesInM Fence.wide 0 P fn tmps R ds .returning w
  | _, _, _, _ => False
theorem leaveG_ret {P : Program} {fn : Func} {R : Ending → World → Prop} {ds : List Deferred} {e : Env} {w : World} (h : leaveG P fn R .ret ds e w) : leaveG P fn R .normal ds e w := h
theorem leaveG_nil {P : Program} {fn : Func} {R : Ending → World → Prop} {e : Env} {w : World} (h : doneQ P fn R .ret e w) : leaveG P fn R .ret [] e w := fun tmps ht => by
  obtain ⟨v, h1, h2⟩ := h
  exact ⟨v, h1 tmps ht, h2⟩
theorem leaveG_mark {P : Program} {fn : Func} {R : Ending → World → Prop} {ds : List Deferred} {e : Env} {w w0 : World} {M : Nat → Prop} {D : Nat} {L : List Ch} (hS : St w0 M w (.obj D (.deferred (some [])) :: L)) (h : ∀ w', St w0 M w' L → leaveG P fn R .ret ds e w') : leaveG P fn R .ret (markD D :: ds) e w := fun tmps ht => by
  have hk : w.heap[D]? = some (.deferred (some [])) := (hS.hold _ List.mem_cons_self).1
  refine ⟨by simp, .inl ⟨_, _, rfl, run_takeDeferred hk, ?_⟩⟩
  exact h _ (hS.putObj _).tail tmps ht
theorem leaveG_marks {P : Program} {fn : Func} {R : Ending → World → Prop} {e : Env} {w0 : World} {M : Nat → Prop} {L : List Ch} (h : ∀ w', St w0 M w' L → doneQ P fn R .ret e w') : ∀ (Ds : List Nat) (w : World), St w0 M w (Ds.map (fun D => .obj D (.deferred (some []))) ++ L) → leaveG P fn R .ret (Ds.map markD) e w
  | [], w, hS => leaveG_nil (h w hS)
  | D :: Ds, w, hS => leaveG_mark (L := Ds.map (fun D => .obj D (.deferred (some []))) ++ L) hS fun w' hS' => leaveG_marks h Ds w' hS'
theorem calls_ofG {P : Program} {f : FuncId} {fn : Func} {c : Code} {args : List Value} {w : World} {R : Ending → World → Prop} (n : Nat)
    (hf : P.funcs[f]? = some fn) (hb : fn.body = some c) (hn : fn.ntmps = n) (hargs : args.length ≤ n)
    (h : WpG none P n [] c (leaveG P fn R) (argE args 0) w) : Calls P f args.toArray w R := by
  have h0 := rep_init hn hargs
  refine callsIn_wide (n := 0) |>.1 (callsIn_of_wp_marks (F := Fence.wide) hf hb trivial (wpIn_mono (F := frn none) (h _ ⟨h0.1, h0.2.1, h0.2.2⟩) fun x a' w' ⟨ds', e', h1, h2⟩ => ?_))
  cases x with
  | normal => have h3 := h2 a'.tmps h1.2.2; rw [← h1.1] at h3; exact h3
  | ret => have h3 := h2 a'.tmps h1.2.2; rw [← h1.1] at h3; exact h3
  | _ => exact h2.elim
/-- The walk in a round, or beside deferred calls. -/
theorem Reach.walkG {g r : Prop} (k : r) (h : Reach g r := by (repeat ((with_reducible apply Reach.via); (· (intro x; (first | ((with_reducible apply WpL.ld); (· assumption); (· exact rfl); (· exact rfl); (· exact Look.found); exact x.out) | ((with_reducible apply WpL.ldRow); (· assumption); (· exact rfl); (· exact rfl); (· exact Sel.found); (· exact rfl); exact x.out) | ((with_reducible apply WpL.st); (· assumption); (· exact rfl); (· exact Env.found); (· exact rfl); (· exact Upd.found); exact x.out) | ((with_reducible apply WpL.stRow); (· assumption); (· exact rfl); (· exact rfl); (· exact Swap.found); (· exact rfl); (· exact rfl); (· exact oneAll_spec rfl); exact x.out) | ((with_reducible apply WpL.slLo); (· exact rfl); (· exact rfl); (· assumption); (· exact rfl); (· exact natFound); (· exact lenFound); exact x.out) | ((with_reducible apply WpL.slHi); (· exact rfl); (· exact rfl); (· assumption); (· exact rfl); (· exact natFound); (· exact lenFound); exact x.out) | ((with_reducible apply WpL.slLoHi); (· exact rfl); (· exact rfl); (· assumption); (· exact rfl); (· exact natFound); (· exact rfl); (· exact natFound); (· exact lenFound); (· exact lenFound); exact x.out) | ((with_reducible apply WpL.sr); (· assumption); (· exact rfl); (· exact rfl); (· exact RdsV.found); exact x.out) | ((with_reducible apply WpL.atLoad); (· assumption); (· exact rfl); (· exact rfl); (· exact Look.found); exact x.out) | ((with_reducible apply WpL.atStore); (· assumption); (· exact rfl); (· exact rfl); (· exact rfl); (· exact Upd.found); exact x.out) | ((with_reducible apply WpL.atCas); (· assumption); (· exact rfl); (· exact rfl); (· exact rfl); (· exact rfl); (· exact Look.found); (· exact Upd.found); exact x.out) | ((with_reducible apply WpL.det); (· exact rfl); (· exact Det.found2); exact x.out) | ((with_reducible apply WpL.nilN); exact x.out) | ((with_reducible apply WpL.nil); exact x.out) | ((with_reducible apply WpG.seq); exact x.out) | ((with_reducible apply WpG.region); exact x.out) | ((with_reducible apply thenD_normal); exact x.out) | ((with_reducible apply WpG.block); exact x.out) | ((with_reducible apply WpG.skip); exact x.out) | ((with_reducible apply WpG.ret); exact x.out) | ((with_reducible apply WpG.exit); exact x.out) | ((with_reducible apply thenD_exit); exact x.out) | ((with_reducible apply thenD_ret); exact x.out) | ((with_reducible apply blockG_normal); exact x.out) | ((with_reducible apply blockG_ret); exact x.out) | ((with_reducible apply blockG_same); exact x.out) | ((with_reducible apply blockG_other); (· exact rfl); exact x.out) | ((with_reducible apply WpL.unguard); (· exact rfl); (· exact rfl); (· exact boolFound2); exact x.out) | ((with_reducible apply WpL.skipG); (· exact rfl); (· exact rfl); (· exact boolFound2); (· exact rfl); exact x.out) | ((with_reducible apply WpL.skipU); (· exact rfl); (· exact rfl); (· exact rfl); exact x.out) | ((with_reducible apply WpG.condT); (· exact rfl); (· exact boolFound2); exact x.out) | ((with_reducible apply WpG.condF); (· exact rfl); (· exact boolFound2); exact x.out)))); (first | ((with_reducible apply Reach.st); intro _ _) | ((with_reducible apply Reach.vw); intro _ _) | skip))); exact Reach.done) : g := h k
/-- Operations alone. -/
theorem Reach.walkL {g r : Prop} (k : r) (h : Reach g r := by (repeat ((with_reducible apply Reach.via); (· (intro x; (first | ((with_reducible apply WpL.ld); (· assumption); (· exact rfl); (· exact rfl); (· exact Look.found); exact x.out) | ((with_reducible apply WpL.ldRow); (· assumption); (· exact rfl); (· exact rfl); (· exact Sel.found); (· exact rfl); exact x.out) | ((with_reducible apply WpL.st); (· assumption); (· exact rfl); (· exact Env.found); (· exact rfl); (· exact Upd.found); exact x.out) | ((with_reducible apply WpL.stRow); (· assumption); (· exact rfl); (· exact rfl); (· exact Swap.found); (· exact rfl); (· exact rfl); (· exact oneAll_spec rfl); exact x.out) | ((with_reducible apply WpL.slLo); (· exact rfl); (· exact rfl); (· assumption); (· exact rfl); (· exact natFound); (· exact lenFound); exact x.out) | ((with_reducible apply WpL.slHi); (· exact rfl); (· exact rfl); (· assumption); (· exact rfl); (· exact natFound); (· exact lenFound); exact x.out) | ((with_reducible apply WpL.slLoHi); (· exact rfl); (· exact rfl); (· assumption); (· exact rfl); (· exact natFound); (· exact rfl); (· exact natFound); (· exact lenFound); (· exact lenFound); exact x.out) | ((with_reducible apply WpL.sr); (· assumption); (· exact rfl); (· exact rfl); (· exact RdsV.found); exact x.out) | ((with_reducible apply WpL.atLoad); (· assumption); (· exact rfl); (· exact rfl); (· exact Look.found); exact x.out) | ((with_reducible apply WpL.atStore); (· assumption); (· exact rfl); (· exact rfl); (· exact rfl); (· exact Upd.found); exact x.out) | ((with_reducible apply WpL.atCas); (· assumption); (· exact rfl); (· exact rfl); (· exact rfl); (· exact rfl); (· exact Look.found); (· exact Upd.found); exact x.out) | ((with_reducible apply WpL.det); (· exact rfl); (· exact Det.found2); exact x.out) | ((with_reducible apply WpL.nilN); exact x.out) | ((with_reducible apply WpL.nil); exact x.out) | ((with_reducible apply WpL.unguard); (· exact rfl); (· exact rfl); (· exact boolFound2); exact x.out) | ((with_reducible apply WpL.skipG); (· exact rfl); (· exact rfl); (· exact boolFound2); (· exact rfl); exact x.out) | ((with_reducible apply WpL.skipU); (· exact rfl); (· exact rfl); (· exact rfl); exact x.out)))); (first | ((with_reducible apply Reach.st); intro _ _) | ((with_reducible apply Reach.vw); intro _ _) | skip))); exact Reach.done) : g := h k
end Go.Fk
