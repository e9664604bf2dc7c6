/-
  The rule for a region that draws its order and in whose head one operation stores: what the store makes of the world may hang on one temporary. It holds for any program.
-/
import Derived.Test.YtaapnfoimcccjaaStE
namespace Go.Fk
open Go.RowKit

/-- The store: from I0 to J. -/
def ObS (P : Program) (ops : Array Oper) (I0 : World → Prop) (J : Env → World → Prop) (R : World → World → Prop) (o : Oper) (Γ : Tmp → Spec) : Prop :=
  ∀ (e : Env) (w : World), I0 w → (∀ t ∈ o.looksAt ops, Γ t (e t) w) → o.guard = none ∧ RunsTo P o e.eval w (fun _ w' => J e w' ∧ R w w')
/-- The others: ahead of the store and behind it. -/
def Ob2 (P : Program) (ops : Array Oper) (I0 : World → Prop) (I1 : Value → World → Prop) (R : World → World → Prop) (t0 : Tmp) (o : Oper) (Γ : Tmp → Spec) (V : Spec) : Prop :=
  if o.dst = none then ObS P ops I0 (fun e w => I1 (e t0) w) R o Γ ∧ V = (fun _ _ => True) else Ob P ops I0 R o Γ V ∧ ∀ x, Ob P ops (I1 x) R o Γ V
def RgLG (n : Nat) (OB : Oper → (Tmp → Spec) → Spec → Prop) (R : World → World → Prop) (Fin : (Tmp → Spec) → Prop) : List Oper → (Tmp → Spec) → Prop
  | [], Γ => Fin Γ
  | o :: r, Γ => ∃ V : Spec, dOk n o.dst = true ∧ (∀ v w w', V v w → R w w' → V v w') ∧ OB o Γ V ∧ RgLG n OB R Fin r (setG Γ o.dst V)
/-- The s-th is the head's one store; t0 is written ahead of it alone, and the store looks at it, or nobody writes it. -/
def storeOk (l : List Oper) (N s t0 : Nat) : Bool :=
  Nat.blt s N && (allB N fun i => (l[i]?).all fun o => (o.dst == none) == (i == s)) && (allB l.length fun i => (l[i]?).all fun o => !(o.dst == some t0) || Nat.blt i s) &&
    (((l[s]?).all fun o => (o.looksAt l.toArray).contains t0) || (allB l.length fun i => (l[i]?).all fun o => !(o.dst == some t0)))
section
variable {P : Program} {n : Nat} {l : List Oper} {R : World → World → Prop} {OB : Oper → (Tmp → Spec) → Spec → Prop} {I0 : World → Prop} {I1 : Value → World → Prop} {t0 : Tmp}
theorem storeOk_spec {N s : Nat} (hN : N ≤ l.length) (h : storeOk l N s t0 = true) : s < N ∧ (∀ i o, i < N → l[i]? = some o → (o.dst = none ↔ i = s)) ∧ (∀ i o, l[i]? = some o → o.dst = some t0 → i < s) ∧
    (∀ o, l[s]? = some o → t0 ∈ o.looksAt l.toArray ∨ ∀ (i : Nat) (o' : Oper), l[i]? = some o' → o'.dst ≠ some t0) := by
  unfold storeOk at h
  simp only [Bool.and_eq_true, Bool.or_eq_true] at h
  obtain ⟨⟨⟨h1, h2⟩, h3⟩, h4⟩ := h
  refine ⟨by simpa [Nat.blt_eq] using h1, fun i o hi ho => ?_, fun i o ho hd => ?_, fun o ho => ?_⟩
  · have := allB_spec h2 i hi
    rw [ho] at this
    simp only [Option.all_some, beq_iff_eq] at this
    constructor
    · intro hd; rw [hd] at this; simpa using this
    · intro his; subst his; simpa using this
  · have := allB_spec h3 i (List.getElem?_eq_some_iff.1 ho).1
    rw [ho] at this
    simp only [Option.all_some, Bool.or_eq_true, Bool.not_eq_true', beq_eq_false_iff_ne] at this
    rcases this with h | h
    · exact absurd hd h
    · simpa [Nat.blt_eq] using h
  · rcases h4 with h | h
    · rw [ho] at h
      simp only [Option.all_some, List.contains_iff_mem] at h
      exact .inl h
    · refine .inr fun i o' ho' => ?_
      have := allB_spec h i (List.getElem?_eq_some_iff.1 ho').1
      rw [ho'] at this
      simpa using this

theorem RgLG.specs {Fin : (Tmp → Spec) → Prop} {l : List Oper} {Γ0 : Tmp → Spec} : ∀ (r : List Oper) (k : Nat) (Vs : List Spec), Vs.length = k → (∀ j, r[j]? = l[k + j]?) →
    RgLG n OB R Fin r (ctx l Vs Γ0 k) →
    ∃ Vs' : List Spec, Vs'.length = k + r.length ∧ (∀ i, i < k → Vs'[i]? = Vs[i]?) ∧ Fin (ctx l Vs' Γ0 (k + r.length)) ∧
      ∀ i o, k ≤ i → i < k + r.length → l[i]? = some o → ∃ V, Vs'[i]? = some V ∧ dOk n o.dst = true ∧ (∀ v w w', V v w → R w w' → V v w') ∧ OB o (ctx l Vs' Γ0 i) V
  | [], k, Vs, hk, _, h => ⟨Vs, by simpa using hk, fun _ _ => rfl, h, fun i o h1 h2 => by simp at h2; omega⟩
  | o :: r, k, Vs, hk, hr, h => by
    obtain ⟨V, hd, hst, hob, h⟩ := h
    have ho : l[k]? = some o := by simpa using (hr 0).symm
    have hpre : ∀ (Vs' : List Spec) (i : Nat), (∀ j, j < i → Vs'[j]? = Vs[j]?) → ctx l Vs' Γ0 i = ctx l Vs Γ0 i := fun Vs' i => by
      induction i with
      | zero => intro _; rfl
      | succ i ih =>
        intro hj
        simp only [ctx]
        rw [ih fun j h => hj j (by omega), List.getD_eq_getElem?_getD, List.getD_eq_getElem?_getD, hj i (by omega)]
    have e1 : ∀ j, j < k → (Vs ++ [V])[j]? = Vs[j]? := fun j hj => by rw [List.getElem?_append_left (by omega)]
    have e2 : (Vs ++ [V])[k]? = some V := by rw [List.getElem?_append_right (by omega)]; simp [hk]
    have hctx : ctx l (Vs ++ [V]) Γ0 (k + 1) = setG (ctx l Vs Γ0 k) o.dst V := by
      simp only [ctx]
      rw [hpre _ k e1, ho, List.getD_eq_getElem?_getD, e2]
      rfl
    obtain ⟨Vs', h1, h2, h3, h4⟩ := RgLG.specs r (k + 1) (Vs ++ [V]) (by simp [hk]) (fun j => by have := hr (j + 1); simpa [Nat.add_assoc, Nat.add_comm 1 j] using this) (by rw [hctx]; exact h)
    have h2' : ∀ i, i < k → Vs'[i]? = Vs[i]? := fun i hi => (h2 i (by omega)).trans (e1 i hi)
    refine ⟨Vs', by simp at h1 ⊢; omega, h2', by simpa [Nat.add_assoc, Nat.add_comm 1] using h3, fun i o' hi1 hi2 ho' => ?_⟩
    by_cases hik : i = k
    · subst hik
      rw [ho] at ho'
      injection ho' with ho'
      subst ho'
      exact ⟨V, (h2 i (by omega)).trans e2, hd, hst, by rw [hpre Vs' i h2']; exact hob⟩
    · exact h4 i o' (by omega) (by simp at hi2; omega) ho'

theorem ObS.wpOp {ops : Array Oper} {o : Oper} {Γ : Tmp → Spec} {I : World → Prop} {J : Env → World → Prop} {R : World → World → Prop} (h : ObS P ops I J R o Γ) {a : Act} {e : Env} {w : World} (ha : Rep n a e) (hd : dOk n o.dst = true) {i : Nat} (ho : ops[i]? = some o)
    (hI : I w) (hΓ : ∀ t ∈ o.looksAt ops, Γ t (e t) w) {K : Act → World → Prop} {Q : Exit → Act → World → Prop}
    (hk : ∀ v a' w', Rep n a' (e.setD o.dst v) → J e w' → R w w' → K a' w') : wpOp P ops Q i K a w := by
  obtain ⟨hg, h1⟩ := h e w hI hΓ
  unfold Go.wpOp
  simp only [ho]
  rw [ha.yielded]
  have hw : Region.wanted o (yieldedE ops e) = true := by simp [Region.wanted, hg]
  · rw [if_pos hw]
    refine .inl ?_
    unfold RunsTo at h1
    unfold Oper.wp
    rw [ha.eval]
    generalize (execOp e.eval o).run P w = r at h1 ⊢
    cases r with
    | halt x w' => exact h1.elim
    | ok x w' =>
      cases x <;> simp only at h1 <;> simp only [Oper.upon]
      case value v => exact hk _ _ _ (ha.put hd v) h1.1 h1.2
      case skip => exact hk _ _ _ (ha.put hd _) h1.1 h1.2
      case enter f args =>
        refine h1.mono fun x w'' hx => ?_
        obtain ⟨v, rfl, hx⟩ := hx
        exact hk _ _ _ (ha.put hd v) hx.1 hx.2
      case row row args => exact h1.mono fun v w'' hx => hk _ _ _ (ha.put hd v) hx.1 hx.2

theorem head_soundS {N : Nat} (hok : RgOk l N) (hN : N ≤ l.length) {Vs : List Spec} {Γ0 : Tmp → Spec} (hlen : Vs.length = N) (hSt : ∀ w, R w w) {s : Nat} (hsN : s < N)
    (hst : ∀ (i : Nat) (V : Spec) v w w', Vs[i]? = some V → V v w → True → True → R w w' → V v w') (h0 : ∀ t v w w', Γ0 t v w → True → True → R w w' → Γ0 t v w')
    (hops : ∀ i o, i < N → l[i]? = some o → ∃ V, Vs[i]? = some V ∧ dOk n o.dst = true ∧ Ob2 P l.toArray I0 I1 R t0 o (ctx l Vs Γ0 i) V) (hone : ∀ i o, i < N → l[i]? = some o → (o.dst = none ↔ i = s))
    (ht0 : ∀ i o, l[i]? = some o → o.dst = some t0 → i < s) (hlook : ∀ o, l[s]? = some o → t0 ∈ o.looksAt l.toArray ∨ ∀ (i : Nat) (o' : Oper), l[i]? = some o' → o'.dst ≠ some t0)
    {K : Env → World → Prop} {Q : Exit → Act → World → Prop} (hq : ∀ a e w, Rep n a e → K e w → Q .normal a w)
    (hfin : ∀ e w, I1 (e t0) w → (∀ t, ctx l Vs Γ0 N t (e t) w) → WpL P n l.toArray K (l.drop N) e w) :
    ∀ (fuel : Nat) (listed : Array Bool) (a : Act) (e : Env) (w : World), Rep n a e → Mid l N Vs Γ0 (fun _ => True) listed e w → ((listed.getD s true = false → I0 w) ∧ (listed.getD s true = true → I1 (e t0) w)) → left l.length listed ≤ fuel → wpAny P .any l.toArray Q fuel listed a w := by
  intro fuel
  -- where the head has come up whole the tail follows
  have hswitch : ∀ (fuel : Nat) (listed : Array Bool) (a : Act) (e : Env) (w : World), Rep n a e → Mid l N Vs Γ0 (fun _ => True) listed e w → ((listed.getD s true = false → I0 w) ∧ (listed.getD s true = true → I1 (e t0) w)) → left l.length listed ≤ fuel →
      (∀ i, i < N → listed.getD i true = true) → wpAny P .any l.toArray Q fuel listed a w := fun fuel listed a e w ha hm hi hf hall => by
    have hl : ∀ i, i < l.length → listed.getD i true = decide (i < N) := fun i hi => by
      by_cases h : i < N
      · rw [hall i h]; simp [h]
      · rw [hm.head i (by omega) hi]; simp [h]
    refine tail_sound hok hq (l.drop N) N listed a e w (Nat.le_refl _) hm.size (by simp; omega) (fun j => by rw [List.getElem?_drop]) hl ha (hfin e w (hi.2 (hall s hsN)) (hm.full hlen hN hall)) fuel ?_
    refine Nat.le_trans ?_ hf
    unfold left
    have : (List.range l.length).filter (fun i => !listed.getD i true) = (List.range l.length).filter (fun i => decide (N ≤ i)) := by
      refine List.filter_congr fun i hi => ?_
      rw [hl i (by simpa using hi)]
      by_cases h : i < N
      · simp [h]
      · simp [h]; omega
    rw [this]
    have hr : List.range l.length = List.range N ++ (List.range (l.length - N)).map (N + ·) := by
      rw [← List.range_add]; congr 1; omega
    rw [hr, List.filter_append]
    have e1 : ((List.range (l.length - N)).map (N + ·)).filter (fun i => decide (N ≤ i)) = (List.range (l.length - N)).map (N + ·) := by
      rw [List.filter_eq_self]
      intro x hx
      obtain ⟨y, _, rfl⟩ := List.mem_map.1 hx
      simp
    rw [List.length_append, e1]
    simp
  induction fuel with
  | zero =>
    intro listed a e w ha hm hinv hf
    have hall := left_zero (Nat.le_zero.1 hf)
    exact hswitch 0 listed a e w ha hm hinv hf fun i hi => hall i (by omega)
  | succ fuel ih =>
    intro listed a e w ha hm hinv hf
    by_cases hall : ∀ i, i < N → listed.getD i true = true
    · exact hswitch _ listed a e w ha hm hinv hf hall
    · refine ⟨fun h0 => absurd (fun i hi => all_of_ready_nil hok h0 i (by omega)) hall, fun i hi => ?_⟩
      obtain ⟨hun, o, ho', hpre0⟩ := mem_ready.1 hi
      have hil : i < l.length := by have := (Array.getElem?_eq_some_iff.1 ho').1; simpa using this
      have ho : l[i]? = some o := by simpa using ho'
      have hpre : ∀ ed ∈ o.after.toList, Region.binds .any ed = true → listed.getD ed.on true = true := fun ed he hb => getD_false_true (hpre0 ed (by simpa using he) hb)
      have hiN : i < N := by
        rcases Nat.lt_or_ge i N with h | h
        · exact h
        · exfalso
          refine hall fun j hj => ?_
          exact hok.tail i j hil h (by omega) _ hm.down fun o' ed h1 h2 h3 => by rw [ho] at h1; injection h1 with h1; subst h1; exact hpre ed h2 h3
      obtain ⟨V, hVi, hd, hob⟩ := hops i o hiN ho
      have hlk := hm.looks hok hlen hN ho hun hiN hpre
      by_cases his : i = s
      · -- the store
        have hdn := (hone i o hiN ho).2 his
        unfold Ob2 at hob
        rw [if_pos hdn] at hob
        obtain ⟨hob, rfl⟩ := hob
        refine hob.wpOp ha hd ho' (hinv.1 (by rw [← his]; exact hun)) hlk fun v a' w' ha' hJ hR => ?_
        refine ih _ a' _ w' ha' (hm.step hok hst h0 ho hun hiN hpre trivial hR fun V' hV'' => by rw [hVi] at hV''; injection hV'' with hV''; subst hV''; trivial) ?_ ?_
        · refine ⟨fun h => ?_, fun _ => by rw [hdn]; exact hJ⟩
          rw [← his, getD_set_same] at h; cases h
        · have := left_set hil hun
          omega
      · have hdn : o.dst ≠ none := fun h => his ((hone i o hiN ho).1 h)
        unfold Ob2 at hob
        rw [if_neg hdn] at hob
        have hne : (listed.setIfInBounds i true).getD s true = listed.getD s true := getD_set_ne true his
        cases hls : listed.getD s true with
        | false =>
          refine hob.1.wpOp ha hd ho' (hinv.1 hls) hlk (hSt w) fun v a' w' ha' hI' hS' hV' => ?_
          refine ih _ a' _ w' ha' (hm.step hok hst h0 ho hun hiN hpre trivial hS' fun V' hV'' => by rw [hVi] at hV''; injection hV'' with hV''; subst hV''; exact hV') ?_ ?_
          · rw [hne, hls]
            exact ⟨fun _ => hI', fun h => by cases h⟩
          · have := left_set hil hun
            omega
        | true =>
          have hd0 : o.dst ≠ some t0 := fun h => by
            have hlt := ht0 i o ho h
            have hs0 : l[s]? = some l[s] := List.getElem?_eq_getElem (by omega)
            rcases hlook _ hs0 with hl | hl
            · have hb := hok.order s i l[s] o t0 hs0 ho (Ne.symm his) (looks_names hl) h
              rw [Nat.max_eq_left (by omega), Nat.min_eq_right (by omega)] at hb
              have := hb.of_listed (L := fun k => listed.getD k true = true) hm.down hls
              rw [hun] at this; cases this
            · exact hl i o ho h
          have he0 : ∀ v, (e.setD o.dst v) t0 = e t0 := fun v => by
            cases h : o.dst with
            | none => rfl
            | some d' => exact Env.set_other e v (fun h' => hd0 (by rw [h, h']))
          refine (hob.2 (e t0)).wpOp ha hd ho' (hinv.2 hls) hlk (hSt w) fun v a' w' ha' hI' hS' hV' => ?_
          refine ih _ a' _ w' ha' (hm.step hok hst h0 ho hun hiN hpre trivial hS' fun V' hV'' => by rw [hVi] at hV''; injection hV'' with hV''; subst hV''; exact hV') ?_ ?_
          · rw [hne, hls, he0]
            exact ⟨fun h => (by cases h), fun _ => hI'⟩
          · have := left_set hil hun
            omega

/-- THE RULE. -/
theorem Wp.drawS {id : Nat} {Q : Exit → Env → World → Prop} {e : Env} {w : World} (N s t0 : Nat) (I0 : World → Prop) (I1 : Value → World → Prop) (R : World → World → Prop) (hm : P.follows .mixedOrders = true)
    (hok : rgOk l N = true) (hN : N ≤ l.length) (hSt : ∀ w, R w w) (hI : I0 w.drew) (hsk : storeOk l N s t0 = true)
    (h : RgLG n (Ob2 P l.toArray I0 I1 R t0) R (fun Γ => ∀ e' w', I1 (e' t0) w' → (∀ t, Γ t (e' t) w') → WpL P n l.toArray (Q .normal) (l.drop N) e' w') (l.take N) (fun t v _ => v = e t)) :
    Wp P n (.region id l.toArray true) Q e w := fun a ha => by
  have hok := rgOk_spec hok
  have hlt : (l.take N).length = N := by simp; omega
  have h' : RgLG n (Ob2 P l.toArray I0 I1 R t0) R (fun Γ => ∀ e' w', I1 (e' t0) w' → (∀ t, Γ t (e' t) w') → WpL P n l.toArray (Q .normal) (l.drop N) e' w') (l.take N) (ctx (l.take N) [] (fun t v _ => v = e t) 0) := h
  obtain ⟨Vs, h1, _, h3, h4⟩ := RgLG.specs (l := l.take N) (Γ0 := fun t v _ => v = e t) (l.take N) 0 [] rfl (fun j => by simp) h'
  simp only [Nat.zero_add] at h1 h3 h4
  rw [hlt] at h1 h3
  have hctx : ∀ i, i ≤ N → ctx (l.take N) Vs (fun t v _ => v = e t) i = ctx l Vs (fun t v _ => v = e t) i := fun i => by
    induction i with
    | zero => intro _; rfl
    | succ i ih =>
      intro hi
      simp only [ctx]
      rw [ih (by omega), List.getElem?_take, if_pos (by omega)]
  rw [hctx N (Nat.le_refl _)] at h3
  obtain ⟨hsN, hone, ht0, hlook⟩ := storeOk_spec hN hsk
  refine wp_region_any hm (head_soundS (R := R) (I0 := I0) (I1 := I1) (t0 := t0) hok hN h1 hSt hsN (fun i V v w w' hV hv _ _ hR => ?_) (fun t v w w' h _ _ _ => h) (fun i o hi ho => ?_) hone ht0 hlook (fun a e w ha hk => ⟨e, ha, hk⟩) h3 _ _ a e _ ha
    ⟨by simp, trivial, fun k o ed hk he hb hl => ?_, fun i h1 h2 => ?_, fun j o d hj _ hl => ?_, fun t _ => rfl⟩ ⟨fun _ => hI, fun hl => ?_⟩ ?_)
  · have hi : i < N := by have := (List.getElem?_eq_some_iff.1 hV).1; omega
    obtain ⟨V', hV', _, hs, _⟩ := h4 i (l[i]'(by omega)) (Nat.zero_le _) (by simp; omega) (by rw [List.getElem?_take, if_pos hi]; exact List.getElem?_eq_getElem (by omega))
    rw [hV] at hV'; injection hV' with hV'; subst hV'
    exact hs v w w' hv hR
  · obtain ⟨V, h5, h6, _, h8⟩ := h4 i o (Nat.zero_le _) (by simp; have := (List.getElem?_eq_some_iff.1 ho).1; omega) (by rw [List.getElem?_take, if_pos hi]; exact ho)
    rw [hctx i (by omega)] at h8
    exact ⟨V, h5, h6, h8⟩
  · exfalso
    have hkl : k < l.length := (List.getElem?_eq_some_iff.1 hk).1
    simp [Array.getD_eq_getD_getElem?, hkl] at hl
  · simp [Array.getD_eq_getD_getElem?, h2]
  · exfalso
    have hkl : j < l.length := (List.getElem?_eq_some_iff.1 hj).1
    simp [Array.getD_eq_getD_getElem?, hkl] at hl
  · exfalso
    have hkl : s < l.length := by omega
    simp [Array.getD_eq_getD_getElem?, hkl] at hl
  · unfold left
    exact Nat.le_trans (List.length_filter_le _ _) (by simp)
end
end Go.Fk
