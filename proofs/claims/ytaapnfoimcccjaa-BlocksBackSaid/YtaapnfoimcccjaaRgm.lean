/-
  Regions that draw their order and in which one operation changes memory and yields a value: what it makes of memory hangs on that value. In a round or beside deferred calls. It holds for any program; conditions stand at each theorem. (The proofs are those of the text Rgk, turned to an operation that yields.)
-/
import Derived.Test.YtaapnfoimcccjaaRgk
namespace Go.Fk
open Go.RowKit
/-- The marked operation: from I0 to what its value says. -/
def ObM (P : Program) (ops : Array Oper) (I0 : World → Prop) (J : Value → World → Prop) (R : World → World → Prop) (o : Oper) (Γ : Tmp → Spec) : Prop :=
  ∀ (e : Env) (w : World), I0 w → (∀ t ∈ o.looksAt ops, Γ t (e t) w) → o.guard = none ∧ RunsTo P o e.eval w (fun v w' => J v w' ∧ R w w')
/-- The others: ahead of the marked one and behind it. -/
def Ob3 (P : Program) (ops : Array Oper) (I0 : World → Prop) (I1 : Value → World → Prop) (R : World → World → Prop) (d0 : Tmp) (o : Oper) (Γ : Tmp → Spec) (V : Spec) : Prop :=
  if o.dst = some d0 then ObM P ops I0 I1 R o Γ ∧ V = (fun _ _ => True) else Ob P ops I0 R o Γ V ∧ ∀ x, Ob P ops (I1 x) R o Γ V
/-- The s-th alone writes d0. -/
def markOk (l : List Oper) (N s d0 : Nat) : Bool := Nat.blt s N && allB N fun i => (l[i]?).all fun o => (o.dst == some d0) == (i == s)
section
variable {P : Program} {n : Nat} {l : List Oper} {R : World → World → Prop} {OB : Oper → (Tmp → Spec) → Spec → Prop} {I0 : World → Prop} {I1 : Value → World → Prop} {d0 : Tmp}
theorem markOk_spec {N s : Nat} (hN : N ≤ l.length) (h : markOk l N s d0 = true) : s < N ∧ ∀ i o, i < N → l[i]? = some o → (o.dst = some d0 ↔ i = s) := by
  unfold markOk at h
  simp only [Bool.and_eq_true] at h
  obtain ⟨h1, h2⟩ := h
  refine ⟨by simpa [Nat.blt_eq] using h1, fun i o hi ho => ?_⟩
  have := allB_spec h2 i hi
  rw [ho] at this
  simp only [Option.all_some, beq_iff_eq] at this
  constructor
  · intro hd; rw [hd] at this; simpa using this
  · intro his; subst his; simpa using this
theorem ObM.wpOpIn {ro : Option Nat} {ds : List Deferred} {ops : Array Oper} {o : Oper} {Γ : Tmp → Spec} {I : World → Prop} {J : Value → World → Prop} {R : World → World → Prop} (h : ObM P ops I J R o Γ) {a : Act} {e : Env} {w : World} (ha : RepD ds n a e) (hd : dOk n o.dst = true) {i : Nat} (ho : ops[i]? = some o)
    (hI : I w) (hΓ : ∀ t ∈ o.looksAt ops, Γ t (e t) w) {K : Act → World → Prop} {Q : Exit → Act → World → Prop}
    (hk : ∀ v a' w', RepD ds n a' (e.setD o.dst v) → J v w' → R w w' → K a' w') : Go.wpOpIn (frn ro) 0 P ops Q i K a w := by
  obtain ⟨hg, h1⟩ := h e w hI hΓ
  unfold Go.wpOpIn
  simp only [ho]
  rw [ha.yielded]
  have hw : Region.wanted o (yieldedE ops e) = true := by simp [Region.wanted, hg]
  rw [if_pos hw]
  refine ⟨fun _ _ => trivial, ?_⟩
  unfold RunsTo at h1
  rw [ha.eval]
  rcases semAt_or (ro := ro) e.eval o with hsem | ⟨c, hc⟩
  · rw [hsem]
    generalize (execOp e.eval o).run P w = r at h1 ⊢
    cases r with
    | halt x w' => exact h1.elim
    | ok x w' =>
      cases x <;> simp only at h1 <;> simp only [Oper.uponIn]
      case value v => exact hk _ _ _ (ha.put hd v) h1.1 h1.2
      case skip => exact hk _ _ _ (ha.put hd _) h1.1 h1.2
      case enter f args =>
        refine ⟨fun h => (by cases h), (Calls.toIn h1).mono fun x w'' hx => ?_⟩
        obtain ⟨v, rfl, hx⟩ := hx
        exact hk _ _ _ (ha.put hd v) hx.1 hx.2
      case row row args => exact ⟨fun h => (by cases h), Rows.toIn (h1.mono fun v w'' hx => hk _ _ _ (ha.put hd v) hx.1 hx.2)⟩
  · exfalso
    rcases run_defer (P := P) (w := w) e.eval o c hc with ⟨x, w', hr⟩ | ⟨d, w', hr⟩
    · rw [hr] at h1; exact h1
    · rw [hr] at h1; exact h1

theorem head_soundM {ro : Option Nat} {ds : List Deferred} {N : Nat} (hok : RgOk l N) (hN : N ≤ l.length) {Vs : List Spec} {Γ0 : Tmp → Spec} (hlen : Vs.length = N) (hSt : ∀ w, R w w) {s : Nat} (hsN : s < N)
    (hst : ∀ (i : Nat) (V : Spec) v w w', Vs[i]? = some V → V v w → True → True → R w w' → V v w') (h0 : ∀ t v w w', Γ0 t v w → True → True → R w w' → Γ0 t v w')
    (hops : ∀ i o, i < N → l[i]? = some o → ∃ V, Vs[i]? = some V ∧ dOk n o.dst = true ∧ Ob3 P l.toArray I0 I1 R d0 o (ctx l Vs Γ0 i) V) (hone : ∀ i o, i < N → l[i]? = some o → (o.dst = some d0 ↔ i = s))
    {K : Env → World → Prop} {Q : Exit → Act → World → Prop} (hq : ∀ a e w, RepD ds n a e → K e w → Q .normal a w)
    (hfin : ∀ e w, I1 (e d0) w → (∀ t, ctx l Vs Γ0 N t (e t) w) → WpY P n l.toArray K (l.drop N) e w) :
    ∀ (fuel : Nat) (listed : Array Bool) (a : Act) (e : Env) (w : World), RepD ds n a e → Mid l N Vs Γ0 (fun _ => True) listed e w → ((listed.getD s true = false → I0 w) ∧ (listed.getD s true = true → I1 (e d0) w)) → left l.length listed ≤ fuel → Go.wpAnyIn (frn ro) 0 P .any l.toArray Q fuel listed a w := by
  intro fuel
  -- where the head has come up whole the tail follows
  have hswitch : ∀ (fuel : Nat) (listed : Array Bool) (a : Act) (e : Env) (w : World), RepD ds n a e → Mid l N Vs Γ0 (fun _ => True) listed e w → ((listed.getD s true = false → I0 w) ∧ (listed.getD s true = true → I1 (e d0) w)) → left l.length listed ≤ fuel →
      (∀ i, i < N → listed.getD i true = true) → Go.wpAnyIn (frn ro) 0 P .any l.toArray Q fuel listed a w := fun fuel listed a e w ha hm hi hf hall => by
    have hl : ∀ i, i < l.length → listed.getD i true = decide (i < N) := fun i hi => by
      by_cases h : i < N
      · rw [hall i h]; simp [h]
      · rw [hm.head i (by omega) hi]; simp [h]
    refine tail_soundY hok hq (l.drop N) N listed a e w (Nat.le_refl _) hm.size (by simp; omega) (fun j => by rw [List.getElem?_drop]) hl ha (hfin e w (hi.2 (hall s hsN)) (hm.full hlen hN hall)) fuel ?_
    refine Nat.le_trans ?_ hf
    unfold left
    have : (List.range l.length).filter (fun i => !listed.getD i true) = (List.range l.length).filter (fun i => decide (N ≤ i)) := by
      refine List.filter_congr fun i hi => ?_
      rw [hl i (by simpa using hi)]
      by_cases h : i < N
      · simp [h]
      · simp [h]; omega
    rw [this]
    have hr : List.range l.length = List.range N ++ (List.range (l.length - N)).map (N + ·) := by
      rw [← List.range_add]; congr 1; omega
    rw [hr, List.filter_append]
    have e1 : ((List.range (l.length - N)).map (N + ·)).filter (fun i => decide (N ≤ i)) = (List.range (l.length - N)).map (N + ·) := by
      rw [List.filter_eq_self]
      intro x hx
      obtain ⟨y, _, rfl⟩ := List.mem_map.1 hx
      simp
    rw [List.length_append, e1]
    simp
  induction fuel with
  | zero =>
    intro listed a e w ha hm hinv hf
    have hall := left_zero (Nat.le_zero.1 hf)
    exact hswitch 0 listed a e w ha hm hinv hf fun i hi => hall i (by omega)
  | succ fuel ih =>
    intro listed a e w ha hm hinv hf
    by_cases hall : ∀ i, i < N → listed.getD i true = true
    · exact hswitch _ listed a e w ha hm hinv hf hall
    · refine ⟨fun h0 => absurd (fun i hi => all_of_ready_nil hok h0 i (by omega)) hall, fun i hi => ?_⟩
      obtain ⟨hun, o, ho', hpre0⟩ := mem_ready.1 hi
      have hil : i < l.length := by have := (Array.getElem?_eq_some_iff.1 ho').1; simpa using this
      have ho : l[i]? = some o := by simpa using ho'
      have hpre : ∀ ed ∈ o.after.toList, Region.binds .any ed = true → listed.getD ed.on true = true := fun ed he hb => getD_false_true (hpre0 ed (by simpa using he) hb)
      have hiN : i < N := by
        rcases Nat.lt_or_ge i N with h | h
        · exact h
        · exfalso
          refine hall fun j hj => ?_
          exact hok.tail i j hil h (by omega) _ hm.down fun o' ed h1 h2 h3 => by rw [ho] at h1; injection h1 with h1; subst h1; exact hpre ed h2 h3
      obtain ⟨V, hVi, hd, hob⟩ := hops i o hiN ho
      have hlk := hm.looks hok hlen hN ho hun hiN hpre
      by_cases his : i = s
      · -- the store
        have hdn := (hone i o hiN ho).2 his
        unfold Ob3 at hob
        rw [if_pos hdn] at hob
        obtain ⟨hob, rfl⟩ := hob
        refine hob.wpOpIn ha hd ho' (hinv.1 (by rw [← his]; exact hun)) hlk fun v a' w' ha' hJ hR => ?_
        refine ih _ a' _ w' ha' (hm.step hok hst h0 ho hun hiN hpre trivial hR fun V' hV'' => by rw [hVi] at hV''; injection hV'' with hV''; subst hV''; trivial) ?_ ?_
        · refine ⟨fun h => ?_, fun _ => by rw [hdn]; simp only [Env.setD, Env.set_same]; exact hJ⟩
          rw [← his, getD_set_same] at h; cases h
        · have := left_set hil hun
          omega
      · have hdn : o.dst ≠ some d0 := fun h => his ((hone i o hiN ho).1 h)
        unfold Ob3 at hob
        rw [if_neg hdn] at hob
        have hne : (listed.setIfInBounds i true).getD s true = listed.getD s true := getD_set_ne true his
        cases hls : listed.getD s true with
        | false =>
          refine hob.1.wpOpIn ha hd ho' (hinv.1 hls) hlk (hSt w) fun v a' w' ha' hI' hS' hV' => ?_
          refine ih _ a' _ w' ha' (hm.step hok hst h0 ho hun hiN hpre trivial hS' fun V' hV'' => by rw [hVi] at hV''; injection hV'' with hV''; subst hV''; exact hV') ?_ ?_
          · rw [hne, hls]
            exact ⟨fun _ => hI', fun h => by cases h⟩
          · have := left_set hil hun
            omega
        | true =>
          have hd0 := hdn
          have he0 : ∀ v, (e.setD o.dst v) d0 = e d0 := fun v => by
            cases h : o.dst with
            | none => rfl
            | some d' => exact Env.set_other e v (fun h' => hd0 (by rw [h, h']))
          refine (hob.2 (e d0)).wpOpIn ha hd ho' (hinv.2 hls) hlk (hSt w) fun v a' w' ha' hI' hS' hV' => ?_
          refine ih _ a' _ w' ha' (hm.step hok hst h0 ho hun hiN hpre trivial hS' fun V' hV'' => by rw [hVi] at hV''; injection hV'' with hV''; subst hV''; exact hV') ?_ ?_
          · rw [hne, hls, he0]
            exact ⟨fun h => (by cases h), fun _ => hI'⟩
          · have := left_set hil hun
            omega

/-- THE RULE. -/
theorem WpG.drawM {ro : Option Nat} {ds : List Deferred} {id : Nat} {Q : PostD} {e : Env} {w : World} (N s d0 : Nat) (I0 : World → Prop) (I1 : Value → World → Prop) (R : World → World → Prop) (hm : P.follows .mixedOrders = true)
    (hok : rgOk l N = true) (hN : N ≤ l.length) (hSt : ∀ w, R w w) (hI : I0 w.drew) (hsk : markOk l N s d0 = true)
    (h : RgLG n (Ob3 P l.toArray I0 I1 R d0) R (fun Γ => ∀ e' w', I1 (e' d0) w' → (∀ t, Γ t (e' t) w') → WpY P n l.toArray (Q .normal ds) (l.drop N) e' w') (l.take N) (fun t v _ => v = e t)) :
    WpG ro P n ds (.region id l.toArray true) Q e w := fun a ha => by
  have hok := rgOk_spec hok
  have hlt : (l.take N).length = N := by simp; omega
  have h' : RgLG n (Ob3 P l.toArray I0 I1 R d0) R (fun Γ => ∀ e' w', I1 (e' d0) w' → (∀ t, Γ t (e' t) w') → WpY P n l.toArray (Q .normal ds) (l.drop N) e' w') (l.take N) (ctx (l.take N) [] (fun t v _ => v = e t) 0) := h
  obtain ⟨Vs, h1, _, h3, h4⟩ := RgLG.specs (l := l.take N) (Γ0 := fun t v _ => v = e t) (l.take N) 0 [] rfl (fun j => by simp) h'
  simp only [Nat.zero_add] at h1 h3 h4
  rw [hlt] at h1 h3
  have hctx : ∀ i, i ≤ N → ctx (l.take N) Vs (fun t v _ => v = e t) i = ctx l Vs (fun t v _ => v = e t) i := fun i => by
    induction i with
    | zero => intro _; rfl
    | succ i ih =>
      intro hi
      simp only [ctx]
      rw [ih (by omega), List.getElem?_take, if_pos (by omega)]
  rw [hctx N (Nat.le_refl _)] at h3
  obtain ⟨hsN, hone⟩ := markOk_spec hN hsk
  refine wpIn_region_any hm (head_soundM (R := R) (I0 := I0) (I1 := I1) (d0 := d0) hok hN h1 hSt hsN (fun i V v w w' hV hv _ _ hR => ?_) (fun t v w w' h _ _ _ => h) (fun i o hi ho => ?_) hone (fun a e w ha hk => ⟨ds, e, ha, hk⟩) h3 _ _ a e _ ha
    ⟨by simp, trivial, fun k o ed hk he hb hl => ?_, fun i h1 h2 => ?_, fun j o d hj _ hl => ?_, fun t _ => rfl⟩ ⟨fun _ => hI, fun hl => ?_⟩ ?_)
  · have hi : i < N := by have := (List.getElem?_eq_some_iff.1 hV).1; omega
    obtain ⟨V', hV', _, hs, _⟩ := h4 i (l[i]'(by omega)) (Nat.zero_le _) (by simp; omega) (by rw [List.getElem?_take, if_pos hi]; exact List.getElem?_eq_getElem (by omega))
    rw [hV] at hV'; injection hV' with hV'; subst hV'
    exact hs v w w' hv hR
  · obtain ⟨V, h5, h6, _, h8⟩ := h4 i o (Nat.zero_le _) (by simp; have := (List.getElem?_eq_some_iff.1 ho).1; omega) (by rw [List.getElem?_take, if_pos hi]; exact ho)
    rw [hctx i (by omega)] at h8
    exact ⟨V, h5, h6, h8⟩
  · exfalso
    have hkl : k < l.length := (List.getElem?_eq_some_iff.1 hk).1
    simp [Array.getD_eq_getD_getElem?, hkl] at hl
  · simp [Array.getD_eq_getD_getElem?, h2]
  · exfalso
    have hkl : j < l.length := (List.getElem?_eq_some_iff.1 hj).1
    simp [Array.getD_eq_getD_getElem?, hkl] at hl
  · exfalso
    have hkl : s < l.length := by omega
    simp [Array.getD_eq_getD_getElem?, hkl] at hl
  · unfold left
    exact Nat.le_trans (List.length_filter_le _ _) (by simp)
end

/-! ### Append -/
theorem run_appendA {P : Program} {t el ty : TypeId} [ht : SliceT P t el] {sz bytes : Nat} {z : Value} [he : Elem P el sz bytes z] {A V : Option Addr} {n c m c2 : Nat} {xs ys : List Value} {w : World} (hIs : (Ch.app A n c el sz xs).Is w) (hrd : Rd w V ys) (hlen : ys.length = m * sz) (hm0 : m ≠ 0) (h1 : ∀ u ∈ ys, u.oneCell' = true)
    (hb : (n + m) * bytes ≤ 140737488355328) (hm : n + m ≤ 9223372036854775807) :
    ∃ A' c' w', (Builtin.append_ #[t, t] ty #[.slice A n c, .slice V m c2]).run P w = .ok (.slice A' (n + m) c') w' ∧ (Ch.app A' (n + m) c' el sz (xs ++ ys)).Is w' ∧ IsVw A' (n + m) c' A' 0 ∧ Chg w (fun k => A.map (·.block) = some k) w' ∧
      (A'.map (·.block) = A.map (·.block) ∨ ∃ g, A'.map (·.block) = some g ∧ w.heap.size ≤ g) := by
  have hob : ∀ (X : Option Addr) (a b : Nat), (Value.slice X a b).ownBlock = X.map (·.block) := fun X a b => by cases X <;> rfl
  rcases (show Sl w 0 el sz (.slice A n c) n xs ∨ Full w A n c sz xs from hIs) with hown | hfull
  · obtain ⟨v', w', hrun, h2, h3, h4⟩ := run_append_sl (P := P) (t := t) ty hown (c := c2) hlen hrd h1 hb (by simp only [maxLen]; omega) (Nat.zero_le _)
    obtain ⟨A', c', rfl, h5, h6, h7, _⟩ := h2.form
    refine ⟨A', c', w', hrun, .inl h2, IsVw.base h5 h6 fun h => (h7 h).2, ⟨h3.os, h3.tape, h3.output, h3.size, fun k hk hf => h3.block k hk fun hk' => hf ?_⟩, ?_⟩
    · rw [← hob A n c]; exact hk'.symm
    · rw [← hob A n c, ← hob A' (n + m) c']; exact h4
  · obtain ⟨rfl, hmax, hlx, a, rfl, hab, hat⟩ := hfull
    obtain ⟨i, hi, hzz, hsize, hby⟩ := he.get
    have hzs := he.zs
    have hszp := he.pos
    have hpos : 0 < ys.length := by rw [hlen]; exact Nat.mul_pos (by omega) hszp
    obtain ⟨a2, rfl, hat2⟩ := hrd.at_ hpos
    have hrun := run_append_grow (P := P) w t ty el i z ht.hu hi hzz a c c xs (by rw [hlx, hsize]) (fun j u hu => hat j u hu) a2 m c2 ys (by rw [hlen, hsize]) (fun j u hu => hat2 j u hu) (by omega) (by omega) (growslice_fits (by omega) (by rw [hby]; exact hb))
    refine ⟨some ⟨w.heap.size, 0, none⟩, grownCap w (c + m) c el, _, hrun, .inl ⟨?_, .inr ⟨w.heap.size, _, _, rfl, Nat.zero_le _, heap_alloc_new w.drew _, grownCap_ge w (c + m) c el, grownCap_le_maxLen w (c + m) c el (by simp only [maxLen]; omega), ?_, ?_⟩⟩,
      IsVw.base (grownCap_ge w (c + m) c el) (grownCap_le_maxLen w (c + m) c el (by simp only [maxLen]; omega)) (by simp), Chg.of_below ((Below.refl _ _).drew.alloc (Nat.le_refl _) _) _, .inr ⟨w.heap.size, rfl, Nat.le_refl _⟩⟩
    · rw [List.length_append, hlx, hlen, Nat.add_mul]
    · have hge := grownCap_ge w (c + m) c el
      simp only [Array.size_append, List.size_toArray, size_zeroCells, hzs, hlx, hlen, ← Nat.add_mul]
      refine Nat.le_of_eq ?_
      congr 1
      omega
    · have hlen2 : (xs ++ ys).length = (c + m) * sz := by rw [List.length_append, hlx, hlen, Nat.add_mul]
      simp only [Array.toList_append, List.append_assoc]
      rw [← List.append_assoc, ← hlen2]
      exact List.take_left

section
variable {P : Program} {n : Nat} {ops : Array Oper} {w0 : World} {M : Nat → Prop} {LA : List Ch} {IB : Value → World → Prop} {base d0 : Nat} {Fin : (Tmp → Spec) → Prop} {rest : List Oper} {e : Env} {E : Open} {ty : TypeId} {pos : String} {after : Array Edge} {guard : Option (Nat × Bool)}
/-- What holds behind the append. -/
def IA (w0 : World) (M : Nat → Prop) (L : List Ch) (base m : Nat) (el : TypeId) (sz : Nat) (xs : List Value) (v : Value) (w : World) : Prop :=
  ∃ A' c', v = .slice A' m c' ∧ IsVw A' m c' A' 0 ∧ base ≤ w.heap.size ∧ St w0 M w (.app A' m c' el sz xs :: L)
def RgM (P : Program) (n : Nat) (ops : Array Oper) (w0 : World) (M : Nat → Prop) (A : Option Addr) (m c : Nat) (el : TypeId) (sz : Nat) (xs ys : List Value) (k : Nat) (L : List Ch) (base d0 : Nat) (Fin : (Tmp → Spec) → Prop) (l : List Oper) (e : Env) (E : Open) : Prop :=
  (E.map (·.1)).Nodup → RgLG n (Ob3 P ops (IS w0 M (.app A m c el sz xs :: L) base) (IA w0 M L base (m + k) el sz (xs ++ ys)) (RB base) d0) (RB base) Fin l (gam e E)
variable {A : Option Addr} {m c : Nat} {el : TypeId} {sz : Nat} {xs ys : List Value} {k : Nat} {L : List Ch}
theorem IA.is {x : Value} {w : World} (h : IA w0 M L base (m + k) el sz (xs ++ ys) x w) : ∃ A' c', IS w0 M (.app A' (m + k) c' el sz (xs ++ ys) :: L) base w := let ⟨A', c', _, _, h1, h2⟩ := h; ⟨A', c', h1, h2⟩
theorem one_obI2 {o : Oper} {d : Tmp} {V : Spec} (hd : o.dst = some d) (hs : notSelect o.op = true) (hn : (E.map (·.1)).Nodup) {I : World → Prop} {R : World → World → Prop} (hI : ∀ w w', I w → Below w.heap.size w w' → I w') (hR : ∀ w w', Below w.heap.size w w' → R w w')
    (h : ∀ w, I w → AllE w (fun e => WpL P n ops (fun e' w' => Below w.heap.size w w' ∧ V (e' d) w') [o] e w) (sub (o.looksAt ops) E) e) :
    Ob P ops I R o (gam e E) V := by
  intro e1 w hw hg
  obtain ⟨e', ⟨_, h1⟩, h2⟩ := AllE.inst (o.looksAt ops) hn hg (h w hw)
  have hops : ∀ x ∈ o.op.operands, e1.eval x = e'.eval x := fun x hx => by
    cases x with
    | tmp t => exact (h2 t (List.mem_append_left _ (List.mem_filterMap.2 ⟨.tmp t, by simpa using hx, rfl⟩))).symm
    | _ => rfl
  have hy : Region.wanted o (yieldedE ops e1) = Region.wanted o (yieldedE ops e') := by
    unfold Region.wanted
    cases hgd : o.guard with
    | none => rfl
    | some p =>
      obtain ⟨g, b⟩ := p
      simp only
      have : yieldedE ops e1 g = yieldedE ops e' g := by
        unfold yieldedE
        cases hb : (ops[g]?).bind (·.dst) with
        | none => rfl
        | some t =>
          simp only
          rw [h2 t (List.mem_append_right _ (by rw [hgd]; simp only; rw [hb]; simp))]
      rw [this]
  have hx : execOp e1.eval o = execOp e'.eval o := execOp_congr o (fun cs b hc => by rw [hc] at hs; cases hs) hops
  rw [hy]
  by_cases hwt : Region.wanted o (yieldedE ops e') = true
  · rw [if_pos hwt] at h1 ⊢
    unfold OpW at h1
    unfold RunsTo
    rw [hx]
    generalize (execOp e'.eval o).run P w = r at h1 ⊢
    have fin : ∀ v w', WpL P n ops (fun e' w' => Below w.heap.size w w' ∧ V (e' d) w') [] (e'.setD o.dst v) w' → I w' ∧ R w w' ∧ V v w' := fun v w' h => by
      have h : Below w.heap.size w w' ∧ V (e'.setD o.dst v d) w' := h
      rw [hd] at h
      simp only [Env.setD, Env.set_same] at h
      exact ⟨hI _ _ hw h.1, hR _ _ h.1, h.2⟩
    cases r with
    | halt x w' => exact h1.elim
    | ok x w' =>
      cases x <;> simp only at h1 ⊢
      case value v => exact fin _ _ h1
      case skip => exact fin _ _ h1
      case enter f args => exact h1.mono fun x w'' ⟨v, hv, hx⟩ => ⟨v, hv, fin _ _ hx⟩
      case row row args => exact h1.mono fun v w'' hx => fin _ _ hx
  · rw [if_neg hwt] at h1 ⊢
    have h : Below w.heap.size w w ∧ V (e'.setD o.dst undef d) w := h1
    rw [hd] at h
    simp only [Env.setD, Env.set_same] at h
    exact h.2
/-- Where the parts are known, whatever has been appended. -/
theorem RgM.spec {o : Op} {d : Tmp} (V : Spec) (hd : dOk n (some d) = true) (hs : notSelect o = true) (hd0 : Nat.beq d d0 = false) (hk : (E.map (·.1)).contains d = false) (E' : Open) (hE : sub ((⟨some d, o, ty, pos, after, guard⟩ : Oper).looksAt ops) E = E')
    (hst : ∀ v w w', V v w → RB base w w' → V v w')
    (h : ∀ w A m c xs, base ≤ w.heap.size → St w0 M w (.app A m c el sz xs :: L) → AllE w (fun e => WpL P n ops (fun e' w' => Below w.heap.size w w' ∧ V (e' d) w') [⟨some d, o, ty, pos, after, guard⟩] e w) E' e)
    (hr : RgM P n ops w0 M A m c el sz xs ys k L base d0 Fin rest e (E ++ [(d, V)])) : RgM P n ops w0 M A m c el sz xs ys k L base d0 Fin (⟨some d, o, ty, pos, after, guard⟩ :: rest) e E := fun hn => by
  subst hE
  have hk : d ∉ E.map (·.1) := by simpa using hk
  have hne : ¬ (some d = some d0) := fun h => by injection h with h; subst h; rw [Nat.beq_refl] at hd0; cases hd0
  refine ⟨V, hd, hst, ?_, ?_⟩
  · unfold Ob3
    rw [if_neg hne]
    refine ⟨one_obI2 (n := n) rfl hs hn (fun w w' h hb => h.below hb) (fun w w' hb => .below hb) fun w hw => h w _ _ _ _ hw.1 hw.2, fun x => one_obI2 (n := n) rfl hs hn (fun w w' h hb => ?_) (fun w w' hb => .below hb) fun w hw => ?_⟩
    · obtain ⟨A', c', h1, h2, h3, h4⟩ := h
      exact ⟨A', c', h1, h2, Nat.le_trans h3 hb.size, h4.below hb⟩
    · obtain ⟨A', c', h1, h2⟩ := hw.is
      exact h w _ _ _ _ h1 h2
  have : setG (gam e E) (some d) V = gam e (E ++ [(d, V)]) := funext fun t => by
    unfold setG
    rw [gam_last hk]
    by_cases ht : t = d
    · subst ht; rw [if_pos rfl, if_pos rfl]
    · rw [if_neg (fun h => ht (by injection h with h; exact h.symm)), if_neg ht]
  simp only [this]
  refine hr ?_
  simp only [List.map_append, List.map_cons, List.map_nil]
  exact List.nodup_append.2 ⟨hn, by simp, fun a ha b hb => by simp only [List.mem_singleton] at hb; subst hb; exact fun h => hk (h ▸ ha)⟩
theorem RgM.known {o : Op} {d : Tmp} {v : Value} (hd : dOk n (some d) = true) (hs : notSelect o = true) (hd0 : Nat.beq d d0 = false) (hk : (E.map (·.1)).contains d = false) (E' : Open) (hE : sub ((⟨some d, o, ty, pos, after, guard⟩ : Oper).looksAt ops) E = E')
    (h : ∀ w A m c xs, base ≤ w.heap.size → St w0 M w (.app A m c el sz xs :: L) → AllE w (fun e => WpL P n ops (fun e' w' => Below w.heap.size w w' ∧ e' d = v) [⟨some d, o, ty, pos, after, guard⟩] e w) E' e)
    (hr : RgM P n ops w0 M A m c el sz xs ys k L base d0 Fin rest (e.set d v) E) : RgM P n ops w0 M A m c el sz xs ys k L base d0 Fin (⟨some d, o, ty, pos, after, guard⟩ :: rest) e E := fun hn => by
  subst hE
  have hk : d ∉ E.map (·.1) := by simpa using hk
  have hne : ¬ (some d = some d0) := fun h => by injection h with h; subst h; rw [Nat.beq_refl] at hd0; cases hd0
  refine ⟨fun u _ => u = v, hd, fun _ _ _ h _ => h, ?_, ?_⟩
  · unfold Ob3
    rw [if_neg hne]
    refine ⟨one_obI2 (n := n) rfl hs hn (fun w w' h hb => h.below hb) (fun w w' hb => .below hb) fun w hw => h w _ _ _ _ hw.1 hw.2, fun x => one_obI2 (n := n) rfl hs hn (fun w w' h hb => ?_) (fun w w' hb => .below hb) fun w hw => ?_⟩
    · obtain ⟨A', c', h1, h2, h3, h4⟩ := h
      exact ⟨A', c', h1, h2, Nat.le_trans h3 hb.size, h4.below hb⟩
    · obtain ⟨A', c', h1, h2⟩ := hw.is
      exact h w _ _ _ _ h1 h2
  have : setG (gam e E) (some d) (fun u _ => u = v) = gam (e.set d v) E := funext fun t => by
    unfold setG
    by_cases ht : t = d
    · subst ht; rw [if_pos rfl, gam_off hk, Env.set_same]
    · rw [if_neg (fun h => ht (by injection h with h; exact h.symm)), gam_set ht]
  simp only [this]
  exact hr hn
theorem RgM.det {o : Op} {d : Tmp} {v : Value} (hd : dOk n (some d) = true) (hs : notSelect o = true) (hd0 : Nat.beq d d0 = false) (hk : (E.map (·.1)).contains d = false) (hE : sub ((⟨some d, o, ty, pos, after, none⟩ : Oper).looksAt ops) E = [])
    (h : Det P (fun w => St w0 M w L) o ty e v) (hr : RgM P n ops w0 M A m c el sz xs ys k L base d0 Fin rest (e.set d v) E) : RgM P n ops w0 M A m c el sz xs ys k L base d0 Fin (⟨some d, o, ty, pos, after, none⟩ :: rest) e E :=
  RgM.known hd hs hd0 hk [] hE (fun w A m c xs _ hw => WpL.det hd (fun _ _ _ _ w' hw' => by subst hw'; exact h _ _ _ _ _ hw.tail) ⟨Below.refl _ _, Env.set_same _ _ _⟩) hr
theorem RgM.ld {t : TypeId} {d : Tmp} {x : Operand} {v : Value} [Cell1 P t] {a : Addr} (hd : dOk n (some d) = true) (hd0 : Nat.beq d d0 = false) (hk : (E.map (·.1)).contains d = false) (hE : sub ((⟨some d, .load t x, ty, pos, after, none⟩ : Oper).looksAt ops) E = [])
    (hx : e.eval x = .pointer (some a)) (hA : Look L a v) (hr : RgM P n ops w0 M A m c el sz xs ys k L base d0 Fin rest (e.set d v) E) : RgM P n ops w0 M A m c el sz xs ys k L base d0 Fin (⟨some d, .load t x, ty, pos, after, none⟩ :: rest) e E :=
  RgM.det hd rfl hd0 hk hE (Det.load1 hx fun _ hw => hA.cell hw) hr
/-- A new slice of what is known. -/
def NewB (base : Nat) (el : TypeId) (k : Nat) (ys : List Value) : Spec := fun x w' => ∃ g, x = .slice (some ⟨g, 0, none⟩) k k ∧ base ≤ g ∧ Blk w' g el ys.toArray
theorem RgM.app {t : TypeId} [ht : SliceT P t el] {bytes : Nat} {z : Value} [he : Elem P el sz bytes z] {x : Operand} {d y : Tmp} (hd : dOk n (some d) = true) (hd0 : Nat.beq d d0 = true) (hk : (E.map (·.1)).contains d = false)
    (hE : sub ((⟨some d, .call { callee := .builtin .append, args := #[x, .tmp y], argTypes := #[t, t] }, ty, pos, after, none⟩ : Oper).looksAt ops) E = [(y, NewB base el k ys)])
    (hx : e.eval x = .slice A m c) (hxy : x ≠ .tmp y) (hfeet : ∀ g, (Ch.app A m c el sz xs).foot = some g → g < base) (hlen : ys.length = k * sz) (hk0 : k ≠ 0) (h1 : ∀ u ∈ ys, u.oneCell' = true) (hb : (m + k) * bytes ≤ 140737488355328) (hm : m + k ≤ 9223372036854775807)
    (hr : RgM P n ops w0 M A m c el sz xs ys k L base d0 Fin rest e (E ++ [(d, fun _ _ => True)])) :
    RgM P n ops w0 M A m c el sz xs ys k L base d0 Fin (⟨some d, .call { callee := .builtin .append, args := #[x, .tmp y], argTypes := #[t, t] }, ty, pos, after, none⟩ :: rest) e E := fun hn => by
  have hk : d ∉ E.map (·.1) := by simpa using hk
  obtain rfl := Nat.eq_of_beq_eq_true hd0
  refine ⟨fun _ _ => True, hd, fun _ _ _ _ _ => trivial, ?_, ?_⟩
  · unfold Ob3
    rw [if_pos rfl]
    refine ⟨fun e1 w hw hg => ⟨rfl, ?_⟩, rfl⟩
    have hyE : (y, NewB base el k ys) ∈ sub ((⟨some d, .call { callee := .builtin .append, args := #[x, .tmp y], argTypes := #[t, t] }, ty, pos, after, none⟩ : Oper).looksAt ops) E := by rw [hE]; exact List.mem_singleton_self _
    obtain ⟨hyE1, hyL⟩ := List.mem_filter.1 hyE
    have hyl : y ∈ (⟨some d, .call { callee := .builtin .append, args := #[x, .tmp y], argTypes := #[t, t] }, ty, pos, after, none⟩ : Oper).looksAt ops := by simpa using hyL
    have hy : e1.eval (.tmp y) = e1 y := rfl
    have hgy := hg y hyl
    have hgy2 : NewB base el k ys (e1 y) w := by
      have : ∀ {E : Open}, (E.map (·.1)).Nodup → (y, NewB base el k ys) ∈ E → gam e E y (e1 y) w → NewB base el k ys (e1 y) w := fun {E} => by
        induction E with
        | nil => intro _ h; cases h
        | cons p E ih =>
          intro hn hm hg
          obtain ⟨u, V⟩ := p
          have hn' := List.nodup_cons.1 hn
          unfold gam at hg
          rcases List.mem_cons.1 hm with h | h
          · injection h with h2 h3
            subst h2 h3
            simpa using hg
          · have hne : ¬ (y = u) := fun hh => hn'.1 (by subst hh; exact List.mem_map.2 ⟨_, h, rfl⟩)
            rw [if_neg hne] at hg
            exact ih hn'.2 h hg
      exact this hn hyE1 hgy
    obtain ⟨g, hyv, hgb, hblk⟩ := hgy2
    have hx1 : e1.eval x = .slice A m c := by
      rw [← hx]
      cases x with
      | tmp u =>
        have hul : u ∈ (⟨some d, .call { callee := .builtin .append, args := #[.tmp u, .tmp y], argTypes := #[t, t] }, ty, pos, after, none⟩ : Oper).looksAt ops := List.mem_append_left _ (List.mem_filterMap.2 ⟨.tmp u, by simp [Op.operands, Call.operands], rfl⟩)
        have h2 : u ∉ E.map (·.1) := fun h3 => by
          obtain ⟨⟨u', V⟩, h4, rfl⟩ := List.mem_map.1 h3
          have : (u', V) ∈ sub ((⟨some d, .call { callee := .builtin .append, args := #[.tmp u', .tmp y], argTypes := #[t, t] }, ty, pos, after, none⟩ : Oper).looksAt ops) E := List.mem_filter.2 ⟨h4, by simpa using hul⟩
          rw [hE] at this
          have := List.mem_singleton.1 this
          injection this with h5 _
          exact hxy (by rw [h5])
        have h1 := hg u hul
        rw [gam_off h2] at h1
        exact h1
      | _ => rfl
    have hrd : Rd w (some ⟨g, 0, none⟩) ys := .inr ⟨_, rfl, fun j u hu => by rw [add_mk, Nat.zero_add, hblk.cell]; simpa using hu⟩
    obtain ⟨A', c', w', hrun, h2, h3, h4, h5⟩ := run_appendA (P := P) (t := t) (ty := ty) (c2 := k) (hw.2.hold _ List.mem_cons_self).1 hrd hlen hk0 h1 hb hm
    have hex : (execOp e1.eval ⟨some d, .call { callee := .builtin .append, args := #[x, .tmp y], argTypes := #[t, t] }, ty, pos, after, none⟩).run P w = .ok (.value (.slice A' (m + k) c')) w' := by
      simp [execOp, resolve, invoke, builtin, hx1, hy, hyv, hrun]
    unfold RunsTo
    rw [hex]
    refine ⟨⟨A', c', rfl, h3, Nat.le_trans hw.1 h4.size, hw.2.put (d := .app A' (m + k) c' el sz (xs ++ ys)) ⟨h4.os, h4.tape, h4.output, h4.size, fun k hk hf => h4.block k hk fun hk' => hf hk'⟩ h2 rfl fun g hg => ?_⟩, h4.size, fun j h6 h7 => h4.block j h7 fun h8 => ?_⟩
    · rcases h5 with h5 | ⟨g', h5, h6⟩
      · left
        simp only [Ch.foot] at hg ⊢
        rw [← h5]; exact hg
      · right
        simp only [Ch.foot] at hg
        rw [h5] at hg
        injection hg with hg
        omega
    · have := hfeet j h8
      omega
  have : setG (gam e E) (some d) (fun _ _ => True) = gam e (E ++ [(d, fun _ _ => True)]) := funext fun t => by
    unfold setG
    rw [gam_last hk]
    by_cases ht : t = d
    · subst ht; rw [if_pos rfl, if_pos rfl]
    · rw [if_neg (fun h => ht (by injection h with h; exact h.symm)), if_neg ht]
  simp only [this]
  refine hr ?_
  simp only [List.map_append, List.map_cons, List.map_nil]
  exact List.nodup_append.2 ⟨hn, by simp, fun a ha b hb => by simp only [List.mem_singleton] at hb; subst hb; exact fun h => hk (h ▸ ha)⟩
end
section
variable {P : Program} {n : Nat} {l : List Oper} {w w0 : World} {M : Nat → Prop} {Q : PostD} {e : Env} {ro : Option Nat} {ds : List Deferred} {A : Option Addr} {m c : Nat} {el : TypeId} {sz : Nat} {xs ys : List Value} {k : Nat} {L : List Ch}
/-- THE RULE: the s-th of N operations appends ys to what xs tells. -/
theorem WpG.drawApp (N s d0 k : Nat) (ys : List Value) {id : Nat} (hS : St w0 M w (.app A m c el sz xs :: L)) (hm : P.follows .mixedOrders = true) (hok : rgOk l N = true) (hN : Nat.ble N l.length = true) (hsk : markOk l N s d0 = true)
    (h : RgM P n l.toArray w0 M A m c el sz xs ys k L w.heap.size d0 (fun Γ => ∀ e' w', IA w0 M L w.heap.size (m + k) el sz (xs ++ ys) (e' d0) w' → (∀ t, Γ t (e' t) w') → WpL P n l.toArray (Q .normal ds) (l.drop N) e' w') (l.take N) e []) :
    WpG ro P n ds (.region id l.toArray true) Q e w :=
  WpG.drawM N s d0 (IS w0 M (.app A m c el sz xs :: L) w.heap.size) (IA w0 M L w.heap.size (m + k) el sz (xs ++ ys)) (RB w.heap.size) hm hok (Nat.le_of_ble_eq_true hN) (fun w => RB.refl w) ⟨Nat.le_refl _, hS.drew⟩ hsk (RgLG.mono (fun Γ h e' w' h1 h2 => (h e' w' h1 h2).toY) (h (by simp)))
theorem RgM.fin {ops ops' : Array Oper} {K : Env → World → Prop} {tail : List Oper} {base d0 y : Nat} {V : Spec} (hyd : Nat.beq y d0 = false)
    (h : ∀ w A' c' u, IsVw A' (m + k) c' A' 0 → St w0 M w (.app A' (m + k) c' el sz (xs ++ ys) :: L) → WpL P n ops' K tail ((e.set y u).set d0 (.slice A' (m + k) c')) w) :
    RgM P n ops w0 M A m c el sz xs ys k L base d0 (fun Γ => ∀ e' w', IA w0 M L base (m + k) el sz (xs ++ ys) (e' d0) w' → (∀ t, Γ t (e' t) w') → WpL P n ops' K tail e' w') [] e [(y, V), (d0, fun _ _ => True)] := by
  intro hn e' w' hB hg
  obtain ⟨A', c', hv, h1, h2, h3⟩ := hB
  have hne : y ≠ d0 := fun h => by subst h; rw [Nat.beq_refl] at hyd; cases hyd
  have he : e' = ((e.set y (e' y)).set d0 (.slice A' (m + k) c')) := funext fun t => by
    by_cases h4 : t = d0
    · subst h4; rw [Env.set_same]; exact hv
    · rw [Env.set_other _ _ h4]
      by_cases h5 : t = y
      · subst h5; rw [Env.set_same]
      · rw [Env.set_other _ _ h5]
        have := hg t
        simpa [gam, h4, h5] using this
  rw [he]
  exact h w' A' c' _ h1 h3
end
end Go.Fk
