/-
  Parts of a proof: Rows in slices: one row written out as a slice; functions against nil; views read whole. It holds for any program; conditions stand at each theorem; Two slices made in a region that draws its order. It holds for any program; conditions stand at each theorem; The rule for a region that draws its order and in whose head one operation stores: what the store makes of the world may hang on one temporary. It holds for any program; Regions that draw their order and in whose head one operation stores: each operation is shown once, over the parts of memory ahead of the store (LA) and behind it (LB of what temporary t0 holds). It holds for any program; conditions stand at each theorem; Regions that draw their order, each operation of which keeps one condition on the world. It holds for any program; conditions stand at each theorem; Regions that draw their order, in a round or beside deferred calls; their forced tails may call yield. It holds for any program; conditions stand at each theorem. (The proofs are those of the text Rg, turned to the fenced calculus.); The sum of bytes, in plain words: nibble by nibble as the program has it, bit by bit as the document has it; that the two are one; Walks over crc: what the sums come to; Walks over crc: what the sums come to.
-/
import Derived.OrdersIn
import Derived.Test.YtaapnfoimcccjaaRows
import Derived.Test.YtaapnfoimcccjaaLawBlocksPlayM3
set_option linter.unusedVariables false
namespace Go.Fk
open Go.RowKit

class FnT (P : Program) (t : TypeId) : Prop where
  hu : ∃ p r v, P.underlying t = some (.func p r v)
section
variable {P : Program} {I : World → Prop} {ty : TypeId} {e : Env} {x y : Operand} {v : Value} {t el t' : TypeId}
theorem run_equalIn_nilF {t : TypeId} {p r : Array TypeId} {v : Bool} (hu : P.underlying t = some (.func p r v)) {f : Fn} {a b : Array Value} (d : Nat) (w : World) : (Op.equalIn (d + 1) t (.func f a b) .nilFunc).run P w = .ok false w := by
  simp [Op.equalIn, run_underlying hu]
theorem Det.eqlNilF [h : FnT P t] {f : Fn} {a b : Array Value} (hx : e.eval x = .func f a b) (hy : e.eval y = .nilFunc) : Det P I (.binOp .eql t x y t') ty e (.bool false) := fun _ _ _ _ w _ => by
  obtain ⟨p, r, v, hu⟩ := h.hu
  have := run_equalIn_nilF (P := P) hu (f := f) (a := a) (b := b) 9999 w
  simp only [execOp, hx, hy, eqGuard, binOp]
  simp [Op.equal, Op.maxDepth, this]
end
section
variable {P : Program} {N : Nat} {ops : Array Oper} {K : Env → World → Prop} {rest : List Oper} {e : Env} {w w0 : World} {M : Nat → Prop} {L L1 : List Ch} {ty : TypeId} {pos : String} {after : Array Edge}
variable {t el : TypeId} {sz bytes : Nat} {z : Value} {d : Tmp} {x : Operand}
theorem run_buildSlice1 [ht : SliceT P t el] [he : Elem P el sz bytes z] {cells : List Value} (hsz : 0 < sz) (hn : sz ≤ 16777216)
    (hf : Instr.fill (fun i => some (i * sz, sz)) ((Array.range sz).map fun j => z.cells[j % z.cells.size]!) [(0, .agg cells.toArray)] = some cells.toArray) (w : World) :
    (Instr.buildSlice t 1 #[(0, .agg cells.toArray)]).run P w = .ok (.slice (some ⟨w.heap.size, 0, none⟩) 1 1) (w.alloc (.cells cells.toArray el)) := by
  obtain ⟨i, hi, hz, hsize, hby⟩ := he.get
  simp only [Instr.buildSlice, Sem.run_bind, run_underlying ht.hu, Result.andThen_ok, sizeOf, typeInfo, run_program, hi, hsize, Sem.run_pure, zeroValue, hz]
  rw [if_neg (by omega), if_neg (by omega)]
  simp [typeInfo, hi, hz, newRow, hf, Nat.one_mul]
theorem WpL.bs1 [ht : SliceT P t el] [he : Elem P el sz bytes z] {cells : List Value} (hS : St w0 M w L) (hd : dOk N (some d) = true) (hx : e.eval x = .agg cells.toArray) (hsz : 0 < sz) (hn : sz ≤ 16777216)
    (hf : Instr.fill (fun i => some (i * sz, sz)) ((Array.range sz).map fun j => z.cells[j % z.cells.size]!) [(0, .agg cells.toArray)] = some cells.toArray) (hl : cells.length = sz)
    (h : ∀ A w', IsVw A 1 1 A 0 → St w0 M w' (.own A 1 1 el sz cells :: L) → WpL P N ops K rest (e.set d (.slice A 1 1)) w') :
    WpL P N ops K (⟨some d, .buildSlice t 1 #[(0, x)], ty, pos, after, none⟩ :: rest) e w := by
  refine WpL.run (v := .slice (some ⟨w.heap.size, 0, none⟩) 1 1) (w' := w.alloc (.cells cells.toArray el)) hd (by simp only [execOp, Sem.run_bind]; simp only [List.map_toArray, List.map_cons, List.map_nil, hx]; rw [run_buildSlice1 hsz hn hf w]; simp) ?_
  refine h _ _ (IsVw.base (Nat.le_refl _) (by simp [maxLen]) (by simp)) ?_
  exact hS.new ((Below.refl _ _).alloc (Nat.le_refl _) _) ⟨by simpa using hl, .inr ⟨_, 1, _, rfl, Nat.zero_le _, Blk.new _ _ _, Nat.le_refl _, by simp [maxLen], by simp [hl], by simp [← hl]⟩⟩ rfl fun g hg => by simp [Ch.foot] at hg; omega
end
section
variable {w0 w : World} {M : Nat → Prop} {L L' : List Ch}
theorem RdsV.mem {V : Option Addr} {n : Nat} {ys : List Value} (h : RdsV L V n ys) (hs : ∀ w0 M w, St w0 M w L' → St w0 M w L) : RdsV L' V n ys := fun w0 M w hS => h w0 M w (hs _ _ _ hS)
theorem RdsV.left {V : Option Addr} {n : Nat} {ys : List Value} (h : RdsV L V n ys) (L' : List Ch) : RdsV (L ++ L') V n ys := h.mem fun _ _ _ hS => hS.sub (List.sublist_append_left _ _)
theorem RdsV.right {V : Option Addr} {n : Nat} {ys : List Value} (h : RdsV L V n ys) (L' : List Ch) : RdsV (L' ++ L) V n ys := h.mem fun _ _ _ hS => hS.sub (List.sublist_append_right _ _)
/-- A view of what is read whole. -/
theorem RdsV.view {A V : Option Addr} {n m c o : Nat} {ys : List Value} (h : RdsV L A m ys) (hV : IsVw V n c A o) (hm : o + n ≤ m) : RdsV L V n ((ys.drop o).take n) := fun w0 M w hS => by
  obtain ⟨h1, h2⟩ := h w0 M w hS
  refine ⟨hV.rd h1 (Nat.le_refl _), ?_⟩
  rw [List.length_take, List.length_drop]
  omega
theorem RdsV.rowAt {V : Option Addr} {n : Nat} {ys : List Value} {k m : Nat} (h : RdsV L V n ys) (hS : St w0 M w L) (_ : k + m ≤ n) : At w ((adr V).add k) ((ys.drop k).take m) := by
  obtain ⟨h1, _⟩ := h w0 M w hS
  rcases h1 with rfl | ⟨a, rfl, hat⟩
  · intro j u hu; simp at hu
  · exact (hat.drop k).take m
end
theorem IsVw.whole' {V V' : Option Addr} {n c : Nat} (h : IsVw V' n c V 0) (hc : c ≠ 0) : V' = V := by
  rcases h.at_ with h1 | ⟨a, h1, h2⟩
  · exact absurd h1 hc
  · rw [h1, h2, add_zero]
theorem IsVw.self {V A : Option Addr} {n c o : Nat} (h : IsVw V n c A o) : IsVw V n c V 0 := ⟨h.le, h.max, by
  rcases h.at_ with h1 | ⟨a, h1, h2⟩
  · exact .inl h1
  · exact .inr ⟨_, h2, by rw [add_zero]; exact h2⟩⟩
/-- Whether an operation is wanted. -/
theorem wanted_of {ops : Array Oper} {o : Oper} {e : Env} {j d : Nat} {b c : Bool} (hg : o.guard = some (j, b)) (hj : (ops[j]?).bind (·.dst) = some d) (he : e d = .bool c) (hc : c = b) : Region.wanted o (yieldedE ops e) = true := by
  simp [Region.wanted, hg, yieldedE, hj, he, hc]
theorem unwanted_of {ops : Array Oper} {o : Oper} {e : Env} {j d : Nat} {b c : Bool} (hg : o.guard = some (j, b)) (hj : (ops[j]?).bind (·.dst) = some d) (he : e d = .bool c) (hc : c = !b) : Region.wanted o (yieldedE ops e) = false := by
  subst hc
  simp only [Region.wanted, hg, yieldedE, hj, he]
  cases b <;> rfl
end Go.Fk

namespace Go.Fk
open Go.RowKit
section
variable {P : Program} {n : Nat} {ops : Array Oper} {w : World} {Fin : (Tmp → Spec) → Prop} {rest : List Oper} {e : Env} {E : Open} {ty : TypeId} {pos : String} {after : Array Edge}
variable {t el : TypeId} {d : Tmp} {x y : Operand}
/-- A new slice, each place the element's nought. -/
def NewRow (w : World) (el : TypeId) (k : Nat) (z : Value) : Spec := fun x w' => ∃ g, x = .slice (some ⟨g, 0, none⟩) k k ∧ w.heap.size ≤ g ∧ Blk w' g el (List.replicate k z).toArray
theorem RgD.mk [ht : SliceT P t el] {bytes k : Nat} {z : Value} [he : Elem P el 1 bytes z] {kl kc : IntKind} {i j : Int} (hd : dOk n (some d) = true) (hk : (E.map (·.1)).contains d = false) (hE : sub ((⟨some d, .makeSlice t x y, ty, pos, after, none⟩ : Oper).looksAt ops) E = [])
    (hx : e.eval x = .int kl i) (hi : i = (k : Int)) (hy : e.eval y = .int kc j) (hj : j = (k : Int)) (hz : z.cells = #[z]) (hn : bytes * k ≤ 281474976710656) (hm : k ≤ 9223372036854775807)
    (hr : RgD P n ops w Fin rest e (E ++ [(d, NewRow w el k z)])) : RgD P n ops w Fin (⟨some d, .makeSlice t x y, ty, pos, after, none⟩ :: rest) e E := by
  subst hi hj
  obtain ⟨i, hi, hzz, hsize, hby⟩ := he.get
  have hmade : madeCells #[z] k = (List.replicate k z).toArray := by
    apply Array.ext'
    refine List.ext_getElem (by simp [madeCells]) fun j h1 h2 => ?_
    have h3 : j % 1 = 0 := Nat.mod_one j
    simp [madeCells, h3]
  refine RgD.spec0 (NewRow w el k z) hd rfl hk hE (fun x w w' ⟨g, h, h1, h2⟩ hb => ⟨g, h, h1, h2.stay hb⟩) (fun w5 hb5 => ?_) hr
  have hr := _root_.Go.run_make_row (P := P) t el i z ht.hu hi hzz hsize hz kl kc k (by rw [hby]; omega) (by omega) w5
  have hb6 : Below w5.heap.size w5 (w5.alloc (.cells (madeCells #[z] k) el)) := (Below.refl _ _).alloc (Nat.le_refl _) _
  refine WpL.run (w' := w5.alloc (.cells (madeCells #[z] k) el)) hd (by simp only [execOp, hx, hy, Sem.run_bind, hr]; rfl) ?_
  exact ⟨⟨hb5.on hb6, hb6⟩, _, Env.set_same _ _ _, hb5.size, by rw [← hmade]; exact heap_alloc_new w5 _⟩
theorem RgD.finMk2 {ops' : Array Oper} {w0 : World} {M : Nat → Prop} {L : List Ch} {K : Env → World → Prop} {tail : List Oper} {k1 k2 : Nat} {z : Value} {t1 t2 : Tmp} (hS : St w0 M w L) (hne : k1 ≠ k2) (h1 : k1 ≤ maxLen) (h2 : k2 ≤ maxLen)
    (h : ∀ w' A1 A2, IsVw A1 k1 k1 A1 0 → IsVw A2 k2 k2 A2 0 → St w0 M w' (.own A1 k1 k1 el 1 (List.replicate k1 z) :: .own A2 k2 k2 el 1 (List.replicate k2 z) :: L) → WpL P n ops' K tail ((e.set t1 (.slice A1 k1 k1)).set t2 (.slice A2 k2 k2)) w') :
    RgD P n ops w (fun Γ => ∀ e' w', Below w.heap.size w w' → (∀ t, Γ t (e' t) w') → WpL P n ops' K tail e' w') [] e [(t1, NewRow w el k1 z), (t2, NewRow w el k2 z)] := by
  refine RgD.fin fun w7 hb7 => ?_
  rintro x1 ⟨g1, rfl, hg1, hB1⟩ x2 ⟨g2, rfl, hg2, hB2⟩
  have hgg : g1 ≠ g2 := fun e => by
    subst e
    have h5 : some (Obj.cells (List.replicate k1 z).toArray el (0, 0)) = some (Obj.cells (List.replicate k2 z).toArray el (0, 0)) := hB1.symm.trans hB2
    have h6 := congrArg List.length (congrArg Array.toList (Obj.cells.inj (Option.some.inj h5)).1)
    simp at h6
    exact hne h6
  refine h w7 _ _ (IsVw.base (Nat.le_refl _) h1 (by simp)) (IsVw.base (Nat.le_refl _) h2 (by simp)) ?_
  refine St.step (pre := []) (post := [_, _]) (Γ := L) (by simpa using hS) ⟨Chg.of_below hb7 _, fun c hc => ?_, ?_⟩ (fun c hc => ?_)
  · simp only [List.mem_cons, List.not_mem_nil, or_false] at hc
    rcases hc with rfl | rfl
    · exact ⟨⟨by simp, .inr ⟨g1, k1, _, rfl, Nat.zero_le _, hB1, Nat.le_refl _, h1, by simp, by simp⟩⟩, fun g hg => .inl (by simp [Ch.foot] at hg; omega)⟩
    · exact ⟨⟨by simp, .inr ⟨g2, k2, _, rfl, Nat.zero_le _, hB2, Nat.le_refl _, h2, by simp, by simp⟩⟩, fun g hg => .inl (by simp [Ch.foot] at hg; omega)⟩
  · simp only [List.pairwise_cons, List.mem_singleton, List.not_mem_nil, false_imp_iff, implies_true, List.Pairwise.nil, and_true, forall_eq]
    intro g hg hg'
    simp [Ch.foot] at hg hg'
    omega
  · simp only [List.mem_cons, List.not_mem_nil, or_false] at hc
    rcases hc with rfl | rfl <;> rfl
end
end Go.Fk

namespace Go.Fk
open Go.RowKit

/-- The store: from I0 to J. -/
def ObS (P : Program) (ops : Array Oper) (I0 : World → Prop) (J : Env → World → Prop) (R : World → World → Prop) (o : Oper) (Γ : Tmp → Spec) : Prop :=
  ∀ (e : Env) (w : World), I0 w → (∀ t ∈ o.looksAt ops, Γ t (e t) w) → o.guard = none ∧ RunsTo P o e.eval w (fun _ w' => J e w' ∧ R w w')
/-- The others: ahead of the store and behind it. -/
def Ob2 (P : Program) (ops : Array Oper) (I0 : World → Prop) (I1 : Value → World → Prop) (R : World → World → Prop) (t0 : Tmp) (o : Oper) (Γ : Tmp → Spec) (V : Spec) : Prop :=
  if o.dst = none then ObS P ops I0 (fun e w => I1 (e t0) w) R o Γ ∧ V = (fun _ _ => True) else Ob P ops I0 R o Γ V ∧ ∀ x, Ob P ops (I1 x) R o Γ V
def RgLG (n : Nat) (OB : Oper → (Tmp → Spec) → Spec → Prop) (R : World → World → Prop) (Fin : (Tmp → Spec) → Prop) : List Oper → (Tmp → Spec) → Prop
  | [], Γ => Fin Γ
  | o :: r, Γ => ∃ V : Spec, dOk n o.dst = true ∧ (∀ v w w', V v w → R w w' → V v w') ∧ OB o Γ V ∧ RgLG n OB R Fin r (setG Γ o.dst V)
/-- The s-th is the head's one store; t0 is written ahead of it alone, and the store looks at it, or nobody writes it. -/
def storeOk (l : List Oper) (N s t0 : Nat) : Bool :=
  Nat.blt s N && (allB N fun i => (l[i]?).all fun o => (o.dst == none) == (i == s)) && (allB l.length fun i => (l[i]?).all fun o => !(o.dst == some t0) || Nat.blt i s) &&
    (((l[s]?).all fun o => (o.looksAt l.toArray).contains t0) || (allB l.length fun i => (l[i]?).all fun o => !(o.dst == some t0)))
section
variable {P : Program} {n : Nat} {l : List Oper} {R : World → World → Prop} {OB : Oper → (Tmp → Spec) → Spec → Prop} {I0 : World → Prop} {I1 : Value → World → Prop} {t0 : Tmp}
theorem storeOk_spec {N s : Nat} (hN : N ≤ l.length) (h : storeOk l N s t0 = true) : s < N ∧ (∀ i o, i < N → l[i]? = some o → (o.dst = none ↔ i = s)) ∧ (∀ i o, l[i]? = some o → o.dst = some t0 → i < s) ∧
    (∀ o, l[s]? = some o → t0 ∈ o.looksAt l.toArray ∨ ∀ (i : Nat) (o' : Oper), l[i]? = some o' → o'.dst ≠ some t0) := by
  unfold storeOk at h
  simp only [Bool.and_eq_true, Bool.or_eq_true] at h
  obtain ⟨⟨⟨h1, h2⟩, h3⟩, h4⟩ := h
  refine ⟨by simpa [Nat.blt_eq] using h1, fun i o hi ho => ?_, fun i o ho hd => ?_, fun o ho => ?_⟩
  · have := allB_spec h2 i hi
    rw [ho] at this
    simp only [Option.all_some, beq_iff_eq] at this
    constructor
    · intro hd; rw [hd] at this; simpa using this
    · intro his; subst his; simpa using this
  · have := allB_spec h3 i (List.getElem?_eq_some_iff.1 ho).1
    rw [ho] at this
    simp only [Option.all_some, Bool.or_eq_true, Bool.not_eq_true', beq_eq_false_iff_ne] at this
    rcases this with h | h
    · exact absurd hd h
    · simpa [Nat.blt_eq] using h
  · rcases h4 with h | h
    · rw [ho] at h
      simp only [Option.all_some, List.contains_iff_mem] at h
      exact .inl h
    · refine .inr fun i o' ho' => ?_
      have := allB_spec h i (List.getElem?_eq_some_iff.1 ho').1
      rw [ho'] at this
      simpa using this

theorem RgLG.specs {Fin : (Tmp → Spec) → Prop} {l : List Oper} {Γ0 : Tmp → Spec} : ∀ (r : List Oper) (k : Nat) (Vs : List Spec), Vs.length = k → (∀ j, r[j]? = l[k + j]?) →
    RgLG n OB R Fin r (ctx l Vs Γ0 k) →
    ∃ Vs' : List Spec, Vs'.length = k + r.length ∧ (∀ i, i < k → Vs'[i]? = Vs[i]?) ∧ Fin (ctx l Vs' Γ0 (k + r.length)) ∧
      ∀ i o, k ≤ i → i < k + r.length → l[i]? = some o → ∃ V, Vs'[i]? = some V ∧ dOk n o.dst = true ∧ (∀ v w w', V v w → R w w' → V v w') ∧ OB o (ctx l Vs' Γ0 i) V
  | [], k, Vs, hk, _, h => ⟨Vs, by simpa using hk, fun _ _ => rfl, h, fun i o h1 h2 => by simp at h2; omega⟩
  | o :: r, k, Vs, hk, hr, h => by
    obtain ⟨V, hd, hst, hob, h⟩ := h
    have ho : l[k]? = some o := by simpa using (hr 0).symm
    have hpre : ∀ (Vs' : List Spec) (i : Nat), (∀ j, j < i → Vs'[j]? = Vs[j]?) → ctx l Vs' Γ0 i = ctx l Vs Γ0 i := fun Vs' i => by
      induction i with
      | zero => intro _; rfl
      | succ i ih =>
        intro hj
        simp only [ctx]
        rw [ih fun j h => hj j (by omega), List.getD_eq_getElem?_getD, List.getD_eq_getElem?_getD, hj i (by omega)]
    have e1 : ∀ j, j < k → (Vs ++ [V])[j]? = Vs[j]? := fun j hj => by rw [List.getElem?_append_left (by omega)]
    have e2 : (Vs ++ [V])[k]? = some V := by rw [List.getElem?_append_right (by omega)]; simp [hk]
    have hctx : ctx l (Vs ++ [V]) Γ0 (k + 1) = setG (ctx l Vs Γ0 k) o.dst V := by
      simp only [ctx]
      rw [hpre _ k e1, ho, List.getD_eq_getElem?_getD, e2]
      rfl
    obtain ⟨Vs', h1, h2, h3, h4⟩ := RgLG.specs r (k + 1) (Vs ++ [V]) (by simp [hk]) (fun j => by have := hr (j + 1); simpa [Nat.add_assoc, Nat.add_comm 1 j] using this) (by rw [hctx]; exact h)
    have h2' : ∀ i, i < k → Vs'[i]? = Vs[i]? := fun i hi => (h2 i (by omega)).trans (e1 i hi)
    refine ⟨Vs', by simp at h1 ⊢; omega, h2', by simpa [Nat.add_assoc, Nat.add_comm 1] using h3, fun i o' hi1 hi2 ho' => ?_⟩
    by_cases hik : i = k
    · subst hik
      rw [ho] at ho'
      injection ho' with ho'
      subst ho'
      exact ⟨V, (h2 i (by omega)).trans e2, hd, hst, by rw [hpre Vs' i h2']; exact hob⟩
    · exact h4 i o' (by omega) (by simp at hi2; omega) ho'

theorem ObS.wpOp {ops : Array Oper} {o : Oper} {Γ : Tmp → Spec} {I : World → Prop} {J : Env → World → Prop} {R : World → World → Prop} (h : ObS P ops I J R o Γ) {a : Act} {e : Env} {w : World} (ha : Rep n a e) (hd : dOk n o.dst = true) {i : Nat} (ho : ops[i]? = some o)
    (hI : I w) (hΓ : ∀ t ∈ o.looksAt ops, Γ t (e t) w) {K : Act → World → Prop} {Q : Exit → Act → World → Prop}
    (hk : ∀ v a' w', Rep n a' (e.setD o.dst v) → J e w' → R w w' → K a' w') : wpOp P ops Q i K a w := by
  obtain ⟨hg, h1⟩ := h e w hI hΓ
  unfold Go.wpOp
  simp only [ho]
  rw [ha.yielded]
  have hw : Region.wanted o (yieldedE ops e) = true := by simp [Region.wanted, hg]
  · rw [if_pos hw]
    refine .inl ?_
    unfold RunsTo at h1
    unfold Oper.wp
    rw [ha.eval]
    generalize (execOp e.eval o).run P w = r at h1 ⊢
    cases r with
    | halt x w' => exact h1.elim
    | ok x w' =>
      cases x <;> simp only at h1 <;> simp only [Oper.upon]
      case value v => exact hk _ _ _ (ha.put hd v) h1.1 h1.2
      case skip => exact hk _ _ _ (ha.put hd _) h1.1 h1.2
      case enter f args =>
        refine h1.mono fun x w'' hx => ?_
        obtain ⟨v, rfl, hx⟩ := hx
        exact hk _ _ _ (ha.put hd v) hx.1 hx.2
      case row row args => exact h1.mono fun v w'' hx => hk _ _ _ (ha.put hd v) hx.1 hx.2

theorem head_soundS {N : Nat} (hok : RgOk l N) (hN : N ≤ l.length) {Vs : List Spec} {Γ0 : Tmp → Spec} (hlen : Vs.length = N) (hSt : ∀ w, R w w) {s : Nat} (hsN : s < N)
    (hst : ∀ (i : Nat) (V : Spec) v w w', Vs[i]? = some V → V v w → True → True → R w w' → V v w') (h0 : ∀ t v w w', Γ0 t v w → True → True → R w w' → Γ0 t v w')
    (hops : ∀ i o, i < N → l[i]? = some o → ∃ V, Vs[i]? = some V ∧ dOk n o.dst = true ∧ Ob2 P l.toArray I0 I1 R t0 o (ctx l Vs Γ0 i) V) (hone : ∀ i o, i < N → l[i]? = some o → (o.dst = none ↔ i = s))
    (ht0 : ∀ i o, l[i]? = some o → o.dst = some t0 → i < s) (hlook : ∀ o, l[s]? = some o → t0 ∈ o.looksAt l.toArray ∨ ∀ (i : Nat) (o' : Oper), l[i]? = some o' → o'.dst ≠ some t0)
    {K : Env → World → Prop} {Q : Exit → Act → World → Prop} (hq : ∀ a e w, Rep n a e → K e w → Q .normal a w)
    (hfin : ∀ e w, I1 (e t0) w → (∀ t, ctx l Vs Γ0 N t (e t) w) → WpL P n l.toArray K (l.drop N) e w) :
    ∀ (fuel : Nat) (listed : Array Bool) (a : Act) (e : Env) (w : World), Rep n a e → Mid l N Vs Γ0 (fun _ => True) listed e w → ((listed.getD s true = false → I0 w) ∧ (listed.getD s true = true → I1 (e t0) w)) → left l.length listed ≤ fuel → wpAny P .any l.toArray Q fuel listed a w := by
  intro fuel
  -- where the head has come up whole the tail follows
  have hswitch : ∀ (fuel : Nat) (listed : Array Bool) (a : Act) (e : Env) (w : World), Rep n a e → Mid l N Vs Γ0 (fun _ => True) listed e w → ((listed.getD s true = false → I0 w) ∧ (listed.getD s true = true → I1 (e t0) w)) → left l.length listed ≤ fuel →
      (∀ i, i < N → listed.getD i true = true) → wpAny P .any l.toArray Q fuel listed a w := fun fuel listed a e w ha hm hi hf hall => by
    have hl : ∀ i, i < l.length → listed.getD i true = decide (i < N) := fun i hi => by
      by_cases h : i < N
      · rw [hall i h]; simp [h]
      · rw [hm.head i (by omega) hi]; simp [h]
    refine tail_sound hok hq (l.drop N) N listed a e w (Nat.le_refl _) hm.size (by simp; omega) (fun j => by rw [List.getElem?_drop]) hl ha (hfin e w (hi.2 (hall s hsN)) (hm.full hlen hN hall)) fuel ?_
    refine Nat.le_trans ?_ hf
    unfold left
    have : (List.range l.length).filter (fun i => !listed.getD i true) = (List.range l.length).filter (fun i => decide (N ≤ i)) := by
      refine List.filter_congr fun i hi => ?_
      rw [hl i (by simpa using hi)]
      by_cases h : i < N
      · simp [h]
      · simp [h]; omega
    rw [this]
    have hr : List.range l.length = List.range N ++ (List.range (l.length - N)).map (N + ·) := by
      rw [← List.range_add]; congr 1; omega
    rw [hr, List.filter_append]
    have e1 : ((List.range (l.length - N)).map (N + ·)).filter (fun i => decide (N ≤ i)) = (List.range (l.length - N)).map (N + ·) := by
      rw [List.filter_eq_self]
      intro x hx
      obtain ⟨y, _, rfl⟩ := List.mem_map.1 hx
      simp
    rw [List.length_append, e1]
    simp
  induction fuel with
  | zero =>
    intro listed a e w ha hm hinv hf
    have hall := left_zero (Nat.le_zero.1 hf)
    exact hswitch 0 listed a e w ha hm hinv hf fun i hi => hall i (by omega)
  | succ fuel ih =>
    intro listed a e w ha hm hinv hf
    by_cases hall : ∀ i, i < N → listed.getD i true = true
    · exact hswitch _ listed a e w ha hm hinv hf hall
    · refine ⟨fun h0 => absurd (fun i hi => all_of_ready_nil hok h0 i (by omega)) hall, fun i hi => ?_⟩
      obtain ⟨hun, o, ho', hpre0⟩ := mem_ready.1 hi
      have hil : i < l.length := by have := (Array.getElem?_eq_some_iff.1 ho').1; simpa using this
      have ho : l[i]? = some o := by simpa using ho'
      have hpre : ∀ ed ∈ o.after.toList, Region.binds .any ed = true → listed.getD ed.on true = true := fun ed he hb => getD_false_true (hpre0 ed (by simpa using he) hb)
      have hiN : i < N := by
        rcases Nat.lt_or_ge i N with h | h
        · exact h
        · exfalso
          refine hall fun j hj => ?_
          exact hok.tail i j hil h (by omega) _ hm.down fun o' ed h1 h2 h3 => by rw [ho] at h1; injection h1 with h1; subst h1; exact hpre ed h2 h3
      obtain ⟨V, hVi, hd, hob⟩ := hops i o hiN ho
      have hlk := hm.looks hok hlen hN ho hun hiN hpre
      by_cases his : i = s
      · -- the store
        have hdn := (hone i o hiN ho).2 his
        unfold Ob2 at hob
        rw [if_pos hdn] at hob
        obtain ⟨hob, rfl⟩ := hob
        refine hob.wpOp ha hd ho' (hinv.1 (by rw [← his]; exact hun)) hlk fun v a' w' ha' hJ hR => ?_
        refine ih _ a' _ w' ha' (hm.step hok hst h0 ho hun hiN hpre trivial hR fun V' hV'' => by rw [hVi] at hV''; injection hV'' with hV''; subst hV''; trivial) ?_ ?_
        · refine ⟨fun h => ?_, fun _ => by rw [hdn]; exact hJ⟩
          rw [← his, getD_set_same] at h; cases h
        · have := left_set hil hun
          omega
      · have hdn : o.dst ≠ none := fun h => his ((hone i o hiN ho).1 h)
        unfold Ob2 at hob
        rw [if_neg hdn] at hob
        have hne : (listed.setIfInBounds i true).getD s true = listed.getD s true := getD_set_ne true his
        cases hls : listed.getD s true with
        | false =>
          refine hob.1.wpOp ha hd ho' (hinv.1 hls) hlk (hSt w) fun v a' w' ha' hI' hS' hV' => ?_
          refine ih _ a' _ w' ha' (hm.step hok hst h0 ho hun hiN hpre trivial hS' fun V' hV'' => by rw [hVi] at hV''; injection hV'' with hV''; subst hV''; exact hV') ?_ ?_
          · rw [hne, hls]
            exact ⟨fun _ => hI', fun h => by cases h⟩
          · have := left_set hil hun
            omega
        | true =>
          have hd0 : o.dst ≠ some t0 := fun h => by
            have hlt := ht0 i o ho h
            have hs0 : l[s]? = some l[s] := List.getElem?_eq_getElem (by omega)
            rcases hlook _ hs0 with hl | hl
            · have hb := hok.order s i l[s] o t0 hs0 ho (Ne.symm his) (looks_names hl) h
              rw [Nat.max_eq_left (by omega), Nat.min_eq_right (by omega)] at hb
              have := hb.of_listed (L := fun k => listed.getD k true = true) hm.down hls
              rw [hun] at this; cases this
            · exact hl i o ho h
          have he0 : ∀ v, (e.setD o.dst v) t0 = e t0 := fun v => by
            cases h : o.dst with
            | none => rfl
            | some d' => exact Env.set_other e v (fun h' => hd0 (by rw [h, h']))
          refine (hob.2 (e t0)).wpOp ha hd ho' (hinv.2 hls) hlk (hSt w) fun v a' w' ha' hI' hS' hV' => ?_
          refine ih _ a' _ w' ha' (hm.step hok hst h0 ho hun hiN hpre trivial hS' fun V' hV'' => by rw [hVi] at hV''; injection hV'' with hV''; subst hV''; exact hV') ?_ ?_
          · rw [hne, hls, he0]
            exact ⟨fun h => (by cases h), fun _ => hI'⟩
          · have := left_set hil hun
            omega

/-- THE RULE. -/
theorem Wp.drawS {id : Nat} {Q : Exit → Env → World → Prop} {e : Env} {w : World} (N s t0 : Nat) (I0 : World → Prop) (I1 : Value → World → Prop) (R : World → World → Prop) (hm : P.follows .mixedOrders = true)
    (hok : rgOk l N = true) (hN : N ≤ l.length) (hSt : ∀ w, R w w) (hI : I0 w.drew) (hsk : storeOk l N s t0 = true)
    (h : RgLG n (Ob2 P l.toArray I0 I1 R t0) R (fun Γ => ∀ e' w', I1 (e' t0) w' → (∀ t, Γ t (e' t) w') → WpL P n l.toArray (Q .normal) (l.drop N) e' w') (l.take N) (fun t v _ => v = e t)) :
    Wp P n (.region id l.toArray true) Q e w := fun a ha => by
  have hok := rgOk_spec hok
  have hlt : (l.take N).length = N := by simp; omega
  have h' : RgLG n (Ob2 P l.toArray I0 I1 R t0) R (fun Γ => ∀ e' w', I1 (e' t0) w' → (∀ t, Γ t (e' t) w') → WpL P n l.toArray (Q .normal) (l.drop N) e' w') (l.take N) (ctx (l.take N) [] (fun t v _ => v = e t) 0) := h
  obtain ⟨Vs, h1, _, h3, h4⟩ := RgLG.specs (l := l.take N) (Γ0 := fun t v _ => v = e t) (l.take N) 0 [] rfl (fun j => by simp) h'
  simp only [Nat.zero_add] at h1 h3 h4
  rw [hlt] at h1 h3
  have hctx : ∀ i, i ≤ N → ctx (l.take N) Vs (fun t v _ => v = e t) i = ctx l Vs (fun t v _ => v = e t) i := fun i => by
    induction i with
    | zero => intro _; rfl
    | succ i ih =>
      intro hi
      simp only [ctx]
      rw [ih (by omega), List.getElem?_take, if_pos (by omega)]
  rw [hctx N (Nat.le_refl _)] at h3
  obtain ⟨hsN, hone, ht0, hlook⟩ := storeOk_spec hN hsk
  refine wp_region_any hm (head_soundS (R := R) (I0 := I0) (I1 := I1) (t0 := t0) hok hN h1 hSt hsN (fun i V v w w' hV hv _ _ hR => ?_) (fun t v w w' h _ _ _ => h) (fun i o hi ho => ?_) hone ht0 hlook (fun a e w ha hk => ⟨e, ha, hk⟩) h3 _ _ a e _ ha
    ⟨by simp, trivial, fun k o ed hk he hb hl => ?_, fun i h1 h2 => ?_, fun j o d hj _ hl => ?_, fun t _ => rfl⟩ ⟨fun _ => hI, fun hl => ?_⟩ ?_)
  · have hi : i < N := by have := (List.getElem?_eq_some_iff.1 hV).1; omega
    obtain ⟨V', hV', _, hs, _⟩ := h4 i (l[i]'(by omega)) (Nat.zero_le _) (by simp; omega) (by rw [List.getElem?_take, if_pos hi]; exact List.getElem?_eq_getElem (by omega))
    rw [hV] at hV'; injection hV' with hV'; subst hV'
    exact hs v w w' hv hR
  · obtain ⟨V, h5, h6, _, h8⟩ := h4 i o (Nat.zero_le _) (by simp; have := (List.getElem?_eq_some_iff.1 ho).1; omega) (by rw [List.getElem?_take, if_pos hi]; exact ho)
    rw [hctx i (by omega)] at h8
    exact ⟨V, h5, h6, h8⟩
  · exfalso
    have hkl : k < l.length := (List.getElem?_eq_some_iff.1 hk).1
    simp [Array.getD_eq_getD_getElem?, hkl] at hl
  · simp [Array.getD_eq_getD_getElem?, h2]
  · exfalso
    have hkl : j < l.length := (List.getElem?_eq_some_iff.1 hj).1
    simp [Array.getD_eq_getD_getElem?, hkl] at hl
  · exfalso
    have hkl : s < l.length := by omega
    simp [Array.getD_eq_getD_getElem?, hkl] at hl
  · unfold left
    exact Nat.le_trans (List.length_filter_le _ _) (by simp)
end
end Go.Fk

namespace Go.Fk
open Go.RowKit

def RB (base : Nat) (w w' : World) : Prop := w.heap.size ≤ w'.heap.size ∧ ∀ k, base ≤ k → k < w.heap.size → w'.heap[k]? = w.heap[k]?
def IS (w0 : World) (M : Nat → Prop) (L : List Ch) (base : Nat) (w : World) : Prop := base ≤ w.heap.size ∧ St w0 M w L
theorem RB.refl {base : Nat} (w : World) : RB base w w := ⟨Nat.le_refl _, fun _ _ _ => rfl⟩
theorem RB.below {base : Nat} {w w' : World} (hb : Below w.heap.size w w') : RB base w w' := ⟨hb.size, fun k _ hk => hb.block k hk⟩
theorem IS.below {w0 : World} {M : Nat → Prop} {L : List Ch} {base : Nat} {w w' : World} (h : IS w0 M L base w) (hb : Below w.heap.size w w') : IS w0 M L base w' := ⟨Nat.le_trans h.1 hb.size, h.2.below hb⟩

section
variable {P : Program} {n : Nat} {ops : Array Oper} {w0 : World} {M : Nat → Prop} {LA : List Ch} {LB : Value → List Ch} {base t0 : Nat} {Fin : (Tmp → Spec) → Prop} {rest : List Oper} {e : Env} {E : Open} {ty : TypeId} {pos : String} {after : Array Edge}

def RgS (P : Program) (n : Nat) (ops : Array Oper) (w0 : World) (M : Nat → Prop) (LA : List Ch) (LB : Value → List Ch) (base t0 : Nat) (Fin : (Tmp → Spec) → Prop) (l : List Oper) (e : Env) (E : Open) : Prop :=
  (E.map (·.1)).Nodup → RgLG n (Ob2 P ops (IS w0 M LA base) (fun x => IS w0 M (LB x) base) (RB base) t0) (RB base) Fin l (gam e E)

theorem one_obG {o : Oper} {d : Tmp} {V : Spec} {L : List Ch} (hd : o.dst = some d) (hs : notSelect o.op = true) (hn : (E.map (·.1)).Nodup)
    (h : ∀ w, IS w0 M L base w → AllE w (fun e => WpL P n ops (fun e' w' => Below w.heap.size w w' ∧ V (e' d) w') [o] e w) (sub (o.looksAt ops) E) e) :
    Ob P ops (IS w0 M L base) (RB base) o (gam e E) V := by
  intro e1 w hw hg
  obtain ⟨e', ⟨_, h1⟩, h2⟩ := AllE.inst (o.looksAt ops) hn hg (h w hw)
  have hops : ∀ x ∈ o.op.operands, e1.eval x = e'.eval x := fun x hx => by
    cases x with
    | tmp t => exact (h2 t (List.mem_append_left _ (List.mem_filterMap.2 ⟨.tmp t, by simpa using hx, rfl⟩))).symm
    | _ => rfl
  have hy : Region.wanted o (yieldedE ops e1) = Region.wanted o (yieldedE ops e') := by
    unfold Region.wanted
    cases hgd : o.guard with
    | none => rfl
    | some p =>
      obtain ⟨g, b⟩ := p
      simp only
      have : yieldedE ops e1 g = yieldedE ops e' g := by
        unfold yieldedE
        cases hb : (ops[g]?).bind (·.dst) with
        | none => rfl
        | some t =>
          simp only
          rw [h2 t (List.mem_append_right _ (by rw [hgd]; simp only; rw [hb]; simp))]
      rw [this]
  have hx : execOp e1.eval o = execOp e'.eval o := execOp_congr o (fun cs b hc => by rw [hc] at hs; cases hs) hops
  rw [hy]
  by_cases hwt : Region.wanted o (yieldedE ops e') = true
  · rw [if_pos hwt] at h1 ⊢
    unfold OpW at h1
    unfold RunsTo
    rw [hx]
    generalize (execOp e'.eval o).run P w = r at h1 ⊢
    have fin : ∀ v w', WpL P n ops (fun e' w' => Below w.heap.size w w' ∧ V (e' d) w') [] (e'.setD o.dst v) w' → IS w0 M L base w' ∧ RB base w w' ∧ V v w' := fun v w' h => by
      have h : Below w.heap.size w w' ∧ V (e'.setD o.dst v d) w' := h
      rw [hd] at h
      simp only [Env.setD, Env.set_same] at h
      exact ⟨hw.below h.1, .below h.1, h.2⟩
    cases r with
    | halt x w' => exact h1.elim
    | ok x w' =>
      cases x <;> simp only at h1 ⊢
      case value v => exact fin _ _ h1
      case skip => exact fin _ _ h1
      case enter f args => exact h1.mono fun x w'' ⟨v, hv, hx⟩ => ⟨v, hv, fin _ _ hx⟩
      case row row args => exact h1.mono fun v w'' hx => fin _ _ hx
  · rw [if_neg hwt] at h1 ⊢
    have h : Below w.heap.size w w ∧ V (e'.setD o.dst undef d) w := h1
    rw [hd] at h
    simp only [Env.setD, Env.set_same] at h
    exact h.2

variable {guard : Option (Nat × Bool)}
theorem RgS.known {o : Op} {d : Tmp} {c : Value} (hd : dOk n (some d) = true) (hs : notSelect o = true) (hk : (E.map (·.1)).contains d = false) (E' : Open) (hE : sub ((⟨some d, o, ty, pos, after, guard⟩ : Oper).looksAt ops) E = E')
    (h : ∀ w L, (L = LA ∨ ∃ x, L = LB x) → St w0 M w L → AllE w (fun e => WpL P n ops (fun e' w' => Below w.heap.size w w' ∧ e' d = c) [⟨some d, o, ty, pos, after, guard⟩] e w) E' e)
    (hr : RgS P n ops w0 M LA LB base t0 Fin rest (e.set d c) E) : RgS P n ops w0 M LA LB base t0 Fin (⟨some d, o, ty, pos, after, guard⟩ :: rest) e E := fun hn => by
  subst hE
  have hk : d ∉ E.map (·.1) := by simpa using hk
  refine ⟨fun v _ => v = c, hd, fun _ _ _ h _ => h, ?_, ?_⟩
  · unfold Ob2
    rw [if_neg (by simp)]
    exact ⟨one_obG rfl hs hn fun w hw => h w LA (.inl rfl) hw.2, fun x => one_obG rfl hs hn fun w hw => h w (LB x) (.inr ⟨x, rfl⟩) hw.2⟩
  have : setG (gam e E) (some d) (fun v _ => v = c) = gam (e.set d c) E := funext fun t => by
    unfold setG
    by_cases ht : t = d
    · subst ht; rw [if_pos rfl, gam_off hk, Env.set_same]
    · rw [if_neg (fun h => ht (by injection h with h; exact h.symm)), gam_set ht]
  simp only [this]
  exact hr hn
theorem RgS.spec {o : Op} {d : Tmp} (V : Spec) (hd : dOk n (some d) = true) (hs : notSelect o = true) (hk : (E.map (·.1)).contains d = false) (E' : Open) (hE : sub ((⟨some d, o, ty, pos, after, guard⟩ : Oper).looksAt ops) E = E')
    (hst : ∀ v w w', V v w → RB base w w' → V v w')
    (h : ∀ w L, (L = LA ∨ ∃ x, L = LB x) → base ≤ w.heap.size → St w0 M w L → AllE w (fun e => WpL P n ops (fun e' w' => Below w.heap.size w w' ∧ V (e' d) w') [⟨some d, o, ty, pos, after, guard⟩] e w) E' e)
    (hr : RgS P n ops w0 M LA LB base t0 Fin rest e (E ++ [(d, V)])) : RgS P n ops w0 M LA LB base t0 Fin (⟨some d, o, ty, pos, after, guard⟩ :: rest) e E := fun hn => by
  subst hE
  have hk : d ∉ E.map (·.1) := by simpa using hk
  refine ⟨V, hd, hst, ?_, ?_⟩
  · unfold Ob2
    rw [if_neg (by simp)]
    exact ⟨one_obG rfl hs hn fun w hw => h w LA (.inl rfl) hw.1 hw.2, fun x => one_obG rfl hs hn fun w hw => h w (LB x) (.inr ⟨x, rfl⟩) hw.1 hw.2⟩
  have : setG (gam e E) (some d) V = gam e (E ++ [(d, V)]) := funext fun t => by
    unfold setG
    rw [gam_last hk]
    by_cases ht : t = d
    · subst ht; rw [if_pos rfl, if_pos rfl]
    · rw [if_neg (fun h => ht (by injection h with h; exact h.symm)), if_neg ht]
  simp only [this]
  refine hr ?_
  simp only [List.map_append, List.map_cons, List.map_nil]
  exact List.nodup_append.2 ⟨hn, by simp, fun a ha b hb => by simp only [List.mem_singleton] at hb; subst hb; exact fun h => hk (h ▸ ha)⟩
theorem RgS.det {o : Op} {d : Tmp} {c : Value} (hd : dOk n (some d) = true) (hs : notSelect o = true) (hk : (E.map (·.1)).contains d = false) (hE : sub ((⟨some d, o, ty, pos, after, none⟩ : Oper).looksAt ops) E = [])
    (h : Det P (fun w => ∃ L, (L = LA ∨ ∃ x, L = LB x) ∧ St w0 M w L) o ty e c) (hr : RgS P n ops w0 M LA LB base t0 Fin rest (e.set d c) E) : RgS P n ops w0 M LA LB base t0 Fin (⟨some d, o, ty, pos, after, none⟩ :: rest) e E :=
  RgS.known hd hs hk [] hE (fun w L hL hw => WpL.det hd (fun _ _ _ _ w' hw' => by subst hw'; exact h _ _ _ _ _ ⟨L, hL, hw⟩) ⟨Below.refl _ _, Env.set_same _ _ _⟩) hr
theorem RgS.ld {t : TypeId} {d : Tmp} {x : Operand} {v : Value} [Cell1 P t] {a : Addr} (hd : dOk n (some d) = true) (hk : (E.map (·.1)).contains d = false) (hE : sub ((⟨some d, .load t x, ty, pos, after, none⟩ : Oper).looksAt ops) E = [])
    (hx : e.eval x = .pointer (some a)) (hA : Look LA a v) (hB : ∀ u, Look (LB u) a v) (hr : RgS P n ops w0 M LA LB base t0 Fin rest (e.set d v) E) : RgS P n ops w0 M LA LB base t0 Fin (⟨some d, .load t x, ty, pos, after, none⟩ :: rest) e E :=
  RgS.det hd rfl hk hE (Det.load1 hx fun _ ⟨L, hL, hw⟩ => hL.elim (fun h => by subst h; exact hA.cell hw) fun ⟨u, h⟩ => by subst h; exact (hB u).cell hw) hr
theorem RgS.call {o : Op} {d : Tmp} {c : Value} (hd : dOk n (some d) = true) (hs : notSelect o = true) (hk : (E.map (·.1)).contains d = false) (hE : sub ((⟨some d, o, ty, pos, after, guard⟩ : Oper).looksAt ops) E = [])
    (h : ∀ w L, (L = LA ∨ ∃ x, L = LB x) → St w0 M w L → WpL P n ops (fun e' w' => Below w.heap.size w w' ∧ e' d = c) [⟨some d, o, ty, pos, after, guard⟩] e w)
    (hr : RgS P n ops w0 M LA LB base t0 Fin rest (e.set d c) E) : RgS P n ops w0 M LA LB base t0 Fin (⟨some d, o, ty, pos, after, guard⟩ :: rest) e E := RgS.known hd hs hk [] hE h hr

theorem run_storeAt {t : TypeId} {a : Addr} {v : Value} {w : World} {x y : Operand} [hs : SizeT P t 1] {L L' : List Ch} (hx : e.eval x = .pointer (some a)) (hy : e.eval y = v) (hv : v.oneCell' = true) (hu : Upd L a v L') (hS : St w0 M w L) :
    (execOp e.eval ⟨none, .store t x y, ty, pos, after, none⟩).run P w = .ok .skip (w.setCell a v) ∧ St w0 M (w.setCell a v) L' := by
  have hcs : v.cells = #[v] := by cases v <;> simp_all [Value.oneCell', Value.cells]
  obtain ⟨⟨⟨u, h1⟩, h2, h3⟩, hS'⟩ := hu.run hv hS
  refine ⟨?_, hS'⟩
  have hst := run_store P w a v .plain hv
  rw [h1] at hst
  simp only [h2, Bool.false_eq_true, if_false] at hst
  simp [execOp, hx, hy, Instr.storeAt, Instr.sureAddr, storeVar, SizeT.run (P := P) (t := t) w, hcs, storeCells, add_zero, hst]
/-- The store, of what is known; or of what temporary t0 holds. -/
theorem RgS.st {t : TypeId} {a : Addr} {v : Value} {x y : Operand} [hs : SizeT P t 1] (hE : sub ((⟨none, .store t x y, ty, pos, after, none⟩ : Oper).looksAt ops) E = [])
    (hx : e.eval x = .pointer (some a)) (hy : e.eval y = v) (hv : v.oneCell' = true) (hu : ∀ u, Upd LA a v (LB u)) (hab : a.block < base)
    (hr : RgS P n ops w0 M LA LB base t0 Fin rest e E) : RgS P n ops w0 M LA LB base t0 Fin (⟨none, .store t x y, ty, pos, after, none⟩ :: rest) e E := fun hn => by
  refine ⟨fun _ _ => True, rfl, fun _ _ _ _ _ => trivial, ?_, ?_⟩
  · unfold Ob2
    rw [if_pos rfl]
    refine ⟨fun e1 w hw hg => ⟨rfl, ?_⟩, rfl⟩
    have hops : ∀ z ∈ (Op.store t x y).operands, e1.eval z = e.eval z := fun z hz => by
      cases z with
      | tmp u =>
        have hmem : u ∈ (⟨none, .store t x y, ty, pos, after, none⟩ : Oper).looksAt ops := List.mem_append_left _ (List.mem_filterMap.2 ⟨.tmp u, by simpa using hz, rfl⟩)
        have h1 := hg u hmem
        have h2 : u ∉ E.map (·.1) := fun h3 => by
          obtain ⟨⟨u', V⟩, h4, rfl⟩ := List.mem_map.1 h3
          have : (u', V) ∈ sub ((⟨none, .store t x y, ty, pos, after, none⟩ : Oper).looksAt ops) E := List.mem_filter.2 ⟨h4, by simpa using hmem⟩
          rw [hE] at this; cases this
        rw [gam_off h2] at h1
        exact h1
      | _ => rfl
    have hx' : execOp e1.eval ⟨none, .store t x y, ty, pos, after, none⟩ = execOp e.eval ⟨none, .store t x y, ty, pos, after, none⟩ := execOp_congr _ (fun cs b hc => by cases hc) hops
    have h5 := run_storeAt (P := P) (t := t) (ty := ty) (pos := pos) (after := after) hx hy hv (hu (e1 t0)) hw.2
    unfold RunsTo
    rw [hx', h5.1]
    have hgr := grown_setCell w a v
    exact ⟨⟨Nat.le_trans hw.1 hgr.size, h5.2⟩, hgr.size, fun k h6 h7 => hgr.block k h7 (by intro h8; injection h8 with h8; omega)⟩
  have : setG (gam e E) none (fun _ _ => True) = gam e E := funext fun u => by unfold setG; rw [if_neg (by simp)]
  simp only [this]
  exact hr hn
theorem RgS.stT {t : TypeId} {a : Addr} {V : Spec} {x : Operand} [hs : SizeT P t 1] (hE : sub ((⟨none, .store t x (.tmp t0), ty, pos, after, none⟩ : Oper).looksAt ops) E = [(t0, V)]) (hx : e.eval x = .pointer (some a)) (hx0 : x ≠ .tmp t0)
    (hV : ∀ u w, V u w → u.oneCell' = true) (hu : ∀ u, u.oneCell' = true → Upd LA a u (LB u)) (hab : a.block < base)
    (hr : RgS P n ops w0 M LA LB base t0 Fin rest e E) : RgS P n ops w0 M LA LB base t0 Fin (⟨none, .store t x (.tmp t0), ty, pos, after, none⟩ :: rest) e E := fun hn => by
  refine ⟨fun _ _ => True, rfl, fun _ _ _ _ _ => trivial, ?_, ?_⟩
  · unfold Ob2
    rw [if_pos rfl]
    refine ⟨fun e1 w hw hg => ⟨rfl, ?_⟩, rfl⟩
    have hm0 : t0 ∈ (⟨none, .store t x (.tmp t0), ty, pos, after, none⟩ : Oper).looksAt ops := List.mem_append_left _ (List.mem_filterMap.2 ⟨.tmp t0, by simp [Op.operands], rfl⟩)
    have hin : (t0, V) ∈ E := by
      have : (t0, V) ∈ sub ((⟨none, .store t x (.tmp t0), ty, pos, after, none⟩ : Oper).looksAt ops) E := by rw [hE]; exact List.mem_singleton.2 rfl
      exact (List.mem_filter.1 this).1
    have h0 : V (e1 t0) w := by
      have h1 := hg t0 hm0
      have h2 : ∀ (E : Open), (E.map (·.1)).Nodup → (t0, V) ∈ E → gam e E t0 = V := fun E => by
        induction E with
        | nil => intro _ h; cases h
        | cons p r ih =>
          intro hnd h
          obtain ⟨t', V'⟩ := p
          simp only [List.map_cons, List.nodup_cons] at hnd
          rcases List.mem_cons.1 h with h | h
          · injection h with h3 h4; subst h3 h4; simp [gam]
          · unfold gam
            rw [if_neg (fun h5 => hnd.1 (by rw [← h5]; exact List.mem_map.2 ⟨_, h, rfl⟩))]
            exact ih hnd.2 h
      rwa [h2 E hn hin] at h1
    have hxe : e1.eval x = e.eval x := by
      cases x with
      | tmp u =>
        have hmem : u ∈ (⟨none, .store t (.tmp u) (.tmp t0), ty, pos, after, none⟩ : Oper).looksAt ops := List.mem_append_left _ (List.mem_filterMap.2 ⟨.tmp u, by simp [Op.operands], rfl⟩)
        have h1 := hg u hmem
        have h2 : u ∉ E.map (·.1) := fun h3 => by
          obtain ⟨⟨u', V'⟩, h4, rfl⟩ := List.mem_map.1 h3
          have : (u', V') ∈ sub ((⟨none, .store t (.tmp u') (.tmp t0), ty, pos, after, none⟩ : Oper).looksAt ops) E := List.mem_filter.2 ⟨h4, by simpa using hmem⟩
          rw [hE] at this
          simp only [List.mem_singleton, Prod.mk.injEq] at this
          exact hx0 (by rw [this.1])
        rw [gam_off h2] at h1
        exact h1
      | _ => rfl
    have h5 := run_storeAt (P := P) (t := t) (x := x) (e := e1) (ty := ty) (pos := pos) (after := after) (y := .tmp t0) (hxe.trans hx) rfl (hV _ _ h0) (hu (e1 t0) (hV _ _ h0)) hw.2
    unfold RunsTo
    rw [show (execOp e1.eval ⟨none, .store t x (.tmp t0), ty, pos, after, none⟩).run P w = _ from h5.1]
    have hgr := grown_setCell w a (e1 t0)
    exact ⟨⟨Nat.le_trans hw.1 hgr.size, h5.2⟩, hgr.size, fun k h6 h7 => hgr.block k h7 (by intro h8; injection h8 with h8; omega)⟩
  have : setG (gam e E) none (fun _ _ => True) = gam e E := funext fun u => by unfold setG; rw [if_neg (by simp)]
  simp only [this]
  exact hr hn

/-- A new slice, each place the element's nought. -/
def NewRowB (base : Nat) (el : TypeId) (k : Nat) (z : Value) : Spec := fun x w' => ∃ g, x = .slice (some ⟨g, 0, none⟩) k k ∧ base ≤ g ∧ Blk w' g el (List.replicate k z).toArray
theorem RgS.mk {t el : TypeId} {d : Tmp} {x y : Operand} [ht : SliceT P t el] {bytes k : Nat} {z : Value} [he : Elem P el 1 bytes z] {kl kc : IntKind} {i j : Int} (hd : dOk n (some d) = true) (hk : (E.map (·.1)).contains d = false) (hE : sub ((⟨some d, .makeSlice t x y, ty, pos, after, none⟩ : Oper).looksAt ops) E = [])
    (hx : e.eval x = .int kl i) (hi : i = (k : Int)) (hy : e.eval y = .int kc j) (hj : j = (k : Int)) (hz : z.cells = #[z]) (hn : bytes * k ≤ 281474976710656) (hm : k ≤ 9223372036854775807)
    (hr : RgS P n ops w0 M LA LB base t0 Fin rest e (E ++ [(d, NewRowB base el k z)])) : RgS P n ops w0 M LA LB base t0 Fin (⟨some d, .makeSlice t x y, ty, pos, after, none⟩ :: rest) e E := by
  subst hi hj
  obtain ⟨i, hi, hzz, hsize, hby⟩ := he.get
  have hmade : madeCells #[z] k = (List.replicate k z).toArray := by
    apply Array.ext'
    refine List.ext_getElem (by simp [madeCells]) fun j h1 h2 => ?_
    have h3 : j % 1 = 0 := Nat.mod_one j
    simp [madeCells, h3]
  refine RgS.spec (NewRowB base el k z) hd rfl hk [] hE (fun x w w' ⟨g, h, h1, h2⟩ hR => ⟨g, h, h1, (hR.2 g h1 h2.lt).trans h2⟩) (fun w5 L hL hbase hw5 => ?_) hr
  have hr := _root_.Go.run_make_row (P := P) t el i z ht.hu hi hzz hsize hz kl kc k (by rw [hby]; omega) (by omega) w5
  have hb6 : Below w5.heap.size w5 (w5.alloc (.cells (madeCells #[z] k) el)) := (Below.refl _ _).alloc (Nat.le_refl _) _
  refine WpL.run (w' := w5.alloc (.cells (madeCells #[z] k) el)) hd (by simp only [execOp, hx, hy, Sem.run_bind, hr]; rfl) ?_
  exact ⟨hb6, _, Env.set_same _ _ _, hbase, by rw [← hmade]; exact heap_alloc_new w5 _⟩
end

section
variable {P : Program} {n : Nat} {l : List Oper} {w w0 : World} {M : Nat → Prop} {LA : List Ch} {LB : Value → List Ch} {Q : Exit → Env → World → Prop} {e : Env}
/-- THE RULE: the s-th of N operations stores. -/
theorem Wp.drawAB (N s t0 : Nat) {id : Nat} (hS : St w0 M w LA) (hm : P.follows .mixedOrders = true) (hok : rgOk l N = true) (hN : Nat.ble N l.length = true) (hsk : storeOk l N s t0 = true)
    (h : RgS P n l.toArray w0 M LA LB w.heap.size t0 (fun Γ => ∀ e' w', IS w0 M (LB (e' t0)) w.heap.size w' → (∀ t, Γ t (e' t) w') → WpL P n l.toArray (Q .normal) (l.drop N) e' w') (l.take N) e []) :
    Wp P n (.region id l.toArray true) Q e w :=
  Wp.drawS N s t0 (IS w0 M LA w.heap.size) (fun x => IS w0 M (LB x) w.heap.size) (RB w.heap.size) hm hok (Nat.le_of_ble_eq_true hN) (fun w => RB.refl w) ⟨Nat.le_refl _, hS.drew⟩ hsk (h (by simp))
theorem RgS.fin0 {ops ops' : Array Oper} {K : Env → World → Prop} {tail : List Oper} {base t0 : Nat}
    (h : ∀ w, St w0 M w (LB (e t0)) → WpL P n ops' K tail e w) :
    RgS P n ops w0 M LA LB base t0 (fun Γ => ∀ e' w', IS w0 M (LB (e' t0)) base w' → (∀ t, Γ t (e' t) w') → WpL P n ops' K tail e' w') [] e [] := by
  intro hn e' w' hB hg
  have he : e = e' := funext fun t => (hg t).symm
  subst he
  exact h w' hB.2
theorem St.feet_lt {L : List Ch} (hS : St w0 M w L) : ∀ c ∈ L, ∀ g, c.foot = some g → g < w.heap.size := fun c hc g hg => (hS.hold c hc).1.lt hg
theorem RgS.finMk2 {ops ops' : Array Oper} {K : Env → World → Prop} {tail : List Oper} {base t0 k1 k2 : Nat} {el : TypeId} {z : Value} {t2 : Tmp} (hb : w0.heap.size ≤ base) (hLB : ∀ x, ∀ c ∈ LB x, ∀ g, c.foot = some g → g < base) (ht : t0 ≠ t2) (hne : k1 ≠ k2) (h1 : k1 ≤ maxLen) (h2 : k2 ≤ maxLen)
    (h : ∀ w' A1 A2, IsVw A1 k1 k1 A1 0 → IsVw A2 k2 k2 A2 0 → St w0 M w' (.own A1 k1 k1 el 1 (List.replicate k1 z) :: .own A2 k2 k2 el 1 (List.replicate k2 z) :: LB (.slice A1 k1 k1)) → WpL P n ops' K tail ((e.set t0 (.slice A1 k1 k1)).set t2 (.slice A2 k2 k2)) w') :
    RgS P n ops w0 M LA LB base t0 (fun Γ => ∀ e' w', IS w0 M (LB (e' t0)) base w' → (∀ t, Γ t (e' t) w') → WpL P n ops' K tail e' w') [] e [(t0, NewRowB base el k1 z), (t2, NewRowB base el k2 z)] := by
  intro hn e' w' hB hg
  obtain ⟨g1, hx1, hg1, hB1⟩ : NewRowB base el k1 z (e' t0) w' := by have := hg t0; simpa [gam] using this
  obtain ⟨g2, hx2, hg2, hB2⟩ : NewRowB base el k2 z (e' t2) w' := by have := hg t2; simpa [gam, ht.symm] using this
  have hrest : ∀ t, t ≠ t0 → t ≠ t2 → e' t = e t := fun t h3 h4 => by have := hg t; simpa [gam, h3, h4] using this
  have hgg : g1 ≠ g2 := fun e => by
    subst e
    have h5 : some (Obj.cells (List.replicate k1 z).toArray el (0, 0)) = some (Obj.cells (List.replicate k2 z).toArray el (0, 0)) := hB1.symm.trans hB2
    have h6 := congrArg List.length (congrArg Array.toList (Obj.cells.inj (Option.some.inj h5)).1)
    simp at h6
    exact hne h6
  have he : e' = (e.set t0 (.slice (some ⟨g1, 0, none⟩) k1 k1)).set t2 (.slice (some ⟨g2, 0, none⟩) k2 k2) := funext fun t => by
    by_cases h3 : t = t2
    · subst h3; rw [Env.set_same]; exact hx2
    · rw [Env.set_other _ _ h3]
      by_cases h4 : t = t0
      · subst h4; rw [Env.set_same]; exact hx1
      · rw [Env.set_other _ _ h4]; exact hrest t h4 h3
  rw [hx1] at hB
  rw [he]
  have hB' := hB.2
  refine h w' _ _ (IsVw.base (Nat.le_refl _) h1 (by simp)) (IsVw.base (Nat.le_refl _) h2 (by simp)) ⟨hB'.chg, fun c hc => ?_, ?_⟩
  · rcases List.mem_cons.1 hc with rfl | hc
    · exact ⟨⟨by simp, .inr ⟨g1, k1, _, rfl, Nat.zero_le _, hB1, Nat.le_refl _, h1, by simp, by simp⟩⟩, fun g hg => .inl (by simp [Ch.foot] at hg; omega)⟩
    rcases List.mem_cons.1 hc with rfl | hc
    · exact ⟨⟨by simp, .inr ⟨g2, k2, _, rfl, Nat.zero_le _, hB2, Nat.le_refl _, h2, by simp, by simp⟩⟩, fun g hg => .inl (by simp [Ch.foot] at hg; omega)⟩
    · exact hB'.hold c hc
  · refine List.pairwise_cons.2 ⟨fun c hc g hg hg' => ?_, List.pairwise_cons.2 ⟨fun c hc g hg hg' => ?_, hB'.apart⟩⟩
    · simp [Ch.foot] at hg
      rcases List.mem_cons.1 hc with rfl | hc
      · simp [Ch.foot] at hg'; omega
      · have := hLB _ c hc g hg'; omega
    · simp [Ch.foot] at hg
      have := hLB _ c hc g hg'; omega
end
end Go.Fk

namespace Go.Fk
open Go.RowKit
section
variable {P : Program} {n : Nat} {ops : Array Oper} {I : World → Prop} {Fin : (Tmp → Spec) → Prop} {rest : List Oper} {e : Env} {ty : TypeId} {pos : String} {after : Array Edge} {guard : Option (Nat × Bool)}
def RgF (P : Program) (n : Nat) (ops : Array Oper) (I : World → Prop) (Fin : (Tmp → Spec) → Prop) (l : List Oper) (e : Env) : Prop := RgL P n ops I (fun _ _ => True) Fin l (fun t v _ => v = e t)
theorem RgF.op {o : Op} {d : Tmp} {c : Value} (hd : dOk n (some d) = true) (hs : notSelect o = true)
    (h : ∀ w, I w → WpL P n ops (fun e' w' => I w' ∧ e' d = c) [⟨some d, o, ty, pos, after, guard⟩] e w)
    (hr : RgF P n ops I Fin rest (e.set d c)) : RgF P n ops I Fin (⟨some d, o, ty, pos, after, guard⟩ :: rest) e := by
  refine ⟨fun v _ => v = c, hd, fun _ _ _ h _ _ _ => h, fun e1 w hw hg => ?_, ?_⟩
  · obtain ⟨_, h1⟩ := h w hw
    have hops : ∀ x ∈ o.operands, e1.eval x = e.eval x := fun x hx => by
      cases x with
      | tmp t => exact hg t (List.mem_append_left _ (List.mem_filterMap.2 ⟨.tmp t, by simpa using hx, rfl⟩))
      | _ => rfl
    have hy : Region.wanted ⟨some d, o, ty, pos, after, guard⟩ (yieldedE ops e1) = Region.wanted ⟨some d, o, ty, pos, after, guard⟩ (yieldedE ops e) := by
      unfold Region.wanted
      cases hgd : guard with
      | none => rfl
      | some p =>
        obtain ⟨g, b⟩ := p
        simp only
        have : yieldedE ops e1 g = yieldedE ops e g := by
          unfold yieldedE
          cases hb : (ops[g]?).bind (·.dst) with
          | none => rfl
          | some t =>
            simp only
            rw [hg t (List.mem_append_right _ (by rw [hgd]; simp only; rw [hb]; simp))]
        rw [this]
    have hx : execOp e1.eval ⟨some d, o, ty, pos, after, guard⟩ = execOp e.eval ⟨some d, o, ty, pos, after, guard⟩ := execOp_congr _ (fun cs b hc => by simp only at hc; rw [hc] at hs; cases hs) hops
    rw [hy]
    have fin : ∀ v w', WpL P n ops (fun e' w' => I w' ∧ e' d = c) [] (e.setD (some d) v) w' → I w' ∧ True ∧ v = c := fun v w' h => by
      have h : I w' ∧ (e.setD (some d) v) d = c := h
      simp only [Env.setD, Env.set_same] at h
      exact ⟨h.1, trivial, h.2⟩
    by_cases hwt : Region.wanted ⟨some d, o, ty, pos, after, guard⟩ (yieldedE ops e) = true
    · rw [if_pos hwt] at h1 ⊢
      unfold OpW at h1
      unfold RunsTo
      rw [hx]
      generalize (execOp e.eval ⟨some d, o, ty, pos, after, guard⟩).run P w = r at h1 ⊢
      cases r with
      | halt x w' => exact h1.elim
      | ok x w' =>
        cases x <;> simp only at h1 ⊢
        case value v => exact fin _ _ h1
        case skip => exact fin _ _ h1
        case enter f args => exact h1.mono fun x w'' ⟨v, hv, hx⟩ => ⟨v, hv, fin _ _ hx⟩
        case row row args => exact h1.mono fun v w'' hx => fin _ _ hx
    · rw [if_neg hwt] at h1 ⊢
      exact (fin _ _ h1).2.2
  · have : setG (fun t v _ => v = e t) (some d) (fun v _ => v = c) = fun t v (_ : World) => v = (e.set d c) t := funext fun t => by
      unfold setG
      by_cases ht : t = d
      · subst ht; rw [if_pos rfl, Env.set_same]
      · rw [if_neg (fun h => ht (by injection h with h; exact h.symm)), Env.set_other _ _ ht]
    simp only [this]
    exact hr
theorem RgF.det {o : Op} {d : Tmp} {c : Value} (hd : dOk n (some d) = true) (hs : notSelect o = true)
    (h : Det P I o ty e c) (hr : RgF P n ops I Fin rest (e.set d c)) : RgF P n ops I Fin (⟨some d, o, ty, pos, after, none⟩ :: rest) e :=
  RgF.op hd hs (fun w hw => WpL.det hd (fun _ _ _ _ w' hw' => by subst hw'; exact h _ _ _ _ _ hw) ⟨hw, Env.set_same _ _ _⟩) hr
theorem RgF.ld {t : TypeId} {d : Tmp} {x : Operand} {v : Value} [Cell1 P t] {a : Addr} (hI : ∀ w, I w → w.cell? a = some v) (hd : dOk n (some d) = true)
    (hx : e.eval x = .pointer (some a)) (hr : RgF P n ops I Fin rest (e.set d v)) : RgF P n ops I Fin (⟨some d, .load t x, ty, pos, after, none⟩ :: rest) e :=
  RgF.det hd rfl (Det.load1 hx fun w hw => hI w hw) hr
/-- THE RULE, in this form. -/
theorem Wp.drawF {l : List Oper} {id : Nat} {Q : Exit → Env → World → Prop} {w : World} (N : Nat) (I : World → Prop) (hI : I w.drew) (hm : P.follows .mixedOrders = true) (hok : rgOk l N = true) (hN : Nat.ble N l.length = true)
    (h : RgF P n l.toArray I (fun Γ => ∀ e' w', I w' → (∀ t, Γ t (e' t) w') → WpL P n l.toArray (Q .normal) (l.drop N) e' w') (l.take N) e) :
    Wp P n (.region id l.toArray true) Q e w := Wp.draw N I (fun _ _ => True) hm hok (Nat.le_of_ble_eq_true hN) (fun _ => trivial) hI h
theorem RgF.fin {ops' : Array Oper} {K : Env → World → Prop} {tail : List Oper}
    (h : ∀ w, I w → WpL P n ops' K tail e w) : RgF P n ops I (fun Γ => ∀ e' w', I w' → (∀ t, Γ t (e' t) w') → WpL P n ops' K tail e' w') [] e := by
  intro e' w' hi hg
  have : e' = e := funext fun t => hg t
  subst this
  exact h w' hi
end
end Go.Fk

namespace Go.Fk
open Go.RowKit
theorem semAt_or {ro : Option Nat} (ρ : Operand → Value) (o : Oper) : Oper.semAt (frn ro).round ρ o = execOp ρ o ∨ ∃ c, o.op = .defer c := by
  by_cases hdf : ∃ c, o.op = .defer c
  · exact .inr hdf
  · exact .inl (Oper.semAt_eq _ _ _ fun c hc => hdf ⟨c, hc⟩)
theorem run_defer {P : Program} {w : World} (ρ : Operand → Value) (o : Oper) (c : Call) (hc : o.op = .defer c) : (∃ x w', (execOp ρ o).run P w = .halt x w') ∨ ∃ d w', (execOp ρ o).run P w = .ok (.defer d) w' := by
  have : execOp ρ o = (do pure (.defer (← resolve ρ c o.type))) := by unfold execOp; rw [hc]
  rw [this, Sem.run_bind]
  cases hr : (resolve ρ c o.type).run P w with
  | halt x w' => exact .inl ⟨_, _, rfl⟩
  | ok x w' => exact .inr ⟨_, _, rfl⟩
/-- An operation, or a call of yield. -/
def OpY (P : Program) (o : Oper) (e : Env) (w : World) (next : Env → World → Prop) : Prop :=
  OpW P o e w next ∨ ∃ r fn tmps assign body, (execOp e.eval o).run P w = .ok (.round r fn tmps assign body) w ∧ RoundIn Fence.wide 0 P r fn tmps assign body w fun x w' => ∃ v, x = .returned v ∧ next (e.setD o.dst v) w'
def WpY (P : Program) (n : Nat) (ops : Array Oper) (K : Env → World → Prop) : List Oper → Env → World → Prop
  | [], e, w => K e w
  | o :: rest, e, w => dOk n o.dst = true ∧
    if Region.wanted o (yieldedE ops e) then OpY P o e w (WpY P n ops K rest) else WpY P n ops K rest (e.setD o.dst undef) w
section
variable {P : Program} {n : Nat} {ds : List Deferred} {ro : Option Nat} {ops : Array Oper} {K : Env → World → Prop}
theorem OpY.wpIn {o : Oper} {e : Env} {w : World} {next : Env → World → Prop} {a : Act} {K : Act → World → Prop} {Q : Exit → Act → World → Prop}
    (h : OpY P o e w next) (ha : RepD ds n a e) (hd : dOk n o.dst = true) (hk : ∀ a e w, RepD ds n a e → next e w → K a w) : o.wpIn (frn ro) 0 P a w K Q := by
  rcases h with h | ⟨r, fn, tmps, assign, body, hr, hR⟩
  · exact h.wpIn ha hd hk
  · refine ⟨fun _ _ => trivial, ?_⟩
    rw [ha.eval]
    rcases semAt_or (ro := ro) e.eval o with hsem | ⟨c, hc⟩
    · rw [hsem, hr]
      refine ⟨fun h => (by cases h), RoundIn.mono (F := Fence.wide) hR fun x w' hx => ?_⟩
      obtain ⟨v, rfl, hx⟩ := hx
      exact hk _ _ _ (ha.put hd v) hx
    · exfalso
      rcases run_defer (P := P) (w := w) e.eval o c hc with ⟨x, w', h⟩ | ⟨d, w', h⟩
      · rw [hr] at h; cases h
      · rw [hr] at h; cases h
theorem WpL.toY : ∀ {l : List Oper} {e : Env} {w : World}, WpL P n ops K l e w → WpY P n ops K l e w
  | [], _, _, h => h
  | o :: rest, e, w, ⟨hd, h⟩ => by
    refine ⟨hd, ?_⟩
    by_cases hw : Region.wanted o (yieldedE ops e) = true
    · rw [if_pos hw] at h ⊢
      exact .inl (h.mono fun e w h => WpL.toY h)
    · rw [if_neg hw] at h ⊢
      exact WpL.toY h
theorem WpY.split {post : List Oper} : ∀ {l : List Oper} {e : Env} {w : World}, WpL P n ops (WpY P n ops K post) l e w → WpY P n ops K (l ++ post) e w
  | [], _, _, h => h
  | o :: rest, e, w, ⟨hd, h⟩ => by
    refine ⟨hd, ?_⟩
    by_cases hw : Region.wanted o (yieldedE ops e) = true
    · rw [if_pos hw] at h ⊢
      exact .inl (h.mono fun e w h => WpY.split h)
    · rw [if_neg hw] at h ⊢
      exact WpY.split h
theorem WpY.pass {o : Oper} {rest : List Oper} {e : Env} {w : World} (hd : dOk n o.dst = true) (hw : Region.wanted o (yieldedE ops e) = false) (h : WpY P n ops K rest (e.setD o.dst undef) w) : WpY P n ops K (o :: rest) e w :=
  ⟨hd, by rw [if_neg (by rw [hw]; decide)]; exact h⟩
theorem WpY.yield {rest : List Oper} {e : Env} {w : World} {d : Tmp} {u : Operand} {xs : List Operand} {argTypes : Array TypeId} {ty : TypeId} {pos : String} {after : Array Edge} {gd : Option (Nat × Bool)} {r : Nat} {vs : List Value}
    (hd : dOk n (some d) = true) (hw : Region.wanted ⟨some d, .call { callee := .value u, args := xs.toArray, argTypes }, ty, pos, after, gd⟩ (yieldedE ops e) = true) (hu : e.eval u = .func (.yield r) #[] #[]) (hv : Vals e xs vs)
    (h : YieldAt Fence.wide 0 P r vs.toArray w fun x w' => ∃ v, x = .returned v ∧ WpY P n ops K rest (e.set d v) w') : WpY P n ops K (⟨some d, .call { callee := .value u, args := xs.toArray, argTypes }, ty, pos, after, gd⟩ :: rest) e w := by
  refine ⟨hd, ?_⟩
  rw [if_pos hw]
  obtain ⟨fn, tmps, assign, body, hy, hR⟩ := h
  exact .inr ⟨r, fn, tmps, assign, body, by simp [execOp, resolve, Deferred.ofValue, invoke, hu, List.map_toArray, hv.map, hy], hR⟩
theorem WpY.wpListIn {Q : Exit → Act → World → Prop} (hq : ∀ a e w, RepD ds n a e → K e w → Q .normal a w) :
    ∀ (l : List Oper) (e : Env) (w : World) (a : Act), RepD ds n a e → WpY P n ops K l e w → Go.wpListIn (frn ro) 0 P ops Q l a w
  | [], e, w, a, ha, h => hq a e w ha h
  | o :: rest, e, w, a, ha, h => by
    obtain ⟨hd, h⟩ := h
    unfold Go.wpListIn
    rw [ha.yielded]
    by_cases hw : Region.wanted o (yieldedE ops e) = true
    · rw [if_pos hw] at h ⊢
      exact h.wpIn ha hd fun a e w ha h => WpY.wpListIn hq rest e w a ha h
    · rw [if_neg hw] at h ⊢
      exact ⟨fun _ _ => trivial, WpY.wpListIn hq rest _ _ _ (ha.put hd _) h⟩
theorem WpG.regionY {Q : PostD} {e : Env} {w : World} {l : List Oper} {id : Nat} (h : WpY P n l.toArray (Q .normal ds) l e w) : WpG ro P n ds (.region id l.toArray false) Q e w := fun a ha =>
  wpIn_region_lit (WpY.wpListIn (fun a e w ha hk => ⟨ds, e, ha, hk⟩) l e w a ha h)
theorem wpAnyIn_done {l : List Oper} {listed : Array Bool} {a : Act} {w : World} {Q : Exit → Act → World → Prop} (hr : Region.ready .any l.toArray listed = []) (h : Q .normal a w) : ∀ fuel, Go.wpAnyIn (frn ro) 0 P .any l.toArray Q fuel listed a w
  | 0 => ⟨hr, h⟩
  | _ + 1 => ⟨fun _ => h, fun i hi => by rw [hr] at hi; cases hi⟩
end
section
variable {P : Program} {n : Nat} {l : List Oper} {I : World → Prop} {St : World → World → Prop}
theorem Ob.wpOpIn {ro : Option Nat} {ds : List Deferred} {ops : Array Oper} {o : Oper} {Γ : Tmp → Spec} {V : Spec} (h : Ob P ops I St o Γ V) {a : Act} {e : Env} {w : World} (ha : RepD ds n a e) (hd : dOk n o.dst = true) {i : Nat} (ho : ops[i]? = some o)
    (hI : I w) (hΓ : ∀ t ∈ o.looksAt ops, Γ t (e t) w) (hSt : St w w) {K : Act → World → Prop} {Q : Exit → Act → World → Prop}
    (hk : ∀ v a' w', RepD ds n a' (e.setD o.dst v) → I w' → St w w' → V v w' → K a' w')   : Go.wpOpIn (frn ro) 0 P ops Q i K a w := by
  have h1 := h e w hI hΓ
  unfold Go.wpOpIn
  simp only [ho]
  rw [ha.yielded]
  by_cases hw : Region.wanted o (yieldedE ops e) = true
  · rw [if_pos hw] at h1 ⊢
    refine ⟨fun _ _ => trivial, ?_⟩
    unfold RunsTo at h1
    rw [ha.eval]
    rcases semAt_or (ro := ro) e.eval o with hsem | ⟨c, hc⟩
    · rw [hsem]
      generalize (execOp e.eval o).run P w = r at h1 ⊢
      cases r with
      | halt x w' => exact h1.elim
      | ok x w' =>
        cases x <;> simp only at h1 <;> simp only [Oper.uponIn]
        case value v => exact hk _ _ _ (ha.put hd v) h1.1 h1.2.1 h1.2.2
        case skip => exact hk _ _ _ (ha.put hd _) h1.1 h1.2.1 h1.2.2
        case enter f args =>
          refine ⟨fun h => (by cases h), (Calls.toIn h1).mono fun x w'' hx => ?_⟩
          obtain ⟨v, rfl, hx⟩ := hx
          exact hk _ _ _ (ha.put hd v) hx.1 hx.2.1 hx.2.2
        case row row args => exact ⟨fun h => (by cases h), Rows.toIn (h1.mono fun v w'' hx => hk _ _ _ (ha.put hd v) hx.1 hx.2.1 hx.2.2)⟩
    · exfalso
      rcases run_defer (P := P) (w := w) e.eval o c hc with ⟨x, w', hr⟩ | ⟨d, w', hr⟩
      · rw [hr] at h1; exact h1
      · rw [hr] at h1; exact h1
  · rw [if_neg hw] at h1 ⊢
    exact ⟨fun _ _ => trivial, hk _ _ _ (ha.put hd _) hI hSt h1⟩

/-- The tail, whose order is forced. -/
theorem tail_soundY {ro : Option Nat} {ds : List Deferred} {N : Nat} (hok : RgOk l N) {K : Env → World → Prop} {Q : Exit → Act → World → Prop} (hq : ∀ a e w, RepD ds n a e → K e w → Q .normal a w) :
    ∀ (r : List Oper) (k : Nat) (listed : Array Bool) (a : Act) (e : Env) (w : World), N ≤ k → listed.size = l.length → k + r.length = l.length → (∀ j, r[j]? = l[k + j]?) →
      (∀ i, i < l.length → listed.getD i true = decide (i < k)) → RepD ds n a e → WpY P n l.toArray K r e w → ∀ fuel, r.length ≤ fuel → Go.wpAnyIn (frn ro) 0 P .any l.toArray Q fuel listed a w
  | [], k, listed, a, e, w, hNk, hsz, hk, _, hl, ha, h, fuel, _ => by
    have hall : ∀ i, i < l.length → listed.getD i true = true := fun i hi => by rw [hl i hi]; simp at hk; simp; omega
    exact wpAnyIn_done (ready_nil_of_all hall) (hq a e w ha h) fuel
  | o :: r, k, listed, a, e, w, hNk, hsz, hk, hr, hl, ha, h, 0, hf => by simp at hf
  | o :: r, k, listed, a, e, w, hNk, hsz, hk, hr, hl, ha, h, fuel + 1, hf => by
    have ho : l[k]? = some o := by simpa using (hr 0).symm
    have hkl : k < l.length := (List.getElem?_eq_some_iff.1 ho).1
    refine ⟨fun h0 => ?_, fun i hi => ?_⟩
    · have := all_of_ready_nil hok h0 k hkl
      rw [hl k hkl] at this
      simp at this
    · obtain ⟨hun, o', ho', hpre⟩ := mem_ready.1 hi
      have hil : i < l.length := by have := (Array.getElem?_eq_some_iff.1 ho').1; simpa using this
      have ho'' : l[i]? = some o' := by simpa using ho'
      have hki : k ≤ i := by
        rw [hl i hil] at hun
        simpa using hun
      have hik : i = k := by
        rcases Nat.lt_or_ge k i with hlt | hge
        · exfalso
          have hdown : ∀ m om ed, l[m]? = some om → ed ∈ om.after.toList → Region.binds .any ed = true → (m < k → ed.on < k) := fun m om ed hm he hb hmk => by
            have := hok.back m om ed hm he hb; omega
          have hb := hok.tail i k hil (by omega) hlt
          have := hb (fun m => m < k) hdown fun om ed hm he hb' => by
            rw [ho''] at hm; injection hm with hm; subst hm
            have h1 := getD_false_true (hpre ed (by simpa using he) hb')
            have h2 := hok.back i o' ed ho'' he hb'
            rw [hl ed.on (by omega)] at h1
            simpa using h1
          omega
        · omega
      subst hik
      rw [ho] at ho''; injection ho'' with ho''; subst ho''
      obtain ⟨hd, h⟩ := h
      have hl' : ∀ j, j < l.length → (listed.setIfInBounds i true).getD j true = decide (j < i + 1) := fun j hj => by
        by_cases hji : j = i
        · subst hji; rw [getD_set_same]; simp
        · rw [getD_set_ne true (Ne.symm hji), hl j hj]
          have : j < i ↔ j < i + 1 := by omega
          simp [this]
      have ih : ∀ a' e' w', RepD ds n a' e' → WpY P n l.toArray K r e' w' → Go.wpAnyIn (frn ro) 0 P .any l.toArray Q fuel (listed.setIfInBounds i true) a' w' := fun a' e' w' ha' h' =>
        tail_soundY hok hq r (i + 1) _ a' e' w' (by omega) (by simp [hsz]) (by simp at hk; omega) (fun j => by have := hr (j + 1); simpa [Nat.add_assoc, Nat.add_comm 1 j] using this) hl' ha' h' fuel (by simp at hf; omega)
      unfold Go.wpOpIn
      simp only [ho']
      rw [ha.yielded]
      by_cases hw : Region.wanted o (yieldedE l.toArray e) = true
      · rw [if_pos hw] at h ⊢
        exact h.wpIn ha hd fun a' e' w' ha' h' => ih a' e' w' ha' h' 
      · rw [if_neg hw] at h ⊢
        exact ⟨fun _ _ => trivial, ih _ _ _ (ha.put hd _) h⟩

/-- The head, in whatever order it comes. -/
theorem head_soundY {ro : Option Nat} {ds : List Deferred} {N : Nat} (hok : RgOk l N) (hN : N ≤ l.length) {Vs : List Spec} {Γ0 : Tmp → Spec} (hlen : Vs.length = N) (hSt : ∀ w, St w w)
    (hst : ∀ (i : Nat) (V : Spec) v w w', Vs[i]? = some V → V v w → I w → I w' → St w w' → V v w') (h0 : ∀ t v w w', Γ0 t v w → I w → I w' → St w w' → Γ0 t v w')
    (hops : ∀ i o, i < N → l[i]? = some o → ∃ V, Vs[i]? = some V ∧ dOk n o.dst = true ∧ Ob P l.toArray I St o (ctx l Vs Γ0 i) V)
    {K : Env → World → Prop} {Q : Exit → Act → World → Prop} (hq : ∀ a e w, RepD ds n a e → K e w → Q .normal a w)
    (hfin : ∀ e w, I w → (∀ t, ctx l Vs Γ0 N t (e t) w) → WpY P n l.toArray K (l.drop N) e w) :
    ∀ (fuel : Nat) (listed : Array Bool) (a : Act) (e : Env) (w : World), RepD ds n a e → Mid l N Vs Γ0 I listed e w → left l.length listed ≤ fuel → Go.wpAnyIn (frn ro) 0 P .any l.toArray Q fuel listed a w := by
  intro fuel
  -- where the head has come up whole the tail follows
  have hswitch : ∀ (fuel : Nat) (listed : Array Bool) (a : Act) (e : Env) (w : World), RepD ds n a e → Mid l N Vs Γ0 I listed e w → left l.length listed ≤ fuel →
      (∀ i, i < N → listed.getD i true = true) → Go.wpAnyIn (frn ro) 0 P .any l.toArray Q fuel listed a w := fun fuel listed a e w ha hm hf hall => by
    have hl : ∀ i, i < l.length → listed.getD i true = decide (i < N) := fun i hi => by
      by_cases h : i < N
      · rw [hall i h]; simp [h]
      · rw [hm.head i (by omega) hi]; simp [h]
    refine tail_soundY hok hq (l.drop N) N listed a e w (Nat.le_refl _) hm.size (by simp; omega) (fun j => by rw [List.getElem?_drop]) hl ha (hfin e w hm.inv (hm.full hlen hN hall)) fuel ?_
    refine Nat.le_trans ?_ hf
    unfold left
    have : (List.range l.length).filter (fun i => !listed.getD i true) = (List.range l.length).filter (fun i => decide (N ≤ i)) := by
      refine List.filter_congr fun i hi => ?_
      rw [hl i (by simpa using hi)]
      by_cases h : i < N
      · simp [h]
      · simp [h]; omega
    rw [this]
    have hr : List.range l.length = List.range N ++ (List.range (l.length - N)).map (N + ·) := by
      rw [← List.range_add]; congr 1; omega
    rw [hr, List.filter_append]
    have e1 : ((List.range (l.length - N)).map (N + ·)).filter (fun i => decide (N ≤ i)) = (List.range (l.length - N)).map (N + ·) := by
      rw [List.filter_eq_self]
      intro x hx
      obtain ⟨y, _, rfl⟩ := List.mem_map.1 hx
      simp
    rw [List.length_append, e1]
    simp
  induction fuel with
  | zero =>
    intro listed a e w ha hm hf
    have hall := left_zero (Nat.le_zero.1 hf)
    exact hswitch 0 listed a e w ha hm hf fun i hi => hall i (by omega)
  | succ fuel ih =>
    intro listed a e w ha hm hf
    by_cases hall : ∀ i, i < N → listed.getD i true = true
    · exact hswitch _ listed a e w ha hm hf hall
    · refine ⟨fun h0 => absurd (fun i hi => all_of_ready_nil hok h0 i (by omega)) hall, fun i hi => ?_⟩
      obtain ⟨hun, o, ho', hpre0⟩ := mem_ready.1 hi
      have hil : i < l.length := by have := (Array.getElem?_eq_some_iff.1 ho').1; simpa using this
      have ho : l[i]? = some o := by simpa using ho'
      have hpre : ∀ ed ∈ o.after.toList, Region.binds .any ed = true → listed.getD ed.on true = true := fun ed he hb => getD_false_true (hpre0 ed (by simpa using he) hb)
      have hiN : i < N := by
        rcases Nat.lt_or_ge i N with h | h
        · exact h
        · exfalso
          refine hall fun j hj => ?_
          exact hok.tail i j hil h (by omega) _ hm.down fun o' ed h1 h2 h3 => by rw [ho] at h1; injection h1 with h1; subst h1; exact hpre ed h2 h3
      obtain ⟨V, hVi, hd, hob⟩ := hops i o hiN ho
      refine hob.wpOpIn ha hd ho' hm.inv (hm.looks hok hlen hN ho hun hiN hpre) (hSt w) fun v a' w' ha' hI' hS' hV' => ?_
      refine ih _ a' _ w' ha' (hm.step hok hst h0 ho hun hiN hpre hI' hS' fun V' hV'' => by rw [hVi] at hV''; injection hV'' with hV''; subst hV''; exact hV') ?_
      have := left_set hil hun
      omega

/-- THE RULE. -/
theorem WpG.drawY {ro : Option Nat} {ds : List Deferred} {id : Nat} {Q : PostD} {e : Env} {w : World} (N : Nat) (I : World → Prop) (St : World → World → Prop) (hm : P.follows .mixedOrders = true)
    (hok : rgOk l N = true) (hN : N ≤ l.length) (hSt : ∀ w, St w w) (hI : I w.drew)
    (h : RgL P n l.toArray I St (fun Γ => ∀ e' w', I w' → (∀ t, Γ t (e' t) w') → WpY P n l.toArray (Q .normal ds) (l.drop N) e' w') (l.take N) (fun t v _ => v = e t)) :
    WpG ro P n ds (.region id l.toArray true) Q e w := fun a ha => by
  have hok := rgOk_spec hok
  have hlt : (l.take N).length = N := by simp; omega
  have h' : RgL P n l.toArray I St (fun Γ => ∀ e' w', I w' → (∀ t, Γ t (e' t) w') → WpY P n l.toArray (Q .normal ds) (l.drop N) e' w') (l.take N) (ctx (l.take N) [] (fun t v _ => v = e t) 0) := h
  obtain ⟨Vs, h1, _, h3, h4⟩ := RgL.specs (l := l.take N) (Γ0 := fun t v _ => v = e t) (l.take N) 0 [] rfl (fun j => by simp) h'
  simp only [Nat.zero_add] at h1 h3 h4
  rw [hlt] at h1 h3
  have hctx : ∀ i, i ≤ N → ctx (l.take N) Vs (fun t v _ => v = e t) i = ctx l Vs (fun t v _ => v = e t) i := fun i => by
    induction i with
    | zero => intro _; rfl
    | succ i ih =>
      intro hi
      simp only [ctx]
      rw [ih (by omega), List.getElem?_take, if_pos (by omega)]
  rw [hctx N (Nat.le_refl _)] at h3
  refine wpIn_region_any hm (head_soundY (St := St) (I := I) hok hN h1 hSt (fun i V v w w' hV => ?_) (fun t v w w' h _ _ _ => h) (fun i o hi ho => ?_) (fun a e w ha hk => ⟨ds, e, ha, hk⟩) h3 _ _ a e _ ha
    ⟨by simp, hI, fun k o ed hk he hb hl => ?_, fun i h1 h2 => ?_, fun j o d hj _ hl => ?_, fun t _ => rfl⟩ ?_)
  · have hi : i < N := by have := (List.getElem?_eq_some_iff.1 hV).1; omega
    obtain ⟨V', hV', _, hs, _⟩ := h4 i (l[i]'(by omega)) (Nat.zero_le _) (by simp; omega) (by rw [List.getElem?_take, if_pos hi]; exact List.getElem?_eq_getElem (by omega))
    rw [hV] at hV'; injection hV' with hV'; subst hV'
    exact hs v w w'
  · obtain ⟨V, h5, h6, _, h8⟩ := h4 i o (Nat.zero_le _) (by simp; have := (List.getElem?_eq_some_iff.1 ho).1; omega) (by rw [List.getElem?_take, if_pos hi]; exact ho)
    rw [hctx i (by omega)] at h8
    exact ⟨V, h5, h6, h8⟩
  · exfalso
    have hkl : k < l.length := (List.getElem?_eq_some_iff.1 hk).1
    simp [Array.getD_eq_getD_getElem?, hkl] at hl
  · simp [Array.getD_eq_getD_getElem?, h2]
  · exfalso
    have hkl : j < l.length := (List.getElem?_eq_some_iff.1 hj).1
    simp [Array.getD_eq_getD_getElem?, hkl] at hl
  · unfold left
    exact Nat.le_trans (List.length_filter_le _ _) (by simp)
end
section
variable {P : Program} {n : Nat} {ds : List Deferred} {ro : Option Nat} {Q : PostD} {e : Env} {w : World} {l : List Oper} {id : Nat}
theorem RgL.mono {ops : Array Oper} {I : World → Prop} {St : World → World → Prop} {Fin Fin' : (Tmp → Spec) → Prop} (hf : ∀ Γ, Fin Γ → Fin' Γ) : ∀ {l : List Oper} {Γ : Tmp → Spec}, RgL P n ops I St Fin l Γ → RgL P n ops I St Fin' l Γ
  | [], Γ, h => hf Γ h
  | _ :: _, _, ⟨V, h1, h2, h3, h4⟩ => ⟨V, h1, h2, h3, RgL.mono hf h4⟩
theorem WpG.drawL (N : Nat) (I : World → Prop) (St : World → World → Prop) (hm : P.follows .mixedOrders = true)
    (hok : rgOk l N = true) (hN : N ≤ l.length) (hSt : ∀ w, St w w) (hI : I w.drew)
    (h : RgL P n l.toArray I St (fun Γ => ∀ e' w', I w' → (∀ t, Γ t (e' t) w') → WpL P n l.toArray (Q .normal ds) (l.drop N) e' w') (l.take N) (fun t v _ => v = e t)) :
    WpG ro P n ds (.region id l.toArray true) Q e w :=
  WpG.drawY N I St hm hok hN hSt hI (RgL.mono (fun Γ h e' w' h1 h2 => (h e' w' h1 h2).toY) h)
theorem WpG.drawD (N : Nat) (hm : P.follows .mixedOrders = true) (hok : rgOk l N = true) (hN : Nat.ble N l.length = true)
    (h : RgD P n l.toArray w (fun Γ => ∀ e' w', Below w.heap.size w w' → (∀ t, Γ t (e' t) w') → WpL P n l.toArray (Q .normal ds) (l.drop N) e' w') (l.take N) e []) :
    WpG ro P n ds (.region id l.toArray true) Q e w := by
  refine WpG.drawL N (Below w.heap.size w) (fun w w' => Below w.heap.size w w') hm hok (Nat.le_of_ble_eq_true hN) (fun w => Below.refl _ _) (Below.refl _ _).drew ?_
  exact h (by simp)
theorem WpG.drawDY (N : Nat) (hm : P.follows .mixedOrders = true) (hok : rgOk l N = true) (hN : Nat.ble N l.length = true)
    (h : RgD P n l.toArray w (fun Γ => ∀ e' w', Below w.heap.size w w' → (∀ t, Γ t (e' t) w') → WpY P n l.toArray (Q .normal ds) (l.drop N) e' w') (l.take N) e []) :
    WpG ro P n ds (.region id l.toArray true) Q e w := by
  refine WpG.drawY N (Below w.heap.size w) (fun w w' => Below w.heap.size w w') hm hok (Nat.le_of_ble_eq_true hN) (fun w => Below.refl _ _) (Below.refl _ _).drew ?_
  exact h (by simp)
theorem WpG.drawF (N : Nat) (I : World → Prop) (hI : I w.drew) (hm : P.follows .mixedOrders = true) (hok : rgOk l N = true) (hN : Nat.ble N l.length = true)
    (h : RgF P n l.toArray I (fun Γ => ∀ e' w', I w' → (∀ t, Γ t (e' t) w') → WpL P n l.toArray (Q .normal ds) (l.drop N) e' w') (l.take N) e) :
    WpG ro P n ds (.region id l.toArray true) Q e w := WpG.drawL N I (fun _ _ => True) hm hok (Nat.le_of_ble_eq_true hN) (fun _ => trivial) hI h
theorem RgD.finY {ops ops' : Array Oper} {w0 : World} {K : Env → World → Prop} {tail : List Oper}
    (h : ∀ w, Below w0.heap.size w0 w → WpY P n ops' K tail e w) :
    RgD P n ops w0 (fun Γ => ∀ e' w', Below w0.heap.size w0 w' → (∀ t, Γ t (e' t) w') → WpY P n ops' K tail e' w') [] e [] := by
  intro hn e' w' hb hg
  have : e' = e := funext fun t => hg t
  subst this
  exact h w' hb
end
end Go.Fk

namespace Go.Fk.Crc

def tabN : List Nat := [0x00000000, 0x1db71064, 0x3b6e20c8, 0x26d930ac, 0x76dc4190, 0x6b6b51f4, 0x4db26158, 0x5005713c,
    0xedb88320, 0xf00f9344, 0xd6d6a3e8, 0xcb61b38c, 0x9b64c2b0, 0x86d3d2d4, 0xa00ae278, 0xbdbdf21c]

/-- One step of the register: moved down, and the polynomial added if the lowest bit was 1. -/
def bit1 (x : Nat) : Nat := (x >>> 1) ^^^ (if x.testBit 0 then 3988292384 else 0)
/-- One bit of a byte comes in, as the document has it. -/
def bitStep (x c : Nat) : Nat := if x &&& 1 ≠ c then (x >>> 1) ^^^ 3988292384 else x >>> 1
def refBits (x b : Nat) : Nat → Nat
  | 0 => x
  | k + 1 => bitStep (refBits x b k) ((b >>> k) &&& 1)
def nib (x : Nat) : Nat := (x >>> 4) ^^^ tabN.getD (x &&& 15) 0
def byteStep (x : Nat) (b : UInt8) : Nat := nib (nib (x ^^^ b.toNat))
def refByte (x : Nat) (b : UInt8) : Nat := refBits x b.toNat 8
def refRun (x : Nat) (l : List UInt8) : Nat := l.foldl refByte x
def run (x : Nat) (l : List UInt8) : Nat := l.foldl byteStep x
def full : Nat := 4294967295
def more (s : Nat) (l : List UInt8) : Nat := full ^^^ run (full ^^^ s) l
def sum (l : List UInt8) : Nat := more 0 l

theorem tab_lt : ∀ i, tabN.getD i 0 < 2 ^ 32 := fun i => by
  by_cases h : i < 16
  · have : ∀ i, i < 16 → tabN.getD i 0 < 2 ^ 32 := by decide
    exact this i h
  · rw [List.getD_eq_getElem?_getD, List.getElem?_eq_none (by simp [tabN]; omega)]; decide
theorem nib_lt {x : Nat} (h : x < 2 ^ 32) : nib x < 2 ^ 32 := Nat.xor_lt_two_pow (Nat.lt_of_le_of_lt (by rw [Nat.shiftRight_eq_div_pow]; exact Nat.div_le_self _ _) h) (tab_lt _)
theorem xorb_lt {x : Nat} (h : x < 2 ^ 32) (b : UInt8) : x ^^^ b.toNat < 2 ^ 32 := Nat.xor_lt_two_pow h (by have := UInt8.toNat_lt b; omega)
theorem byteStep_lt {x : Nat} (h : x < 2 ^ 32) (b : UInt8) : byteStep x b < 2 ^ 32 := nib_lt (nib_lt (xorb_lt h b))
theorem run_lt {x : Nat} (h : x < 2 ^ 32) : ∀ (l : List UInt8), run x l < 2 ^ 32 := fun l => by
  induction l generalizing x with
  | nil => exact h
  | cons b l ih => exact ih (byteStep_lt h b)
theorem full_lt {x : Nat} (h : x < 2 ^ 32) : full ^^^ x < 2 ^ 32 := Nat.xor_lt_two_pow (by decide) h
theorem more_lt {s : Nat} (h : s < 2 ^ 32) (l : List UInt8) : more s l < 2 ^ 32 := full_lt (run_lt (full_lt h) l)
theorem sum_lt (l : List UInt8) : sum l < 2 ^ 32 := more_lt (by decide) l
theorem run_nil (x : Nat) : run x [] = x := rfl
theorem full_eq : (4294967295 : Nat) = full := rfl
theorem run_snoc (x : Nat) (l : List UInt8) (b : UInt8) : run x (l ++ [b]) = byteStep (run x l) b := by simp [run]
theorem run_append (x : Nat) (l r : List UInt8) : run x (l ++ r) = run (run x l) r := by simp [run]

/-! ### The two are one -/
theorem bit1_xor (x y : Nat) : bit1 (x ^^^ y) = bit1 x ^^^ bit1 y := by
  unfold bit1
  rw [Nat.testBit_xor, Nat.shiftRight_xor_distrib]
  cases x.testBit 0 <;> cases y.testBit 0 <;> simp only [Bool.xor_false, Bool.xor_true, Bool.false_xor, Bool.true_xor, Bool.not_true, Bool.not_false, if_true, if_false, Bool.false_eq_true, Nat.xor_zero, Nat.xor_self]
  · ac_rfl
  · ac_rfl
  · rw [show (x >>> 1 ^^^ 3988292384) ^^^ (y >>> 1 ^^^ 3988292384) = (x >>> 1 ^^^ y >>> 1) ^^^ (3988292384 ^^^ 3988292384) by ac_rfl, Nat.xor_self, Nat.xor_zero]
def bits1 : Nat → Nat → Nat
  | 0, x => x
  | k + 1, x => bit1 (bits1 k x)
theorem bits1_xor (k x y : Nat) : bits1 k (x ^^^ y) = bits1 k x ^^^ bits1 k y := by
  induction k with
  | zero => rfl
  | succ k ih => rw [bits1, bits1, bits1, ih, bit1_xor]
theorem bit1_shl (h : Nat) : bit1 (2 * h) = h := by
  unfold bit1
  rw [Nat.testBit_zero, if_neg (by simp), Nat.xor_zero, Nat.shiftRight_eq_div_pow]; omega
theorem bits1_add (j k x : Nat) : bits1 (j + k) x = bits1 j (bits1 k x) := by
  induction j with
  | zero => rw [Nat.zero_add]; rfl
  | succ j ih => rw [Nat.succ_add, bits1, bits1, ih]
theorem nib_eq (x : Nat) : nib x = bits1 4 x := by
  have hsplit : x = (x / 16 * 16) ^^^ (x &&& 15) := by
    have h1 : x &&& 15 = x % 16 := Nat.and_two_pow_sub_one_eq_mod x 4
    rw [h1]
    have h2 : (x / 16 * 16) ^^^ (x % 16) = x / 16 * 16 + x % 16 := by
      have h3 := Nat.two_pow_add_eq_or_of_lt (i := 4) (b := x % 16) (by omega) (x / 16)
      have h4 : (x / 16 * 16) ^^^ (x % 16) = (2 ^ 4 * (x / 16)) ||| (x % 16) := by
        apply Nat.eq_of_testBit_eq
        intro j
        rw [Nat.testBit_xor, Nat.testBit_or, Nat.mul_comm (x / 16) 16, show (16 : Nat) = 2 ^ 4 from rfl, Nat.testBit_two_pow_mul, Nat.testBit_mod_two_pow]
        by_cases hj : j < 4
        · simp [hj, Nat.not_le.2 hj]
        · simp [hj, Nat.le_of_not_lt hj]
      rw [h4, ← h3]; omega
    omega
  have hlow : ∀ j, j < 16 → bits1 4 j = tabN.getD j 0 := by decide
  have hhigh : ∀ h, bits1 4 (h * 16) = h := fun h => by
    rw [show h * 16 = 2 * (2 * (2 * (2 * h))) by omega]
    simp only [bits1, bit1_shl]
  have h15 : x &&& 15 < 16 := Nat.lt_of_le_of_lt Nat.and_le_right (by decide)
  conv => rhs; rw [hsplit]
  rw [bits1_xor, hhigh, hlow _ h15, nib, Nat.shiftRight_eq_div_pow]
theorem byteStep_eq (x : Nat) (b : UInt8) : byteStep x b = bits1 8 (x ^^^ b.toNat) := by
  rw [byteStep, nib_eq, nib_eq, ← bits1_add]
theorem bitStep_eq (s c : Nat) : bit1 (s ^^^ c) = bitStep s (c &&& 1) ^^^ (c >>> 1) := by
  unfold bit1 bitStep
  rw [Nat.testBit_xor, Nat.shiftRight_xor_distrib, Nat.testBit_zero, Nat.testBit_zero, Nat.and_one_is_mod, Nat.and_one_is_mod]
  rcases Nat.mod_two_eq_zero_or_one s with h1 | h1 <;> rcases Nat.mod_two_eq_zero_or_one c with h2 | h2 <;> rw [h1, h2] <;> simp
  · ac_rfl
  · ac_rfl
theorem refBits_eq (x b : Nat) (k : Nat) : bits1 k (x ^^^ b) = refBits x b k ^^^ (b >>> k) := by
  induction k with
  | zero => rfl
  | succ k ih => rw [bits1, ih, bitStep_eq, refBits, ← Nat.shiftRight_add]
theorem refByte_eq (x : Nat) (b : UInt8) : refByte x b = byteStep x b := by
  rw [byteStep_eq, refBits_eq, refByte, show b.toNat >>> 8 = 0 by rw [Nat.shiftRight_eq_div_pow]; have := UInt8.toNat_lt b; omega, Nat.xor_zero]
theorem refRun_eq (x : Nat) (l : List UInt8) : refRun x l = run x l := by
  unfold refRun run
  congr 1
  funext x b
  exact refByte_eq x b
theorem refRun_snoc (x : Nat) (l : List UInt8) (b : UInt8) : refRun x (l ++ [b]) = refByte (refRun x l) b := by simp [refRun]
theorem bitStep_lt {x : Nat} (h : x < 2 ^ 32) (c : Nat) : bitStep x c < 2 ^ 32 := by
  unfold bitStep
  have h1 : x >>> 1 < 2 ^ 32 := Nat.lt_of_le_of_lt (by rw [Nat.shiftRight_eq_div_pow]; exact Nat.div_le_self _ _) h
  split
  · exact Nat.xor_lt_two_pow h1 (by decide)
  · exact h1
theorem refBits_lt {x : Nat} (h : x < 2 ^ 32) (b k : Nat) : refBits x b k < 2 ^ 32 := by
  induction k with
  | zero => exact h
  | succ k ih => exact bitStep_lt ih _
theorem xor_full (x : Nat) : full ^^^ (full ^^^ x) = x := by rw [← Nat.xor_assoc, Nat.xor_self, Nat.zero_xor]
theorem more_sum (l r : List UInt8) : more (sum l) r = sum (l ++ r) := by
  unfold sum more
  rw [xor_full, run_append]

/-! ### Numbers as bytes, the lowest first -/
def loB (n k : Nat) : List UInt8 := (List.range k).map fun i => UInt8.ofNat (n >>> (8 * i))
def loN : List UInt8 → Nat
  | [] => 0
  | b :: r => b.toNat + 256 * loN r
theorem loB_length (n k : Nat) : (loB n k).length = k := by simp [loB]
theorem loB_snoc (n k : Nat) : loB n (k + 1) = loB n k ++ [UInt8.ofNat (n >>> (8 * k))] := by simp [loB, List.range_succ]
theorem loB_zero (n : Nat) : loB n 0 = [] := rfl
theorem loB_cons (n k : Nat) : loB n (k + 1) = UInt8.ofNat n :: loB (n >>> 8) k := by
  simp only [loB, List.range_succ_eq_map, List.map_cons, List.map_map]
  congr 1
  refine List.map_congr_left fun i _ => ?_
  simp only [Function.comp, ← Nat.shiftRight_add]
  congr 2; omega
theorem loN_lt (l : List UInt8) : loN l < 2 ^ (8 * l.length) := by
  induction l with
  | nil => simp [loN]
  | cons b r ih =>
    have hb := UInt8.toNat_lt b
    simp only [loN, List.length_cons, Nat.mul_add, Nat.mul_one, Nat.pow_add]
    omega
theorem loN_loB (n k : Nat) : loN (loB n k) = n % 2 ^ (8 * k) := by
  induction k generalizing n with
  | zero => simp [loB, loN, Nat.mod_one]
  | succ k ih =>
    rw [loB_cons, loN, ih]
    have h1 : (UInt8.ofNat n).toNat = n % 256 := by simp
    rw [h1, Nat.shiftRight_eq_div_pow, show 8 * (k + 1) = 8 + 8 * k by omega, Nat.pow_add, Nat.mod_mul]
theorem loB_loN (l : List UInt8) : loB (loN l) l.length = l := by
  induction l with
  | nil => rfl
  | cons b r ih =>
    rw [List.length_cons, loB_cons, loN]
    have hb := UInt8.toNat_lt b
    have h1 : UInt8.ofNat (b.toNat + 256 * loN r) = b := by
      apply UInt8.toNat_inj.1
      simp
    have h2 : (b.toNat + 256 * loN r) >>> 8 = loN r := by rw [Nat.shiftRight_eq_div_pow]; omega
    rw [h1, h2, ih]
theorem loN_inj {l r : List UInt8} (hl : l.length = r.length) (h : loN l = loN r) : l = r := by rw [← loB_loN l, ← loB_loN r, hl, h]
theorem loN_append (l r : List UInt8) : loN (l ++ r) = loN l + 2 ^ (8 * l.length) * loN r := by
  induction l with
  | nil => simp [loN]
  | cons b l ih =>
    simp only [List.cons_append, loN, ih, List.length_cons, Nat.mul_add, Nat.mul_one, Nat.pow_add]
    rw [← Nat.add_assoc, ← Nat.mul_assoc 256, Nat.mul_comm (2 ^ (8 * l.length)) (2 ^ 8)]

/-! ### The sum over the whole as one number -/
theorem testBit_loN_low (b : UInt8) (r : List UInt8) : (loN (b :: r)) >>> 8 = loN r := by
  have hb := UInt8.toNat_lt b
  rw [loN, Nat.shiftRight_eq_div_pow]; omega
theorem bits1_step (x N : Nat) (k : Nat) : bits1 k (x ^^^ N) = refBits x N k ^^^ (N >>> k) := refBits_eq x N k
theorem refBits_mod (x N : Nat) (k : Nat) (hk : k ≤ 8) : refBits x N k = refBits x (N % 256) k := by
  induction k with
  | zero => rfl
  | succ k ih =>
    rw [refBits, refBits, ih (by omega)]
    congr 1
    rw [Nat.and_one_is_mod, Nat.and_one_is_mod, Nat.shiftRight_eq_div_pow, Nat.shiftRight_eq_div_pow]
    have : ∀ k, k < 8 → ∀ N : Nat, N / 2 ^ k % 2 = N % 256 / 2 ^ k % 2 := fun k hk N => by
      match k, hk with
      | 0, _ => omega
      | 1, _ => omega
      | 2, _ => omega
      | 3, _ => omega
      | 4, _ => omega
      | 5, _ => omega
      | 6, _ => omega
      | 7, _ => omega
    exact this k (by omega) N
theorem run_bits (l : List UInt8) (x : Nat) : run x l = bits1 (8 * l.length) (x ^^^ loN l) := by
  induction l generalizing x with
  | nil => simp [run, loN, bits1]
  | cons b r ih =>
    have hb := UInt8.toNat_lt b
    rw [show run x (b :: r) = run (byteStep x b) r from rfl, ih, List.length_cons, show 8 * (r.length + 1) = 8 * r.length + 8 by omega, bits1_add]
    congr 1
    rw [bits1_step x (loN (b :: r)) 8, testBit_loN_low, refBits_mod x _ 8 (by omega), show loN (b :: r) % 256 = b.toNat by rw [loN]; omega]
    rw [show refBits x b.toNat 8 = refByte x b from rfl, refByte_eq]
theorem bits1_zero (k : Nat) : bits1 k 0 = 0 := by
  induction k with
  | zero => rfl
  | succ k ih => rw [bits1, ih]; rfl
theorem bit1_lt {x : Nat} (h : x < 2 ^ 32) : bit1 x < 2 ^ 32 := by
  unfold bit1
  have h1 : x >>> 1 < 2 ^ 32 := Nat.lt_of_le_of_lt (by rw [Nat.shiftRight_eq_div_pow]; exact Nat.div_le_self _ _) h
  refine Nat.xor_lt_two_pow h1 ?_
  split <;> decide
theorem bit1_ne {x : Nat} (h : x < 2 ^ 32) (h0 : x ≠ 0) : bit1 x ≠ 0 := by
  intro hz
  unfold bit1 at hz
  by_cases hb : x.testBit 0 = true
  · rw [if_pos hb] at hz
    have h1 := congrArg (fun n => n.testBit 31) hz
    simp only [Nat.testBit_xor, Nat.zero_testBit] at h1
    have h2 : (x >>> 1).testBit 31 = false := by
      rw [Nat.testBit_shiftRight]
      exact Nat.testBit_lt_two_pow (Nat.lt_of_lt_of_le h (Nat.pow_le_pow_right (by decide) (by omega)))
    rw [h2] at h1
    revert h1; decide
  · rw [if_neg hb, Nat.xor_zero, Nat.shiftRight_eq_div_pow] at hz
    rw [Nat.testBit_zero] at hb
    simp only [decide_eq_true_eq] at hb
    omega
theorem bits1_ne {x : Nat} (h : x < 2 ^ 32) (h0 : x ≠ 0) (k : Nat) : bits1 k x ≠ 0 ∧ bits1 k x < 2 ^ 32 := by
  induction k with
  | zero => exact ⟨h0, h⟩
  | succ k ih => exact ⟨bit1_ne ih.2 ih.1, bit1_lt ih.2⟩
theorem bits1_shl (k x : Nat) : ∀ j, bits1 (k + j) (x <<< j) = bits1 k x
  | 0 => rfl
  | j + 1 => by
    rw [show k + (j + 1) = (k + j) + 1 by omega, bits1_add (k + j) 1, show bits1 1 (x <<< (j + 1)) = bit1 (x <<< (j + 1)) from rfl,
      show x <<< (j + 1) = 2 * (x <<< j) by rw [Nat.shiftLeft_succ]]
    rw [bit1_shl, bits1_shl k x j]
/-- A change of up to 32 bits side by side is seen. -/
theorem burst {l r : List UInt8} (hl : l.length = r.length) {bits at_ : Nat} (hb : bits < 2 ^ 32) (h0 : bits ≠ 0) (hat : at_ + 32 ≤ 8 * l.length) (hx : loN l ^^^ loN r = bits <<< at_) (x : Nat) : run x l ≠ run x r := by
  intro h
  rw [run_bits, run_bits, ← hl] at h
  have h1 : bits1 (8 * l.length) ((x ^^^ loN l) ^^^ (x ^^^ loN r)) = 0 := by rw [bits1_xor, h, Nat.xor_self]
  rw [show (x ^^^ loN l) ^^^ (x ^^^ loN r) = (x ^^^ x) ^^^ (loN l ^^^ loN r) by ac_rfl, Nat.xor_self, Nat.zero_xor, hx, show 8 * l.length = (8 * l.length - at_) + at_ by omega, bits1_shl] at h1
  exact (bits1_ne hb h0 _).1 h1
theorem sum_inj {l r : List UInt8} (h : sum l = sum r) : run full l = run full r := by
  have h1 : full ^^^ sum l = full ^^^ sum r := by rw [h]
  unfold sum more at h1
  rw [xor_full, xor_full, Nat.xor_zero] at h1
  exact h1

/-! ### What is sealed -/
def sealed (l : List UInt8) : List UInt8 := l ++ loB (sum l) 4
/-- Opened: what stands ahead of the sum, if the sum is right. -/
def good (t : List UInt8) : Prop := 4 ≤ t.length ∧ t.drop (t.length - 4) = loB (sum (t.take (t.length - 4))) 4
theorem sealed_length (l : List UInt8) : (sealed l).length = l.length + 4 := by simp [sealed, loB_length]
theorem good_sealed (l : List UInt8) : good (sealed l) := by
  refine ⟨by rw [sealed_length]; omega, ?_⟩
  rw [sealed_length, Nat.add_sub_cancel, sealed, List.drop_left, List.take_left]
theorem good_eq {t : List UInt8} (h : good t) : t = sealed (t.take (t.length - 4)) := by
  rw [sealed, ← h.2, List.take_append_drop]
/-- The register behind what is sealed is always the same. -/
theorem run_sealed (l : List UInt8) : run full (sealed l) = bits1 32 full := by
  have hs := sum_lt l
  rw [sealed, run_append, run_bits (loB (sum l) 4), loB_length, loN_loB, Nat.mod_eq_of_lt (by simpa using hs)]
  congr 1
  have : sum l = full ^^^ run full l := by unfold sum more; rw [Nat.xor_zero]
  rw [this, ← Nat.xor_assoc, Nat.xor_comm (run full l) full, Nat.xor_assoc, Nat.xor_self, Nat.xor_zero]
theorem turned_bad {l t : List UInt8} (hl : t.length = (sealed l).length) {bits at_ : Nat} (hb : bits < 2 ^ 32) (h0 : bits ≠ 0) (hat : at_ + 32 ≤ 8 * t.length) (hx : loN (sealed l) ^^^ loN t = bits <<< at_) : ¬ good t := by
  intro h
  have h1 := good_eq h
  have h2 := run_sealed (t.take (t.length - 4))
  rw [← h1] at h2
  exact burst hl.symm hb h0 (by omega) hx full ((run_sealed l).trans h2.symm)
end Go.Fk.Crc

namespace Go.Proofs.Ytaapnfoimcccjaa
open Go.Fk Go.RowKit
attribute [local irreducible] Wp WpL Det thenQ blockQ

instance : IntT Try.prog 3 .i64 := ⟨Try.underlying3⟩
instance : IntT Try.prog 5 .u8 := ⟨Try.underlying5⟩
instance : IntT Try.prog 58 .u32 := ⟨Try.underlying58⟩
instance : IntT Try.prog 73 .u64 := ⟨Try.underlying73⟩
instance : IntT Try.prog 71 .u64 := ⟨Try.underlying71⟩
instance : SliceT Try.prog 49 5 := ⟨Try.underlying49⟩
instance : Cell1 Try.prog 5 := ⟨_, Try.underlying5, rfl⟩
instance : Cell1 Try.prog 58 := ⟨_, Try.underlying58, rfl⟩
instance : SizeT Try.prog 5 1 := ⟨by kernel_rfl⟩
instance : SizeT Try.prog 58 1 := ⟨by kernel_rfl⟩
instance : ArrT Try.prog 77 16 58 := ⟨Try.underlying77⟩


instance : SizeT Try.prog 77 16 := ⟨by kernel_rfl⟩
instance : RowT Try.prog 77 := ⟨_, Try.underlying77, rfl⟩
instance : Elem Try.prog 5 1 1 (.int .u8 0) := ⟨by kernel_rfl, rfl, by decide⟩
instance : Elem Try.prog 77 16 64 (.agg (Array.replicate 16 (.int .u32 0))) := ⟨by kernel_rfl, rfl, by decide⟩

def tabC : Array Value := #[.int .u32 0, .int .u32 498536548, .int .u32 997073096, .int .u32 651767980, .int .u32 1994146192, .int .u32 1802195444, .int .u32 1303535960, .int .u32 1342533948,
  .int .u32 3988292384, .int .u32 4027552580, .int .u32 3604390888, .int .u32 3412177804, .int .u32 2607071920, .int .u32 2262029012, .int .u32 2685067896, .int .u32 3183342108]
theorem tabC_at : ∀ j, j < 16 → tabC[j]? = some (.int .u32 ((Crc.tabN.getD j 0 : Nat) : Int)) := by
  intro j hj
  match j with
  | 0 | 1 | 2 | 3 | 4 | 5 | 6 | 7 | 8 | 9 | 10 | 11 | 12 | 13 | 14 | 15 => rfl
  | k + 16 => omega
theorem tabC_at' (j : Nat) (h : j < 16) : tabC[0 + j]? = some (.int .u32 ((Crc.tabN.getD j 0 : Nat) : Int)) := by rw [Nat.zero_add]; exact tabC_at j h
theorem tabC_one : ∀ v ∈ tabC.toList, v.oneCell' = true := by
  intro v hv
  simp only [tabC, List.mem_cons, List.not_mem_nil, or_false] at hv
  rcases hv with h | h | h | h | h | h | h | h | h | h | h | h | h | h | h | h <;> rw [h] <;> rfl

theorem steps_any (w : World) : Calls Try.prog 50 #[] w fun x w' => x = .returned (.agg tabC) ∧ Below w.heap.size w w' := by
  (refine calls_of (P := Try.prog) _ Try.func50 rfl Try.ntmps50 (Nat.le_of_ble_eq_true rfl) ?_; dsimp only [argE, Nat.reduceAdd])
  repeat (first | ((with_reducible apply WpL.det); (· exact rfl); (· exact Det.found)) | ((with_reducible apply WpL.nilN)) | ((with_reducible apply WpL.nil)) | ((with_reducible apply Wp.seq)) | ((with_reducible apply Wp.region)) | ((with_reducible apply thenQ_normal)) | ((with_reducible apply Wp.block)) | ((with_reducible apply Wp.skip)) | ((with_reducible apply Wp.ret)) | ((with_reducible apply Wp.exit)) | ((with_reducible apply thenQ_exit)) | ((with_reducible apply thenQ_ret)) | ((with_reducible apply blockQ_normal)) | ((with_reducible apply blockQ_ret)) | ((with_reducible apply blockQ_same)) | ((with_reducible apply blockQ_other); (· exact rfl)) | ((with_reducible apply WpL.unguard); (· exact rfl); (· exact rfl); (· exact boolFound)) | ((with_reducible apply WpL.skipG); (· exact rfl); (· exact rfl); (· exact boolFound); (· exact rfl)) | ((with_reducible apply Wp.condT); (· exact rfl); (· exact boolFound)) | ((with_reducible apply Wp.condF); (· exact rfl); (· exact boolFound)))
  refine WpL.alloc rfl ?_
  intro w1 hb1 hs1 hg1
  repeat (first | ((with_reducible apply WpL.det); (· exact rfl); (· exact Det.found)) | ((with_reducible apply WpL.nilN)) | ((with_reducible apply WpL.nil)) | ((with_reducible apply Wp.seq)) | ((with_reducible apply Wp.region)) | ((with_reducible apply thenQ_normal)) | ((with_reducible apply Wp.block)) | ((with_reducible apply Wp.skip)) | ((with_reducible apply Wp.ret)) | ((with_reducible apply Wp.exit)) | ((with_reducible apply thenQ_exit)) | ((with_reducible apply thenQ_ret)) | ((with_reducible apply blockQ_normal)) | ((with_reducible apply blockQ_ret)) | ((with_reducible apply blockQ_same)) | ((with_reducible apply blockQ_other); (· exact rfl)) | ((with_reducible apply WpL.unguard); (· exact rfl); (· exact rfl); (· exact boolFound)) | ((with_reducible apply WpL.skipG); (· exact rfl); (· exact rfl); (· exact boolFound); (· exact rfl)) | ((with_reducible apply Wp.condT); (· exact rfl); (· exact boolFound)) | ((with_reducible apply Wp.condF); (· exact rfl); (· exact boolFound)))
  refine WpL.run (v := .agg tabC) (w' := w1) rfl (by kernel_rfl) ?_
  refine WpL.storeRow (n := 16) rfl rfl rfl (by simp [Value.cells]) tabC_one hg1 ?_
  intro w2 hb2 hs2 hg2
  repeat (first | ((with_reducible apply WpL.det); (· exact rfl); (· exact Det.found)) | ((with_reducible apply WpL.nilN)) | ((with_reducible apply WpL.nil)) | ((with_reducible apply Wp.seq)) | ((with_reducible apply Wp.region)) | ((with_reducible apply thenQ_normal)) | ((with_reducible apply Wp.block)) | ((with_reducible apply Wp.skip)) | ((with_reducible apply Wp.ret)) | ((with_reducible apply Wp.exit)) | ((with_reducible apply thenQ_exit)) | ((with_reducible apply thenQ_ret)) | ((with_reducible apply blockQ_normal)) | ((with_reducible apply blockQ_ret)) | ((with_reducible apply blockQ_same)) | ((with_reducible apply blockQ_other); (· exact rfl)) | ((with_reducible apply WpL.unguard); (· exact rfl); (· exact rfl); (· exact boolFound)) | ((with_reducible apply WpL.skipG); (· exact rfl); (· exact rfl); (· exact boolFound); (· exact rfl)) | ((with_reducible apply Wp.condT); (· exact rfl); (· exact boolFound)) | ((with_reducible apply Wp.condF); (· exact rfl); (· exact boolFound)))
  exact doneQ_cell (n := 16) Try.results50 rfl hg2 rfl ⟨rfl, hb1.write hb2 (Nat.le_refl _)⟩

/-- Sum is More from 0 on. -/
theorem sum_of (b : Value) (w : World) (R : Ending → World → Prop) (h : Calls Try.prog 49 #[.int .u32 0, b] w R) (hR : ∀ x w, R x w → ∃ v, x = .returned v) :
    Calls Try.prog 43 #[b] w R := by
  (refine calls_of (P := Try.prog) _ Try.func43 rfl Try.ntmps43 (Nat.le_of_ble_eq_true rfl) ?_; dsimp only [argE, Nat.reduceAdd])
  repeat (first | ((with_reducible apply WpL.det); (· exact rfl); (· exact Det.found)) | ((with_reducible apply WpL.nilN)) | ((with_reducible apply WpL.nil)) | ((with_reducible apply Wp.seq)) | ((with_reducible apply Wp.region)) | ((with_reducible apply thenQ_normal)) | ((with_reducible apply Wp.block)) | ((with_reducible apply Wp.skip)) | ((with_reducible apply Wp.ret)) | ((with_reducible apply Wp.exit)) | ((with_reducible apply thenQ_exit)) | ((with_reducible apply thenQ_ret)) | ((with_reducible apply blockQ_normal)) | ((with_reducible apply blockQ_ret)) | ((with_reducible apply blockQ_same)) | ((with_reducible apply blockQ_other); (· exact rfl)) | ((with_reducible apply WpL.unguard); (· exact rfl); (· exact rfl); (· exact boolFound)) | ((with_reducible apply WpL.skipG); (· exact rfl); (· exact rfl); (· exact boolFound); (· exact rfl)) | ((with_reducible apply Wp.condT); (· exact rfl); (· exact boolFound)) | ((with_reducible apply Wp.condF); (· exact rfl); (· exact boolFound)))
  (with_reducible apply WpL.call); (· exact rfl); (· exact Try.call49); (· exact Vals.found)
  refine h.mono ?_
  intro x w' hx
  obtain ⟨v, rfl⟩ := hR _ _ hx
  refine ⟨v, rfl, ?_⟩
  repeat (first | ((with_reducible apply WpL.det); (· exact rfl); (· exact Det.found)) | ((with_reducible apply WpL.nilN)) | ((with_reducible apply WpL.nil)) | ((with_reducible apply Wp.seq)) | ((with_reducible apply Wp.region)) | ((with_reducible apply thenQ_normal)) | ((with_reducible apply Wp.block)) | ((with_reducible apply Wp.skip)) | ((with_reducible apply Wp.ret)) | ((with_reducible apply Wp.exit)) | ((with_reducible apply thenQ_exit)) | ((with_reducible apply thenQ_ret)) | ((with_reducible apply blockQ_normal)) | ((with_reducible apply blockQ_ret)) | ((with_reducible apply blockQ_same)) | ((with_reducible apply blockQ_other); (· exact rfl)) | ((with_reducible apply WpL.unguard); (· exact rfl); (· exact rfl); (· exact boolFound)) | ((with_reducible apply WpL.skipG); (· exact rfl); (· exact rfl); (· exact boolFound); (· exact rfl)) | ((with_reducible apply Wp.condT); (· exact rfl); (· exact boolFound)) | ((with_reducible apply Wp.condF); (· exact rfl); (· exact boolFound)))
  exact doneQ_one Try.results43 rfl hx
end Go.Proofs.Ytaapnfoimcccjaa

namespace Go.Proofs.Ytaapnfoimcccjaa
open Go.Fk Go.RowKit
attribute [local irreducible] Wp WpL Det thenQ blockQ

theorem run_step {n k : Nat} {l : List UInt8} (x : Nat) (hn : l.length = n) (hk : k < n) : Crc.run x (l.take (k + 1)) = Crc.byteStep (Crc.run x (l.take k)) (l[k]'(by omega)) := by
  rw [List.take_succ_eq_append_getElem (by omega), Crc.run_snoc]

theorem more_any (s : Nat) (hs : s < 4294967296) (A : Option Addr) (l : List UInt8) (n c : Nat) (hn : l.length = n) (hlen : n ≤ maxLen) (w : World) (hr : Rd w A (bv l)) :
    Calls Try.prog 49 #[.int .u32 (s : Int), .slice A n c] w fun x w' => x = .returned (.int .u32 (Crc.more s l : Nat)) ∧ Below w.heap.size w w' := by
  simp only [maxLen] at hlen
  (refine calls_of (P := Try.prog) _ Try.func49 rfl Try.ntmps49 (Nat.le_of_ble_eq_true rfl) ?_; dsimp only [argE, Nat.reduceAdd])
  repeat (first | ((with_reducible apply WpL.det); (· exact rfl); (· exact Det.found)) | ((with_reducible apply WpL.nilN)) | ((with_reducible apply WpL.nil)) | ((with_reducible apply Wp.seq)) | ((with_reducible apply Wp.region)) | ((with_reducible apply thenQ_normal)) | ((with_reducible apply Wp.block)) | ((with_reducible apply Wp.skip)) | ((with_reducible apply Wp.ret)) | ((with_reducible apply Wp.exit)) | ((with_reducible apply thenQ_exit)) | ((with_reducible apply thenQ_ret)) | ((with_reducible apply blockQ_normal)) | ((with_reducible apply blockQ_ret)) | ((with_reducible apply blockQ_same)) | ((with_reducible apply blockQ_other); (· exact rfl)) | ((with_reducible apply WpL.unguard); (· exact rfl); (· exact rfl); (· exact boolFound)) | ((with_reducible apply WpL.skipG); (· exact rfl); (· exact rfl); (· exact boolFound); (· exact rfl)) | ((with_reducible apply Wp.condT); (· exact rfl); (· exact boolFound)) | ((with_reducible apply Wp.condF); (· exact rfl); (· exact boolFound)))
  (with_reducible apply WpL.call); (· exact rfl); (· exact Try.call50); (· exact Vals.found)
  refine (steps_any w).mono ?_
  rintro x w1 ⟨rfl, hb1⟩
  refine ⟨_, rfl, ?_⟩
  repeat (first | ((with_reducible apply WpL.det); (· exact rfl); (· exact Det.found)) | ((with_reducible apply WpL.nilN)) | ((with_reducible apply WpL.nil)) | ((with_reducible apply Wp.seq)) | ((with_reducible apply Wp.region)) | ((with_reducible apply thenQ_normal)) | ((with_reducible apply Wp.block)) | ((with_reducible apply Wp.skip)) | ((with_reducible apply Wp.ret)) | ((with_reducible apply Wp.exit)) | ((with_reducible apply thenQ_exit)) | ((with_reducible apply thenQ_ret)) | ((with_reducible apply blockQ_normal)) | ((with_reducible apply blockQ_ret)) | ((with_reducible apply blockQ_same)) | ((with_reducible apply blockQ_other); (· exact rfl)) | ((with_reducible apply WpL.unguard); (· exact rfl); (· exact rfl); (· exact boolFound)) | ((with_reducible apply WpL.skipG); (· exact rfl); (· exact rfl); (· exact boolFound); (· exact rfl)) | ((with_reducible apply Wp.condT); (· exact rfl); (· exact boolFound)) | ((with_reducible apply Wp.condF); (· exact rfl); (· exact boolFound)))
  refine WpL.alloc rfl ?_
  intro w2 hb2 hs2 hg2
  repeat (first | ((with_reducible apply WpL.det); (· exact rfl); (· exact Det.found)) | ((with_reducible apply WpL.nilN)) | ((with_reducible apply WpL.nil)) | ((with_reducible apply Wp.seq)) | ((with_reducible apply Wp.region)) | ((with_reducible apply thenQ_normal)) | ((with_reducible apply Wp.block)) | ((with_reducible apply Wp.skip)) | ((with_reducible apply Wp.ret)) | ((with_reducible apply Wp.exit)) | ((with_reducible apply thenQ_exit)) | ((with_reducible apply thenQ_ret)) | ((with_reducible apply blockQ_normal)) | ((with_reducible apply blockQ_ret)) | ((with_reducible apply blockQ_same)) | ((with_reducible apply blockQ_other); (· exact rfl)) | ((with_reducible apply WpL.unguard); (· exact rfl); (· exact rfl); (· exact boolFound)) | ((with_reducible apply WpL.skipG); (· exact rfl); (· exact rfl); (· exact boolFound); (· exact rfl)) | ((with_reducible apply Wp.condT); (· exact rfl); (· exact boolFound)) | ((with_reducible apply Wp.condF); (· exact rfl); (· exact boolFound)))
  refine WpL.storeRow (n := 16) rfl rfl rfl (by simp [Value.cells]) tabC_one hg2 ?_
  intro w3 hb3 hs3 hg3
  have hb : Below w.heap.size w w3 := (hb1.on hb2).write hb3 hb1.size
  have hr3 := hr.below hb
  clear hb1 hb2 hb3 hs2 hs3 hg2 hr
  generalize w1.heap.size = g at *
  repeat (first | ((with_reducible apply WpL.det); (· exact rfl); (· exact Det.found)) | ((with_reducible apply WpL.nilN)) | ((with_reducible apply WpL.nil)) | ((with_reducible apply Wp.seq)) | ((with_reducible apply Wp.region)) | ((with_reducible apply thenQ_normal)) | ((with_reducible apply Wp.block)) | ((with_reducible apply Wp.skip)) | ((with_reducible apply Wp.ret)) | ((with_reducible apply Wp.exit)) | ((with_reducible apply thenQ_exit)) | ((with_reducible apply thenQ_ret)) | ((with_reducible apply blockQ_normal)) | ((with_reducible apply blockQ_ret)) | ((with_reducible apply blockQ_same)) | ((with_reducible apply blockQ_other); (· exact rfl)) | ((with_reducible apply WpL.unguard); (· exact rfl); (· exact rfl); (· exact boolFound)) | ((with_reducible apply WpL.skipG); (· exact rfl); (· exact rfl); (· exact boolFound); (· exact rfl)) | ((with_reducible apply Wp.condT); (· exact rfl); (· exact boolFound)) | ((with_reducible apply Wp.condF); (· exact rfl); (· exact boolFound)))
  have h6 : Value.int .u32 ((4294967295 ^^^ s : Nat) : Int) = .int .u32 ((Crc.run (Crc.full ^^^ s) (l.take 0) : Nat) : Int) := by rw [List.take_zero, Crc.run_nil, Crc.full_eq]
  have hx0 : Crc.full ^^^ s < 2 ^ 32 := Crc.full_lt hs
  refine Wp.loopUp n (fun k e w' => w' = w3 ∧ e.Has [(5, .pointer (some ⟨g, 0, none⟩)), (6, .int .u32 (Crc.run (Crc.full ^^^ s) (l.take k) : Nat)), (12, .slice A n c), (13, .int .i64 n), (14, .int .i64 (k : Nat))]) (Nat.zero_le n) ⟨rfl, rfl, h6, rfl, rfl, rfl, trivial⟩ ?_
  clear h6
  rintro k e w' hk ⟨rfl, he⟩
  obtain ⟨e0, rfl⟩ := he.eq
  clear he
  dsimp only [Env.sets]
  by_cases hlt : k < n
  · have hs0 := run_step (Crc.full ^^^ s) hn hlt
    have hx1 := Crc.run_lt hx0 (l.take k)
    revert hs0 hx1
    generalize Crc.run (Crc.full ^^^ s) (l.take k) = x
    intro hs0 hx1
    obtain ⟨a, rfl, hat⟩ := hr3.at_ (i := k) (by simpa [hn] using hlt)
    have hb8 := UInt8.toNat_lt (l[k]'(by omega))
    have hx2 : x ^^^ (l[k]'(by omega)).toNat < 2 ^ 32 := Crc.xorb_lt hx1 _
    have hx3 := Crc.nib_lt hx2
    have ht := fun i => Crc.tab_lt i
    have hbs : Crc.byteStep x (l[k]'(by omega)) = Crc.nib (Crc.nib (x ^^^ (l[k]'(by omega)).toNat)) := rfl
    have hm1 : (x ^^^ (l[k]'(by omega)).toNat) &&& 15 ≤ 15 := Nat.and_le_right
    have hm2 : Crc.nib (x ^^^ (l[k]'(by omega)).toNat) &&& 15 ≤ 15 := Nat.and_le_right
    have hn1 : Crc.nib (x ^^^ (l[k]'(by omega)).toNat) = ((x ^^^ (l[k]'(by omega)).toNat) >>> 4) ^^^ Crc.tabN.getD ((x ^^^ (l[k]'(by omega)).toNat) &&& 15) 0 := rfl
    have hn2 : ∀ y, Crc.nib y = (y >>> 4) ^^^ Crc.tabN.getD (y &&& 15) 0 := fun _ => rfl
    have ht1 := ht ((x ^^^ (l[k]'(by omega)).toNat) &&& 15)
    have ht2 := ht (Crc.nib (x ^^^ (l[k]'(by omega)).toNat) &&& 15)
    repeat (first | ((with_reducible apply WpL.det); (· exact rfl); (· exact Det.found)) | ((with_reducible apply WpL.nilN)) | ((with_reducible apply WpL.nil)) | ((with_reducible apply Wp.seq)) | ((with_reducible apply Wp.region)) | ((with_reducible apply thenQ_normal)) | ((with_reducible apply Wp.block)) | ((with_reducible apply Wp.skip)) | ((with_reducible apply Wp.ret)) | ((with_reducible apply Wp.exit)) | ((with_reducible apply thenQ_exit)) | ((with_reducible apply thenQ_ret)) | ((with_reducible apply blockQ_normal)) | ((with_reducible apply blockQ_ret)) | ((with_reducible apply blockQ_same)) | ((with_reducible apply blockQ_other); (· exact rfl)) | ((with_reducible apply WpL.unguard); (· exact rfl); (· exact rfl); (· exact boolFound)) | ((with_reducible apply WpL.skipG); (· exact rfl); (· exact rfl); (· exact boolFound); (· exact rfl)) | ((with_reducible apply Wp.condT); (· exact rfl); (· exact boolFound)) | ((with_reducible apply Wp.condF); (· exact rfl); (· exact boolFound)))
    refine WpL.loadA rfl rfl hat (bv_get (by omega)) ?_
    repeat (first | ((with_reducible apply WpL.det); (· exact rfl); (· exact Det.found)) | ((with_reducible apply WpL.nilN)) | ((with_reducible apply WpL.nil)) | ((with_reducible apply Wp.seq)) | ((with_reducible apply Wp.region)) | ((with_reducible apply thenQ_normal)) | ((with_reducible apply Wp.block)) | ((with_reducible apply Wp.skip)) | ((with_reducible apply Wp.ret)) | ((with_reducible apply Wp.exit)) | ((with_reducible apply thenQ_exit)) | ((with_reducible apply thenQ_ret)) | ((with_reducible apply blockQ_normal)) | ((with_reducible apply blockQ_ret)) | ((with_reducible apply blockQ_same)) | ((with_reducible apply blockQ_other); (· exact rfl)) | ((with_reducible apply WpL.unguard); (· exact rfl); (· exact rfl); (· exact boolFound)) | ((with_reducible apply WpL.skipG); (· exact rfl); (· exact rfl); (· exact boolFound); (· exact rfl)) | ((with_reducible apply Wp.condT); (· exact rfl); (· exact boolFound)) | ((with_reducible apply Wp.condF); (· exact rfl); (· exact boolFound)))
    refine WpL.loadB rfl rfl hg3 (tabC_at' _ (by omega)) ?_
    repeat (first | ((with_reducible apply WpL.det); (· exact rfl); (· exact Det.found)) | ((with_reducible apply WpL.nilN)) | ((with_reducible apply WpL.nil)) | ((with_reducible apply Wp.seq)) | ((with_reducible apply Wp.region)) | ((with_reducible apply thenQ_normal)) | ((with_reducible apply Wp.block)) | ((with_reducible apply Wp.skip)) | ((with_reducible apply Wp.ret)) | ((with_reducible apply Wp.exit)) | ((with_reducible apply thenQ_exit)) | ((with_reducible apply thenQ_ret)) | ((with_reducible apply blockQ_normal)) | ((with_reducible apply blockQ_ret)) | ((with_reducible apply blockQ_same)) | ((with_reducible apply blockQ_other); (· exact rfl)) | ((with_reducible apply WpL.unguard); (· exact rfl); (· exact rfl); (· exact boolFound)) | ((with_reducible apply WpL.skipG); (· exact rfl); (· exact rfl); (· exact boolFound); (· exact rfl)) | ((with_reducible apply Wp.condT); (· exact rfl); (· exact boolFound)) | ((with_reducible apply Wp.condF); (· exact rfl); (· exact boolFound)))
    rw [← hn1]
    repeat (first | ((with_reducible apply WpL.det); (· exact rfl); (· exact Det.found)) | ((with_reducible apply WpL.nilN)) | ((with_reducible apply WpL.nil)) | ((with_reducible apply Wp.seq)) | ((with_reducible apply Wp.region)) | ((with_reducible apply thenQ_normal)) | ((with_reducible apply Wp.block)) | ((with_reducible apply Wp.skip)) | ((with_reducible apply Wp.ret)) | ((with_reducible apply Wp.exit)) | ((with_reducible apply thenQ_exit)) | ((with_reducible apply thenQ_ret)) | ((with_reducible apply blockQ_normal)) | ((with_reducible apply blockQ_ret)) | ((with_reducible apply blockQ_same)) | ((with_reducible apply blockQ_other); (· exact rfl)) | ((with_reducible apply WpL.unguard); (· exact rfl); (· exact rfl); (· exact boolFound)) | ((with_reducible apply WpL.skipG); (· exact rfl); (· exact rfl); (· exact boolFound); (· exact rfl)) | ((with_reducible apply Wp.condT); (· exact rfl); (· exact boolFound)) | ((with_reducible apply Wp.condF); (· exact rfl); (· exact boolFound)))
    refine WpL.loadB rfl rfl hg3 (tabC_at' _ (by omega)) ?_
    repeat (first | ((with_reducible apply WpL.det); (· exact rfl); (· exact Det.found)) | ((with_reducible apply WpL.nilN)) | ((with_reducible apply WpL.nil)) | ((with_reducible apply Wp.seq)) | ((with_reducible apply Wp.region)) | ((with_reducible apply thenQ_normal)) | ((with_reducible apply Wp.block)) | ((with_reducible apply Wp.skip)) | ((with_reducible apply Wp.ret)) | ((with_reducible apply Wp.exit)) | ((with_reducible apply thenQ_exit)) | ((with_reducible apply thenQ_ret)) | ((with_reducible apply blockQ_normal)) | ((with_reducible apply blockQ_ret)) | ((with_reducible apply blockQ_same)) | ((with_reducible apply blockQ_other); (· exact rfl)) | ((with_reducible apply WpL.unguard); (· exact rfl); (· exact rfl); (· exact boolFound)) | ((with_reducible apply WpL.skipG); (· exact rfl); (· exact rfl); (· exact boolFound); (· exact rfl)) | ((with_reducible apply Wp.condT); (· exact rfl); (· exact boolFound)) | ((with_reducible apply Wp.condF); (· exact rfl); (· exact boolFound)))
    refine And.intro hlt (And.intro rfl ⟨rfl, ?_, rfl, rfl, int_eq (by omega), trivial⟩)
    rw [hs0, hbs, hn2 (Crc.nib _)]
    rfl
  · have hkn : k = n := by omega
    subst hkn
    have hx1 := Crc.run_lt hx0 (l.take k)
    have hmore : Crc.more s l = 4294967295 ^^^ Crc.run (Crc.full ^^^ s) (l.take k) := by rw [List.take_of_length_le (by omega)]; rfl
    repeat (first | ((with_reducible apply WpL.det); (· exact rfl); (· exact Det.found)) | ((with_reducible apply WpL.nilN)) | ((with_reducible apply WpL.nil)) | ((with_reducible apply Wp.seq)) | ((with_reducible apply Wp.region)) | ((with_reducible apply thenQ_normal)) | ((with_reducible apply Wp.block)) | ((with_reducible apply Wp.skip)) | ((with_reducible apply Wp.ret)) | ((with_reducible apply Wp.exit)) | ((with_reducible apply thenQ_exit)) | ((with_reducible apply thenQ_ret)) | ((with_reducible apply blockQ_normal)) | ((with_reducible apply blockQ_ret)) | ((with_reducible apply blockQ_same)) | ((with_reducible apply blockQ_other); (· exact rfl)) | ((with_reducible apply WpL.unguard); (· exact rfl); (· exact rfl); (· exact boolFound)) | ((with_reducible apply WpL.skipG); (· exact rfl); (· exact rfl); (· exact boolFound); (· exact rfl)) | ((with_reducible apply Wp.condT); (· exact rfl); (· exact boolFound)) | ((with_reducible apply Wp.condF); (· exact rfl); (· exact boolFound)))
    (with_reducible apply doneQ_one Try.results49); (· exact slotFound)
    exact ⟨by rw [hmore], hb⟩

theorem sum_any (A : Option Addr) (l : List UInt8) (n c : Nat) (hn : l.length = n) (hlen : n ≤ maxLen) (w : World) (hr : Rd w A (bv l)) :
    Calls Try.prog 43 #[.slice A n c] w fun x w' => x = .returned (.int .u32 (Crc.sum l : Nat)) ∧ Below w.heap.size w w' := by
  (refine calls_of (P := Try.prog) _ Try.func43 rfl Try.ntmps43 (Nat.le_of_ble_eq_true rfl) ?_; dsimp only [argE, Nat.reduceAdd])
  repeat (first | ((with_reducible apply WpL.det); (· exact rfl); (· exact Det.found)) | ((with_reducible apply WpL.nilN)) | ((with_reducible apply WpL.nil)) | ((with_reducible apply Wp.seq)) | ((with_reducible apply Wp.region)) | ((with_reducible apply thenQ_normal)) | ((with_reducible apply Wp.block)) | ((with_reducible apply Wp.skip)) | ((with_reducible apply Wp.ret)) | ((with_reducible apply Wp.exit)) | ((with_reducible apply thenQ_exit)) | ((with_reducible apply thenQ_ret)) | ((with_reducible apply blockQ_normal)) | ((with_reducible apply blockQ_ret)) | ((with_reducible apply blockQ_same)) | ((with_reducible apply blockQ_other); (· exact rfl)) | ((with_reducible apply WpL.unguard); (· exact rfl); (· exact rfl); (· exact boolFound)) | ((with_reducible apply WpL.skipG); (· exact rfl); (· exact rfl); (· exact boolFound); (· exact rfl)) | ((with_reducible apply Wp.condT); (· exact rfl); (· exact boolFound)) | ((with_reducible apply Wp.condF); (· exact rfl); (· exact boolFound)))
  (with_reducible apply WpL.call); (· exact rfl); (· exact Try.call49); (· exact Vals.found)
  refine (more_any 0 (by decide) A l n c hn hlen w hr).mono ?_
  rintro x w' ⟨rfl, hb⟩
  refine ⟨_, rfl, ?_⟩
  repeat (first | ((with_reducible apply WpL.det); (· exact rfl); (· exact Det.found)) | ((with_reducible apply WpL.nilN)) | ((with_reducible apply WpL.nil)) | ((with_reducible apply Wp.seq)) | ((with_reducible apply Wp.region)) | ((with_reducible apply thenQ_normal)) | ((with_reducible apply Wp.block)) | ((with_reducible apply Wp.skip)) | ((with_reducible apply Wp.ret)) | ((with_reducible apply Wp.exit)) | ((with_reducible apply thenQ_exit)) | ((with_reducible apply thenQ_ret)) | ((with_reducible apply blockQ_normal)) | ((with_reducible apply blockQ_ret)) | ((with_reducible apply blockQ_same)) | ((with_reducible apply blockQ_other); (· exact rfl)) | ((with_reducible apply WpL.unguard); (· exact rfl); (· exact rfl); (· exact boolFound)) | ((with_reducible apply WpL.skipG); (· exact rfl); (· exact rfl); (· exact boolFound); (· exact rfl)) | ((with_reducible apply Wp.condT); (· exact rfl); (· exact boolFound)) | ((with_reducible apply Wp.condF); (· exact rfl); (· exact boolFound)))
  (with_reducible apply doneQ_one Try.results43); (· exact slotFound)
  exact ⟨rfl, hb⟩
end Go.Proofs.Ytaapnfoimcccjaa
