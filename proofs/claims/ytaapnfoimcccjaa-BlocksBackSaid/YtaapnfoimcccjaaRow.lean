/-
  Rows in slices: one row written out as a slice; functions against nil; views read whole. It holds for any program; conditions stand at each theorem.
-/
import Derived.Test.YtaapnfoimcccjaaRnd
namespace Go.Fk
open Go.RowKit

class FnT (P : Program) (t : TypeId) : Prop where
  hu : ∃ p r v, P.underlying t = some (.func p r v)
section
variable {P : Program} {I : World → Prop} {ty : TypeId} {e : Env} {x y : Operand} {v : Value} {t el t' : TypeId}
theorem run_equalIn_nilF {t : TypeId} {p r : Array TypeId} {v : Bool} (hu : P.underlying t = some (.func p r v)) {f : Fn} {a b : Array Value} (d : Nat) (w : World) : (Op.equalIn (d + 1) t (.func f a b) .nilFunc).run P w = .ok false w := by
  simp [Op.equalIn, run_underlying hu]
theorem Det.eqlNilF [h : FnT P t] {f : Fn} {a b : Array Value} (hx : e.eval x = .func f a b) (hy : e.eval y = .nilFunc) : Det P I (.binOp .eql t x y t') ty e (.bool false) := fun _ _ _ _ w _ => by
  obtain ⟨p, r, v, hu⟩ := h.hu
  have := run_equalIn_nilF (P := P) hu (f := f) (a := a) (b := b) 9999 w
  simp only [execOp, hx, hy, eqGuard, binOp]
  simp [Op.equal, Op.maxDepth, this]
end
section
variable {P : Program} {N : Nat} {ops : Array Oper} {K : Env → World → Prop} {rest : List Oper} {e : Env} {w w0 : World} {M : Nat → Prop} {L L1 : List Ch} {ty : TypeId} {pos : String} {after : Array Edge}
variable {t el : TypeId} {sz bytes : Nat} {z : Value} {d : Tmp} {x : Operand}
theorem run_buildSlice1 [ht : SliceT P t el] [he : Elem P el sz bytes z] {cells : List Value} (hsz : 0 < sz) (hn : sz ≤ 16777216)
    (hf : Instr.fill (fun i => some (i * sz, sz)) ((Array.range sz).map fun j => z.cells[j % z.cells.size]!) [(0, .agg cells.toArray)] = some cells.toArray) (w : World) :
    (Instr.buildSlice t 1 #[(0, .agg cells.toArray)]).run P w = .ok (.slice (some ⟨w.heap.size, 0, none⟩) 1 1) (w.alloc (.cells cells.toArray el)) := by
  obtain ⟨i, hi, hz, hsize, hby⟩ := he.get
  simp only [Instr.buildSlice, Sem.run_bind, run_underlying ht.hu, Result.andThen_ok, sizeOf, typeInfo, run_program, hi, hsize, Sem.run_pure, zeroValue, hz]
  rw [if_neg (by omega), if_neg (by omega)]
  simp [typeInfo, hi, hz, newRow, hf, Nat.one_mul]
theorem WpL.bs1 [ht : SliceT P t el] [he : Elem P el sz bytes z] {cells : List Value} (hS : St w0 M w L) (hd : dOk N (some d) = true) (hx : e.eval x = .agg cells.toArray) (hsz : 0 < sz) (hn : sz ≤ 16777216)
    (hf : Instr.fill (fun i => some (i * sz, sz)) ((Array.range sz).map fun j => z.cells[j % z.cells.size]!) [(0, .agg cells.toArray)] = some cells.toArray) (hl : cells.length = sz)
    (h : ∀ A w', IsVw A 1 1 A 0 → St w0 M w' (.own A 1 1 el sz cells :: L) → WpL P N ops K rest (e.set d (.slice A 1 1)) w') :
    WpL P N ops K (⟨some d, .buildSlice t 1 #[(0, x)], ty, pos, after, none⟩ :: rest) e w := by
  refine WpL.run (v := .slice (some ⟨w.heap.size, 0, none⟩) 1 1) (w' := w.alloc (.cells cells.toArray el)) hd (by simp only [execOp, Sem.run_bind]; simp only [List.map_toArray, List.map_cons, List.map_nil, hx]; rw [run_buildSlice1 hsz hn hf w]; simp) ?_
  refine h _ _ (IsVw.base (Nat.le_refl _) (by simp [maxLen]) (by simp)) ?_
  exact hS.new ((Below.refl _ _).alloc (Nat.le_refl _) _) ⟨by simpa using hl, .inr ⟨_, 1, _, rfl, Nat.zero_le _, Blk.new _ _ _, Nat.le_refl _, by simp [maxLen], by simp [hl], by simp [← hl]⟩⟩ rfl fun g hg => by simp [Ch.foot] at hg; omega
end
section
variable {w0 w : World} {M : Nat → Prop} {L L' : List Ch}
theorem RdsV.mem {V : Option Addr} {n : Nat} {ys : List Value} (h : RdsV L V n ys) (hs : ∀ w0 M w, St w0 M w L' → St w0 M w L) : RdsV L' V n ys := fun w0 M w hS => h w0 M w (hs _ _ _ hS)
theorem RdsV.left {V : Option Addr} {n : Nat} {ys : List Value} (h : RdsV L V n ys) (L' : List Ch) : RdsV (L ++ L') V n ys := h.mem fun _ _ _ hS => hS.sub (List.sublist_append_left _ _)
theorem RdsV.right {V : Option Addr} {n : Nat} {ys : List Value} (h : RdsV L V n ys) (L' : List Ch) : RdsV (L' ++ L) V n ys := h.mem fun _ _ _ hS => hS.sub (List.sublist_append_right _ _)
/-- A view of what is read whole. -/
theorem RdsV.view {A V : Option Addr} {n m c o : Nat} {ys : List Value} (h : RdsV L A m ys) (hV : IsVw V n c A o) (hm : o + n ≤ m) : RdsV L V n ((ys.drop o).take n) := fun w0 M w hS => by
  obtain ⟨h1, h2⟩ := h w0 M w hS
  refine ⟨hV.rd h1 (Nat.le_refl _), ?_⟩
  rw [List.length_take, List.length_drop]
  omega
theorem RdsV.rowAt {V : Option Addr} {n : Nat} {ys : List Value} {k m : Nat} (h : RdsV L V n ys) (hS : St w0 M w L) (_ : k + m ≤ n) : At w ((adr V).add k) ((ys.drop k).take m) := by
  obtain ⟨h1, _⟩ := h w0 M w hS
  rcases h1 with rfl | ⟨a, rfl, hat⟩
  · intro j u hu; simp at hu
  · exact (hat.drop k).take m
end
theorem IsVw.whole' {V V' : Option Addr} {n c : Nat} (h : IsVw V' n c V 0) (hc : c ≠ 0) : V' = V := by
  rcases h.at_ with h1 | ⟨a, h1, h2⟩
  · exact absurd h1 hc
  · rw [h1, h2, add_zero]
theorem IsVw.self {V A : Option Addr} {n c o : Nat} (h : IsVw V n c A o) : IsVw V n c V 0 := ⟨h.le, h.max, by
  rcases h.at_ with h1 | ⟨a, h1, h2⟩
  · exact .inl h1
  · exact .inr ⟨_, h2, by rw [add_zero]; exact h2⟩⟩
/-- Whether an operation is wanted. -/
theorem wanted_of {ops : Array Oper} {o : Oper} {e : Env} {j d : Nat} {b c : Bool} (hg : o.guard = some (j, b)) (hj : (ops[j]?).bind (·.dst) = some d) (he : e d = .bool c) (hc : c = b) : Region.wanted o (yieldedE ops e) = true := by
  simp [Region.wanted, hg, yieldedE, hj, he, hc]
theorem unwanted_of {ops : Array Oper} {o : Oper} {e : Env} {j d : Nat} {b c : Bool} (hg : o.guard = some (j, b)) (hj : (ops[j]?).bind (·.dst) = some d) (he : e d = .bool c) (hc : c = !b) : Region.wanted o (yieldedE ops e) = false := by
  subst hc
  simp only [Region.wanted, hg, yieldedE, hj, he]
  cases b <;> rfl
end Go.Fk
