/-
  Parts of a proof: More rules over the parts of memory: pointers against nil, least and greatest, functions as values, what may only be appended to, noughts appended, parts of rows, numbers that are read and written as one (sync/atomic). They hold for any program; conditions stand at each theorem; Noughts appended to bytes. It holds for any program; conditions stand at each theorem; What the walk over the parts of memory finds by itself; the walk, and where it stops: what it leaves to be shown is its own answer; Quiet reading of whatever parts are known; the builtin copy into a slice of the call's own. It holds for any program; conditions stand at each theorem; A part of a slice, in a region that draws its order. It holds for any program; conditions stand at each theorem; Functions that defer calls: the frame's deferred calls stand beside the env. It holds for any program; conditions stand at each theorem; A range over a function: the walk of a round's body, the loop's law, and an iterator's contract, over what is known of memory. It holds for any program; conditions stand at each theorem.
-/
import Derived.Laws.Externs
import Derived.Laws.CopyRow
import Derived.Laws.IdiomCopy
import Derived.Defers
import Derived.RangeFuncCalls
import Derived.RangeFuncLeaves
import Derived.RangeFuncBound
import Derived.TacticsIn
import Derived.Test.YtaapnfoimcccjaaLawBlocksPlayM2
set_option linter.unusedVariables false
namespace Go.Fk
open Go.RowKit

class PtrT (P : Program) (t : TypeId) : Prop where
  hu : ∃ el, P.underlying t = some (.pointer el)
section
variable {P : Program} {I : World → Prop} {ty : TypeId} {e : Env} {x y : Operand} {v : Value} {t el t' : TypeId}
theorem Det.nilCheck {a : Addr} (hx : e.eval x = .pointer (some a)) : Det P I (.nilCheck x) ty e (.pointer (some a)) := fun _ _ _ _ _ _ => by simp [execOp, hx]
theorem run_equalIn_nilP {t el : TypeId} (hu : P.underlying t = some (.pointer el)) {A : Option Addr} (d : Nat) (w : World) : (Op.equalIn (d + 1) t (.pointer A) (.pointer none)).run P w = .ok A.isNone w := by
  cases A <;> simp [Op.equalIn, run_underlying hu]
theorem Det.eqlNilP [h : PtrT P t] {A : Option Addr} (hx : e.eval x = .pointer A) (hy : e.eval y = .pointer none) : Det P I (.binOp .eql t x y t') ty e (.bool A.isNone) := fun _ _ _ _ w _ => by
  obtain ⟨el, hu⟩ := h.hu
  have := run_equalIn_nilP (P := P) hu (A := A) 9999 w
  simp only [execOp, hx, hy, eqGuard, binOp]
  simp [Op.equal, Op.maxDepth, this]
theorem Det.neqNilP [h : PtrT P t] {A : Option Addr} (hx : e.eval x = .pointer A) (hy : e.eval y = .pointer none) : Det P I (.binOp .neq t x y t') ty e (.bool A.isSome) := fun _ _ _ _ w _ => by
  obtain ⟨el, hu⟩ := h.hu
  have := run_equalIn_nilP (P := P) hu (A := A) 9999 w
  simp only [execOp, hx, hy, eqGuard, binOp]
  cases A <;> simp [Op.equal, Op.maxDepth, this]
theorem Det.min {k k' : IntKind} {a b : Int} {ts : Array TypeId} (hx : e.eval x = .int k a) (hy : e.eval y = .int k' b) : Det P I (.call { callee := .builtin .min, args := #[x, y], argTypes := ts }) ty e (.int k (min a b)) := fun _ _ _ _ _ _ => by
  simp [execOp, resolve, invoke, builtin, hx, hy, Builtin.min_, Builtin.min2]
  split <;> omega
theorem Det.max {k k' : IntKind} {a b : Int} {ts : Array TypeId} (hx : e.eval x = .int k a) (hy : e.eval y = .int k' b) : Det P I (.call { callee := .builtin .max, args := #[x, y], argTypes := ts }) ty e (.int k (max a b)) := fun _ _ _ _ _ _ => by
  simp [execOp, resolve, invoke, builtin, hx, hy, Builtin.max_, Builtin.max2]
  split <;> omega
theorem Det.makeFunc {f : FuncId} {l : List Operand} {vs : List Value} (hv : Vals e l vs) : Det P I (.makeFunc (.func f) #[] l.toArray) ty e (.func (.func f) #[] vs.toArray) := fun _ _ _ _ _ _ => by
  simp [execOp, Instr.makeFunc, List.map_toArray, hv.map]
theorem Det.makeMeth {f : FuncId} {u : Operand} (hx : e.eval u = v) : Det P I (.makeFunc (.func f) #[u] #[]) ty e (.func (.func f) #[v] #[]) := fun _ _ _ _ _ _ => by
  simp [execOp, Instr.makeFunc, hx]
theorem Det.subN {a b : Int} {p q : Nat} (hx : e.eval x = .int .i64 a) (ha : a = (p : Int)) (hy : e.eval y = .int .i64 b) (hb : b = (q : Int)) (h : q ≤ p) (hp : p ≤ 9223372036854775807) : Det P I (.binOp .sub t x y t') ty e (.int .i64 ((p - q : Nat) : Int)) := by
  have := Det.sub (P := P) (I := I) (t := t) (t' := t') (ty := ty) hx hy (by omega) (by omega)
  rwa [show a - b = ((p - q : Nat) : Int) by omega] at this
/-- An element's address, of elements of any size; an array's, within a block. -/
theorem Det.ixS [SliceT P t el] {sz : Nat} [SizeT P el sz] {V A : Option Addr} {n c o m : Nat} {k : IntKind} {i : Int} (hx : e.eval x = .slice V n c) (hy : e.eval y = .int k i) (hv : IsVw V n c A o) (hi : i = (m : Int)) (hm : m < n) :
    Det P I (.indexAddr t x y) ty e (.pointer (some ((adr A).add (o + m * sz)))) := by
  have hle := hv.le
  rcases hv.at_ with h0 | ⟨a, rfl, rfl⟩
  · omega
  · subst hi
    have := Det.indexS (P := P) (I := I) (t := t) (ty := ty) hx hy (by omega) (by omega)
    rw [add_add] at this
    show Det P I (.indexAddr t x y) ty e (.pointer (some (a.add (o + m * sz))))
    simpa using this
theorem Det.ixA0 {n : Nat} [h : ArrT P t n el] [hs : SizeT P el 1] {g m : Nat} {k : IntKind} {i : Int} (hx : e.eval x = .pointer (some ⟨g, 0, none⟩)) (hy : e.eval y = .int k i) (hi : i = (m : Int)) (h1 : m < n) :
    Det P I (.indexAddr t x y) ty e (.pointer (some ⟨g, m, none⟩)) := by
  have := Det.indexA1B (P := P) (I := I) (t := t) (ty := ty) hx hy hi h1
  rwa [Nat.zero_add] at this
theorem Det.fieldV {s : TypeId} {k off o : Nat} {A : Option Addr} [h : FieldT P s k off] (hx : e.eval x = .pointer (some ((adr A).add o))) : Det P I (.fieldAddr s x k) ty e (.pointer (some ((adr A).add (o + off)))) := fun _ _ _ _ w _ => by
  have hf := h.h
  unfold fieldOff at hf
  split at hf
  · rename_i fs hu
    split at hf
    · rename_i f hk
      split at hf
      · rename_i i hi
        split at hf
        · cases hf
        · rename_i h0
          injection hf with hf
          subst hf
          simp [execOp, hx, Instr.fieldAt, run_underlying hu, hk, Instr.sureAddr, fieldPlace, sizeOf, typeInfo, hi, h0, add_add]
      · cases hf
    · cases hf
  · cases hf
end

section
variable {P : Program} {N : Nat} {ops : Array Oper} {K : Env → World → Prop} {rest : List Oper} {e : Env} {w : World} {ty : TypeId} {pos : String} {after : Array Edge} {x y : Operand}
variable {w0 : World} {M : Nat → Prop} {L L1 L' : List Ch} {t el : TypeId} {d : Tmp} {v : Value}

/-- A function that is a value. -/
theorem WpL.callV {f : FuncId} {caps : List Value} {u : Operand} {l : List Operand} {argTypes : Array TypeId} {vs : List Value} (hd : dOk N (some d) = true) (hu : e.eval u = .func (.func f) #[] caps.toArray) (hf : ∀ args w, (callFunc f args).run P w = .ok (.enter f args) w) (ha : Vals e l vs)
    (h : Calls P f (vs ++ caps).toArray w fun x w'' => ∃ v, x = .returned v ∧ WpL P N ops K rest (e.set d v) w'') :
    WpL P N ops K (⟨some d, .call { callee := .value u, args := l.toArray, argTypes }, ty, pos, after, none⟩ :: rest) e w :=
  ⟨hd, by
    rw [if_pos (by rfl)]
    unfold OpW
    have : (execOp e.eval ⟨some d, .call { callee := .value u, args := l.toArray, argTypes }, ty, pos, after, none⟩).run P w = .ok (.enter f (vs ++ caps).toArray) w := by
      simp [execOp, resolve, Deferred.ofValue, invoke, hu, List.map_toArray, ha.map, hf]
    rw [this]
    exact h⟩

/-- A text's bytes, of a constant: they stay as they are, may be read and appended to. -/
theorem WpL.mark [ht : SliceT P t el] [hb : IntT P el .u8] {A : Option Addr} {n : Nat} {xs : List Value} (hS : St w0 M w L) (hd : dOk N (some d) = true) (hx : e.eval x = .slice A n n) (hsw : Swap (.own A n n el 1 xs) (.app A n n el 1 xs) L L') (hn : 0 < n)
    (h : ∀ w', St w0 M w' L' → WpL P N ops K rest (e.set d (.slice A n n)) w') :
    WpL P N ops K (⟨some d, .convert t t x, ty, pos, after, none⟩ :: rest) e w := by
  obtain ⟨Γ, h2, h3⟩ := hsw.perm
  have hown : Sl w 0 el 1 (.slice A n n) n xs := ((hS.perm h2).hold _ List.mem_cons_self).1
  obtain ⟨hl, hown⟩ := hown
  rcases hown with ⟨_, h0⟩ | ⟨g, cap, cs, h4, _, hg, _, hm, hcs, htk⟩
  · omega
  · injection h4 with h4 h5 h6
    subst h4 h6
    refine WpL.markStr hd hx hg fun w' hgr hs hat => h w' (hS.swap hsw (Chg.of_grown hgr) (.inr ⟨rfl, hm, hl, _, rfl, ?_, ?_⟩) rfl fun g hg => .inl hg)
    · rw [hs]; exact (Array.getElem?_eq_some_iff.1 hg).1
    · rw [← htk]; exact hat.take _
theorem St.toApp {A : Option Addr} {n c sz : Nat} {xs : List Value} (hS : St w0 M w L) (hsw : Swap (.own A n c el sz xs) (.app A n c el sz xs) L L') : St w0 M w L' := by
  obtain ⟨Γ, h2, h3⟩ := hsw.perm
  exact hS.swap hsw (Chg.refl _ _) (.inl ((hS.perm h2).hold _ List.mem_cons_self).1) rfl fun g hg => .inl hg

theorem WpL.appA [ht : SliceT P t el] {sz bytes : Nat} {z : Value} [he : Elem P el sz bytes z] {A V : Option Addr} {n c m c2 : Nat} {xs ys zs : List Value} (hS : St w0 M w L) (hd : dOk N (some d) = true) (hx : e.eval x = .slice A n c) (hy : e.eval y = .slice V m c2)
    (hsel : Sel (.app A n c el sz xs) L L1) (hr : RdsV L V (m * sz) ys) (h1 : ∀ u ∈ ys, u.oneCell' = true) (hz : xs ++ ys = zs) (hb : (n + m) * bytes ≤ 140737488355328) (hm : n + m ≤ 9223372036854775807)
    (h : ∀ A' c' w', IsVw A' (n + m) c' A' 0 → St w0 M w' (.app A' (n + m) c' el sz zs :: L1) → WpL P N ops K rest (e.set d (.slice A' (n + m) c')) w') :
    WpL P N ops K (⟨some d, .call { callee := .builtin .append, args := #[x, y], argTypes := #[t, t] }, ty, pos, after, none⟩ :: rest) e w := by
  have hS1 := hS.pick hsel
  rcases (show Sl w 0 el sz (.slice A n c) n xs ∨ Full w A n c sz xs from (hS1.hold _ List.mem_cons_self).1) with hown | hfull
  · -- of its own
    have hS2 : St w0 M w (.own A n c el sz xs :: L1) := hS1.put (Chg.refl _ _) hown rfl fun g hg => .inl hg
    subst hz
    obtain ⟨hrd, hlen⟩ := hr w0 M w hS
    refine WpL.append hd hx hy hown hrd hlen h1 hb (by simp only [maxLen]; omega) (Nat.zero_le _) fun v' w' ⟨h2, h3, h4⟩ => ?_
    obtain ⟨A', c', rfl, h5, h6, h7, _⟩ := h2.form
    refine h A' c' w' (IsVw.base h5 h6 fun h => (h7 h).2) (hS2.put ⟨h3.os, h3.tape, h3.output, h3.size, fun k hk hf => h3.block k hk fun hk' => hf ?_⟩ (.inl h2) rfl fun g hg => ?_)
    · cases A with
      | none => simp [Value.ownBlock] at hk'
      | some a => simpa [Value.ownBlock, Ch.foot] using hk'.symm
    · cases A' with
      | none => simp [Ch.foot] at hg
      | some a' =>
        simp only [Ch.foot, Option.map_some, Option.some.injEq] at hg
        rcases h4 with h4 | ⟨g', h4, h8⟩
        · left
          cases A with
          | none => simp [Value.ownBlock] at h4
          | some a => simp only [Value.ownBlock, Option.some.injEq] at h4; simp only [Ch.foot, Option.map_some, Option.some.injEq]; omega
        · right
          simp only [Value.ownBlock, Option.some.injEq] at h4; omega
  · obtain ⟨rfl, hmax, hlx, a, rfl, hab, hat⟩ := hfull
    obtain ⟨hrd, hlen⟩ := hr w0 M w hS
    obtain ⟨i, hi, hzz, hsize, hby⟩ := he.get
    have hzs := he.zs
    have hszp := he.pos
    by_cases hm0 : m = 0
    · subst hm0
      have hys : ys = [] := List.eq_nil_of_length_eq_zero (by simpa using hlen)
      subst hys
      rw [List.append_nil] at hz
      subst hz
      have hrun : (Builtin.append_ #[t, t] ty #[.slice (some a) c c, .slice V 0 c2]).run P w = .ok (.slice (some a) c c) w := by
        cases V <;> simp [Builtin.append_, run_underlying ht.hu, sizeOf, typeInfo, hi, Builtin.lenOf, Builtin.firstCells, storeCells, loadCells, loadCellsFrom]
      refine WpL.run hd (v := .slice (some a) c c) (w' := w) (by simp [execOp, resolve, invoke, builtin, hx, hy, hrun]) ?_
      have := h (some a) c w (IsVw.base (Nat.le_refl _) hmax (by simp)) (by simpa using hS1)
      exact this
    · have hpos : 0 < ys.length := by rw [hlen]; exact Nat.mul_pos (by omega) hszp
      obtain ⟨a2, rfl, hat2⟩ := hrd.at_ hpos
      have hrun := run_append_grow (P := P) w t ty el i z ht.hu hi hzz a c c xs (by rw [hlx, hsize]) (fun j u hu => hat j u hu) a2 m c2 ys (by rw [hlen, hsize]) (fun j u hu => hat2 j u hu) (by omega) (by omega) (growslice_fits (by omega) (by rw [hby]; exact hb))
      refine WpL.run hd (v := .slice (some ⟨w.heap.size, 0, none⟩) (c + m) (grownCap w (c + m) c el)) (w' := w.drew.alloc (.cells (xs.toArray ++ ys.toArray ++ Builtin.zeroCells z.cells (grownCap w (c + m) c el - (c + m))) el)) (by simp [execOp, resolve, invoke, builtin, hx, hy, hrun]) (h _ _ _ (IsVw.base (grownCap_ge w (c + m) c el) (grownCap_le_maxLen w (c + m) c el (by simp only [maxLen]; omega)) (by simp)) ?_)
      subst hz
      have hS3 : St w0 M w L1 := hS1.tail
      refine hS3.new ((Below.refl _ _).drew.alloc (Nat.le_refl _) _) (.inl ⟨?_, .inr ⟨w.heap.size, _, _, rfl, Nat.zero_le _, heap_alloc_new w.drew _, grownCap_ge w (c + m) c el, grownCap_le_maxLen w (c + m) c el (by simp only [maxLen]; omega), ?_, ?_⟩⟩) rfl fun g hg => by simp [Ch.foot] at hg; omega
      · rw [List.length_append, hlx, hlen, Nat.add_mul]
      · have hge := grownCap_ge w (c + m) c el
        simp only [Array.size_append, List.size_toArray, size_zeroCells, hzs, hlx, hlen, ← Nat.add_mul]
        refine Nat.le_of_eq ?_
        congr 1
        omega
      · have hlen2 : (xs ++ ys).length = (c + m) * sz := by rw [List.length_append, hlx, hlen, Nat.add_mul]
        simp only [Array.toList_append, List.append_assoc]
        rw [← List.append_assoc, ← hlen2]
        exact List.take_left

/-- A struct or an array out of the middle. -/
theorem At.cells {a : Addr} {xs : List Value} (h : At w a xs) : (loadCells a xs.length).run P w = .ok xs.toArray w := run_loadCells_list w a xs h
theorem Det.ldMid {I : World → Prop} {ty' : TypeId} {n : Nat} [h : RowT P ty'] [hs : SizeT P ty' n] {a : Addr} {cs : List Value} (hx : e.eval x = .pointer (some a)) (hat : ∀ w, I w → At w a cs) (hn : cs.length = n) : Det P I (.load ty' x) ty e (.agg cs.toArray) := fun _ _ _ _ w hw => by
  obtain ⟨d, hu, hd⟩ := h.hu
  have hagg : (isAgg ty').run P w = .ok true w := by
    unfold isAgg
    rw [Sem.run_bind, run_underlying hu w]
    cases d <;> simp_all
  have hc := (hat w hw).cells (P := P)
  rw [hn] at hc
  simp [execOp, hx, Instr.loadAt, Instr.sureAddr, loadVar, hagg, SizeT.run (P := P) (t := ty') w, hc]
theorem Rds.at_ {A : Option Addr} {xs : List Value} (h : Rds L A xs) (hS : St w0 M w L) (k n : Nat) (hk : k + n ≤ xs.length) : At w ((adr A).add k) ((xs.drop k).take n) := by
  rcases h.rd hS with rfl | ⟨a, rfl, hat⟩
  · intro j u hu; simp at hu
  · exact (hat.drop k).take n
theorem WpL.ldMid {ty' : TypeId} {n k : Nat} [RowT P ty'] [SizeT P ty' n] {A : Option Addr} {xs : List Value} (hS : St w0 M w L) (hd : dOk N (some d) = true) (hx : e.eval x = .pointer (some ((adr A).add k))) (hr : Rds L A xs) (hk : k + n ≤ xs.length)
    (h : WpL P N ops K rest (e.set d (.agg ((xs.drop k).take n).toArray)) w) : WpL P N ops K (⟨some d, .load ty' x, ty, pos, after, none⟩ :: rest) e w :=
  WpL.det hd (Det.ldMid hx (by rintro _ rfl; exact hr.at_ hS k n hk) (by simp; omega)) h

/-! ### Functions without a body -/
class ExtF (P : Program) (f : FuncId) (ex : outParam (Array Value → Sem Value)) : Prop where
  run : ∀ args w, (callFunc f args).run P w = ((ex args).run P w).andThen fun v w' => .ok (.value v) w'
theorem WpL.ext {f : FuncId} {ex : Array Value → Sem Value} [hf : ExtF P f ex] {l : List Operand} {argTypes : Array TypeId} {vs : List Value} {w' : World} (hd : dOk N (some d) = true) (ha : Vals e l vs) (hr : (ex vs.toArray).run P w = .ok v w')
    (h : WpL P N ops K rest (e.set d v) w') : WpL P N ops K (⟨some d, .call { callee := .value (.func f), args := l.toArray, argTypes }, ty, pos, after, none⟩ :: rest) e w :=
  WpL.run hd (w' := w') (by simp [execOp, resolve, Deferred.ofValue, invoke, Env.eval, List.map_toArray, ha.map, hf.run, hr]) h
theorem run_atomRead {k : IntKind} {a : Addr} {n : Int} (hc : w.cell? a = some (.int k n)) : (Extern.Atomic.read (.int k) a).run P w = .ok (.int k n) w := by
  simp [Extern.Atomic.read, hc]
theorem run_atomLoad {k : IntKind} {a : Addr} {n : Int} (hc : w.cell? a = some (.int k n)) : (Extern.Atomic.loadT (.int k) #[.pointer (some a)]).run P w = .ok (.int k n) w := by
  show (do Extern.Atomic.read (.int k) (← asAddr (.pointer (some a))) : Sem Value).run P w = _
  simp [asAddr, run_atomRead hc]
theorem run_atomStore {k : IntKind} {a : Addr} {n : Int} (h : Stores w a (.int k n)) : (Extern.Atomic.storeT #[.pointer (some a), .int k n]).run P w = .ok (.tuple #[]) (w.setCell a (.int k n)) := by
  obtain ⟨⟨u, h1⟩, h2, h3⟩ := h
  have hst := run_store P w a (.int k n) .atomic rfl
  rw [h1] at hst
  simp only [h2, Bool.false_eq_true, if_false] at hst
  show (do store (← asAddr (.pointer (some a))) (.int k n) .atomic; pure Extern.Atomic.none_ : Sem Value).run P w = _
  simp [asAddr, hst, Extern.Atomic.none_]
theorem run_touches {a : Addr} {u : Value} (hc : w.cell? a = some u) (h2 : w.frozen? a = false) : (Extern.Atomic.touchesFrozen a).run P w = .ok false w := by
  have hsh : ∃ t n, w.shape? a.block = some (t, n) := by
    unfold World.cell? at hc
    unfold World.shape?
    split at hc
    · rename_i h; exact ⟨_, _, rfl⟩
    · cases hc
  obtain ⟨t, n, hsh⟩ := hsh
  simp [Extern.Atomic.touchesFrozen, viewAt, hsh, h2]
theorem run_atomCas {k : IntKind} {a : Addr} {n : Int} {b : Int} (hc : w.cell? a = some (.int k n)) (h : Stores w a (.int k b)) : (Extern.Atomic.casT (.int k) #[.pointer (some a), .int k n, .int k b]).run P w = .ok (.bool true) (w.setCell a (.int k b)) := by
  obtain ⟨⟨u, h1⟩, h2, h3⟩ := h
  have hst := run_store P w a (.int k b) .atomic rfl
  rw [h1] at hst
  simp only [h2, Bool.false_eq_true, if_false] at hst
  change Sem.run P (asAddr (.pointer (some a)) >>= _) w = _
  simp [asAddr, run_touches hc h2, run_atomRead hc]
  change Sem.run P (if n = n then (fun _ => Value.bool (n == n)) <$> store a (.int k b) .atomic else pure (Value.bool (n == n))) w = _
  simp [hst]
theorem WpL.atLoad {f : FuncId} {k : IntKind} [ExtF P f (Extern.Atomic.loadT (.int k))] {a : Addr} {n : Int} {argTypes : Array TypeId} (hS : St w0 M w L) (hd : dOk N (some d) = true) (hx : e.eval x = .pointer (some a)) (hl : Look L a (.int k n))
    (h : WpL P N ops K rest (e.set d (.int k n)) w) : WpL P N ops K (⟨some d, .call { callee := .value (.func f), args := #[x], argTypes }, ty, pos, after, none⟩ :: rest) e w :=
  WpL.ext (l := [x]) (vs := [.pointer (some a)]) hd ⟨hx, trivial⟩ (run_atomLoad (hl.cell hS)) h
theorem WpL.atStore {f : FuncId} {k : IntKind} [ExtF P f Extern.Atomic.storeT] {a : Addr} {n : Int} {argTypes : Array TypeId} (hS : St w0 M w L) (hd : dOk N (some d) = true) (hx : e.eval x = .pointer (some a)) (hy : e.eval y = .int k n) (hu : Upd L a (.int k n) L')
    (h : ∀ w', St w0 M w' L' → WpL P N ops K rest (e.set d (.tuple #[])) w') : WpL P N ops K (⟨some d, .call { callee := .value (.func f), args := #[x, y], argTypes }, ty, pos, after, none⟩ :: rest) e w := by
  obtain ⟨h1, h2⟩ := hu.run rfl hS
  exact WpL.ext (l := [x, y]) (vs := [.pointer (some a), .int k n]) hd ⟨hx, hy, trivial⟩ (run_atomStore h1) (h _ h2)
theorem WpL.atCas {f : FuncId} {k : IntKind} [ExtF P f (Extern.Atomic.casT (.int k))] {a : Addr} {n b : Int} {z : Operand} {argTypes : Array TypeId} (hS : St w0 M w L) (hd : dOk N (some d) = true) (hx : e.eval x = .pointer (some a)) (hy : e.eval y = .int k n) (hz : e.eval z = .int k b) (hl : Look L a (.int k n)) (hu : Upd L a (.int k b) L')
    (h : ∀ w', St w0 M w' L' → WpL P N ops K rest (e.set d (.bool true)) w') : WpL P N ops K (⟨some d, .call { callee := .value (.func f), args := #[x, y, z], argTypes }, ty, pos, after, none⟩ :: rest) e w := by
  obtain ⟨h1, h2⟩ := hu.run rfl hS
  exact WpL.ext (l := [x, y, z]) (vs := [.pointer (some a), .int k n, .int k b]) hd ⟨hx, hy, hz, trivial⟩ (run_atomCas (hl.cell hS) h1) (h _ h2)
end

/-! ### Guards in regions -/
section
variable {P : Program} {n : Nat} {ops : Array Oper} {K : Env → World → Prop} {w w0 : World} {Fin : (Tmp → Spec) → Prop} {rest : List Oper} {e : Env} {E : Open} {ty : TypeId} {pos : String} {after : Array Edge}
theorem RgD.unguard {o : Op} {dst : Option Tmp} {j d : Nat} {b c : Bool} (hj : (ops[j]?).bind (·.dst) = some d) (he : e d = .bool c) (hc : c = b) (hE : (E.map (·.1)).contains d = false)
    (h : RgD P n ops w0 Fin (⟨dst, o, ty, pos, after, none⟩ :: rest) e E) : RgD P n ops w0 Fin (⟨dst, o, ty, pos, after, some (j, b)⟩ :: rest) e E := fun hn => by
  obtain ⟨V, h1, h2, h3, h4⟩ := h hn
  refine ⟨V, h1, h2, fun e1 w hI hg => ?_, h4⟩
  have hd : e1 d = .bool c := by
    have := hg d (by simp only [Oper.looksAt, hj]; exact List.mem_append_right _ (by simp))
    rw [gam_off (by simpa using hE)] at this
    rw [this, he]
  have h5 := h3 e1 w hI (fun t ht => hg t (by
    simp only [Oper.looksAt, List.append_nil] at ht ⊢
    exact List.mem_append_left _ ht))
  rw [if_pos (by rfl)] at h5
  rw [if_pos (by simp [Region.wanted, yieldedE, hj, hd, hc])]
  exact h5
theorem WpL.skipU {o : Op} {dst : Option Tmp} {j d : Nat} {b : Bool} (hj : (ops[j]?).bind (·.dst) = some d) (he : e d = undef) (hd : dOk n dst = true) (h : WpL P n ops K rest (e.setD dst undef) w) :
    WpL P n ops K (⟨dst, o, ty, pos, after, some (j, b)⟩ :: rest) e w :=
  ⟨hd, by
    rw [if_neg (by simp [Region.wanted, yieldedE, hj, he, undef])]
    exact h⟩
theorem RgD.skipU {o : Op} {j d d' : Nat} {b : Bool} (hj : (ops[j]?).bind (·.dst) = some d) (he : e d = undef) (hd : dOk n (some d') = true) (hs : notSelect o = true) (hk : (E.map (·.1)).contains d' = false)
    (hE : sub ((⟨some d', o, ty, pos, after, some (j, b)⟩ : Oper).looksAt ops) E = [])
    (hr : RgD P n ops w0 Fin rest (e.set d' undef) E) : RgD P n ops w0 Fin (⟨some d', o, ty, pos, after, some (j, b)⟩ :: rest) e E :=
  RgD.known hd hs hk [] hE (fun w hw => WpL.skipU hj he hd (WpL.nil ⟨⟨hw, Below.refl _ _⟩, Env.set_same _ _ _⟩)) hr
end
end Go.Fk

namespace Go.Fk
open Go.RowKit

section
variable {P : Program} {N : Nat} {ops : Array Oper} {K : Env → World → Prop} {rest : List Oper} {e : Env} {w : World} {ty : TypeId} {pos : String} {after : Array Edge} {x y : Operand}
variable {w0 : World} {M : Nat → Prop} {L L1 : List Ch} {t el ti : TypeId} {d : Tmp}
theorem zeroCells_u8 (m : Nat) : Builtin.zeroCells #[.int .u8 0] m = (List.replicate m (Value.int .u8 0)).toArray := by
  apply Array.ext'
  refine List.ext_getElem (by simp [Builtin.zeroCells]) fun j h1 h2 => ?_
  have h3 : j % 1 = 0 := Nat.mod_one j
  simp [Builtin.zeroCells, h3]
theorem run_appendZ_none [ht : SliceT P t el] {k : IntKind} [hti : IntT P ti k] [he : Elem P el 1 1 (.int .u8 0)] {A : Option Addr} {n c : Nat} (hn : n ≤ c) : (Builtin.append_ #[t, ti] ty #[.slice A n c, .int .i64 0]).run P w = .ok (.slice A n c) w := by
  obtain ⟨inf, hinf, hz, hsize, hby⟩ := he.get
  have hw : IntKind.i64.wrap 0 = 0 := rfl
  cases A <;> simp [Builtin.append_, run_underlying ht.hu, run_underlying hti.hu, sizeOf, typeInfo, hinf, asInt, asIntOf, hw, hn, storeCells]
theorem run_appendZ_grow [ht : SliceT P t el] {k : IntKind} [hti : IntT P ti k] [he : Elem P el 1 1 (.int .u8 0)] {A : Option Addr} {n c m : Nat} {xs : List Value} (hm0 : 0 < m) (hlx : xs.length = n) (hr : Rd w A xs) (hg : c < n + m) (hm : n + m ≤ 140737488355328) :
    (Builtin.append_ #[t, ti] ty #[.slice A n c, .int .i64 (m : Int)]).run P w =
      .ok (.slice (some ⟨w.heap.size, 0, none⟩) (n + m) (grownCap w (n + m) c el)) (w.drew.alloc (.cells (xs.toArray ++ (List.replicate m (Value.int .u8 0)).toArray ++ Builtin.zeroCells #[.int .u8 0] (grownCap w (n + m) c el - (n + m))) el)) := by
  obtain ⟨inf, hinf, hz, hsize, hby⟩ := he.get
  have hw : IntKind.i64.wrap (m : Int) = m := wrap_i64 (by omega) (by omega)
  have hneg : ¬ ((m : Int) < 0) := by omega
  have hbig : ¬ (281474976710656 < (m : Int)) := by omega
  have hn : ¬ (n + m ≤ c) := by omega
  have h63 : ¬ (9223372036854775807 < ((n : Int) + (m : Int))) := by omega
  have h48 := growslice_fits (need := n + m) (old := c) (bytes := 1) (by omega) (by omega)
  have h48' : ¬ (281474976710656 < Builtin.nextslicecap (n + m) c) := by simpa using h48
  have hm00 : ¬ m = 0 := by omega
  have hfo : (Builtin.firstCells 1 n (.slice A n c)).run P w.drew = .ok xs.toArray w.drew := by
    rcases hr with rfl | ⟨a, rfl, hat⟩
    · simp only [List.length_nil] at hlx
      subst hlx
      cases A <;> simp [Builtin.firstCells, loadCells, loadCellsFrom]
    · exact run_firstCells_some (P := P) w.drew 1 n a n c xs (by omega) (fun j u hu => hat j u hu)
  simp [Builtin.append_, run_underlying ht.hu, run_underlying hti.hu, sizeOf, typeInfo, hinf, hsize, hby, asInt, asIntOf, hw, hneg, hbig, hn, h63, h48', hm00, Question.forced, hfo, zeroValue, hz, Value.cells, zeroCells_u8, newRow, grownCap]
theorem run_appendZ_room [ht : SliceT P t el] {k : IntKind} [hti : IntT P ti k] [he : Elem P el 1 1 (.int .u8 0)] {g n c m : Nat} {cur : Array Value} (hm0 : 0 < m) (hg : w.heap[g]? = some (.cells cur el (0, 0))) (hroom : n + m ≤ c) (hfit : n + m ≤ cur.size) (hm : n + m ≤ 140737488355328) :
    (Builtin.append_ #[t, ti] ty #[.slice (some ⟨g, 0, none⟩) n c, .int .i64 (m : Int)]).run P w =
      .ok (.slice (some ⟨g, 0, none⟩) (n + m) c) (w.setRow g (cur.toList.take n ++ List.replicate m (Value.int .u8 0) ++ cur.toList.drop (n + m)).toArray) := by
  obtain ⟨inf, hinf, hz, hsize, hby⟩ := he.get
  have hw : IntKind.i64.wrap (m : Int) = m := wrap_i64 (by omega) (by omega)
  have hneg : ¬ ((m : Int) < 0) := by omega
  have hbig : ¬ (281474976710656 < (m : Int)) := by omega
  have hm00 : ¬ m = 0 := by omega
  have hst := run_storeCells_at P g n el (List.replicate m (Value.int .u8 0)) 0 cur w hg (by simpa using hfit) (by simp [Value.oneCell'])
  simp only [Nat.add_zero, List.length_replicate] at hst
  simp [Builtin.append_, run_underlying ht.hu, run_underlying hti.hu, sizeOf, typeInfo, hinf, hsize, hby, asInt, asIntOf, hw, hneg, hbig, hroom, hm00, zeroValue, hz, Value.cells, zeroCells_u8, Addr.add_lit, hst]

theorem WpL.appZ [ht : SliceT P t el] {k : IntKind} [hti : IntT P ti k] [he : Elem P el 1 1 (.int .u8 0)] {A : Option Addr} {n c m : Nat} {i : Int} {l : List UInt8} (hS : St w0 M w L) (hd : dOk N (some d) = true) (hx : e.eval x = .slice A n c) (hy : e.eval y = .int .i64 i) (hi : i = (m : Int)) (hV : IsVw A n c A 0)
    (hsel : Sel (.app A n c el 1 (bv l)) L L1) (hm : n + m ≤ 140737488355328)
    (h : ∀ A' c' w', IsVw A' (n + m) c' A' 0 → St w0 M w' (.app A' (n + m) c' el 1 (bv (l ++ List.replicate m 0)) :: L1) → WpL P N ops K rest (e.set d (.slice A' (n + m) c')) w') :
    WpL P N ops K (⟨some d, .call { callee := .builtin .append, args := #[x, y], argTypes := #[t, ti] }, ty, pos, after, none⟩ :: rest) e w := by
  subst hi
  have hS1 := hS.pick hsel
  have hc := (hS1.hold _ List.mem_cons_self).1
  have hrd : Rd w A (bv l) := Ch.app_rd hc
  have hlen : l.length = n := by
    rcases (show Sl w 0 el 1 (.slice A n c) n (bv l) ∨ Full w A n c 1 (bv l) from hc) with h | h
    · have := h.1; simpa using this
    · have := h.2.2.1; simpa using this
  have hcat : bv (l ++ List.replicate m 0) = bv l ++ List.replicate m (Value.int .u8 0) := by rw [bv_append, replicate_bv]
  by_cases h0 : m = 0
  · subst h0
    have hrun := run_appendZ_none (P := P) (t := t) (ti := ti) (ty := ty) (w := w) (A := A) hV.le
    exact WpL.run hd (v := .slice A n c) (w' := w) (by simp [execOp, resolve, invoke, builtin, hx, hy, hrun]) (h A c w (by simpa using hV) (by simpa using hS1))
  · by_cases hroom : n + m ≤ c
    · rcases (show Sl w 0 el 1 (.slice A n c) n (bv l) ∨ Full w A n c 1 (bv l) from hc) with ⟨h1, h2⟩ | hfull
      · rcases h2 with ⟨h2, h3⟩ | ⟨g, cap, cur, h2, _, hg, hn, hmx, hcs, htk⟩
        · injection h2 with h2 h4 h5
          omega
        · injection h2 with h2 h4 h5
          subst h2 h5
          have hrun := run_appendZ_room (P := P) (t := t) (ti := ti) (ty := ty) (by omega : 0 < m) hg hroom (by omega) hm
          refine WpL.run hd (v := .slice (some ⟨g, 0, none⟩) (n + m) c) (w' := w.setRow g (cur.toList.take n ++ List.replicate m (Value.int .u8 0) ++ cur.toList.drop (n + m)).toArray) (by simp [execOp, resolve, invoke, builtin, hx, hy, hrun]) (h _ _ _ ⟨by omega, hV.max, hV.at_⟩ ?_)
          refine hS1.put (Chg.of_grown (grown_setRow _ _ _)) (.inl ⟨by simp [hlen], .inr ⟨g, c, _, rfl, Nat.zero_le _, setRow_heap w g cur _ el _ hg, hroom, hmx, ?_, ?_⟩⟩) rfl fun g hg => .inl hg
          · simp only [List.size_toArray, List.length_append, List.length_take, List.length_drop, List.length_replicate, Array.length_toList]
            omega
          · rw [Nat.mul_one] at htk
            rw [Nat.mul_one, htk, hcat]
            have : n + m = (bv l ++ List.replicate m (Value.int .u8 0)).length := by simp [hlen]
            rw [this]
            exact List.take_left
      · obtain ⟨h1, _⟩ := hfull
        omega
    · have hrun := run_appendZ_grow (P := P) (t := t) (el := el) (ti := ti) (ty := ty) (c := c) (by omega : 0 < m) (by simpa using hlen) hrd (by omega) hm
      have hge := grownCap_ge w (n + m) c el
      have hle := grownCap_le_maxLen w (n + m) c el (by simp only [maxLen]; omega)
      generalize hW : w.drew.alloc (.cells ((bv l).toArray ++ (List.replicate m (Value.int .u8 0)).toArray ++ Builtin.zeroCells #[.int .u8 0] (grownCap w (n + m) c el - (n + m))) el) = W' at hrun
      refine WpL.run hd (v := .slice (some ⟨w.heap.size, 0, none⟩) (n + m) (grownCap w (n + m) c el)) (w' := W') (by simp [execOp, resolve, invoke, builtin, hx, hy, hrun]) (h _ _ _ (IsVw.base hge hle (by simp)) ?_)
      subst hW
      refine hS1.tail.new ((Below.refl _ _).drew.alloc (Nat.le_refl _) _) (.inl ⟨by simp [hlen], .inr ⟨w.heap.size, _, _, rfl, Nat.zero_le _, heap_alloc_new w.drew _, hge, hle, ?_, ?_⟩⟩) rfl fun g hg => by simp [Ch.foot] at hg; omega
      · simp only [Array.size_append, List.size_toArray, size_zeroCells, bv_length, List.length_replicate, hlen]
        simp
        omega
      · have : (n + m) * 1 = (bv l ++ List.replicate m (Value.int .u8 0)).length := by simp [hlen]
        rw [hcat, this]
        simp only [Array.toList_append, List.append_assoc]
        rw [← List.append_assoc]
        exact List.take_left
end

theorem RgD.ldRow {P : Program} {n : Nat} {ops : Array Oper} {w w0 : World} {M : Nat → Prop} {L L1 : List Ch} {Fin : (Tmp → Spec) → Prop} {rest : List Oper} {e : Env} {E : Open} {ty : TypeId} {pos : String} {after : Array Edge} {d : Tmp} {x : Operand} {k g : Nat} {t ty' : TypeId} {cs : List Value}
    [RowT P ty'] [SizeT P ty' k] (hS : St w0 M w L) (hd : dOk n (some d) = true) (hk : (E.map (·.1)).contains d = false) (hE : sub ((⟨some d, .load ty' x, ty, pos, after, none⟩ : Oper).looksAt ops) E = [])
    (hx : e.eval x = .pointer (some ⟨g, 0, none⟩)) (hsel : Sel (.blk g t cs) L L1) (hn : cs.length = k) (h : RgD P n ops w Fin rest (e.set d (.agg cs.toArray)) E) : RgD P n ops w Fin (⟨some d, .load ty' x, ty, pos, after, none⟩ :: rest) e E :=
  RgD.det hd rfl hk hE (Det.loadRow (t := t) (cs := cs.toArray) hx (fun _ hw => (hS.below hw).is hsel) (by simpa using hn)) h
end Go.Fk

namespace Go.Fk
open Go.RowKit
theorem natFound {i : Int} {m : Nat} (h : i = (m : Int) := by (first | with_reducible rfl | exact (Int.cast_ofNat_Int).symm | with_reducible assumption | exact (Int.toNat_of_nonneg (by omega)).symm | exact rfl)) : i = (m : Int) := h
theorem lenFound {p : Prop} (h : p := by (first | rfl | omega | (simp only [bv_length, zv_length, uv_length, List.length_append, List.length_cons, List.length_nil, List.length_set, List.length_replicate, List.length_take, List.length_drop, List.length_map]; omega))) : p := h
theorem Look.found {L : List Ch} {a : Addr} {v : Value} (h : Look L a v := by (first | assumption | (repeat (first | ((with_reducible apply Look.blk); (· exact rfl)) | ((with_reducible apply Look.own); (· (first | ((with_reducible apply bvg); (· (first | rfl | omega | (simp only [bv_length, zv_length, uv_length, List.length_append, List.length_cons, List.length_nil, List.length_set, List.length_replicate, List.length_take, List.length_drop, List.length_map]; omega)))) | ((with_reducible apply zvg); (· (first | rfl | omega | (simp only [bv_length, zv_length, uv_length, List.length_append, List.length_cons, List.length_nil, List.length_set, List.length_replicate, List.length_take, List.length_drop, List.length_map]; omega)))) | ((with_reducible apply uvg); (· (first | rfl | omega | (simp only [bv_length, zv_length, uv_length, List.length_append, List.length_cons, List.length_nil, List.length_set, List.length_replicate, List.length_take, List.length_drop, List.length_map]; omega)))) | exact rfl))) | ((with_reducible apply Look.ro); (· (first | ((with_reducible apply bvg); (· (first | rfl | omega | (simp only [bv_length, zv_length, uv_length, List.length_append, List.length_cons, List.length_nil, List.length_set, List.length_replicate, List.length_take, List.length_drop, List.length_map]; omega)))) | ((with_reducible apply zvg); (· (first | rfl | omega | (simp only [bv_length, zv_length, uv_length, List.length_append, List.length_cons, List.length_nil, List.length_set, List.length_replicate, List.length_take, List.length_drop, List.length_map]; omega)))) | ((with_reducible apply uvg); (· (first | rfl | omega | (simp only [bv_length, zv_length, uv_length, List.length_append, List.length_cons, List.length_nil, List.length_set, List.length_replicate, List.length_take, List.length_drop, List.length_map]; omega)))) | exact rfl))) | ((with_reducible apply Look.app); (· (first | ((with_reducible apply bvg); (· (first | rfl | omega | (simp only [bv_length, zv_length, uv_length, List.length_append, List.length_cons, List.length_nil, List.length_set, List.length_replicate, List.length_take, List.length_drop, List.length_map]; omega)))) | ((with_reducible apply zvg); (· (first | rfl | omega | (simp only [bv_length, zv_length, uv_length, List.length_append, List.length_cons, List.length_nil, List.length_set, List.length_replicate, List.length_take, List.length_drop, List.length_map]; omega)))) | ((with_reducible apply uvg); (· (first | rfl | omega | (simp only [bv_length, zv_length, uv_length, List.length_append, List.length_cons, List.length_nil, List.length_set, List.length_replicate, List.length_take, List.length_drop, List.length_map]; omega)))) | exact rfl))) | (with_reducible apply Look.there))))) : Look L a v := h
theorem Upd.found {L L' : List Ch} {a : Addr} {v : Value} (h : Upd L a v L' := by (first | assumption | (repeat (first | ((with_reducible apply Upd.blkP); (· (repeat (first | exact PutAt.here | apply PutAt.there)))) | ((with_reducible apply Upd.ownB); (· (first | with_reducible rfl | exact (Int.cast_ofNat_Int).symm | with_reducible assumption | exact (Int.toNat_of_nonneg (by omega)).symm | exact rfl)); (· (first | omega | exact byte_lt _ _ | (repeat (first | (with_reducible apply lim_xor) | (with_reducible apply lim_or) | (with_reducible apply lim_and) | (with_reducible apply lim_shr) | ((with_reducible apply byte_lim); (· decide)) | (simp only [lim]; omega))))); (· (first | rfl | omega | (simp only [bv_length, zv_length, uv_length, List.length_append, List.length_cons, List.length_nil, List.length_set, List.length_replicate, List.length_take, List.length_drop, List.length_map]; omega)))) | ((with_reducible apply Upd.ownZ); (· (first | rfl | omega | (simp only [bv_length, zv_length, uv_length, List.length_append, List.length_cons, List.length_nil, List.length_set, List.length_replicate, List.length_take, List.length_drop, List.length_map]; omega)))) | ((with_reducible apply Upd.ownU); (· (first | with_reducible rfl | exact (Int.cast_ofNat_Int).symm | with_reducible assumption | exact (Int.toNat_of_nonneg (by omega)).symm | exact rfl)); (· (first | rfl | omega | (simp only [bv_length, zv_length, uv_length, List.length_append, List.length_cons, List.length_nil, List.length_set, List.length_replicate, List.length_take, List.length_drop, List.length_map]; omega)))) | (with_reducible apply Upd.there))))) : Upd L a v L' := h
theorem Sel.found {c : Ch} {L L' : List Ch} (h : Sel c L L' := by (repeat (first | (with_reducible exact Sel.here) | (with_reducible apply Sel.there)))) : Sel c L L' := h
theorem Take.found {L pre Γ : List Ch} (h : Take L pre Γ := by (repeat (first | (with_reducible exact Take.nil) | ((with_reducible apply Take.cons); (· (repeat (first | (with_reducible exact Sel.here) | (with_reducible apply Sel.there)))))))) : Take L pre Γ := h
theorem Swap.found {c d : Ch} {L L' : List Ch} (h : Swap c d L L' := by (repeat (first | (with_reducible exact Swap.here) | (with_reducible apply Swap.there)))) : Swap c d L L' := h
theorem RdsV.found {L : List Ch} {V : Option Addr} {n : Nat} {ys : List Value} (h : RdsV L V n ys := by (first | ((with_reducible apply RdsV.whole); (· (repeat (first | (with_reducible exact Rds.own) | (with_reducible exact Rds.ro) | (with_reducible exact Rds.blk) | (with_reducible exact Rds.app) | (with_reducible apply Rds.there)))); (· (first | rfl | omega | (simp only [bv_length, zv_length, uv_length, List.length_append, List.length_cons, List.length_nil, List.length_set, List.length_replicate, List.length_take, List.length_drop, List.length_map]; omega)))) | ((with_reducible apply RdsV.byte); (· assumption); (· (repeat (first | (with_reducible exact Rds.own) | (with_reducible exact Rds.ro) | (with_reducible exact Rds.blk) | (with_reducible exact Rds.app) | (with_reducible apply Rds.there)))); (· (first | rfl | omega | (simp only [bv_length, zv_length, uv_length, List.length_append, List.length_cons, List.length_nil, List.length_set, List.length_replicate, List.length_take, List.length_drop, List.length_map]; omega)))) | ((with_reducible apply RdsV.ints); (· assumption); (· (repeat (first | (with_reducible exact Rds.own) | (with_reducible exact Rds.ro) | (with_reducible exact Rds.blk) | (with_reducible exact Rds.app) | (with_reducible apply Rds.there)))); (· (first | rfl | omega | (simp only [bv_length, zv_length, uv_length, List.length_append, List.length_cons, List.length_nil, List.length_set, List.length_replicate, List.length_take, List.length_drop, List.length_map]; omega)))) | ((with_reducible apply RdsV.of); (· assumption); (· (repeat (first | (with_reducible exact Rds.own) | (with_reducible exact Rds.ro) | (with_reducible exact Rds.blk) | (with_reducible exact Rds.app) | (with_reducible apply Rds.there)))); (· (first | rfl | omega | (simp only [bv_length, zv_length, uv_length, List.length_append, List.length_cons, List.length_nil, List.length_set, List.length_replicate, List.length_take, List.length_drop, List.length_map]; omega)))))) : RdsV L V n ys := h
theorem listFound {vs xs : List Value} (h : vs = xs := by (first | ((with_reducible apply BytesOf.eq); (· (repeat (first | exact BytesOf.nil | ((with_reducible apply BytesOf.cons); (· (first | with_reducible rfl | exact (Int.cast_ofNat_Int).symm | with_reducible assumption | exact (Int.toNat_of_nonneg (by omega)).symm | exact rfl)); (· (first | omega | exact byte_lt _ _ | (repeat (first | (with_reducible apply lim_xor) | (with_reducible apply lim_or) | (with_reducible apply lim_and) | (with_reducible apply lim_shr) | ((with_reducible apply byte_lim); (· decide)) | (simp only [lim]; omega)))))))))) | ((with_reducible apply IntsOf.eq); (· (repeat (first | exact IntsOf.nil | (with_reducible apply IntsOf.cons))))) | ((with_reducible apply U64sOf.eq); (· (repeat (first | exact U64sOf.nil | ((with_reducible apply U64sOf.cons); (· (first | with_reducible rfl | exact (Int.cast_ofNat_Int).symm | with_reducible assumption | exact (Int.toNat_of_nonneg (by omega)).symm | exact rfl))))))) | exact rfl)) : vs = xs := h
theorem catFound {xs ys zs : List Value} (h : xs ++ ys = zs := by (first | exact (bv_append _ _).symm | exact (zv_append _ _).symm | exact (uv_append _ _).symm | exact rfl)) : xs ++ ys = zs := h
theorem onesFound {xs : List Value} (h : ∀ u ∈ xs, u.oneCell' = true := by (first | exact bv_one _ | exact zv_one _ | exact uv_one _ | (exact oneAll_spec rfl))) : ∀ u ∈ xs, u.oneCell' = true := h
theorem Det.found2 {P : Program} {I : World → Prop} {o : Op} {ty : TypeId} {e : Env} {v : Value} (h : Det P I o ty e v := by (first | ((with_reducible apply Det.isIndex); (first | ((with_reducible apply Det.ix0); (· exact rfl); (· exact rfl); (· assumption); (· (first | with_reducible rfl | exact (Int.cast_ofNat_Int).symm | with_reducible assumption | exact (Int.toNat_of_nonneg (by omega)).symm | exact rfl)); (· (first | rfl | omega | (simp only [bv_length, zv_length, uv_length, List.length_append, List.length_cons, List.length_nil, List.length_set, List.length_replicate, List.length_take, List.length_drop, List.length_map]; omega)))) | ((with_reducible apply Det.ix); (· exact rfl); (· exact rfl); (· assumption); (· (first | with_reducible rfl | exact (Int.cast_ofNat_Int).symm | with_reducible assumption | exact (Int.toNat_of_nonneg (by omega)).symm | exact rfl)); (· (first | rfl | omega | (simp only [bv_length, zv_length, uv_length, List.length_append, List.length_cons, List.length_nil, List.length_set, List.length_replicate, List.length_take, List.length_drop, List.length_map]; omega)))) | ((with_reducible apply Det.ixS); (· exact rfl); (· exact rfl); (· assumption); (· (first | with_reducible rfl | exact (Int.cast_ofNat_Int).symm | with_reducible assumption | exact (Int.toNat_of_nonneg (by omega)).symm | exact rfl)); (· (first | rfl | omega | (simp only [bv_length, zv_length, uv_length, List.length_append, List.length_cons, List.length_nil, List.length_set, List.length_replicate, List.length_take, List.length_drop, List.length_map]; omega)))) | ((with_reducible apply Det.ixA0); (· exact rfl); (· exact rfl); (· (first | with_reducible rfl | exact (Int.cast_ofNat_Int).symm | with_reducible assumption | exact (Int.toNat_of_nonneg (by omega)).symm | exact rfl)); (· (first | rfl | omega | (simp only [bv_length, zv_length, uv_length, List.length_append, List.length_cons, List.length_nil, List.length_set, List.length_replicate, List.length_take, List.length_drop, List.length_map]; omega)))))) | ((with_reducible apply Det.isConv); (first | ((with_reducible apply Det.convLim); (· exact rfl); (· (first | with_reducible rfl | exact (Int.cast_ofNat_Int).symm | with_reducible assumption | exact (Int.toNat_of_nonneg (by omega)).symm | exact rfl)); (· (repeat (first | (with_reducible apply lim_xor) | (with_reducible apply lim_or) | (with_reducible apply lim_and) | (with_reducible apply lim_shr) | ((with_reducible apply byte_lim); (· decide)) | (simp only [lim]; omega))))))) | ((with_reducible apply Det.fieldAddr0); (· exact rfl)) | ((with_reducible apply Det.fieldV); (· exact rfl)) | ((with_reducible apply Det.nilCheck); (· exact rfl)) | ((with_reducible apply Det.min); (· exact rfl); (· exact rfl)) | ((with_reducible apply Det.max); (· exact rfl); (· exact rfl)) | ((with_reducible apply Det.makeFunc); (· exact Vals.found)) | ((with_reducible apply Det.makeMeth); (· exact rfl)) | ((with_reducible apply Det.isBin); (first | ((with_reducible apply Det.eqlBool); (· exact rfl); (· exact rfl)) | ((with_reducible apply Det.neqBool); (· exact rfl); (· exact rfl)) | ((with_reducible apply Det.eqlNilP); (· exact rfl); (· exact rfl)) | ((with_reducible apply Det.neqNilP); (· exact rfl); (· exact rfl)) | ((with_reducible apply Det.subN); (· exact rfl); (· (first | with_reducible rfl | exact (Int.cast_ofNat_Int).symm | with_reducible assumption | exact rfl)); (· exact rfl); (· (first | with_reducible rfl | exact (Int.cast_ofNat_Int).symm | with_reducible assumption | exact rfl)); (· omega); (· omega)))) | ((with_reducible apply Det.move); (· (first | exact Env.ev_const _ _ | exact Env.ev_func _ _ | exact Env.ev_global _ _ | (apply Env.evt; (repeat (first | exact Env.hit _ _ _ | ((with_reducible apply Env.miss); (· exact rfl)) | exact Env.ap_undef _ | exact rfl)))))) | ((with_reducible apply Det.assign); (· (first | exact Env.ev_const _ _ | exact Env.ev_func _ _ | exact Env.ev_global _ _ | (apply Env.evt; (repeat (first | exact Env.hit _ _ _ | ((with_reducible apply Env.miss); (· exact rfl)) | exact Env.ap_undef _ | exact rfl)))))) | ((with_reducible apply Det.isBin); (first | ((with_reducible apply Det.lss); (· exact rfl); (· exact rfl)) | ((with_reducible apply Det.leq); (· exact rfl); (· exact rfl)) | ((with_reducible apply Det.gtr); (· exact rfl); (· exact rfl)) | ((with_reducible apply Det.geq); (· exact rfl); (· exact rfl)) | ((with_reducible apply Det.eql); (· exact rfl); (· exact rfl)) | ((with_reducible apply Det.neq); (· exact rfl); (· exact rfl)) | ((with_reducible apply Det.addN); (· exact rfl); (· (first | with_reducible rfl | exact (Int.cast_ofNat_Int).symm | with_reducible assumption | exact rfl)); (· exact rfl); (· (first | with_reducible rfl | exact (Int.cast_ofNat_Int).symm | with_reducible assumption | exact rfl)); (· (repeat (first | (with_reducible apply lim_xor) | (with_reducible apply lim_or) | (with_reducible apply lim_and) | (with_reducible apply lim_shr) | ((with_reducible apply byte_lim); (· decide)) | (simp only [lim]; omega))))) | ((with_reducible apply Det.add); (· exact rfl); (· exact rfl); (· omega); (· omega)) | ((with_reducible apply Det.sub); (· exact rfl); (· exact rfl); (· omega); (· omega)) | ((with_reducible apply Det.mulN); (· exact rfl); (· (first | with_reducible rfl | exact (Int.cast_ofNat_Int).symm | with_reducible assumption | exact rfl)); (· exact rfl); (· (first | with_reducible rfl | exact (Int.cast_ofNat_Int).symm | with_reducible assumption | exact rfl)); (· (repeat (first | (with_reducible apply lim_xor) | (with_reducible apply lim_or) | (with_reducible apply lim_and) | (with_reducible apply lim_shr) | ((with_reducible apply byte_lim); (· decide)) | (simp only [lim]; omega))))) | ((with_reducible apply Det.mul); (· exact rfl); (· exact rfl); (· omega); (· omega)) | ((with_reducible apply Det.addU64); (· exact rfl); (· exact rfl); (· omega); (· omega)) | ((with_reducible apply Det.subU64); (· exact rfl); (· exact rfl); (· omega); (· omega)) | ((with_reducible apply Det.addU32); (· exact rfl); (· exact rfl); (· omega); (· omega)) | ((with_reducible apply Det.addU16); (· exact rfl); (· exact rfl); (· omega); (· omega)) | ((with_reducible apply Det.quoN); (· exact rfl); (· (first | with_reducible rfl | exact (Int.cast_ofNat_Int).symm | with_reducible assumption | exact rfl)); (· exact rfl); (· (first | with_reducible rfl | exact (Int.cast_ofNat_Int).symm | with_reducible assumption | exact rfl)); (· omega); (· (repeat (first | (with_reducible apply lim_xor) | (with_reducible apply lim_or) | (with_reducible apply lim_and) | (with_reducible apply lim_shr) | ((with_reducible apply byte_lim); (· decide)) | (simp only [lim]; omega))))) | ((with_reducible apply Det.remN); (· exact rfl); (· (first | with_reducible rfl | exact (Int.cast_ofNat_Int).symm | with_reducible assumption | exact rfl)); (· exact rfl); (· (first | with_reducible rfl | exact (Int.cast_ofNat_Int).symm | with_reducible assumption | exact rfl)); (· omega)) | ((with_reducible apply Det.quo); (· exact rfl); (· exact rfl); (· omega); (· omega); (· omega)) | ((with_reducible apply Det.rem); (· exact rfl); (· exact rfl); (· omega); (· omega)) | ((with_reducible apply Det.andN); (· exact rfl); (· (first | with_reducible rfl | exact (Int.cast_ofNat_Int).symm | with_reducible assumption | exact rfl)); (· exact rfl); (· (first | with_reducible rfl | exact (Int.cast_ofNat_Int).symm | with_reducible assumption | exact rfl)); (· (repeat (first | (with_reducible apply lim_xor) | (with_reducible apply lim_or) | (with_reducible apply lim_and) | (with_reducible apply lim_shr) | ((with_reducible apply byte_lim); (· decide)) | (simp only [lim]; omega)))); (· (repeat (first | (with_reducible apply lim_xor) | (with_reducible apply lim_or) | (with_reducible apply lim_and) | (with_reducible apply lim_shr) | ((with_reducible apply byte_lim); (· decide)) | (simp only [lim]; omega))))) | ((with_reducible apply Det.orN); (· exact rfl); (· (first | with_reducible rfl | exact (Int.cast_ofNat_Int).symm | with_reducible assumption | exact rfl)); (· exact rfl); (· (first | with_reducible rfl | exact (Int.cast_ofNat_Int).symm | with_reducible assumption | exact rfl)); (· (repeat (first | (with_reducible apply lim_xor) | (with_reducible apply lim_or) | (with_reducible apply lim_and) | (with_reducible apply lim_shr) | ((with_reducible apply byte_lim); (· decide)) | (simp only [lim]; omega)))); (· (repeat (first | (with_reducible apply lim_xor) | (with_reducible apply lim_or) | (with_reducible apply lim_and) | (with_reducible apply lim_shr) | ((with_reducible apply byte_lim); (· decide)) | (simp only [lim]; omega))))) | ((with_reducible apply Det.xorN); (· exact rfl); (· (first | with_reducible rfl | exact (Int.cast_ofNat_Int).symm | with_reducible assumption | exact rfl)); (· exact rfl); (· (first | with_reducible rfl | exact (Int.cast_ofNat_Int).symm | with_reducible assumption | exact rfl)); (· (repeat (first | (with_reducible apply lim_xor) | (with_reducible apply lim_or) | (with_reducible apply lim_and) | (with_reducible apply lim_shr) | ((with_reducible apply byte_lim); (· decide)) | (simp only [lim]; omega)))); (· (repeat (first | (with_reducible apply lim_xor) | (with_reducible apply lim_or) | (with_reducible apply lim_and) | (with_reducible apply lim_shr) | ((with_reducible apply byte_lim); (· decide)) | (simp only [lim]; omega))))) | ((with_reducible apply Det.shrN); (· exact rfl); (· (first | with_reducible rfl | exact (Int.cast_ofNat_Int).symm | with_reducible assumption | exact rfl)); (· exact rfl); (· (first | with_reducible rfl | exact (Int.cast_ofNat_Int).symm | with_reducible assumption | exact rfl)); (· (simp only [IntKind.bits]; omega))) | ((with_reducible apply Det.shlN); (· exact rfl); (· (first | with_reducible rfl | exact (Int.cast_ofNat_Int).symm | with_reducible assumption | exact rfl)); (· exact rfl); (· (first | with_reducible rfl | exact (Int.cast_ofNat_Int).symm | with_reducible assumption | exact rfl)); (· (simp only [IntKind.bits]; omega)); (· (repeat (first | (with_reducible apply lim_xor) | (with_reducible apply lim_or) | (with_reducible apply lim_and) | (with_reducible apply lim_shr) | ((with_reducible apply byte_lim); (· decide)) | (simp only [lim]; omega))))) | ((with_reducible apply Det.eqlStr); (· exact rfl); (· exact rfl)) | ((with_reducible apply Det.neqStr); (· exact rfl); (· exact rfl)) | ((with_reducible apply Det.eqlNil); (· exact rfl); (· exact rfl)) | ((with_reducible apply Det.addW); (· exact rfl); (· exact rfl)) | ((with_reducible apply Det.subW); (· exact rfl); (· exact rfl)) | ((with_reducible apply Det.mulW); (· exact rfl); (· exact rfl)))) | ((with_reducible apply Det.isConv); (first | ((with_reducible apply Det.convLim); (· exact rfl); (· (first | with_reducible rfl | exact (Int.cast_ofNat_Int).symm | with_reducible assumption | exact rfl)); (· (repeat (first | (with_reducible apply lim_xor) | (with_reducible apply lim_or) | (with_reducible apply lim_and) | (with_reducible apply lim_shr) | ((with_reducible apply byte_lim); (· decide)) | (simp only [lim]; omega))))) | ((with_reducible apply Det.convU8); (· exact rfl); (· (first | with_reducible rfl | exact (Int.cast_ofNat_Int).symm | with_reducible assumption | exact rfl))) | ((with_reducible apply Det.convU16); (· exact rfl); (· (first | with_reducible rfl | exact (Int.cast_ofNat_Int).symm | with_reducible assumption | exact rfl))) | ((with_reducible apply Det.convU32); (· exact rfl); (· (first | with_reducible rfl | exact (Int.cast_ofNat_Int).symm | with_reducible assumption | exact rfl))) | ((with_reducible apply Det.conv); (· exact rfl)))) | ((with_reducible apply Det.isIndex); (first | ((with_reducible apply Det.indexS1B); (· exact rfl); (· exact rfl); (· (first | with_reducible rfl | exact (Int.cast_ofNat_Int).symm | with_reducible assumption | exact rfl)); (· omega)) | ((with_reducible apply Det.indexS1); (· exact rfl); (· exact rfl); (· (first | with_reducible rfl | exact (Int.cast_ofNat_Int).symm | with_reducible assumption | exact rfl)); (· omega)) | ((with_reducible apply Det.indexA1B); (· exact rfl); (· exact rfl); (· (first | with_reducible rfl | exact (Int.cast_ofNat_Int).symm | with_reducible assumption | exact rfl)); (· omega)) | ((with_reducible apply Det.indexS); (· exact rfl); (· exact rfl); (· omega); (· omega)) | ((with_reducible apply Det.indexA); (· exact rfl); (· exact rfl); (· omega); (· omega))))  | ((with_reducible apply Det.isUn); (first | ((with_reducible apply Det.not); (· exact rfl)) | ((with_reducible apply Det.neg); (· exact rfl); (· omega); (· omega)) | ((with_reducible apply Det.complU32); (· exact rfl); (· (first | with_reducible rfl | exact (Int.cast_ofNat_Int).symm | with_reducible assumption | exact rfl)); (· omega)) | ((with_reducible apply Det.compl); (· exact rfl); (· exact rfl); (· (repeat (first | (with_reducible apply lim_xor) | (with_reducible apply lim_or) | (with_reducible apply lim_and) | (with_reducible apply lim_shr) | ((with_reducible apply byte_lim); (· decide)) | (simp only [lim]; omega))))))) | ((with_reducible apply Det.len); (· exact rfl)) | ((with_reducible apply Det.extract); (· exact rfl); (· exact rfl)) | ((with_reducible apply Det.fieldAddr); (· exact rfl)) | ((with_reducible apply Det.pickT); (· exact rfl); (· (first | with_reducible exact rfl | assumption | exact decide_eq_true (by omega) | exact decide_eq_false (by omega) | exact decide_eq_true rfl | exact decide_eq_false (fun h => h rfl) | (simp only [Bool.not_eq_true', Bool.not_eq_false', Bool.not_true, Bool.not_false, decide_eq_true_eq, decide_eq_false_iff_not]; first | done | omega | assumption) | exact rfl)); (· (first | exact Env.ev_const _ _ | exact Env.ev_func _ _ | exact Env.ev_global _ _ | (apply Env.evt; (repeat (first | exact Env.hit _ _ _ | ((with_reducible apply Env.miss); (· exact rfl)) | exact Env.ap_undef _ | exact rfl)))))) | ((with_reducible apply Det.pickF); (· exact rfl); (· (first | with_reducible exact rfl | assumption | exact decide_eq_true (by omega) | exact decide_eq_false (by omega) | exact decide_eq_true rfl | exact decide_eq_false (fun h => h rfl) | (simp only [Bool.not_eq_true', Bool.not_eq_false', Bool.not_true, Bool.not_false, decide_eq_true_eq, decide_eq_false_iff_not]; first | done | omega | assumption) | exact rfl)); (· (first | exact Env.ev_const _ _ | exact Env.ev_func _ _ | exact Env.ev_global _ _ | (apply Env.evt; (repeat (first | exact Env.hit _ _ _ | ((with_reducible apply Env.miss); (· exact rfl)) | exact Env.ap_undef _ | exact rfl)))))))) : Det P I o ty e v := h
theorem boolFound2 {t b : Bool} (h : t = b := by (first | with_reducible exact rfl | assumption | exact decide_eq_true (by omega) | exact decide_eq_false (by omega) | exact decide_eq_true rfl | exact decide_eq_false (fun h => h rfl) | (simp only [Bool.not_eq_true', Bool.not_eq_false', Bool.not_true, Bool.not_false, decide_eq_true_eq, decide_eq_false_iff_not]; first | done | omega | assumption) | exact rfl)) : t = b := h

/-- Whoever shows r has shown g. -/
def Reach (g r : Prop) : Prop := r → g
theorem Reach.done {g : Prop} : Reach g g := id
structure Kept (p : Prop) : Prop where
  out : p
theorem Reach.via {k g r : Prop} (rule : Kept k → g) (h : Reach k r) : Reach g r := fun x => rule ⟨h x⟩
def AllSt (w0 : World) (M : Nat → Prop) (L : List Ch) (R : World → Prop) : Prop := ∀ w, St w0 M w L → R w
def AllVw (n c : Nat) (A : Option Addr) (o : Nat) (R : Option Addr → Prop) : Prop := ∀ V, IsVw V n c A o → R V
theorem AllSt.mk {w0 : World} {M : Nat → Prop} {L : List Ch} {R : World → Prop} (h : ∀ w, St w0 M w L → R w) : AllSt w0 M L R := h
theorem AllVw.mk {n c : Nat} {A : Option Addr} {o : Nat} {R : Option Addr → Prop} (h : ∀ V, IsVw V n c A o → R V) : AllVw n c A o R := h
theorem Reach.st {w0 : World} {M : Nat → Prop} {L : List Ch} {G R : World → Prop} (h : ∀ w, St w0 M w L → Reach (G w) (R w)) : Reach (∀ w, St w0 M w L → G w) (AllSt w0 M L R) := fun x w hw => h w hw (x w hw)
theorem Reach.vw {n c : Nat} {A : Option Addr} {o : Nat} {G R : Option Addr → Prop} (h : ∀ V, IsVw V n c A o → Reach (G V) (R V)) : Reach (∀ V, IsVw V n c A o → G V) (AllVw n c A o R) := fun x V hV => h V hV (x V hV)
/-- The walk. -/
theorem Reach.walk {g r : Prop} (k : r) (h : Reach g r := by (repeat ((with_reducible apply Reach.via); (· (intro x; (first | ((with_reducible apply WpL.ld); (· assumption); (· exact rfl); (· exact rfl); (· exact Look.found); exact x.out) | ((with_reducible apply WpL.ldRow); (· assumption); (· exact rfl); (· exact rfl); (· exact Sel.found); (· exact rfl); exact x.out) | ((with_reducible apply WpL.st); (· assumption); (· exact rfl); (· exact Env.found); (· exact rfl); (· exact Upd.found); exact x.out) | ((with_reducible apply WpL.stRow); (· assumption); (· exact rfl); (· exact rfl); (· exact Swap.found); (· exact rfl); (· exact rfl); (· exact oneAll_spec rfl); exact x.out) | ((with_reducible apply WpL.slLo); (· exact rfl); (· exact rfl); (· assumption); (· exact rfl); (· exact natFound); (· exact lenFound); exact x.out) | ((with_reducible apply WpL.slHi); (· exact rfl); (· exact rfl); (· assumption); (· exact rfl); (· exact natFound); (· exact lenFound); exact x.out) | ((with_reducible apply WpL.slLoHi); (· exact rfl); (· exact rfl); (· assumption); (· exact rfl); (· exact natFound); (· exact rfl); (· exact natFound); (· exact lenFound); (· exact lenFound); exact x.out) | ((with_reducible apply WpL.sr); (· assumption); (· exact rfl); (· exact rfl); (· exact RdsV.found); exact x.out) | ((with_reducible apply WpL.atLoad); (· assumption); (· exact rfl); (· exact rfl); (· exact Look.found); exact x.out) | ((with_reducible apply WpL.atStore); (· assumption); (· exact rfl); (· exact rfl); (· exact rfl); (· exact Upd.found); exact x.out) | ((with_reducible apply WpL.atCas); (· assumption); (· exact rfl); (· exact rfl); (· exact rfl); (· exact rfl); (· exact Look.found); (· exact Upd.found); exact x.out) | ((with_reducible apply WpL.det); (· exact rfl); (· exact Det.found2); exact x.out) | ((with_reducible apply WpL.nilN); exact x.out) | ((with_reducible apply WpL.nil); exact x.out) | ((with_reducible apply Wp.seq); exact x.out) | ((with_reducible apply Wp.region); exact x.out) | ((with_reducible apply thenQ_normal); exact x.out) | ((with_reducible apply Wp.block); exact x.out) | ((with_reducible apply Wp.skip); exact x.out) | ((with_reducible apply Wp.ret); exact x.out) | ((with_reducible apply Wp.exit); exact x.out) | ((with_reducible apply thenQ_exit); exact x.out) | ((with_reducible apply thenQ_ret); exact x.out) | ((with_reducible apply blockQ_normal); exact x.out) | ((with_reducible apply blockQ_ret); exact x.out) | ((with_reducible apply blockQ_same); exact x.out) | ((with_reducible apply blockQ_other); (· exact rfl); exact x.out) | ((with_reducible apply WpL.unguard); (· exact rfl); (· exact rfl); (· exact boolFound2); exact x.out) | ((with_reducible apply WpL.skipG); (· exact rfl); (· exact rfl); (· exact boolFound2); (· exact rfl); exact x.out) | ((with_reducible apply WpL.skipU); (· exact rfl); (· exact rfl); (· exact rfl); exact x.out) | ((with_reducible apply Wp.condT); (· exact rfl); (· exact boolFound2); exact x.out) | ((with_reducible apply Wp.condF); (· exact rfl); (· exact boolFound2); exact x.out)))); (first | ((with_reducible apply Reach.st); intro _ _) | ((with_reducible apply Reach.vw); intro _ _) | skip))); exact Reach.done) : g := h k
theorem Reach.rwalk {g r : Prop} (k : r) (h : Reach g r := by (repeat ((with_reducible apply Reach.via); (· (intro x; (first | ((with_reducible apply RgD.ld); (· assumption); (· exact rfl); (· exact rfl); (· exact rfl); (· exact rfl); (· exact Look.found); exact x.out) | ((with_reducible apply RgD.ldRow); (· assumption); (· exact rfl); (· exact rfl); (· exact rfl); (· exact rfl); (· exact Sel.found); (· exact rfl); exact x.out) | ((with_reducible apply RgD.sr); (· assumption); (· exact rfl); (· exact rfl); (· exact rfl); (· exact rfl); (· exact RdsV.found); exact x.out) | ((with_reducible apply RgD.slLo); (· exact rfl); (· exact rfl); (· exact rfl); (· exact rfl); (· assumption); (· exact rfl); (· exact natFound); (· exact lenFound); exact x.out) | ((with_reducible apply RgD.slHi); (· exact rfl); (· exact rfl); (· exact rfl); (· exact rfl); (· assumption); (· exact rfl); (· exact natFound); (· exact lenFound); exact x.out) | ((with_reducible apply RgD.det); (· exact rfl); (· exact rfl); (· exact rfl); (· exact rfl); (· exact Det.found2); exact x.out) | ((with_reducible apply RgD.unguard); (· exact rfl); (· exact rfl); (· exact boolFound2); (· exact rfl); exact x.out) | ((with_reducible apply RgD.skipG); (· exact rfl); (· exact rfl); (· exact boolFound2); (· exact rfl); (· exact rfl); (· exact rfl); (· exact rfl); exact x.out) | ((with_reducible apply RgD.skipU); (· exact rfl); (· exact rfl); (· exact rfl); (· exact rfl); (· exact rfl); (· exact rfl); exact x.out)))); (first | ((with_reducible apply Reach.st); intro _ _) | ((with_reducible apply Reach.vw); intro _ _) | skip))); exact Reach.done) : g := h k
end Go.Fk

namespace Go.Fk
open Go.RowKit

/-- The part, only read. -/
def Ch.toRo : Ch → Ch
  | .blk g _ cs => .ro (some ⟨g, 0, none⟩) cs
  | .own A _ _ _ _ xs => .ro A xs
  | .app A _ _ _ _ xs => .ro A xs
  | .ro A xs => .ro A xs
  | .obj _ _ => .ro none []
section
variable {w0 w : World} {M : Nat → Prop} {L : List Ch} {a : Addr} {v : Value}
theorem Ch.rdOf {A : Option Addr} {xs : List Value} {c : Ch} (hc : c.Is w) (h : c.toRo = .ro A xs) : Rd w A xs := by
  cases c with
  | blk g t cs =>
    injection h with h1 h2; subst h1 h2
    exact Rds.rd (L := [.blk g t cs]) (w0 := w) (M := fun _ => True) .blk ⟨Chg.refl _ _, fun c h => by rw [List.mem_singleton.1 h]; exact ⟨hc, fun _ _ => .inr trivial⟩, by simp⟩
  | own A' n c el sz ys =>
    injection h with h1 h2; subst h1 h2
    exact Rds.rd (L := [.own A' n c el sz ys]) (w0 := w) (M := fun _ => True) .own ⟨Chg.refl _ _, fun c h => by rw [List.mem_singleton.1 h]; exact ⟨hc, fun _ _ => .inr trivial⟩, by simp⟩
  | app A' n c el sz ys =>
    injection h with h1 h2; subst h1 h2
    exact Ch.app_rd hc
  | ro A' ys =>
    injection h with h1 h2; subst h1 h2
    exact hc
  | obj g o =>
    injection h with h1 h2; subst h1 h2
    exact .inl rfl
theorem Ch.toRo_ro (c : Ch) : ∃ A xs, c.toRo = .ro A xs := by cases c <;> exact ⟨_, _, rfl⟩
/-- All that is known, only read. -/
theorem St.quiet (hS : St w0 M w L) : St w (feet []) w (L.map Ch.toRo) := by
  refine ⟨Chg.refl _ _, fun c hc => ?_, ?_⟩
  · obtain ⟨b, hb, rfl⟩ := List.mem_map.1 hc
    obtain ⟨A, xs, h⟩ := b.toRo_ro
    have hr : Rd w A xs := Ch.rdOf (hS.hold b hb).1 h
    rw [h]
    refine ⟨hr, ?_⟩
    rcases hr with hr | ⟨a, rfl, hr⟩
    · exact .inl hr
    · cases xs with
      | nil => exact .inl rfl
      | cons x r =>
        refine .inr ⟨a, rfl, ?_, fun ⟨_, hc, _⟩ => by cases hc⟩
        have := cell_lt (hr 0 x rfl)
        rwa [add_block] at this
  · refine List.pairwise_map.2 (List.Pairwise.imp ?_ (List.pairwise_of_forall (R := fun _ _ => True) fun _ _ => trivial))
    intro c d _ g hg
    obtain ⟨A, xs, h⟩ := c.toRo_ro
    rw [h] at hg
    cases hg
theorem Tells.quiet {c : Ch} (h : Tells c a v) : Tells c.toRo a v := by
  cases c with
  | blk g t cs =>
    obtain ⟨i, rfl, hi⟩ := h
    exact ⟨i, by show _ = (⟨g, 0, none⟩ : Addr).add i; rw [add_mk, Nat.zero_add], hi⟩
  | own A n c el sz xs => exact h
  | app A n c el sz xs => exact h
  | ro A xs => exact h
  | obj g o => exact h.elim
theorem RdsV.there {V : Option Addr} {n : Nat} {ys : List Value} (h : RdsV L V n ys) (c : Ch) : RdsV (c :: L) V n ys := fun w0 M w hS => h w0 M w hS.tail
theorem Look.quiet (h : Look L a v) : Look (L.map Ch.toRo) a v := by
  obtain ⟨c, hc, h⟩ := h.ex
  exact Look.mem (List.mem_map.2 ⟨c, hc, rfl⟩) h.quiet
end

section
variable {P : Program} {N : Nat} {ops : Array Oper} {K : Env → World → Prop} {rest : List Oper} {e : Env} {w : World} {ty : TypeId} {pos : String} {after : Array Edge} {x y : Operand}
variable {w0 : World} {M : Nat → Prop} {L L1 L' : List Ch} {t t' el : TypeId} {d : Option Tmp}
/-- What is written of a list from place o on. -/
def laid (xs : List Value) (o : Nat) (ys : List Value) : List Value := xs.take o ++ ys ++ xs.drop (o + ys.length)
theorem laid_length {xs ys : List Value} {o : Nat} (h : o + ys.length ≤ xs.length) : (laid xs o ys).length = xs.length := by
  simp [laid]; omega
theorem WpL.copy [ht : SliceT P t el] [hs : SizeT P el 1] {A S V : Option Addr} {n c o m n' c' cs : Nat} {xs ys zs : List Value} (hS : St w0 M w L) (hd : dOk N d = true) (hx : e.eval x = .slice V n' c') (hy : e.eval y = .slice S m cs) (hv : IsVw V n' c' A o)
    (hsw : Swap (.own A n c el 1 xs) (.own A n c el 1 zs) L L') (hr : RdsV L S m ys) (h1 : ∀ u ∈ ys, u.oneCell' = true) (hm : m ≤ n') (hfit : o + m ≤ xs.length) (hz : laid xs o ys = zs)
    (h : ∀ w', St w0 M w' L' → WpL P N ops K rest (e.setD d (.int .i64 (m : Int))) w') :
    WpL P N ops K (⟨d, .call { callee := .builtin .copy, args := #[x, y], argTypes := #[t, t'] }, ty, pos, after, none⟩ :: rest) e w := by
  subst hz
  obtain ⟨hrd, hlen⟩ := hr w0 M w hS
  obtain ⟨Γ, h2, h3⟩ := hsw.perm
  have hS1 := hS.perm h2
  by_cases h0 : m = 0
  · subst h0
    obtain rfl : ys = [] := List.eq_nil_of_length_eq_zero hlen
    have hrun := run_copy_none (P := P) w t t' ty el V S n' c' 0 cs ht.hu hs.hs (Nat.zero_min _)
    refine WpL.run hd (v := .int .i64 0) (w' := w) (by simp [execOp, resolve, invoke, builtin, hx, hy, hrun, goInt]) (h w ?_)
    have : laid xs o [] = xs := by simp [laid]
    rw [this] at h3
    exact hS1.perm h3.symm
  · have hc : Sl w 0 el 1 (.slice A n c) n xs := (hS1.hold _ List.mem_cons_self).1
    obtain ⟨hl, h4⟩ := hc
    rcases h4 with ⟨h4, h5⟩ | ⟨g, cap', cur, h4, hb, hg, hn, hmx, hcs, htk⟩
    · subst h5; simp at hl; subst hl; simp at hfit; omega
    · injection h4 with h4 h5 h6
      subst h4 h6
      rcases hv.at_ with h7 | ⟨a, h7, h8⟩
      · have := hv.le; omega
      injection h7 with h7
      subst h7
      rw [add_mk, Nat.zero_add] at h8
      subst h8
      rcases hrd with rfl | ⟨b, rfl, hat⟩
      · simp at hlen; omega
      rw [Nat.mul_one] at hcs htk
      have hxc : xs.length ≤ cur.size := by rw [← htk, List.length_take]; simp; omega
      have hrun := run_copy_row (P := P) w t t' ty el g o n' c' b m cs cur el ys ht.hu hs.hs hg (by rw [hlen]; exact (Nat.min_eq_left hm).symm) (fun j u hu => hat j u hu) (by rw [hlen]; omega) h1
      refine WpL.run hd (v := .int .i64 (m : Int)) (w' := w.setRow g (cur.toList.take o ++ ys ++ cur.toList.drop (o + ys.length)).toArray) (by simp [execOp, resolve, invoke, builtin, hx, hy, hrun, goInt, hlen]) (h _ ?_)
      refine (hS1.put (d := .own (some ⟨g, 0, none⟩) n c el 1 (laid xs o ys)) (Chg.of_grown (grown_setRow _ _ _)) ⟨?_, .inr ⟨g, c, _, rfl, Nat.zero_le _, setRow_heap w g cur _ el _ hg, hn, hmx, ?_, ?_⟩⟩ rfl fun g hg => .inl hg).perm h3.symm
      · rw [laid_length (by omega)]; exact hl
      · simp only [List.size_toArray, List.length_append, List.length_take, List.length_drop, Array.length_toList]
        omega
      · rw [Nat.mul_one]
        have hxl : xs.length = n := by omega
        have hcut : cur.toList = xs ++ cur.toList.drop n := by
          conv => lhs; rw [← List.take_append_drop n cur.toList]
          rw [htk]
        show (cur.toList.take o ++ ys ++ cur.toList.drop (o + ys.length)).take n = laid xs o ys
        rw [hcut, List.take_append_of_le_length (show o ≤ xs.length by omega), List.drop_append_of_le_length (show o + ys.length ≤ xs.length by omega), ← List.append_assoc]
        rw [show xs.take o ++ ys ++ xs.drop (o + ys.length) = laid xs o ys from rfl, show n = (laid xs o ys).length by rw [laid_length (by omega)]; omega]
        exact List.take_left
theorem OpW.mono {o : Oper} {K K' : Env → World → Prop} (h : OpW P o e w K) (hk : ∀ e w, K e w → K' e w) : OpW P o e w K' := by
  unfold OpW at h ⊢
  generalize (execOp e.eval o).run P w = r at h ⊢
  cases r with
  | halt x w' => exact h.elim
  | ok x w' =>
    cases x <;> simp only at h ⊢
    case value v => exact hk _ _ h
    case skip => exact hk _ _ h
    case enter f args => exact h.mono fun x w'' ⟨v, h1, h2⟩ => ⟨v, h1, hk _ _ h2⟩
    case row row args => exact h.mono fun v w'' hx => hk _ _ hx
theorem WpL.mono {K K' : Env → World → Prop} (hk : ∀ e w, K e w → K' e w) : ∀ {l : List Oper} {e : Env} {w : World}, WpL P N ops K l e w → WpL P N ops K' l e w
  | [], _, _, h => hk _ _ h
  | o :: rest, e, w, h => by
    obtain ⟨hd, h⟩ := h
    refine ⟨hd, ?_⟩
    by_cases hw : Region.wanted o (yieldedE ops e) = true
    · rw [if_pos hw] at h ⊢
      exact h.mono fun e w h => WpL.mono hk h
    · rw [if_neg hw] at h ⊢
      exact WpL.mono hk h
/-- What holds behind a region's last operation, in the middle of it. -/
theorem WpL.cut {K : Env → World → Prop} {Q : Exit → Env → World → Prop} (J : Env → World → Prop) (h : WpL P N ops J rest e w) (hk : ∀ e w, J e w → K e w) : WpL P N ops (thenQ K Q .normal) rest e w := WpL.mono hk h
end
end Go.Fk

namespace Go.Fk
open Go.RowKit
section
variable {P : Program} {n : Nat} {ops : Array Oper} {w : World} {Fin : (Tmp → Spec) → Prop} {rest : List Oper} {e : Env} {E : Open} {ty : TypeId} {pos : String} {after : Array Edge}
variable {t el : TypeId} {d : Tmp} {x : Operand}
theorem RgD.slLoHi [ht : SliceT P t el] [hs : SizeT P el 1] {V A : Option Addr} {m c o k1 k2 : Nat} {k k' : IntKind} {i j : Int} (hd : dOk n (some d) = true) {lo hi : Operand} (hk : (E.map (·.1)).contains d = false) (hE : sub ((⟨some d, .slice t x (some lo) (some hi) none, ty, pos, after, none⟩ : Oper).looksAt ops) E = [])
    (hx : e.eval x = .slice V m c) (hv : IsVw V m c A o) (hl : e.eval lo = .int k i) (hi1 : i = (k1 : Int)) (hh : e.eval hi = .int k' j) (hj : j = (k2 : Int)) (hm : k1 ≤ k2) (hm' : k2 ≤ m)
    (h : ∀ V', IsVw V' (k2 - k1) (c - k1) A (o + k1) → RgD P n ops w Fin rest (e.set d (.slice V' (k2 - k1) (c - k1))) E) : RgD P n ops w Fin (⟨some d, .slice t x (some lo) (some hi) none, ty, pos, after, none⟩ :: rest) e E := by
  subst hi1 hj
  have hle := hv.le
  refine RgD.det hd rfl hk hE (Det.sliceLoHi hx hl hh (by omega) (by omega) (by omega)) ?_
  have := h _ (hv.cut hm (by omega))
  simpa using this
/-- A new block. -/
def NewBlk (w : World) (el : TypeId) (cs : List Value) : Spec := fun x w' => ∃ g, x = .pointer (some ⟨g, 0, none⟩) ∧ w.heap.size ≤ g ∧ Blk w' g el cs.toArray
theorem RgD.al {sz bytes : Nat} {z : Value} [he : Elem P el sz bytes z] {cs : List Value} (hd : dOk n (some d) = true) (hk : (E.map (·.1)).contains d = false) (hE : sub ((⟨some d, .alloc el, ty, pos, after, none⟩ : Oper).looksAt ops) E = []) (hc : z.cells = cs.toArray)
    (hr : RgD P n ops w Fin rest e (E ++ [(d, NewBlk w el cs)])) : RgD P n ops w Fin (⟨some d, .alloc el, ty, pos, after, none⟩ :: rest) e E := by
  refine RgD.spec0 (NewBlk w el cs) hd rfl hk hE (fun x w w' ⟨g, h, h1, h2⟩ hb => ⟨g, h, h1, h2.stay hb⟩) (fun w5 hb5 => ?_) hr
  refine WpL.alloc hd ?_
  intro w6 hb6 hs6 hg6
  rw [hc] at hg6
  exact ⟨⟨hb5.on hb6, hb6⟩, _, Env.set_same _ _ _, hb5.size, hg6⟩
theorem RgD.finAl {ops' : Array Oper} {w0 : World} {M : Nat → Prop} {L : List Ch} {K : Env → World → Prop} {tail : List Oper} {cs : List Value} {t : Tmp} (hS : St w0 M w L)
    (h : ∀ w' g, St w0 M w' (.blk g el cs :: L) → WpL P n ops' K tail (e.set t (.pointer (some ⟨g, 0, none⟩))) w') :
    RgD P n ops w (fun Γ => ∀ e' w', Below w.heap.size w w' → (∀ t, Γ t (e' t) w') → WpL P n ops' K tail e' w') [] e [(t, NewBlk w el cs)] := by
  refine RgD.fin1 fun w7 hb7 x ⟨g, hx, hgg, hg8⟩ => ?_
  subst hx
  exact h _ _ (hS.new hb7 hg8 rfl fun g' hg' => by injection hg' with hg'; omega)
end
end Go.Fk

namespace Go.Fk
open Go.RowKit

def RepD (ds : List Deferred) (n : Nat) (a : Act) (e : Env) : Prop := a.defers = ds ∧ a.tmps.size = n ∧ ∀ t, a.tmps.getD t undef = e t
section
variable {ds : List Deferred} {n : Nat} {a : Act} {e : Env}
theorem RepD.eval (h : RepD ds n a e) : a.eval = e.eval := by
  funext x
  cases x with
  | tmp t => exact h.2.2 t
  | _ => rfl
theorem RepD.put (h : RepD ds n a e) {d : Option Nat} (hd : dOk n d = true) (v : Value) : RepD ds n (a.put d v) (e.setD d v) := by
  have h0 : Rep n { a with defers := [] } e := ⟨rfl, h.2.1, h.2.2⟩
  have h1 := h0.put hd v
  cases d with
  | none => exact h
  | some d => exact ⟨h.1, h1.2.1, h1.2.2⟩
theorem RepD.yielded (h : RepD ds n a e) (ops : Array Oper) : yielded ops a.tmps = yieldedE ops e :=
  Rep.yielded (a := { a with defers := [] }) ⟨rfl, h.2.1, h.2.2⟩ ops
end

section
variable {P : Program} {n : Nat} {ds : List Deferred}
theorem OpW.wpD {o : Oper} {e : Env} {w : World} {next : Env → World → Prop} {a : Act} {K : Act → World → Prop} {Q : Exit → Act → World → Prop}
    (h : OpW P o e w next) (ha : RepD ds n a e) (hd : dOk n o.dst = true) (hk : ∀ a e w, RepD ds n a e → next e w → K a w) : o.wp P a w K Q := by
  unfold OpW at h
  unfold Oper.wp
  rw [ha.eval]
  generalize (execOp e.eval o).run P w = r at h ⊢
  cases r with
  | halt x w' => exact h.elim
  | ok x w' =>
    cases x <;> simp only at h <;> simp only [Oper.upon]
    case value v => exact hk _ _ _ (ha.put hd v) h
    case skip => exact hk _ _ _ (ha.put hd _) h
    case enter f args =>
      refine h.mono fun x w'' hx => ?_
      obtain ⟨v, rfl, hx⟩ := hx
      exact hk _ _ _ (ha.put hd v) hx
    case row row args => exact h.mono fun v w'' hx => hk _ _ _ (ha.put hd v) hx
theorem WpL.wpListD {ops : Array Oper} {K : Env → World → Prop} {Q : Exit → Act → World → Prop} {tail : List Oper} (hq : ∀ a e w, RepD ds n a e → K e w → Go.wpList P ops Q tail a w) :
    ∀ (l : List Oper) (e : Env) (w : World) (a : Act), RepD ds n a e → WpL P n ops K l e w → Go.wpList P ops Q (l ++ tail) a w
  | [], e, w, a, ha, h => hq a e w ha h
  | o :: rest, e, w, a, ha, h => by
    obtain ⟨hd, h⟩ := h
    rw [List.cons_append]
    unfold Go.wpList
    rw [ha.yielded]
    by_cases hw : Region.wanted o (yieldedE ops e) = true
    · rw [if_pos hw] at h ⊢
      exact .inl (h.wpD ha hd fun a e w ha h => WpL.wpListD hq rest e w a ha h)
    · rw [if_neg hw] at h ⊢
      exact WpL.wpListD hq rest _ _ _ (ha.put hd _) h
end

abbrev PostD := Exit → List Deferred → Env → World → Prop
def WpD (P : Program) (n : Nat) (ds : List Deferred) (c : Code) (Q : PostD) (e : Env) (w : World) : Prop :=
  ∀ a, RepD ds n a e → c.wp P (fun x a' w' => ∃ ds' e', RepD ds' n a' e' ∧ Q x ds' e' w') a w
def thenD (K : List Deferred → Env → World → Prop) (Q : PostD) : PostD
  | .normal, ds, e, w => K ds e w
  | x, ds, e, w => Q x ds e w
section
variable {P : Program} {n : Nat} {ds : List Deferred} {Q : PostD} {e : Env} {w : World}
theorem WpD.seq {x y : Code} (h : WpD P n ds x (thenD (fun ds e w => WpD P n ds y Q e w) Q) e w) : WpD P n ds (.seq x y) Q e w := fun a ha =>
  wp_seq (wp_mono (h a ha) fun x a' _ ⟨ds', e', h1, h2⟩ => by
    cases x with
    | normal => exact h2 a' h1
    | _ => exact ⟨ds', e', h1, h2⟩)
theorem WpD.skip (h : Q .normal ds e w) : WpD P n ds .skip Q e w := fun _ ha => wp_skip ⟨ds, e, ha, h⟩
theorem WpD.ret (h : Q .ret ds e w) : WpD P n ds .ret Q e w := fun _ ha => wp_ret ⟨ds, e, ha, h⟩
theorem WpD.condT {c : Operand} {x y : Code} {t : Bool} (hc : e.eval c = .bool t) (ht : t = true) (h : WpD P n ds x Q e w) : WpD P n ds (.cond c x y) Q e w := fun a ha =>
  wp_cond_split (t := t) (by rw [ha.eval, hc]) (fun _ => h a ha) (fun hf => by rw [ht] at hf; cases hf)
theorem WpD.condF {c : Operand} {x y : Code} {t : Bool} (hc : e.eval c = .bool t) (ht : t = false) (h : WpD P n ds y Q e w) : WpD P n ds (.cond c x y) Q e w := fun a ha =>
  wp_cond_split (t := t) (by rw [ha.eval, hc]) (fun hf => by rw [ht] at hf; cases hf) (fun _ => h a ha)
theorem WpD.region {l : List Oper} {id : Nat} (h : WpL P n l.toArray (fun e w => Q .normal ds e w) l e w) : WpD P n ds (.region id l.toArray false) Q e w := fun a ha => by
  refine wp_region_lit ?_
  have := WpL.wpListD (tail := []) (Q := fun x a' w' => ∃ ds' e', RepD ds' n a' e' ∧ Q x ds' e' w') (fun a e w ha hk => ⟨ds, e, ha, hk⟩) l e w a ha h
  rwa [List.append_nil] at this
/-- The last operation defers a call. -/
theorem WpD.regionD {l pre : List Oper} {o : Oper} {id : Nat} (hl : l = pre ++ [o]) (hg : o.guard = none) (hdst : o.dst = none)
    (h : WpL P n l.toArray (fun e w => ∃ d, (execOp e.eval o).run P w = .ok (.defer d) w ∧ Q .normal (d :: ds) e w) pre e w) : WpD P n ds (.region id l.toArray false) Q e w := fun a ha => by
  refine wp_region_lit ?_
  have := WpL.wpListD (tail := [o]) (Q := fun x a' w' => ∃ ds' e', RepD ds' n a' e' ∧ Q x ds' e' w') (fun a e w ha ⟨d, h1, h2⟩ => by
    unfold Go.wpList
    have hw : Region.wanted o (yielded l.toArray a.tmps) = true := by simp [Region.wanted, hg]
    rw [if_pos hw]
    refine .inl ?_
    unfold Oper.wp
    rw [ha.eval, h1]
    simp only [Oper.upon, hdst, Act.put]
    unfold Go.wpList
    exact ⟨d :: ds, e, ⟨by rw [← ha.1], ha.2.1, ha.2.2⟩, h2⟩) pre e w a ha h
  rwa [← hl] at this
end

/-! ### A call's beginning and end -/
def leaveQ (P : Program) (fn : Func) (R : Ending → World → Prop) : PostD
  | .normal, ds, _, w | .ret, ds, _, w => ∀ tmps, Leaves P fn tmps R ds .returning w
  | _, _, _, _ => False
theorem rep_init {n : Nat} {fn : Func} {args : List Value} (hn : fn.ntmps = n) (hargs : args.length ≤ n) : Rep n { tmps := args.toArray ++ Array.replicate (fn.ntmps - args.toArray.size) undef, defers := [] } (argE args 0) := by
  rw [← initE_eq]
  refine ⟨rfl, by simp [hn]; omega, fun t => ?_⟩
  simp only [Array.getD_eq_getD_getElem?, initE, List.getD_eq_getElem?_getD]
  by_cases ht : t < args.length
  · rw [Array.getElem?_append_left (by simpa using ht)]; simp
  · rw [Array.getElem?_append_right (by simpa using Nat.le_of_not_lt ht), List.getElem?_eq_none (Nat.le_of_not_lt ht)]
    simp only [Array.getElem?_replicate]
    split <;> rfl
theorem calls_ofD {P : Program} {f : FuncId} {fn : Func} {c : Code} {args : List Value} {w : World} {R : Ending → World → Prop} (n : Nat)
    (hf : P.funcs[f]? = some fn) (hb : fn.body = some c) (hn : fn.ntmps = n) (hargs : args.length ≤ n)
    (h : WpD P n [] c (leaveQ P fn R) (argE args 0) w) : Calls P f args.toArray w R := by
  refine calls_of_wp_defers hf hb (wp_mono (h _ (rep_init hn hargs)) fun x a' w' ⟨ds', e', h1, h2⟩ => ?_)
  cases x with
  | normal => have h3 := h2 a'.tmps; rw [← h1.1] at h3; exact h3
  | ret => have h3 := h2 a'.tmps; rw [← h1.1] at h3; exact h3
  | _ => exact h2.elim
/-- A function entered as a deferred call. -/
theorem callsD_of {P : Program} {f : FuncId} {fn : Func} {c : Code} {args : List Value} {u : FrameMode} {w : World} {R : Ending → World → Prop} (n : Nat)
    (hf : P.funcs[f]? = some fn) (hb : fn.body = some c) (hn : fn.ntmps = n) (hargs : args.length ≤ n)
    (h : Wp P n c (doneQ P fn R) (argE args 0) w) : CallsD P f args.toArray u w fun e u' w' => u' = u ∧ R e w' := by
  refine callsD_of_wp hf hb (wp_mono (h _ (rep_init hn hargs)) fun x a' w' ⟨e', h1, h2⟩ => ?_)
  cases x with
  | normal => obtain ⟨v, h3, h4⟩ := h2; exact ⟨h1.1, v, h3 _ h1.2.2, h4⟩
  | ret => obtain ⟨v, h3, h4⟩ := h2; exact ⟨h1.1, v, h3 _ h1.2.2, h4⟩
  | _ => exact h2.elim
theorem settle_returning : settle .returning = .returning := rfl
/-- The function's code, as it is reached: one walk for both ways in. -/
theorem leaves_call {P : Program} {fn : Func} {tmps : Array Value} {R R' : Ending → World → Prop} {fv : Fn} {cap dargs : Array Value} {ds : List Deferred} {w : World} {f : FuncId} {args : Array Value}
    (hi : (invoke (.fn fv cap) dargs).run P w = .ok (.enter f args) w) (hc : CallsD P f args .returning w fun e u' w' => u' = .returning ∧ R' e w')
    (h : ∀ e w', R' e w' → (∃ v, e = .returned v) ∧ Leaves P fn tmps R ds .returning w') : Leaves P fn tmps R ({ target := .fn fv cap, args := dargs } :: ds) .returning w := by
  refine leaves_cons (by simp) hi (hc.mono ?_)
  rintro e u' w' ⟨rfl, hr⟩
  obtain ⟨⟨v, rfl⟩, h2⟩ := h e w' hr
  exact h2
/-- A function without a body. -/
theorem WpL.ext1 {P : Program} {N : Nat} {ops : Array Oper} {K : Env → World → Prop} {rest : List Oper} {e : Env} {w w' : World} {ty : TypeId} {pos : String} {after : Array Edge} {d : Tmp} {v : Value} {f : FuncId} {l : List Operand} {argTypes : Array TypeId} {vs : List Value} (hd : dOk N (some d) = true) (ha : Vals e l vs) (hr : (callFunc f vs.toArray).run P w = .ok (.value v) w')
    (h : WpL P N ops K rest (e.set d v) w') : WpL P N ops K (⟨some d, .call { callee := .value (.func f), args := l.toArray, argTypes }, ty, pos, after, none⟩ :: rest) e w :=
  WpL.run hd (w' := w') (by simp [execOp, resolve, Deferred.ofValue, invoke, Env.eval, List.map_toArray, ha.map, hr]) h
/-- A method as a value, called. -/
theorem WpL.callM {P : Program} {N : Nat} {ops : Array Oper} {K : Env → World → Prop} {rest : List Oper} {e : Env} {w : World} {ty : TypeId} {pos : String} {after : Array Edge} {d : Tmp} {f : FuncId} {first : List Value} {u : Operand} {argTypes : Array TypeId} (hd : dOk N (some d) = true) (hu : e.eval u = .func (.func f) first.toArray #[]) (hf : ∀ args w, (callFunc f args).run P w = .ok (.enter f args) w)
    (h : Calls P f first.toArray w fun x w'' => ∃ v, x = .returned v ∧ WpL P N ops K rest (e.set d v) w'') :
    WpL P N ops K (⟨some d, .call { callee := .value u, args := #[], argTypes }, ty, pos, after, none⟩ :: rest) e w :=
  ⟨hd, by
    rw [if_pos (by rfl)]
    unfold OpW
    have : (execOp e.eval ⟨some d, .call { callee := .value u, args := #[], argTypes }, ty, pos, after, none⟩).run P w = .ok (.enter f first.toArray) w := by
      simp [execOp, resolve, Deferred.ofValue, invoke, hu, hf]
    rw [this]
    exact h⟩
end Go.Fk

namespace Go.Fk
open Go.RowKit

/-- The fence that bars nothing; a round's frame, or a plain one. -/
def frn (ro : Option Nat) : Fence := { Fence.wide with round := ro }
theorem frn_none : frn none = Fence.wide := rfl
theorem Rows.toIn {ro : Option Nat} {P : Program} {row : String} {args : Array Value} {w : World} {R : Value → World → Prop} (h : Rows P row args w R) : RowsIn (frn ro) 0 P row args w R := fun c cs _ => by
  obtain ⟨v, w', hr, hs⟩ := h c cs
  exact ⟨v, w', hr, stepsIn_wide.2 hs⟩
theorem Calls.toIn {ro : Option Nat} {P : Program} {f : FuncId} {args : Array Value} {w : World} {R : Ending → World → Prop} (h : Calls P f args w R) : CallsIn (frn ro) 0 P f args w R := by
  have := callsIn_wide (n := 0) |>.2 h
  exact this

section
variable {P : Program} {n : Nat} {ds : List Deferred} {ro : Option Nat}
theorem OpW.wpIn {o : Oper} {e : Env} {w : World} {next : Env → World → Prop} {a : Act} {K : Act → World → Prop} {Q : Exit → Act → World → Prop}
    (h : OpW P o e w next) (ha : RepD ds n a e) (hd : dOk n o.dst = true) (hk : ∀ a e w, RepD ds n a e → next e w → K a w) : o.wpIn (frn ro) 0 P a w K Q := by
  refine ⟨fun _ _ => trivial, ?_⟩
  have hsem : Oper.semAt (frn ro).round e.eval o = execOp e.eval o ∨ ∃ c, o.op = .defer c := by
    by_cases hdf : ∃ c, o.op = .defer c
    · exact .inr hdf
    · exact .inl (Oper.semAt_eq _ _ _ fun c hc => hdf ⟨c, hc⟩)
  unfold OpW at h
  rw [ha.eval]
  rcases hsem with hsem | ⟨c, hc⟩
  · rw [hsem]
    generalize (execOp e.eval o).run P w = r at h ⊢
    cases r with
    | halt x w' => exact h.elim
    | ok x w' =>
      cases x <;> simp only at h <;> simp only [Oper.uponIn]
      case value v => exact hk _ _ _ (ha.put hd v) h
      case skip => exact hk _ _ _ (ha.put hd _) h
      case enter f args =>
        refine ⟨fun h => (by cases h), (Calls.toIn h).mono fun x w'' hx => ?_⟩
        obtain ⟨v, rfl, hx⟩ := hx
        exact hk _ _ _ (ha.put hd v) hx
      case row row args => exact ⟨fun h => (by cases h), Rows.toIn (h.mono fun v w'' hx => hk _ _ _ (ha.put hd v) hx)⟩
  · exfalso
    have : execOp e.eval o = (do pure (.defer (← resolve e.eval c o.type))) := by unfold execOp; rw [hc]
    rw [this, Sem.run_bind] at h
    cases hr : (resolve e.eval c o.type).run P w with
    | halt x w' => rw [hr] at h; exact h
    | ok x w' => rw [hr] at h; exact h
theorem WpL.wpListIn {ops : Array Oper} {K : Env → World → Prop} {Q : Exit → Act → World → Prop} {tail : List Oper} (hq : ∀ a e w, RepD ds n a e → K e w → Go.wpListIn (frn ro) 0 P ops Q tail a w) :
    ∀ (l : List Oper) (e : Env) (w : World) (a : Act), RepD ds n a e → WpL P n ops K l e w → Go.wpListIn (frn ro) 0 P ops Q (l ++ tail) a w
  | [], e, w, a, ha, h => hq a e w ha h
  | o :: rest, e, w, a, ha, h => by
    obtain ⟨hd, h⟩ := h
    rw [List.cons_append]
    unfold Go.wpListIn
    rw [ha.yielded]
    by_cases hw : Region.wanted o (yieldedE ops e) = true
    · rw [if_pos hw] at h ⊢
      exact h.wpIn ha hd fun a e w ha h => WpL.wpListIn hq rest e w a ha h
    · rw [if_neg hw] at h ⊢
      exact ⟨fun _ _ => trivial, WpL.wpListIn hq rest _ _ _ (ha.put hd _) h⟩
end

/-! ### Code, in a round or not, with deferred calls or without -/
def WpG (ro : Option Nat) (P : Program) (n : Nat) (ds : List Deferred) (c : Code) (Q : PostD) (e : Env) (w : World) : Prop :=
  ∀ a, RepD ds n a e → c.wpIn (frn ro) 0 P (fun x a' w' => ∃ ds' e', RepD ds' n a' e' ∧ Q x ds' e' w') a w
def blockG (id : Nat) (Q : PostD) : PostD
  | .exit id', ds, e, w => if id' = id then Q .normal ds e w else Q (.exit id') ds e w
  | x, ds, e, w => Q x ds e w
section
variable {P : Program} {n : Nat} {ds : List Deferred} {ro : Option Nat} {Q : PostD} {e : Env} {w : World}
theorem WpG.mono {c : Code} {Q' : PostD} (h : WpG ro P n ds c Q e w) (hq : ∀ x ds e w, Q x ds e w → Q' x ds e w) : WpG ro P n ds c Q' e w :=
  fun a ha => wpIn_mono (h a ha) fun x _ _ ⟨ds', e', h1, h2⟩ => ⟨ds', e', h1, hq _ _ _ _ h2⟩
theorem WpG.seq {x y : Code} (h : WpG ro P n ds x (thenD (fun ds e w => WpG ro P n ds y Q e w) Q) e w) : WpG ro P n ds (.seq x y) Q e w := fun a ha =>
  wpIn_seq (wpIn_mono (h a ha) fun x a' _ ⟨ds', e', h1, h2⟩ => by
    cases x with
    | normal => exact h2 a' h1
    | _ => exact ⟨ds', e', h1, h2⟩)
theorem WpG.skip (h : Q .normal ds e w) : WpG ro P n ds .skip Q e w := fun _ ha => wpIn_skip ⟨ds, e, ha, h⟩
theorem WpG.ret (h : Q .ret ds e w) : WpG ro P n ds .ret Q e w := fun _ ha => wpIn_ret ⟨ds, e, ha, h⟩
theorem WpG.exit {id : Nat} (h : Q (.exit id) ds e w) : WpG ro P n ds (.exit id) Q e w := fun _ ha => wpIn_exit ⟨ds, e, ha, h⟩
theorem WpG.condT {c : Operand} {x y : Code} {t : Bool} (hc : e.eval c = .bool t) (ht : t = true) (h : WpG ro P n ds x Q e w) : WpG ro P n ds (.cond c x y) Q e w := fun a ha =>
  wpIn_cond_split (t := t) (by rw [ha.eval, hc]) (fun _ => h a ha) (fun hf => by rw [ht] at hf; cases hf)
theorem WpG.condF {c : Operand} {x y : Code} {t : Bool} (hc : e.eval c = .bool t) (ht : t = false) (h : WpG ro P n ds y Q e w) : WpG ro P n ds (.cond c x y) Q e w := fun a ha =>
  wpIn_cond_split (t := t) (by rw [ha.eval, hc]) (fun hf => by rw [ht] at hf; cases hf) (fun _ => h a ha)
theorem WpG.block {id : Nat} {c : Code} (h : WpG ro P n ds c (blockG id Q) e w) : WpG ro P n ds (.block id c) Q e w := fun a ha =>
  wpIn_block (wpIn_mono (h a ha) fun x a' w' ⟨ds', e', h1, h2⟩ => by
    cases x with
    | exit id' =>
      simp only [blockG] at h2
      simp only [Exit.inBlock]
      by_cases hid : id' = id
      · rw [if_pos hid] at h2 ⊢; exact ⟨ds', e', h1, h2⟩
      · rw [if_neg hid] at h2 ⊢; exact ⟨ds', e', h1, h2⟩
    | _ => exact ⟨ds', e', h1, h2⟩)
theorem WpG.region {l : List Oper} {id : Nat} (h : WpL P n l.toArray (Q .normal ds) l e w) : WpG ro P n ds (.region id l.toArray false) Q e w := fun a ha => by
  refine wpIn_region_lit ?_
  have := WpL.wpListIn (ro := ro) (tail := []) (Q := fun x a' w' => ∃ ds' e', RepD ds' n a' e' ∧ Q x ds' e' w') (fun a e w ha hk => ⟨ds, e, ha, hk⟩) l e w a ha h
  rwa [List.append_nil] at this
theorem WpG.loop {c : Code} (I : List Deferred → Env → World → Prop) (μ : Env → World → Nat) (h0 : I ds e w)
    (round : ∀ ds e w, I ds e w → WpG ro P n ds c (thenD (fun ds' e' w' => I ds' e' w' ∧ μ e' w' < μ e w) Q) e w) : WpG ro P n ds (.loop c) Q e w := by
  intro a ha
  let env : Act → Env := fun a t => a.tmps.getD t undef
  have henv : ∀ ds a e, RepD ds n a e → env a = e := fun ds a e h => funext fun t => h.2.2 t
  refine wpIn_loop (fun a' w' => RepD a'.defers n a' (env a') ∧ I a'.defers (env a') w') (fun a' w' => μ (env a') w') ?_ ?_
  · rw [henv ds a e ha, ha.1]; exact ⟨ha, h0⟩
  · intro a' w' ⟨h1, h2⟩
    refine wpIn_mono (round _ _ _ h2 a' h1) fun x a'' w'' ⟨ds', e', h3, h4⟩ => ?_
    cases x with
    | normal =>
      simp only [Exit.then]
      have h5 := h3.1
      subst h5
      rw [henv _ _ _ h3]
      exact ⟨⟨h3, h4.1⟩, h4.2⟩
    | _ => exact ⟨ds', e', h3, h4⟩
/-- A plain piece of code, walked as everywhere. -/
theorem WpG.plain {c : Code} {Q' : Exit → Env → World → Prop} (h : Wp P n c Q' e w) (hq : ∀ x e w, Q' x e w → Q x [] e w) : WpG none P n [] c Q e w := fun a ha => by
  have h1 := wpIn_wide (n := 0) |>.2 (h a ha)
  exact wpIn_mono (F := frn none) h1 fun x a' w' ⟨e', h2, h3⟩ => ⟨[], e', h2, hq _ _ _ h3⟩

theorem thenD_normal {K : List Deferred → Env → World → Prop} (h : K ds e w) : thenD K Q .normal ds e w := h
theorem thenD_exit {K : List Deferred → Env → World → Prop} {id : Nat} (h : Q (.exit id) ds e w) : thenD K Q (.exit id) ds e w := h
theorem thenD_ret {K : List Deferred → Env → World → Prop} (h : Q .ret ds e w) : thenD K Q .ret ds e w := h
theorem blockG_normal {id : Nat} (h : Q .normal ds e w) : blockG id Q .normal ds e w := h
theorem blockG_ret {id : Nat} (h : Q .ret ds e w) : blockG id Q .ret ds e w := h
theorem blockG_same {id : Nat} (h : Q .normal ds e w) : blockG id Q (.exit id) ds e w := by
  show if id = id then Q .normal ds e w else Q (.exit id) ds e w
  rw [if_pos rfl]; exact h
theorem blockG_other {id id' : Nat} (hn : Nat.beq id' id = false) (h : Q (.exit id') ds e w) : blockG id Q (.exit id') ds e w := by
  show if id' = id then Q .normal ds e w else Q (.exit id') ds e w
  rw [if_neg (fun he => by rw [he, Nat.beq_refl] at hn; cases hn)]
  exact h
end

/-! ### The yield call -/
/-- A region of which one operation calls yield: what is ahead; the call; what is behind. -/
theorem Wp.regionY {P : Program} {n : Nat} {Q : Exit → Env → World → Prop} {e : Env} {w : World} {l pre post : List Oper} {o : Oper} {id : Nat} (hl : l = pre ++ o :: post) {d : Tmp} {u : Operand} {xs : List Operand} {argTypes : Array TypeId} {ty : TypeId} {pos : String} {after : Array Edge} {gd : Option (Nat × Bool)}
    (ho : o = ⟨some d, .call { callee := .value u, args := xs.toArray, argTypes }, ty, pos, after, gd⟩) (hd : dOk n (some d) = true)
    (h : WpL P n l.toArray (fun e w => (Region.wanted o (yieldedE l.toArray e) = true ∧ ∃ r vs, e.eval u = .func (.yield r) #[] #[] ∧ Vals e xs vs ∧
        YieldAt Fence.wide 0 P r vs.toArray w fun x w' => ∃ v, x = .returned v ∧ WpL P n l.toArray (Q .normal) post (e.set d v) w') ∨
      (Region.wanted o (yieldedE l.toArray e) = false ∧ WpL P n l.toArray (Q .normal) post (e.set d undef) w)) pre e w) : Wp P n (.region id l.toArray false) Q e w := fun a ha => by
  have h2 : ∀ a e w, RepD [] n a e → WpL P n l.toArray (Q .normal) post e w → Go.wpListIn (frn none) 0 P l.toArray (fun x a' w' => ∃ e', Rep n a' e' ∧ Q x e' w') post a w := fun a e w ha h => by
    have := WpL.wpListIn (ro := none) (tail := []) (Q := fun x a' w' => ∃ e', Rep n a' e' ∧ Q x e' w') (fun a e w ha hk => ⟨e, ha, hk⟩) post e w a ha h
    rwa [List.append_nil] at this
  refine wpIn_wide (n := 0) |>.1 ?_
  rw [← frn_none]
  refine wpIn_region_lit ?_
  have := WpL.wpListIn (ro := none) (ds := []) (tail := o :: post) (Q := fun x a' w' => ∃ e', Rep n a' e' ∧ Q x e' w') (fun a e w ha hk => by
    unfold Go.wpListIn
    rw [ha.yielded]
    rcases hk with ⟨hw, r, vs, hu, hv, fn, tmps, assign, body, hy, hR⟩ | ⟨hw, hk⟩
    · rw [if_pos hw]
      refine ⟨fun _ _ => trivial, ?_⟩
      have hrun : (Oper.semAt (frn none).round a.eval o).run P w = .ok (.round r fn tmps assign body) w := by
        show (execOp a.eval o).run P w = _
        rw [ha.eval, ho]
        simp [execOp, resolve, Deferred.ofValue, invoke, hu, List.map_toArray, hv.map, hy]
      rw [hrun]
      refine ⟨fun h => (by cases h), RoundIn.mono (F := Fence.wide) hR fun x w' hx => ?_⟩
      obtain ⟨v, rfl, hx⟩ := hx
      rw [ho]
      exact h2 _ _ _ (ha.put (d := some d) hd v) hx
    · rw [if_neg (by rw [hw]; decide)]
      refine ⟨fun _ _ => trivial, ?_⟩
      rw [ho]
      exact h2 _ _ _ (ha.put (d := some d) hd undef) hk) pre e w a ha h
  rw [← hl] at this
  exact this
theorem Wp.regionYat (k : Nat) {P : Program} {n : Nat} {Q : Exit → Env → World → Prop} {e : Env} {w : World} {l : List Oper} {o : Oper} {id : Nat} (hl : l[k]? = some o) {d : Tmp} {u : Operand} {xs : List Operand} {argTypes : Array TypeId} {ty : TypeId} {pos : String} {after : Array Edge} {gd : Option (Nat × Bool)}
    (ho : o = ⟨some d, .call { callee := .value u, args := xs.toArray, argTypes }, ty, pos, after, gd⟩) (hd : dOk n (some d) = true)
    (h : WpL P n l.toArray (fun e w => (Region.wanted o (yieldedE l.toArray e) = true ∧ ∃ r vs, e.eval u = .func (.yield r) #[] #[] ∧ Vals e xs vs ∧
        YieldAt Fence.wide 0 P r vs.toArray w fun x w' => ∃ v, x = .returned v ∧ WpL P n l.toArray (Q .normal) (l.drop (k + 1)) (e.set d v) w') ∨
      (Region.wanted o (yieldedE l.toArray e) = false ∧ WpL P n l.toArray (Q .normal) (l.drop (k + 1)) (e.set d undef) w)) (l.take k) e w) : Wp P n (.region id l.toArray false) Q e w := by
  refine Wp.regionY (pre := l.take k) (post := l.drop (k + 1)) ?_ ho hd h
  obtain ⟨hk, hk2⟩ := List.getElem?_eq_some_iff.1 hl
  rw [← hk2, ← List.drop_eq_getElem_cons hk, List.take_append_drop]

/-! ### The loop -/
/-- An iterator's contract: whatever the caller keeps in Lc from round to round; Γ is what the iterator reads. -/
def IterOk (P : Program) (gf : Nat) (lb : Array Value) {α : Type} (encs : α → List Value) (xs : List α) (w0 : World) (M : Nat → Prop) (Γ : List Ch) : Prop :=
  ∀ (r : Nat) (I Ix : List α → List Ch → Prop),
    (∀ pre x rest Lc Γ' w, xs = pre ++ x :: rest → I pre Lc → St w0 M w (Lc ++ Γ') → YieldAt Fence.wide 0 P r (encs x).toArray w fun v w' =>
      (v = .returned (.bool true) ∧ ∃ Lc', I (pre ++ [x]) Lc' ∧ St w0 M w' (Lc' ++ Γ')) ∨ (v = .returned (.bool false) ∧ ∃ Lc', Ix (pre ++ [x]) Lc' ∧ St w0 M w' (Lc' ++ Γ'))) →
    ∀ Lc Γ' w, I [] Lc → St w0 M w (Lc ++ (Γ ++ Γ')) → Calls P gf (#[.func (.yield r) #[] #[]] ++ lb) w fun v w' => (∃ u, v = .returned u) ∧
      ((∃ Lc', I xs Lc' ∧ St w0 M w' (Lc' ++ (Γ ++ Γ'))) ∨ ∃ pre Lc', Ix pre Lc' ∧ St w0 M w' (Lc' ++ (Γ ++ Γ')))
def markD (D : Nat) : Deferred := { target := .collected D, args := #[] }
/-- How a round's body may be left. -/
def roundD {α : Type} (r : Nat) (o : Obj) (w0 : World) (M : Nat → Prop) (I : List α → List Ch → Prop) (Ix : Code → List α → List Ch → Prop) (xs : List α) (Γ' : List Ch) : PostD
  | .normal, _, _, w => ∃ Lc', I xs Lc' ∧ St w0 M w (.obj r o :: (Lc' ++ Γ'))
  | .ret, _, _, w => ∃ Lc', Ix .ret xs Lc' ∧ St w0 M w (.obj r o :: (Lc' ++ Γ'))
  | .exit id, _, _, w => ∃ Lc', Ix (.exit id) xs Lc' ∧ St w0 M w (.obj r o :: (Lc' ++ Γ'))
  | _, _, _, _ => False
theorem roundD.go {α : Type} {r : Nat} {o : Obj} {w0 w : World} {M : Nat → Prop} {I : List α → List Ch → Prop} {Ix : Code → List α → List Ch → Prop} {xs : List α} {Γ' Lc' : List Ch} {ds : List Deferred} {e : Env} (h : I xs Lc') (hS : St w0 M w (.obj r o :: (Lc' ++ Γ'))) : roundD r o w0 M I Ix xs Γ' .normal ds e w := ⟨_, h, hS⟩
theorem roundD.ret {α : Type} {r : Nat} {o : Obj} {w0 w : World} {M : Nat → Prop} {I : List α → List Ch → Prop} {Ix : Code → List α → List Ch → Prop} {xs : List α} {Γ' Lc' : List Ch} {ds : List Deferred} {e : Env} (h : Ix .ret xs Lc') (hS : St w0 M w (.obj r o :: (Lc' ++ Γ'))) : roundD r o w0 M I Ix xs Γ' .ret ds e w := ⟨_, h, hS⟩
theorem roundD.exit {α : Type} {r : Nat} {o : Obj} {w0 w : World} {M : Nat → Prop} {I : List α → List Ch → Prop} {Ix : Code → List α → List Ch → Prop} {xs : List α} {Γ' Lc' : List Ch} {ds : List Deferred} {e : Env} {id : Nat} (h : Ix (.exit id) xs Lc') (hS : St w0 M w (.obj r o :: (Lc' ++ Γ'))) : roundD r o w0 M I Ix xs Γ' (.exit id) ds e w := ⟨_, h, hS⟩
def Env.params (e : Env) : List Tmp → List Value → Env
  | p :: ps, v :: vs => Env.params (e.set p v) ps vs
  | _, _ => e
theorem rep_params {n : Nat} : ∀ (ps : List Tmp) (vs : List Value) (tmps : Array Value) (e : Env), (∀ p ∈ ps, p < n) → RepD [] n { tmps := tmps, defers := [] } e →
    RepD [] n { tmps := (ps.zip vs).foldl (fun t (p, v) => t.setIfInBounds p v) tmps, defers := [] } (e.params ps vs)
  | [], _, _, _, _, h => h
  | _ :: _, [], _, _, _, h => h
  | p :: ps, v :: vs, tmps, e, hp, h => by
    have hd : dOk n (some p) = true := by simpa [dOk, Nat.blt_eq] using hp p List.mem_cons_self
    exact rep_params ps vs (tmps.setIfInBounds p v) (e.set p v) (fun q hq => hp q (List.mem_cons_of_mem _ hq)) (h.put (d := some p) hd v)
theorem chg_putObj (w : World) (r : Nat) (o : Obj) : Chg w (fun k => some r = some k) (w.putObj r o) :=
  ⟨rfl, rfl, rfl, by simp, fun k _ hk => World.putObj_heap_other fun h => hk (by rw [h])⟩
theorem St.putObj {w0 w : World} {M : Nat → Prop} {r : Nat} {o : Obj} {L : List Ch} (o' : Obj) (hS : St w0 M w (.obj r o :: L)) : St w0 M (w.putObj r o') (.obj r o' :: L) := by
  have h1 : w.heap[r]? = some o := (hS.hold _ List.mem_cons_self).1
  exact hS.put (d := .obj r o') (chg_putObj w r o') (World.putObj_heap_same (Array.getElem?_eq_some_iff.1 h1).1) rfl (fun g hg => .inl hg)
theorem St.newObj {w0 w : World} {M : Nat → Prop} {o : Obj} {L : List Ch} (hS : St w0 M w L) : St w0 M (w.alloc o) (.obj w.heap.size o :: L) :=
  hS.new (c := .obj w.heap.size o) ((Below.refl _ w).alloc (Nat.le_refl _) _) (World.alloc_heap_new w o) rfl fun g hg => by cases hg; exact Nat.le_refl _

theorem WpG.rangeFunc {P : Program} {n : Nat} {ds : List Deferred} {Q : PostD} {e : Env} {w : World} {α : Type} {g : Operand} {ps : List Tmp} {assign body : Code} {gf : Nat} {lb : Array Value} {encs : α → List Value} {xs : List α} {w0 : World} {M : Nat → Prop} {Γ Γ0 Lc : List Ch}
    (hseq : IterOk P gf lb encs xs w0 M Γ) (hg : e.eval g = .func (.func gf) #[] lb) (eg : ∀ args w, (callFunc gf args).run P w = .ok (.enter gf args) w)
    (hps : ∀ x, (encs x).length = ps.length) (hpn : ∀ p ∈ ps, p < n)
    (I : List α → List Ch → Prop) (Ix : Code → List α → List Ch → Prop) (hS : St w0 M w (Lc ++ (Γ ++ Γ0))) (h0 : I [] Lc)
    (hbody : ∀ r pre x rest Lc Γ' w o, xs = pre ++ x :: rest → I pre Lc → St w0 M w (.obj r o :: (Lc ++ Γ')) →
      WpG (some r) P n [] assign (thenD (fun ds' e' w' => ds' = [] ∧ ∃ L1, St w0 M w' (.obj r o :: L1) ∧ ∀ w'' o', St w0 M w'' (.obj r o' :: L1) → WpG (some r) P n [] body (roundD r o' w0 M I Ix (pre ++ [x]) Γ') e' w'') (fun _ _ _ _ => False)) (e.params ps (encs x)) w)
    (hdone : ∀ D Lc w', I xs Lc → St w0 M w' (.obj D (.deferred (some [])) :: (Lc ++ (Γ ++ Γ0))) → Q .normal (markD D :: ds) e w')
    (hstop : ∀ D c pre Lc w', Ix c pre Lc → St w0 M w' (.obj D (.deferred (some [])) :: (Lc ++ (Γ ++ Γ0))) → WpG none P n (markD D :: ds) c Q e w') :
    WpG none P n ds (.rangeFunc g ps.toArray assign body) Q e w := fun a ha => by
  refine wpIn_rangeFunc (F := frn none) fun fn _ => ?_
  obtain ⟨rec, hrec⟩ : ∃ rec : LoopState → Option Code → Loop, rec = fun st pe => { state := st, pending := pe, fn, tmps := a.tmps, params := ps.toArray, assign, body, defers := w.heap.size } := ⟨_, rfl⟩
  have hS1 := (hS.newObj (o := .deferred (some []))).newObj (o := .loop (rec .ready none))
  rw [World.size_alloc] at hS1
  generalize hD : w.heap.size = D at *
  have hS2 : St w0 M ((w.alloc (.deferred (some []))).alloc (.loop (rec .ready none))) ((Ch.obj (D + 1) (.loop (rec .ready none)) :: Lc) ++ (Γ ++ (Ch.obj D (.deferred (some [])) :: Γ0))) := by
    refine hS1.perm ?_
    rw [List.cons_append]
    refine List.Perm.cons _ ?_
    rw [← List.append_assoc, ← List.append_assoc]
    exact List.perm_middle.symm
  have back : ∀ (o : Obj) (Lc' : List Ch) w', St w0 M w' ((Ch.obj (D + 1) o :: Lc') ++ (Γ ++ (Ch.obj D (.deferred (some [])) :: Γ0))) → St w0 M w' (.obj (D + 1) o :: .obj D (.deferred (some [])) :: (Lc' ++ (Γ ++ Γ0))) := fun o Lc' w' h => by
    refine h.perm ?_
    rw [List.cons_append]
    refine List.Perm.cons _ ?_
    rw [← List.append_assoc, ← List.append_assoc]
    exact List.perm_middle
  refine ⟨D + 1, [markD D], (w.alloc (.deferred (some []))).alloc (.loop (rec .ready none)), { target := .fn (.func gf) lb, args := #[.func (.yield (D + 1)) #[] #[]] }, (w.alloc (.deferred (some []))).alloc (.loop (rec .ready none)), gf,
    #[.func (.yield (D + 1)) #[] #[]] ++ lb, (w.alloc (.deferred (some []))).alloc (.loop (rec .ready none)), ?_, ?_, fun _ _ => trivial, ?_, fun h => (by cases h), Calls.toIn ?_⟩
  · have := run_enterLoop_outer (P := P) (w := w) fn a.tmps ps.toArray assign body
    rw [hD] at this
    rw [hrec]
    exact this
  · have hg' : a.eval g = .func (.func gf) #[] lb := by rw [ha.eval, hg]
    simp only [resolve, hg']
    simp [go_sem]
  · simp [invoke, go_sem, eg]
  refine (hseq (D + 1) (fun pre L => ∃ Lc, L = .obj (D + 1) (.loop (rec .ready none)) :: Lc ∧ I pre Lc) (fun pre L => ∃ c Lc, L = .obj (D + 1) (.loop (rec .done (some c))) :: Lc ∧ Ix c pre Lc) ?_
    (.obj (D + 1) (.loop (rec .ready none)) :: Lc) (.obj D (.deferred (some [])) :: Γ0) _ ⟨Lc, rfl, h0⟩ hS2).mono ?_
  · rintro pre x rest _ Γ' W hx ⟨Lc, rfl, hI⟩ hS3
    have hl : W.heap[D + 1]? = some (.loop (rec .ready none)) := (hS3.hold _ List.mem_cons_self).1
    have hy := run_yield (P := P) (args := (encs x).toArray) hl (by rw [hrec]; simp [hps x])
    rw [hrec] at hy
    refine ⟨fn, _, assign, body, hy, roundIn_of_wpIn (F := Fence.wide) trivial ?_⟩
    have hB := hbody (D + 1) pre x rest Lc Γ' W _ hx hI hS3 { tmps := (ps.zip (encs x)).foldl (fun t (p, v) => t.setIfInBounds p v) a.tmps, defers := [] } (rep_params ps (encs x) a.tmps e hpn ⟨rfl, ha.2.1, ha.2.2⟩)
    have hz : (ps.toArray.zip (encs x).toArray).foldl (fun tmps (t, a) => tmps.setIfInBounds t a) a.tmps = (ps.zip (encs x)).foldl (fun t (p, v) => t.setIfInBounds p v) a.tmps := by simp
    dsimp only
    rw [hz]
    refine wpIn_mono (F := frn (some (D + 1))) hB fun x1 a1 w1 ⟨ds', e', hr', hq⟩ => ?_
    cases x1 with
    | normal =>
      obtain ⟨rfl, L1, hS4, hnext⟩ := hq
      have hl1 : w1.heap[D + 1]? = some (.loop (rec .ready none)) := (hS4.hold _ List.mem_cons_self).1
      refine ⟨_, run_beginRound hl1 (by rw [hrec]), ?_⟩
      refine wpIn_mono (F := frn (some (D + 1))) (hnext _ _ (hS4.putObj _) a1 hr') fun x2 a2 w2 ⟨ds2, e2, hr2, hq2⟩ => ?_
      have fin : ∀ (jump : Option Code) (Lc' : List Ch), St w0 M w2 (.obj (D + 1) (.loop { rec .ready none with state := .busy }) :: (Lc' ++ Γ')) →
          (Instr.endRound (D + 1) jump).run P w2 = .ok (.bool jump.isNone) (w2.putObj (D + 1) (.loop (rec (if jump.isNone then .ready else .done) jump))) ∧
          St w0 M (w2.putObj (D + 1) (.loop (rec (if jump.isNone then .ready else .done) jump))) ((.obj (D + 1) (.loop (rec (if jump.isNone then .ready else .done) jump)) :: Lc') ++ Γ') := fun jump Lc' hS5 => by
        have hl2 : w2.heap[D + 1]? = some (.loop { rec .ready none with state := .busy }) := (hS5.hold _ List.mem_cons_self).1
        have := run_endRound (P := P) jump hl2
        rw [hrec] at this ⊢
        exact ⟨this, hS5.putObj _⟩
      cases x2 with
      | normal =>
        obtain ⟨Lc', hI', hS5⟩ := hq2
        obtain ⟨h1, h2⟩ := fin none Lc' hS5
        exact ⟨_, _, h1, .inl ⟨rfl, _, ⟨Lc', rfl, hI'⟩, h2⟩⟩
      | ret =>
        obtain ⟨Lc', hI', hS5⟩ := hq2
        obtain ⟨h1, h2⟩ := fin (some .ret) Lc' hS5
        exact ⟨_, _, h1, .inr ⟨rfl, _, ⟨.ret, Lc', rfl, hI'⟩, h2⟩⟩
      | exit id =>
        obtain ⟨Lc', hI', hS5⟩ := hq2
        obtain ⟨h1, h2⟩ := fin (some (.exit id)) Lc' hS5
        exact ⟨_, _, h1, .inr ⟨rfl, _, ⟨.exit id, Lc', rfl, hI'⟩, h2⟩⟩
      | goto t => exact hq2.elim
      | panic ch => exact hq2.elim
      | outgrown => exact hq2.elim
    | exit id => exact hq.elim
    | goto t => exact hq.elim
    | ret => exact hq.elim
    | panic ch => exact hq.elim
    | outgrown => exact hq.elim
  · rintro v w2 ⟨⟨u, rfl⟩, (⟨_, ⟨Lc', rfl, hI'⟩, hS3⟩ | ⟨pre, _, ⟨c, Lc', rfl, hI'⟩, hS3⟩)⟩
    · have hl : w2.heap[D + 1]? = some (.loop (rec .ready none)) := (hS3.hold _ List.mem_cons_self).1
      refine ⟨none, _, by have := run_endLoop (P := P) hl (by rw [hrec]; simp); rw [hrec] at this; exact this, ?_⟩
      exact ⟨_, e, ⟨by rw [ha.1]; rfl, ha.2.1, ha.2.2⟩, hdone D Lc' _ hI' ((back _ _ _ hS3).putObj _).tail⟩
    · have hl : w2.heap[D + 1]? = some (.loop (rec .done (some c))) := (hS3.hold _ List.mem_cons_self).1
      refine ⟨some c, _, by have := run_endLoop (P := P) hl (by rw [hrec]; simp); rw [hrec] at this; exact this, ?_⟩
      exact hstop D c pre Lc' _ hI' ((back _ _ _ hS3).putObj _).tail _ ⟨by rw [ha.1]; rfl, ha.2.1, ha.2.2⟩

/-! ### A call's beginning and end -/
def leaveG (P : Program) (fn : Func) (R : Ending → World → Prop) : PostD
  | .normal, ds, e, w | .ret, ds, e, w => ∀ tmps : Array Value, (∀ t, tmps.getD t undef = e t) → LeavesInM Fence.wide 0 P fn tmps R ds .returning w
  | _, _, _, _ => False
theorem leaveG_ret {P : Program} {fn : Func} {R : Ending → World → Prop} {ds : List Deferred} {e : Env} {w : World} (h : leaveG P fn R .ret ds e w) : leaveG P fn R .normal ds e w := h
theorem leaveG_nil {P : Program} {fn : Func} {R : Ending → World → Prop} {e : Env} {w : World} (h : doneQ P fn R .ret e w) : leaveG P fn R .ret [] e w := fun tmps ht => by
  obtain ⟨v, h1, h2⟩ := h
  exact ⟨v, h1 tmps ht, h2⟩
theorem leaveG_mark {P : Program} {fn : Func} {R : Ending → World → Prop} {ds : List Deferred} {e : Env} {w w0 : World} {M : Nat → Prop} {D : Nat} {L : List Ch} (hS : St w0 M w (.obj D (.deferred (some [])) :: L)) (h : ∀ w', St w0 M w' L → leaveG P fn R .ret ds e w') : leaveG P fn R .ret (markD D :: ds) e w := fun tmps ht => by
  have hk : w.heap[D]? = some (.deferred (some [])) := (hS.hold _ List.mem_cons_self).1
  refine ⟨by simp, .inl ⟨_, _, rfl, run_takeDeferred hk, ?_⟩⟩
  exact h _ (hS.putObj _).tail tmps ht
theorem leaveG_marks {P : Program} {fn : Func} {R : Ending → World → Prop} {e : Env} {w0 : World} {M : Nat → Prop} {L : List Ch} (h : ∀ w', St w0 M w' L → doneQ P fn R .ret e w') : ∀ (Ds : List Nat) (w : World), St w0 M w (Ds.map (fun D => .obj D (.deferred (some []))) ++ L) → leaveG P fn R .ret (Ds.map markD) e w
  | [], w, hS => leaveG_nil (h w hS)
  | D :: Ds, w, hS => leaveG_mark (L := Ds.map (fun D => .obj D (.deferred (some []))) ++ L) hS fun w' hS' => leaveG_marks h Ds w' hS'
theorem calls_ofG {P : Program} {f : FuncId} {fn : Func} {c : Code} {args : List Value} {w : World} {R : Ending → World → Prop} (n : Nat)
    (hf : P.funcs[f]? = some fn) (hb : fn.body = some c) (hn : fn.ntmps = n) (hargs : args.length ≤ n)
    (h : WpG none P n [] c (leaveG P fn R) (argE args 0) w) : Calls P f args.toArray w R := by
  have h0 := rep_init hn hargs
  refine callsIn_wide (n := 0) |>.1 (callsIn_of_wp_marks (F := Fence.wide) hf hb trivial (wpIn_mono (F := frn none) (h _ ⟨h0.1, h0.2.1, h0.2.2⟩) fun x a' w' ⟨ds', e', h1, h2⟩ => ?_))
  cases x with
  | normal => have h3 := h2 a'.tmps h1.2.2; rw [← h1.1] at h3; exact h3
  | ret => have h3 := h2 a'.tmps h1.2.2; rw [← h1.1] at h3; exact h3
  | _ => exact h2.elim
/-- The walk in a round, or beside deferred calls. -/
theorem Reach.walkG {g r : Prop} (k : r) (h : Reach g r := by (repeat ((with_reducible apply Reach.via); (· (intro x; (first | ((with_reducible apply WpL.ld); (· assumption); (· exact rfl); (· exact rfl); (· exact Look.found); exact x.out) | ((with_reducible apply WpL.ldRow); (· assumption); (· exact rfl); (· exact rfl); (· exact Sel.found); (· exact rfl); exact x.out) | ((with_reducible apply WpL.st); (· assumption); (· exact rfl); (· exact Env.found); (· exact rfl); (· exact Upd.found); exact x.out) | ((with_reducible apply WpL.stRow); (· assumption); (· exact rfl); (· exact rfl); (· exact Swap.found); (· exact rfl); (· exact rfl); (· exact oneAll_spec rfl); exact x.out) | ((with_reducible apply WpL.slLo); (· exact rfl); (· exact rfl); (· assumption); (· exact rfl); (· exact natFound); (· exact lenFound); exact x.out) | ((with_reducible apply WpL.slHi); (· exact rfl); (· exact rfl); (· assumption); (· exact rfl); (· exact natFound); (· exact lenFound); exact x.out) | ((with_reducible apply WpL.slLoHi); (· exact rfl); (· exact rfl); (· assumption); (· exact rfl); (· exact natFound); (· exact rfl); (· exact natFound); (· exact lenFound); (· exact lenFound); exact x.out) | ((with_reducible apply WpL.sr); (· assumption); (· exact rfl); (· exact rfl); (· exact RdsV.found); exact x.out) | ((with_reducible apply WpL.atLoad); (· assumption); (· exact rfl); (· exact rfl); (· exact Look.found); exact x.out) | ((with_reducible apply WpL.atStore); (· assumption); (· exact rfl); (· exact rfl); (· exact rfl); (· exact Upd.found); exact x.out) | ((with_reducible apply WpL.atCas); (· assumption); (· exact rfl); (· exact rfl); (· exact rfl); (· exact rfl); (· exact Look.found); (· exact Upd.found); exact x.out) | ((with_reducible apply WpL.det); (· exact rfl); (· exact Det.found2); exact x.out) | ((with_reducible apply WpL.nilN); exact x.out) | ((with_reducible apply WpL.nil); exact x.out) | ((with_reducible apply WpG.seq); exact x.out) | ((with_reducible apply WpG.region); exact x.out) | ((with_reducible apply thenD_normal); exact x.out) | ((with_reducible apply WpG.block); exact x.out) | ((with_reducible apply WpG.skip); exact x.out) | ((with_reducible apply WpG.ret); exact x.out) | ((with_reducible apply WpG.exit); exact x.out) | ((with_reducible apply thenD_exit); exact x.out) | ((with_reducible apply thenD_ret); exact x.out) | ((with_reducible apply blockG_normal); exact x.out) | ((with_reducible apply blockG_ret); exact x.out) | ((with_reducible apply blockG_same); exact x.out) | ((with_reducible apply blockG_other); (· exact rfl); exact x.out) | ((with_reducible apply WpL.unguard); (· exact rfl); (· exact rfl); (· exact boolFound2); exact x.out) | ((with_reducible apply WpL.skipG); (· exact rfl); (· exact rfl); (· exact boolFound2); (· exact rfl); exact x.out) | ((with_reducible apply WpL.skipU); (· exact rfl); (· exact rfl); (· exact rfl); exact x.out) | ((with_reducible apply WpG.condT); (· exact rfl); (· exact boolFound2); exact x.out) | ((with_reducible apply WpG.condF); (· exact rfl); (· exact boolFound2); exact x.out)))); (first | ((with_reducible apply Reach.st); intro _ _) | ((with_reducible apply Reach.vw); intro _ _) | skip))); exact Reach.done) : g := h k
/-- Operations alone. -/
theorem Reach.walkL {g r : Prop} (k : r) (h : Reach g r := by (repeat ((with_reducible apply Reach.via); (· (intro x; (first | ((with_reducible apply WpL.ld); (· assumption); (· exact rfl); (· exact rfl); (· exact Look.found); exact x.out) | ((with_reducible apply WpL.ldRow); (· assumption); (· exact rfl); (· exact rfl); (· exact Sel.found); (· exact rfl); exact x.out) | ((with_reducible apply WpL.st); (· assumption); (· exact rfl); (· exact Env.found); (· exact rfl); (· exact Upd.found); exact x.out) | ((with_reducible apply WpL.stRow); (· assumption); (· exact rfl); (· exact rfl); (· exact Swap.found); (· exact rfl); (· exact rfl); (· exact oneAll_spec rfl); exact x.out) | ((with_reducible apply WpL.slLo); (· exact rfl); (· exact rfl); (· assumption); (· exact rfl); (· exact natFound); (· exact lenFound); exact x.out) | ((with_reducible apply WpL.slHi); (· exact rfl); (· exact rfl); (· assumption); (· exact rfl); (· exact natFound); (· exact lenFound); exact x.out) | ((with_reducible apply WpL.slLoHi); (· exact rfl); (· exact rfl); (· assumption); (· exact rfl); (· exact natFound); (· exact rfl); (· exact natFound); (· exact lenFound); (· exact lenFound); exact x.out) | ((with_reducible apply WpL.sr); (· assumption); (· exact rfl); (· exact rfl); (· exact RdsV.found); exact x.out) | ((with_reducible apply WpL.atLoad); (· assumption); (· exact rfl); (· exact rfl); (· exact Look.found); exact x.out) | ((with_reducible apply WpL.atStore); (· assumption); (· exact rfl); (· exact rfl); (· exact rfl); (· exact Upd.found); exact x.out) | ((with_reducible apply WpL.atCas); (· assumption); (· exact rfl); (· exact rfl); (· exact rfl); (· exact rfl); (· exact Look.found); (· exact Upd.found); exact x.out) | ((with_reducible apply WpL.det); (· exact rfl); (· exact Det.found2); exact x.out) | ((with_reducible apply WpL.nilN); exact x.out) | ((with_reducible apply WpL.nil); exact x.out) | ((with_reducible apply WpL.unguard); (· exact rfl); (· exact rfl); (· exact boolFound2); exact x.out) | ((with_reducible apply WpL.skipG); (· exact rfl); (· exact rfl); (· exact boolFound2); (· exact rfl); exact x.out) | ((with_reducible apply WpL.skipU); (· exact rfl); (· exact rfl); (· exact rfl); exact x.out)))); (first | ((with_reducible apply Reach.st); intro _ _) | ((with_reducible apply Reach.vw); intro _ _) | skip))); exact Reach.done) : g := h k
end Go.Fk
