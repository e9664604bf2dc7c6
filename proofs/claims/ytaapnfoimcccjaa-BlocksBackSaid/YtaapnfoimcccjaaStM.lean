/-
  More rules over the parts of memory: pointers against nil, least and greatest, functions as values, what may only be appended to, noughts appended,
  parts of rows, numbers that are read and written as one (sync/atomic). They hold for any program; conditions stand at each theorem.
-/
import Derived.Test.YtaapnfoimcccjaaStW
import Derived.Laws.Externs
namespace Go.Fk
open Go.RowKit

class PtrT (P : Program) (t : TypeId) : Prop where
  hu : ∃ el, P.underlying t = some (.pointer el)
section
variable {P : Program} {I : World → Prop} {ty : TypeId} {e : Env} {x y : Operand} {v : Value} {t el t' : TypeId}
theorem Det.nilCheck {a : Addr} (hx : e.eval x = .pointer (some a)) : Det P I (.nilCheck x) ty e (.pointer (some a)) := fun _ _ _ _ _ _ => by simp [execOp, hx]
theorem run_equalIn_nilP {t el : TypeId} (hu : P.underlying t = some (.pointer el)) {A : Option Addr} (d : Nat) (w : World) : (Op.equalIn (d + 1) t (.pointer A) (.pointer none)).run P w = .ok A.isNone w := by
  cases A <;> simp [Op.equalIn, run_underlying hu]
theorem Det.eqlNilP [h : PtrT P t] {A : Option Addr} (hx : e.eval x = .pointer A) (hy : e.eval y = .pointer none) : Det P I (.binOp .eql t x y t') ty e (.bool A.isNone) := fun _ _ _ _ w _ => by
  obtain ⟨el, hu⟩ := h.hu
  have := run_equalIn_nilP (P := P) hu (A := A) 9999 w
  simp only [execOp, hx, hy, eqGuard, binOp]
  simp [Op.equal, Op.maxDepth, this]
theorem Det.neqNilP [h : PtrT P t] {A : Option Addr} (hx : e.eval x = .pointer A) (hy : e.eval y = .pointer none) : Det P I (.binOp .neq t x y t') ty e (.bool A.isSome) := fun _ _ _ _ w _ => by
  obtain ⟨el, hu⟩ := h.hu
  have := run_equalIn_nilP (P := P) hu (A := A) 9999 w
  simp only [execOp, hx, hy, eqGuard, binOp]
  cases A <;> simp [Op.equal, Op.maxDepth, this]
theorem Det.min {k k' : IntKind} {a b : Int} {ts : Array TypeId} (hx : e.eval x = .int k a) (hy : e.eval y = .int k' b) : Det P I (.call { callee := .builtin .min, args := #[x, y], argTypes := ts }) ty e (.int k (min a b)) := fun _ _ _ _ _ _ => by
  simp [execOp, resolve, invoke, builtin, hx, hy, Builtin.min_, Builtin.min2]
  split <;> omega
theorem Det.max {k k' : IntKind} {a b : Int} {ts : Array TypeId} (hx : e.eval x = .int k a) (hy : e.eval y = .int k' b) : Det P I (.call { callee := .builtin .max, args := #[x, y], argTypes := ts }) ty e (.int k (max a b)) := fun _ _ _ _ _ _ => by
  simp [execOp, resolve, invoke, builtin, hx, hy, Builtin.max_, Builtin.max2]
  split <;> omega
theorem Det.makeFunc {f : FuncId} {l : List Operand} {vs : List Value} (hv : Vals e l vs) : Det P I (.makeFunc (.func f) #[] l.toArray) ty e (.func (.func f) #[] vs.toArray) := fun _ _ _ _ _ _ => by
  simp [execOp, Instr.makeFunc, List.map_toArray, hv.map]
theorem Det.makeMeth {f : FuncId} {u : Operand} (hx : e.eval u = v) : Det P I (.makeFunc (.func f) #[u] #[]) ty e (.func (.func f) #[v] #[]) := fun _ _ _ _ _ _ => by
  simp [execOp, Instr.makeFunc, hx]
theorem Det.subN {a b : Int} {p q : Nat} (hx : e.eval x = .int .i64 a) (ha : a = (p : Int)) (hy : e.eval y = .int .i64 b) (hb : b = (q : Int)) (h : q ≤ p) (hp : p ≤ 9223372036854775807) : Det P I (.binOp .sub t x y t') ty e (.int .i64 ((p - q : Nat) : Int)) := by
  have := Det.sub (P := P) (I := I) (t := t) (t' := t') (ty := ty) hx hy (by omega) (by omega)
  rwa [show a - b = ((p - q : Nat) : Int) by omega] at this
/-- An element's address, of elements of any size; an array's, within a block. -/
theorem Det.ixS [SliceT P t el] {sz : Nat} [SizeT P el sz] {V A : Option Addr} {n c o m : Nat} {k : IntKind} {i : Int} (hx : e.eval x = .slice V n c) (hy : e.eval y = .int k i) (hv : IsVw V n c A o) (hi : i = (m : Int)) (hm : m < n) :
    Det P I (.indexAddr t x y) ty e (.pointer (some ((adr A).add (o + m * sz)))) := by
  have hle := hv.le
  rcases hv.at_ with h0 | ⟨a, rfl, rfl⟩
  · omega
  · subst hi
    have := Det.indexS (P := P) (I := I) (t := t) (ty := ty) hx hy (by omega) (by omega)
    rw [add_add] at this
    show Det P I (.indexAddr t x y) ty e (.pointer (some (a.add (o + m * sz))))
    simpa using this
theorem Det.ixA0 {n : Nat} [h : ArrT P t n el] [hs : SizeT P el 1] {g m : Nat} {k : IntKind} {i : Int} (hx : e.eval x = .pointer (some ⟨g, 0, none⟩)) (hy : e.eval y = .int k i) (hi : i = (m : Int)) (h1 : m < n) :
    Det P I (.indexAddr t x y) ty e (.pointer (some ⟨g, m, none⟩)) := by
  have := Det.indexA1B (P := P) (I := I) (t := t) (ty := ty) hx hy hi h1
  rwa [Nat.zero_add] at this
theorem Det.fieldV {s : TypeId} {k off o : Nat} {A : Option Addr} [h : FieldT P s k off] (hx : e.eval x = .pointer (some ((adr A).add o))) : Det P I (.fieldAddr s x k) ty e (.pointer (some ((adr A).add (o + off)))) := fun _ _ _ _ w _ => by
  have hf := h.h
  unfold fieldOff at hf
  split at hf
  · rename_i fs hu
    split at hf
    · rename_i f hk
      split at hf
      · rename_i i hi
        split at hf
        · cases hf
        · rename_i h0
          injection hf with hf
          subst hf
          simp [execOp, hx, Instr.fieldAt, run_underlying hu, hk, Instr.sureAddr, fieldPlace, sizeOf, typeInfo, hi, h0, add_add]
      · cases hf
    · cases hf
  · cases hf
end

section
variable {P : Program} {N : Nat} {ops : Array Oper} {K : Env → World → Prop} {rest : List Oper} {e : Env} {w : World} {ty : TypeId} {pos : String} {after : Array Edge} {x y : Operand}
variable {w0 : World} {M : Nat → Prop} {L L1 L' : List Ch} {t el : TypeId} {d : Tmp} {v : Value}

/-- A function that is a value. -/
theorem WpL.callV {f : FuncId} {caps : List Value} {u : Operand} {l : List Operand} {argTypes : Array TypeId} {vs : List Value} (hd : dOk N (some d) = true) (hu : e.eval u = .func (.func f) #[] caps.toArray) (hf : ∀ args w, (callFunc f args).run P w = .ok (.enter f args) w) (ha : Vals e l vs)
    (h : Calls P f (vs ++ caps).toArray w fun x w'' => ∃ v, x = .returned v ∧ WpL P N ops K rest (e.set d v) w'') :
    WpL P N ops K (⟨some d, .call { callee := .value u, args := l.toArray, argTypes }, ty, pos, after, none⟩ :: rest) e w :=
  ⟨hd, by
    rw [if_pos (by rfl)]
    unfold OpW
    have : (execOp e.eval ⟨some d, .call { callee := .value u, args := l.toArray, argTypes }, ty, pos, after, none⟩).run P w = .ok (.enter f (vs ++ caps).toArray) w := by
      simp [execOp, resolve, Deferred.ofValue, invoke, hu, List.map_toArray, ha.map, hf]
    rw [this]
    exact h⟩

/-- A text's bytes, of a constant: they stay as they are, may be read and appended to. -/
theorem WpL.mark [ht : SliceT P t el] [hb : IntT P el .u8] {A : Option Addr} {n : Nat} {xs : List Value} (hS : St w0 M w L) (hd : dOk N (some d) = true) (hx : e.eval x = .slice A n n) (hsw : Swap (.own A n n el 1 xs) (.app A n n el 1 xs) L L') (hn : 0 < n)
    (h : ∀ w', St w0 M w' L' → WpL P N ops K rest (e.set d (.slice A n n)) w') :
    WpL P N ops K (⟨some d, .convert t t x, ty, pos, after, none⟩ :: rest) e w := by
  obtain ⟨Γ, h2, h3⟩ := hsw.perm
  have hown : Sl w 0 el 1 (.slice A n n) n xs := ((hS.perm h2).hold _ List.mem_cons_self).1
  obtain ⟨hl, hown⟩ := hown
  rcases hown with ⟨_, h0⟩ | ⟨g, cap, cs, h4, _, hg, _, hm, hcs, htk⟩
  · omega
  · injection h4 with h4 h5 h6
    subst h4 h6
    refine WpL.markStr hd hx hg fun w' hgr hs hat => h w' (hS.swap hsw (Chg.of_grown hgr) (.inr ⟨rfl, hm, hl, _, rfl, ?_, ?_⟩) rfl fun g hg => .inl hg)
    · rw [hs]; exact (Array.getElem?_eq_some_iff.1 hg).1
    · rw [← htk]; exact hat.take _
theorem St.toApp {A : Option Addr} {n c sz : Nat} {xs : List Value} (hS : St w0 M w L) (hsw : Swap (.own A n c el sz xs) (.app A n c el sz xs) L L') : St w0 M w L' := by
  obtain ⟨Γ, h2, h3⟩ := hsw.perm
  exact hS.swap hsw (Chg.refl _ _) (.inl ((hS.perm h2).hold _ List.mem_cons_self).1) rfl fun g hg => .inl hg

theorem WpL.appA [ht : SliceT P t el] {sz bytes : Nat} {z : Value} [he : Elem P el sz bytes z] {A V : Option Addr} {n c m c2 : Nat} {xs ys zs : List Value} (hS : St w0 M w L) (hd : dOk N (some d) = true) (hx : e.eval x = .slice A n c) (hy : e.eval y = .slice V m c2)
    (hsel : Sel (.app A n c el sz xs) L L1) (hr : RdsV L V (m * sz) ys) (h1 : ∀ u ∈ ys, u.oneCell' = true) (hz : xs ++ ys = zs) (hb : (n + m) * bytes ≤ 140737488355328) (hm : n + m ≤ 9223372036854775807)
    (h : ∀ A' c' w', IsVw A' (n + m) c' A' 0 → St w0 M w' (.app A' (n + m) c' el sz zs :: L1) → WpL P N ops K rest (e.set d (.slice A' (n + m) c')) w') :
    WpL P N ops K (⟨some d, .call { callee := .builtin .append, args := #[x, y], argTypes := #[t, t] }, ty, pos, after, none⟩ :: rest) e w := by
  have hS1 := hS.pick hsel
  rcases (show Sl w 0 el sz (.slice A n c) n xs ∨ Full w A n c sz xs from (hS1.hold _ List.mem_cons_self).1) with hown | hfull
  · -- of its own
    have hS2 : St w0 M w (.own A n c el sz xs :: L1) := hS1.put (Chg.refl _ _) hown rfl fun g hg => .inl hg
    subst hz
    obtain ⟨hrd, hlen⟩ := hr w0 M w hS
    refine WpL.append hd hx hy hown hrd hlen h1 hb (by simp only [maxLen]; omega) (Nat.zero_le _) fun v' w' ⟨h2, h3, h4⟩ => ?_
    obtain ⟨A', c', rfl, h5, h6, h7, _⟩ := h2.form
    refine h A' c' w' (IsVw.base h5 h6 fun h => (h7 h).2) (hS2.put ⟨h3.os, h3.tape, h3.output, h3.size, fun k hk hf => h3.block k hk fun hk' => hf ?_⟩ (.inl h2) rfl fun g hg => ?_)
    · cases A with
      | none => simp [Value.ownBlock] at hk'
      | some a => simpa [Value.ownBlock, Ch.foot] using hk'.symm
    · cases A' with
      | none => simp [Ch.foot] at hg
      | some a' =>
        simp only [Ch.foot, Option.map_some, Option.some.injEq] at hg
        rcases h4 with h4 | ⟨g', h4, h8⟩
        · left
          cases A with
          | none => simp [Value.ownBlock] at h4
          | some a => simp only [Value.ownBlock, Option.some.injEq] at h4; simp only [Ch.foot, Option.map_some, Option.some.injEq]; omega
        · right
          simp only [Value.ownBlock, Option.some.injEq] at h4; omega
  · obtain ⟨rfl, hmax, hlx, a, rfl, hab, hat⟩ := hfull
    obtain ⟨hrd, hlen⟩ := hr w0 M w hS
    obtain ⟨i, hi, hzz, hsize, hby⟩ := he.get
    have hzs := he.zs
    have hszp := he.pos
    by_cases hm0 : m = 0
    · subst hm0
      have hys : ys = [] := List.eq_nil_of_length_eq_zero (by simpa using hlen)
      subst hys
      rw [List.append_nil] at hz
      subst hz
      have hrun : (Builtin.append_ #[t, t] ty #[.slice (some a) c c, .slice V 0 c2]).run P w = .ok (.slice (some a) c c) w := by
        cases V <;> simp [Builtin.append_, run_underlying ht.hu, sizeOf, typeInfo, hi, Builtin.lenOf, Builtin.firstCells, storeCells, loadCells, loadCellsFrom]
      refine WpL.run hd (v := .slice (some a) c c) (w' := w) (by simp [execOp, resolve, invoke, builtin, hx, hy, hrun]) ?_
      have := h (some a) c w (IsVw.base (Nat.le_refl _) hmax (by simp)) (by simpa using hS1)
      exact this
    · have hpos : 0 < ys.length := by rw [hlen]; exact Nat.mul_pos (by omega) hszp
      obtain ⟨a2, rfl, hat2⟩ := hrd.at_ hpos
      have hrun := run_append_grow (P := P) w t ty el i z ht.hu hi hzz a c c xs (by rw [hlx, hsize]) (fun j u hu => hat j u hu) a2 m c2 ys (by rw [hlen, hsize]) (fun j u hu => hat2 j u hu) (by omega) (by omega) (growslice_fits (by omega) (by rw [hby]; exact hb))
      refine WpL.run hd (v := .slice (some ⟨w.heap.size, 0, none⟩) (c + m) (grownCap w (c + m) c el)) (w' := w.drew.alloc (.cells (xs.toArray ++ ys.toArray ++ Builtin.zeroCells z.cells (grownCap w (c + m) c el - (c + m))) el)) (by simp [execOp, resolve, invoke, builtin, hx, hy, hrun]) (h _ _ _ (IsVw.base (grownCap_ge w (c + m) c el) (grownCap_le_maxLen w (c + m) c el (by simp only [maxLen]; omega)) (by simp)) ?_)
      subst hz
      have hS3 : St w0 M w L1 := hS1.tail
      refine hS3.new ((Below.refl _ _).drew.alloc (Nat.le_refl _) _) (.inl ⟨?_, .inr ⟨w.heap.size, _, _, rfl, Nat.zero_le _, heap_alloc_new w.drew _, grownCap_ge w (c + m) c el, grownCap_le_maxLen w (c + m) c el (by simp only [maxLen]; omega), ?_, ?_⟩⟩) rfl fun g hg => by simp [Ch.foot] at hg; omega
      · rw [List.length_append, hlx, hlen, Nat.add_mul]
      · have hge := grownCap_ge w (c + m) c el
        simp only [Array.size_append, List.size_toArray, size_zeroCells, hzs, hlx, hlen, ← Nat.add_mul]
        refine Nat.le_of_eq ?_
        congr 1
        omega
      · have hlen2 : (xs ++ ys).length = (c + m) * sz := by rw [List.length_append, hlx, hlen, Nat.add_mul]
        simp only [Array.toList_append, List.append_assoc]
        rw [← List.append_assoc, ← hlen2]
        exact List.take_left

/-- A struct or an array out of the middle. -/
theorem At.cells {a : Addr} {xs : List Value} (h : At w a xs) : (loadCells a xs.length).run P w = .ok xs.toArray w := run_loadCells_list w a xs h
theorem Det.ldMid {I : World → Prop} {ty' : TypeId} {n : Nat} [h : RowT P ty'] [hs : SizeT P ty' n] {a : Addr} {cs : List Value} (hx : e.eval x = .pointer (some a)) (hat : ∀ w, I w → At w a cs) (hn : cs.length = n) : Det P I (.load ty' x) ty e (.agg cs.toArray) := fun _ _ _ _ w hw => by
  obtain ⟨d, hu, hd⟩ := h.hu
  have hagg : (isAgg ty').run P w = .ok true w := by
    unfold isAgg
    rw [Sem.run_bind, run_underlying hu w]
    cases d <;> simp_all
  have hc := (hat w hw).cells (P := P)
  rw [hn] at hc
  simp [execOp, hx, Instr.loadAt, Instr.sureAddr, loadVar, hagg, SizeT.run (P := P) (t := ty') w, hc]
theorem Rds.at_ {A : Option Addr} {xs : List Value} (h : Rds L A xs) (hS : St w0 M w L) (k n : Nat) (hk : k + n ≤ xs.length) : At w ((adr A).add k) ((xs.drop k).take n) := by
  rcases h.rd hS with rfl | ⟨a, rfl, hat⟩
  · intro j u hu; simp at hu
  · exact (hat.drop k).take n
theorem WpL.ldMid {ty' : TypeId} {n k : Nat} [RowT P ty'] [SizeT P ty' n] {A : Option Addr} {xs : List Value} (hS : St w0 M w L) (hd : dOk N (some d) = true) (hx : e.eval x = .pointer (some ((adr A).add k))) (hr : Rds L A xs) (hk : k + n ≤ xs.length)
    (h : WpL P N ops K rest (e.set d (.agg ((xs.drop k).take n).toArray)) w) : WpL P N ops K (⟨some d, .load ty' x, ty, pos, after, none⟩ :: rest) e w :=
  WpL.det hd (Det.ldMid hx (by rintro _ rfl; exact hr.at_ hS k n hk) (by simp; omega)) h

/-! ### Functions without a body -/
class ExtF (P : Program) (f : FuncId) (ex : outParam (Array Value → Sem Value)) : Prop where
  run : ∀ args w, (callFunc f args).run P w = ((ex args).run P w).andThen fun v w' => .ok (.value v) w'
theorem WpL.ext {f : FuncId} {ex : Array Value → Sem Value} [hf : ExtF P f ex] {l : List Operand} {argTypes : Array TypeId} {vs : List Value} {w' : World} (hd : dOk N (some d) = true) (ha : Vals e l vs) (hr : (ex vs.toArray).run P w = .ok v w')
    (h : WpL P N ops K rest (e.set d v) w') : WpL P N ops K (⟨some d, .call { callee := .value (.func f), args := l.toArray, argTypes }, ty, pos, after, none⟩ :: rest) e w :=
  WpL.run hd (w' := w') (by simp [execOp, resolve, Deferred.ofValue, invoke, Env.eval, List.map_toArray, ha.map, hf.run, hr]) h
theorem run_atomRead {k : IntKind} {a : Addr} {n : Int} (hc : w.cell? a = some (.int k n)) : (Extern.Atomic.read (.int k) a).run P w = .ok (.int k n) w := by
  simp [Extern.Atomic.read, hc]
theorem run_atomLoad {k : IntKind} {a : Addr} {n : Int} (hc : w.cell? a = some (.int k n)) : (Extern.Atomic.loadT (.int k) #[.pointer (some a)]).run P w = .ok (.int k n) w := by
  show (do Extern.Atomic.read (.int k) (← asAddr (.pointer (some a))) : Sem Value).run P w = _
  simp [asAddr, run_atomRead hc]
theorem run_atomStore {k : IntKind} {a : Addr} {n : Int} (h : Stores w a (.int k n)) : (Extern.Atomic.storeT #[.pointer (some a), .int k n]).run P w = .ok (.tuple #[]) (w.setCell a (.int k n)) := by
  obtain ⟨⟨u, h1⟩, h2, h3⟩ := h
  have hst := run_store P w a (.int k n) .atomic rfl
  rw [h1] at hst
  simp only [h2, Bool.false_eq_true, if_false] at hst
  show (do store (← asAddr (.pointer (some a))) (.int k n) .atomic; pure Extern.Atomic.none_ : Sem Value).run P w = _
  simp [asAddr, hst, Extern.Atomic.none_]
theorem run_touches {a : Addr} {u : Value} (hc : w.cell? a = some u) (h2 : w.frozen? a = false) : (Extern.Atomic.touchesFrozen a).run P w = .ok false w := by
  have hsh : ∃ t n, w.shape? a.block = some (t, n) := by
    unfold World.cell? at hc
    unfold World.shape?
    split at hc
    · rename_i h; exact ⟨_, _, rfl⟩
    · cases hc
  obtain ⟨t, n, hsh⟩ := hsh
  simp [Extern.Atomic.touchesFrozen, viewAt, hsh, h2]
theorem run_atomCas {k : IntKind} {a : Addr} {n : Int} {b : Int} (hc : w.cell? a = some (.int k n)) (h : Stores w a (.int k b)) : (Extern.Atomic.casT (.int k) #[.pointer (some a), .int k n, .int k b]).run P w = .ok (.bool true) (w.setCell a (.int k b)) := by
  obtain ⟨⟨u, h1⟩, h2, h3⟩ := h
  have hst := run_store P w a (.int k b) .atomic rfl
  rw [h1] at hst
  simp only [h2, Bool.false_eq_true, if_false] at hst
  change Sem.run P (asAddr (.pointer (some a)) >>= _) w = _
  simp [asAddr, run_touches hc h2, run_atomRead hc]
  change Sem.run P (if n = n then (fun _ => Value.bool (n == n)) <$> store a (.int k b) .atomic else pure (Value.bool (n == n))) w = _
  simp [hst]
theorem WpL.atLoad {f : FuncId} {k : IntKind} [ExtF P f (Extern.Atomic.loadT (.int k))] {a : Addr} {n : Int} {argTypes : Array TypeId} (hS : St w0 M w L) (hd : dOk N (some d) = true) (hx : e.eval x = .pointer (some a)) (hl : Look L a (.int k n))
    (h : WpL P N ops K rest (e.set d (.int k n)) w) : WpL P N ops K (⟨some d, .call { callee := .value (.func f), args := #[x], argTypes }, ty, pos, after, none⟩ :: rest) e w :=
  WpL.ext (l := [x]) (vs := [.pointer (some a)]) hd ⟨hx, trivial⟩ (run_atomLoad (hl.cell hS)) h
theorem WpL.atStore {f : FuncId} {k : IntKind} [ExtF P f Extern.Atomic.storeT] {a : Addr} {n : Int} {argTypes : Array TypeId} (hS : St w0 M w L) (hd : dOk N (some d) = true) (hx : e.eval x = .pointer (some a)) (hy : e.eval y = .int k n) (hu : Upd L a (.int k n) L')
    (h : ∀ w', St w0 M w' L' → WpL P N ops K rest (e.set d (.tuple #[])) w') : WpL P N ops K (⟨some d, .call { callee := .value (.func f), args := #[x, y], argTypes }, ty, pos, after, none⟩ :: rest) e w := by
  obtain ⟨h1, h2⟩ := hu.run rfl hS
  exact WpL.ext (l := [x, y]) (vs := [.pointer (some a), .int k n]) hd ⟨hx, hy, trivial⟩ (run_atomStore h1) (h _ h2)
theorem WpL.atCas {f : FuncId} {k : IntKind} [ExtF P f (Extern.Atomic.casT (.int k))] {a : Addr} {n b : Int} {z : Operand} {argTypes : Array TypeId} (hS : St w0 M w L) (hd : dOk N (some d) = true) (hx : e.eval x = .pointer (some a)) (hy : e.eval y = .int k n) (hz : e.eval z = .int k b) (hl : Look L a (.int k n)) (hu : Upd L a (.int k b) L')
    (h : ∀ w', St w0 M w' L' → WpL P N ops K rest (e.set d (.bool true)) w') : WpL P N ops K (⟨some d, .call { callee := .value (.func f), args := #[x, y, z], argTypes }, ty, pos, after, none⟩ :: rest) e w := by
  obtain ⟨h1, h2⟩ := hu.run rfl hS
  exact WpL.ext (l := [x, y, z]) (vs := [.pointer (some a), .int k n, .int k b]) hd ⟨hx, hy, hz, trivial⟩ (run_atomCas (hl.cell hS) h1) (h _ h2)
end

/-! ### Guards in regions -/
section
variable {P : Program} {n : Nat} {ops : Array Oper} {K : Env → World → Prop} {w w0 : World} {Fin : (Tmp → Spec) → Prop} {rest : List Oper} {e : Env} {E : Open} {ty : TypeId} {pos : String} {after : Array Edge}
theorem RgD.unguard {o : Op} {dst : Option Tmp} {j d : Nat} {b c : Bool} (hj : (ops[j]?).bind (·.dst) = some d) (he : e d = .bool c) (hc : c = b) (hE : (E.map (·.1)).contains d = false)
    (h : RgD P n ops w0 Fin (⟨dst, o, ty, pos, after, none⟩ :: rest) e E) : RgD P n ops w0 Fin (⟨dst, o, ty, pos, after, some (j, b)⟩ :: rest) e E := fun hn => by
  obtain ⟨V, h1, h2, h3, h4⟩ := h hn
  refine ⟨V, h1, h2, fun e1 w hI hg => ?_, h4⟩
  have hd : e1 d = .bool c := by
    have := hg d (by simp only [Oper.looksAt, hj]; exact List.mem_append_right _ (by simp))
    rw [gam_off (by simpa using hE)] at this
    rw [this, he]
  have h5 := h3 e1 w hI (fun t ht => hg t (by
    simp only [Oper.looksAt, List.append_nil] at ht ⊢
    exact List.mem_append_left _ ht))
  rw [if_pos (by rfl)] at h5
  rw [if_pos (by simp [Region.wanted, yieldedE, hj, hd, hc])]
  exact h5
theorem WpL.skipU {o : Op} {dst : Option Tmp} {j d : Nat} {b : Bool} (hj : (ops[j]?).bind (·.dst) = some d) (he : e d = undef) (hd : dOk n dst = true) (h : WpL P n ops K rest (e.setD dst undef) w) :
    WpL P n ops K (⟨dst, o, ty, pos, after, some (j, b)⟩ :: rest) e w :=
  ⟨hd, by
    rw [if_neg (by simp [Region.wanted, yieldedE, hj, he, undef])]
    exact h⟩
theorem RgD.skipU {o : Op} {j d d' : Nat} {b : Bool} (hj : (ops[j]?).bind (·.dst) = some d) (he : e d = undef) (hd : dOk n (some d') = true) (hs : notSelect o = true) (hk : (E.map (·.1)).contains d' = false)
    (hE : sub ((⟨some d', o, ty, pos, after, some (j, b)⟩ : Oper).looksAt ops) E = [])
    (hr : RgD P n ops w0 Fin rest (e.set d' undef) E) : RgD P n ops w0 Fin (⟨some d', o, ty, pos, after, some (j, b)⟩ :: rest) e E :=
  RgD.known hd hs hk [] hE (fun w hw => WpL.skipU hj he hd (WpL.nil ⟨⟨hw, Below.refl _ _⟩, Env.set_same _ _ _⟩)) hr
end
end Go.Fk
