/-
  Memory for the engine: what is read through an address ('At', 'Rd'); slices that the call itself has made ('Sl'); the rules of loads,
  indexes, slice expressions, append, make, copy. They hold for any program; conditions stand at each theorem.
-/
import Derived.Test.YtaapnfoimcccjaaOps
import Derived.OwnWalk
import Derived.Below
import Derived.Deep.MidRow
namespace Go.Fk
open Go.RowKit

/-! ### Types -/
class IntT (P : Program) (t : TypeId) (k : outParam IntKind) : Prop where
  hu : P.underlying t = some (.int k)
class SliceT (P : Program) (t : TypeId) (el : outParam TypeId) : Prop where
  hu : P.underlying t = some (.slice el)
class ArrT (P : Program) (t : TypeId) (len : outParam Nat) (el : outParam TypeId) : Prop where
  hu : P.underlying t = some (.array len el)
class Cell1 (P : Program) (t : TypeId) : Prop where
  hu : ∃ d, P.underlying t = some d ∧ d.isRow = false
class SizeT (P : Program) (t : TypeId) (sz : outParam Nat) : Prop where
  hs : (P.info? t).map (·.size) = some sz
class Elem (P : Program) (el : TypeId) (sz bytes : outParam Nat) (z : outParam Value) : Prop where
  hi : (P.info? el).map (fun i => (i.zero, i.size, i.bytes)) = some (some z, sz, bytes)
  zs : z.cells.size = sz
  pos : 0 < sz

theorem SizeT.run {P : Program} {t : TypeId} {sz : Nat} [h : SizeT P t sz] (w : World) : (sizeOf t).run P w = .ok sz w := by
  have := h.hs
  cases hi : P.info? t with
  | none => rw [hi] at this; cases this
  | some i => rw [hi] at this; simp at this; simp [sizeOf, typeInfo, hi, this]
theorem Elem.get {P : Program} {el : TypeId} {sz bytes : Nat} {z : Value} (h : Elem P el sz bytes z) : ∃ i, P.info? el = some i ∧ i.zero = some z ∧ i.size = sz ∧ i.bytes = bytes := by
  have := h.hi
  cases hi : P.info? el with
  | none => rw [hi] at this; cases this
  | some i => rw [hi] at this; simp at this; exact ⟨i, rfl, this.1, this.2.1, this.2.2⟩

/-! ### What is read -/
def At (w : World) (a : Addr) (xs : List Value) : Prop := ∀ j u, xs[j]? = some u → w.cell? (a.add j) = some u
def Rd (w : World) (A : Option Addr) (xs : List Value) : Prop := xs = [] ∨ ∃ a, A = some a ∧ At w a xs

theorem add_add (a : Addr) (i j : Nat) : (a.add i).add j = a.add (i + j) := by
  unfold Addr.add
  by_cases hi : i = 0
  · subst hi; simp
  · by_cases hj : j = 0
    · subst hj; simp
    · rw [if_neg hi, if_neg hj, if_neg (by omega)]; simp; omega
theorem add_block (a : Addr) (i : Nat) : (a.add i).block = a.block := by unfold Addr.add; split <;> rfl
theorem add_zero (a : Addr) : a.add 0 = a := by simp [Addr.add]
theorem add_mk (b o i : Nat) : (⟨b, o, none⟩ : Addr).add i = ⟨b, o + i, none⟩ := Addr.add_mid b o i

theorem cell_lt {w : World} {a : Addr} {v : Value} (h : w.cell? a = some v) : a.block < w.heap.size := block_lt_of_cell h

theorem At.below {w w' : World} {a : Addr} {xs : List Value} (h : At w a xs) (hb : Below w.heap.size w w') : At w' a xs := fun j u hu => by
  rw [hb.cell (cell_lt (h j u hu))]; exact h j u hu
theorem At.drop {w : World} {a : Addr} {xs : List Value} (h : At w a xs) (k : Nat) : At w (a.add k) (xs.drop k) := fun j u hu => by
  rw [add_add]; exact h _ u (by rwa [List.getElem?_drop] at hu)
theorem At.take {w : World} {a : Addr} {xs : List Value} (h : At w a xs) (k : Nat) : At w a (xs.take k) := fun j u hu => by
  rw [List.getElem?_take] at hu
  split at hu
  · exact h j u hu
  · cases hu
theorem Rd.nil (w : World) (A : Option Addr) : Rd w A [] := .inl rfl
theorem Rd.below {w w' : World} {A : Option Addr} {xs : List Value} (h : Rd w A xs) (hb : Below w.heap.size w w') : Rd w' A xs := by
  rcases h with h | ⟨a, h, h'⟩
  · exact .inl h
  · exact .inr ⟨a, h, h'.below hb⟩
theorem Rd.drew {w : World} {A : Option Addr} {xs : List Value} (h : Rd w A xs) : Rd w.drew A xs := h
theorem Rd.at_ {w : World} {A : Option Addr} {xs : List Value} (h : Rd w A xs) {i : Nat} (hi : i < xs.length) : ∃ a, A = some a ∧ At w a xs := by
  rcases h with h | h
  · subst h; simp at hi
  · exact h
theorem Rd.take {w : World} {A : Option Addr} {xs : List Value} (h : Rd w A xs) (k : Nat) : Rd w A (xs.take k) := by
  rcases h with rfl | ⟨a, h, h'⟩
  · exact .inl (by simp)
  · exact .inr ⟨a, h, h'.take k⟩
/-- A slice expression's memory. -/
theorem Rd.slice {w : World} {A : Option Addr} {xs : List Value} (h : Rd w A xs) {l k m sz : Nat} (hk : m = l → k = 0) :
    Rd w (if m = l then A else A.map (·.add (l * sz))) ((xs.drop (l * sz)).take (k * sz)) := by
  by_cases hml : m = l
  · rw [hk hml]; exact .inl (by simp)
  · rw [if_neg hml]
    rcases h with rfl | ⟨a, rfl, h'⟩
    · exact .inl (by simp)
    · exact .inr ⟨_, rfl, (h'.drop _).take _⟩

/-! ### Numbers in memory -/
def bv (l : List UInt8) : List Value := l.map fun b => .int .u8 (b.toNat : Int)
def zv (l : List Int) : List Value := l.map fun z => .int .i64 z
@[simp] theorem bv_length (l : List UInt8) : (bv l).length = l.length := by simp [bv]
@[simp] theorem zv_length (l : List Int) : (zv l).length = l.length := by simp [zv]
theorem bv_append (l r : List UInt8) : bv (l ++ r) = bv l ++ bv r := by simp [bv]
theorem zv_append (l r : List Int) : zv (l ++ r) = zv l ++ zv r := by simp [zv]
theorem bv_take (l : List UInt8) (k : Nat) : bv (l.take k) = (bv l).take k := by simp [bv]
theorem bv_drop (l : List UInt8) (k : Nat) : bv (l.drop k) = (bv l).drop k := by simp [bv]
theorem zv_take (l : List Int) (k : Nat) : zv (l.take k) = (zv l).take k := by simp [zv]
theorem zv_drop (l : List Int) (k : Nat) : zv (l.drop k) = (zv l).drop k := by simp [zv]
theorem bv_get {l : List UInt8} {i : Nat} (h : i < l.length) : (bv l)[i]? = some (.int .u8 (l[i].toNat : Int)) := by simp [bv, h]
theorem zv_get {l : List Int} {i : Nat} (h : i < l.length) : (zv l)[i]? = some (.int .i64 l[i]) := by simp [zv, h]
theorem bv_one (l : List UInt8) : ∀ u ∈ bv l, u.oneCell' = true := by simp [bv, Value.oneCell']
theorem zv_one (l : List Int) : ∀ u ∈ zv l, u.oneCell' = true := by simp [zv, Value.oneCell']

section
variable {P : Program} {I : World → Prop} {ty : TypeId} {e : Env} {x y : Operand} {v : Value} {t el : TypeId}

theorem Det.conv {src dst : TypeId} {k k' : IntKind} {a : Int} [hs : IntT P src k] [hd : IntT P dst k'] (hx : e.eval x = .int k a) : Det P I (.convert src dst x) ty e (.int k' (k'.wrap a)) :=
  Det.convW hs.hu hd.hu hx

theorem Det.load1 [h : Cell1 P t] {a : Addr} (hx : e.eval x = .pointer (some a)) (hc : ∀ w, I w → w.cell? a = some v) : Det P I (.load t x) ty e v := fun _ _ _ _ w hw => by
  obtain ⟨d, hu, hd⟩ := h.hu
  have hagg : (isAgg t).run P w = .ok false w := by
    unfold isAgg
    rw [Sem.run_bind, run_underlying hu w]
    cases d <;> simp_all
  simp [execOp, hx, Instr.loadAt, Instr.sureAddr, loadVar, hagg, hc w hw]

theorem Det.indexS [h : SliceT P t el] {sz : Nat} [hs : SizeT P el sz] {a : Addr} {len cap : Nat} {k : IntKind} {i : Int} (hx : e.eval x = .slice (some a) len cap) (hy : e.eval y = .int k i)
    (h0 : 0 ≤ i) (h1 : i < len) : Det P I (.indexAddr t x y) ty e (.pointer (some (a.add (i.toNat * sz)))) := fun _ _ _ _ w _ => by
  simp [execOp, hx, hy, Instr.indexAt, asIntOf, run_underlying h.hu, h0, h1, SizeT.run (P := P) (t := el) w]

theorem Det.indexA {n : Nat} [h : ArrT P t n el] {sz : Nat} [hs : SizeT P el sz] {a : Addr} {k : IntKind} {i : Int} (hx : e.eval x = .pointer (some a)) (hy : e.eval y = .int k i)
    (h0 : 0 ≤ i) (h1 : i < n) : Det P I (.indexAddr t x y) ty e (.pointer (some (a.add (i.toNat * sz)))) := fun _ _ _ _ w _ => by
  simp [execOp, hx, hy, Instr.indexAt, Instr.sureAddr, asIntOf, run_underlying h.hu, h0, h1, SizeT.run (P := P) (t := el) w]

/-- Elements of one cell; the index a natural number; where the block and the place in it are written out. -/
theorem Det.indexS1 [SliceT P t el] [SizeT P el 1] {a : Addr} {len cap m : Nat} {k : IntKind} (hx : e.eval x = .slice (some a) len cap) {i : Int} (hy : e.eval y = .int k i) (hi : i = (m : Int)) (h1 : m < len) :
    Det P I (.indexAddr t x y) ty e (.pointer (some (a.add m))) := by
  subst hi
  have := Det.indexS (P := P) (I := I) (t := t) (ty := ty) hx hy (by omega) (by omega)
  simpa using this
theorem Det.indexS1B [SliceT P t el] [SizeT P el 1] {g o : Nat} {len cap m : Nat} {k : IntKind} (hx : e.eval x = .slice (some ⟨g, o, none⟩) len cap) {i : Int} (hy : e.eval y = .int k i) (hi : i = (m : Int)) (h1 : m < len) :
    Det P I (.indexAddr t x y) ty e (.pointer (some ⟨g, o + m, none⟩)) := by
  have := Det.indexS1 (P := P) (I := I) (t := t) (ty := ty) hx hy hi h1
  rwa [add_mk] at this
theorem Det.indexA1B {n : Nat} [ArrT P t n el] [SizeT P el 1] {g o m : Nat} {k : IntKind} (hx : e.eval x = .pointer (some ⟨g, o, none⟩)) {i : Int} (hy : e.eval y = .int k i) (hi : i = (m : Int)) (h1 : m < n) :
    Det P I (.indexAddr t x y) ty e (.pointer (some ⟨g, o + m, none⟩)) := by
  subst hi
  have := Det.indexA (P := P) (I := I) (t := t) (ty := ty) hx hy (by omega) (by omega)
  simpa [add_mk] using this

theorem Det.len [h : SliceT P t el] {A : Option Addr} {n cap : Nat} (hx : e.eval x = .slice A n cap) :
    Det P I (.call { callee := .builtin .len, args := #[x], argTypes := #[t] }) ty e (.int .i64 n) := fun _ _ _ _ _ _ => by
  simp [execOp, resolve, invoke, builtin, Builtin.len_, hx, run_underlying h.hu, goInt]

/-- A bound. -/
theorem run_bound {k : IntKind} {i : Int} {y : Nat} {code : BoundsCode} (h0 : 0 ≤ i) (h1 : i ≤ y) (w : World) : (Instr.sliceBound (.int k i) y code).run P w = .ok i.toNat w := by
  simp [Instr.sliceBound, asIntOf, h0, h1]

theorem Det.sliceLo [h : SliceT P t el] {sz : Nat} [hs : SizeT P el sz] {A : Option Addr} {n cap : Nat} {lo : Operand} {k : IntKind} {l : Int} (hx : e.eval x = .slice A n cap) (hl : e.eval lo = .int k l)
    (h0 : 0 ≤ l) (h1 : l ≤ n) : Det P I (.slice t x (some lo) none none) ty e (.slice (if cap = l.toNat then A else A.map (·.add (l.toNat * sz))) (n - l.toNat) (cap - l.toNat)) := fun _ _ _ _ w _ => by
  simp [execOp, hx, hl, Instr.sliceAt, Instr.slice, Instr.sliceBounds, run_underlying h.hu, run_bound h0 h1, SizeT.run (P := P) (t := el) w]
theorem Det.sliceHi [h : SliceT P t el] {sz : Nat} [hs : SizeT P el sz] {A : Option Addr} {n cap : Nat} {hi : Operand} {k : IntKind} {m : Int} (hx : e.eval x = .slice A n cap) (hh : e.eval hi = .int k m)
    (h0 : 0 ≤ m) (h1 : m ≤ cap) : Det P I (.slice t x none (some hi) none) ty e (.slice A m.toNat cap) := fun _ _ _ _ w _ => by
  simp [execOp, hx, hh, Instr.sliceAt, Instr.slice, Instr.sliceBounds, run_underlying h.hu, run_bound h0 h1, SizeT.run (P := P) (t := el) w]
  cases A <;> simp [add_zero]
theorem Det.sliceLoHi [h : SliceT P t el] {sz : Nat} [hs : SizeT P el sz] {A : Option Addr} {n cap : Nat} {lo hi : Operand} {k k' : IntKind} {l m : Int} (hx : e.eval x = .slice A n cap) (hl : e.eval lo = .int k l)
    (hh : e.eval hi = .int k' m) (h0 : 0 ≤ l) (h1 : l ≤ m) (h2 : m ≤ cap) :
    Det P I (.slice t x (some lo) (some hi) none) ty e (.slice (if cap = l.toNat then A else A.map (·.add (l.toNat * sz))) (m.toNat - l.toNat) (cap - l.toNat)) := fun _ _ _ _ w _ => by
  have h3 : l ≤ (m.toNat : Int) := by omega
  simp [execOp, hx, hl, hh, Instr.sliceAt, Instr.slice, Instr.sliceBounds, run_underlying h.hu, run_bound (show (0 : Int) ≤ m by omega) h2, run_bound h0 h3, SizeT.run (P := P) (t := el) w]
theorem Det.sliceHiMax [h : SliceT P t el] {sz : Nat} [hs : SizeT P el sz] {A : Option Addr} {n cap : Nat} {hi mx : Operand} {k k' : IntKind} {m c : Int} (hx : e.eval x = .slice A n cap) (hh : e.eval hi = .int k m)
    (hm : e.eval mx = .int k' c) (h0 : 0 ≤ m) (h1 : m ≤ c) (h2 : c ≤ cap) : Det P I (.slice t x none (some hi) (some mx)) ty e (.slice A m.toNat c.toNat) := fun _ _ _ _ w _ => by
  have h3 : m ≤ (c.toNat : Int) := by omega
  simp [execOp, hx, hh, hm, Instr.sliceAt, Instr.slice, Instr.sliceBounds, run_underlying h.hu, run_bound (show (0 : Int) ≤ c by omega) h2, run_bound h0 h3, SizeT.run (P := P) (t := el) w]
  cases A <;> simp [add_zero]

/-- A slice against nil. -/
theorem run_equalIn_nil [h : SliceT P t el] {A : Option Addr} {n cap : Nat} (d : Nat) (w : World) : (Op.equalIn (d + 1) t (.slice A n cap) (.slice none 0 0)).run P w = .ok A.isNone w := by
  cases A <;> simp [Op.equalIn, run_underlying h.hu]
theorem Det.eqlNil [h : SliceT P t el] {A : Option Addr} {n cap : Nat} (hx : e.eval x = .slice A n cap) (hy : e.eval y = .slice none 0 0) {t' : TypeId} :
    Det P I (.binOp .eql t x y t') ty e (.bool A.isNone) := fun _ _ _ _ w _ => by
  have := run_equalIn_nil (P := P) (t := t) (A := A) (n := n) (cap := cap) 9999 w
  simp only [execOp, hx, hy, eqGuard, binOp]
  simp [Op.equal, Op.maxDepth, this]
end

/-! ### Slices that the call has made -/
/-- v is nil and holds nothing, or leads to the head of a block of its own, from block B on, whose first cells are xs (n elements of sz cells each). -/
def Sl (w : World) (B : Nat) (el : TypeId) (sz : Nat) (v : Value) (n : Nat) (xs : List Value) : Prop :=
  xs.length = n * sz ∧
  ((v = .slice none 0 0 ∧ n = 0) ∨
   ∃ g cap cur, v = .slice (some ⟨g, 0, none⟩) n cap ∧ B ≤ g ∧ w.heap[g]? = some (.cells cur el (0, 0)) ∧ n ≤ cap ∧ cap ≤ maxLen ∧ cap * sz ≤ cur.size ∧ cur.toList.take (n * sz) = xs)

section
variable {w w' : World} {B B' : Nat} {el : TypeId} {sz : Nat} {v : Value} {n : Nat} {xs : List Value}

theorem Sl.nil (w : World) (B : Nat) (el : TypeId) (sz : Nat) : Sl w B el sz (.slice none 0 0) 0 [] := ⟨by simp, .inl ⟨rfl, rfl⟩⟩
theorem Sl.of_own (h : w.ownsRow B el sz v n xs) : Sl w B el sz v n xs := by
  refine ⟨h.1, ?_⟩
  rcases h.2 with h | ⟨g, cap, cur, h1, h2, h3, h4, h5, h6, h7⟩
  · exact .inl h
  · exact .inr ⟨g, cap, cur, h1, h2, h3, h4, h5, Nat.le_of_eq h6.symm, h7⟩
theorem Sl.mono (h : Sl w B el sz v n xs) (hB : B' ≤ B) : Sl w B' el sz v n xs := by
  refine ⟨h.1, ?_⟩
  rcases h.2 with h | ⟨g, cap, cur, h1, h2, h3⟩
  · exact .inl h
  · exact .inr ⟨g, cap, cur, h1, Nat.le_trans hB h2, h3⟩
theorem Sl.form (h : Sl w B el sz v n xs) : ∃ A cap, v = .slice A n cap ∧ n ≤ cap ∧ cap ≤ maxLen ∧ (A = none → n = 0 ∧ cap = 0) ∧ Rd w A xs := by
  obtain ⟨h1, h2⟩ := h
  rcases h2 with ⟨rfl, rfl⟩ | ⟨g, cap, cur, rfl, _, hg, hn, hm, hc, ht⟩
  · exact ⟨none, 0, rfl, Nat.le_refl _, Nat.zero_le _, fun _ => ⟨rfl, rfl⟩, .inl (List.eq_nil_of_length_eq_zero (by simpa using h1))⟩
  · refine ⟨some ⟨g, 0, none⟩, cap, rfl, hn, hm, (by simp), .inr ⟨_, rfl, fun j u hu => ?_⟩⟩
    rw [add_mk, cell_of_row w g (0 + j) cur el (0, 0) hg]
    rw [← ht, List.getElem?_take] at hu
    split at hu
    · simpa using hu
    · cases hu
theorem Sl.own (h : Sl w B el sz v n xs) : v.ownBlock = none ∨ ∃ g, v.ownBlock = some g ∧ B ≤ g ∧ g < w.heap.size := by
  obtain ⟨_, h2⟩ := h
  rcases h2 with ⟨rfl, _⟩ | ⟨g, cap, cur, rfl, hb, hg, _⟩
  · exact .inl rfl
  · exact .inr ⟨g, rfl, hb, (Array.getElem?_eq_some_iff.1 hg).1⟩
theorem Sl.kept {row : Option Nat} (h : Sl w B el sz v n xs) (hg : w.grownBy w' row) (hne : v.ownBlock = none ∨ v.ownBlock ≠ row) : Sl w' B el sz v n xs := by
  refine ⟨h.1, ?_⟩
  rcases h.2 with hn | ⟨g, cap, cur, rfl, hb, hgg, rest⟩
  · exact .inl hn
  · refine .inr ⟨g, cap, cur, rfl, hb, ?_, rest⟩
    rw [hg.block g (Array.getElem?_eq_some_iff.1 hgg).1 (by simpa [Value.ownBlock] using hne)]
    exact hgg
theorem Sl.below (h : Sl w B el sz v n xs) (hb : Below w.heap.size w w') : Sl w' B el sz v n xs :=
  h.kept (row := none) ⟨hb.os, hb.tape, hb.output, hb.size, fun k hk _ => hb.block k hk⟩ (by cases hv : v.ownBlock <;> simp)
theorem Sl.len (h : Sl w B el sz v n xs) : n ≤ maxLen := by
  obtain ⟨_, cap, _, h1, h2, _⟩ := h.form
  omega
end

/-- What changed: blocks from B on alone. -/
theorem Below.of_grown {B : Nat} {w w' : World} {row : Option Nat} (hg : w.grownBy w' row) (hB : B ≤ w.heap.size) (hr : ∀ g, row = some g → B ≤ g) : Below B w w' :=
  (Below.refl B w).grown hg hB hr

section
variable {P : Program} {w : World} {B : Nat} {t el : TypeId} {sz bytes : Nat} {z : Value} {v : Value} {n : Nat} {xs : List Value}

/-- What an append comes to. -/
def Appended (w : World) (B : Nat) (el : TypeId) (sz : Nat) (v : Value) (n : Nat) (xs : List Value) (v' : Value) (w' : World) : Prop :=
  Sl w' B el sz v' n xs ∧ w.grownBy w' v.ownBlock ∧ (v'.ownBlock = v.ownBlock ∨ ∃ g, v'.ownBlock = some g ∧ w.heap.size ≤ g)

theorem run_append_sl [ht : SliceT P t el] [he : Elem P el sz bytes z] (ty : TypeId) (hown : Sl w B el sz v n xs) {A : Option Addr} {m c : Nat} {news : List Value} (hl : news.length = m * sz) (hr : Rd w A news)
    (h1 : ∀ u ∈ news, u.oneCell' = true) (hbytes : (n + m) * bytes ≤ 140737488355328) (hmax : n + m ≤ maxLen) (hbase : B ≤ w.heap.size) :
    ∃ v' w', (Builtin.append_ #[t, t] ty #[v, .slice A m c]).run P w = .ok v' w' ∧ Appended w B el sz v (n + m) (xs ++ news) v' w' := by
  obtain ⟨i, hi, hz, hsize, hby⟩ := he.get
  have hzs := he.zs
  have hsz := he.pos
  subst hsize
  subst hby
  have hlen : (xs ++ news).length = (n + m) * i.size := by rw [List.length_append, hown.1, hl, Nat.add_mul]
  by_cases hm0 : m = 0
  · -- nothing is appended
    subst hm0
    have hn : news = [] := List.eq_nil_of_length_eq_zero (by simpa using hl)
    subst hn
    have hsame : Appended w B el i.size v (n + 0) (xs ++ []) v w := ⟨by simpa using hown, ⟨rfl, rfl, rfl, Nat.le_refl _, fun _ _ _ => rfl⟩, .inl rfl⟩
    refine ⟨v, w, ?_, hsame⟩
    obtain ⟨A', cap, rfl, hnc, _⟩ := hown.form
    cases A <;> cases A' <;> simp [Builtin.append_, run_underlying ht.hu, sizeOf, typeInfo, hi, Builtin.lenOf, Builtin.firstCells, hnc, storeCells, loadCells, loadCellsFrom]
  · have hpos : 0 < news.length := by rw [hl]; exact Nat.mul_pos (by omega) hsz
    obtain ⟨a, rfl, hat⟩ := hr.at_ hpos
    have hmx := hmax
    simp only [maxLen] at hmx
    have grown : ∀ (old : Nat), old < n + m →
        Appended w B el i.size v (n + m) (xs ++ news) (.slice (some ⟨w.heap.size, 0, none⟩) (n + m) (grownCap w (n + m) old el))
          (w.drew.alloc (.cells (xs.toArray ++ news.toArray ++ Builtin.zeroCells z.cells (grownCap w (n + m) old el - (n + m))) el)) := by
      intro old ho
      have hge := grownCap_ge w (n + m) old el
      have hcm : grownCap w (n + m) old el ≤ maxLen := grownCap_le_maxLen w (n + m) old el hmax
      refine ⟨⟨hlen, .inr ⟨w.heap.size, _, _, rfl, hbase, heap_alloc_new w.drew _, hge, hcm, ?_, ?_⟩⟩, ⟨rfl, rfl, rfl, by simp, fun k hk _ => Below.heap_alloc w.drew _ k hk⟩, .inr ⟨_, rfl, Nat.le_refl _⟩⟩
      · simp only [Array.size_append, List.size_toArray, size_zeroCells, hzs, hown.1, hl, ← Nat.add_mul]
        refine Nat.le_of_eq ?_
        congr 1
        omega
      · simp only [Array.toList_append, List.append_assoc]
        rw [← List.append_assoc, ← hlen]
        exact List.take_left
    rcases hown.2 with ⟨rfl, rfl⟩ | ⟨g, cap, cur, rfl, hbg, hg, hnc, hcm, hcs, htake⟩
    · have hx : xs = [] := List.eq_nil_of_length_eq_zero (by simpa using hown.1)
      subst hx
      have hrun := run_append_nil (P := P) w t ty el i z ht.hu hi hz a m c news hl hat (by omega) (by omega) (by have hb := hbytes; simp only [Nat.zero_add] at hb; omega)
      have hgr := grown 0 (by omega)
      simp only [Nat.zero_add, List.nil_append, Array.empty_append] at hgr ⊢
      exact ⟨_, _, hrun, hgr⟩
    · by_cases hroom : n + m ≤ cap
      · have hfit : n * i.size + news.length ≤ cur.size := by rw [hl, ← Nat.add_mul]; exact Nat.le_trans (Nat.mul_le_mul_right _ hroom) hcs
        have hrun := run_append_room (P := P) w t ty el i ht.hu hi g n cap cur hg a m c news hl hat h1 hroom hfit
        refine ⟨_, _, hrun, ⟨hlen, .inr ⟨g, cap, _, rfl, hbg, setRow_heap w g cur _ el _ hg, hroom, hcm, ?_, ?_⟩⟩, ⟨rfl, rfl, rfl, by simp, fun k _ hk => setRow_other w g k _ (fun e => hk (by simp [Value.ownBlock, e]))⟩, .inl rfl⟩
        · simp only [List.size_toArray, List.length_append, List.length_take, List.length_drop, Array.length_toList]
          omega
        · rw [htake, ← hlen]
          exact List.take_left
      · have holds : ∀ j u, xs[j]? = some u → w.cell? ((⟨g, 0, none⟩ : Addr).add j) = some u := by
          intro j u hu
          rw [add_mk, cell_of_row w g (0 + j) cur el (0, 0) hg]
          rw [← htake, List.getElem?_take] at hu
          split at hu
          · simpa using hu
          · cases hu
        have hrun := run_append_grow (P := P) w t ty el i z ht.hu hi hz ⟨g, 0, none⟩ n cap xs hown.1 holds a m c news hl hat (by omega) (by omega) (growslice_fits (by omega) hbytes)
        exact ⟨_, _, hrun, grown cap (by omega)⟩
end

/-! ### Rules that change the world -/
section
variable {P : Program} {N : Nat} {ops : Array Oper} {K : Env → World → Prop} {rest : List Oper} {e : Env} {w : World} {dst : Option Tmp} {ty : TypeId} {pos : String} {after : Array Edge}
variable {B : Nat} {t el : TypeId} {sz bytes : Nat} {z : Value} {v : Value} {n : Nat} {xs : List Value} {x y : Operand}

theorem WpL.append [ht : SliceT P t el] [he : Elem P el sz bytes z] {d : Tmp} (hd : dOk N (some d) = true) (hx : e.eval x = v) {A : Option Addr} {m c : Nat} {news : List Value} (hy : e.eval y = .slice A m c) (hown : Sl w B el sz v n xs) (hr : Rd w A news)
    (hl : news.length = m * sz) (h1 : ∀ u ∈ news, u.oneCell' = true) (hbytes : (n + m) * bytes ≤ 140737488355328) (hmax : n + m ≤ maxLen) (hbase : B ≤ w.heap.size)
    (h : ∀ v' w', Appended w B el sz v (n + m) (xs ++ news) v' w' → WpL P N ops K rest (e.set d v') w') :
    WpL P N ops K (⟨some d, .call { callee := .builtin .append, args := #[x, y], argTypes := #[t, t] }, ty, pos, after, none⟩ :: rest) e w := by
  obtain ⟨v', w', hrun, happ⟩ := run_append_sl (P := P) (t := t) ty hown (c := c) hl hr h1 hbytes hmax hbase
  exact WpL.run hd (by simp [execOp, resolve, invoke, builtin, hx, hy, hrun]) (h v' w' happ)

end

/-! ### Sizes of numbers -/
theorem lim_xor {k : IntKind} {p q : Nat} (hp : p < lim k) (hq : q < lim k) : p ^^^ q < lim k := by
  obtain ⟨s, hs⟩ := lim_pow hp
  rw [hs] at hp hq ⊢; exact Nat.xor_lt_two_pow hp hq
theorem lim_or {k : IntKind} {p q : Nat} (hp : p < lim k) (hq : q < lim k) : p ||| q < lim k := by
  obtain ⟨s, hs⟩ := lim_pow hp
  rw [hs] at hp hq ⊢; exact Nat.or_lt_two_pow hp hq
theorem lim_and {k : IntKind} {p q : Nat} (hp : p < lim k) : p &&& q < lim k := Nat.lt_of_le_of_lt Nat.and_le_left hp
theorem lim_shr {k : IntKind} {p q : Nat} (hp : p < lim k) : p >>> q < lim k := Nat.lt_of_le_of_lt (by rw [Nat.shiftRight_eq_div_pow]; exact Nat.div_le_self _ _) hp

section
variable {P : Program} {I : World → Prop} {ty : TypeId} {e : Env} {x : Operand}
/-- A conversion that loses nothing; one to fewer bits. -/
theorem Det.convLim {src dst : TypeId} {k k' : IntKind} {p : Nat} [IntT P src k] [IntT P dst k'] {a : Int} (hx : e.eval x = .int k a) (ha : a = (p : Int)) (hp : p < lim k') : Det P I (.convert src dst x) ty e (.int k' (p : Int)) := by
  subst ha
  have := Det.conv (P := P) (I := I) (src := src) (dst := dst) (ty := ty) hx
  rwa [wrap_lim hp] at this
theorem Det.convU8 {src dst : TypeId} {k : IntKind} {p : Nat} [IntT P src k] [IntT P dst .u8] {a : Int} (hx : e.eval x = .int k a) (ha : a = (p : Int)) : Det P I (.convert src dst x) ty e (.int .u8 ((p % 256 : Nat) : Int)) := by
  subst ha
  have := Det.conv (P := P) (I := I) (src := src) (dst := dst) (ty := ty) hx
  rwa [IntKind.wrap_u8', show (p : Int) % 256 = ((p % 256 : Nat) : Int) by omega] at this
theorem Det.convU16 {src dst : TypeId} {k : IntKind} {p : Nat} [IntT P src k] [IntT P dst .u16] {a : Int} (hx : e.eval x = .int k a) (ha : a = (p : Int)) : Det P I (.convert src dst x) ty e (.int .u16 ((p % 65536 : Nat) : Int)) := by
  subst ha
  have := Det.conv (P := P) (I := I) (src := src) (dst := dst) (ty := ty) hx
  rwa [IntKind.wrap_u16, show (p : Int) % 65536 = ((p % 65536 : Nat) : Int) by omega] at this
theorem Det.convU32 {src dst : TypeId} {k : IntKind} {p : Nat} [IntT P src k] [IntT P dst .u32] {a : Int} (hx : e.eval x = .int k a) (ha : a = (p : Int)) : Det P I (.convert src dst x) ty e (.int .u32 ((p % 4294967296 : Nat) : Int)) := by
  subst ha
  have := Det.conv (P := P) (I := I) (src := src) (dst := dst) (ty := ty) hx
  rwa [IntKind.wrap_u32', show (p : Int) % 4294967296 = ((p % 4294967296 : Nat) : Int) by omega] at this
end
theorem WpL.norm {P : Program} {n : Nat} {ops : Array Oper} {K : Env → World → Prop} {l : List Oper} {e e' : Env} {w : World} (he : e = e') (h : WpL P n ops K l e' w) : WpL P n ops K l e w := he ▸ h

/-! ### Blocks known whole -/
def Blk (w : World) (g : Nat) (t : TypeId) (cs : Array Value) : Prop := w.heap[g]? = some (.cells cs t (0, 0))
section
variable {w w' : World} {g : Nat} {t : TypeId} {cs : Array Value}
theorem Blk.lt (h : Blk w g t cs) : g < w.heap.size := (Array.getElem?_eq_some_iff.1 h).1
theorem Blk.cell (h : Blk w g t cs) (i : Nat) : w.cell? ⟨g, i, none⟩ = cs[i]? := cell_of_row w g i cs t (0, 0) h
theorem Blk.frozen (h : Blk w g t cs) (i : Nat) : w.frozen? ⟨g, i, none⟩ = false := frozen_of_row w g i cs t h
theorem Blk.new (w : World) (t : TypeId) (cs : Array Value) : Blk (w.alloc (.cells cs t)) w.heap.size t cs := heap_alloc_new w _
theorem Blk.alloc (h : Blk w g t cs) (o : Obj) : Blk (w.alloc o) g t cs := (Below.heap_alloc w o g h.lt).trans h
theorem Blk.below {B : Nat} (h : Blk w g t cs) (hb : Below B w w') (hg : g < B) : Blk w' g t cs := (hb.block g hg).trans h
theorem Blk.stay (h : Blk w g t cs) (hb : Below w.heap.size w w') : Blk w' g t cs := h.below hb h.lt
theorem Blk.grown {row : Option Nat} (h : Blk w g t cs) (hb : w.grownBy w' row) (hg : some g ≠ row) : Blk w' g t cs := (hb.block g h.lt hg).trans h
theorem Blk.setRow (h : Blk w g t cs) (cs' : Array Value) : Blk (w.setRow g cs') g t cs' := setRow_heap w g cs cs' t (0, 0) h
theorem Blk.setCell (h : Blk w g t cs) (i : Nat) (u : Value) : Blk (w.setCell ⟨g, i, none⟩ u) g t (cs.setIfInBounds i u) := heap_setCell_same w g i cs t u h
theorem Blk.at_ (h : Blk w g t cs) : At w ⟨g, 0, none⟩ cs.toList := fun j u hu => by rw [add_mk, h.cell]; simpa using hu
theorem grown_setRow (w : World) (g : Nat) (cs : Array Value) : w.grownBy (w.setRow g cs) (some g) :=
  ⟨rfl, rfl, rfl, by simp, fun k _ hk => setRow_other w g k cs (fun e => hk (by rw [e]))⟩
theorem grown_setCell (w : World) (a : Addr) (u : Value) : w.grownBy (w.setCell a u) (some a.block) :=
  ⟨rfl, rfl, rfl, by simp [World.setCell], fun k _ hk => Below.heap_setCell w a u k (fun e => hk (by rw [e]))⟩
end

section
variable {P : Program} {N : Nat} {ops : Array Oper} {K : Env → World → Prop} {rest : List Oper} {e : Env} {w : World} {ty : TypeId} {pos : String} {after : Array Edge} {x y : Operand} {t el : TypeId}
/-- A load of one cell. -/
theorem WpL.load1 [Cell1 P t] {d : Tmp} {a : Addr} {v : Value} (hd : dOk N (some d) = true) (hx : e.eval x = .pointer (some a)) (hc : w.cell? a = some v) (h : WpL P N ops K rest (e.set d v) w) :
    WpL P N ops K (⟨some d, .load t x, ty, pos, after, none⟩ :: rest) e w := WpL.det hd (Det.load1 hx (by rintro _ rfl; exact hc)) h
/-- A load out of a block known whole. -/
theorem WpL.loadB [Cell1 P t] {d : Tmp} {g i : Nat} {cs : Array Value} {v : Value} (hd : dOk N (some d) = true) (hx : e.eval x = .pointer (some ⟨g, i, none⟩)) (hg : Blk w g el cs) (hc : cs[i]? = some v) (h : WpL P N ops K rest (e.set d v) w) :
    WpL P N ops K (⟨some d, .load t x, ty, pos, after, none⟩ :: rest) e w := WpL.load1 hd hx (by rw [hg.cell, hc]) h
/-- A load of element i of what is read through an address. -/
theorem WpL.loadA [Cell1 P t] {d : Tmp} {a : Addr} {j : Nat} {xs : List Value} {v : Value} (hd : dOk N (some d) = true) (hx : e.eval x = .pointer (some (a.add j))) (hr : At w a xs) (hc : xs[j]? = some v) (h : WpL P N ops K rest (e.set d v) w) :
    WpL P N ops K (⟨some d, .load t x, ty, pos, after, none⟩ :: rest) e w := WpL.load1 hd hx (hr _ _ hc) h

/-- A new variable with a value; a new one of noughts. -/
theorem WpL.box {d : Tmp} {v : Value} (hd : dOk N (some d) = true) (hx : e.eval x = v)
    (h : ∀ w', Below w.heap.size w w' → w'.heap.size = w.heap.size + 1 → Blk w' w.heap.size el v.cells → WpL P N ops K rest (e.set d (.pointer (some ⟨w.heap.size, 0, none⟩))) w') :
    WpL P N ops K (⟨some d, .box el x, ty, pos, after, none⟩ :: rest) e w :=
  WpL.run (w' := w.alloc (.cells v.cells el)) hd (by simp [execOp, hx, Instr.box, newVar, newRow]) (h _ ((Below.refl _ _).alloc (Nat.le_refl _) _) (by simp) (Blk.new _ _ _))
theorem WpL.alloc {sz bytes : Nat} {z : Value} [he : Elem P el sz bytes z] {d : Tmp} (hd : dOk N (some d) = true)
    (h : ∀ w', Below w.heap.size w w' → w'.heap.size = w.heap.size + 1 → Blk w' w.heap.size el z.cells → WpL P N ops K rest (e.set d (.pointer (some ⟨w.heap.size, 0, none⟩))) w') :
    WpL P N ops K (⟨some d, .alloc el, ty, pos, after, none⟩ :: rest) e w := by
  obtain ⟨i, hi, hz, hsize, hby⟩ := he.get
  exact WpL.run (w' := w.alloc (.cells z.cells el)) hd (by simp [execOp, Instr.alloc, zeroValue, typeInfo, hi, hz, newVar, newRow]) (h _ ((Below.refl _ _).alloc (Nat.le_refl _) _) (by simp) (Blk.new _ _ _))

/-- A store of one cell into a block known whole. -/
theorem WpL.store1 [hs : SizeT P t 1] {g i : Nat} {v : Value} {cs : Array Value} (hx : e.eval x = .pointer (some ⟨g, i, none⟩)) (hy : e.eval y = v) (hv : v.oneCell' = true) (hg : Blk w g el cs) (hi : i < cs.size)
    (h : ∀ w', w.grownBy w' (some g) → w'.heap.size = w.heap.size → Blk w' g el (cs.setIfInBounds i v) → WpL P N ops K rest e w') : WpL P N ops K (⟨none, .store t x y, ty, pos, after, none⟩ :: rest) e w := by
  have hcs : v.cells = #[v] := by cases v <;> simp_all [Value.oneCell', Value.cells]
  refine WpL.runSkip (w' := w.setCell ⟨g, i, none⟩ v) rfl ?_ (h _ (grown_setCell _ _ _) (by simp [World.setCell]) (hg.setCell _ _))
  have hst := run_store P w ⟨g, i, none⟩ v .plain hv
  rw [hg.cell, Array.getElem?_eq_getElem hi] at hst
  simp only [hg.frozen, Bool.false_eq_true, if_false] at hst
  simp [execOp, hx, hy, Instr.storeAt, Instr.sureAddr, storeVar, SizeT.run (P := P) (t := t) w, hcs, storeCells, add_zero, hst]

/-- A whole array or struct goes into a block that it fills. -/
theorem WpL.storeRow {n g : Nat} [hs : SizeT P t n] {cells cur : Array Value} (hx : e.eval x = .pointer (some ⟨g, 0, none⟩)) (hy : e.eval y = .agg cells) (hn : cells.size = n) (hc : cur.size = n) (h1 : ∀ v ∈ cells.toList, v.oneCell' = true)
    (hg : Blk w g el cur) (h : ∀ w', w.grownBy w' (some g) → w'.heap.size = w.heap.size → Blk w' g el cells → WpL P N ops K rest e w') : WpL P N ops K (⟨none, .store t x y, ty, pos, after, none⟩ :: rest) e w := by
  refine WpL.runSkip (w' := w.setRow g cells) rfl ?_ (h _ (grown_setRow _ _ _) (by simp) (hg.setRow _))
  have hst := run_storeCells_at P g 0 el cells.toList 0 cur w hg (by simp; omega) h1
  have e1 : (cur.toList.take (0 + 0) ++ cells.toList ++ cur.toList.drop (0 + 0 + cells.toList.length)).toArray = cells := by
    have : cur.toList.drop (0 + 0 + cells.toList.length) = [] := List.drop_eq_nil_of_le (by simp; omega)
    rw [this]; simp
  rw [e1] at hst
  simp [execOp, hx, hy, Instr.storeAt, Instr.sureAddr, storeVar, SizeT.run (P := P) (t := t) w, Value.cells, hn, hst]

theorem _root_.Go.RowKit.Below.step {B : Nat} {w0 w w' : World} {row : Option Nat} (h : Below B w0 w) (hB : B ≤ w0.heap.size) (hg : w.grownBy w' row) (hr : ∀ g, row = some g → B ≤ g) : Below B w0 w' :=
  h.grown hg (Nat.le_trans hB h.size) hr
theorem _root_.Go.RowKit.Below.on {w0 w w' : World} (h : Below w0.heap.size w0 w) (h' : Below w.heap.size w w') : Below w0.heap.size w0 w' := h.trans (h'.mono h.size)
theorem _root_.Go.RowKit.Below.write {w0 w w' : World} {g : Nat} (h : Below w0.heap.size w0 w) (hg : w.grownBy w' (some g)) (hr : w0.heap.size ≤ g) : Below w0.heap.size w0 w' :=
  h.step (Nat.le_refl _) hg (fun k hk => by injection hk with hk; omega)

/-! ### Loops -/
theorem Wp.loopG {Q : Exit → Env → World → Prop} {c : Code} (I : Nat → Env → World → Prop) {m : Nat} (h0 : I m e w)
    (round : ∀ m e w, I m e w → Wp P N c (thenQ (fun e' w' => ∃ m', m' < m ∧ I m' e' w') Q) e w) : Wp P N (.loop c) Q e w := by
  have hex : ∀ e w, (∃ m, I m e w) → ∃ m, I m e w ∧ ∀ k, k < m → ¬ I k e w := fun e w ⟨m, hm⟩ => by
    induction m using Nat.strongRecOn with
    | _ m ih =>
      by_cases h : ∃ k, k < m ∧ I k e w
      · obtain ⟨k, hk, hi⟩ := h; exact ih k hk hi
      · exact ⟨m, hm, fun k hk hi => h ⟨k, hk, hi⟩⟩
  let μ : Env → World → Nat := fun e w => @dite Nat (∃ m, I m e w) (Classical.propDecidable _) (fun h => (hex e w h).choose) (fun _ => 0)
  have hμ : ∀ e w, (∃ m, I m e w) → I (μ e w) e w ∧ ∀ k, k < μ e w → ¬ I k e w := fun e w h => by
    have : μ e w = (hex e w h).choose := by simp only [μ]; rw [dif_pos h]
    rw [this]; exact (hex e w h).choose_spec
  refine Wp.loop (fun e w => ∃ m, I m e w) μ ⟨m, h0⟩ fun e w hI => (round _ e w (hμ e w hI).1).mono fun x e' w' hx => ?_
  cases x with
  | normal =>
    obtain ⟨m', hm', hi⟩ := hx
    refine ⟨⟨m', hi⟩, ?_⟩
    rcases Nat.lt_or_ge m' (μ e' w') with h | h
    · exact absurd hi ((hμ e' w' ⟨m', hi⟩).2 m' h)
    · exact Nat.lt_of_le_of_lt h hm'
  | _ => exact hx
/-- A counter that goes up to M. -/
theorem Wp.loopUp {Q : Exit → Env → World → Prop} {c : Code} (M : Nat) (I : Nat → Env → World → Prop) {k0 : Nat} (hk0 : k0 ≤ M) (h0 : I k0 e w)
    (round : ∀ k e w, k ≤ M → I k e w → Wp P N c (thenQ (fun e' w' => k < M ∧ I (k + 1) e' w') Q) e w) : Wp P N (.loop c) Q e w := by
  refine Wp.loopG (fun m e w => ∃ k, k ≤ M ∧ m = M - k ∧ I k e w) ⟨k0, hk0, rfl, h0⟩ ?_
  rintro m e w ⟨k, hk, rfl, hi⟩
  refine (round k e w hk hi).mono fun x e' w' hx => ?_
  cases x with
  | normal => exact ⟨M - (k + 1), by have := hx.1; omega, k + 1, hx.1, rfl, hx.2⟩
  | _ => exact hx
theorem int_eq {k : IntKind} {a b : Int} (h : a = b) : Value.int k a = Value.int k b := by rw [h]
end

class RowT (P : Program) (t : TypeId) : Prop where
  hu : ∃ d, P.underlying t = some d ∧ d.isRow = true
theorem doneQ_cell {P : Program} {fn : Func} {R : Ending → World → Prop} {e : Env} {w : World} {p : Tmp} {ty t : TypeId} {g n : Nat} {cs : Array Value} [h : RowT P ty] [hs : SizeT P ty n] (hr : fn.results = #[.cell p ty])
    (hp : e p = .pointer (some ⟨g, 0, none⟩)) (hg : Blk w g t cs) (hn : cs.size = n) (hR : R (.returned (.agg cs)) w) : doneQ P fn R .ret e w := by
  obtain ⟨d, hu, hd⟩ := h.hu
  refine ⟨_, fun tmps ht => results_cell_row hr tmps w g t cs (0, 0) d (by rw [ht]; exact hp) hg hu (by cases d <;> simp_all) (by rw [hs.hs, hn]), hR⟩
end Go.Fk
