/-
  More rules for the engine: slices written out, conversions between bytes and texts, make, copy. They hold for any program; conditions stand at each theorem.
-/
import Derived.Test.YtaapnfoimcccjaaAuto
import Derived.Laws.BytesString
namespace Go.Fk
open Go.RowKit

/-! ### A slice written out -/
/-- The parts, in their order from k on. -/
def BVals (e : Env) : Nat → List (Nat × Operand) → List Value → Prop
  | _, [], [] => True
  | k, (i, x) :: r, v :: s => i = k ∧ e.eval x = v ∧ BVals e (k + 1) r s
  | _, _, _ => False
theorem BVals.nil {e : Env} {k : Nat} : BVals e k [] [] := trivial
theorem BVals.cons {e : Env} {k i : Nat} {x : Operand} {v : Value} {r : List (Nat × Operand)} {s : List Value} (hi : i = k) (hx : e.eval x = v) (hr : BVals e (k + 1) r s) : BVals e k ((i, x) :: r) (v :: s) := ⟨hi, hx, hr⟩

theorem fill_parts {e : Env} : ∀ (r : List (Nat × Operand)) (s pre post : List Value), BVals e pre.length r s → (∀ v ∈ s, v.oneCell' = true) → post.length = s.length →
    Instr.fill (fun i => some (i * 1, 1)) (pre ++ post).toArray (r.map fun p => (p.1, e.eval p.2)) = some (pre ++ s).toArray
  | [], [], pre, post, _, _, hp => by
    have : post = [] := List.eq_nil_of_length_eq_zero (by simpa using hp)
    subst this; simp [Instr.fill]
  | (i, x) :: r, v :: s, pre, [], _, _, hp => by simp at hp
  | (i, x) :: r, v :: s, pre, p :: post, ⟨hi, hx, hr⟩, h1, hp => by
    subst hi
    have hv : v.cells = #[v] := by have := h1 v List.mem_cons_self; cases v <;> simp_all [Value.oneCell', Value.cells]
    simp only [List.length_cons] at hp
    simp only [List.map_cons, Instr.fill, hx, hv]
    rw [if_neg (by simp)]
    have h2 := fill_parts r s (pre ++ [v]) post (by simpa using hr) (fun u hu => h1 u (List.mem_cons_of_mem _ hu)) (by omega)
    have e1 : (#[v].zipIdx.foldl (fun cs (x : Value × Nat) => cs.setIfInBounds (pre.length * 1 + x.2) x.1) (pre ++ p :: post).toArray) = (pre ++ [v] ++ post).toArray := by simp
    rw [e1, h2]
    simp
  | [], _ :: _, _, _, h, _, _ => h.elim
  | _ :: _, [], _, _, h, _, _ => by cases h

section
variable {P : Program} {N : Nat} {ops : Array Oper} {K : Env → World → Prop} {rest : List Oper} {e : Env} {w : World} {ty : TypeId} {pos : String} {after : Array Edge}
variable {B : Nat} {t el : TypeId} {sz bytes : Nat} {z : Value} {v : Value} {n : Nat} {xs : List Value} {x y : Operand}

theorem run_buildSlice [ht : SliceT P t el] [he : Elem P el 1 bytes z] {r : List (Nat × Operand)} {vs : List Value} (hv : BVals e 0 r vs) (h1 : ∀ v ∈ vs, v.oneCell' = true) (hl : vs.length = n) (hn : n ≤ 16777216) (w : World) :
    (Instr.buildSlice t n (r.toArray.map fun (i, x) => (i, e.eval x))).run P w = .ok (.slice (some ⟨w.heap.size, 0, none⟩) n n) (w.alloc (.cells vs.toArray el)) := by
  obtain ⟨i, hi, hz, hsize, hby⟩ := he.get
  have hf := fill_parts r vs [] ((List.range n).map fun j => z.cells[j % z.cells.size]!) hv h1 (by simp [hl])
  have hbig : ¬ (16777216 < n * 1) := by omega
  simp only [List.nil_append] at hf
  by_cases h0 : n = 0
  · subst h0
    have : vs = [] := List.eq_nil_of_length_eq_zero hl
    subst this
    cases r with
    | nil => simp [Instr.buildSlice, run_underlying ht.hu, SizeT.run, sizeOf, typeInfo, hi, hsize, Instr.fill, newRow, show Array.map (fun _ => (default : Value)) (Array.range 0) = #[] from by apply Array.ext'; simp]
    | cons p r => obtain ⟨p1, p2⟩ := p; cases hv
  · have e1 : (List.map (fun j => z.cells[j % z.cells.size]!) (List.range n)).toArray = (Array.range (n * 1)).map fun j => z.cells[j % z.cells.size]! := by
      apply Array.ext'
      simp
    rw [e1] at hf
    simp only [Instr.buildSlice, Sem.run_bind, run_underlying ht.hu, Result.andThen_ok, sizeOf, typeInfo, run_program, hi, hsize, Sem.run_pure, zeroValue, hz]
    rw [if_neg (by simpa using hbig)]
    have h0' : ¬ n * 1 = 0 := by omega
    simp [h0, typeInfo, hi, hz, newRow]
    simp at hf
    simp [hf]

theorem WpL.buildSlice [ht : SliceT P t el] [he : Elem P el 1 bytes z] {d : Tmp} {r : List (Nat × Operand)} {vs : List Value} (hd : dOk N (some d) = true) (hv : BVals e 0 r vs) (h1 : ∀ v ∈ vs, v.oneCell' = true) (hl : vs.length = n) (hn : n ≤ 16777216)
    (h : ∀ w', Below w.heap.size w w' → w'.heap.size = w.heap.size + 1 → Blk w' w.heap.size el vs.toArray → WpL P N ops K rest (e.set d (.slice (some ⟨w.heap.size, 0, none⟩) n n)) w') :
    WpL P N ops K (⟨some d, .buildSlice t n r.toArray, ty, pos, after, none⟩ :: rest) e w :=
  WpL.run (w' := w.alloc (.cells vs.toArray el)) hd (by simp only [execOp, Sem.run_bind]; rw [run_buildSlice hv h1 hl hn w]; simp) (h _ ((Below.refl _ _).alloc (Nat.le_refl _) _) (by simp) (Blk.new _ _ _))

/-- Bytes from one of them on. -/
theorem Rd.dropB {w : World} {A : Option Addr} {l : List UInt8} {c m : Nat} (hr : Rd w A (bv l)) (hc : l.length ≤ c) :
    Rd w (if c = ((m : Nat) : Int).toNat then A else A.map (·.add (((m : Nat) : Int).toNat * 1))) (bv (l.drop m)) := by
  have h := Rd.slice hr (l := m) (k := l.length - m) (m := c) (sz := 1) (by omega)
  simp only [Int.toNat_natCast]
  rw [Nat.mul_one, Nat.mul_one] at h
  rw [Nat.mul_one]
  rw [bv_drop]
  rwa [List.take_of_length_le (by simp)] at h
/-! ### Conversions between bytes and texts -/
/-- A constant text as bytes: they stay as they are; a mark is laid behind them. -/
theorem WpL.markStr [ht : SliceT P t el] [hb : IntT P el .u8] {d : Tmp} {g len cap : Nat} {cs : Array Value} (hd : dOk N (some d) = true) (hx : e.eval x = .slice (some ⟨g, 0, none⟩) len cap) (hg : Blk w g el cs)
    (h : ∀ w', w.grownBy w' (some g) → w'.heap.size = w.heap.size → At w' ⟨g, 0, none⟩ cs.toList → WpL P N ops K rest (e.set d (.slice (some ⟨g, 0, none⟩) len cap)) w') :
    WpL P N ops K (⟨some d, .convert t t x, ty, pos, after, none⟩ :: rest) e w := by
  have hsh : w.shape? g = some (el, cs.size) := by have := hg; unfold Blk at this; simp [World.shape?, this]
  have hfr : (w.freeze ⟨g, cs.size, none⟩ 1).heap[g]? = some (.cells cs el (cs.size, cs.size + 1)) := by
    have := hg
    unfold Blk at this
    simp [World.freeze, Array.getElem?_modify, this]
  refine WpL.run (w' := w.freeze ⟨g, cs.size, none⟩ 1) hd ?_ (h _ ⟨rfl, rfl, rfl, by simp [World.freeze], fun k _ hk => ?_⟩ (by simp [World.freeze]) fun j u hu => ?_)
  · simp [execOp, hx, convert, run_underlying ht.hu, run_underlying hb.hu, markStringish, hsh]
  · simp only [World.freeze, Nat.one_ne_zero, if_false, Array.getElem?_modify]
    rw [if_neg (fun e => hk (by rw [e]))]
  · rw [add_mk, cell_of_row _ g (0 + j) cs el _ hfr]; simpa using hu

theorem foldl_push (l : List UInt8) : ∀ acc : List UInt8, (l.map fun b => (b.toNat : Int)).foldl (fun r n => r.push (UInt8.ofNat n.toNat)) (⟨acc.toArray⟩ : ByteArray) = ⟨(acc ++ l).toArray⟩ := by
  induction l with
  | nil => intro acc; simp
  | cons b l ih =>
    intro acc
    have h : (⟨acc.toArray⟩ : ByteArray).push (UInt8.ofNat ((b.toNat : Int)).toNat) = ⟨(acc ++ [b]).toArray⟩ := by
      simp [ByteArray.push]
    rw [List.map_cons, List.foldl_cons, h, ih]
    simp
theorem run_bytesStr {A : Option Addr} {l : List UInt8} {n c : Nat} (hr : Rd w A (bv l)) (hn : l.length = n) : (Conv.bytesToString (.slice A n c)).run P w = .ok (.string ⟨l.toArray⟩) w := by
  subst hn
  cases A with
  | none =>
    rcases hr with h | ⟨a, h, _⟩
    · have : l = [] := by simpa [bv] using h
      subst this; simp [Conv.bytesToString]; rfl
    · cases h
  | some a =>
    have hl : (loadCells a l.length).run P w = .ok ((l.map fun b => (b.toNat : Int)).map (Value.int .u8)).toArray w := by
      rcases hr with h | ⟨a', h, hat⟩
      · have : l = [] := by simpa [bv] using h
        subst this; simp [loadCells, loadCellsFrom]
      · injection h with h; subst h
        have := run_loadCells_list (P := P) w a (bv l) hat
        rw [bv_length] at this
        rw [this]; simp [bv]
    rw [run_bytesToString w a _ c _ hl]
    have := foldl_push l []
    simp only [List.nil_append] at this
    rw [← this]; rfl
end

class StrT (P : Program) (t : TypeId) : Prop where
  hu : P.underlying t = some .string
theorem Det.str {P : Program} {I : World → Prop} {ty : TypeId} {e : Env} {x : Operand} {t t' el : TypeId} [ht : SliceT P t el] [hs : StrT P t'] [hb : IntT P el .u8] {A : Option Addr} {l : List UInt8} {n c : Nat} (hx : e.eval x = .slice A n c)
    (hr : ∀ w, I w → Rd w A (bv l)) (hn : l.length = n) : Det P I (.convert t t' x) ty e (.string ⟨l.toArray⟩) := fun _ _ _ _ w hw => by
  have h : (convert t t' (.slice A n c)).run P w = .ok (.string ⟨l.toArray⟩) w := by
    rw [run_convert_bytes_string w t t' el A n c ht.hu hb.hu hs.hu]
    exact run_bytesStr (hr w hw) hn
  simp [execOp, hx, h]
theorem WpL.str {P : Program} {N : Nat} {ops : Array Oper} {K : Env → World → Prop} {rest : List Oper} {e : Env} {w : World} {ty : TypeId} {pos : String} {after : Array Edge} {x : Operand}
    {t t' el : TypeId} [ht : SliceT P t el] [hs : StrT P t'] [hb : IntT P el .u8] {d : Tmp} {A : Option Addr} {l : List UInt8} {n c : Nat} (hd : dOk N (some d) = true) (hx : e.eval x = .slice A n c)
    (hr : Rd w A (bv l)) (hn : l.length = n) (h : WpL P N ops K rest (e.set d (.string ⟨l.toArray⟩)) w) : WpL P N ops K (⟨some d, .convert t t' x, ty, pos, after, none⟩ :: rest) e w :=
  WpL.det hd (Det.str hx (by rintro _ rfl; exact hr) hn) h
/-- A guarded load. -/
theorem WpL.loadAG {P : Program} {N : Nat} {ops : Array Oper} {K : Env → World → Prop} {rest : List Oper} {e : Env} {w : World} {ty : TypeId} {pos : String} {after : Array Edge} {x : Operand} {t : TypeId}
    [Cell1 P t] {i d d' : Tmp} {b c : Bool} {a : Addr} {j : Nat} {xs : List Value} {v : Value} (hj : (ops[i]?).bind (·.dst) = some d) (he : e d = .bool c) (hb : c = b) (hd : dOk N (some d') = true) (hx : e.eval x = .pointer (some (a.add j))) (hr : At w a xs) (hc : xs[j]? = some v)
    (h : WpL P N ops K rest (e.set d' v) w) : WpL P N ops K (⟨some d', .load t x, ty, pos, after, some (i, b)⟩ :: rest) e w :=
  WpL.detG hj he hb hd (Det.load1 hx (by rintro _ rfl; exact hr j v hc)) h
theorem WpL.strG {P : Program} {N : Nat} {ops : Array Oper} {K : Env → World → Prop} {rest : List Oper} {e : Env} {w : World} {ty : TypeId} {pos : String} {after : Array Edge} {x : Operand}
    {t t' el : TypeId} [ht : SliceT P t el] [hs : StrT P t'] [hb : IntT P el .u8] {i d d' : Tmp} {b c' : Bool} {A : Option Addr} {l : List UInt8} {n c : Nat} (hj : (ops[i]?).bind (·.dst) = some d) (he : e d = .bool c') (hb : c' = b) (hd : dOk N (some d') = true) (hx : e.eval x = .slice A n c)
    (hr : Rd w A (bv l)) (hn : l.length = n) (h : WpL P N ops K rest (e.set d' (.string ⟨l.toArray⟩)) w) : WpL P N ops K (⟨some d', .convert t t' x, ty, pos, after, some (i, b)⟩ :: rest) e w :=
  WpL.detG hj he hb hd (Det.str hx (by rintro _ rfl; exact hr) hn) h
theorem BVals.found {e : Env} {k : Nat} {l : List (Nat × Operand)} {s : List Value} (h : BVals e k l s := by (repeat (first | exact BVals.nil | ((with_reducible apply BVals.cons); (· exact rfl); (· (first | exact Env.ev_const _ _ | exact Env.ev_func _ _ | exact Env.ev_global _ _ | (apply Env.evt; (repeat (first | exact Env.hit _ _ _ | ((with_reducible apply Env.miss); (· exact rfl)) | exact Env.ap_undef _ | exact rfl))))))))) : BVals e k l s := h
/-- All of one cell: numbers, texts and the like. -/
def oneAll : List Value → Bool
  | [] => true
  | v :: r => v.oneCell' && oneAll r
theorem oneAll_spec : ∀ {l : List Value}, oneAll l = true → ∀ v ∈ l, v.oneCell' = true
  | [], _, v, hv => by cases hv
  | u :: r, h, v, hv => by
    simp only [oneAll, Bool.and_eq_true] at h
    rcases List.mem_cons.1 hv with e | e
    · subst e; exact h.1
    · exact oneAll_spec h.2 v e

theorem Appended.below {w0 w : World} {el : TypeId} {sz : Nat} {v v' : Value} {n m : Nat} {xs : List Value} {w' : World} (h : Appended w w0.heap.size el sz v n xs v' w') (hb : Below w0.heap.size w0 w)
    {ys : List Value} (hv : Sl w w0.heap.size el sz v m ys) : Below w0.heap.size w0 w' := by
  refine hb.step (Nat.le_refl _) h.2.1 fun g hg => ?_
  rcases hv.own with h | ⟨g', h, hB, _⟩
  · rw [h] at hg; cases hg
  · rw [h] at hg; injection hg with hg; omega
/-- A slice of bytes that the call has made. -/
def SlB (w : World) (B : Nat) (el : TypeId) (v : Value) (l : List UInt8) : Prop := Sl w B el 1 v l.length (bv l)
theorem SlB.nil (w : World) (B : Nat) (el : TypeId) : SlB w B el (.slice none 0 0) [] := Sl.nil w B el 1
theorem SlB.form {w : World} {B : Nat} {el : TypeId} {v : Value} {l : List UInt8} (h : SlB w B el v l) : ∃ A cap, v = .slice A l.length cap ∧ l.length ≤ cap ∧ cap ≤ maxLen ∧ (A = none → l.length = 0 ∧ cap = 0) ∧ Rd w A (bv l) := Sl.form h

section
variable {P : Program} {N : Nat} {ops : Array Oper} {K : Env → World → Prop} {rest : List Oper} {e : Env} {w : World} {ty : TypeId} {pos : String} {after : Array Edge}
variable {t el : TypeId} {v : Value} {x y : Operand} {z : Value}
/-- Bytes are appended to a slice of the call's own, from block w0.heap.size on. -/
theorem WpL.appendB [ht : SliceT P t el] [he : Elem P el 1 1 z] {d : Tmp} {w0 : World} {xs : List UInt8} (hd : dOk N (some d) = true) (hx : e.eval x = v) {A : Option Addr} {m c : Nat} {l : List UInt8} (hy : e.eval y = .slice A m c) (hown : SlB w w0.heap.size el v xs) (hr : Rd w A (bv l))
    (hl : l.length = m) (hbytes : xs.length + m ≤ 140737488355328) (hb : Below w0.heap.size w0 w)
    (h : ∀ v' w', SlB w' w0.heap.size el v' (xs ++ l) → Below w0.heap.size w0 w' → w.grownBy w' v.ownBlock → (v'.ownBlock = v.ownBlock ∨ ∃ g, v'.ownBlock = some g ∧ w.heap.size ≤ g) → WpL P N ops K rest (e.set d v') w') :
    WpL P N ops K (⟨some d, .call { callee := .builtin .append, args := #[x, y], argTypes := #[t, t] }, ty, pos, after, none⟩ :: rest) e w := by
  subst hl
  refine WpL.append hd hx hy hown hr (by simp) (bv_one _) (by simpa using hbytes) (by simp only [maxLen]; omega) hb.size fun v' w' ha => ?_
  have hb' := ha.below hb hown
  obtain ⟨h1, h2, h3⟩ := ha
  refine h v' w' ?_ hb' h2 h3
  unfold SlB
  rw [List.length_append, bv_append]
  exact h1
end

/-- A slice of the call's own has become another: its own block, and new ones, alone have changed. -/
structure Grew (w : World) (v : Value) (w' : World) (v' : Value) : Prop where
  by_ : w.grownBy w' v.ownBlock
  own : v'.ownBlock = v.ownBlock ∨ ∃ g, v'.ownBlock = some g ∧ w.heap.size ≤ g
theorem Grew.refl (w : World) (v : Value) : Grew w v w v := ⟨⟨rfl, rfl, rfl, Nat.le_refl _, fun _ _ _ => rfl⟩, .inl rfl⟩
theorem Grew.trans {w w1 w2 : World} {v v1 v2 : Value} (h : Grew w v w1 v1) (k : Grew w1 v1 w2 v2) : Grew w v w2 v2 := by
  refine ⟨⟨k.by_.os.trans h.by_.os, k.by_.tape.trans h.by_.tape, k.by_.output.trans h.by_.output, Nat.le_trans h.by_.size k.by_.size, fun b hb hne => ?_⟩, ?_⟩
  · refine (k.by_.block b (Nat.lt_of_lt_of_le hb h.by_.size) fun e => ?_).trans (h.by_.block b hb hne)
    rcases h.own with h1 | ⟨g, h1, h2⟩
    · exact hne (e.trans h1)
    · rw [h1] at e; injection e with e; omega
  · rcases k.own with h1 | ⟨g, h1, h2⟩
    · rw [h1]; exact h.own
    · exact .inr ⟨g, h1, Nat.le_trans h.by_.size h2⟩
theorem Grew.below {w0 w w' : World} {v v' : Value} {el : TypeId} {l : List UInt8} (h : Grew w v w' v') (hb : Below w0.heap.size w0 w) (hv : SlB w w0.heap.size el v l) : Below w0.heap.size w0 w' := by
  refine hb.step (Nat.le_refl _) h.by_ fun g hg => ?_
  rcases Sl.own hv with h1 | ⟨g', h1, hB, _⟩
  · rw [h1] at hg; cases hg
  · rw [h1] at hg; injection hg with hg; omega
/-- Behind what has changed the own block alone: what is below stays. -/
theorem Grew.of_below {w w' : World} (v : Value) (h : Below w.heap.size w w') : Grew w v w' v := ⟨⟨h.os, h.tape, h.output, h.size, fun k hk _ => h.block k hk⟩, .inl rfl⟩
theorem SlB.below {w w' : World} {B : Nat} {el : TypeId} {v : Value} {l : List UInt8} (h : SlB w B el v l) (hb : Below w.heap.size w w') : SlB w' B el v l := Sl.below h hb
theorem SlB.mono {w : World} {B B' : Nat} {el : TypeId} {v : Value} {l : List UInt8} (h : SlB w B el v l) (hB : B' ≤ B) : SlB w B' el v l := Sl.mono h hB

section
variable {P : Program} {N : Nat} {ops : Array Oper} {K : Env → World → Prop} {rest : List Oper} {e : Env} {w : World} {ty : TypeId} {pos : String} {after : Array Edge}
variable {t el : TypeId} {v : Value} {x y : Operand} {z : Value}
/-- Bytes are appended to a slice of the call's own, from block B on. -/
theorem WpL.appendG [ht : SliceT P t el] [he : Elem P el 1 1 z] {d : Tmp} {B : Nat} {xs : List UInt8} (hd : dOk N (some d) = true) (hx : e.eval x = v) {A : Option Addr} {m c : Nat} {l : List UInt8} (hy : e.eval y = .slice A m c) (hown : SlB w B el v xs) (hr : Rd w A (bv l))
    (hl : l.length = m) (hbytes : xs.length + m ≤ 140737488355328) (hb : B ≤ w.heap.size)
    (h : ∀ v' w', SlB w' B el v' (xs ++ l) → Grew w v w' v' → WpL P N ops K rest (e.set d v') w') :
    WpL P N ops K (⟨some d, .call { callee := .builtin .append, args := #[x, y], argTypes := #[t, t] }, ty, pos, after, none⟩ :: rest) e w := by
  subst hl
  refine WpL.append hd hx hy hown hr (by simp) (bv_one _) (by simpa using hbytes) (by simp only [maxLen]; omega) hb fun v' w' ha => ?_
  obtain ⟨h1, h2, h3⟩ := ha
  refine h v' w' ?_ ⟨h2, h3⟩
  unfold SlB
  rw [List.length_append, bv_append]
  exact h1
end

theorem SlB.block {w : World} {B : Nat} {el : TypeId} {v : Value} {l : List UInt8} (h : SlB w B el v l) (h0 : 0 < l.length) :
    ∃ g c, v = .slice (some ⟨g, 0, none⟩) l.length c ∧ B ≤ g ∧ g < w.heap.size ∧ l.length ≤ c ∧ c ≤ maxLen := by
  obtain ⟨_, h2⟩ := h
  rcases h2 with ⟨_, h⟩ | ⟨g, cap, cur, rfl, hb, hg, hn, hm, _⟩
  · omega
  · exact ⟨g, cap, rfl, hb, (Array.getElem?_eq_some_iff.1 hg).1, hn, hm⟩
/-- A byte is stored into bytes of the call's own. -/
theorem WpL.storeS {P : Program} {N : Nat} {ops : Array Oper} {K : Env → World → Prop} {rest : List Oper} {e : Env} {w : World} {ty : TypeId} {pos : String} {after : Array Edge} {x y : Operand} {t el : TypeId}
    [hs : SizeT P t 1] {B g c m j : Nat} {l : List UInt8} {b : UInt8} {k : Int} (hx : e.eval x = .pointer (some ⟨g, j, none⟩)) (hy : e.eval y = .int .u8 k) (hk : k = (b.toNat : Int)) (hown : SlB w B el (.slice (some ⟨g, 0, none⟩) m c) l) (hj : j < l.length)
    (h : ∀ w', SlB w' B el (.slice (some ⟨g, 0, none⟩) m c) (l.set j b) → w.grownBy w' (some g) → w'.heap.size = w.heap.size → WpL P N ops K rest e w') : WpL P N ops K (⟨none, .store t x y, ty, pos, after, none⟩ :: rest) e w := by
  obtain ⟨h1, h2⟩ := hown
  rcases h2 with ⟨h2, _⟩ | ⟨g', cap, cur, h2, hb, hg, hn, hm, hc, ht⟩
  · cases h2
  · injection h2 with h3 h4 h5
    injection h3 with h3
    injection h3 with h3 _ _
    subst h3 h5
    have hlen : l.length ≤ cur.size := by have := h1; simp at this; omega
    refine WpL.store1 hx hy rfl hg (by omega) fun w' hg' hs' hb' => h w' ?_ hg' hs'
    refine ⟨by simp, .inr ⟨g, c, _, by rw [h4]; simp, hb, hb', by simpa using hn, hm, by simpa using hc, ?_⟩⟩
    simp only [List.length_set, Array.toList_setIfInBounds, bv, hk]
    rw [List.take_set, ht]
    simp only [bv]
    rw [List.map_set]
/-- A cut: behind a piece of code only what J tells is known. -/
theorem Wp.cut {P : Program} {n : Nat} {c : Code} {K : Env → World → Prop} {Q : Exit → Env → World → Prop} {e : Env} {w : World} (J : Env → World → Prop) (h : Wp P n c (thenQ J Q) e w) (hk : ∀ e w, J e w → K e w) : Wp P n c (thenQ K Q) e w :=
  h.mono fun x e w hx => by
    cases x with
    | normal => exact hk _ _ hx
    | _ => exact hx
end Go.Fk
