/-
  The walk's rules over the parts of memory that a call knows. They hold for any program; conditions stand at each theorem.
-/
import Derived.Test.YtaapnfoimcccjaaSt
namespace Go.Fk
open Go.RowKit

section
variable {P : Program} {N : Nat} {ops : Array Oper} {K : Env → World → Prop} {rest : List Oper} {e : Env} {w : World} {ty : TypeId} {pos : String} {after : Array Edge} {x y : Operand}
variable {w0 : World} {M : Nat → Prop} {L L1 L' : List Ch} {t el : TypeId} {d : Tmp} {v : Value}

/-! ### Loads and stores -/
theorem WpL.ld [Cell1 P t] {a : Addr} (hS : St w0 M w L) (hd : dOk N (some d) = true) (hx : e.eval x = .pointer (some a)) (hl : Look L a v) (h : WpL P N ops K rest (e.set d v) w) :
    WpL P N ops K (⟨some d, .load t x, ty, pos, after, none⟩ :: rest) e w := WpL.load1 hd hx (hl.cell hS) h

theorem WpL.st [hs : SizeT P t 1] {a : Addr} (hS : St w0 M w L) (hx : e.eval x = .pointer (some a)) (hy : e.eval y = v) (hv : v.oneCell' = true) (hu : Upd L a v L') (h : ∀ w', St w0 M w' L' → WpL P N ops K rest e w') :
    WpL P N ops K (⟨none, .store t x y, ty, pos, after, none⟩ :: rest) e w := by
  have hcs : v.cells = #[v] := by cases v <;> simp_all [Value.oneCell', Value.cells]
  obtain ⟨⟨⟨u, h1⟩, h2, h3⟩, hS'⟩ := hu.run hv hS
  refine WpL.runSkip (w' := w.setCell a v) rfl ?_ (h _ hS')
  have hst := run_store P w a v .plain hv
  rw [h1] at hst
  simp only [h2, Bool.false_eq_true, if_false] at hst
  simp [execOp, hx, hy, Instr.storeAt, Instr.sureAddr, storeVar, SizeT.run (P := P) (t := t) w, hcs, storeCells, add_zero, hst]

/-- A whole struct or array is loaded. -/
theorem WpL.ldRow {n g : Nat} {t ty' : TypeId} {cs : List Value} [RowT P ty'] [SizeT P ty' n] (hS : St w0 M w L) (hd : dOk N (some d) = true) (hx : e.eval x = .pointer (some ⟨g, 0, none⟩)) (hsel : Sel (.blk g t cs) L L1) (hn : cs.length = n)
    (h : WpL P N ops K rest (e.set d (.agg cs.toArray)) w) : WpL P N ops K (⟨some d, .load ty' x, ty, pos, after, none⟩ :: rest) e w :=
  WpL.loadRow (t := t) hd hx (hS.is hsel) (by simpa using hn) h

/-- A block becomes another one at its place. -/
inductive Swap : Ch → Ch → List Ch → List Ch → Prop
  | here {c d : Ch} {L : List Ch} : Swap c d (c :: L) (d :: L)
  | there {c d b : Ch} {L L' : List Ch} (h : Swap c d L L') : Swap c d (b :: L) (b :: L')
theorem Swap.perm {c d : Ch} {L L' : List Ch} (h : Swap c d L L') : ∃ Γ, L.Perm (c :: Γ) ∧ L'.Perm (d :: Γ) := by
  induction h with
  | here => exact ⟨_, .refl _, .refl _⟩
  | there _ ih => obtain ⟨Γ, h1, h2⟩ := ih; exact ⟨_ :: Γ, (List.Perm.cons _ h1).trans (List.Perm.swap _ _ _), (List.Perm.cons _ h2).trans (List.Perm.swap _ _ _)⟩
theorem St.swap {c d : Ch} {w' : World} (hS : St w0 M w L) (hs : Swap c d L L') (hg : Chg w (fun k => c.foot = some k) w') (hd : d.Is w') (hro : d.isRo = false) (hn : ∀ g, d.foot = some g → c.foot = some g ∨ w.heap.size ≤ g) : St w0 M w' L' := by
  obtain ⟨Γ, h1, h2⟩ := hs.perm
  exact ((hS.perm h1).put hg hd hro hn).perm h2.symm

theorem WpL.stRow {n g : Nat} {cells : Array Value} {cs : List Value} [hs : SizeT P t n] (hS : St w0 M w L) (hx : e.eval x = .pointer (some ⟨g, 0, none⟩)) (hy : e.eval y = .agg cells) (hsw : Swap (.blk g el cs) (.blk g el cells.toList) L L') (hn : cells.size = n) (hc : cs.length = n) (h1 : ∀ v ∈ cells.toList, v.oneCell' = true)
    (h : ∀ w', St w0 M w' L' → WpL P N ops K rest e w') : WpL P N ops K (⟨none, .store t x y, ty, pos, after, none⟩ :: rest) e w := by
  obtain ⟨Γ, h2, h3⟩ := hsw.perm
  have hb : Blk w g el cs.toArray := ((hS.perm h2).hold _ List.mem_cons_self).1
  refine WpL.storeRow (n := n) hx hy hn (by simpa using hc) h1 hb fun w' hg _ hb' => h w' ?_
  exact hS.swap hsw (Chg.of_grown hg) (by simpa [Ch.Is] using hb') rfl fun g hg => .inl hg

/-! ### New memory -/
theorem WpL.bx {cs : List Value} (hS : St w0 M w L) (hd : dOk N (some d) = true) (hx : e.eval x = v) (hc : v.cells = cs.toArray)
    (h : ∀ g w', St w0 M w' (.blk g el cs :: L) → WpL P N ops K rest (e.set d (.pointer (some ⟨g, 0, none⟩))) w') :
    WpL P N ops K (⟨some d, .box el x, ty, pos, after, none⟩ :: rest) e w :=
  WpL.box hd hx fun w' hb hs hg => h _ w' (hS.new hb (by rw [hc] at hg; exact hg) rfl fun g hg => by injection hg with hg; omega)
theorem WpL.al {sz bytes : Nat} {z : Value} [he : Elem P el sz bytes z] {cs : List Value} (hS : St w0 M w L) (hd : dOk N (some d) = true) (hc : z.cells = cs.toArray)
    (h : ∀ g w', St w0 M w' (.blk g el cs :: L) → WpL P N ops K rest (e.set d (.pointer (some ⟨g, 0, none⟩))) w') :
    WpL P N ops K (⟨some d, .alloc el, ty, pos, after, none⟩ :: rest) e w :=
  WpL.alloc hd fun w' hb hs hg => h _ w' (hS.new hb (by rw [hc] at hg; exact hg) rfl fun g hg => by injection hg with hg; omega)

/-- A new slice, each place the element's noughts. -/
theorem WpL.mk1 [ht : SliceT P t el] {bytes : Nat} {z : Value} [he : Elem P el 1 bytes z] {n : Nat} {kl kc : IntKind} {i j : Int} (hS : St w0 M w L) (hd : dOk N (some d) = true) (hx : e.eval x = .int kl i) (hi : i = (n : Int)) (hy : e.eval y = .int kc j) (hj : j = (n : Int)) (hz : z.cells = #[z])
    (hn : bytes * n ≤ 281474976710656) (hm : n ≤ 9223372036854775807)
    (h : ∀ A w', IsVw A n n A 0 → St w0 M w' (.own A n n el 1 (List.replicate n z) :: L) → WpL P N ops K rest (e.set d (.slice A n n)) w') :
    WpL P N ops K (⟨some d, .makeSlice t x y, ty, pos, after, none⟩ :: rest) e w := by
  subst hi hj
  obtain ⟨i, hi, hzz, hsize, hby⟩ := he.get
  have hr := _root_.Go.run_make_row (P := P) t el i z ht.hu hi hzz hsize hz kl kc n (by rw [hby]; omega) (by omega) w
  refine WpL.run (w' := w.alloc (.cells (madeCells #[z] n) el)) hd (by simp only [execOp, hx, hy, Sem.run_bind, hr]; rfl) (h (some ⟨w.heap.size, 0, none⟩) _ (IsVw.base (Nat.le_refl _) (by simp only [maxLen]; omega) (by simp)) ?_)
  refine hS.new ((Below.refl _ _).alloc (Nat.le_refl _) _) ⟨by simp, .inr ⟨w.heap.size, n, _, rfl, Nat.zero_le _, heap_alloc_new w _, Nat.le_refl _, by simp only [maxLen]; omega, by rw [size_madeCells]; omega, ?_⟩⟩ rfl fun g hg => by simp [Ch.foot] at hg; omega
  refine List.ext_getElem (by simp [madeCells]) fun j h1 h2 => ?_
  have h3 : j % 1 = 0 := Nat.mod_one j
  simp [madeCells, h3]
theorem uv_append (l r : List Nat) : uv (l ++ r) = uv l ++ uv r := by simp [uv]
theorem uv_one (l : List Nat) : ∀ u ∈ uv l, u.oneCell' = true := by simp [uv, Value.oneCell']
theorem replicate_bv (n : Nat) : List.replicate n (Value.int .u8 0) = bv (List.replicate n 0) := by simp [bv]
theorem replicate_zv (n : Nat) : List.replicate n (Value.int .i64 0) = zv (List.replicate n 0) := by simp [zv]
theorem replicate_uv (n : Nat) : List.replicate n (Value.int .u64 0) = uv (List.replicate n 0) := by simp [uv]

/-- A slice written out. -/
theorem WpL.bs [ht : SliceT P t el] {bytes n : Nat} {z : Value} [he : Elem P el 1 bytes z] {r : List (Nat × Operand)} {vs xs : List Value} (hS : St w0 M w L) (hd : dOk N (some d) = true) (hv : BVals e 0 r vs) (h1 : ∀ v ∈ vs, v.oneCell' = true) (hl : vs.length = n) (hn : n ≤ 16777216) (hxs : vs = xs)
    (h : ∀ A w', IsVw A n n A 0 → St w0 M w' (.own A n n el 1 xs :: L) → WpL P N ops K rest (e.set d (.slice A n n)) w') :
    WpL P N ops K (⟨some d, .buildSlice t n r.toArray, ty, pos, after, none⟩ :: rest) e w := by
  subst hxs
  refine WpL.buildSlice (bytes := bytes) hd hv h1 hl hn fun w' hb hs hg => h _ w' (IsVw.base (Nat.le_refl _) (by simp only [maxLen]; omega) (by simp)) ?_
  exact hS.new hb ⟨by simpa using hl, .inr ⟨_, n, _, rfl, Nat.zero_le _, hg, Nat.le_refl _, by simp only [maxLen]; omega, by simp [hl], by simp [← hl]⟩⟩ rfl fun g hg => by simp [Ch.foot] at hg; omega
/-- Of bytes, of numbers. -/
inductive BytesOf : List Value → List UInt8 → Prop
  | nil : BytesOf [] []
  | cons {z : Int} {k : Nat} {vs : List Value} {l : List UInt8} (hz : z = (k : Int)) (hk : k < 256) (h : BytesOf vs l) : BytesOf (.int .u8 z :: vs) (UInt8.ofNat k :: l)
theorem BytesOf.eq {vs : List Value} {l : List UInt8} (h : BytesOf vs l) : vs = bv l := by
  induction h with
  | nil => rfl
  | cons hz hk _ ih =>
    rw [ih]
    simp only [bv, List.map_cons, UInt8.toNat_ofNat', Nat.reducePow]
    rw [Nat.mod_eq_of_lt hk, hz]
inductive IntsOf : List Value → List Int → Prop
  | nil : IntsOf [] []
  | cons {z : Int} {vs : List Value} {l : List Int} (h : IntsOf vs l) : IntsOf (.int .i64 z :: vs) (z :: l)
theorem IntsOf.eq {vs : List Value} {l : List Int} (h : IntsOf vs l) : vs = zv l := by
  induction h with
  | nil => rfl
  | cons _ ih => rw [ih]; rfl
inductive U64sOf : List Value → List Nat → Prop
  | nil : U64sOf [] []
  | cons {z : Int} {k : Nat} {vs : List Value} {l : List Nat} (hz : z = (k : Int)) (h : U64sOf vs l) : U64sOf (.int .u64 z :: vs) (k :: l)
theorem U64sOf.eq {vs : List Value} {l : List Nat} (h : U64sOf vs l) : vs = uv l := by
  induction h with
  | nil => rfl
  | cons hz _ ih => rw [ih, hz]; rfl

/-! ### Append -/
theorem WpL.app [ht : SliceT P t el] {sz bytes : Nat} {z : Value} [he : Elem P el sz bytes z] {A V : Option Addr} {n c m c2 : Nat} {xs ys zs : List Value} (hS : St w0 M w L) (hd : dOk N (some d) = true) (hx : e.eval x = .slice A n c) (hy : e.eval y = .slice V m c2)
    (hsel : Sel (.own A n c el sz xs) L L1) (hr : RdsV L V (m * sz) ys) (h1 : ∀ u ∈ ys, u.oneCell' = true) (hz : xs ++ ys = zs) (hb : (n + m) * bytes ≤ 140737488355328) (hm : n + m ≤ 9223372036854775807)
    (h : ∀ A' c' w', IsVw A' (n + m) c' A' 0 → St w0 M w' (.own A' (n + m) c' el sz zs :: L1) → WpL P N ops K rest (e.set d (.slice A' (n + m) c')) w') :
    WpL P N ops K (⟨some d, .call { callee := .builtin .append, args := #[x, y], argTypes := #[t, t] }, ty, pos, after, none⟩ :: rest) e w := by
  subst hz
  have hS1 := hS.pick hsel
  have hown : Sl w 0 el sz (.slice A n c) n xs := (hS1.hold _ List.mem_cons_self).1
  obtain ⟨hrd, hlen⟩ := hr w0 M w hS
  refine WpL.append hd hx hy hown hrd hlen h1 hb (by simp only [maxLen]; omega) (Nat.zero_le _) fun v' w' ⟨h2, h3, h4⟩ => ?_
  obtain ⟨A', c', rfl, h5, h6, h7, _⟩ := h2.form
  refine h A' c' w' (IsVw.base h5 h6 fun h => (h7 h).2) (hS1.put ⟨h3.os, h3.tape, h3.output, h3.size, fun k hk hf => h3.block k hk fun hk' => hf ?_⟩ h2 rfl fun g hg => ?_)
  · cases A with
    | none => simp [Value.ownBlock] at hk'
    | some a => simpa [Value.ownBlock, Ch.foot] using hk'.symm
  · cases A' with
    | none => simp [Ch.foot] at hg
    | some a' =>
      simp only [Ch.foot, Option.map_some, Option.some.injEq] at hg
      rcases h4 with h4 | ⟨g', h4, h8⟩
      · left
        cases A with
        | none => simp [Value.ownBlock] at h4
        | some a => simp only [Value.ownBlock, Option.some.injEq] at h4; simp only [Ch.foot, Option.map_some, Option.some.injEq]; omega
      · right
        simp only [Value.ownBlock, Option.some.injEq] at h4; omega

/-! ### Slice expressions -/
theorem WpL.slLo [ht : SliceT P t el] [hs : SizeT P el 1] {V A : Option Addr} {n c o m : Nat} {k : IntKind} {i : Int} (hd : dOk N (some d) = true) (hx : e.eval x = .slice V n c) (hv : IsVw V n c A o) {lo : Operand} (hl : e.eval lo = .int k i) (hi : i = (m : Int)) (hm : m ≤ n)
    (h : ∀ V', IsVw V' (n - m) (c - m) A (o + m) → WpL P N ops K rest (e.set d (.slice V' (n - m) (c - m))) w) : WpL P N ops K (⟨some d, .slice t x (some lo) none none, ty, pos, after, none⟩ :: rest) e w := by
  subst hi
  have hle := hv.le
  refine WpL.det hd (Det.sliceLo hx hl (by omega) (by omega)) ?_
  have := h _ (hv.cut hm hv.le)
  simpa using this
theorem WpL.slHi [ht : SliceT P t el] {sz : Nat} [hs : SizeT P el sz] {V A : Option Addr} {n c o m : Nat} {k : IntKind} {i : Int} (hd : dOk N (some d) = true) (hx : e.eval x = .slice V n c) (hv : IsVw V n c A o) {hi : Operand} (hh : e.eval hi = .int k i) (hi' : i = (m : Int)) (hm : m ≤ n)
    (h : ∀ V', IsVw V' m c A o → WpL P N ops K rest (e.set d (.slice V' m c)) w) : WpL P N ops K (⟨some d, .slice t x none (some hi) none, ty, pos, after, none⟩ :: rest) e w := by
  subst hi'
  have hle := hv.le
  refine WpL.det hd (Det.sliceHi hx hh (by omega) (by omega)) ?_
  have := h V ⟨by omega, hv.max, hv.at_⟩
  simpa using this
theorem WpL.slLoHi [ht : SliceT P t el] [hs : SizeT P el 1] {V A : Option Addr} {n c o m m' : Nat} {k k' : IntKind} {i j : Int} (hd : dOk N (some d) = true) (hx : e.eval x = .slice V n c) (hv : IsVw V n c A o) {lo hi : Operand} (hl : e.eval lo = .int k i) (hi' : i = (m : Int)) (hh : e.eval hi = .int k' j) (hj : j = (m' : Int)) (hm : m ≤ m') (hm' : m' ≤ n)
    (h : ∀ V', IsVw V' (m' - m) (c - m) A (o + m) → WpL P N ops K rest (e.set d (.slice V' (m' - m) (c - m))) w) : WpL P N ops K (⟨some d, .slice t x (some lo) (some hi) none, ty, pos, after, none⟩ :: rest) e w := by
  subst hi' hj
  have hle := hv.le
  refine WpL.det hd (Det.sliceLoHi hx hl hh (by omega) (by omega) (by omega)) ?_
  have := h _ (hv.cut hm (by omega))
  simpa using this
theorem Det.ix [SliceT P t el] [SizeT P el 1] {I : World → Prop} {V A : Option Addr} {n c o m : Nat} {k : IntKind} {i : Int} (hx : e.eval x = .slice V n c) (hy : e.eval y = .int k i) (hv : IsVw V n c A o) (hi : i = (m : Int)) (hm : m < n) :
    Det P I (.indexAddr t x y) ty e (.pointer (some ((adr A).add (o + m)))) := by
  obtain ⟨a, rfl, ha⟩ := hv.addr hm
  rw [← ha]
  exact Det.indexS1 hx hy hi hm
theorem byte_lim {k : IntKind} (l : List UInt8) (i : Nat) (h : 256 ≤ lim k) : (l.getD i 0).toNat < lim k := Nat.lt_of_lt_of_le (UInt8.toNat_lt _) h
theorem Det.ix0 [SliceT P t el] [SizeT P el 1] {I : World → Prop} {V A : Option Addr} {n c m : Nat} {k : IntKind} {i : Int} (hx : e.eval x = .slice V n c) (hy : e.eval y = .int k i) (hv : IsVw V n c A 0) (hi : i = (m : Int)) (hm : m < n) :
    Det P I (.indexAddr t x y) ty e (.pointer (some ((adr A).add m))) := by
  have := Det.ix (P := P) (I := I) (t := t) (ty := ty) hx hy hv hi hm
  rwa [Nat.zero_add] at this
theorem Det.fieldAddr0 {I : World → Prop} {s : TypeId} {k off g : Nat} [h : FieldT P s k off] (hx : e.eval x = .pointer (some ⟨g, 0, none⟩)) : Det P I (.fieldAddr s x k) ty e (.pointer (some ⟨g, off, none⟩)) := by
  have := Det.fieldAddr (P := P) (I := I) (s := s) (k := k) (ty := ty) hx
  rwa [Nat.zero_add] at this

/-! ### Bytes as a text -/
theorem WpL.sr {t' : TypeId} [ht : SliceT P t el] [hs : StrT P t'] [hb : IntT P el .u8] {V : Option Addr} {l : List UInt8} {n c : Nat} (hS : St w0 M w L) (hd : dOk N (some d) = true) (hx : e.eval x = .slice V n c) (hr : RdsV L V n (bv l))
    (h : WpL P N ops K rest (e.set d (.string ⟨l.toArray⟩)) w) : WpL P N ops K (⟨some d, .convert t t' x, ty, pos, after, none⟩ :: rest) e w := by
  obtain ⟨h1, h2⟩ := hr w0 M w hS
  exact WpL.str hd hx h1 (by simpa using h2) h

/-! ### Contracts that say what lies below -/
theorem St.newSl {w' : World} {sz n : Nat} {xs : List Value} {v : Value} (hS : St w0 M w L) (hb : Below w.heap.size w w') (hv : Sl w' w.heap.size el sz v n xs) : ∃ A c, v = .slice A n c ∧ IsVw A n c A 0 ∧ St w0 M w' (.own A n c el sz xs :: L) := by
  obtain ⟨A, c, rfl, h1, h2, h3, _⟩ := hv.form
  refine ⟨A, c, rfl, IsVw.base h1 h2 fun h => (h3 h).2, hS.new hb (hv.mono (Nat.zero_le _)) rfl fun g hg => ?_⟩
  cases A with
  | none => simp [Ch.foot] at hg
  | some a =>
    simp only [Ch.foot, Option.map_some, Option.some.injEq] at hg
    rcases hv.own with h | ⟨g', h, h4, _⟩
    · simp [Value.ownBlock] at h
    · simp only [Value.ownBlock, Option.some.injEq] at h; omega
theorem Rd.isVw {A : Option Addr} {n c : Nat} {xs : List Value} (hr : Rd w A xs) (hl : xs.length = n) (h0 : n = 0 → c = 0 ∨ A ≠ none) (hn : n ≤ c) (hm : c ≤ maxLen) : IsVw A n c A 0 := by
  refine IsVw.base hn hm fun h => ?_
  subst h
  rcases hr with rfl | ⟨a, h, _⟩
  · simp only [List.length_nil] at hl
    rcases h0 hl.symm with h | h
    · exact h
    · exact absurd rfl h
  · cases h

/-- Nil is a slice of one's own. -/
theorem St.nil_ {sz : Nat} (hS : St w0 M w L) : St w0 M w (.own none 0 0 el sz [] :: L) :=
  hS.new (Below.refl _ _) ⟨by simp, .inl ⟨rfl, rfl⟩⟩ rfl fun g hg => by simp [Ch.foot] at hg
theorem IsVw.nil : IsVw none 0 0 none 0 := ⟨Nat.le_refl _, Nat.zero_le _, .inl rfl⟩

/-! ### The end of a call -/
theorem St.end_ {pre post : List Ch} {w' : World} (h : St w (feet pre) w' L) (ht : Take L post L1) : St w (feet pre) w' post := h.only ht
end
/-- A struct comes back in memory. -/
theorem doneQ_row {P : Program} {fn : Func} {R : Ending → World → Prop} {e : Env} {w w0 : World} {M : Nat → Prop} {L L1 : List Ch} {p : Tmp} {ty t : TypeId} {g n : Nat} {cs : List Value} [h : RowT P ty] [hs : SizeT P ty n] (hr : fn.results = #[.cell p ty])
    (hp : e p = .pointer (some ⟨g, 0, none⟩)) (hS : St w0 M w L) (hsel : Sel (.blk g t cs) L L1) (hn : cs.length = n) (hR : R (.returned (.agg cs.toArray)) w) : doneQ P fn R .ret e w :=
  doneQ_cell (t := t) hr hp (hS.is hsel) (by simpa using hn) hR
theorem doneQ_row2 {P : Program} {fn : Func} {R : Ending → World → Prop} {e : Env} {w w0 : World} {M : Nat → Prop} {L L1 : List Ch} {p u : Tmp} {ty t : TypeId} {g n : Nat} {cs : List Value} {v : Value} [h : RowT P ty] [hs : SizeT P ty n] (hr : fn.results = #[.cell p ty, .tmp u])
    (hp : e p = .pointer (some ⟨g, 0, none⟩)) (hv : e u = v) (hS : St w0 M w L) (hsel : Sel (.blk g t cs) L L1) (hn : cs.length = n) (hR : R (.returned (.tuple #[.agg cs.toArray, v])) w) : doneQ P fn R .ret e w :=
  doneQ_cell2 (t := t) hr hp hv (hS.is hsel) (by simpa using hn) hR

/-! ### Regions that draw their order -/
section
variable {P : Program} {n : Nat} {ops : Array Oper} {w : World} {Fin : (Tmp → Spec) → Prop} {rest : List Oper} {e : Env} {E : Open} {ty : TypeId} {pos : String} {after : Array Edge}
variable {w0 : World} {M : Nat → Prop} {L L1 : List Ch} {t el : TypeId} {d : Tmp} {v : Value} {x y : Operand}
theorem RgD.ld [Cell1 P t] {a : Addr} (hS : St w0 M w L) (hd : dOk n (some d) = true) (hk : (E.map (·.1)).contains d = false) (hE : sub ((⟨some d, .load t x, ty, pos, after, none⟩ : Oper).looksAt ops) E = [])
    (hx : e.eval x = .pointer (some a)) (hl : Look L a v) (h : RgD P n ops w Fin rest (e.set d v) E) : RgD P n ops w Fin (⟨some d, .load t x, ty, pos, after, none⟩ :: rest) e E :=
  RgD.det hd rfl hk hE (Det.load1 hx fun _ hw => hl.cell (hS.below hw)) h
theorem RgD.slLo [ht : SliceT P t el] [hs : SizeT P el 1] {V A : Option Addr} {m c o k' : Nat} {k : IntKind} {i : Int} (hd : dOk n (some d) = true) {lo : Operand} (hk : (E.map (·.1)).contains d = false) (hE : sub ((⟨some d, .slice t x (some lo) none none, ty, pos, after, none⟩ : Oper).looksAt ops) E = [])
    (hx : e.eval x = .slice V m c) (hv : IsVw V m c A o) (hl : e.eval lo = .int k i) (hi : i = (k' : Int)) (hm : k' ≤ m)
    (h : ∀ V', IsVw V' (m - k') (c - k') A (o + k') → RgD P n ops w Fin rest (e.set d (.slice V' (m - k') (c - k'))) E) : RgD P n ops w Fin (⟨some d, .slice t x (some lo) none none, ty, pos, after, none⟩ :: rest) e E := by
  subst hi
  have hle := hv.le
  refine RgD.det hd rfl hk hE (Det.sliceLo hx hl (by omega) (by omega)) ?_
  have := h _ (hv.cut hm hv.le)
  simpa using this
theorem RgD.slHi [ht : SliceT P t el] {sz : Nat} [hs : SizeT P el sz] {V A : Option Addr} {m c o k' : Nat} {k : IntKind} {i : Int} (hd : dOk n (some d) = true) {hi : Operand} (hk : (E.map (·.1)).contains d = false) (hE : sub ((⟨some d, .slice t x none (some hi) none, ty, pos, after, none⟩ : Oper).looksAt ops) E = [])
    (hx : e.eval x = .slice V m c) (hv : IsVw V m c A o) (hl : e.eval hi = .int k i) (hi' : i = (k' : Int)) (hm : k' ≤ m)
    (h : ∀ V', IsVw V' k' c A o → RgD P n ops w Fin rest (e.set d (.slice V' k' c)) E) : RgD P n ops w Fin (⟨some d, .slice t x none (some hi) none, ty, pos, after, none⟩ :: rest) e E := by
  subst hi'
  have hle := hv.le
  refine RgD.det hd rfl hk hE (Det.sliceHi hx hl (by omega) (by omega)) ?_
  have := h V ⟨by omega, hv.max, hv.at_⟩
  simpa using this
theorem RgD.sr {t' : TypeId} [ht : SliceT P t el] [hs : StrT P t'] [hb : IntT P el .u8] {V : Option Addr} {l : List UInt8} {m c : Nat} (hS : St w0 M w L) (hd : dOk n (some d) = true) (hk : (E.map (·.1)).contains d = false) (hE : sub ((⟨some d, .convert t t' x, ty, pos, after, none⟩ : Oper).looksAt ops) E = [])
    (hx : e.eval x = .slice V m c) (hr : RdsV L V m (bv l)) (h : RgD P n ops w Fin rest (e.set d (.string ⟨l.toArray⟩)) E) : RgD P n ops w Fin (⟨some d, .convert t t' x, ty, pos, after, none⟩ :: rest) e E := by
  obtain ⟨h1, h2⟩ := hr w0 M w hS
  exact RgD.str hd hk hE hx h1 (by simpa using h2) h
end
end Go.Fk
