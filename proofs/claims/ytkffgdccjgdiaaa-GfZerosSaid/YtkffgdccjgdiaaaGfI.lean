/-
  A field's state; its sizes; what is an element; sums.
-/
import Derived.Test.YtkffgdccjgdiaaaGfG
import Derived.Test.YtkffgdccjgdiaaaGfH
namespace Go.Fk
open Go.RowKit
section
variable {P : Program} {I : World → Prop} {ty : TypeId} {e : Env} {x y : Operand} {t el : TypeId}
theorem Det.buildA {n : Nat} {zero cells : List Value} [ha : ArrT P t n el] [hs : SizeT P el 1] (hz : (P.info? t).map (·.zero) = some (some (.agg zero.toArray))) {r : List (Nat × Operand)} {s : List (Nat × Value)} (hv : PVals e r s)
    (hf : Instr.fill (fun i => some (i * 1, 1)) zero.toArray s = some cells.toArray) : Det P I (.build t r.toArray) ty e (.agg cells.toArray) := fun _ _ _ _ w _ => by
  obtain ⟨i, hi, hzz⟩ := Option.map_eq_some_iff.1 hz
  have hmap : (r.toArray.map fun (i, x) => (i, e.eval x)) = s.toArray := by rw [List.map_toArray]; exact congrArg List.toArray hv.map
  have hsz := hs.run (P := P) w
  simp only [execOp, Instr.build, hmap, Sem.run_bind, zeroValue, typeInfo, run_program, hi, hzz, Sem.run_pure, Result.andThen_ok, run_underlying ha.hu, hsz, hf, Value.cells]
theorem Det.indexV {n m : Nat} {cs : List Value} {v : Value} {k : IntKind} [ha : ArrT P t n el] [hs : SizeT P el 1] [hc : Cell1 P el] (hx : e.eval x = .agg cs.toArray) (hy : e.eval y = .int k (m : Int)) (hm : m < n) (hv : cs[m]? = some v) :
    Det P I (.index t x y) ty e v := fun _ _ _ _ w _ => by
  obtain ⟨d, hu, hd⟩ := hc.hu
  have hsz := hs.run (P := P) w
  have hlt : ((m : Int) < (n : Int)) := by omega
  simp [execOp, Instr.index, hx, hy, asIntOf, run_underlying ha.hu, hlt, hsz, part, isAgg, run_underlying hu]
  cases d <;> simp_all
end
end Go.Fk
namespace Go.Proofs.Ytkffgdccjgdiaaa
open Go.Fk Go.RowKit
attribute [local irreducible] Wp WpL Det thenQ blockQ
instance : PtrT Try.prog 23 := ⟨_, Try.underlying23⟩
instance : RowT Try.prog 67 := ⟨_, Try.underlying67, rfl⟩
instance : SizeT Try.prog 67 6 := ⟨by kernel_rfl⟩
instance : FieldT Try.prog 67 0 0 := ⟨by kernel_rfl⟩
instance : FieldT Try.prog 67 1 1 := ⟨by kernel_rfl⟩
instance : FieldT Try.prog 67 2 4 := ⟨by kernel_rfl⟩
instance : FieldT Try.prog 67 3 5 := ⟨by kernel_rfl⟩
instance : BuildT Try.prog 67 [.int .i64 0, .int .u32 0, .int .i32 0, .int .u32 0, .slice none 0 0, .slice none 0 0] [(0, 1), (1, 3), (4, 1), (5, 1)] := ⟨by kernel_rfl⟩
instance : ArrT Try.prog 75 14 3 := ⟨Try.underlying75⟩
instance : IntT Try.prog 27 .i64 := ⟨Try.underlying27⟩

/-- A field's state: whether the tables are made; where they stand. -/
structure FS where
  d : Nat
  A1 : Option Addr
  n1 : Nat
  c1 : Nat
  A2 : Option Addr
  n2 : Nat
  c2 : Nat
  P : List Int
  Lg : List Int
def FS.blk (F : FS) (g m : Nat) : Ch := .blk g 67 (fieldC m F.d F.A1 F.n1 F.c1 F.A2 F.n2 F.c2)
def FS.p (F : FS) : Ch := .own F.A1 F.n1 F.c1 3 1 (zv F.P)
def FS.l (F : FS) : Ch := .own F.A2 F.n2 F.c2 3 1 (zv F.Lg)
def FS.zero : FS := ⟨0, none, 0, 0, none, 0, 0, [], []⟩
def tabP (m : Nat) : List Int := (List.range (2 * Gf.sz m)).map fun k => (Gf.E m k : Int)
def tabL (m : Nat) : List Int := (List.range (Gf.sz m + 1)).map fun a => if a = 0 then 0 else (Gf.lg m a : Int)
structure FS.Made (F : FS) (m : Nat) : Prop where
  d : F.d = 1
  n1 : F.n1 = 2 * Gf.sz m
  n2 : F.n2 = Gf.sz m + 1
  v1 : IsVw F.A1 F.n1 F.c1 F.A1 0
  v2 : IsVw F.A2 F.n2 F.c2 F.A2 0
  P : F.P = tabP m
  Lg : F.Lg = tabL m
def FS.Ok (F : FS) (m : Nat) : Prop := F = .zero ∨ F.Made m
theorem tabP_length (m : Nat) : (tabP m).length = 2 * Gf.sz m := by simp [tabP]
theorem tabL_length (m : Nat) : (tabL m).length = Gf.sz m + 1 := by simp [tabL]
theorem tabP_get {m k : Nat} (h : k < 2 * Gf.sz m) : (tabP m).getD k 0 = (Gf.E m k : Int) := by simp [tabP, List.getD_eq_getElem?_getD, h]
theorem tabL_get {m a : Nat} (h0 : a ≠ 0) (h : a < Gf.sz m + 1) : (tabL m).getD a 0 = (Gf.lg m a : Int) := by simp [tabL, List.getD_eq_getElem?_getD, h, h0]

/-- A number as an element. -/
def inE (m : Nat) (z : Int) : Nat := if z < 0 ∨ (Gf.sz m : Int) < z then 0 else z.toNat
theorem inE_lt {m : Nat} (h : Gf.Is m) (z : Int) : inE m z < 2 ^ m := by
  have := Gf.sz_add h
  unfold inE
  split
  · omega
  · omega
theorem inE_nat {m a : Nat} (h : Gf.Is m) (ha : a < 2 ^ m) : inE m (a : Int) = a := by
  have := Gf.sz_add h
  unfold inE
  rw [if_neg (by omega)]
  rfl

section
variable {w w0 : World} {M : Nat → Prop} {L : List Ch} {m : Nat}
theorem shl_sz (h : Gf.Is m) : 1 <<< m = 2 ^ m ∧ 1 <<< m = Gf.sz m + 1 ∧ 1 <<< m ≤ 8192 := by
  have h1 := Gf.sz_add h
  have h2 := Gf.sz_le h
  have e : 1 <<< m = 2 ^ m := by rw [Nat.shiftLeft_eq, Nat.one_mul]
  omega
theorem size_any (h : Gf.Is m) {g : Nat} (hl : Look L ⟨g, 0, none⟩ (.int .i64 (m : Int))) (hS : St w0 M w L) :
    Calls Try.prog 21 #[.pointer (some ⟨g, 0, none⟩)] w fun x w' => x = .returned (.int .i64 (Gf.sz m : Int)) ∧ w = w' := by
  obtain ⟨e1, e2, e3⟩ := shl_sz h
  have hlo := h.lo
  have hhi := h.hi
  (refine calls_of (P := Try.prog) _ Try.func21 rfl Try.ntmps21 (Nat.le_of_ble_eq_true rfl) ?_; dsimp only [argE, Nat.reduceAdd])
  (refine Reach.walk ?_; (repeat (first | ((with_reducible refine AllSt.mk ?_); (try clear hS); intro w hS) | ((with_reducible refine AllVw.mk ?_); intro V hV))))
  (with_reducible apply doneQ_one Try.results21); (· exact slotFound)
  exact ⟨by rw [show Gf.sz m = 1 <<< m - 1 by omega], rfl⟩
theorem fieldM_any {g : Nat} (hl : Look L ⟨g, 0, none⟩ (.int .i64 (m : Int))) (hS : St w0 M w L) :
    Calls Try.prog 29 #[.pointer (some ⟨g, 0, none⟩)] w fun x w' => x = .returned (.int .i64 (m : Int)) ∧ w = w' := by
  (refine calls_of (P := Try.prog) _ Try.func29 rfl Try.ntmps29 (Nat.le_of_ble_eq_true rfl) ?_; dsimp only [argE, Nat.reduceAdd])
  (refine Reach.walk ?_; (repeat (first | ((with_reducible refine AllSt.mk ?_); (try clear hS); intro w hS) | ((with_reducible refine AllVw.mk ?_); intro V hV))))
  (with_reducible apply doneQ_one Try.results29); (· exact slotFound)
  exact ⟨rfl, rfl⟩
theorem in_any (h : Gf.Is m) {g : Nat} {z : Int} (hl : Look L ⟨g, 0, none⟩ (.int .i64 (m : Int))) (hS : St w0 M w L) :
    Calls Try.prog 45 #[.pointer (some ⟨g, 0, none⟩), .int .i64 z] w fun x w' => x = .returned (.int .i64 (inE m z : Int)) ∧ w = w' := by
  (refine calls_of (P := Try.prog) _ Try.func45 rfl Try.ntmps45 (Nat.le_of_ble_eq_true rfl) ?_; dsimp only [argE, Nat.reduceAdd])
  by_cases h0 : z < 0
  · (refine Reach.walk ?_; (repeat (first | ((with_reducible refine AllSt.mk ?_); (try clear hS); intro w hS) | ((with_reducible refine AllVw.mk ?_); intro V hV))))
    (with_reducible apply doneQ_one Try.results45); (· exact slotFound)
    exact ⟨by rw [inE, if_pos (.inl h0)]; rfl, rfl⟩
  · (refine Reach.walk ?_; (repeat (first | ((with_reducible refine AllSt.mk ?_); (try clear hS); intro w hS) | ((with_reducible refine AllVw.mk ?_); intro V hV))))
    (with_reducible apply WpL.call); (· exact rfl); (· exact Try.call21); (· exact Vals.found)
    refine (size_any h hl hS).mono ?_
    rintro x w1 ⟨rfl, rfl⟩
    refine ⟨_, rfl, ?_⟩
    by_cases h1 : (Gf.sz m : Int) < z
    · (refine Reach.walk ?_; (repeat (first | ((with_reducible refine AllSt.mk ?_); (try clear hS); intro w hS) | ((with_reducible refine AllVw.mk ?_); intro V hV))))
      (with_reducible apply doneQ_one Try.results45); (· exact slotFound)
      exact ⟨by rw [inE, if_pos (.inr h1)]; rfl, rfl⟩
    · (refine Reach.walk ?_; (repeat (first | ((with_reducible refine AllSt.mk ?_); (try clear hS); intro w hS) | ((with_reducible refine AllVw.mk ?_); intro V hV))))
      (with_reducible apply doneQ_one Try.results45); (· exact slotFound)
      exact ⟨by rw [inE, if_neg (by omega), show ((z.toNat : Nat) : Int) = z by omega], rfl⟩
theorem add_any (h : Gf.Is m) {g : Nat} {a b : Int} (hl : Look L ⟨g, 0, none⟩ (.int .i64 (m : Int))) (hS : St w0 M w L) :
    Calls Try.prog 24 #[.pointer (some ⟨g, 0, none⟩), .int .i64 a, .int .i64 b] w fun x w' => x = .returned (.int .i64 ((inE m a ^^^ inE m b : Nat) : Int)) ∧ w = w' := by
  have ha := inE_lt h a
  have hb := inE_lt h b
  have hs := Gf.sz_add h
  have hs2 := Gf.sz_le h
  (refine calls_of (P := Try.prog) _ Try.func24 rfl Try.ntmps24 (Nat.le_of_ble_eq_true rfl) ?_; dsimp only [argE, Nat.reduceAdd])
  (refine Reach.walk ?_; (repeat (first | ((with_reducible refine AllSt.mk ?_); (try clear hS); intro w hS) | ((with_reducible refine AllVw.mk ?_); intro V hV))))
  (with_reducible apply WpL.call); (· exact rfl); (· exact Try.call45); (· exact Vals.found)
  refine (in_any h hl hS).mono ?_
  rintro x w1 ⟨rfl, rfl⟩
  refine ⟨_, rfl, ?_⟩
  (refine Reach.walk ?_; (repeat (first | ((with_reducible refine AllSt.mk ?_); (try clear hS); intro w hS) | ((with_reducible refine AllVw.mk ?_); intro V hV))))
  (with_reducible apply WpL.call); (· exact rfl); (· exact Try.call45); (· exact Vals.found)
  refine (in_any h hl hS).mono ?_
  rintro x w1 ⟨rfl, rfl⟩
  refine ⟨_, rfl, ?_⟩
  (refine Reach.walk ?_; (repeat (first | ((with_reducible refine AllSt.mk ?_); (try clear hS); intro w hS) | ((with_reducible refine AllVw.mk ?_); intro V hV))))
  (with_reducible apply doneQ_one Try.results24); (· exact slotFound)
  exact ⟨rfl, rfl⟩
theorem polynomial_any (h : Gf.Is m) (w : World) :
    Calls Try.prog 54 #[.int .i64 (m : Int)] w fun x w' => x = .returned (.int .i64 (Gf.poly m : Int)) ∧ w = w' := by
  have h1 := h.lo
  have h2 := h.hi
  (refine calls_of (P := Try.prog) _ Try.func54 rfl Try.ntmps54 (Nat.le_of_ble_eq_true rfl) ?_; dsimp only [argE, Nat.reduceAdd])
  (refine Reach.walk ?_; (repeat (first | ((with_reducible refine AllSt.mk ?_); (try clear hS); intro w hS) | ((with_reducible refine AllVw.mk ?_); intro V hV))))
  refine WpL.det rfl (Det.buildA (cells := zv [0, 0, 7, 11, 19, 37, 67, 137, 285, 529, 1033, 2053, 4179, 8219]) (zero := List.replicate 14 (.int .i64 0)) (by kernel_rfl) PVals.found (by kernel_rfl)) ?_
  (refine Reach.walk ?_; (repeat (first | ((with_reducible refine AllSt.mk ?_); (try clear hS); intro w hS) | ((with_reducible refine AllVw.mk ?_); intro V hV))))
  refine WpL.det rfl (Det.indexV (m := m) (v := .int .i64 (Gf.poly m : Int)) rfl rfl (by omega) ?_) ?_
  · have hm : m = 2 ∨ m = 3 ∨ m = 4 ∨ m = 5 ∨ m = 6 ∨ m = 7 ∨ m = 8 ∨ m = 9 ∨ m = 10 ∨ m = 11 ∨ m = 12 ∨ m = 13 := by omega
    rcases hm with rfl | rfl | rfl | rfl | rfl | rfl | rfl | rfl | rfl | rfl | rfl | rfl <;> rfl
  (refine Reach.walk ?_; (repeat (first | ((with_reducible refine AllSt.mk ?_); (try clear hS); intro w hS) | ((with_reducible refine AllVw.mk ?_); intro V hV))))
  (with_reducible apply doneQ_one Try.results54); (· exact slotFound)
  exact ⟨rfl, rfl⟩
theorem new_any {z : Int} (hS : St w0 M w L) : Calls Try.prog 28 #[.int .i64 z] w fun x w' =>
    ((2 ≤ z ∧ z ≤ 13) ∧ ∃ g, x = .returned (.tuple #[.pointer (some ⟨g, 0, none⟩), .int .i64 0]) ∧ St w0 M w' (FS.zero.blk g z.toNat :: FS.zero.p :: FS.zero.l :: L)) ∨
    (¬ (2 ≤ z ∧ z ≤ 13) ∧ x = .returned (.tuple #[.pointer none, .int .i64 1]) ∧ St w0 M w' L) := by
  (refine calls_of (P := Try.prog) _ Try.func28 rfl Try.ntmps28 (Nat.le_of_ble_eq_true rfl) ?_; dsimp only [argE, Nat.reduceAdd])
  by_cases h1 : 2 ≤ z
  · by_cases h2 : z ≤ 13
    · obtain ⟨m, rfl⟩ := Int.eq_ofNat_of_zero_le (show 0 ≤ z by omega)
      (refine Reach.walk ?_; (repeat (first | ((with_reducible refine AllSt.mk ?_); (try clear hS); intro w hS) | ((with_reducible refine AllVw.mk ?_); intro V hV))))
      refine WpL.det rfl (Det.build (cells := fieldC m 0 none 0 0 none 0 0) PVals.found rfl) ?_
      (refine Reach.walk ?_; (repeat (first | ((with_reducible refine AllSt.mk ?_); (try clear hS); intro w hS) | ((with_reducible refine AllVw.mk ?_); intro V hV))))
      ((with_reducible apply WpL.bx); (· assumption); (· exact rfl); (· exact Env.found); (· exact rfl); clear hS)
      intro g w hS
      (refine Reach.walk ?_; (repeat (first | ((with_reducible refine AllSt.mk ?_); (try clear hS); intro w hS) | ((with_reducible refine AllVw.mk ?_); intro V hV))))
      (with_reducible apply doneQ_two Try.results28); (· exact slotFound); (· exact slotFound)
      refine .inl ⟨⟨h1, h2⟩, g, rfl, ?_⟩
      have h3 := (hS.nil_ (el := 3) (sz := 1)).nil_ (el := 3) (sz := 1)
      exact h3.perm ((List.Perm.swap _ _ _).trans (List.Perm.cons _ (List.Perm.swap _ _ _)) |>.trans (List.Perm.swap _ _ _)) 
    · (refine Reach.walk ?_; (repeat (first | ((with_reducible refine AllSt.mk ?_); (try clear hS); intro w hS) | ((with_reducible refine AllVw.mk ?_); intro V hV))))
      (with_reducible apply doneQ_two Try.results28); (· exact slotFound); (· exact slotFound)
      exact .inr ⟨fun h => h2 h.2, rfl, hS⟩
  · (refine Reach.walk ?_; (repeat (first | ((with_reducible refine AllSt.mk ?_); (try clear hS); intro w hS) | ((with_reducible refine AllVw.mk ?_); intro V hV))))
    (with_reducible apply doneQ_two Try.results28); (· exact slotFound); (· exact slotFound)
    exact .inr ⟨fun h => h1 h.1, rfl, hS⟩
end
end Go.Proofs.Ytkffgdccjgdiaaa
