/-
  A pool is made; pools of several dies.
-/
import Derived.Test.YtaapnfoimcccjaaBlkG
namespace Go.Fk
open Go.RowKit
theorem made2 (a b : Value) : ∀ n, (madeCells #[a, b] (n * 2)).toList = (List.replicate n [a, b]).flatten
  | 0 => by simp [madeCells]
  | n + 1 => by
    rw [List.replicate_succ', List.flatten_append, ← made2 a b n]
    simp only [madeCells, Array.toList_map, Array.toList_range]
    rw [show (n + 1) * 2 = n * 2 + 1 + 1 by omega, List.range_succ, List.range_succ, List.map_append, List.map_append, List.append_assoc]
    congr 1
    have e1 : n * 2 % 2 = 0 := by omega
    have e2 : (n * 2 + 1) % 2 = 1 := by omega
    simp [e1, e2]
theorem WpL.mk2 {P : Program} {N : Nat} {ops : Array Oper} {K : Env → World → Prop} {rest : List Oper} {e : Env} {w w0 : World} {M : Nat → Prop} {L : List Ch} {ty : TypeId} {pos : String} {after : Array Edge} {t el : TypeId} {d : Tmp} {x y : Operand}
    [ht : SliceT P t el] {bytes : Nat} {z a b : Value} [he : Elem P el 2 bytes z] {n : Nat} {kl kc : IntKind} {i j : Int} (hS : St w0 M w L) (hd : dOk N (some d) = true) (hx : e.eval x = .int kl i) (hi : i = (n : Int)) (hy : e.eval y = .int kc j) (hj : j = (n : Int)) (hz : z.cells = #[a, b])
    (hn : bytes * n ≤ 281474976710656) (hm : n ≤ 4611686018427387903)
    (h : ∀ A w', IsVw A n n A 0 → St w0 M w' (.own A n n el 2 ((List.replicate n [a, b]).flatten) :: L) → WpL P N ops K rest (e.set d (.slice A n n)) w') :
    WpL P N ops K (⟨some d, .makeSlice t x y, ty, pos, after, none⟩ :: rest) e w := by
  subst hi hj
  obtain ⟨i, hi, hzz, hsize, hby⟩ := he.get
  have hb' : (i.bytes : Int) * (n : Int) ≤ 281474976710656 := by
    have h : ((i.bytes * n : Nat) : Int) ≤ 281474976710656 := by rw [hby]; omega
    rwa [Int.natCast_mul] at h
  have hr := run_make (P := P) w t el i z ht.hu hi hzz kl kc n n (by omega) (Int.le_refl _) hb' (by omega)
  simp only [Int.toNat_natCast, hsize, hz] at hr
  refine WpL.run (w' := w.alloc (.cells (madeCells #[a, b] (n * 2)) el)) hd (by simp only [execOp, hx, hy, Sem.run_bind, hr]; rfl) (h (some ⟨w.heap.size, 0, none⟩) _ (IsVw.base (Nat.le_refl _) (by simp only [maxLen]; omega) (by simp)) ?_)
  refine hS.new ((Below.refl _ _).alloc (Nat.le_refl _) _) ⟨?_, .inr ⟨w.heap.size, n, _, rfl, Nat.zero_le _, heap_alloc_new w _, Nat.le_refl _, by simp only [maxLen]; omega, by rw [size_madeCells]; omega, ?_⟩⟩ rfl fun g hg => by simp [Ch.foot] at hg; omega
  · rw [← made2]; simp [madeCells]
  · rw [← made2]
    exact List.take_of_length_le (by simp [madeCells])
end Go.Fk
namespace Go.Proofs.Ytaapnfoimcccjaa
open Go.Fk Go.RowKit
attribute [local irreducible] Wp WpL Det thenQ blockQ WpG thenD blockG
instance : BuildT Try.prog 56 [.slice none 0 0] [(0, 1)] := ⟨by kernel_rfl⟩
theorem kv_append (a b : List Bk) : kv (a ++ b) = kv a ++ kv b := by simp [kv]
theorem kv_replicate : ∀ n, kv (List.replicate n ⟨0, 0⟩) = (List.replicate n [Value.int .i64 0, Value.int .u32 0]).flatten
  | 0 => rfl
  | n + 1 => by rw [List.replicate_succ, kv_cons, kv_replicate n, List.replicate_succ]; rfl
/-- A pool's dies: where each lies, and its blocks. -/
abbrev Dies := List (Option Addr × List Bk)
def rowsV (nb : Nat) (ps : Dies) : List Value := ps.map fun p => .slice p.1 nb nb
def rowsC (nb : Nat) (ps : Dies) : List Ch := ps.map fun p => .own p.1 nb nb 60 2 (kv p.2)
structure PoolOk (D : Option Addr) (nd cd nb : Nat) (ps : Dies) : Prop where
  len : ps.length = nd
  vw : IsVw D nd cd D 0
  rows : ∀ p ∈ ps, IsVw p.1 nb nb p.1 0 ∧ p.2.length = nb ∧ Fit p.2
abbrev poolL (g : Nat) (D : Option Addr) (nd cd nb : Nat) (ps : Dies) (L : List Ch) : List Ch := headsC g D nd cd (rowsV nb ps) (rowsC nb ps ++ L)
def newBlocks (nb : Nat) : List Bk := List.replicate nb ⟨1, 0⟩
theorem newBlocks_fit (nb : Nat) : Fit (newBlocks nb) := fun b hb => by rw [List.eq_of_mem_replicate hb]; decide
section
variable {w w0 : World} {M : Nat → Prop} {L : List Ch}
set_option maxHeartbeats 1000000 in
theorem new_any {dies nb : Int} (hS : St w0 M w L) : Calls Try.prog 10 #[.int .i64 dies, .int .i64 nb] w fun x w' =>
    (¬ (1 ≤ dies ∧ dies ≤ 8 ∧ 1 ≤ nb ∧ nb ≤ 64) ∧ x = .returned (.tuple #[.pointer none, .int .i64 1]) ∧ St w0 M w' L) ∨
    ((1 ≤ dies ∧ dies ≤ 8 ∧ 1 ≤ nb ∧ nb ≤ 64) ∧ ∃ g D cd ps, x = .returned (.tuple #[.pointer (some ⟨g, 0, none⟩), .int .i64 0]) ∧ PoolOk D dies.toNat cd nb.toNat ps ∧ ps.map (·.2) = List.replicate dies.toNat (newBlocks nb.toNat) ∧ St w0 M w' (poolL g D dies.toNat cd nb.toNat ps L)) := by
  (refine calls_of (P := Try.prog) _ Try.func10 rfl Try.ntmps10 (Nat.le_of_ble_eq_true rfl) ?_; dsimp only [argE, Nat.reduceAdd])
  by_cases h1 : 1 ≤ dies
  rotate_left
  · (refine Reach.walk ?_; (repeat (first | ((with_reducible refine AllSt.mk ?_); (try clear hS); intro w hS) | ((with_reducible refine AllVw.mk ?_); intro V hV))))
    (with_reducible apply doneQ_two Try.results10); (· exact slotFound); (· exact slotFound)
    exact .inl ⟨fun h => h1 h.1, rfl, hS⟩
  by_cases h2 : dies ≤ 8
  rotate_left
  · (refine Reach.walk ?_; (repeat (first | ((with_reducible refine AllSt.mk ?_); (try clear hS); intro w hS) | ((with_reducible refine AllVw.mk ?_); intro V hV))))
    (with_reducible apply doneQ_two Try.results10); (· exact slotFound); (· exact slotFound)
    exact .inl ⟨fun h => h2 h.2.1, rfl, hS⟩
  by_cases h3 : 1 ≤ nb
  rotate_left
  · (refine Reach.walk ?_; (repeat (first | ((with_reducible refine AllSt.mk ?_); (try clear hS); intro w hS) | ((with_reducible refine AllVw.mk ?_); intro V hV))))
    (with_reducible apply doneQ_two Try.results10); (· exact slotFound); (· exact slotFound)
    exact .inl ⟨fun h => h3 h.2.2.1, rfl, hS⟩
  by_cases h4 : nb ≤ 64
  rotate_left
  · (refine Reach.walk ?_; (repeat (first | ((with_reducible refine AllSt.mk ?_); (try clear hS); intro w hS) | ((with_reducible refine AllVw.mk ?_); intro V hV))))
    (with_reducible apply doneQ_two Try.results10); (· exact slotFound); (· exact slotFound)
    exact .inl ⟨fun h => h4 h.2.2.2, rfl, hS⟩
  obtain ⟨nd, rfl⟩ := Int.eq_ofNat_of_zero_le (show 0 ≤ dies by omega)
  obtain ⟨nb, rfl⟩ := Int.eq_ofNat_of_zero_le (show 0 ≤ nb by omega)
  rw [Int.toNat_natCast, Int.toNat_natCast]
  (refine Reach.walk ?_; (repeat (first | ((with_reducible refine AllSt.mk ?_); (try clear hS); intro w hS) | ((with_reducible refine AllVw.mk ?_); intro V hV))))
  refine WpL.det rfl (Det.build (cells := [.slice none 0 0]) PVals.found rfl) ?_
  (refine Reach.walk ?_; (repeat (first | ((with_reducible refine AllSt.mk ?_); (try clear hS); intro w hS) | ((with_reducible refine AllVw.mk ?_); intro V hV))))
  ((with_reducible apply WpL.bx); (· assumption); (· exact rfl); (· exact Env.found); (· exact rfl); clear hS)
  intro g w hS
  (refine Reach.walk ?_; (repeat (first | ((with_reducible refine AllSt.mk ?_); (try clear hS); intro w hS) | ((with_reducible refine AllVw.mk ?_); intro V hV))))
  replace hS : St w0 M w (.own none 0 0 57 1 (rowsV nb []) :: .blk g 56 [.slice none 0 0] :: L) := hS.nil_
  apply Wp.loopUp nd (fun k e w' => ∃ D cd ps, PoolOk D k cd nb ps ∧ ps.map (·.2) = List.replicate k (newBlocks nb) ∧ St w0 M w' (poolL g D k cd nb ps L) ∧
      e.Has [(26, .int .i64 (k : Nat)), (25, .int .i64 (nd : Nat)), (6, .pointer (some ⟨g, 0, none⟩)), (1, .int .i64 (nb : Nat))]) (Nat.zero_le _)
    ⟨none, 0, [], ⟨rfl, IsVw.nil, fun p hp => (by cases hp)⟩, rfl, hS.swap1, rfl, rfl, rfl, rfl, trivial⟩
  clear hS
  rintro k e w hk ⟨D, cd, ps, hok, hps, hS, he⟩
  obtain ⟨e0, rfl⟩ := he.eq
  clear he
  dsimp only [Env.sets]
  by_cases hlt : k < nd
  rotate_left
  · obtain rfl : k = nd := by omega
    (refine Reach.walk ?_; (repeat (first | ((with_reducible refine AllSt.mk ?_); (try clear hS); intro w hS) | ((with_reducible refine AllVw.mk ?_); intro V hV))))
    (with_reducible apply doneQ_two Try.results10); (· exact slotFound); (· exact slotFound)
    exact .inr ⟨⟨by omega, by omega, by omega, by omega⟩, g, D, cd, ps, rfl, hok, hps, hS⟩
  (refine Reach.walk ?_; (repeat (first | ((with_reducible refine AllSt.mk ?_); (try clear hS); intro w hS) | ((with_reducible refine AllVw.mk ?_); intro V hV))))
  refine WpL.mk2 (a := .int .i64 0) (b := .int .u32 0) (n := nb) hS rfl rfl rfl rfl rfl rfl (by omega) (by omega) ?_
  clear hS
  intro A w hA hS
  rw [← kv_replicate] at hS
  (refine Reach.walk ?_; (repeat (first | ((with_reducible refine AllSt.mk ?_); (try clear hS); intro w hS) | ((with_reducible refine AllVw.mk ?_); intro V hV))))
  apply Wp.loopUp nb (fun i e w' => St w0 M w' (.own A nb nb 60 2 (kv (List.replicate i ⟨1, 0⟩ ++ List.replicate (nb - i) (⟨0, 0⟩ : Bk))) :: poolL g D k cd nb ps L) ∧
      e.Has [(32, .int .i64 (i : Nat)), (31, .int .i64 (nb : Nat)), (7, .slice A nb nb), (26, .int .i64 (k : Nat)), (25, .int .i64 (nd : Nat)), (6, .pointer (some ⟨g, 0, none⟩)), (1, .int .i64 (nb : Nat))]) (Nat.zero_le _)
    ⟨hS, rfl, rfl, rfl, rfl, rfl, rfl, rfl, trivial⟩
  clear hS
  rintro i e w hi ⟨hS, he⟩
  obtain ⟨e0, rfl⟩ := he.eq
  clear he
  dsimp only [Env.sets]
  by_cases hli : i < nb
  · have hlen : (List.replicate i (⟨1, 0⟩ : Bk) ++ List.replicate (nb - i) (⟨0, 0⟩ : Bk)).length = nb := by simp; omega
    have hset : (List.replicate i (⟨1, 0⟩ : Bk) ++ List.replicate (nb - i) (⟨0, 0⟩ : Bk)).set i ⟨1, ((List.replicate i (⟨1, 0⟩ : Bk) ++ List.replicate (nb - i) (⟨0, 0⟩ : Bk)).getD i ⟨0, 0⟩).er⟩ = List.replicate (i + 1) ⟨1, 0⟩ ++ List.replicate (nb - (i + 1)) (⟨0, 0⟩ : Bk) := by
      obtain ⟨q, hq⟩ : ∃ q, nb - i = q + 1 := ⟨nb - i - 1, by omega⟩
      rw [hq, show nb - (i + 1) = q by omega, List.replicate_succ, List.set_append_right _ _ (by simp)]
      simp [List.replicate_succ', List.getD_eq_getElem?_getD]
    have hup := kv_set_st' 1 (l := List.replicate i (⟨1, 0⟩ : Bk) ++ List.replicate (nb - i) (⟨0, 0⟩ : Bk)) (i := i) (by omega)
    rw [hset] at hup
    have hup2 : Upd (.own A nb nb 60 2 (kv (List.replicate i ⟨1, 0⟩ ++ List.replicate (nb - i) (⟨0, 0⟩ : Bk))) :: poolL g D k cd nb ps L) ((adr A).add (0 + i * 2 + 0)) (.int .i64 1) (.own A nb nb 60 2 (kv (List.replicate (i + 1) ⟨1, 0⟩ ++ List.replicate (nb - (i + 1)) (⟨0, 0⟩ : Bk))) :: poolL g D k cd nb ps L) :=
      Upd.own (by rw [kv_length]; omega) hup
    clear hup hset hlen
    (refine Reach.walk ?_; (repeat (first | ((with_reducible refine AllSt.mk ?_); (try clear hS); intro w hS) | ((with_reducible refine AllVw.mk ?_); intro V hV))))
    exact ⟨hli, hS, int_eq (by omega), rfl, rfl, rfl, rfl, rfl, rfl, trivial⟩
  obtain rfl : i = nb := by omega
  rw [Nat.sub_self, List.replicate_zero, List.append_nil] at hS
  (refine Reach.walk ?_; (repeat (first | ((with_reducible refine AllSt.mk ?_); (try clear hS); intro w hS) | ((with_reducible refine AllVw.mk ?_); intro V hV))))
  ((with_reducible apply WpL.bs); (· assumption); (· exact rfl); (· exact BVals.found); (· exact oneAll_spec rfl); (· exact rfl); (· decide); (· exact listFound); clear hS)
  intro B w hB hS
  (refine Reach.walk ?_; (repeat (first | ((with_reducible refine AllSt.mk ?_); (try clear hS); intro w hS) | ((with_reducible refine AllVw.mk ?_); intro V hV))))
  ((with_reducible apply WpL.app); (· assumption); (· exact rfl); (· exact rfl); (· exact rfl); (· exact Sel.found); (· simp only [Nat.mul_one]; exact RdsV.found); (· exact onesFound); (· exact catFound); (· omega); (· omega); clear hS)
  intro D2 cd2 w hD2 hS
  (refine Reach.walk ?_; (repeat (first | ((with_reducible refine AllSt.mk ?_); (try clear hS); intro w hS) | ((with_reducible refine AllVw.mk ?_); intro V hV))))
  (replace hS := (hS.take (pre := [.blk g _ _, .own D2 _ _ _ _ _, .own A _ _ _ _ _]) Take.found); (try simp only [List.cons_append, List.nil_append] at hS))
  have hS2 := hS.sub (.cons_cons _ (.cons_cons _ (.cons_cons _ (List.sublist_cons_self _ _))))
  have e1 : rowsV i (ps ++ [(A, newBlocks i)]) = rowsV i ps ++ [Value.slice A i i] := by simp [rowsV]
  have e2 : rowsC i (ps ++ [(A, newBlocks i)]) = rowsC i ps ++ [.own A i i 60 2 (kv (newBlocks i))] := by simp [rowsC]
  refine ⟨hlt, D2, cd2, ps ++ [(A, newBlocks i)], ⟨by rw [List.length_append, hok.len]; rfl, hD2, fun p hp => ?_⟩, by rw [List.map_append, hps, List.replicate_succ']; rfl, ?_, int_eq (by omega), rfl, rfl, rfl, trivial⟩
  · rcases List.mem_append.1 hp with hp | hp
    · exact hok.rows p hp
    · rw [List.mem_singleton.1 hp]
      exact ⟨hA, List.length_replicate, newBlocks_fit i⟩
  · show St w0 M w (headsC g D2 (k + 1) cd2 (rowsV i (ps ++ [(A, newBlocks i)])) (rowsC i (ps ++ [(A, newBlocks i)]) ++ L))
    rw [e1, e2]
    refine hS2.perm (List.Perm.cons _ (List.Perm.cons _ ?_))
    rw [List.append_assoc]
    exact List.perm_middle.symm
end
end Go.Proofs.Ytaapnfoimcccjaa
