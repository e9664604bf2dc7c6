/-
  Parts of a proof: A pool is made; pools of several dies; A pool of several dies: its calls, die by die; Regions that draw their order and in which one operation changes memory and yields a value: what it makes of memory hangs on that value. In a round or beside deferred calls. It holds for any program; conditions stand at each theorem. (The proofs are those of the text Rgk, turned to an operation that yields.); A pool's bytes; The pool of bytes.
-/
import Derived.Test.YtaapnfoimcccjaaLawBlocksPlayM6
set_option linter.unusedVariables false
namespace Go.Fk
open Go.RowKit
theorem made2 (a b : Value) : ∀ n, (madeCells #[a, b] (n * 2)).toList = (List.replicate n [a, b]).flatten
  | 0 => by simp [madeCells]
  | n + 1 => by
    rw [List.replicate_succ', List.flatten_append, ← made2 a b n]
    simp only [madeCells, Array.toList_map, Array.toList_range]
    rw [show (n + 1) * 2 = n * 2 + 1 + 1 by omega, List.range_succ, List.range_succ, List.map_append, List.map_append, List.append_assoc]
    congr 1
    have e1 : n * 2 % 2 = 0 := by omega
    have e2 : (n * 2 + 1) % 2 = 1 := by omega
    simp [e1, e2]
theorem WpL.mk2 {P : Program} {N : Nat} {ops : Array Oper} {K : Env → World → Prop} {rest : List Oper} {e : Env} {w w0 : World} {M : Nat → Prop} {L : List Ch} {ty : TypeId} {pos : String} {after : Array Edge} {t el : TypeId} {d : Tmp} {x y : Operand}
    [ht : SliceT P t el] {bytes : Nat} {z a b : Value} [he : Elem P el 2 bytes z] {n : Nat} {kl kc : IntKind} {i j : Int} (hS : St w0 M w L) (hd : dOk N (some d) = true) (hx : e.eval x = .int kl i) (hi : i = (n : Int)) (hy : e.eval y = .int kc j) (hj : j = (n : Int)) (hz : z.cells = #[a, b])
    (hn : bytes * n ≤ 281474976710656) (hm : n ≤ 4611686018427387903)
    (h : ∀ A w', IsVw A n n A 0 → St w0 M w' (.own A n n el 2 ((List.replicate n [a, b]).flatten) :: L) → WpL P N ops K rest (e.set d (.slice A n n)) w') :
    WpL P N ops K (⟨some d, .makeSlice t x y, ty, pos, after, none⟩ :: rest) e w := by
  subst hi hj
  obtain ⟨i, hi, hzz, hsize, hby⟩ := he.get
  have hb' : (i.bytes : Int) * (n : Int) ≤ 281474976710656 := by
    have h : ((i.bytes * n : Nat) : Int) ≤ 281474976710656 := by rw [hby]; omega
    rwa [Int.natCast_mul] at h
  have hr := run_make (P := P) w t el i z ht.hu hi hzz kl kc n n (by omega) (Int.le_refl _) hb' (by omega)
  simp only [Int.toNat_natCast, hsize, hz] at hr
  refine WpL.run (w' := w.alloc (.cells (madeCells #[a, b] (n * 2)) el)) hd (by simp only [execOp, hx, hy, Sem.run_bind, hr]; rfl) (h (some ⟨w.heap.size, 0, none⟩) _ (IsVw.base (Nat.le_refl _) (by simp only [maxLen]; omega) (by simp)) ?_)
  refine hS.new ((Below.refl _ _).alloc (Nat.le_refl _) _) ⟨?_, .inr ⟨w.heap.size, n, _, rfl, Nat.zero_le _, heap_alloc_new w _, Nat.le_refl _, by simp only [maxLen]; omega, by rw [size_madeCells]; omega, ?_⟩⟩ rfl fun g hg => by simp [Ch.foot] at hg; omega
  · rw [← made2]; simp [madeCells]
  · rw [← made2]
    exact List.take_of_length_le (by simp [madeCells])
end Go.Fk
namespace Go.Proofs.Ytaapnfoimcccjaa
open Go.Fk Go.RowKit
attribute [local irreducible] Wp WpL Det thenQ blockQ WpG thenD blockG
instance : BuildT Try.prog 56 [.slice none 0 0] [(0, 1)] := ⟨by kernel_rfl⟩
theorem kv_append (a b : List Bk) : kv (a ++ b) = kv a ++ kv b := by simp [kv]
theorem kv_replicate : ∀ n, kv (List.replicate n ⟨0, 0⟩) = (List.replicate n [Value.int .i64 0, Value.int .u32 0]).flatten
  | 0 => rfl
  | n + 1 => by rw [List.replicate_succ, kv_cons, kv_replicate n, List.replicate_succ]; rfl
/-- A pool's dies: where each lies, and its blocks. -/
abbrev Dies := List (Option Addr × List Bk)
def rowsV (nb : Nat) (ps : Dies) : List Value := ps.map fun p => .slice p.1 nb nb
def rowsC (nb : Nat) (ps : Dies) : List Ch := ps.map fun p => .own p.1 nb nb 60 2 (kv p.2)
structure PoolOk (D : Option Addr) (nd cd nb : Nat) (ps : Dies) : Prop where
  len : ps.length = nd
  vw : IsVw D nd cd D 0
  rows : ∀ p ∈ ps, IsVw p.1 nb nb p.1 0 ∧ p.2.length = nb ∧ Fit p.2
abbrev poolL (g : Nat) (D : Option Addr) (nd cd nb : Nat) (ps : Dies) (L : List Ch) : List Ch := headsC g D nd cd (rowsV nb ps) (rowsC nb ps ++ L)
def newBlocks (nb : Nat) : List Bk := List.replicate nb ⟨1, 0⟩
theorem newBlocks_fit (nb : Nat) : Fit (newBlocks nb) := fun b hb => by rw [List.eq_of_mem_replicate hb]; decide
section
variable {w w0 : World} {M : Nat → Prop} {L : List Ch}
set_option maxHeartbeats 1000000 in
theorem new_any {dies nb : Int} (hS : St w0 M w L) : Calls Try.prog 10 #[.int .i64 dies, .int .i64 nb] w fun x w' =>
    (¬ (1 ≤ dies ∧ dies ≤ 8 ∧ 1 ≤ nb ∧ nb ≤ 64) ∧ x = .returned (.tuple #[.pointer none, .int .i64 1]) ∧ St w0 M w' L) ∨
    ((1 ≤ dies ∧ dies ≤ 8 ∧ 1 ≤ nb ∧ nb ≤ 64) ∧ ∃ g D cd ps, x = .returned (.tuple #[.pointer (some ⟨g, 0, none⟩), .int .i64 0]) ∧ PoolOk D dies.toNat cd nb.toNat ps ∧ ps.map (·.2) = List.replicate dies.toNat (newBlocks nb.toNat) ∧ St w0 M w' (poolL g D dies.toNat cd nb.toNat ps L)) := by
  (refine calls_of (P := Try.prog) _ Try.func10 rfl Try.ntmps10 (Nat.le_of_ble_eq_true rfl) ?_; dsimp only [argE, Nat.reduceAdd])
  by_cases h1 : 1 ≤ dies
  rotate_left
  · (refine Reach.walk ?_; (repeat (first | ((with_reducible refine AllSt.mk ?_); (try clear hS); intro w hS) | ((with_reducible refine AllVw.mk ?_); intro V hV))))
    (with_reducible apply doneQ_two Try.results10); (· exact slotFound); (· exact slotFound)
    exact .inl ⟨fun h => h1 h.1, rfl, hS⟩
  by_cases h2 : dies ≤ 8
  rotate_left
  · (refine Reach.walk ?_; (repeat (first | ((with_reducible refine AllSt.mk ?_); (try clear hS); intro w hS) | ((with_reducible refine AllVw.mk ?_); intro V hV))))
    (with_reducible apply doneQ_two Try.results10); (· exact slotFound); (· exact slotFound)
    exact .inl ⟨fun h => h2 h.2.1, rfl, hS⟩
  by_cases h3 : 1 ≤ nb
  rotate_left
  · (refine Reach.walk ?_; (repeat (first | ((with_reducible refine AllSt.mk ?_); (try clear hS); intro w hS) | ((with_reducible refine AllVw.mk ?_); intro V hV))))
    (with_reducible apply doneQ_two Try.results10); (· exact slotFound); (· exact slotFound)
    exact .inl ⟨fun h => h3 h.2.2.1, rfl, hS⟩
  by_cases h4 : nb ≤ 64
  rotate_left
  · (refine Reach.walk ?_; (repeat (first | ((with_reducible refine AllSt.mk ?_); (try clear hS); intro w hS) | ((with_reducible refine AllVw.mk ?_); intro V hV))))
    (with_reducible apply doneQ_two Try.results10); (· exact slotFound); (· exact slotFound)
    exact .inl ⟨fun h => h4 h.2.2.2, rfl, hS⟩
  obtain ⟨nd, rfl⟩ := Int.eq_ofNat_of_zero_le (show 0 ≤ dies by omega)
  obtain ⟨nb, rfl⟩ := Int.eq_ofNat_of_zero_le (show 0 ≤ nb by omega)
  rw [Int.toNat_natCast, Int.toNat_natCast]
  (refine Reach.walk ?_; (repeat (first | ((with_reducible refine AllSt.mk ?_); (try clear hS); intro w hS) | ((with_reducible refine AllVw.mk ?_); intro V hV))))
  refine WpL.det rfl (Det.build (cells := [.slice none 0 0]) PVals.found rfl) ?_
  (refine Reach.walk ?_; (repeat (first | ((with_reducible refine AllSt.mk ?_); (try clear hS); intro w hS) | ((with_reducible refine AllVw.mk ?_); intro V hV))))
  ((with_reducible apply WpL.bx); (· assumption); (· exact rfl); (· exact Env.found); (· exact rfl); clear hS)
  intro g w hS
  (refine Reach.walk ?_; (repeat (first | ((with_reducible refine AllSt.mk ?_); (try clear hS); intro w hS) | ((with_reducible refine AllVw.mk ?_); intro V hV))))
  replace hS : St w0 M w (.own none 0 0 57 1 (rowsV nb []) :: .blk g 56 [.slice none 0 0] :: L) := hS.nil_
  apply Wp.loopUp nd (fun k e w' => ∃ D cd ps, PoolOk D k cd nb ps ∧ ps.map (·.2) = List.replicate k (newBlocks nb) ∧ St w0 M w' (poolL g D k cd nb ps L) ∧
      e.Has [(26, .int .i64 (k : Nat)), (25, .int .i64 (nd : Nat)), (6, .pointer (some ⟨g, 0, none⟩)), (1, .int .i64 (nb : Nat))]) (Nat.zero_le _)
    ⟨none, 0, [], ⟨rfl, IsVw.nil, fun p hp => (by cases hp)⟩, rfl, hS.swap1, rfl, rfl, rfl, rfl, trivial⟩
  clear hS
  rintro k e w hk ⟨D, cd, ps, hok, hps, hS, he⟩
  obtain ⟨e0, rfl⟩ := he.eq
  clear he
  dsimp only [Env.sets]
  by_cases hlt : k < nd
  rotate_left
  · obtain rfl : k = nd := by omega
    (refine Reach.walk ?_; (repeat (first | ((with_reducible refine AllSt.mk ?_); (try clear hS); intro w hS) | ((with_reducible refine AllVw.mk ?_); intro V hV))))
    (with_reducible apply doneQ_two Try.results10); (· exact slotFound); (· exact slotFound)
    exact .inr ⟨⟨by omega, by omega, by omega, by omega⟩, g, D, cd, ps, rfl, hok, hps, hS⟩
  (refine Reach.walk ?_; (repeat (first | ((with_reducible refine AllSt.mk ?_); (try clear hS); intro w hS) | ((with_reducible refine AllVw.mk ?_); intro V hV))))
  refine WpL.mk2 (a := .int .i64 0) (b := .int .u32 0) (n := nb) hS rfl rfl rfl rfl rfl rfl (by omega) (by omega) ?_
  clear hS
  intro A w hA hS
  rw [← kv_replicate] at hS
  (refine Reach.walk ?_; (repeat (first | ((with_reducible refine AllSt.mk ?_); (try clear hS); intro w hS) | ((with_reducible refine AllVw.mk ?_); intro V hV))))
  apply Wp.loopUp nb (fun i e w' => St w0 M w' (.own A nb nb 60 2 (kv (List.replicate i ⟨1, 0⟩ ++ List.replicate (nb - i) (⟨0, 0⟩ : Bk))) :: poolL g D k cd nb ps L) ∧
      e.Has [(32, .int .i64 (i : Nat)), (31, .int .i64 (nb : Nat)), (7, .slice A nb nb), (26, .int .i64 (k : Nat)), (25, .int .i64 (nd : Nat)), (6, .pointer (some ⟨g, 0, none⟩)), (1, .int .i64 (nb : Nat))]) (Nat.zero_le _)
    ⟨hS, rfl, rfl, rfl, rfl, rfl, rfl, rfl, trivial⟩
  clear hS
  rintro i e w hi ⟨hS, he⟩
  obtain ⟨e0, rfl⟩ := he.eq
  clear he
  dsimp only [Env.sets]
  by_cases hli : i < nb
  · have hlen : (List.replicate i (⟨1, 0⟩ : Bk) ++ List.replicate (nb - i) (⟨0, 0⟩ : Bk)).length = nb := by simp; omega
    have hset : (List.replicate i (⟨1, 0⟩ : Bk) ++ List.replicate (nb - i) (⟨0, 0⟩ : Bk)).set i ⟨1, ((List.replicate i (⟨1, 0⟩ : Bk) ++ List.replicate (nb - i) (⟨0, 0⟩ : Bk)).getD i ⟨0, 0⟩).er⟩ = List.replicate (i + 1) ⟨1, 0⟩ ++ List.replicate (nb - (i + 1)) (⟨0, 0⟩ : Bk) := by
      obtain ⟨q, hq⟩ : ∃ q, nb - i = q + 1 := ⟨nb - i - 1, by omega⟩
      rw [hq, show nb - (i + 1) = q by omega, List.replicate_succ, List.set_append_right _ _ (by simp)]
      simp [List.replicate_succ', List.getD_eq_getElem?_getD]
    have hup := kv_set_st' 1 (l := List.replicate i (⟨1, 0⟩ : Bk) ++ List.replicate (nb - i) (⟨0, 0⟩ : Bk)) (i := i) (by omega)
    rw [hset] at hup
    have hup2 : Upd (.own A nb nb 60 2 (kv (List.replicate i ⟨1, 0⟩ ++ List.replicate (nb - i) (⟨0, 0⟩ : Bk))) :: poolL g D k cd nb ps L) ((adr A).add (0 + i * 2 + 0)) (.int .i64 1) (.own A nb nb 60 2 (kv (List.replicate (i + 1) ⟨1, 0⟩ ++ List.replicate (nb - (i + 1)) (⟨0, 0⟩ : Bk))) :: poolL g D k cd nb ps L) :=
      Upd.own (by rw [kv_length]; omega) hup
    clear hup hset hlen
    (refine Reach.walk ?_; (repeat (first | ((with_reducible refine AllSt.mk ?_); (try clear hS); intro w hS) | ((with_reducible refine AllVw.mk ?_); intro V hV))))
    exact ⟨hli, hS, int_eq (by omega), rfl, rfl, rfl, rfl, rfl, rfl, trivial⟩
  obtain rfl : i = nb := by omega
  rw [Nat.sub_self, List.replicate_zero, List.append_nil] at hS
  (refine Reach.walk ?_; (repeat (first | ((with_reducible refine AllSt.mk ?_); (try clear hS); intro w hS) | ((with_reducible refine AllVw.mk ?_); intro V hV))))
  ((with_reducible apply WpL.bs); (· assumption); (· exact rfl); (· exact BVals.found); (· exact oneAll_spec rfl); (· exact rfl); (· decide); (· exact listFound); clear hS)
  intro B w hB hS
  (refine Reach.walk ?_; (repeat (first | ((with_reducible refine AllSt.mk ?_); (try clear hS); intro w hS) | ((with_reducible refine AllVw.mk ?_); intro V hV))))
  ((with_reducible apply WpL.app); (· assumption); (· exact rfl); (· exact rfl); (· exact rfl); (· exact Sel.found); (· simp only [Nat.mul_one]; exact RdsV.found); (· exact onesFound); (· exact catFound); (· omega); (· omega); clear hS)
  intro D2 cd2 w hD2 hS
  (refine Reach.walk ?_; (repeat (first | ((with_reducible refine AllSt.mk ?_); (try clear hS); intro w hS) | ((with_reducible refine AllVw.mk ?_); intro V hV))))
  (replace hS := (hS.take (pre := [.blk g _ _, .own D2 _ _ _ _ _, .own A _ _ _ _ _]) Take.found); (try simp only [List.cons_append, List.nil_append] at hS))
  have hS2 := hS.sub (.cons_cons _ (.cons_cons _ (.cons_cons _ (List.sublist_cons_self _ _))))
  have e1 : rowsV i (ps ++ [(A, newBlocks i)]) = rowsV i ps ++ [Value.slice A i i] := by simp [rowsV]
  have e2 : rowsC i (ps ++ [(A, newBlocks i)]) = rowsC i ps ++ [.own A i i 60 2 (kv (newBlocks i))] := by simp [rowsC]
  refine ⟨hlt, D2, cd2, ps ++ [(A, newBlocks i)], ⟨by rw [List.length_append, hok.len]; rfl, hD2, fun p hp => ?_⟩, by rw [List.map_append, hps, List.replicate_succ']; rfl, ?_, int_eq (by omega), rfl, rfl, rfl, trivial⟩
  · rcases List.mem_append.1 hp with hp | hp
    · exact hok.rows p hp
    · rw [List.mem_singleton.1 hp]
      exact ⟨hA, List.length_replicate, newBlocks_fit i⟩
  · show St w0 M w (headsC g D2 (k + 1) cd2 (rowsV i (ps ++ [(A, newBlocks i)])) (rowsC i (ps ++ [(A, newBlocks i)]) ++ L))
    rw [e1, e2]
    refine hS2.perm (List.Perm.cons _ (List.Perm.cons _ ?_))
    rw [List.append_assoc]
    exact List.perm_middle.symm
end
end Go.Proofs.Ytaapnfoimcccjaa

namespace Go.Proofs.Ytaapnfoimcccjaa
open Go.Fk Go.RowKit
attribute [local irreducible] Wp WpL Det thenQ blockQ WpG thenD blockG
theorem rowsC_mid (nb : Nat) (a : Dies) (p : Option Addr × List Bk) (b : Dies) : rowsC nb (a ++ p :: b) = rowsC nb a ++ .own p.1 nb nb 60 2 (kv p.2) :: rowsC nb b := by simp [rowsC]
theorem rowsV_mid (nb : Nat) (a : Dies) (p : Option Addr × List Bk) (b : Dies) : rowsV nb (a ++ p :: b) = rowsV nb a ++ .slice p.1 nb nb :: rowsV nb b := by simp [rowsV]
/-- A pool lies at g; X: its dies. -/
def PSt (w0 : World) (M : Nat → Prop) (w : World) (g nd nb : Nat) (X : List (List Bk)) (L : List Ch) : Prop := ∃ D cd ps, PoolOk D nd cd nb ps ∧ ps.map (·.2) = X ∧ St w0 M w (poolL g D nd cd nb ps L)
structure XOk (nd nb : Nat) (X : List (List Bk)) : Prop where
  len : X.length = nd
  rows : ∀ l ∈ X, l.length = nb ∧ Fit l
section
variable {w w0 : World} {M : Nat → Prop} {L : List Ch} {g nd nb : Nat} {X : List (List Bk)}
theorem PSt.ok (h : PSt w0 M w g nd nb X L) : XOk nd nb X := by
  obtain ⟨D, cd, ps, h1, rfl, _⟩ := h
  refine ⟨by rw [List.length_map, h1.len], fun l hl => ?_⟩
  obtain ⟨p, hp, rfl⟩ := List.mem_map.1 hl
  exact (h1.rows p hp).2
theorem PSt.below {w' : World} (h : PSt w0 M w g nd nb X L) (hb : Below w.heap.size w w') : PSt w0 M w' g nd nb X L := let ⟨D, cd, ps, h1, h2, h3⟩ := h; ⟨D, cd, ps, h1, h2, h3.below hb⟩
theorem PSt.rest (h : PSt w0 M w g nd nb X L) : St w0 M w L := by
  obtain ⟨D, cd, ps, h1, h2, h3⟩ := h
  exact h3.sub ((List.sublist_append_right _ _).trans ((List.sublist_cons_self _ _).trans (List.sublist_cons_self _ _)))
theorem PSt.sub {L' : List Ch} (h : PSt w0 M w g nd nb X L) (hs : L'.Sublist L) : PSt w0 M w g nd nb X L' := by
  obtain ⟨D, cd, ps, h1, h2, h3⟩ := h
  exact ⟨D, cd, ps, h1, h2, h3.sub (.cons_cons _ (.cons_cons _ ((List.Sublist.refl _).append hs)))⟩
theorem PSt.outR (h : PSt w0 M w g nd nb X L) {P : Program} {f : FuncId} {args : Array Value} {R : Ending → Prop}
    (hc : ∀ D cd rows L', IsVw D nd cd D 0 → St w0 M w (headsC g D nd cd rows L') → Calls P f args w fun x w' => R x ∧ St w0 M w' (headsC g D nd cd rows L')) : Calls P f args w fun x w' => R x ∧ PSt w0 M w' g nd nb X L := by
  obtain ⟨D, cd, ps, h1, h2, h3⟩ := h
  refine (hc D cd _ _ h1.vw h3).mono fun x w' hx => ?_
  exact ⟨hx.1, D, cd, ps, h1, h2, hx.2⟩
theorem PSt.inR {d : Nat} (h : PSt w0 M w g nd nb X L) (hd : d < nd) {P : Program} {f : FuncId} {args : Array Value} {R : List Bk → Ending → Prop} {fl : List Bk → List Bk} (hfl : ∀ l, l.length = nb → Fit l → (fl l).length = nb ∧ Fit (fl l))
    (hc : ∀ D cd rows A l L', IsVw D nd cd D 0 → rows[d]? = some (.slice A nb nb) → IsVw A nb nb A 0 → l.length = nb → Fit l → St w0 M w (poolC g D nd cd rows A nb nb l L') → Calls P f args w fun x w' => R l x ∧ St w0 M w' (poolC g D nd cd rows A nb nb (fl l) L')) :
    Calls P f args w fun x w' => R (X.getD d []) x ∧ PSt w0 M w' g nd nb (X.set d (fl (X.getD d []))) L := by
  obtain ⟨D, cd, ps, h1, rfl, h3⟩ := h
  have hdl : d < ps.length := by rw [h1.len]; exact hd
  have hpm : ps[d] ∈ ps := List.getElem_mem hdl
  obtain ⟨hp1, hp2, hp3⟩ := h1.rows _ hpm
  have hgd : (ps.map (·.2)).getD d [] = ps[d].2 := by rw [List.getD_eq_getElem?_getD, List.getElem?_map, List.getElem?_eq_getElem hdl]; rfl
  have hrow : (rowsV nb ps)[d]? = some (.slice ps[d].1 nb nb) := by rw [rowsV, List.getElem?_map, List.getElem?_eq_getElem hdl]; rfl
  have hsp : ps = ps.take d ++ ps[d] :: ps.drop (d + 1) := by rw [← List.drop_eq_getElem_cons hdl, List.take_append_drop]
  have hC : rowsC nb ps ++ L = rowsC nb (ps.take d) ++ (.own ps[d].1 nb nb 60 2 (kv ps[d].2) :: (rowsC nb (ps.drop (d + 1)) ++ L)) := by
    rw [(congrArg (rowsC nb) hsp).trans (rowsC_mid _ _ _ _), List.append_assoc, List.cons_append]
  have hset : ps.set d (ps[d].1, fl ps[d].2) = ps.take d ++ (ps[d].1, fl ps[d].2) :: ps.drop (d + 1) := by rw [List.set_eq_take_append_cons_drop, if_pos hdl]
  have hC2 : rowsC nb (ps.set d (ps[d].1, fl ps[d].2)) ++ L = rowsC nb (ps.take d) ++ (.own ps[d].1 nb nb 60 2 (kv (fl ps[d].2)) :: (rowsC nb (ps.drop (d + 1)) ++ L)) := by
    rw [hset, rowsC_mid, List.append_assoc, List.cons_append]
  have hV2 : rowsV nb (ps.set d (ps[d].1, fl ps[d].2)) = rowsV nb ps := by
    rw [hset, rowsV_mid]
    exact ((congrArg (rowsV nb) hsp).trans (rowsV_mid _ _ _ _)).symm
  have h4 : St w0 M w (poolC g D nd cd (rowsV nb ps) ps[d].1 nb nb ps[d].2 (rowsC nb (ps.take d) ++ (rowsC nb (ps.drop (d + 1)) ++ L))) := by
    refine h3.perm (List.Perm.cons _ (List.Perm.cons _ ?_))
    rw [hC]
    exact List.perm_middle
  refine (hc D cd _ _ _ _ h1.vw hrow hp1 hp2 hp3 h4).mono fun x w' hx => ?_
  rw [hgd]
  obtain ⟨hf1, hf2⟩ := hfl _ hp2 hp3
  refine ⟨hx.1, D, cd, ps.set d (ps[d].1, fl ps[d].2), ⟨by rw [List.length_set, h1.len], h1.vw, fun p hp => ?_⟩, by rw [List.map_set], ?_⟩
  · rcases List.mem_or_eq_of_mem_set hp with hp | rfl
    · exact h1.rows p hp
    · exact ⟨hp1, hf1, hf2⟩
  · show St w0 M w' (headsC g D nd cd (rowsV nb (ps.set d (ps[d].1, fl ps[d].2))) (rowsC nb (ps.set d (ps[d].1, fl ps[d].2)) ++ L))
    rw [hV2, hC2]
    exact hx.2.perm (List.Perm.cons _ (List.Perm.cons _ List.perm_middle.symm))
theorem PSt.same {d : Nat} (h : PSt w0 M w g nd nb (X.set d (X.getD d [])) L) : PSt w0 M w g nd nb X L := by
  have : X.set d (X.getD d []) = X := by
    by_cases hd : d < X.length
    · rw [List.getD_eq_getElem?_getD, List.getElem?_eq_getElem hd]
      exact List.set_getElem_self hd
    · exact List.set_eq_of_length_le (by omega)
  rwa [this] at h

/-! ### What the calls do to the dies -/
def inX (X : List (List Bk)) (d : Int) : Prop := 0 ≤ d ∧ d < X.length
instance (X : List (List Bk)) (d : Int) : Decidable (inX X d) := by unfold inX; infer_instance
def dieX (X : List (List Bk)) (d : Int) : List Bk := X.getD d.toNat []
def takeX (X : List (List Bk)) (d : Int) : (Int × Int) × List (List Bk) := if inX X d then ((takeL (dieX X d)).1, X.set d.toNat (takeL (dieX X d)).2) else ((0, 1), X)
def turnX (X : List (List Bk)) (d n : Int) (to : Nat) (fs : List Int) : Int × List (List Bk) := if inX X d then ((turnL (dieX X d) n to fs).1, X.set d.toNat (turnL (dieX X d) n to fs).2) else (1, X)
def erasedX (X : List (List Bk)) (d n : Int) : Int × List (List Bk) := if inX X d then ((erasedL (dieX X d) n).1, X.set d.toNat (erasedL (dieX X d) n).2) else (1, X)
def stX (X : List (List Bk)) (d n : Int) : Nat := if inX X d then stAt (dieX X d) n else 0
def erX (X : List (List Bk)) (d n : Int) : Nat := if inX X d then erAt (dieX X d) n else 0
def countX (X : List (List Bk)) (d s : Int) : Nat := if inX X d then countL (dieX X d) s else 0
def spreadX (X : List (List Bk)) (d : Int) : Int := if inX X d then spreadL (dieX X d) else 0
theorem PSt.split (h : PSt w0 M w g nd nb X L) (d : Int) : (inX X d ∧ ∃ k : Nat, k < nd ∧ d = (k : Int) ∧ dieX X d = X.getD k []) ∨ (¬ inX X d ∧ ¬ (0 ≤ d ∧ d < nd)) := by
  have hl := h.ok.len
  unfold inX dieX
  by_cases hin : 0 ≤ d ∧ d < nd
  · left
    exact ⟨⟨hin.1, by omega⟩, d.toNat, by omega, by omega, rfl⟩
  · right
    exact ⟨fun h => hin ⟨h.1, by omega⟩, hin⟩
theorem takeP (hnb : 1 ≤ nb ∧ nb ≤ 64) (hnd : nd ≤ 8) (d : Int) (h : PSt w0 M w g nd nb X L) :
    Calls Try.prog 11 #[.pointer (some ⟨g, 0, none⟩), .int .i64 d] w fun x w' => x = .returned (.tuple #[.int .i64 (takeX X d).1.1, .int .i64 (takeX X d).1.2]) ∧ PSt w0 M w' g nd nb (takeX X d).2 L := by
  unfold takeX
  rcases h.split d with ⟨hin, k, hk, rfl, e⟩ | ⟨hin, hd⟩
  · rw [if_pos hin, e, Int.toNat_natCast]
    exact h.inR hk (R := fun l x => x = .returned (.tuple #[.int .i64 (takeL l).1.1, .int .i64 (takeL l).1.2])) (fl := fun l => (takeL l).2) (fun l h1 h2 => ⟨by rw [takeL_len, h1], h2.take⟩)
      fun D cd rows A l L' hD hrow hA hl hf hS => takeI hnb.1 hl hf hD hk hrow hA (by omega) (by omega) hS
  · rw [if_neg hin]
    exact h.outR (R := fun x => x = .returned (.tuple #[.int .i64 0, .int .i64 1])) fun D cd rows L' hD hS => takeO hD hd hS
theorem erasedP (hnb : 1 ≤ nb ∧ nb ≤ 64) (hnd : nd ≤ 8) (d n : Int) (h : PSt w0 M w g nd nb X L) :
    Calls Try.prog 12 #[.pointer (some ⟨g, 0, none⟩), .int .i64 d, .int .i64 n] w fun x w' => x = .returned (.int .i64 (erasedX X d n).1) ∧ PSt w0 M w' g nd nb (erasedX X d n).2 L := by
  unfold erasedX
  rcases h.split d with ⟨hin, k, hk, rfl, e⟩ | ⟨hin, hd⟩
  · rw [if_pos hin, e, Int.toNat_natCast]
    exact h.inR hk (R := fun l x => x = .returned (.int .i64 (erasedL l n).1)) (fl := fun l => (erasedL l n).2) (fun l h1 h2 => ⟨by rw [erasedL_len, h1], h2.erased n⟩)
      fun D cd rows A l L' hD hrow hA hl hf hS => erasedI hl hf hD hk hrow hA (by omega) (by omega) hS
  · rw [if_neg hin]
    exact h.outR (R := fun x => x = .returned (.int .i64 1)) fun D cd rows L' hD hS => erasedO hD hd hS
theorem holdP (hnb : 1 ≤ nb ∧ nb ≤ 64) (hnd : nd ≤ 8) (d n : Int) (h : PSt w0 M w g nd nb X L) :
    Calls Try.prog 21 #[.pointer (some ⟨g, 0, none⟩), .int .i64 d, .int .i64 n] w fun x w' => x = .returned (.int .i64 (turnX X d n 2 [1]).1) ∧ PSt w0 M w' g nd nb (turnX X d n 2 [1]).2 L := by
  unfold turnX
  rcases h.split d with ⟨hin, k, hk, rfl, e⟩ | ⟨hin, hd⟩
  · rw [if_pos hin, e, Int.toNat_natCast]
    exact h.inR hk (R := fun l x => x = .returned (.int .i64 (turnL l n 2 [1]).1)) (fl := fun l => (turnL l n 2 [1]).2) (fun l h1 h2 => ⟨by rw [turnL_len, h1], h2.turn n (by decide) _⟩)
      fun D cd rows A l L' hD hrow hA hl hf hS => holdI hl hf hD hk hrow hA (by omega) (by omega) hS
  · rw [if_neg hin]
    exact h.outR (R := fun x => x = .returned (.int .i64 1)) fun D cd rows L' hD hS => holdO hD hd hS
theorem closeP (hnb : 1 ≤ nb ∧ nb ≤ 64) (hnd : nd ≤ 8) (d n : Int) (h : PSt w0 M w g nd nb X L) :
    Calls Try.prog 19 #[.pointer (some ⟨g, 0, none⟩), .int .i64 d, .int .i64 n] w fun x w' => x = .returned (.int .i64 (turnX X d n 3 [2]).1) ∧ PSt w0 M w' g nd nb (turnX X d n 3 [2]).2 L := by
  unfold turnX
  rcases h.split d with ⟨hin, k, hk, rfl, e⟩ | ⟨hin, hd⟩
  · rw [if_pos hin, e, Int.toNat_natCast]
    exact h.inR hk (R := fun l x => x = .returned (.int .i64 (turnL l n 3 [2]).1)) (fl := fun l => (turnL l n 3 [2]).2) (fun l h1 h2 => ⟨by rw [turnL_len, h1], h2.turn n (by decide) _⟩)
      fun D cd rows A l L' hD hrow hA hl hf hS => closeI hl hf hD hk hrow hA (by omega) (by omega) hS
  · rw [if_neg hin]
    exact h.outR (R := fun x => x = .returned (.int .i64 1)) fun D cd rows L' hD hS => closeO hD hd hS
theorem freeP (hnb : 1 ≤ nb ∧ nb ≤ 64) (hnd : nd ≤ 8) (d n : Int) (h : PSt w0 M w g nd nb X L) :
    Calls Try.prog 13 #[.pointer (some ⟨g, 0, none⟩), .int .i64 d, .int .i64 n] w fun x w' => x = .returned (.int .i64 (turnX X d n 1 [2, 3]).1) ∧ PSt w0 M w' g nd nb (turnX X d n 1 [2, 3]).2 L := by
  unfold turnX
  rcases h.split d with ⟨hin, k, hk, rfl, e⟩ | ⟨hin, hd⟩
  · rw [if_pos hin, e, Int.toNat_natCast]
    exact h.inR hk (R := fun l x => x = .returned (.int .i64 (turnL l n 1 [2, 3]).1)) (fl := fun l => (turnL l n 1 [2, 3]).2) (fun l h1 h2 => ⟨by rw [turnL_len, h1], h2.turn n (by decide) _⟩)
      fun D cd rows A l L' hD hrow hA hl hf hS => freeI hl hf hD hk hrow hA (by omega) (by omega) hS
  · rw [if_neg hin]
    exact h.outR (R := fun x => x = .returned (.int .i64 1)) fun D cd rows L' hD hS => freeO hD hd hS
theorem badP (hnb : 1 ≤ nb ∧ nb ≤ 64) (hnd : nd ≤ 8) (d n : Int) (h : PSt w0 M w g nd nb X L) :
    Calls Try.prog 16 #[.pointer (some ⟨g, 0, none⟩), .int .i64 d, .int .i64 n] w fun x w' => x = .returned (.int .i64 (turnX X d n 4 [1, 2, 3, 4]).1) ∧ PSt w0 M w' g nd nb (turnX X d n 4 [1, 2, 3, 4]).2 L := by
  unfold turnX
  rcases h.split d with ⟨hin, k, hk, rfl, e⟩ | ⟨hin, hd⟩
  · rw [if_pos hin, e, Int.toNat_natCast]
    exact h.inR hk (R := fun l x => x = .returned (.int .i64 (turnL l n 4 [1, 2, 3, 4]).1)) (fl := fun l => (turnL l n 4 [1, 2, 3, 4]).2) (fun l h1 h2 => ⟨by rw [turnL_len, h1], h2.turn n (by decide) _⟩)
      fun D cd rows A l L' hD hrow hA hl hf hS => badI hl hf hD hk hrow hA (by omega) (by omega) hS
  · rw [if_neg hin]
    exact h.outR (R := fun x => x = .returned (.int .i64 1)) fun D cd rows L' hD hS => badO hD hd hS
theorem stateP (hnb : 1 ≤ nb ∧ nb ≤ 64) (hnd : nd ≤ 8) (d n : Int) (h : PSt w0 M w g nd nb X L) :
    Calls Try.prog 25 #[.pointer (some ⟨g, 0, none⟩), .int .i64 d, .int .i64 n] w fun x w' => x = .returned (.int .i64 (stX X d n : Nat)) ∧ PSt w0 M w' g nd nb X L := by
  unfold stX
  rcases h.split d with ⟨hin, k, hk, rfl, e⟩ | ⟨hin, hd⟩
  · rw [if_pos hin, e]
    refine (h.inR hk (R := fun l x => x = .returned (.int .i64 (stAt l n : Nat))) (fl := fun l => l) (fun l h1 h2 => ⟨h1, h2⟩)
      fun D cd rows A l L' hD hrow hA hl hf hS => stateI hl hf hD hk hrow hA (by omega) (by omega) hS).mono fun x w' hx => ⟨hx.1, hx.2.same⟩
  · rw [if_neg hin]
    exact h.outR (R := fun x => x = .returned (.int .i64 ((0 : Nat) : Int))) fun D cd rows L' hD hS => stateO hD hd hS
theorem erasesP (hnb : 1 ≤ nb ∧ nb ≤ 64) (hnd : nd ≤ 8) (d n : Int) (h : PSt w0 M w g nd nb X L) :
    Calls Try.prog 26 #[.pointer (some ⟨g, 0, none⟩), .int .i64 d, .int .i64 n] w fun x w' => x = .returned (.int .i64 (erX X d n : Nat)) ∧ PSt w0 M w' g nd nb X L := by
  unfold erX
  rcases h.split d with ⟨hin, k, hk, rfl, e⟩ | ⟨hin, hd⟩
  · rw [if_pos hin, e]
    refine (h.inR hk (R := fun l x => x = .returned (.int .i64 (erAt l n : Nat))) (fl := fun l => l) (fun l h1 h2 => ⟨h1, h2⟩)
      fun D cd rows A l L' hD hrow hA hl hf hS => erasesI hl hf hD hk hrow hA (by omega) (by omega) hS).mono fun x w' hx => ⟨hx.1, hx.2.same⟩
  · rw [if_neg hin]
    exact h.outR (R := fun x => x = .returned (.int .i64 ((0 : Nat) : Int))) fun D cd rows L' hD hS => erasesO hD hd hS
theorem countP (hnb : 1 ≤ nb ∧ nb ≤ 64) (hnd : nd ≤ 8) (d s : Int) (h : PSt w0 M w g nd nb X L) :
    Calls Try.prog 15 #[.pointer (some ⟨g, 0, none⟩), .int .i64 d, .int .i64 s] w fun x w' => x = .returned (.int .i64 (countX X d s : Nat)) ∧ PSt w0 M w' g nd nb X L := by
  unfold countX
  rcases h.split d with ⟨hin, k, hk, rfl, e⟩ | ⟨hin, hd⟩
  · rw [if_pos hin, e]
    refine (h.inR hk (R := fun l x => x = .returned (.int .i64 (countL l s : Nat))) (fl := fun l => l) (fun l h1 h2 => ⟨h1, h2⟩)
      fun D cd rows A l L' hD hrow hA hl hf hS => countI hl hf hD hk hrow hA (by omega) (by omega) hS).mono fun x w' hx => ⟨hx.1, hx.2.same⟩
  · rw [if_neg hin]
    exact h.outR (R := fun x => x = .returned (.int .i64 ((0 : Nat) : Int))) fun D cd rows L' hD hS => countO hD hd hS
theorem spreadP (hnb : 1 ≤ nb ∧ nb ≤ 64) (hnd : nd ≤ 8) (d : Int) (h : PSt w0 M w g nd nb X L) :
    Calls Try.prog 14 #[.pointer (some ⟨g, 0, none⟩), .int .i64 d] w fun x w' => x = .returned (.int .i64 (spreadX X d)) ∧ PSt w0 M w' g nd nb X L := by
  unfold spreadX
  rcases h.split d with ⟨hin, k, hk, rfl, e⟩ | ⟨hin, hd⟩
  · rw [if_pos hin, e]
    refine (h.inR hk (R := fun l x => x = .returned (.int .i64 (spreadL l))) (fl := fun l => l) (fun l h1 h2 => ⟨h1, h2⟩)
      fun D cd rows A l L' hD hrow hA hl hf hS => spreadI hl hf hD hk hrow hA (by omega) (by omega) hS).mono fun x w' hx => ⟨hx.1, hx.2.same⟩
  · rw [if_neg hin]
    exact h.outR (R := fun x => x = .returned (.int .i64 0)) fun D cd rows L' hD hS => spreadO hD hd hS
theorem newP {dies n : Int} (hS : St w0 M w L) : Calls Try.prog 10 #[.int .i64 dies, .int .i64 n] w fun x w' =>
    (¬ (1 ≤ dies ∧ dies ≤ 8 ∧ 1 ≤ n ∧ n ≤ 64) ∧ x = .returned (.tuple #[.pointer none, .int .i64 1]) ∧ St w0 M w' L) ∨
    ((1 ≤ dies ∧ dies ≤ 8 ∧ 1 ≤ n ∧ n ≤ 64) ∧ ∃ g, x = .returned (.tuple #[.pointer (some ⟨g, 0, none⟩), .int .i64 0]) ∧ PSt w0 M w' g dies.toNat n.toNat (List.replicate dies.toNat (newBlocks n.toNat)) L) := by
  refine (new_any hS).mono ?_
  rintro x w' (h | ⟨h1, g, D, cd, ps, rfl, h2, h3, h4⟩)
  · exact .inl h
  · exact .inr ⟨h1, g, rfl, D, cd, ps, h2, h3, h4⟩
end
end Go.Proofs.Ytaapnfoimcccjaa

namespace Go.Fk
open Go.RowKit
/-- The marked operation: from I0 to what its value says. -/
def ObM (P : Program) (ops : Array Oper) (I0 : World → Prop) (J : Value → World → Prop) (R : World → World → Prop) (o : Oper) (Γ : Tmp → Spec) : Prop :=
  ∀ (e : Env) (w : World), I0 w → (∀ t ∈ o.looksAt ops, Γ t (e t) w) → o.guard = none ∧ RunsTo P o e.eval w (fun v w' => J v w' ∧ R w w')
/-- The others: ahead of the marked one and behind it. -/
def Ob3 (P : Program) (ops : Array Oper) (I0 : World → Prop) (I1 : Value → World → Prop) (R : World → World → Prop) (d0 : Tmp) (o : Oper) (Γ : Tmp → Spec) (V : Spec) : Prop :=
  if o.dst = some d0 then ObM P ops I0 I1 R o Γ ∧ V = (fun _ _ => True) else Ob P ops I0 R o Γ V ∧ ∀ x, Ob P ops (I1 x) R o Γ V
/-- The s-th alone writes d0. -/
def markOk (l : List Oper) (N s d0 : Nat) : Bool := Nat.blt s N && allB N fun i => (l[i]?).all fun o => (o.dst == some d0) == (i == s)
section
variable {P : Program} {n : Nat} {l : List Oper} {R : World → World → Prop} {OB : Oper → (Tmp → Spec) → Spec → Prop} {I0 : World → Prop} {I1 : Value → World → Prop} {d0 : Tmp}
theorem markOk_spec {N s : Nat} (hN : N ≤ l.length) (h : markOk l N s d0 = true) : s < N ∧ ∀ i o, i < N → l[i]? = some o → (o.dst = some d0 ↔ i = s) := by
  unfold markOk at h
  simp only [Bool.and_eq_true] at h
  obtain ⟨h1, h2⟩ := h
  refine ⟨by simpa [Nat.blt_eq] using h1, fun i o hi ho => ?_⟩
  have := allB_spec h2 i hi
  rw [ho] at this
  simp only [Option.all_some, beq_iff_eq] at this
  constructor
  · intro hd; rw [hd] at this; simpa using this
  · intro his; subst his; simpa using this
theorem ObM.wpOpIn {ro : Option Nat} {ds : List Deferred} {ops : Array Oper} {o : Oper} {Γ : Tmp → Spec} {I : World → Prop} {J : Value → World → Prop} {R : World → World → Prop} (h : ObM P ops I J R o Γ) {a : Act} {e : Env} {w : World} (ha : RepD ds n a e) (hd : dOk n o.dst = true) {i : Nat} (ho : ops[i]? = some o)
    (hI : I w) (hΓ : ∀ t ∈ o.looksAt ops, Γ t (e t) w) {K : Act → World → Prop} {Q : Exit → Act → World → Prop}
    (hk : ∀ v a' w', RepD ds n a' (e.setD o.dst v) → J v w' → R w w' → K a' w') : Go.wpOpIn (frn ro) 0 P ops Q i K a w := by
  obtain ⟨hg, h1⟩ := h e w hI hΓ
  unfold Go.wpOpIn
  simp only [ho]
  rw [ha.yielded]
  have hw : Region.wanted o (yieldedE ops e) = true := by simp [Region.wanted, hg]
  rw [if_pos hw]
  refine ⟨fun _ _ => trivial, ?_⟩
  unfold RunsTo at h1
  rw [ha.eval]
  rcases semAt_or (ro := ro) e.eval o with hsem | ⟨c, hc⟩
  · rw [hsem]
    generalize (execOp e.eval o).run P w = r at h1 ⊢
    cases r with
    | halt x w' => exact h1.elim
    | ok x w' =>
      cases x <;> simp only at h1 <;> simp only [Oper.uponIn]
      case value v => exact hk _ _ _ (ha.put hd v) h1.1 h1.2
      case skip => exact hk _ _ _ (ha.put hd _) h1.1 h1.2
      case enter f args =>
        refine ⟨fun h => (by cases h), (Calls.toIn h1).mono fun x w'' hx => ?_⟩
        obtain ⟨v, rfl, hx⟩ := hx
        exact hk _ _ _ (ha.put hd v) hx.1 hx.2
      case row row args => exact ⟨fun h => (by cases h), Rows.toIn (h1.mono fun v w'' hx => hk _ _ _ (ha.put hd v) hx.1 hx.2)⟩
  · exfalso
    rcases run_defer (P := P) (w := w) e.eval o c hc with ⟨x, w', hr⟩ | ⟨d, w', hr⟩
    · rw [hr] at h1; exact h1
    · rw [hr] at h1; exact h1

theorem head_soundM {ro : Option Nat} {ds : List Deferred} {N : Nat} (hok : RgOk l N) (hN : N ≤ l.length) {Vs : List Spec} {Γ0 : Tmp → Spec} (hlen : Vs.length = N) (hSt : ∀ w, R w w) {s : Nat} (hsN : s < N)
    (hst : ∀ (i : Nat) (V : Spec) v w w', Vs[i]? = some V → V v w → True → True → R w w' → V v w') (h0 : ∀ t v w w', Γ0 t v w → True → True → R w w' → Γ0 t v w')
    (hops : ∀ i o, i < N → l[i]? = some o → ∃ V, Vs[i]? = some V ∧ dOk n o.dst = true ∧ Ob3 P l.toArray I0 I1 R d0 o (ctx l Vs Γ0 i) V) (hone : ∀ i o, i < N → l[i]? = some o → (o.dst = some d0 ↔ i = s))
    {K : Env → World → Prop} {Q : Exit → Act → World → Prop} (hq : ∀ a e w, RepD ds n a e → K e w → Q .normal a w)
    (hfin : ∀ e w, I1 (e d0) w → (∀ t, ctx l Vs Γ0 N t (e t) w) → WpY P n l.toArray K (l.drop N) e w) :
    ∀ (fuel : Nat) (listed : Array Bool) (a : Act) (e : Env) (w : World), RepD ds n a e → Mid l N Vs Γ0 (fun _ => True) listed e w → ((listed.getD s true = false → I0 w) ∧ (listed.getD s true = true → I1 (e d0) w)) → left l.length listed ≤ fuel → Go.wpAnyIn (frn ro) 0 P .any l.toArray Q fuel listed a w := by
  intro fuel
  -- where the head has come up whole the tail follows
  have hswitch : ∀ (fuel : Nat) (listed : Array Bool) (a : Act) (e : Env) (w : World), RepD ds n a e → Mid l N Vs Γ0 (fun _ => True) listed e w → ((listed.getD s true = false → I0 w) ∧ (listed.getD s true = true → I1 (e d0) w)) → left l.length listed ≤ fuel →
      (∀ i, i < N → listed.getD i true = true) → Go.wpAnyIn (frn ro) 0 P .any l.toArray Q fuel listed a w := fun fuel listed a e w ha hm hi hf hall => by
    have hl : ∀ i, i < l.length → listed.getD i true = decide (i < N) := fun i hi => by
      by_cases h : i < N
      · rw [hall i h]; simp [h]
      · rw [hm.head i (by omega) hi]; simp [h]
    refine tail_soundY hok hq (l.drop N) N listed a e w (Nat.le_refl _) hm.size (by simp; omega) (fun j => by rw [List.getElem?_drop]) hl ha (hfin e w (hi.2 (hall s hsN)) (hm.full hlen hN hall)) fuel ?_
    refine Nat.le_trans ?_ hf
    unfold left
    have : (List.range l.length).filter (fun i => !listed.getD i true) = (List.range l.length).filter (fun i => decide (N ≤ i)) := by
      refine List.filter_congr fun i hi => ?_
      rw [hl i (by simpa using hi)]
      by_cases h : i < N
      · simp [h]
      · simp [h]; omega
    rw [this]
    have hr : List.range l.length = List.range N ++ (List.range (l.length - N)).map (N + ·) := by
      rw [← List.range_add]; congr 1; omega
    rw [hr, List.filter_append]
    have e1 : ((List.range (l.length - N)).map (N + ·)).filter (fun i => decide (N ≤ i)) = (List.range (l.length - N)).map (N + ·) := by
      rw [List.filter_eq_self]
      intro x hx
      obtain ⟨y, _, rfl⟩ := List.mem_map.1 hx
      simp
    rw [List.length_append, e1]
    simp
  induction fuel with
  | zero =>
    intro listed a e w ha hm hinv hf
    have hall := left_zero (Nat.le_zero.1 hf)
    exact hswitch 0 listed a e w ha hm hinv hf fun i hi => hall i (by omega)
  | succ fuel ih =>
    intro listed a e w ha hm hinv hf
    by_cases hall : ∀ i, i < N → listed.getD i true = true
    · exact hswitch _ listed a e w ha hm hinv hf hall
    · refine ⟨fun h0 => absurd (fun i hi => all_of_ready_nil hok h0 i (by omega)) hall, fun i hi => ?_⟩
      obtain ⟨hun, o, ho', hpre0⟩ := mem_ready.1 hi
      have hil : i < l.length := by have := (Array.getElem?_eq_some_iff.1 ho').1; simpa using this
      have ho : l[i]? = some o := by simpa using ho'
      have hpre : ∀ ed ∈ o.after.toList, Region.binds .any ed = true → listed.getD ed.on true = true := fun ed he hb => getD_false_true (hpre0 ed (by simpa using he) hb)
      have hiN : i < N := by
        rcases Nat.lt_or_ge i N with h | h
        · exact h
        · exfalso
          refine hall fun j hj => ?_
          exact hok.tail i j hil h (by omega) _ hm.down fun o' ed h1 h2 h3 => by rw [ho] at h1; injection h1 with h1; subst h1; exact hpre ed h2 h3
      obtain ⟨V, hVi, hd, hob⟩ := hops i o hiN ho
      have hlk := hm.looks hok hlen hN ho hun hiN hpre
      by_cases his : i = s
      · -- the store
        have hdn := (hone i o hiN ho).2 his
        unfold Ob3 at hob
        rw [if_pos hdn] at hob
        obtain ⟨hob, rfl⟩ := hob
        refine hob.wpOpIn ha hd ho' (hinv.1 (by rw [← his]; exact hun)) hlk fun v a' w' ha' hJ hR => ?_
        refine ih _ a' _ w' ha' (hm.step hok hst h0 ho hun hiN hpre trivial hR fun V' hV'' => by rw [hVi] at hV''; injection hV'' with hV''; subst hV''; trivial) ?_ ?_
        · refine ⟨fun h => ?_, fun _ => by rw [hdn]; simp only [Env.setD, Env.set_same]; exact hJ⟩
          rw [← his, getD_set_same] at h; cases h
        · have := left_set hil hun
          omega
      · have hdn : o.dst ≠ some d0 := fun h => his ((hone i o hiN ho).1 h)
        unfold Ob3 at hob
        rw [if_neg hdn] at hob
        have hne : (listed.setIfInBounds i true).getD s true = listed.getD s true := getD_set_ne true his
        cases hls : listed.getD s true with
        | false =>
          refine hob.1.wpOpIn ha hd ho' (hinv.1 hls) hlk (hSt w) fun v a' w' ha' hI' hS' hV' => ?_
          refine ih _ a' _ w' ha' (hm.step hok hst h0 ho hun hiN hpre trivial hS' fun V' hV'' => by rw [hVi] at hV''; injection hV'' with hV''; subst hV''; exact hV') ?_ ?_
          · rw [hne, hls]
            exact ⟨fun _ => hI', fun h => by cases h⟩
          · have := left_set hil hun
            omega
        | true =>
          have hd0 := hdn
          have he0 : ∀ v, (e.setD o.dst v) d0 = e d0 := fun v => by
            cases h : o.dst with
            | none => rfl
            | some d' => exact Env.set_other e v (fun h' => hd0 (by rw [h, h']))
          refine (hob.2 (e d0)).wpOpIn ha hd ho' (hinv.2 hls) hlk (hSt w) fun v a' w' ha' hI' hS' hV' => ?_
          refine ih _ a' _ w' ha' (hm.step hok hst h0 ho hun hiN hpre trivial hS' fun V' hV'' => by rw [hVi] at hV''; injection hV'' with hV''; subst hV''; exact hV') ?_ ?_
          · rw [hne, hls, he0]
            exact ⟨fun h => (by cases h), fun _ => hI'⟩
          · have := left_set hil hun
            omega

/-- THE RULE. -/
theorem WpG.drawM {ro : Option Nat} {ds : List Deferred} {id : Nat} {Q : PostD} {e : Env} {w : World} (N s d0 : Nat) (I0 : World → Prop) (I1 : Value → World → Prop) (R : World → World → Prop) (hm : P.follows .mixedOrders = true)
    (hok : rgOk l N = true) (hN : N ≤ l.length) (hSt : ∀ w, R w w) (hI : I0 w.drew) (hsk : markOk l N s d0 = true)
    (h : RgLG n (Ob3 P l.toArray I0 I1 R d0) R (fun Γ => ∀ e' w', I1 (e' d0) w' → (∀ t, Γ t (e' t) w') → WpY P n l.toArray (Q .normal ds) (l.drop N) e' w') (l.take N) (fun t v _ => v = e t)) :
    WpG ro P n ds (.region id l.toArray true) Q e w := fun a ha => by
  have hok := rgOk_spec hok
  have hlt : (l.take N).length = N := by simp; omega
  have h' : RgLG n (Ob3 P l.toArray I0 I1 R d0) R (fun Γ => ∀ e' w', I1 (e' d0) w' → (∀ t, Γ t (e' t) w') → WpY P n l.toArray (Q .normal ds) (l.drop N) e' w') (l.take N) (ctx (l.take N) [] (fun t v _ => v = e t) 0) := h
  obtain ⟨Vs, h1, _, h3, h4⟩ := RgLG.specs (l := l.take N) (Γ0 := fun t v _ => v = e t) (l.take N) 0 [] rfl (fun j => by simp) h'
  simp only [Nat.zero_add] at h1 h3 h4
  rw [hlt] at h1 h3
  have hctx : ∀ i, i ≤ N → ctx (l.take N) Vs (fun t v _ => v = e t) i = ctx l Vs (fun t v _ => v = e t) i := fun i => by
    induction i with
    | zero => intro _; rfl
    | succ i ih =>
      intro hi
      simp only [ctx]
      rw [ih (by omega), List.getElem?_take, if_pos (by omega)]
  rw [hctx N (Nat.le_refl _)] at h3
  obtain ⟨hsN, hone⟩ := markOk_spec hN hsk
  refine wpIn_region_any hm (head_soundM (R := R) (I0 := I0) (I1 := I1) (d0 := d0) hok hN h1 hSt hsN (fun i V v w w' hV hv _ _ hR => ?_) (fun t v w w' h _ _ _ => h) (fun i o hi ho => ?_) hone (fun a e w ha hk => ⟨ds, e, ha, hk⟩) h3 _ _ a e _ ha
    ⟨by simp, trivial, fun k o ed hk he hb hl => ?_, fun i h1 h2 => ?_, fun j o d hj _ hl => ?_, fun t _ => rfl⟩ ⟨fun _ => hI, fun hl => ?_⟩ ?_)
  · have hi : i < N := by have := (List.getElem?_eq_some_iff.1 hV).1; omega
    obtain ⟨V', hV', _, hs, _⟩ := h4 i (l[i]'(by omega)) (Nat.zero_le _) (by simp; omega) (by rw [List.getElem?_take, if_pos hi]; exact List.getElem?_eq_getElem (by omega))
    rw [hV] at hV'; injection hV' with hV'; subst hV'
    exact hs v w w' hv hR
  · obtain ⟨V, h5, h6, _, h8⟩ := h4 i o (Nat.zero_le _) (by simp; have := (List.getElem?_eq_some_iff.1 ho).1; omega) (by rw [List.getElem?_take, if_pos hi]; exact ho)
    rw [hctx i (by omega)] at h8
    exact ⟨V, h5, h6, h8⟩
  · exfalso
    have hkl : k < l.length := (List.getElem?_eq_some_iff.1 hk).1
    simp [Array.getD_eq_getD_getElem?, hkl] at hl
  · simp [Array.getD_eq_getD_getElem?, h2]
  · exfalso
    have hkl : j < l.length := (List.getElem?_eq_some_iff.1 hj).1
    simp [Array.getD_eq_getD_getElem?, hkl] at hl
  · exfalso
    have hkl : s < l.length := by omega
    simp [Array.getD_eq_getD_getElem?, hkl] at hl
  · unfold left
    exact Nat.le_trans (List.length_filter_le _ _) (by simp)
end

/-! ### Append -/
theorem run_appendA {P : Program} {t el ty : TypeId} [ht : SliceT P t el] {sz bytes : Nat} {z : Value} [he : Elem P el sz bytes z] {A V : Option Addr} {n c m c2 : Nat} {xs ys : List Value} {w : World} (hIs : (Ch.app A n c el sz xs).Is w) (hrd : Rd w V ys) (hlen : ys.length = m * sz) (hm0 : m ≠ 0) (h1 : ∀ u ∈ ys, u.oneCell' = true)
    (hb : (n + m) * bytes ≤ 140737488355328) (hm : n + m ≤ 9223372036854775807) :
    ∃ A' c' w', (Builtin.append_ #[t, t] ty #[.slice A n c, .slice V m c2]).run P w = .ok (.slice A' (n + m) c') w' ∧ (Ch.app A' (n + m) c' el sz (xs ++ ys)).Is w' ∧ IsVw A' (n + m) c' A' 0 ∧ Chg w (fun k => A.map (·.block) = some k) w' ∧
      (A'.map (·.block) = A.map (·.block) ∨ ∃ g, A'.map (·.block) = some g ∧ w.heap.size ≤ g) := by
  have hob : ∀ (X : Option Addr) (a b : Nat), (Value.slice X a b).ownBlock = X.map (·.block) := fun X a b => by cases X <;> rfl
  rcases (show Sl w 0 el sz (.slice A n c) n xs ∨ Full w A n c sz xs from hIs) with hown | hfull
  · obtain ⟨v', w', hrun, h2, h3, h4⟩ := run_append_sl (P := P) (t := t) ty hown (c := c2) hlen hrd h1 hb (by simp only [maxLen]; omega) (Nat.zero_le _)
    obtain ⟨A', c', rfl, h5, h6, h7, _⟩ := h2.form
    refine ⟨A', c', w', hrun, .inl h2, IsVw.base h5 h6 fun h => (h7 h).2, ⟨h3.os, h3.tape, h3.output, h3.size, fun k hk hf => h3.block k hk fun hk' => hf ?_⟩, ?_⟩
    · rw [← hob A n c]; exact hk'.symm
    · rw [← hob A n c, ← hob A' (n + m) c']; exact h4
  · obtain ⟨rfl, hmax, hlx, a, rfl, hab, hat⟩ := hfull
    obtain ⟨i, hi, hzz, hsize, hby⟩ := he.get
    have hzs := he.zs
    have hszp := he.pos
    have hpos : 0 < ys.length := by rw [hlen]; exact Nat.mul_pos (by omega) hszp
    obtain ⟨a2, rfl, hat2⟩ := hrd.at_ hpos
    have hrun := run_append_grow (P := P) w t ty el i z ht.hu hi hzz a c c xs (by rw [hlx, hsize]) (fun j u hu => hat j u hu) a2 m c2 ys (by rw [hlen, hsize]) (fun j u hu => hat2 j u hu) (by omega) (by omega) (growslice_fits (by omega) (by rw [hby]; exact hb))
    refine ⟨some ⟨w.heap.size, 0, none⟩, grownCap w (c + m) c el, _, hrun, .inl ⟨?_, .inr ⟨w.heap.size, _, _, rfl, Nat.zero_le _, heap_alloc_new w.drew _, grownCap_ge w (c + m) c el, grownCap_le_maxLen w (c + m) c el (by simp only [maxLen]; omega), ?_, ?_⟩⟩,
      IsVw.base (grownCap_ge w (c + m) c el) (grownCap_le_maxLen w (c + m) c el (by simp only [maxLen]; omega)) (by simp), Chg.of_below ((Below.refl _ _).drew.alloc (Nat.le_refl _) _) _, .inr ⟨w.heap.size, rfl, Nat.le_refl _⟩⟩
    · rw [List.length_append, hlx, hlen, Nat.add_mul]
    · have hge := grownCap_ge w (c + m) c el
      simp only [Array.size_append, List.size_toArray, size_zeroCells, hzs, hlx, hlen, ← Nat.add_mul]
      refine Nat.le_of_eq ?_
      congr 1
      omega
    · have hlen2 : (xs ++ ys).length = (c + m) * sz := by rw [List.length_append, hlx, hlen, Nat.add_mul]
      simp only [Array.toList_append, List.append_assoc]
      rw [← List.append_assoc, ← hlen2]
      exact List.take_left

section
variable {P : Program} {n : Nat} {ops : Array Oper} {w0 : World} {M : Nat → Prop} {LA : List Ch} {IB : Value → World → Prop} {base d0 : Nat} {Fin : (Tmp → Spec) → Prop} {rest : List Oper} {e : Env} {E : Open} {ty : TypeId} {pos : String} {after : Array Edge} {guard : Option (Nat × Bool)}
/-- What holds behind the append. -/
def IA (w0 : World) (M : Nat → Prop) (L : List Ch) (base m : Nat) (el : TypeId) (sz : Nat) (xs : List Value) (v : Value) (w : World) : Prop :=
  ∃ A' c', v = .slice A' m c' ∧ IsVw A' m c' A' 0 ∧ base ≤ w.heap.size ∧ St w0 M w (.app A' m c' el sz xs :: L)
def RgM (P : Program) (n : Nat) (ops : Array Oper) (w0 : World) (M : Nat → Prop) (A : Option Addr) (m c : Nat) (el : TypeId) (sz : Nat) (xs ys : List Value) (k : Nat) (L : List Ch) (base d0 : Nat) (Fin : (Tmp → Spec) → Prop) (l : List Oper) (e : Env) (E : Open) : Prop :=
  (E.map (·.1)).Nodup → RgLG n (Ob3 P ops (IS w0 M (.app A m c el sz xs :: L) base) (IA w0 M L base (m + k) el sz (xs ++ ys)) (RB base) d0) (RB base) Fin l (gam e E)
variable {A : Option Addr} {m c : Nat} {el : TypeId} {sz : Nat} {xs ys : List Value} {k : Nat} {L : List Ch}
theorem IA.is {x : Value} {w : World} (h : IA w0 M L base (m + k) el sz (xs ++ ys) x w) : ∃ A' c', IS w0 M (.app A' (m + k) c' el sz (xs ++ ys) :: L) base w := let ⟨A', c', _, _, h1, h2⟩ := h; ⟨A', c', h1, h2⟩
theorem one_obI2 {o : Oper} {d : Tmp} {V : Spec} (hd : o.dst = some d) (hs : notSelect o.op = true) (hn : (E.map (·.1)).Nodup) {I : World → Prop} {R : World → World → Prop} (hI : ∀ w w', I w → Below w.heap.size w w' → I w') (hR : ∀ w w', Below w.heap.size w w' → R w w')
    (h : ∀ w, I w → AllE w (fun e => WpL P n ops (fun e' w' => Below w.heap.size w w' ∧ V (e' d) w') [o] e w) (sub (o.looksAt ops) E) e) :
    Ob P ops I R o (gam e E) V := by
  intro e1 w hw hg
  obtain ⟨e', ⟨_, h1⟩, h2⟩ := AllE.inst (o.looksAt ops) hn hg (h w hw)
  have hops : ∀ x ∈ o.op.operands, e1.eval x = e'.eval x := fun x hx => by
    cases x with
    | tmp t => exact (h2 t (List.mem_append_left _ (List.mem_filterMap.2 ⟨.tmp t, by simpa using hx, rfl⟩))).symm
    | _ => rfl
  have hy : Region.wanted o (yieldedE ops e1) = Region.wanted o (yieldedE ops e') := by
    unfold Region.wanted
    cases hgd : o.guard with
    | none => rfl
    | some p =>
      obtain ⟨g, b⟩ := p
      simp only
      have : yieldedE ops e1 g = yieldedE ops e' g := by
        unfold yieldedE
        cases hb : (ops[g]?).bind (·.dst) with
        | none => rfl
        | some t =>
          simp only
          rw [h2 t (List.mem_append_right _ (by rw [hgd]; simp only; rw [hb]; simp))]
      rw [this]
  have hx : execOp e1.eval o = execOp e'.eval o := execOp_congr o (fun cs b hc => by rw [hc] at hs; cases hs) hops
  rw [hy]
  by_cases hwt : Region.wanted o (yieldedE ops e') = true
  · rw [if_pos hwt] at h1 ⊢
    unfold OpW at h1
    unfold RunsTo
    rw [hx]
    generalize (execOp e'.eval o).run P w = r at h1 ⊢
    have fin : ∀ v w', WpL P n ops (fun e' w' => Below w.heap.size w w' ∧ V (e' d) w') [] (e'.setD o.dst v) w' → I w' ∧ R w w' ∧ V v w' := fun v w' h => by
      have h : Below w.heap.size w w' ∧ V (e'.setD o.dst v d) w' := h
      rw [hd] at h
      simp only [Env.setD, Env.set_same] at h
      exact ⟨hI _ _ hw h.1, hR _ _ h.1, h.2⟩
    cases r with
    | halt x w' => exact h1.elim
    | ok x w' =>
      cases x <;> simp only at h1 ⊢
      case value v => exact fin _ _ h1
      case skip => exact fin _ _ h1
      case enter f args => exact h1.mono fun x w'' ⟨v, hv, hx⟩ => ⟨v, hv, fin _ _ hx⟩
      case row row args => exact h1.mono fun v w'' hx => fin _ _ hx
  · rw [if_neg hwt] at h1 ⊢
    have h : Below w.heap.size w w ∧ V (e'.setD o.dst undef d) w := h1
    rw [hd] at h
    simp only [Env.setD, Env.set_same] at h
    exact h.2
/-- Where the parts are known, whatever has been appended. -/
theorem RgM.spec {o : Op} {d : Tmp} (V : Spec) (hd : dOk n (some d) = true) (hs : notSelect o = true) (hd0 : Nat.beq d d0 = false) (hk : (E.map (·.1)).contains d = false) (E' : Open) (hE : sub ((⟨some d, o, ty, pos, after, guard⟩ : Oper).looksAt ops) E = E')
    (hst : ∀ v w w', V v w → RB base w w' → V v w')
    (h : ∀ w A m c xs, base ≤ w.heap.size → St w0 M w (.app A m c el sz xs :: L) → AllE w (fun e => WpL P n ops (fun e' w' => Below w.heap.size w w' ∧ V (e' d) w') [⟨some d, o, ty, pos, after, guard⟩] e w) E' e)
    (hr : RgM P n ops w0 M A m c el sz xs ys k L base d0 Fin rest e (E ++ [(d, V)])) : RgM P n ops w0 M A m c el sz xs ys k L base d0 Fin (⟨some d, o, ty, pos, after, guard⟩ :: rest) e E := fun hn => by
  subst hE
  have hk : d ∉ E.map (·.1) := by simpa using hk
  have hne : ¬ (some d = some d0) := fun h => by injection h with h; subst h; rw [Nat.beq_refl] at hd0; cases hd0
  refine ⟨V, hd, hst, ?_, ?_⟩
  · unfold Ob3
    rw [if_neg hne]
    refine ⟨one_obI2 (n := n) rfl hs hn (fun w w' h hb => h.below hb) (fun w w' hb => .below hb) fun w hw => h w _ _ _ _ hw.1 hw.2, fun x => one_obI2 (n := n) rfl hs hn (fun w w' h hb => ?_) (fun w w' hb => .below hb) fun w hw => ?_⟩
    · obtain ⟨A', c', h1, h2, h3, h4⟩ := h
      exact ⟨A', c', h1, h2, Nat.le_trans h3 hb.size, h4.below hb⟩
    · obtain ⟨A', c', h1, h2⟩ := hw.is
      exact h w _ _ _ _ h1 h2
  have : setG (gam e E) (some d) V = gam e (E ++ [(d, V)]) := funext fun t => by
    unfold setG
    rw [gam_last hk]
    by_cases ht : t = d
    · subst ht; rw [if_pos rfl, if_pos rfl]
    · rw [if_neg (fun h => ht (by injection h with h; exact h.symm)), if_neg ht]
  simp only [this]
  refine hr ?_
  simp only [List.map_append, List.map_cons, List.map_nil]
  exact List.nodup_append.2 ⟨hn, by simp, fun a ha b hb => by simp only [List.mem_singleton] at hb; subst hb; exact fun h => hk (h ▸ ha)⟩
theorem RgM.known {o : Op} {d : Tmp} {v : Value} (hd : dOk n (some d) = true) (hs : notSelect o = true) (hd0 : Nat.beq d d0 = false) (hk : (E.map (·.1)).contains d = false) (E' : Open) (hE : sub ((⟨some d, o, ty, pos, after, guard⟩ : Oper).looksAt ops) E = E')
    (h : ∀ w A m c xs, base ≤ w.heap.size → St w0 M w (.app A m c el sz xs :: L) → AllE w (fun e => WpL P n ops (fun e' w' => Below w.heap.size w w' ∧ e' d = v) [⟨some d, o, ty, pos, after, guard⟩] e w) E' e)
    (hr : RgM P n ops w0 M A m c el sz xs ys k L base d0 Fin rest (e.set d v) E) : RgM P n ops w0 M A m c el sz xs ys k L base d0 Fin (⟨some d, o, ty, pos, after, guard⟩ :: rest) e E := fun hn => by
  subst hE
  have hk : d ∉ E.map (·.1) := by simpa using hk
  have hne : ¬ (some d = some d0) := fun h => by injection h with h; subst h; rw [Nat.beq_refl] at hd0; cases hd0
  refine ⟨fun u _ => u = v, hd, fun _ _ _ h _ => h, ?_, ?_⟩
  · unfold Ob3
    rw [if_neg hne]
    refine ⟨one_obI2 (n := n) rfl hs hn (fun w w' h hb => h.below hb) (fun w w' hb => .below hb) fun w hw => h w _ _ _ _ hw.1 hw.2, fun x => one_obI2 (n := n) rfl hs hn (fun w w' h hb => ?_) (fun w w' hb => .below hb) fun w hw => ?_⟩
    · obtain ⟨A', c', h1, h2, h3, h4⟩ := h
      exact ⟨A', c', h1, h2, Nat.le_trans h3 hb.size, h4.below hb⟩
    · obtain ⟨A', c', h1, h2⟩ := hw.is
      exact h w _ _ _ _ h1 h2
  have : setG (gam e E) (some d) (fun u _ => u = v) = gam (e.set d v) E := funext fun t => by
    unfold setG
    by_cases ht : t = d
    · subst ht; rw [if_pos rfl, gam_off hk, Env.set_same]
    · rw [if_neg (fun h => ht (by injection h with h; exact h.symm)), gam_set ht]
  simp only [this]
  exact hr hn
theorem RgM.det {o : Op} {d : Tmp} {v : Value} (hd : dOk n (some d) = true) (hs : notSelect o = true) (hd0 : Nat.beq d d0 = false) (hk : (E.map (·.1)).contains d = false) (hE : sub ((⟨some d, o, ty, pos, after, none⟩ : Oper).looksAt ops) E = [])
    (h : Det P (fun w => St w0 M w L) o ty e v) (hr : RgM P n ops w0 M A m c el sz xs ys k L base d0 Fin rest (e.set d v) E) : RgM P n ops w0 M A m c el sz xs ys k L base d0 Fin (⟨some d, o, ty, pos, after, none⟩ :: rest) e E :=
  RgM.known hd hs hd0 hk [] hE (fun w A m c xs _ hw => WpL.det hd (fun _ _ _ _ w' hw' => by subst hw'; exact h _ _ _ _ _ hw.tail) ⟨Below.refl _ _, Env.set_same _ _ _⟩) hr
theorem RgM.ld {t : TypeId} {d : Tmp} {x : Operand} {v : Value} [Cell1 P t] {a : Addr} (hd : dOk n (some d) = true) (hd0 : Nat.beq d d0 = false) (hk : (E.map (·.1)).contains d = false) (hE : sub ((⟨some d, .load t x, ty, pos, after, none⟩ : Oper).looksAt ops) E = [])
    (hx : e.eval x = .pointer (some a)) (hA : Look L a v) (hr : RgM P n ops w0 M A m c el sz xs ys k L base d0 Fin rest (e.set d v) E) : RgM P n ops w0 M A m c el sz xs ys k L base d0 Fin (⟨some d, .load t x, ty, pos, after, none⟩ :: rest) e E :=
  RgM.det hd rfl hd0 hk hE (Det.load1 hx fun _ hw => hA.cell hw) hr
/-- A new slice of what is known. -/
def NewB (base : Nat) (el : TypeId) (k : Nat) (ys : List Value) : Spec := fun x w' => ∃ g, x = .slice (some ⟨g, 0, none⟩) k k ∧ base ≤ g ∧ Blk w' g el ys.toArray
theorem RgM.app {t : TypeId} [ht : SliceT P t el] {bytes : Nat} {z : Value} [he : Elem P el sz bytes z] {x : Operand} {d y : Tmp} (hd : dOk n (some d) = true) (hd0 : Nat.beq d d0 = true) (hk : (E.map (·.1)).contains d = false)
    (hE : sub ((⟨some d, .call { callee := .builtin .append, args := #[x, .tmp y], argTypes := #[t, t] }, ty, pos, after, none⟩ : Oper).looksAt ops) E = [(y, NewB base el k ys)])
    (hx : e.eval x = .slice A m c) (hxy : x ≠ .tmp y) (hfeet : ∀ g, (Ch.app A m c el sz xs).foot = some g → g < base) (hlen : ys.length = k * sz) (hk0 : k ≠ 0) (h1 : ∀ u ∈ ys, u.oneCell' = true) (hb : (m + k) * bytes ≤ 140737488355328) (hm : m + k ≤ 9223372036854775807)
    (hr : RgM P n ops w0 M A m c el sz xs ys k L base d0 Fin rest e (E ++ [(d, fun _ _ => True)])) :
    RgM P n ops w0 M A m c el sz xs ys k L base d0 Fin (⟨some d, .call { callee := .builtin .append, args := #[x, .tmp y], argTypes := #[t, t] }, ty, pos, after, none⟩ :: rest) e E := fun hn => by
  have hk : d ∉ E.map (·.1) := by simpa using hk
  obtain rfl := Nat.eq_of_beq_eq_true hd0
  refine ⟨fun _ _ => True, hd, fun _ _ _ _ _ => trivial, ?_, ?_⟩
  · unfold Ob3
    rw [if_pos rfl]
    refine ⟨fun e1 w hw hg => ⟨rfl, ?_⟩, rfl⟩
    have hyE : (y, NewB base el k ys) ∈ sub ((⟨some d, .call { callee := .builtin .append, args := #[x, .tmp y], argTypes := #[t, t] }, ty, pos, after, none⟩ : Oper).looksAt ops) E := by rw [hE]; exact List.mem_singleton_self _
    obtain ⟨hyE1, hyL⟩ := List.mem_filter.1 hyE
    have hyl : y ∈ (⟨some d, .call { callee := .builtin .append, args := #[x, .tmp y], argTypes := #[t, t] }, ty, pos, after, none⟩ : Oper).looksAt ops := by simpa using hyL
    have hy : e1.eval (.tmp y) = e1 y := rfl
    have hgy := hg y hyl
    have hgy2 : NewB base el k ys (e1 y) w := by
      have : ∀ {E : Open}, (E.map (·.1)).Nodup → (y, NewB base el k ys) ∈ E → gam e E y (e1 y) w → NewB base el k ys (e1 y) w := fun {E} => by
        induction E with
        | nil => intro _ h; cases h
        | cons p E ih =>
          intro hn hm hg
          obtain ⟨u, V⟩ := p
          have hn' := List.nodup_cons.1 hn
          unfold gam at hg
          rcases List.mem_cons.1 hm with h | h
          · injection h with h2 h3
            subst h2 h3
            simpa using hg
          · have hne : ¬ (y = u) := fun hh => hn'.1 (by subst hh; exact List.mem_map.2 ⟨_, h, rfl⟩)
            rw [if_neg hne] at hg
            exact ih hn'.2 h hg
      exact this hn hyE1 hgy
    obtain ⟨g, hyv, hgb, hblk⟩ := hgy2
    have hx1 : e1.eval x = .slice A m c := by
      rw [← hx]
      cases x with
      | tmp u =>
        have hul : u ∈ (⟨some d, .call { callee := .builtin .append, args := #[.tmp u, .tmp y], argTypes := #[t, t] }, ty, pos, after, none⟩ : Oper).looksAt ops := List.mem_append_left _ (List.mem_filterMap.2 ⟨.tmp u, by simp [Op.operands, Call.operands], rfl⟩)
        have h2 : u ∉ E.map (·.1) := fun h3 => by
          obtain ⟨⟨u', V⟩, h4, rfl⟩ := List.mem_map.1 h3
          have : (u', V) ∈ sub ((⟨some d, .call { callee := .builtin .append, args := #[.tmp u', .tmp y], argTypes := #[t, t] }, ty, pos, after, none⟩ : Oper).looksAt ops) E := List.mem_filter.2 ⟨h4, by simpa using hul⟩
          rw [hE] at this
          have := List.mem_singleton.1 this
          injection this with h5 _
          exact hxy (by rw [h5])
        have h1 := hg u hul
        rw [gam_off h2] at h1
        exact h1
      | _ => rfl
    have hrd : Rd w (some ⟨g, 0, none⟩) ys := .inr ⟨_, rfl, fun j u hu => by rw [add_mk, Nat.zero_add, hblk.cell]; simpa using hu⟩
    obtain ⟨A', c', w', hrun, h2, h3, h4, h5⟩ := run_appendA (P := P) (t := t) (ty := ty) (c2 := k) (hw.2.hold _ List.mem_cons_self).1 hrd hlen hk0 h1 hb hm
    have hex : (execOp e1.eval ⟨some d, .call { callee := .builtin .append, args := #[x, .tmp y], argTypes := #[t, t] }, ty, pos, after, none⟩).run P w = .ok (.value (.slice A' (m + k) c')) w' := by
      simp [execOp, resolve, invoke, builtin, hx1, hy, hyv, hrun]
    unfold RunsTo
    rw [hex]
    refine ⟨⟨A', c', rfl, h3, Nat.le_trans hw.1 h4.size, hw.2.put (d := .app A' (m + k) c' el sz (xs ++ ys)) ⟨h4.os, h4.tape, h4.output, h4.size, fun k hk hf => h4.block k hk fun hk' => hf hk'⟩ h2 rfl fun g hg => ?_⟩, h4.size, fun j h6 h7 => h4.block j h7 fun h8 => ?_⟩
    · rcases h5 with h5 | ⟨g', h5, h6⟩
      · left
        simp only [Ch.foot] at hg ⊢
        rw [← h5]; exact hg
      · right
        simp only [Ch.foot] at hg
        rw [h5] at hg
        injection hg with hg
        omega
    · have := hfeet j h8
      omega
  have : setG (gam e E) (some d) (fun _ _ => True) = gam e (E ++ [(d, fun _ _ => True)]) := funext fun t => by
    unfold setG
    rw [gam_last hk]
    by_cases ht : t = d
    · subst ht; rw [if_pos rfl, if_pos rfl]
    · rw [if_neg (fun h => ht (by injection h with h; exact h.symm)), if_neg ht]
  simp only [this]
  refine hr ?_
  simp only [List.map_append, List.map_cons, List.map_nil]
  exact List.nodup_append.2 ⟨hn, by simp, fun a ha b hb => by simp only [List.mem_singleton] at hb; subst hb; exact fun h => hk (h ▸ ha)⟩
end
section
variable {P : Program} {n : Nat} {l : List Oper} {w w0 : World} {M : Nat → Prop} {Q : PostD} {e : Env} {ro : Option Nat} {ds : List Deferred} {A : Option Addr} {m c : Nat} {el : TypeId} {sz : Nat} {xs ys : List Value} {k : Nat} {L : List Ch}
/-- THE RULE: the s-th of N operations appends ys to what xs tells. -/
theorem WpG.drawApp (N s d0 k : Nat) (ys : List Value) {id : Nat} (hS : St w0 M w (.app A m c el sz xs :: L)) (hm : P.follows .mixedOrders = true) (hok : rgOk l N = true) (hN : Nat.ble N l.length = true) (hsk : markOk l N s d0 = true)
    (h : RgM P n l.toArray w0 M A m c el sz xs ys k L w.heap.size d0 (fun Γ => ∀ e' w', IA w0 M L w.heap.size (m + k) el sz (xs ++ ys) (e' d0) w' → (∀ t, Γ t (e' t) w') → WpL P n l.toArray (Q .normal ds) (l.drop N) e' w') (l.take N) e []) :
    WpG ro P n ds (.region id l.toArray true) Q e w :=
  WpG.drawM N s d0 (IS w0 M (.app A m c el sz xs :: L) w.heap.size) (IA w0 M L w.heap.size (m + k) el sz (xs ++ ys)) (RB w.heap.size) hm hok (Nat.le_of_ble_eq_true hN) (fun w => RB.refl w) ⟨Nat.le_refl _, hS.drew⟩ hsk (RgLG.mono (fun Γ h e' w' h1 h2 => (h e' w' h1 h2).toY) (h (by simp)))
theorem RgM.fin {ops ops' : Array Oper} {K : Env → World → Prop} {tail : List Oper} {base d0 y : Nat} {V : Spec} (hyd : Nat.beq y d0 = false)
    (h : ∀ w A' c' u, IsVw A' (m + k) c' A' 0 → St w0 M w (.app A' (m + k) c' el sz (xs ++ ys) :: L) → WpL P n ops' K tail ((e.set y u).set d0 (.slice A' (m + k) c')) w) :
    RgM P n ops w0 M A m c el sz xs ys k L base d0 (fun Γ => ∀ e' w', IA w0 M L base (m + k) el sz (xs ++ ys) (e' d0) w' → (∀ t, Γ t (e' t) w') → WpL P n ops' K tail e' w') [] e [(y, V), (d0, fun _ _ => True)] := by
  intro hn e' w' hB hg
  obtain ⟨A', c', hv, h1, h2, h3⟩ := hB
  have hne : y ≠ d0 := fun h => by subst h; rw [Nat.beq_refl] at hyd; cases hyd
  have he : e' = ((e.set y (e' y)).set d0 (.slice A' (m + k) c')) := funext fun t => by
    by_cases h4 : t = d0
    · subst h4; rw [Env.set_same]; exact hv
    · rw [Env.set_other _ _ h4]
      by_cases h5 : t = y
      · subst h5; rw [Env.set_same]
      · rw [Env.set_other _ _ h5]
        have := hg t
        simpa [gam, h4, h5] using this
  rw [he]
  exact h w' A' c' _ h1 h3
end
end Go.Fk

namespace Go.Fk
open Go.RowKit
theorem WpG.loopCnt {P : Program} {N : Nat} {ro : Option Nat} {ds : List Deferred} {Q : PostD} {e : Env} {w : World} {c : Code} (t : Tmp) (M : Nat) (I : Nat → List Deferred → Env → World → Prop) (hI : ∀ k ds e w, I k ds e w → k ≤ M ∧ e t = .int .i64 (k : Int)) {k0 : Nat} (h0 : I k0 ds e w)
    (round : ∀ k ds e w, I k ds e w → WpG ro P N ds c (thenD (fun ds' e' w' => k < M ∧ I (k + 1) ds' e' w') Q) e w) : WpG ro P N ds (.loop c) Q e w := by
  refine WpG.loop (fun ds e w => ∃ k, I k ds e w) (fun e _ => match e t with | .int _ k => M - k.toNat | _ => 0) ⟨k0, h0⟩ fun ds e w ⟨k, hk⟩ => ?_
  refine (round k ds e w hk).mono fun x ds' e' w' hx => ?_
  cases x with
  | normal =>
    obtain ⟨h1, h2⟩ := hx
    refine ⟨⟨k + 1, h2⟩, ?_⟩
    rw [(hI _ _ _ _ hk).2, (hI _ _ _ _ h2).2]
    dsimp only
    omega
  | _ => exact hx
theorem St.new2 {w0 w w' : World} {M : Nat → Prop} {L : List Ch} {c1 c2 : Ch} (hS : St w0 M w L) (hb : Below w.heap.size w w') (h1 : c1.Is w') (r1 : c1.isRo = false) (f1 : ∀ g, c1.foot = some g → w.heap.size ≤ g) (h2 : c2.Is w') (r2 : c2.isRo = false) (f2 : ∀ g, c2.foot = some g → w.heap.size ≤ g) (hoff : Off c1 c2) : St w0 M w' (c1 :: c2 :: L) := by
  have h := hS.new hb h2 r2 f2
  refine ⟨h.chg, fun c hc => ?_, List.pairwise_cons.2 ⟨fun c hc => ?_, h.apart⟩⟩
  · rcases List.mem_cons.1 hc with rfl | hc
    · refine ⟨h1, ?_⟩
      have := hS.chg.size
      cases c with
      | ro A xs => cases r1
      | blk g t cs => exact fun k hk => .inl (Nat.le_trans this (f1 k hk))
      | own A n c el sz xs => exact fun k hk => .inl (Nat.le_trans this (f1 k hk))
      | app A n c el sz xs => exact fun k hk => .inl (Nat.le_trans this (f1 k hk))
      | obj g o => exact fun k hk => .inl (Nat.le_trans this (f1 k hk))
    · exact h.hold c hc
  · rcases List.mem_cons.1 hc with rfl | hc
    · exact hoff
    · intro g hg hg'
      have := f1 g hg
      have := St.feet_lt hS c hc g hg'
      omega
end Go.Fk
namespace Go.Proofs.Ytaapnfoimcccjaa
open Go.Fk Go.RowKit
attribute [local irreducible] Wp WpL Det thenQ blockQ WpG thenD blockG
instance elemBytes : Elem Try.prog 49 1 24 (.slice none 0 0) := ⟨by kernel_rfl, rfl, by decide⟩
def blkB (b : Bk) : List UInt8 := UInt8.ofNat b.st :: Crc.loB b.er 4
def dieB (l : List Bk) : List UInt8 := l.flatMap blkB
def poolB (nb : Nat) (X : List (List Bk)) : List UInt8 := [UInt8.ofNat X.length, UInt8.ofNat nb] ++ X.flatMap dieB
theorem blkB_length (b : Bk) : (blkB b).length = 5 := by simp [blkB, Crc.loB_length]
theorem dieB_length (l : List Bk) : (dieB l).length = l.length * 5 := by
  induction l with
  | nil => rfl
  | cons b l ih => simp only [dieB, List.flatMap_cons, List.length_append, blkB_length] at ih ⊢; rw [ih, List.length_cons]; omega
theorem dieB_step {l : List Bk} {i : Nat} (h : i < l.length) : dieB (l.take (i + 1)) = dieB (l.take i) ++ blkB (l.getD i ⟨0, 0⟩) := by
  rw [take_snocB h, dieB, dieB, List.flatMap_append]
  simp
theorem flatDies_length {nb : Nat} {X : List (List Bk)} (h : ∀ l ∈ X, l.length = nb) : (X.flatMap dieB).length = X.length * (nb * 5) := by
  induction X with
  | nil => simp
  | cons l X ih =>
    rw [List.flatMap_cons, List.length_append, dieB_length, h l List.mem_cons_self, ih fun l hl => h l (List.mem_cons_of_mem _ hl), List.length_cons, Nat.add_mul]
    omega
theorem poolB_length {nb : Nat} {X : List (List Bk)} (h : ∀ l ∈ X, l.length = nb) : (poolB nb X).length = 2 + X.length * (nb * 5) := by
  rw [poolB, List.length_append, flatDies_length h]; rfl
/-- The dies beside one. -/
def restC (nb : Nat) (ps : Dies) (d : Nat) (L : List Ch) : List Ch := rowsC nb (ps.take d) ++ (rowsC nb (ps.drop (d + 1)) ++ L)
theorem rowsC_die {nb : Nat} {ps : Dies} {d : Nat} (hd : d < ps.length) (L : List Ch) : List.Perm (rowsC nb ps ++ L) (.own ps[d].1 nb nb 60 2 (kv ps[d].2) :: restC nb ps d L) := by
  have hsp : ps = ps.take d ++ ps[d] :: ps.drop (d + 1) := by rw [← List.drop_eq_getElem_cons hd, List.take_append_drop]
  have hC : rowsC nb ps ++ L = rowsC nb (ps.take d) ++ (.own ps[d].1 nb nb 60 2 (kv ps[d].2) :: (rowsC nb (ps.drop (d + 1)) ++ L)) := by
    rw [(congrArg (rowsC nb) hsp).trans (rowsC_mid _ _ _ _), List.append_assoc, List.cons_append]
  rw [hC]
  exact List.perm_middle
section
variable {w w0 : World} {M : Nat → Prop} {L : List Ch} {g nd nb : Nat} {X : List (List Bk)}
set_option maxHeartbeats 4000000 in
theorem bytesS {D : Option Addr} {cd : Nat} {ps : Dies} (hnb : 1 ≤ nb ∧ nb ≤ 64) (hnd : 1 ≤ nd ∧ nd ≤ 8) (hok : PoolOk D nd cd nb ps) (hS : St w0 M w (poolL g D nd cd nb ps L)) :
    Calls Try.prog 24 #[.pointer (some ⟨g, 0, none⟩)] w fun x w' => ∃ A c, x = .returned (.slice A ((poolB nb (ps.map (·.2))).length + 4) c) ∧ IsVw A ((poolB nb (ps.map (·.2))).length + 4) c A 0 ∧
      St w0 M w' (poolL g D nd cd nb ps (.own A ((poolB nb (ps.map (·.2))).length + 4) c 5 1 (bv (Crc.sealed (poolB nb (ps.map (·.2))))) :: L)) := by
  have hnd2 := hnd.2
  have hnb2 := hnb.2
  have hpl := hok.len
  have hrow0 : (rowsV nb ps)[0]? = some (.slice (ps[0]'(by omega)).1 nb nb) := by rw [rowsV, List.getElem?_map, List.getElem?_eq_getElem (by omega)]; rfl
  have hD := hok.vw
  generalize (ps[0]'(by omega)).1 = A0 at hrow0
  (refine calls_ofG (P := Try.prog) _ Try.func24 rfl Try.ntmps24 (Nat.le_of_ble_eq_true rfl) ?_; dsimp only [argE, Nat.reduceAdd])
  (refine Reach.walkG ?_; (repeat (first | ((with_reducible refine AllSt.mk ?_); (try clear hS); intro w hS) | ((with_reducible refine AllVw.mk ?_); intro V hV))))
  (refine WpG.drawD 16 (by kernel_rfl) (by kernel_rfl) rfl ?_; dsimp only [List.take, List.drop])
  (refine Reach.rwalk ?_; (repeat (first | ((with_reducible refine AllSt.mk ?_); (try clear hS); intro w hS) | ((with_reducible refine AllVw.mk ?_); intro V hV))))
  refine RgD.ld hS rfl rfl rfl rfl (.there (Look.own hrow0)) ?_
  (refine Reach.rwalk ?_; (repeat (first | ((with_reducible refine AllSt.mk ?_); (try clear hS); intro w hS) | ((with_reducible refine AllVw.mk ?_); intro V hV))))
  refine RgD.spec0 (fun x w2 => ∃ g2, x = .slice (some ⟨g2, 0, none⟩) 2 2 ∧ w.heap.size ≤ g2 ∧ Blk w2 g2 5 (bv [UInt8.ofNat nd, UInt8.ofNat nb]).toArray) rfl rfl rfl rfl (fun x w w' ⟨g, h, h1, h2⟩ hb => ⟨g, h, h1, h2.stay hb⟩) (fun w5 hb5 => ?_) ?_
  · refine WpL.buildSlice rfl BVals.found (oneAll_spec rfl) rfl (by decide) ?_
    intro w6 hb6 hs6 hg6
    refine WpL.nil ⟨⟨hb5.on hb6, hb6⟩, _, Env.set_same _ _ _, hb5.size, ?_⟩
    have e1 : bv [UInt8.ofNat nd, UInt8.ofNat nb] = [.int .u8 (nd : Int), .int .u8 (nb : Int)] := by
      simp only [bv, List.map_cons, List.map_nil, UInt8.toNat_ofNat', Nat.reducePow]
      rw [Nat.mod_eq_of_lt (by omega), Nat.mod_eq_of_lt (by omega)]
    rw [e1]
    exact hg6
  refine RgD.spec0 (fun x w2 => ∃ g3, x = .pointer (some ⟨g3, 0, none⟩) ∧ w.heap.size ≤ g3 ∧ Blk w2 g3 49 #[.slice none 0 0]) rfl rfl rfl rfl (fun x w w' ⟨g, h, h1, h2⟩ hb => ⟨g, h, h1, h2.stay hb⟩) (fun w5 hb5 => ?_) ?_
  · refine WpL.alloc rfl ?_
    intro w6 hb6 hs6 hg6
    exact WpL.nil ⟨⟨hb5.on hb6, hb6⟩, _, Env.set_same _ _ _, hb5.size, hg6⟩
  refine RgD.fin fun w1 hb1 => ?_
  rintro _ ⟨g2, rfl, hg2, hB2⟩ _ ⟨g3, rfl, hg3, hB3⟩
  have hne : g2 ≠ g3 := fun e => by
    subst e
    have h5 := congrArg List.length (congrArg Array.toList (Obj.cells.inj (Option.some.inj (hB2.symm.trans hB3))).1)
    simp [bv] at h5
  replace hS : St w0 M w1 (.app (some ⟨g2, 0, none⟩) 2 2 5 1 (bv [UInt8.ofNat nd, UInt8.ofNat nb]) :: .blk g3 49 [.slice none 0 0] :: poolL g D nd cd nb ps L) :=
    hS.new2 hb1 (.inl ⟨by simp, .inr ⟨g2, 2, _, rfl, Nat.zero_le _, hB2, Nat.le_refl _, by decide, by simp, by simp [bv]⟩⟩) rfl (fun k hk => by simp [Ch.foot] at hk; omega) hB3 rfl (fun k hk => by simp [Ch.foot] at hk; omega)
      (fun k h1 h2 => by simp [Ch.foot] at h1 h2; omega)
  clear hB2 hB3 hb1 hrow0 hne
  show WpL _ _ _ _ _ _ _
  (refine Reach.walkG ?_; (repeat (first | ((with_reducible refine AllSt.mk ?_); (try clear hS); intro w hS) | ((with_reducible refine AllVw.mk ?_); intro V hV))))
  refine WpG.loopCnt 29 nd (fun k ds e w' => k ≤ nd ∧ ∃ (Ds : List Nat) (A : Option Addr) (c : Nat), ds = Ds.map markD ∧ IsVw A (2 + k * (nb * 5)) c A 0 ∧
      St w0 M w' (.app A (2 + k * (nb * 5)) c 5 1 (bv ([UInt8.ofNat nd, UInt8.ofNat nb] ++ ((ps.map (·.2)).take k).flatMap dieB)) :: .blk g3 49 [.slice A (2 + k * (nb * 5)) c] :: poolL g D nd cd nb ps (Ds.map (fun D => .obj D (.deferred (some []))) ++ L)) ∧
      e.Has [(29, .int .i64 (k : Nat)), (28, .int .i64 (nd : Nat)), (0, .pointer (some ⟨g, 0, none⟩)), (3, .pointer (some ⟨g3, 0, none⟩))]) (fun k ds e w ⟨h1, _, _, _, _, _, _, h2⟩ => ⟨h1, h2.1⟩) (k0 := 0) ?_ ?_
  · refine ⟨Nat.zero_le _, [], some ⟨g2, 0, none⟩, 2, rfl, ?_, ?_, rfl, rfl, rfl, rfl, trivial⟩
    · rw [Nat.zero_mul]; exact IsVw.base (Nat.le_refl _) (by decide) (by simp)
    · rw [Nat.zero_mul, List.take_zero]; exact hS
  clear hS
  rintro k ds e w ⟨hk, Ds, A, c, rfl, hA, hS, he⟩
  obtain ⟨e0, rfl⟩ := he.eq
  clear he
  dsimp only [Env.sets]
  by_cases hlt : k < nd
  rotate_left
  · obtain rfl : k = nd := by omega
    have hle : k * (nb * 5) ≤ 8 * 320 := Nat.mul_le_mul hnd2 (by omega)
    have hXl : ∀ l ∈ ps.map (·.2), l.length = nb := fun l hl => by
      obtain ⟨p, hp, rfl⟩ := List.mem_map.1 hl
      exact (hok.rows p hp).2.1
    have hpB : poolB nb (ps.map (·.2)) = [UInt8.ofNat k, UInt8.ofNat nb] ++ ((ps.map (·.2)).take k).flatMap dieB := by
      rw [List.take_of_length_le (by rw [List.length_map]; omega), poolB, List.length_map, hpl]
    have hpBl : (poolB nb (ps.map (·.2))).length = 2 + k * (nb * 5) := by rw [poolB_length hXl, List.length_map, hpl]
    rw [← hpB] at hS
    rw [hpBl]
    generalize hDm : Ds.map (fun D => Ch.obj D (.deferred (some []))) = Dm at hS
    (refine Reach.walkG ?_; (repeat (first | ((with_reducible refine AllSt.mk ?_); (try clear hS); intro w hS) | ((with_reducible refine AllVw.mk ?_); intro V hV))))
    (with_reducible apply WpL.call); (· exact rfl); (· exact Try.call39); (· exact Vals.found)
    refine (sealS hS RdsV.found (by omega)).mono ?_
    clear hS
    rintro x w ⟨A2, c2, rfl, hA2, hS⟩
    refine ⟨_, rfl, ?_⟩
    (refine Reach.walkG ?_; (repeat (first | ((with_reducible refine AllSt.mk ?_); (try clear hS); intro w hS) | ((with_reducible refine AllVw.mk ?_); intro V hV))))
    replace hS := hS.sub (.cons_cons _ ((List.sublist_cons_self _ _).trans (List.sublist_cons_self _ _)))
    replace hS : St w0 M w (Dm ++ (poolL g D k cd nb ps (.own A2 (2 + k * (nb * 5) + 4) c2 5 1 (bv (Crc.sealed (poolB nb (ps.map (·.2))))) :: L))) := by
      refine hS.perm ?_
      refine (List.perm_append_comm_assoc (_ :: .blk g _ _ :: .own D _ _ _ _ _ :: rowsC nb ps) Dm L).trans ?_
      refine List.Perm.append_left Dm ?_
      refine List.Perm.trans (List.Perm.swap _ _ _) (List.Perm.cons _ (List.Perm.trans (List.Perm.swap _ _ _) (List.Perm.cons _ ?_)))
      exact List.perm_middle.symm
    subst hDm
    refine leaveG_marks (fun w hS => ?_) Ds _ hS
    (with_reducible apply doneQ_one Try.results24); (· exact slotFound)
    exact ⟨A2, c2, rfl, hA2, hS⟩
  have hkl : k < ps.length := by omega
  have hrowk : (rowsV nb ps)[k]? = some (.slice ps[k].1 nb nb) := by rw [rowsV, List.getElem?_map, List.getElem?_eq_getElem hkl]; rfl
  obtain ⟨hAk, hlk, hfk⟩ := hok.rows ps[k] (List.getElem_mem hkl)
  have hstep : ((ps.map (·.2)).take (k + 1)).flatMap dieB = ((ps.map (·.2)).take k).flatMap dieB ++ dieB ps[k].2 := by
    have e1 : (ps.map (·.2)).take (k + 1) = (ps.map (·.2)).take k ++ [ps[k].2] := by
      rw [List.take_add_one, List.getElem?_map, List.getElem?_eq_getElem hkl]; rfl
    rw [e1, List.flatMap_append]; simp
  have hperm := rowsC_die (nb := nb) hkl (Ds.map (fun D => Ch.obj D (.deferred (some []))) ++ L)
  have hXl : ∀ l ∈ ps.map (·.2), l.length = nb := fun l hl => by
    obtain ⟨p, hp, rfl⟩ := List.mem_map.1 hl
    exact (hok.rows p hp).2.1
  have hlen0 : ([UInt8.ofNat nd, UInt8.ofNat nb] ++ ((ps.map (·.2)).take k).flatMap dieB).length = 2 + k * (nb * 5) := by
    rw [List.length_append, flatDies_length (nb := nb) fun l hl => hXl l (List.mem_of_mem_take hl), List.length_take, List.length_map, Nat.min_eq_left (by omega)]; rfl
  have hn1 : 2 + (k + 1) * (nb * 5) = 2 + k * (nb * 5) + nb * 5 := by rw [Nat.add_mul]; omega
  have hle : k * (nb * 5) ≤ 8 * 320 := Nat.mul_le_mul (by omega) (by omega)
  have hn0 : 2 + k * (nb * 5) ≤ 2562 := by omega
  rw [hn1, hstep, ← List.append_assoc]
  generalize 2 + k * (nb * 5) = n0 at *
  generalize hB0 : [UInt8.ofNat nd, UInt8.ofNat nb] ++ ((ps.map (·.2)).take k).flatMap dieB = B0 at *
  generalize hDm : Ds.map (fun D => Ch.obj D (.deferred (some []))) = Dm at *
  generalize hRC : restC nb ps k (Dm ++ L) = RC at hperm
  generalize ps[k].1 = Ak at *
  generalize ps[k].2 = l at *
  (refine Reach.walkG ?_; (repeat (first | ((with_reducible refine AllSt.mk ?_); (try clear hS); intro w hS) | ((with_reducible refine AllVw.mk ?_); intro V hV))))
  (with_reducible apply WpL.call); (· exact rfl); (· exact Try.call30); (· exact Vals.found)
  refine (of_any hS).mono ?_
  clear hS
  rintro x w ⟨g1, g2, rfl, hS⟩
  refine ⟨_, rfl, ?_⟩
  (refine Reach.walkG ?_; (repeat (first | ((with_reducible refine AllSt.mk ?_); (try clear hS); intro w hS) | ((with_reducible refine AllVw.mk ?_); intro V hV))))
  refine WpG.rangeFunc (ps := [35, 36]) (w0 := w0) (M := M) (Γ0 := RC) (Lc := [.app A n0 c 5 1 (bv B0), .blk g3 49 [.slice A n0 c], .own Ak nb nb 60 2 (kv l)])
    (of_iter_in (g := g) (g1 := g1) (g2 := g2) (rows := rowsV nb ps) hD hlt hrowk hAk (by omega) (by omega)) rfl Try.call42 (fun _ => rfl) (by decide)
    (fun pre Lc => ∃ A c, IsVw A (n0 + pre.length * 5) c A 0 ∧ Lc = [.app A (n0 + pre.length * 5) c 5 1 (bv (B0 ++ dieB (l.take pre.length))), .blk g3 49 [.slice A (n0 + pre.length * 5) c], .own Ak nb nb 60 2 (kv l)])
    (fun c pre Lc => False) ?hS ⟨A, c, hA, by simp [dieB]⟩ ?body ?done ?stop
  case hS =>
    have h2 : St w0 M w (.blk g1 _ _ :: .blk g2 _ _ :: .app A _ _ _ _ _ :: .blk g3 _ _ :: .blk g _ _ :: .own D _ _ _ _ _ :: .own Ak _ _ _ _ _ :: RC) := hS.perm (List.Perm.append_left [_, _, _, _, _, _] hperm)
    have h3 := h2.take (pre := [.app A _ _ _ _ _, .blk g3 _ _, .own Ak _ _ _ _ _, .blk g1 _ _, .blk g2 _ _, .blk g _ _, .own D _ _ _ _ _]) Take.found
    exact h3
  case body =>
    clear hS
    rintro r pre x rest _ Γ' w o hx ⟨A, c, hA, rfl⟩ hS
    obtain ⟨hpl, hxn⟩ := range_mid hx
    simp only [List.cons_append, List.nil_append] at hS
    dsimp only [Env.params]
    (refine Reach.walkG ?_; (repeat (first | ((with_reducible refine AllSt.mk ?_); (try clear hS); intro w hS) | ((with_reducible refine AllVw.mk ?_); intro V hV))))
    refine ⟨rfl, _, hS, ?_⟩
    clear hS
    intro w o' hS
    rw [hpl] at hA hS
    have hpx : (pre ++ [x]).length = x + 1 := by simp [hpl]
    subst hlk
    have hst := dieB_step hxn
    have hfb := hfk _ (getD_memB hxn)
    have hdl := dieB_length (l.take x)
    rw [List.length_take, Nat.min_eq_left (by omega)] at hdl
    have hlk : Look (.obj r o' :: .blk g3 49 [.slice A (n0 + x * 5) c] :: .own Ak l.length l.length 60 2 (kv l) :: Γ') ((adr Ak).add (0 + x * 2 + 0)) (.int .i64 ((l.getD x ⟨0, 0⟩).st : Int)) :=
      .there (.there (Look.own (kv_st' hxn)))
    have hlk2 : Look (.obj r o' :: .blk g3 49 [.slice A (n0 + x * 5) c] :: .own Ak l.length l.length 60 2 (kv l) :: Γ') ((adr Ak).add (0 + x * 2 + 1)) (.int .u32 ((l.getD x ⟨0, 0⟩).er : Int)) :=
      .there (.there (Look.own (kv_er' hxn)))
    generalize l.getD x ⟨0, 0⟩ = b at *
    obtain ⟨st, er⟩ := b
    dsimp only at hlk hlk2 hfb
    replace hS := hS.swap1
    (refine Reach.walkG ?_; (repeat (first | ((with_reducible refine AllSt.mk ?_); (try clear hS); intro w hS) | ((with_reducible refine AllVw.mk ?_); intro V hV))))
    refine WpG.drawApp 12 7 44 1 [.int .u8 (st : Int)] hS (by kernel_rfl) (by kernel_rfl) rfl (by kernel_rfl) ?_
    dsimp only [List.take, List.drop]
    have hfeet := St.feet_lt hS
    (repeat (first | ((with_reducible apply RgM.ld); (· exact rfl); (· exact rfl); (· exact rfl); (· exact rfl); (· exact rfl); (· exact Look.found)) | ((with_reducible apply RgM.det); (· exact rfl); (· exact rfl); (· exact rfl); (· exact rfl); (· exact rfl); (· exact Det.found2))))
    refine RgM.spec (NewB w.heap.size 5 1 [.int .u8 (st : Int)]) rfl rfl rfl rfl [] rfl (fun v w w' ⟨g, h1, h2, h3⟩ hR => ⟨g, h1, h2, (hR.2 g h2 h3.lt).trans h3⟩) (fun w A m c xs hb hw => ?_) ?_
    · refine WpL.buildSlice rfl BVals.found (oneAll_spec rfl) rfl (by decide) ?_
      intro w6 hb6 hs6 hg6
      exact WpL.nil ⟨hb6, _, Env.set_same _ _ _, hb, hg6⟩
    refine RgM.app rfl rfl rfl rfl rfl (by simp) (fun g hg => hfeet _ List.mem_cons_self g hg) rfl (by decide) (oneAll_spec rfl) (by omega) (by omega) ?_
    (repeat (first | ((with_reducible apply RgM.ld); (· exact rfl); (· exact rfl); (· exact rfl); (· exact rfl); (· exact rfl); (· exact Look.found)) | ((with_reducible apply RgM.det); (· exact rfl); (· exact rfl); (· exact rfl); (· exact rfl); (· exact rfl); (· exact Det.found2))))
    clear hS hfeet
    refine RgM.fin rfl fun w A2 c2 u hA2 hS => ?_
    show WpL _ _ _ _ _ _ _
    (refine Reach.walkG ?_; (repeat (first | ((with_reducible refine AllSt.mk ?_); (try clear hS); intro w hS) | ((with_reducible refine AllVw.mk ?_); intro V hV))))
    have e1 : bv (B0 ++ dieB (l.take x)) ++ [Value.int .u8 (st : Int)] = bv (B0 ++ dieB (l.take x) ++ [UInt8.ofNat st]) := by
      rw [bv_append (B0 ++ dieB (l.take x))]
      simp only [bv, List.map_cons, List.map_nil, UInt8.toNat_ofNat', Nat.reducePow]
      rw [Nat.mod_eq_of_lt hfb.2]
    rw [e1] at hS
    (with_reducible apply WpL.call); (· exact rfl); (· exact Try.call38); (· exact Vals.found)
    refine (lowAppend32A_any (m := er) (by rw [List.length_append, List.length_append, hlen0, hdl]; rfl) hfb.1 (by omega) hA2 hS).mono ?_
    clear hS
    rintro _ w ⟨A3, c3, rfl, hA3, hS⟩
    refine ⟨_, rfl, ?_⟩
    (refine Reach.walkG ?_; (repeat (first | ((with_reducible refine AllSt.mk ?_); (try clear hS); intro w hS) | ((with_reducible refine AllVw.mk ?_); intro V hV))))
    replace hS := hS.swap1
    have e5 : n0 + x * 5 + 1 + 4 = n0 + (x + 1) * 5 := by omega
    have e6 : B0 ++ dieB (l.take x) ++ [UInt8.ofNat st] ++ Crc.loB er 4 = B0 ++ dieB (l.take (x + 1)) := by
      rw [hst]; simp [blkB]
    rw [e5] at hA3
    rw [e5, e6] at hS
    exact roundD.go (Lc' := [_, _, _]) ⟨A3, c3, by rw [hpx]; exact hA3, by rw [hpx]⟩ hS
  case done =>
    clear hS
    rintro D' _ w ⟨A2, c2, hA2, rfl⟩ hS
    rw [List.length_range] at hA2 hS
    rw [List.take_of_length_le (Nat.le_of_eq hlk)] at hS
    simp only [List.cons_append, List.nil_append] at hS
    (refine Reach.walkG ?_; (repeat (first | ((with_reducible refine AllSt.mk ?_); (try clear hS); intro w hS) | ((with_reducible refine AllVw.mk ?_); intro V hV))))
    refine ⟨hlt, by omega, D' :: Ds, A2, c2, rfl, hA2, ?_, int_eq (by omega), rfl, rfl, rfl, trivial⟩
    rw [List.map_cons, hDm]
    (replace hS := (hS.take (pre := [.app A2 _ _ _ _ _, .blk g3 _ _, .blk g _ _, .own D _ _ _ _ _, .obj D' _, .own Ak _ _ _ _ _]) Take.found); (try simp only [List.cons_append, List.nil_append] at hS))
    have h4 := hS.sub (.cons_cons _ (.cons_cons _ (.cons_cons _ (.cons_cons _ (.cons_cons _ (.cons_cons _ ((List.sublist_cons_self _ _).trans (List.sublist_cons_self _ _))))))))
    exact h4.perm (List.Perm.append_left [_, _, _, _] ((List.Perm.cons _ hperm.symm).trans List.perm_middle.symm))
  case stop => rintro D' c pre Lc w h; exact h.elim
theorem bytesP (hnb : 1 ≤ nb ∧ nb ≤ 64) (hnd : 1 ≤ nd ∧ nd ≤ 8) (h : PSt w0 M w g nd nb X L) :
    Calls Try.prog 24 #[.pointer (some ⟨g, 0, none⟩)] w fun x w' => ∃ A c, x = .returned (.slice A ((poolB nb X).length + 4) c) ∧ IsVw A ((poolB nb X).length + 4) c A 0 ∧
      PSt w0 M w' g nd nb X (.own A ((poolB nb X).length + 4) c 5 1 (bv (Crc.sealed (poolB nb X))) :: L) := by
  obtain ⟨D, cd, ps, hok, rfl, hS⟩ := h
  refine (bytesS hnb hnd hok hS).mono ?_
  rintro x w' ⟨A, c, rfl, hA, hS⟩
  exact ⟨A, c, rfl, hA, D, cd, ps, hok, rfl, hS⟩
end
end Go.Proofs.Ytaapnfoimcccjaa

namespace Go.Fk
open Go.RowKit
theorem doneQ_cc {P : Program} {fn : Func} {R : Ending → World → Prop} {e : Env} {w w0 : World} {M : Nat → Prop} {L : List Ch} {p q : Tmp} {ty uy : TypeId} {a b : Addr} {v u : Value} [h : Cell1 P ty] [k : Cell1 P uy] (hr : fn.results = #[.cell p ty, .cell q uy]) (hp : e p = .pointer (some a)) (hq : e q = .pointer (some b)) (hS : St w0 M w L) (hl : Look L a v) (hm : Look L b u)
    (hR : R (.returned (.tuple #[v, u])) w) : doneQ P fn R .ret e w :=
  ⟨.tuple #[v, u], fun tmps ht => by
    obtain ⟨d, hu, hd⟩ := h.hu
    obtain ⟨d', hu', hd'⟩ := k.hu
    have hagg : (isAgg ty).run P w = .ok false w := by
      unfold isAgg
      rw [Sem.run_bind, run_underlying hu w]
      cases d <;> simp_all
    have hagg' : (isAgg uy).run P w = .ok false w := by
      unfold isAgg
      rw [Sem.run_bind, run_underlying hu' w]
      cases d' <;> simp_all
    have hp' : tmps[p]?.getD undef = .pointer (some a) := by have := ht p; rw [hp] at this; simpa using this
    have hq' : tmps[q]?.getD undef = .pointer (some b) := by have := ht q; rw [hq] at this; simpa using this
    simp [results, hr, hp', hq', asAddr, loadVar, hagg, hagg', hl.cell hS, hm.cell hS], hR⟩
/-- What was made beside, put to what was known. -/
theorem St.join {w0 w wb w' : World} {M : Nat → Prop} {L L2 : List Ch} (hS : St w0 M w L) (hb : Below w.heap.size w w') (hwb : w.heap.size ≤ wb.heap.size) (h2 : St wb (feet []) w' L2) (hro : ∀ c ∈ L2, c.isRo = false) : St w0 M w' (L2 ++ L) := by
  have h := hS.below hb
  have hnew : ∀ c ∈ L2, ∀ g, c.foot = some g → wb.heap.size ≤ g := fun c hc g hg => by
    have h3 := (h2.hold c hc).2
    have h4 := hro c hc
    have no : ¬ feet [] g := fun ⟨_, h, _⟩ => by cases h
    cases c with
    | ro A xs => cases h4
    | blk g' t cs => exact (h3 g hg).resolve_right no
    | own A n c el sz xs => exact (h3 g hg).resolve_right no
    | app A n c el sz xs => exact (h3 g hg).resolve_right no
    | obj g' o => exact (h3 g hg).resolve_right no
  refine ⟨h.chg, fun c hc => ?_, List.pairwise_append.2 ⟨h2.apart, h.apart, fun a ha b hbb g hg hg' => ?_⟩⟩
  · rcases List.mem_append.1 hc with hc | hc
    · refine ⟨(h2.hold c hc).1, ?_⟩
      have h4 := hro c hc
      have h5 := hnew c hc
      have h6 := hS.chg.size
      cases c with
      | ro A xs => cases h4
      | blk g' t cs => exact fun k hk => .inl (Nat.le_trans (Nat.le_trans h6 hwb) (h5 k hk))
      | own A n c el sz xs => exact fun k hk => .inl (Nat.le_trans (Nat.le_trans h6 hwb) (h5 k hk))
      | app A n c el sz xs => exact fun k hk => .inl (Nat.le_trans (Nat.le_trans h6 hwb) (h5 k hk))
      | obj g' o => exact fun k hk => .inl (Nat.le_trans (Nat.le_trans h6 hwb) (h5 k hk))
    · exact h.hold c hc
  · have := hnew a ha g hg
    have := St.feet_lt hS b hbb g hg'
    omega
end Go.Fk
namespace Go.Proofs.Ytaapnfoimcccjaa
open Go.Fk Go.RowKit
attribute [local irreducible] Wp WpL Det thenQ blockQ WpG thenD blockG
theorem PSt.join {w0 w wb w' : World} {M : Nat → Prop} {L : List Ch} {g nd nb : Nat} {X : List (List Bk)} (hS : St w0 M w L) (hb : Below w.heap.size w w') (hwb : w.heap.size ≤ wb.heap.size) (hP : PSt wb (feet []) w' g nd nb X []) : PSt w0 M w' g nd nb X L := by
  obtain ⟨D, cd, ps, h1, h2, h3⟩ := hP
  refine ⟨D, cd, ps, h1, h2, ?_⟩
  have := hS.join hb hwb h3 fun c hc => by
    rcases List.mem_cons.1 hc with rfl | hc
    · rfl
    rcases List.mem_cons.1 hc with rfl | hc
    · rfl
    rw [List.append_nil] at hc
    obtain ⟨p, _, rfl⟩ := List.mem_map.1 hc
    rfl
  simpa using this
/-- A new pool, made beside what was known at w. -/
def NewT (w : World) (nd nb : Nat) : Fk.Spec := fun x w2 => ∃ g wb, x = .tuple #[.pointer (some ⟨g, 0, none⟩), .int .i64 0] ∧ w.heap.size ≤ wb.heap.size ∧ PSt wb (feet []) w2 g nd nb (List.replicate nd (newBlocks nb)) []
def NewG (w : World) (nd nb : Nat) : Fk.Spec := fun x w2 => ∃ g wb, x = .pointer (some ⟨g, 0, none⟩) ∧ w.heap.size ≤ wb.heap.size ∧ PSt wb (feet []) w2 g nd nb (List.replicate nd (newBlocks nb)) []
theorem NewT.stays {w : World} {nd nb : Nat} (v : Value) (w1 w2 : World) : NewT w nd nb v w1 → Below w1.heap.size w1 w2 → NewT w nd nb v w2 := fun ⟨g, wb, h1, h2, h3⟩ hb => ⟨g, wb, h1, h2, h3.below hb⟩
theorem NewG.stays {w : World} {nd nb : Nat} (v : Value) (w1 w2 : World) : NewG w nd nb v w1 → Below w1.heap.size w1 w2 → NewG w nd nb v w2 := fun ⟨g, wb, h1, h2, h3⟩ hb => ⟨g, wb, h1, h2, h3.below hb⟩
instance cellErrno : Cell1 Try.prog 25 := ⟨_, Try.underlying25, rfl⟩
instance sizeErrno : SizeT Try.prog 25 1 := ⟨by kernel_rfl⟩
instance elemErrno : Elem Try.prog 25 1 8 (.int .i64 0) := ⟨by kernel_rfl, rfl, by decide⟩
instance elemPool : Elem Try.prog 24 1 8 (.pointer none) := ⟨by kernel_rfl, rfl, by decide⟩
/-- The i-th block of a pool's bytes. -/
def bkAt (y : List UInt8) (i : Nat) : Bk := ⟨(y.getD (2 + 5 * i) 0).toNat, Crc.loN ((y.drop (2 + 5 * i + 1)).take 4)⟩
def dieAt (y : List UInt8) (nb d : Nat) : List Bk := (List.range nb).map fun j => bkAt y (d * nb + j)
def poolAt (y : List UInt8) (nd nb : Nat) : List (List Bk) := (List.range nd).map (dieAt y nb)
theorem getD_setB {l : List Bk} {x : Nat} {b : Bk} (h : x < l.length) : (l.set x b).getD x ⟨0, 0⟩ = b := by rw [List.getD_eq_getElem?_getD, List.getElem?_set_self h]; rfl
theorem dieAt_fit (y : List UInt8) (nb d : Nat) : Fit (dieAt y nb d) := fun b hb => by
  obtain ⟨j, _, rfl⟩ := List.mem_map.1 hb
  refine ⟨Nat.lt_of_lt_of_le (Crc.loN_lt _) (Nat.pow_le_pow_right (by decide) (show 8 * ((y.drop (2 + 5 * (d * nb + j) + 1)).take 4).length ≤ 32 by rw [List.length_take]; omega)), ?_⟩
  have := (y.getD (2 + 5 * (d * nb + j)) 0).toNat_lt
  exact this
theorem rowsC_set {nb : Nat} {ps : Dies} {k : Nat} {Ak : Option Addr} {l' : List Bk} (hk : k < ps.length) (L : List Ch) : List.Perm (rowsC nb (ps.set k (Ak, l')) ++ L) (.own Ak nb nb 60 2 (kv l') :: restC nb ps k L) := by
  rw [List.set_eq_take_append_cons_drop, if_pos hk, rowsC_mid, List.append_assoc, List.cons_append]
  exact List.perm_middle
theorem rowsV_set {nb : Nat} {ps : Dies} {k : Nat} {Ak : Option Addr} {l' : List Bk} (hk : k < ps.length) (hA : ps[k].1 = Ak) : rowsV nb (ps.set k (Ak, l')) = rowsV nb ps := by
  have hsp : ps = ps.take k ++ ps[k] :: ps.drop (k + 1) := by rw [← List.drop_eq_getElem_cons hk, List.take_append_drop]
  rw [List.set_eq_take_append_cons_drop, if_pos hk, rowsV_mid]
  refine Eq.trans ?_ ((congrArg (rowsV nb) hsp).trans (rowsV_mid _ _ _ _)).symm
  rw [hA]
theorem restC_cons (nb : Nat) (ps : Dies) (k : Nat) (c : Ch) (L : List Ch) : List.Perm (restC nb ps k (c :: L)) (c :: restC nb ps k L) :=
  (List.Perm.append_left _ List.perm_middle).trans List.perm_middle
structure PoolBytes (y : List UInt8) (nd nb : Nat) : Prop where
  two : 2 ≤ y.length
  d : nd = (y.getD 0 0).toNat
  b : nb = (y.getD 1 0).toNat
  hd : 1 ≤ nd ∧ nd ≤ 8
  hb : 1 ≤ nb ∧ nb ≤ 64
  len : y.length = 2 + 5 * (nd * nb)
  sts : ∀ i, i < nd * nb → 1 ≤ (bkAt y i).st ∧ (bkAt y i).st ≤ 4
section
variable {w w0 : World} {M : Nat → Prop} {L : List Ch}
set_option maxHeartbeats 4000000 in
theorem parseP {V : Option Addr} {n c : Nat} {b : List UInt8} (hS : St w0 M w L) (hr : RdsV L V n (bv b)) (hnc : n ≤ c) (hlen : n ≤ 140737488355328) :
    Calls Try.prog 23 #[.slice V n c] w fun x w' =>
      (¬ Crc.good b ∧ x = .returned (.tuple #[.pointer none, .int .i64 30]) ∧ St w0 M w' L) ∨
      ((Crc.good b ∧ ∀ nd nb, ¬ PoolBytes (b.take (n - 4)) nd nb) ∧ x = .returned (.tuple #[.pointer none, .int .i64 81]) ∧ St w0 M w' L) ∨
      (Crc.good b ∧ ∃ g nd nb, PoolBytes (b.take (n - 4)) nd nb ∧ x = .returned (.tuple #[.pointer (some ⟨g, 0, none⟩), .int .i64 0]) ∧ PSt w0 M w' g nd nb (poolAt (b.take (n - 4)) nd nb) L) := by
  (refine calls_ofG (P := Try.prog) _ Try.func23 rfl Try.ntmps23 (Nat.le_of_ble_eq_true rfl) ?_; dsimp only [argE, Nat.reduceAdd])
  (refine Reach.walkG ?_; (repeat (first | ((with_reducible refine AllSt.mk ?_); (try clear hS); intro w hS) | ((with_reducible refine AllVw.mk ?_); intro V hV))))
  ((with_reducible apply WpL.bx); (· assumption); (· exact rfl); (· exact Env.found); (· exact rfl); clear hS)
  intro gb w hS
  (refine Reach.walkG ?_; (repeat (first | ((with_reducible refine AllSt.mk ?_); (try clear hS); intro w hS) | ((with_reducible refine AllVw.mk ?_); intro V hV))))
  ((with_reducible apply WpL.al); (· assumption); (· exact rfl); (· exact rfl); clear hS)
  intro gp w hS
  (refine Reach.walkG ?_; (repeat (first | ((with_reducible refine AllSt.mk ?_); (try clear hS); intro w hS) | ((with_reducible refine AllVw.mk ?_); intro V hV))))
  ((with_reducible apply WpL.al); (· assumption); (· exact rfl); (· exact rfl); clear hS)
  intro ge w hS
  (refine Reach.walkG ?_; (repeat (first | ((with_reducible refine AllSt.mk ?_); (try clear hS); intro w hS) | ((with_reducible refine AllVw.mk ?_); intro V hV))))
  (with_reducible apply WpL.call); (· exact rfl); (· exact Try.call36); (· exact Vals.found)
  refine (openS hS (((hr.there _).there _).there _) hnc hlen).mono ?_
  have hbl : b.length = n := by have := (hr w0 M w (hS.tail.tail.tail)).2; simpa using this
  clear hS
  rintro x w (⟨hg, A, cA, rfl, hA, hS⟩ | ⟨hg, rfl, hS⟩)
  rotate_left
  · refine ⟨_, rfl, ?_⟩
    (refine Reach.walkG ?_; (repeat (first | ((with_reducible refine AllSt.mk ?_); (try clear hS); intro w hS) | ((with_reducible refine AllVw.mk ?_); intro V hV))))
    refine leaveG_nil ?_
    refine doneQ_cc Try.results23 slotFound slotFound hS Look.found Look.found ?_
    exact .inl ⟨hg, rfl, hS.tail.tail.tail⟩
  refine ⟨_, rfl, ?_⟩
  have hyl : (b.take (n - 4)).length = n - 4 := by rw [List.length_take]; omega
  generalize hy : b.take (n - 4) = y at *
  generalize n - 4 = N at *
  by_cases h2 : N < 2
  · (refine Reach.walkG ?_; (repeat (first | ((with_reducible refine AllSt.mk ?_); (try clear hS); intro w hS) | ((with_reducible refine AllVw.mk ?_); intro V hV))))
    refine leaveG_nil ?_
    refine doneQ_cc Try.results23 slotFound slotFound hS Look.found Look.found ?_
    exact .inr (.inl ⟨⟨hg, fun nd nb h => by have := h.two; omega⟩, rfl, hS.tail.tail.tail.tail⟩)
  (refine Reach.walkG ?_; (repeat (first | ((with_reducible refine AllSt.mk ?_); (try clear hS); intro w hS) | ((with_reducible refine AllVw.mk ?_); intro V hV))))
  have hnd := (y.getD 0 0).toNat_lt
  have hnb := (y.getD 1 0).toNat_lt
  generalize hndd : (y.getD 0 0).toNat = nd at *
  generalize hnbb : (y.getD 1 0).toNat = nb at *
  by_cases hok : 1 ≤ nd ∧ nd ≤ 8 ∧ 1 ≤ nb ∧ nb ≤ 64
  rotate_left
  · (refine WpG.drawD 14 (by kernel_rfl) (by kernel_rfl) rfl ?_; dsimp only [List.take, List.drop])
    (refine Reach.rwalk ?_; (repeat (first | ((with_reducible refine AllSt.mk ?_); (try clear hS); intro w hS) | ((with_reducible refine AllVw.mk ?_); intro V hV))))
    rw [hndd, hnbb]
    refine RgD.known0 (c := .tuple #[.pointer none, .int .i64 1]) rfl rfl rfl rfl (fun w5 hb5 => ?_) ?_
    · (with_reducible apply WpL.call); (· exact rfl); (· exact Try.call10); (· exact Vals.found)
      refine (newP (St.start w5)).mono ?_
      rintro x w6 (⟨_, rfl, h6⟩ | ⟨h6, _⟩)
      · exact ⟨_, rfl, WpL.nil ⟨⟨hb5.on h6.toBelow, h6.toBelow⟩, Env.set_same _ _ _⟩⟩
      · exact absurd h6 (fun h => hok (by omega))
    (refine Reach.rwalk ?_; (repeat (first | ((with_reducible refine AllSt.mk ?_); (try clear hS); intro w hS) | ((with_reducible refine AllVw.mk ?_); intro V hV))))
    (refine RgD.fin0 fun w hb => ?_; replace hS := hS.below hb; clear hb)
    (refine Reach.walkG ?_; (repeat (first | ((with_reducible refine AllSt.mk ?_); (try clear hS); intro w hS) | ((with_reducible refine AllVw.mk ?_); intro V hV))))
    (refine WpG.drawD 18 (by kernel_rfl) (by kernel_rfl) rfl ?_; dsimp only [List.take, List.drop])
    (refine Reach.rwalk ?_; (repeat (first | ((with_reducible refine AllSt.mk ?_); (try clear hS); intro w hS) | ((with_reducible refine AllVw.mk ?_); intro V hV))))
    (refine RgD.fin0 fun w hb => ?_; replace hS := hS.below hb; clear hb)
    (refine Reach.walkG ?_; (repeat (first | ((with_reducible refine AllSt.mk ?_); (try clear hS); intro w hS) | ((with_reducible refine AllVw.mk ?_); intro V hV))))
    refine leaveG_nil ?_
    refine doneQ_cc Try.results23 slotFound slotFound hS Look.found Look.found ?_
    exact .inr (.inl ⟨⟨hg, fun nd nb h => hok (by have := h.hd; have := h.hb; have := h.d; have := h.b; omega)⟩, rfl, hS.tail.tail.tail.tail⟩)
  have hnd8 := hok.2.1
  have hnb64 := hok.2.2.2
  have hmul : nd * nb ≤ 8 * 64 := Nat.mul_le_mul hnd8 hnb64
  (refine WpG.drawD 14 (by kernel_rfl) (by kernel_rfl) rfl ?_; dsimp only [List.take, List.drop])
  (refine Reach.rwalk ?_; (repeat (first | ((with_reducible refine AllSt.mk ?_); (try clear hS); intro w hS) | ((with_reducible refine AllVw.mk ?_); intro V hV))))
  rw [hndd, hnbb]
  refine RgD.spec0 (NewT w nd nb) rfl rfl rfl rfl NewT.stays (fun w5 hb5 => ?_) ?_
  · (with_reducible apply WpL.call); (· exact rfl); (· exact Try.call10); (· exact Vals.found)
    refine (newP (St.start w5)).mono ?_
    rintro x w6 (⟨h6, _⟩ | ⟨_, g, rfl, h6⟩)
    · exact absurd h6 (fun h => h (by omega))
    · rw [Int.toNat_natCast, Int.toNat_natCast] at h6
      exact ⟨_, rfl, WpL.nil ⟨⟨hb5.on h6.rest.toBelow, h6.rest.toBelow⟩, g, w5, Env.set_same _ _ _, hb5.size, h6⟩⟩
  refine RgD.spec1 (NewT w nd nb) rfl rfl rfl rfl NewT.stays (fun w5 hb5 x hx => ?_) ?_
  · (refine Reach.walkL ?_; (repeat (first | ((with_reducible refine AllSt.mk ?_); (try clear hS); intro w hS) | ((with_reducible refine AllVw.mk ?_); intro V hV))))
    exact ⟨⟨hb5, Below.refl _ _⟩, by rw [Env.set_same]; exact hx⟩
  refine RgD.spec1 (NewG w nd nb) rfl rfl rfl rfl NewG.stays (fun w5 hb5 x hx => ?_) ?_
  · obtain ⟨g, wb, rfl, h1, h2⟩ := hx
    (refine Reach.walkL ?_; (repeat (first | ((with_reducible refine AllSt.mk ?_); (try clear hS); intro w hS) | ((with_reducible refine AllVw.mk ?_); intro V hV))))
    exact ⟨⟨hb5, Below.refl _ _⟩, g, wb, Env.set_same _ _ _, h1, h2⟩
  refine RgD.known1 (c := .int .i64 0) rfl rfl rfl rfl (fun w5 hb5 x hx => ?_) ?_
  · obtain ⟨g, wb, rfl, h1, h2⟩ := hx
    (refine Reach.walkL ?_; (repeat (first | ((with_reducible refine AllSt.mk ?_); (try clear hS); intro w hS) | ((with_reducible refine AllVw.mk ?_); intro V hV))))
    exact ⟨⟨hb5, Below.refl _ _⟩, Env.set_same _ _ _⟩
  refine RgD.spec1 (NewG w nd nb) rfl rfl rfl rfl NewG.stays (fun w5 hb5 x hx => ?_) ?_
  · (refine Reach.walkL ?_; (repeat (first | ((with_reducible refine AllSt.mk ?_); (try clear hS); intro w hS) | ((with_reducible refine AllVw.mk ?_); intro V hV))))
    exact ⟨⟨hb5, Below.refl _ _⟩, by rw [Env.set_same]; exact hx⟩
  (refine Reach.rwalk ?_; (repeat (first | ((with_reducible refine AllSt.mk ?_); (try clear hS); intro w hS) | ((with_reducible refine AllVw.mk ?_); intro V hV))))
  refine RgD.fin fun w1 hb1 => ?_
  rintro x1 _ x2 _ x3 _ _ ⟨g, wb, rfl, h1, h2⟩
  have hP := PSt.join hS hb1 h1 h2
  replace hS := hS.below hb1
  clear h1 h2 hb1
  show WpL _ _ _ _ _ _ _
  (refine Reach.walkG ?_; (repeat (first | ((with_reducible refine AllSt.mk ?_); (try clear hS); intro w hS) | ((with_reducible refine AllVw.mk ?_); intro V hV))))
  clear hS
  (refine WpG.drawD 18 (by kernel_rfl) (by kernel_rfl) rfl ?_; dsimp only [List.take, List.drop])
  have hS := hP.rest
  (refine Reach.rwalk ?_; (repeat (first | ((with_reducible refine AllSt.mk ?_); (try clear hS); intro w hS) | ((with_reducible refine AllVw.mk ?_); intro V hV))))
  rw [hndd, hnbb]
  have hw : IntKind.i64.wrap (2 + IntKind.i64.wrap (((5 * nd : Nat) : Int) * (nb : Int))) = ((2 + 5 * (nd * nb) : Nat) : Int) := by
    have e1 : IntKind.i64.wrap ((5 * (nd * nb) : Nat) : Int) = ((5 * (nd * nb) : Nat) : Int) := wrap_i64 (by omega) (by omega)
    rw [← Int.natCast_mul, Nat.mul_assoc, e1, wrap_i64 (by omega) (by omega)]
    omega
  rw [hw]
  clear hS
  refine RgD.fin0 fun w hb => ?_
  replace hP := hP.below hb
  clear hb
  by_cases hN : N = 2 + 5 * (nd * nb)
  rotate_left
  · have hS := hP.rest
    (refine Reach.walkG ?_; (repeat (first | ((with_reducible refine AllSt.mk ?_); (try clear hS); intro w hS) | ((with_reducible refine AllVw.mk ?_); intro V hV))))
    refine leaveG_nil ?_
    refine doneQ_cc Try.results23 slotFound slotFound hS Look.found Look.found ?_
    exact .inr (.inl ⟨⟨hg, fun nd' nb' h => hN (by have h1 := h.len; have h2 := h.d; have h3 := h.b; rw [hndd] at h2; rw [hnbb] at h3; subst h2 h3; omega)⟩, rfl, hS.tail.tail.tail.tail⟩)
  obtain ⟨D, cd, ps, hpo, hps, hS⟩ := hP
  have hD := hpo.vw
  replace hS : St w0 M w (.blk gb 49 [.slice A N cA] :: .own A N cA 5 1 (bv y) :: .blk ge 25 [.int .i64 0] :: .blk gp 24 [.pointer none] :: poolL g D nd cd nb ps L) := by
    refine hS.perm ?_
    refine (List.perm_append_comm_assoc (Ch.blk g _ _ :: Ch.own D _ _ _ _ _ :: rowsC nb ps) [Ch.own A _ _ _ _ _, Ch.blk ge _ _, Ch.blk gp _ _, Ch.blk gb _ _] L).trans ?_
    exact (List.perm_append_comm_assoc [Ch.own A _ _ _ _ _, Ch.blk ge _ _, Ch.blk gp _ _] [Ch.blk gb _ _] _)
  (refine Reach.walkG ?_; (repeat (first | ((with_reducible refine AllSt.mk ?_); (try clear hS); intro w hS) | ((with_reducible refine AllVw.mk ?_); intro V hV))))
  have hps0 : ps.map (·.2) = (List.range 0).map (dieAt y nb) ++ List.replicate (nd - 0) (newBlocks nb) := by rw [hps]; rfl
  clear hps hw
  refine WpG.loopCnt 57 nd (fun k ds e w' => k ≤ nd ∧ ∃ (Ds : List Nat) (V : Option Addr) (ps : Dies), ds = Ds.map markD ∧ IsVw V (N - (2 + 5 * (k * nb))) (cA - (2 + 5 * (k * nb))) A (2 + 5 * (k * nb)) ∧ PoolOk D nd cd nb ps ∧
      ps.map (·.2) = (List.range k).map (dieAt y nb) ++ List.replicate (nd - k) (newBlocks nb) ∧ (∀ i, i < k * nb → 1 ≤ (bkAt y i).st ∧ (bkAt y i).st ≤ 4) ∧
      St w0 M w' (.blk gb 49 [.slice V (N - (2 + 5 * (k * nb))) (cA - (2 + 5 * (k * nb)))] :: .own A N cA 5 1 (bv y) :: .blk ge 25 [.int .i64 0] :: .blk gp 24 [.pointer none] :: poolL g D nd cd nb ps (Ds.map (fun D => .obj D (.deferred (some []))) ++ L)) ∧
      e.Has [(57, .int .i64 (k : Nat)), (56, .int .i64 (nd : Nat)), (5, .pointer (some ⟨g, 0, none⟩)), (1, .pointer (some ⟨gb, 0, none⟩)), (2, .pointer (some ⟨gp, 0, none⟩)), (3, .pointer (some ⟨ge, 0, none⟩))]) (fun k ds e w ⟨h1, _, _, _, _, _, _, _, _, _, h2⟩ => ⟨h1, h2.1⟩) (k0 := 0) ?_ ?_
  · have h0 : 2 + 5 * (0 * nb) = 2 := by omega
    exact ⟨Nat.zero_le _, [], V, ps, rfl, by rw [h0]; exact hV, hpo, hps0, fun i hi => absurd hi (by omega), by rw [h0]; exact hS, rfl, rfl, rfl, rfl, rfl, rfl, trivial⟩
  clear hS hps0 hpo
  rintro k ds e w ⟨hk, Ds, V, ps, rfl, hV, hpo, hps, hsts, hS, he⟩
  obtain ⟨e0, rfl⟩ := he.eq
  clear he
  dsimp only [Env.sets]
  by_cases hlt : k < nd
  rotate_left
  · obtain rfl : k = nd := by omega
    (refine Reach.walkG ?_; (repeat (first | ((with_reducible refine AllSt.mk ?_); (try clear hS); intro w hS) | ((with_reducible refine AllVw.mk ?_); intro V hV))))
    replace hS : St w0 M w (Ds.map (fun D => .obj D (.deferred (some []))) ++ (.blk ge 25 [.int .i64 0] :: .blk gp 24 [.pointer (some ⟨g, 0, none⟩)] :: poolL g D k cd nb ps L)) := by
      generalize Ds.map (fun D => Ch.obj D (.deferred (some []))) = Dm at *
      refine (hS.sub ((List.sublist_cons_self _ _).trans (List.sublist_cons_self _ _))).perm ?_
      exact List.perm_append_comm_assoc (.blk ge _ _ :: .blk gp _ _ :: .blk g _ _ :: .own D _ _ _ _ _ :: rowsC nb ps) Dm L
    refine leaveG_marks (fun w hS => ?_) Ds _ hS
    refine doneQ_cc Try.results23 slotFound slotFound hS Look.found Look.found ?_
    refine .inr (.inr ⟨hg, g, k, nb, ⟨by omega, hndd.symm, hnbb.symm, ⟨hok.1, hok.2.1⟩, hok.2.2, by omega, hsts⟩, rfl, D, cd, ps, hpo, ?_, hS.tail.tail⟩)
    rw [hps, Nat.sub_self, List.replicate_zero, List.append_nil]
    rfl
  have hkl : k < ps.length := by have := hpo.len; omega
  have hrowk : (rowsV nb ps)[k]? = some (.slice ps[k].1 nb nb) := by rw [rowsV, List.getElem?_map, List.getElem?_eq_getElem hkl]; rfl
  obtain ⟨hAk, hlk, hfk⟩ := hpo.rows ps[k] (List.getElem_mem hkl)
  have hlk2 : ps[k].2 = newBlocks nb := by
    have h1 : (ps.map (·.2))[k]? = some ps[k].2 := by rw [List.getElem?_map, List.getElem?_eq_getElem hkl]; rfl
    rw [hps, List.getElem?_append_right (by simp)] at h1
    simp only [List.length_map, List.length_range, Nat.sub_self] at h1
    rw [List.getElem?_replicate, if_pos (by omega)] at h1
    injection h1 with h1
    exact h1.symm
  have hsp : ps = ps.take k ++ ps[k] :: ps.drop (k + 1) := by rw [← List.drop_eq_getElem_cons hkl, List.take_append_drop]
  have hperm := rowsC_die (nb := nb) hkl (Ds.map (fun D => Ch.obj D (.deferred (some []))) ++ L)
  rw [hlk2] at hperm
  generalize hDm : Ds.map (fun D => Ch.obj D (.deferred (some []))) = Dm at *
  generalize hRC : restC nb ps k (Dm ++ L) = RC at hperm
  generalize hAkk : ps[k].1 = Ak at *
  have hkn : (k + 1) * nb = k * nb + nb := by rw [Nat.add_mul, Nat.one_mul]
  have hkn2 : (k + 1) * nb ≤ nd * nb := Nat.mul_le_mul_right _ (by omega)
  rw [hkn] at hkn2
  generalize hof : k * nb = kn at *
  (refine Reach.walkG ?_; (repeat (first | ((with_reducible refine AllSt.mk ?_); (try clear hS); intro w hS) | ((with_reducible refine AllVw.mk ?_); intro V hV))))
  (with_reducible apply WpL.call); (· exact rfl); (· exact Try.call30); (· exact Vals.found)
  refine (of_any hS).mono ?_
  clear hS
  rintro x w ⟨g1, g2, rfl, hS⟩
  refine ⟨_, rfl, ?_⟩
  (refine Reach.walkG ?_; (repeat (first | ((with_reducible refine AllSt.mk ?_); (try clear hS); intro w hS) | ((with_reducible refine AllVw.mk ?_); intro V hV))))
  refine WpG.rangeFunc (ps := [63, 64]) (w0 := w0) (M := M) (Γ0 := RC) (Lc := [.blk gb 49 [.slice V (N - (2 + 5 * kn)) (cA - (2 + 5 * kn))], .own A N cA 5 1 (bv y), .blk ge 25 [.int .i64 0], .blk gp 24 [.pointer none], .own Ak nb nb 60 2 (kv (newBlocks nb))])
    (of_iter_in (g := g) (g1 := g1) (g2 := g2) (rows := rowsV nb ps) hD hlt hrowk hAk (by omega) (by omega)) rfl Try.call42 (fun _ => rfl) (by decide)
    (fun pre Lc => (∀ i, i < kn + pre.length → 1 ≤ (bkAt y i).st ∧ (bkAt y i).st ≤ 4) ∧ ∃ V, IsVw V (N - (2 + 5 * (kn + pre.length))) (cA - (2 + 5 * (kn + pre.length))) A (2 + 5 * (kn + pre.length)) ∧
      Lc = [.blk gb 49 [.slice V (N - (2 + 5 * (kn + pre.length))) (cA - (2 + 5 * (kn + pre.length)))], .own A N cA 5 1 (bv y), .blk ge 25 [.int .i64 0], .blk gp 24 [.pointer none],
        .own Ak nb nb 60 2 (kv ((List.range pre.length).map (fun j => bkAt y (kn + j)) ++ List.replicate (nb - pre.length) (⟨1, 0⟩ : Bk)))])
    (fun c pre Lc => c = .ret ∧ (∃ i, i < nd * nb ∧ ¬ (1 ≤ (bkAt y i).st ∧ (bkAt y i).st ≤ 4)) ∧ ∃ v l', Lc = [.blk gb 49 [v], .own A N cA 5 1 (bv y), .blk ge 25 [.int .i64 81], .blk gp 24 [.pointer none], .own Ak nb nb 60 2 l'])
    ?hS ⟨fun i hi => hsts i (by simpa using hi), V, hV, rfl⟩ ?body ?done ?stop
  case hS =>
    have h2 : St w0 M w (.blk g1 _ _ :: .blk g2 _ _ :: .blk gb _ _ :: .own A _ _ _ _ _ :: .blk ge _ _ :: .blk gp _ _ :: .blk g _ _ :: .own D _ _ _ _ _ :: .own Ak _ _ _ _ _ :: RC) := hS.perm (List.Perm.append_left [_, _, _, _, _, _, _, _] hperm)
    have h3 := h2.take (pre := [.blk gb _ _, .own A _ _ _ _ _, .blk ge _ _, .blk gp _ _, .own Ak _ _ _ _ _, .blk g1 _ _, .blk g2 _ _, .blk g _ _, .own D _ _ _ _ _]) Take.found
    exact h3
  case body =>
    clear hS
    rintro r pre x rest _ Γ' w o hx ⟨hsts, V0, hV0, rfl⟩ hS
    obtain ⟨hpl, hxn⟩ := range_mid hx
    simp only [List.cons_append, List.nil_append] at hS
    dsimp only [Env.params]
    (refine Reach.walkG ?_; (repeat (first | ((with_reducible refine AllSt.mk ?_); (try clear hS); intro w hS) | ((with_reducible refine AllVw.mk ?_); intro V hV))))
    refine ⟨rfl, _, hS, ?_⟩
    clear hS
    intro w o' hS
    have hpx : (pre ++ [x]).length = x + 1 := by simp [hpl]
    rw [hpl] at hV0 hS hsts
    have hl0 : ((List.range x).map (fun j => bkAt y (kn + j)) ++ List.replicate (nb - x) (⟨1, 0⟩ : Bk)).length = nb := by simp; omega
    have hl1 : ((List.range x).map (fun j => bkAt y (kn + j)) ++ List.replicate (nb - x) (⟨1, 0⟩ : Bk)).set x (bkAt y (kn + x)) = (List.range (x + 1)).map (fun j => bkAt y (kn + j)) ++ List.replicate (nb - (x + 1)) (⟨1, 0⟩ : Bk) := by
      obtain ⟨q, hq⟩ : ∃ q, nb - x = q + 1 := ⟨nb - x - 1, by omega⟩
      rw [hq, show nb - (x + 1) = q by omega, List.replicate_succ, List.set_append_right _ _ (by simp), List.range_succ, List.map_append]
      simp
    generalize (List.range x).map (fun j => bkAt y (kn + j)) ++ List.replicate (nb - x) (⟨1, 0⟩ : Bk) = l0 at *
    have hoff : 2 + 5 * (kn + x) + 5 ≤ N := by omega
    obtain ⟨sv, hsv⟩ : ∃ sv, (y.getD (2 + 5 * (kn + x)) 0).toNat = sv := ⟨_, rfl⟩
    have hsv2 : sv < 256 := by have := (y.getD (2 + 5 * (kn + x)) 0).toNat_lt; omega
    have hxl : x < l0.length := by omega
    have hlk0 : Look (.obj r o' :: .blk gb 49 [.slice V0 (N - (2 + 5 * (kn + x))) (cA - (2 + 5 * (kn + x)))] :: .own A N cA 5 1 (bv y) :: .blk ge 25 [.int .i64 0] :: .blk gp 24 [.pointer none] :: .own Ak nb nb 60 2 (kv l0) :: Γ') ((adr A).add (2 + 5 * (kn + x) + 0)) (.int .u8 (sv : Int)) := by
      rw [← hsv]
      exact .there (.there (Look.own (bvg (by omega))))
    have hup : Upd (.obj r o' :: .blk gb 49 [.slice V0 (N - (2 + 5 * (kn + x))) (cA - (2 + 5 * (kn + x)))] :: .own A N cA 5 1 (bv y) :: .blk ge 25 [.int .i64 0] :: .blk gp 24 [.pointer none] :: .own Ak nb nb 60 2 (kv l0) :: Γ') ((adr Ak).add (0 + x * 2 + 0)) (.int .i64 (sv : Int))
        (.obj r o' :: .blk gb 49 [.slice V0 (N - (2 + 5 * (kn + x))) (cA - (2 + 5 * (kn + x)))] :: .own A N cA 5 1 (bv y) :: .blk ge 25 [.int .i64 0] :: .blk gp 24 [.pointer none] :: .own Ak nb nb 60 2 (kv (l0.set x ⟨sv, (l0.getD x ⟨0, 0⟩).er⟩)) :: Γ') :=
      .there (.there (.there (.there (.there (Upd.own (by rw [kv_length]; omega) (kv_set_st' sv hxl))))))
    have hlk1 : Look (.obj r o' :: .blk gb 49 [.slice V0 (N - (2 + 5 * (kn + x))) (cA - (2 + 5 * (kn + x)))] :: .own A N cA 5 1 (bv y) :: .blk ge 25 [.int .i64 0] :: .blk gp 24 [.pointer none] :: .own Ak nb nb 60 2 (kv (l0.set x ⟨sv, (l0.getD x ⟨0, 0⟩).er⟩)) :: Γ') ((adr Ak).add (0 + x * 2 + 0)) (.int .i64 (sv : Int)) := by
      have := kv_st' (l := l0.set x ⟨sv, (l0.getD x ⟨0, 0⟩).er⟩) (i := x) (by simpa using hxl)
      rw [getD_setB hxl] at this
      exact .there (.there (.there (.there (.there (Look.own this)))))
    have hbk : (bkAt y (kn + x)).st = sv := hsv
    by_cases h1 : 1 ≤ sv
    rotate_left
    · (refine Reach.walkG ?_; (repeat (first | ((with_reducible refine AllSt.mk ?_); (try clear hS); intro w hS) | ((with_reducible refine AllVw.mk ?_); intro V hV))))
      exact roundD.ret (Lc' := [_, _, _, _, _]) ⟨rfl, ⟨kn + x, by omega, fun h => h1 (by omega)⟩, _, _, rfl⟩ hS
    by_cases h4 : sv ≤ 4
    rotate_left
    · (refine Reach.walkG ?_; (repeat (first | ((with_reducible refine AllSt.mk ?_); (try clear hS); intro w hS) | ((with_reducible refine AllVw.mk ?_); intro V hV))))
      exact roundD.ret (Lc' := [_, _, _, _, _]) ⟨rfl, ⟨kn + x, by omega, fun h => h4 (by omega)⟩, _, _, rfl⟩ hS
    (refine Reach.walkG ?_; (repeat (first | ((with_reducible refine AllSt.mk ?_); (try clear hS); intro w hS) | ((with_reducible refine AllVw.mk ?_); intro V hV))))
    (with_reducible apply WpL.call); (· exact rfl); (· exact Try.call37); (· exact Vals.found)
    refine (uint32S hS RdsV.found (by omega) (by omega)).mono ?_
    rintro v w1 ⟨rfl, rfl⟩
    refine ⟨_, rfl, ?_⟩
    have hern : Crc.loN ((((y.drop (2 + 5 * (kn + x) + 1)).take (N - (2 + 5 * (kn + x)) - 1))).take 4) = (bkAt y (kn + x)).er := by
      rw [List.take_take, Nat.min_eq_left (by omega)]; rfl
    rw [hern]
    have her : (bkAt y (kn + x)).er < 4294967296 := Nat.lt_of_lt_of_le (Crc.loN_lt _) (by rw [List.length_take, List.length_drop, Nat.min_eq_left (by omega)]; decide)
    have hup2 := kv_set_er' (l := l0.set x ⟨sv, (l0.getD x ⟨0, 0⟩).er⟩) (i := x) (bkAt y (kn + x)).er (by simpa using hxl)
    rw [getD_setB hxl, List.set_set, show (⟨sv, (bkAt y (kn + x)).er⟩ : Bk) = bkAt y (kn + x) from Bk.ext' hbk.symm rfl, hl1] at hup2
    have hup3 : Upd (.obj r o' :: .blk gb 49 [.slice V0 (N - (2 + 5 * (kn + x))) (cA - (2 + 5 * (kn + x)))] :: .own A N cA 5 1 (bv y) :: .blk ge 25 [.int .i64 0] :: .blk gp 24 [.pointer none] :: .own Ak nb nb 60 2 (kv (l0.set x ⟨sv, (l0.getD x ⟨0, 0⟩).er⟩)) :: Γ') ((adr Ak).add (0 + x * 2 + 1)) (.int .u32 ((bkAt y (kn + x)).er : Int))
        (.obj r o' :: .blk gb 49 [.slice V0 (N - (2 + 5 * (kn + x))) (cA - (2 + 5 * (kn + x)))] :: .own A N cA 5 1 (bv y) :: .blk ge 25 [.int .i64 0] :: .blk gp 24 [.pointer none] :: .own Ak nb nb 60 2 (kv ((List.range (x + 1)).map (fun j => bkAt y (kn + j)) ++ List.replicate (nb - (x + 1)) (⟨1, 0⟩ : Bk))) :: Γ') :=
      .there (.there (.there (.there (.there (Upd.own (by rw [kv_length, List.length_set]; omega) hup2)))))
    clear hup hup2 hlk0 hlk1 hl1
    (refine Reach.walkG ?_; (repeat (first | ((with_reducible refine AllSt.mk ?_); (try clear hS); intro w hS) | ((with_reducible refine AllVw.mk ?_); intro V hV))))
    have e5 : 2 + 5 * (kn + x) + 5 = 2 + 5 * (kn + (x + 1)) := by omega
    have e6 : N - (2 + 5 * (kn + x)) - 5 = N - (2 + 5 * (kn + (x + 1))) := by omega
    have e7 : cA - (2 + 5 * (kn + x)) - 5 = cA - (2 + 5 * (kn + (x + 1))) := by omega
    rw [e6, e7] at hS
    refine roundD.go (Lc' := [_, _, _, _, _]) ⟨fun i hi => ?_, _, ?_, by rw [hpx]⟩ hS
    · rw [hpx] at hi
      by_cases hix : i = kn + x
      · subst hix
        omega
      · exact hsts i (by omega)
    · rw [hpx, ← e5, Nat.sub_add_eq N (2 + 5 * (kn + x)) 5, Nat.sub_add_eq cA (2 + 5 * (kn + x)) 5]
      assumption
  case done =>
    clear hS
    rintro D' _ w ⟨hsts, V, hV, rfl⟩ hS
    rw [List.length_range] at hV hS hsts
    simp only [List.cons_append, List.nil_append] at hS
    (refine Reach.walkG ?_; (repeat (first | ((with_reducible refine AllSt.mk ?_); (try clear hS); intro w hS) | ((with_reducible refine AllVw.mk ?_); intro V hV))))
    rw [hkn]
    have hps' : (ps.set k (Ak, dieAt y nb k)).map (·.2) = (List.range (k + 1)).map (dieAt y nb) ++ List.replicate (nd - (k + 1)) (newBlocks nb) := by
      obtain ⟨q, hq⟩ : ∃ q, nd - k = q + 1 := ⟨nd - k - 1, by omega⟩
      rw [List.map_set, hps, hq, show nd - (k + 1) = q by omega, List.replicate_succ, List.set_append_right _ _ (by simp), List.range_succ, List.map_append]
      simp
    have hdie : (List.range nb).map (fun j => bkAt y (kn + j)) ++ List.replicate (nb - nb) (⟨1, 0⟩ : Bk) = dieAt y nb k := by
      rw [Nat.sub_self, List.replicate_zero, List.append_nil, dieAt, hof]
    rw [hdie] at hS
    (replace hS := (hS.take (pre := [.blk gb _ _, .own A _ _ _ _ _, .blk ge _ _, .blk gp _ _, .blk g _ _, .own D _ _ _ _ _, .own Ak _ _ _ _ _, .obj D' _]) Take.found); (try simp only [List.cons_append, List.nil_append] at hS))
    have h4 := hS.sub (.cons_cons _ (.cons_cons _ (.cons_cons _ (.cons_cons _ (.cons_cons _ (.cons_cons _ (.cons_cons _ (.cons_cons _ ((List.sublist_cons_self _ _).trans (List.sublist_cons_self _ _))))))))))
    refine ⟨hlt, by omega, D' :: Ds, V, ps.set k (Ak, dieAt y nb k), rfl, hV, ⟨by rw [List.length_set, hpo.len], hpo.vw, fun p hp => ?_⟩, hps', hsts, ?_, int_eq (by omega), rfl, rfl, rfl, rfl, rfl, trivial⟩
    · rcases List.mem_or_eq_of_mem_set hp with hp | rfl
      · exact hpo.rows p hp
      · exact ⟨hAk, by simp [dieAt], dieAt_fit y nb k⟩
    · rw [List.map_cons, hDm]
      show St w0 M w (.blk gb _ _ :: .own A _ _ _ _ _ :: .blk ge _ _ :: .blk gp _ _ :: .blk g _ _ :: .own D nd cd 57 1 (rowsV nb (ps.set k (Ak, dieAt y nb k))) :: (rowsC nb (ps.set k (Ak, dieAt y nb k)) ++ (.obj D' (.deferred (some [])) :: (Dm ++ L))))
      rw [rowsV_set hkl hAkk]
      refine h4.perm (List.Perm.append_left [_, _, _, _, _, _] ?_)
      rw [← hRC]
      exact ((rowsC_set hkl _).trans (List.Perm.cons _ (restC_cons nb ps k _ _))).symm
  case stop =>
    clear hS
    rintro D' _ pre _ w ⟨rfl, hbad, v, l', rfl⟩ hS
    simp only [List.cons_append, List.nil_append] at hS
    (refine Reach.walkG ?_; (repeat (first | ((with_reducible refine AllSt.mk ?_); (try clear hS); intro w hS) | ((with_reducible refine AllVw.mk ?_); intro V hV))))
    (replace hS := (hS.take (pre := [.obj D' _, .blk ge _ _, .blk gp _ _]) Take.found); (try simp only [List.cons_append, List.nil_append] at hS))
    have h4 : St w0 M w (.obj D' (.deferred (some [])) :: .blk ge 25 [.int .i64 81] :: .blk gp 24 [.pointer none] :: (Dm ++ L)) := by
      refine hS.sub (.cons_cons _ (.cons_cons _ (.cons_cons _ ?_)))
      rw [← hRC]
      have e1 : (Dm ++ L).Sublist (restC nb ps k (Dm ++ L)) := (List.sublist_append_right _ _).trans (List.sublist_append_right _ _)
      exact e1.trans (List.sublist_append_right [_, _, _, _, _, _, _] _)
    have h5 : St w0 M w ((D' :: Ds).map (fun D => .obj D (.deferred (some []))) ++ (.blk ge 25 [.int .i64 81] :: .blk gp 24 [.pointer none] :: L)) := by
      rw [List.map_cons, hDm]
      exact h4.perm (List.Perm.cons _ (List.perm_append_comm_assoc [_, _] Dm L))
    clear hS h4
    refine leaveG_marks (fun w hS => ?_) (D' :: Ds) _ h5
    refine doneQ_cc Try.results23 slotFound slotFound hS Look.found Look.found ?_
    obtain ⟨i, hi, hbad⟩ := hbad
    exact .inr (.inl ⟨⟨hg, fun nd' nb' h => hbad (by
      have h1 := h.sts; have h2 := h.d; have h3 := h.b; rw [hndd] at h2; rw [hnbb] at h3; subst h2 h3
      exact h1 i hi)⟩, rfl, hS.tail.tail⟩)
end
end Go.Proofs.Ytaapnfoimcccjaa
