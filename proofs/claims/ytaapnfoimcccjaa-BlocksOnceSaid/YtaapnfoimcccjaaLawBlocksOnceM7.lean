/-
  Parts of a proof: A pool is made; pools of several dies; A pool of several dies: its calls, die by die; Whether the law is awake; BlocksWear: erases differ by one at most; Maps whose keys are numbers: made, looked up, written, struck, counted. A map is a list of its keys and values. It holds for any program; conditions stand at each theorem; BlocksOnce: what the maps of blocks that are held, and bad, say of a die's blocks; BlocksOnce: a block that is taken isn't taken again till it is free; What a law is told of its arguments: slices of bytes and of numbers as they come in. It holds for any program; conditions stand at each theorem; What a law is told of its arguments: slices as views, structs of numbers and truths by value, slices of such structs. It holds for any program; conditions stand at each theorem.
-/
import Derived.MapKept
import Derived.Test.YtaapnfoimcccjaaRows
import Derived.ProofKit
import Derived.OpenShut
import Derived.ShutString
import Derived.ChangeOld
import Derived.SizedLaws
import Derived.JoinedCond
import Derived.Deep.Slices
import Derived.Deep.Fields
import Derived.ChangeSame
import Derived.Test.YtaapnfoimcccjaaLawBlocksOnceM6
set_option linter.unusedVariables false
namespace Go.Fk
open Go.RowKit
theorem made2 (a b : Value) : ∀ n, (madeCells #[a, b] (n * 2)).toList = (List.replicate n [a, b]).flatten
  | 0 => by simp [madeCells]
  | n + 1 => by
    rw [List.replicate_succ', List.flatten_append, ← made2 a b n]
    simp only [madeCells, Array.toList_map, Array.toList_range]
    rw [show (n + 1) * 2 = n * 2 + 1 + 1 by omega, List.range_succ, List.range_succ, List.map_append, List.map_append, List.append_assoc]
    congr 1
    have e1 : n * 2 % 2 = 0 := by omega
    have e2 : (n * 2 + 1) % 2 = 1 := by omega
    simp [e1, e2]
theorem WpL.mk2 {P : Program} {N : Nat} {ops : Array Oper} {K : Env → World → Prop} {rest : List Oper} {e : Env} {w w0 : World} {M : Nat → Prop} {L : List Ch} {ty : TypeId} {pos : String} {after : Array Edge} {t el : TypeId} {d : Tmp} {x y : Operand}
    [ht : SliceT P t el] {bytes : Nat} {z a b : Value} [he : Elem P el 2 bytes z] {n : Nat} {kl kc : IntKind} {i j : Int} (hS : St w0 M w L) (hd : dOk N (some d) = true) (hx : e.eval x = .int kl i) (hi : i = (n : Int)) (hy : e.eval y = .int kc j) (hj : j = (n : Int)) (hz : z.cells = #[a, b])
    (hn : bytes * n ≤ 281474976710656) (hm : n ≤ 4611686018427387903)
    (h : ∀ A w', IsVw A n n A 0 → St w0 M w' (.own A n n el 2 ((List.replicate n [a, b]).flatten) :: L) → WpL P N ops K rest (e.set d (.slice A n n)) w') :
    WpL P N ops K (⟨some d, .makeSlice t x y, ty, pos, after, none⟩ :: rest) e w := by
  subst hi hj
  obtain ⟨i, hi, hzz, hsize, hby⟩ := he.get
  have hb' : (i.bytes : Int) * (n : Int) ≤ 281474976710656 := by
    have h : ((i.bytes * n : Nat) : Int) ≤ 281474976710656 := by rw [hby]; omega
    rwa [Int.natCast_mul] at h
  have hr := run_make (P := P) w t el i z ht.hu hi hzz kl kc n n (by omega) (Int.le_refl _) hb' (by omega)
  simp only [Int.toNat_natCast, hsize, hz] at hr
  refine WpL.run (w' := w.alloc (.cells (madeCells #[a, b] (n * 2)) el)) hd (by simp only [execOp, hx, hy, Sem.run_bind, hr]; rfl) (h (some ⟨w.heap.size, 0, none⟩) _ (IsVw.base (Nat.le_refl _) (by simp only [maxLen]; omega) (by simp)) ?_)
  refine hS.new ((Below.refl _ _).alloc (Nat.le_refl _) _) ⟨?_, .inr ⟨w.heap.size, n, _, rfl, Nat.zero_le _, heap_alloc_new w _, Nat.le_refl _, by simp only [maxLen]; omega, by rw [size_madeCells]; omega, ?_⟩⟩ rfl fun g hg => by simp [Ch.foot] at hg; omega
  · rw [← made2]; simp [madeCells]
  · rw [← made2]
    exact List.take_of_length_le (by simp [madeCells])
end Go.Fk
namespace Go.Proofs.Ytaapnfoimcccjaa
open Go.Fk Go.RowKit
attribute [local irreducible] Wp WpL Det thenQ blockQ WpG thenD blockG
instance : BuildT Try.prog 56 [.slice none 0 0] [(0, 1)] := ⟨by kernel_rfl⟩
theorem kv_append (a b : List Bk) : kv (a ++ b) = kv a ++ kv b := by simp [kv]
theorem kv_replicate : ∀ n, kv (List.replicate n ⟨0, 0⟩) = (List.replicate n [Value.int .i64 0, Value.int .u32 0]).flatten
  | 0 => rfl
  | n + 1 => by rw [List.replicate_succ, kv_cons, kv_replicate n, List.replicate_succ]; rfl
/-- A pool's dies: where each lies, and its blocks. -/
abbrev Dies := List (Option Addr × List Bk)
def rowsV (nb : Nat) (ps : Dies) : List Value := ps.map fun p => .slice p.1 nb nb
def rowsC (nb : Nat) (ps : Dies) : List Ch := ps.map fun p => .own p.1 nb nb 60 2 (kv p.2)
structure PoolOk (D : Option Addr) (nd cd nb : Nat) (ps : Dies) : Prop where
  len : ps.length = nd
  vw : IsVw D nd cd D 0
  rows : ∀ p ∈ ps, IsVw p.1 nb nb p.1 0 ∧ p.2.length = nb ∧ Fit p.2
abbrev poolL (g : Nat) (D : Option Addr) (nd cd nb : Nat) (ps : Dies) (L : List Ch) : List Ch := headsC g D nd cd (rowsV nb ps) (rowsC nb ps ++ L)
def newBlocks (nb : Nat) : List Bk := List.replicate nb ⟨1, 0⟩
theorem newBlocks_fit (nb : Nat) : Fit (newBlocks nb) := fun b hb => by rw [List.eq_of_mem_replicate hb]; decide
section
variable {w w0 : World} {M : Nat → Prop} {L : List Ch}
set_option maxHeartbeats 1000000 in
theorem new_any {dies nb : Int} (hS : St w0 M w L) : Calls Try.prog 10 #[.int .i64 dies, .int .i64 nb] w fun x w' =>
    (¬ (1 ≤ dies ∧ dies ≤ 8 ∧ 1 ≤ nb ∧ nb ≤ 64) ∧ x = .returned (.tuple #[.pointer none, .int .i64 1]) ∧ St w0 M w' L) ∨
    ((1 ≤ dies ∧ dies ≤ 8 ∧ 1 ≤ nb ∧ nb ≤ 64) ∧ ∃ g D cd ps, x = .returned (.tuple #[.pointer (some ⟨g, 0, none⟩), .int .i64 0]) ∧ PoolOk D dies.toNat cd nb.toNat ps ∧ ps.map (·.2) = List.replicate dies.toNat (newBlocks nb.toNat) ∧ St w0 M w' (poolL g D dies.toNat cd nb.toNat ps L)) := by
  (refine calls_of (P := Try.prog) _ Try.func10 rfl Try.ntmps10 (Nat.le_of_ble_eq_true rfl) ?_; dsimp only [argE, Nat.reduceAdd])
  by_cases h1 : 1 ≤ dies
  rotate_left
  · (refine Reach.walk ?_; (repeat (first | ((with_reducible refine AllSt.mk ?_); (try clear hS); intro w hS) | ((with_reducible refine AllVw.mk ?_); intro V hV))))
    (with_reducible apply doneQ_two Try.results10); (· exact slotFound); (· exact slotFound)
    exact .inl ⟨fun h => h1 h.1, rfl, hS⟩
  by_cases h2 : dies ≤ 8
  rotate_left
  · (refine Reach.walk ?_; (repeat (first | ((with_reducible refine AllSt.mk ?_); (try clear hS); intro w hS) | ((with_reducible refine AllVw.mk ?_); intro V hV))))
    (with_reducible apply doneQ_two Try.results10); (· exact slotFound); (· exact slotFound)
    exact .inl ⟨fun h => h2 h.2.1, rfl, hS⟩
  by_cases h3 : 1 ≤ nb
  rotate_left
  · (refine Reach.walk ?_; (repeat (first | ((with_reducible refine AllSt.mk ?_); (try clear hS); intro w hS) | ((with_reducible refine AllVw.mk ?_); intro V hV))))
    (with_reducible apply doneQ_two Try.results10); (· exact slotFound); (· exact slotFound)
    exact .inl ⟨fun h => h3 h.2.2.1, rfl, hS⟩
  by_cases h4 : nb ≤ 64
  rotate_left
  · (refine Reach.walk ?_; (repeat (first | ((with_reducible refine AllSt.mk ?_); (try clear hS); intro w hS) | ((with_reducible refine AllVw.mk ?_); intro V hV))))
    (with_reducible apply doneQ_two Try.results10); (· exact slotFound); (· exact slotFound)
    exact .inl ⟨fun h => h4 h.2.2.2, rfl, hS⟩
  obtain ⟨nd, rfl⟩ := Int.eq_ofNat_of_zero_le (show 0 ≤ dies by omega)
  obtain ⟨nb, rfl⟩ := Int.eq_ofNat_of_zero_le (show 0 ≤ nb by omega)
  rw [Int.toNat_natCast, Int.toNat_natCast]
  (refine Reach.walk ?_; (repeat (first | ((with_reducible refine AllSt.mk ?_); (try clear hS); intro w hS) | ((with_reducible refine AllVw.mk ?_); intro V hV))))
  refine WpL.det rfl (Det.build (cells := [.slice none 0 0]) PVals.found rfl) ?_
  (refine Reach.walk ?_; (repeat (first | ((with_reducible refine AllSt.mk ?_); (try clear hS); intro w hS) | ((with_reducible refine AllVw.mk ?_); intro V hV))))
  ((with_reducible apply WpL.bx); (· assumption); (· exact rfl); (· exact Env.found); (· exact rfl); clear hS)
  intro g w hS
  (refine Reach.walk ?_; (repeat (first | ((with_reducible refine AllSt.mk ?_); (try clear hS); intro w hS) | ((with_reducible refine AllVw.mk ?_); intro V hV))))
  replace hS : St w0 M w (.own none 0 0 57 1 (rowsV nb []) :: .blk g 56 [.slice none 0 0] :: L) := hS.nil_
  apply Wp.loopUp nd (fun k e w' => ∃ D cd ps, PoolOk D k cd nb ps ∧ ps.map (·.2) = List.replicate k (newBlocks nb) ∧ St w0 M w' (poolL g D k cd nb ps L) ∧
      e.Has [(26, .int .i64 (k : Nat)), (25, .int .i64 (nd : Nat)), (6, .pointer (some ⟨g, 0, none⟩)), (1, .int .i64 (nb : Nat))]) (Nat.zero_le _)
    ⟨none, 0, [], ⟨rfl, IsVw.nil, fun p hp => (by cases hp)⟩, rfl, hS.swap1, rfl, rfl, rfl, rfl, trivial⟩
  clear hS
  rintro k e w hk ⟨D, cd, ps, hok, hps, hS, he⟩
  obtain ⟨e0, rfl⟩ := he.eq
  clear he
  dsimp only [Env.sets]
  by_cases hlt : k < nd
  rotate_left
  · obtain rfl : k = nd := by omega
    (refine Reach.walk ?_; (repeat (first | ((with_reducible refine AllSt.mk ?_); (try clear hS); intro w hS) | ((with_reducible refine AllVw.mk ?_); intro V hV))))
    (with_reducible apply doneQ_two Try.results10); (· exact slotFound); (· exact slotFound)
    exact .inr ⟨⟨by omega, by omega, by omega, by omega⟩, g, D, cd, ps, rfl, hok, hps, hS⟩
  (refine Reach.walk ?_; (repeat (first | ((with_reducible refine AllSt.mk ?_); (try clear hS); intro w hS) | ((with_reducible refine AllVw.mk ?_); intro V hV))))
  refine WpL.mk2 (a := .int .i64 0) (b := .int .u32 0) (n := nb) hS rfl rfl rfl rfl rfl rfl (by omega) (by omega) ?_
  clear hS
  intro A w hA hS
  rw [← kv_replicate] at hS
  (refine Reach.walk ?_; (repeat (first | ((with_reducible refine AllSt.mk ?_); (try clear hS); intro w hS) | ((with_reducible refine AllVw.mk ?_); intro V hV))))
  apply Wp.loopUp nb (fun i e w' => St w0 M w' (.own A nb nb 60 2 (kv (List.replicate i ⟨1, 0⟩ ++ List.replicate (nb - i) (⟨0, 0⟩ : Bk))) :: poolL g D k cd nb ps L) ∧
      e.Has [(32, .int .i64 (i : Nat)), (31, .int .i64 (nb : Nat)), (7, .slice A nb nb), (26, .int .i64 (k : Nat)), (25, .int .i64 (nd : Nat)), (6, .pointer (some ⟨g, 0, none⟩)), (1, .int .i64 (nb : Nat))]) (Nat.zero_le _)
    ⟨hS, rfl, rfl, rfl, rfl, rfl, rfl, rfl, trivial⟩
  clear hS
  rintro i e w hi ⟨hS, he⟩
  obtain ⟨e0, rfl⟩ := he.eq
  clear he
  dsimp only [Env.sets]
  by_cases hli : i < nb
  · have hlen : (List.replicate i (⟨1, 0⟩ : Bk) ++ List.replicate (nb - i) (⟨0, 0⟩ : Bk)).length = nb := by simp; omega
    have hset : (List.replicate i (⟨1, 0⟩ : Bk) ++ List.replicate (nb - i) (⟨0, 0⟩ : Bk)).set i ⟨1, ((List.replicate i (⟨1, 0⟩ : Bk) ++ List.replicate (nb - i) (⟨0, 0⟩ : Bk)).getD i ⟨0, 0⟩).er⟩ = List.replicate (i + 1) ⟨1, 0⟩ ++ List.replicate (nb - (i + 1)) (⟨0, 0⟩ : Bk) := by
      obtain ⟨q, hq⟩ : ∃ q, nb - i = q + 1 := ⟨nb - i - 1, by omega⟩
      rw [hq, show nb - (i + 1) = q by omega, List.replicate_succ, List.set_append_right _ _ (by simp)]
      simp [List.replicate_succ', List.getD_eq_getElem?_getD]
    have hup := kv_set_st' 1 (l := List.replicate i (⟨1, 0⟩ : Bk) ++ List.replicate (nb - i) (⟨0, 0⟩ : Bk)) (i := i) (by omega)
    rw [hset] at hup
    have hup2 : Upd (.own A nb nb 60 2 (kv (List.replicate i ⟨1, 0⟩ ++ List.replicate (nb - i) (⟨0, 0⟩ : Bk))) :: poolL g D k cd nb ps L) ((adr A).add (0 + i * 2 + 0)) (.int .i64 1) (.own A nb nb 60 2 (kv (List.replicate (i + 1) ⟨1, 0⟩ ++ List.replicate (nb - (i + 1)) (⟨0, 0⟩ : Bk))) :: poolL g D k cd nb ps L) :=
      Upd.own (by rw [kv_length]; omega) hup
    clear hup hset hlen
    (refine Reach.walk ?_; (repeat (first | ((with_reducible refine AllSt.mk ?_); (try clear hS); intro w hS) | ((with_reducible refine AllVw.mk ?_); intro V hV))))
    exact ⟨hli, hS, int_eq (by omega), rfl, rfl, rfl, rfl, rfl, rfl, trivial⟩
  obtain rfl : i = nb := by omega
  rw [Nat.sub_self, List.replicate_zero, List.append_nil] at hS
  (refine Reach.walk ?_; (repeat (first | ((with_reducible refine AllSt.mk ?_); (try clear hS); intro w hS) | ((with_reducible refine AllVw.mk ?_); intro V hV))))
  ((with_reducible apply WpL.bs); (· assumption); (· exact rfl); (· exact BVals.found); (· exact oneAll_spec rfl); (· exact rfl); (· decide); (· exact listFound); clear hS)
  intro B w hB hS
  (refine Reach.walk ?_; (repeat (first | ((with_reducible refine AllSt.mk ?_); (try clear hS); intro w hS) | ((with_reducible refine AllVw.mk ?_); intro V hV))))
  ((with_reducible apply WpL.app); (· assumption); (· exact rfl); (· exact rfl); (· exact rfl); (· exact Sel.found); (· simp only [Nat.mul_one]; exact RdsV.found); (· exact onesFound); (· exact catFound); (· omega); (· omega); clear hS)
  intro D2 cd2 w hD2 hS
  (refine Reach.walk ?_; (repeat (first | ((with_reducible refine AllSt.mk ?_); (try clear hS); intro w hS) | ((with_reducible refine AllVw.mk ?_); intro V hV))))
  (replace hS := (hS.take (pre := [.blk g _ _, .own D2 _ _ _ _ _, .own A _ _ _ _ _]) Take.found); (try simp only [List.cons_append, List.nil_append] at hS))
  have hS2 := hS.sub (.cons_cons _ (.cons_cons _ (.cons_cons _ (List.sublist_cons_self _ _))))
  have e1 : rowsV i (ps ++ [(A, newBlocks i)]) = rowsV i ps ++ [Value.slice A i i] := by simp [rowsV]
  have e2 : rowsC i (ps ++ [(A, newBlocks i)]) = rowsC i ps ++ [.own A i i 60 2 (kv (newBlocks i))] := by simp [rowsC]
  refine ⟨hlt, D2, cd2, ps ++ [(A, newBlocks i)], ⟨by rw [List.length_append, hok.len]; rfl, hD2, fun p hp => ?_⟩, by rw [List.map_append, hps, List.replicate_succ']; rfl, ?_, int_eq (by omega), rfl, rfl, rfl, trivial⟩
  · rcases List.mem_append.1 hp with hp | hp
    · exact hok.rows p hp
    · rw [List.mem_singleton.1 hp]
      exact ⟨hA, List.length_replicate, newBlocks_fit i⟩
  · show St w0 M w (headsC g D2 (k + 1) cd2 (rowsV i (ps ++ [(A, newBlocks i)])) (rowsC i (ps ++ [(A, newBlocks i)]) ++ L))
    rw [e1, e2]
    refine hS2.perm (List.Perm.cons _ (List.Perm.cons _ ?_))
    rw [List.append_assoc]
    exact List.perm_middle.symm
end
end Go.Proofs.Ytaapnfoimcccjaa

namespace Go.Proofs.Ytaapnfoimcccjaa
open Go.Fk Go.RowKit
attribute [local irreducible] Wp WpL Det thenQ blockQ WpG thenD blockG
theorem rowsC_mid (nb : Nat) (a : Dies) (p : Option Addr × List Bk) (b : Dies) : rowsC nb (a ++ p :: b) = rowsC nb a ++ .own p.1 nb nb 60 2 (kv p.2) :: rowsC nb b := by simp [rowsC]
theorem rowsV_mid (nb : Nat) (a : Dies) (p : Option Addr × List Bk) (b : Dies) : rowsV nb (a ++ p :: b) = rowsV nb a ++ .slice p.1 nb nb :: rowsV nb b := by simp [rowsV]
/-- A pool lies at g; X: its dies. -/
def PSt (w0 : World) (M : Nat → Prop) (w : World) (g nd nb : Nat) (X : List (List Bk)) (L : List Ch) : Prop := ∃ D cd ps, PoolOk D nd cd nb ps ∧ ps.map (·.2) = X ∧ St w0 M w (poolL g D nd cd nb ps L)
structure XOk (nd nb : Nat) (X : List (List Bk)) : Prop where
  len : X.length = nd
  rows : ∀ l ∈ X, l.length = nb ∧ Fit l
section
variable {w w0 : World} {M : Nat → Prop} {L : List Ch} {g nd nb : Nat} {X : List (List Bk)}
theorem PSt.ok (h : PSt w0 M w g nd nb X L) : XOk nd nb X := by
  obtain ⟨D, cd, ps, h1, rfl, _⟩ := h
  refine ⟨by rw [List.length_map, h1.len], fun l hl => ?_⟩
  obtain ⟨p, hp, rfl⟩ := List.mem_map.1 hl
  exact (h1.rows p hp).2
theorem PSt.below {w' : World} (h : PSt w0 M w g nd nb X L) (hb : Below w.heap.size w w') : PSt w0 M w' g nd nb X L := let ⟨D, cd, ps, h1, h2, h3⟩ := h; ⟨D, cd, ps, h1, h2, h3.below hb⟩
theorem PSt.rest (h : PSt w0 M w g nd nb X L) : St w0 M w L := by
  obtain ⟨D, cd, ps, h1, h2, h3⟩ := h
  exact h3.sub ((List.sublist_append_right _ _).trans ((List.sublist_cons_self _ _).trans (List.sublist_cons_self _ _)))
theorem PSt.sub {L' : List Ch} (h : PSt w0 M w g nd nb X L) (hs : L'.Sublist L) : PSt w0 M w g nd nb X L' := by
  obtain ⟨D, cd, ps, h1, h2, h3⟩ := h
  exact ⟨D, cd, ps, h1, h2, h3.sub (.cons_cons _ (.cons_cons _ ((List.Sublist.refl _).append hs)))⟩
theorem PSt.outR (h : PSt w0 M w g nd nb X L) {P : Program} {f : FuncId} {args : Array Value} {R : Ending → Prop}
    (hc : ∀ D cd rows L', IsVw D nd cd D 0 → St w0 M w (headsC g D nd cd rows L') → Calls P f args w fun x w' => R x ∧ St w0 M w' (headsC g D nd cd rows L')) : Calls P f args w fun x w' => R x ∧ PSt w0 M w' g nd nb X L := by
  obtain ⟨D, cd, ps, h1, h2, h3⟩ := h
  refine (hc D cd _ _ h1.vw h3).mono fun x w' hx => ?_
  exact ⟨hx.1, D, cd, ps, h1, h2, hx.2⟩
theorem PSt.inR {d : Nat} (h : PSt w0 M w g nd nb X L) (hd : d < nd) {P : Program} {f : FuncId} {args : Array Value} {R : List Bk → Ending → Prop} {fl : List Bk → List Bk} (hfl : ∀ l, l.length = nb → Fit l → (fl l).length = nb ∧ Fit (fl l))
    (hc : ∀ D cd rows A l L', IsVw D nd cd D 0 → rows[d]? = some (.slice A nb nb) → IsVw A nb nb A 0 → l.length = nb → Fit l → St w0 M w (poolC g D nd cd rows A nb nb l L') → Calls P f args w fun x w' => R l x ∧ St w0 M w' (poolC g D nd cd rows A nb nb (fl l) L')) :
    Calls P f args w fun x w' => R (X.getD d []) x ∧ PSt w0 M w' g nd nb (X.set d (fl (X.getD d []))) L := by
  obtain ⟨D, cd, ps, h1, rfl, h3⟩ := h
  have hdl : d < ps.length := by rw [h1.len]; exact hd
  have hpm : ps[d] ∈ ps := List.getElem_mem hdl
  obtain ⟨hp1, hp2, hp3⟩ := h1.rows _ hpm
  have hgd : (ps.map (·.2)).getD d [] = ps[d].2 := by rw [List.getD_eq_getElem?_getD, List.getElem?_map, List.getElem?_eq_getElem hdl]; rfl
  have hrow : (rowsV nb ps)[d]? = some (.slice ps[d].1 nb nb) := by rw [rowsV, List.getElem?_map, List.getElem?_eq_getElem hdl]; rfl
  have hsp : ps = ps.take d ++ ps[d] :: ps.drop (d + 1) := by rw [← List.drop_eq_getElem_cons hdl, List.take_append_drop]
  have hC : rowsC nb ps ++ L = rowsC nb (ps.take d) ++ (.own ps[d].1 nb nb 60 2 (kv ps[d].2) :: (rowsC nb (ps.drop (d + 1)) ++ L)) := by
    rw [(congrArg (rowsC nb) hsp).trans (rowsC_mid _ _ _ _), List.append_assoc, List.cons_append]
  have hset : ps.set d (ps[d].1, fl ps[d].2) = ps.take d ++ (ps[d].1, fl ps[d].2) :: ps.drop (d + 1) := by rw [List.set_eq_take_append_cons_drop, if_pos hdl]
  have hC2 : rowsC nb (ps.set d (ps[d].1, fl ps[d].2)) ++ L = rowsC nb (ps.take d) ++ (.own ps[d].1 nb nb 60 2 (kv (fl ps[d].2)) :: (rowsC nb (ps.drop (d + 1)) ++ L)) := by
    rw [hset, rowsC_mid, List.append_assoc, List.cons_append]
  have hV2 : rowsV nb (ps.set d (ps[d].1, fl ps[d].2)) = rowsV nb ps := by
    rw [hset, rowsV_mid]
    exact ((congrArg (rowsV nb) hsp).trans (rowsV_mid _ _ _ _)).symm
  have h4 : St w0 M w (poolC g D nd cd (rowsV nb ps) ps[d].1 nb nb ps[d].2 (rowsC nb (ps.take d) ++ (rowsC nb (ps.drop (d + 1)) ++ L))) := by
    refine h3.perm (List.Perm.cons _ (List.Perm.cons _ ?_))
    rw [hC]
    exact List.perm_middle
  refine (hc D cd _ _ _ _ h1.vw hrow hp1 hp2 hp3 h4).mono fun x w' hx => ?_
  rw [hgd]
  obtain ⟨hf1, hf2⟩ := hfl _ hp2 hp3
  refine ⟨hx.1, D, cd, ps.set d (ps[d].1, fl ps[d].2), ⟨by rw [List.length_set, h1.len], h1.vw, fun p hp => ?_⟩, by rw [List.map_set], ?_⟩
  · rcases List.mem_or_eq_of_mem_set hp with hp | rfl
    · exact h1.rows p hp
    · exact ⟨hp1, hf1, hf2⟩
  · show St w0 M w' (headsC g D nd cd (rowsV nb (ps.set d (ps[d].1, fl ps[d].2))) (rowsC nb (ps.set d (ps[d].1, fl ps[d].2)) ++ L))
    rw [hV2, hC2]
    exact hx.2.perm (List.Perm.cons _ (List.Perm.cons _ List.perm_middle.symm))
theorem PSt.same {d : Nat} (h : PSt w0 M w g nd nb (X.set d (X.getD d [])) L) : PSt w0 M w g nd nb X L := by
  have : X.set d (X.getD d []) = X := by
    by_cases hd : d < X.length
    · rw [List.getD_eq_getElem?_getD, List.getElem?_eq_getElem hd]
      exact List.set_getElem_self hd
    · exact List.set_eq_of_length_le (by omega)
  rwa [this] at h

/-! ### What the calls do to the dies -/
def inX (X : List (List Bk)) (d : Int) : Prop := 0 ≤ d ∧ d < X.length
instance (X : List (List Bk)) (d : Int) : Decidable (inX X d) := by unfold inX; infer_instance
def dieX (X : List (List Bk)) (d : Int) : List Bk := X.getD d.toNat []
def takeX (X : List (List Bk)) (d : Int) : (Int × Int) × List (List Bk) := if inX X d then ((takeL (dieX X d)).1, X.set d.toNat (takeL (dieX X d)).2) else ((0, 1), X)
def turnX (X : List (List Bk)) (d n : Int) (to : Nat) (fs : List Int) : Int × List (List Bk) := if inX X d then ((turnL (dieX X d) n to fs).1, X.set d.toNat (turnL (dieX X d) n to fs).2) else (1, X)
def erasedX (X : List (List Bk)) (d n : Int) : Int × List (List Bk) := if inX X d then ((erasedL (dieX X d) n).1, X.set d.toNat (erasedL (dieX X d) n).2) else (1, X)
def stX (X : List (List Bk)) (d n : Int) : Nat := if inX X d then stAt (dieX X d) n else 0
def erX (X : List (List Bk)) (d n : Int) : Nat := if inX X d then erAt (dieX X d) n else 0
def countX (X : List (List Bk)) (d s : Int) : Nat := if inX X d then countL (dieX X d) s else 0
def spreadX (X : List (List Bk)) (d : Int) : Int := if inX X d then spreadL (dieX X d) else 0
theorem PSt.split (h : PSt w0 M w g nd nb X L) (d : Int) : (inX X d ∧ ∃ k : Nat, k < nd ∧ d = (k : Int) ∧ dieX X d = X.getD k []) ∨ (¬ inX X d ∧ ¬ (0 ≤ d ∧ d < nd)) := by
  have hl := h.ok.len
  unfold inX dieX
  by_cases hin : 0 ≤ d ∧ d < nd
  · left
    exact ⟨⟨hin.1, by omega⟩, d.toNat, by omega, by omega, rfl⟩
  · right
    exact ⟨fun h => hin ⟨h.1, by omega⟩, hin⟩
theorem takeP (hnb : 1 ≤ nb ∧ nb ≤ 64) (hnd : nd ≤ 8) (d : Int) (h : PSt w0 M w g nd nb X L) :
    Calls Try.prog 11 #[.pointer (some ⟨g, 0, none⟩), .int .i64 d] w fun x w' => x = .returned (.tuple #[.int .i64 (takeX X d).1.1, .int .i64 (takeX X d).1.2]) ∧ PSt w0 M w' g nd nb (takeX X d).2 L := by
  unfold takeX
  rcases h.split d with ⟨hin, k, hk, rfl, e⟩ | ⟨hin, hd⟩
  · rw [if_pos hin, e, Int.toNat_natCast]
    exact h.inR hk (R := fun l x => x = .returned (.tuple #[.int .i64 (takeL l).1.1, .int .i64 (takeL l).1.2])) (fl := fun l => (takeL l).2) (fun l h1 h2 => ⟨by rw [takeL_len, h1], h2.take⟩)
      fun D cd rows A l L' hD hrow hA hl hf hS => takeI hnb.1 hl hf hD hk hrow hA (by omega) (by omega) hS
  · rw [if_neg hin]
    exact h.outR (R := fun x => x = .returned (.tuple #[.int .i64 0, .int .i64 1])) fun D cd rows L' hD hS => takeO hD hd hS
theorem erasedP (hnb : 1 ≤ nb ∧ nb ≤ 64) (hnd : nd ≤ 8) (d n : Int) (h : PSt w0 M w g nd nb X L) :
    Calls Try.prog 12 #[.pointer (some ⟨g, 0, none⟩), .int .i64 d, .int .i64 n] w fun x w' => x = .returned (.int .i64 (erasedX X d n).1) ∧ PSt w0 M w' g nd nb (erasedX X d n).2 L := by
  unfold erasedX
  rcases h.split d with ⟨hin, k, hk, rfl, e⟩ | ⟨hin, hd⟩
  · rw [if_pos hin, e, Int.toNat_natCast]
    exact h.inR hk (R := fun l x => x = .returned (.int .i64 (erasedL l n).1)) (fl := fun l => (erasedL l n).2) (fun l h1 h2 => ⟨by rw [erasedL_len, h1], h2.erased n⟩)
      fun D cd rows A l L' hD hrow hA hl hf hS => erasedI hl hf hD hk hrow hA (by omega) (by omega) hS
  · rw [if_neg hin]
    exact h.outR (R := fun x => x = .returned (.int .i64 1)) fun D cd rows L' hD hS => erasedO hD hd hS
theorem holdP (hnb : 1 ≤ nb ∧ nb ≤ 64) (hnd : nd ≤ 8) (d n : Int) (h : PSt w0 M w g nd nb X L) :
    Calls Try.prog 21 #[.pointer (some ⟨g, 0, none⟩), .int .i64 d, .int .i64 n] w fun x w' => x = .returned (.int .i64 (turnX X d n 2 [1]).1) ∧ PSt w0 M w' g nd nb (turnX X d n 2 [1]).2 L := by
  unfold turnX
  rcases h.split d with ⟨hin, k, hk, rfl, e⟩ | ⟨hin, hd⟩
  · rw [if_pos hin, e, Int.toNat_natCast]
    exact h.inR hk (R := fun l x => x = .returned (.int .i64 (turnL l n 2 [1]).1)) (fl := fun l => (turnL l n 2 [1]).2) (fun l h1 h2 => ⟨by rw [turnL_len, h1], h2.turn n (by decide) _⟩)
      fun D cd rows A l L' hD hrow hA hl hf hS => holdI hl hf hD hk hrow hA (by omega) (by omega) hS
  · rw [if_neg hin]
    exact h.outR (R := fun x => x = .returned (.int .i64 1)) fun D cd rows L' hD hS => holdO hD hd hS
theorem closeP (hnb : 1 ≤ nb ∧ nb ≤ 64) (hnd : nd ≤ 8) (d n : Int) (h : PSt w0 M w g nd nb X L) :
    Calls Try.prog 19 #[.pointer (some ⟨g, 0, none⟩), .int .i64 d, .int .i64 n] w fun x w' => x = .returned (.int .i64 (turnX X d n 3 [2]).1) ∧ PSt w0 M w' g nd nb (turnX X d n 3 [2]).2 L := by
  unfold turnX
  rcases h.split d with ⟨hin, k, hk, rfl, e⟩ | ⟨hin, hd⟩
  · rw [if_pos hin, e, Int.toNat_natCast]
    exact h.inR hk (R := fun l x => x = .returned (.int .i64 (turnL l n 3 [2]).1)) (fl := fun l => (turnL l n 3 [2]).2) (fun l h1 h2 => ⟨by rw [turnL_len, h1], h2.turn n (by decide) _⟩)
      fun D cd rows A l L' hD hrow hA hl hf hS => closeI hl hf hD hk hrow hA (by omega) (by omega) hS
  · rw [if_neg hin]
    exact h.outR (R := fun x => x = .returned (.int .i64 1)) fun D cd rows L' hD hS => closeO hD hd hS
theorem freeP (hnb : 1 ≤ nb ∧ nb ≤ 64) (hnd : nd ≤ 8) (d n : Int) (h : PSt w0 M w g nd nb X L) :
    Calls Try.prog 13 #[.pointer (some ⟨g, 0, none⟩), .int .i64 d, .int .i64 n] w fun x w' => x = .returned (.int .i64 (turnX X d n 1 [2, 3]).1) ∧ PSt w0 M w' g nd nb (turnX X d n 1 [2, 3]).2 L := by
  unfold turnX
  rcases h.split d with ⟨hin, k, hk, rfl, e⟩ | ⟨hin, hd⟩
  · rw [if_pos hin, e, Int.toNat_natCast]
    exact h.inR hk (R := fun l x => x = .returned (.int .i64 (turnL l n 1 [2, 3]).1)) (fl := fun l => (turnL l n 1 [2, 3]).2) (fun l h1 h2 => ⟨by rw [turnL_len, h1], h2.turn n (by decide) _⟩)
      fun D cd rows A l L' hD hrow hA hl hf hS => freeI hl hf hD hk hrow hA (by omega) (by omega) hS
  · rw [if_neg hin]
    exact h.outR (R := fun x => x = .returned (.int .i64 1)) fun D cd rows L' hD hS => freeO hD hd hS
theorem badP (hnb : 1 ≤ nb ∧ nb ≤ 64) (hnd : nd ≤ 8) (d n : Int) (h : PSt w0 M w g nd nb X L) :
    Calls Try.prog 16 #[.pointer (some ⟨g, 0, none⟩), .int .i64 d, .int .i64 n] w fun x w' => x = .returned (.int .i64 (turnX X d n 4 [1, 2, 3, 4]).1) ∧ PSt w0 M w' g nd nb (turnX X d n 4 [1, 2, 3, 4]).2 L := by
  unfold turnX
  rcases h.split d with ⟨hin, k, hk, rfl, e⟩ | ⟨hin, hd⟩
  · rw [if_pos hin, e, Int.toNat_natCast]
    exact h.inR hk (R := fun l x => x = .returned (.int .i64 (turnL l n 4 [1, 2, 3, 4]).1)) (fl := fun l => (turnL l n 4 [1, 2, 3, 4]).2) (fun l h1 h2 => ⟨by rw [turnL_len, h1], h2.turn n (by decide) _⟩)
      fun D cd rows A l L' hD hrow hA hl hf hS => badI hl hf hD hk hrow hA (by omega) (by omega) hS
  · rw [if_neg hin]
    exact h.outR (R := fun x => x = .returned (.int .i64 1)) fun D cd rows L' hD hS => badO hD hd hS
theorem stateP (hnb : 1 ≤ nb ∧ nb ≤ 64) (hnd : nd ≤ 8) (d n : Int) (h : PSt w0 M w g nd nb X L) :
    Calls Try.prog 25 #[.pointer (some ⟨g, 0, none⟩), .int .i64 d, .int .i64 n] w fun x w' => x = .returned (.int .i64 (stX X d n : Nat)) ∧ PSt w0 M w' g nd nb X L := by
  unfold stX
  rcases h.split d with ⟨hin, k, hk, rfl, e⟩ | ⟨hin, hd⟩
  · rw [if_pos hin, e]
    refine (h.inR hk (R := fun l x => x = .returned (.int .i64 (stAt l n : Nat))) (fl := fun l => l) (fun l h1 h2 => ⟨h1, h2⟩)
      fun D cd rows A l L' hD hrow hA hl hf hS => stateI hl hf hD hk hrow hA (by omega) (by omega) hS).mono fun x w' hx => ⟨hx.1, hx.2.same⟩
  · rw [if_neg hin]
    exact h.outR (R := fun x => x = .returned (.int .i64 ((0 : Nat) : Int))) fun D cd rows L' hD hS => stateO hD hd hS
theorem erasesP (hnb : 1 ≤ nb ∧ nb ≤ 64) (hnd : nd ≤ 8) (d n : Int) (h : PSt w0 M w g nd nb X L) :
    Calls Try.prog 26 #[.pointer (some ⟨g, 0, none⟩), .int .i64 d, .int .i64 n] w fun x w' => x = .returned (.int .i64 (erX X d n : Nat)) ∧ PSt w0 M w' g nd nb X L := by
  unfold erX
  rcases h.split d with ⟨hin, k, hk, rfl, e⟩ | ⟨hin, hd⟩
  · rw [if_pos hin, e]
    refine (h.inR hk (R := fun l x => x = .returned (.int .i64 (erAt l n : Nat))) (fl := fun l => l) (fun l h1 h2 => ⟨h1, h2⟩)
      fun D cd rows A l L' hD hrow hA hl hf hS => erasesI hl hf hD hk hrow hA (by omega) (by omega) hS).mono fun x w' hx => ⟨hx.1, hx.2.same⟩
  · rw [if_neg hin]
    exact h.outR (R := fun x => x = .returned (.int .i64 ((0 : Nat) : Int))) fun D cd rows L' hD hS => erasesO hD hd hS
theorem countP (hnb : 1 ≤ nb ∧ nb ≤ 64) (hnd : nd ≤ 8) (d s : Int) (h : PSt w0 M w g nd nb X L) :
    Calls Try.prog 15 #[.pointer (some ⟨g, 0, none⟩), .int .i64 d, .int .i64 s] w fun x w' => x = .returned (.int .i64 (countX X d s : Nat)) ∧ PSt w0 M w' g nd nb X L := by
  unfold countX
  rcases h.split d with ⟨hin, k, hk, rfl, e⟩ | ⟨hin, hd⟩
  · rw [if_pos hin, e]
    refine (h.inR hk (R := fun l x => x = .returned (.int .i64 (countL l s : Nat))) (fl := fun l => l) (fun l h1 h2 => ⟨h1, h2⟩)
      fun D cd rows A l L' hD hrow hA hl hf hS => countI hl hf hD hk hrow hA (by omega) (by omega) hS).mono fun x w' hx => ⟨hx.1, hx.2.same⟩
  · rw [if_neg hin]
    exact h.outR (R := fun x => x = .returned (.int .i64 ((0 : Nat) : Int))) fun D cd rows L' hD hS => countO hD hd hS
theorem spreadP (hnb : 1 ≤ nb ∧ nb ≤ 64) (hnd : nd ≤ 8) (d : Int) (h : PSt w0 M w g nd nb X L) :
    Calls Try.prog 14 #[.pointer (some ⟨g, 0, none⟩), .int .i64 d] w fun x w' => x = .returned (.int .i64 (spreadX X d)) ∧ PSt w0 M w' g nd nb X L := by
  unfold spreadX
  rcases h.split d with ⟨hin, k, hk, rfl, e⟩ | ⟨hin, hd⟩
  · rw [if_pos hin, e]
    refine (h.inR hk (R := fun l x => x = .returned (.int .i64 (spreadL l))) (fl := fun l => l) (fun l h1 h2 => ⟨h1, h2⟩)
      fun D cd rows A l L' hD hrow hA hl hf hS => spreadI hl hf hD hk hrow hA (by omega) (by omega) hS).mono fun x w' hx => ⟨hx.1, hx.2.same⟩
  · rw [if_neg hin]
    exact h.outR (R := fun x => x = .returned (.int .i64 0)) fun D cd rows L' hD hS => spreadO hD hd hS
theorem newP {dies n : Int} (hS : St w0 M w L) : Calls Try.prog 10 #[.int .i64 dies, .int .i64 n] w fun x w' =>
    (¬ (1 ≤ dies ∧ dies ≤ 8 ∧ 1 ≤ n ∧ n ≤ 64) ∧ x = .returned (.tuple #[.pointer none, .int .i64 1]) ∧ St w0 M w' L) ∨
    ((1 ≤ dies ∧ dies ≤ 8 ∧ 1 ≤ n ∧ n ≤ 64) ∧ ∃ g, x = .returned (.tuple #[.pointer (some ⟨g, 0, none⟩), .int .i64 0]) ∧ PSt w0 M w' g dies.toNat n.toNat (List.replicate dies.toNat (newBlocks n.toNat)) L) := by
  refine (new_any hS).mono ?_
  rintro x w' (h | ⟨h1, g, D, cd, ps, rfl, h2, h3, h4⟩)
  · exact .inl h
  · exact .inr ⟨h1, g, rfl, D, cd, ps, h2, h3, h4⟩
end
end Go.Proofs.Ytaapnfoimcccjaa

namespace Go.Proofs.Ytaapnfoimcccjaa
open Go.Fk Go.RowKit
attribute [local irreducible] Wp WpL Det thenQ blockQ WpG thenD blockG
def absN (z : Int) : Nat := if z < 0 then (-(z + 1)).toNat else z.toNat
theorem abs_any {z : Int} (hz : -9223372036854775808 ≤ z ∧ z ≤ 9223372036854775807) (w : World) : Calls Try.prog 9 #[.int .i64 z] w fun x w' => x = .returned (.int .i64 (absN z : Nat)) ∧ w = w' := by
  unfold absN
  (refine calls_of (P := Try.prog) _ Try.func9 rfl Try.ntmps9 (Nat.le_of_ble_eq_true rfl) ?_; dsimp only [argE, Nat.reduceAdd])
  by_cases h : z < 0
  · rw [if_pos h]
    (refine Reach.walk ?_; (repeat (first | ((with_reducible refine AllSt.mk ?_); (try clear hS); intro w hS) | ((with_reducible refine AllVw.mk ?_); intro V hV))))
    (with_reducible apply doneQ_one Try.results9); (· exact slotFound)
    exact ⟨by congr 1; exact int_eq (by omega), rfl⟩
  · rw [if_neg h]
    (refine Reach.walk ?_; (repeat (first | ((with_reducible refine AllSt.mk ?_); (try clear hS); intro w hS) | ((with_reducible refine AllVw.mk ?_); intro V hV))))
    (with_reducible apply doneQ_one Try.results9); (· exact slotFound)
    exact ⟨by congr 1; exact int_eq (by omega), rfl⟩
theorem absN_le {z : Int} (hz : -9223372036854775808 ≤ z ∧ z ≤ 9223372036854775807) : absN z ≤ 9223372036854775807 := by
  unfold absN
  split <;> omega
section
variable {w w0 : World} {M : Nat → Prop} {L : List Ch}
theorem awake_any (hS : St w0 M w L) : Calls Try.prog 8 #[] w fun x w' => x = .returned (.bool true) ∧ St w0 M w' L := by
  (refine calls_of (P := Try.prog) _ Try.func8 rfl Try.ntmps8 (Nat.le_of_ble_eq_true rfl) ?_; dsimp only [argE, Nat.reduceAdd])
  (refine Reach.walk ?_; (repeat (first | ((with_reducible refine AllSt.mk ?_); (try clear hS); intro w hS) | ((with_reducible refine AllVw.mk ?_); intro V hV))))
  (with_reducible apply WpL.call); (· exact rfl); (· exact Try.call10); (· exact Vals.found)
  refine (newP hS).mono ?_
  clear hS
  rintro x w (⟨h, _⟩ | ⟨-, g, rfl, hP⟩)
  · exact absurd ⟨by decide, by decide, by decide, by decide⟩ h
  refine ⟨_, rfl, ?_⟩
  have hX : List.replicate (1 : Int).toNat (newBlocks (3 : Int).toNat) = [[⟨1, 0⟩, ⟨1, 0⟩, ⟨1, 0⟩]] := rfl
  rw [hX] at hP
  replace hP : PSt w0 M w g 1 3 [[⟨1, 0⟩, ⟨1, 0⟩, ⟨1, 0⟩]] L := hP
  (refine Reach.walk ?_; (repeat (first | ((with_reducible refine AllSt.mk ?_); (try clear hS); intro w hS) | ((with_reducible refine AllVw.mk ?_); intro V hV))))
  ((with_reducible apply WpL.call); (· exact rfl); (· exact Try.call11); (· exact Vals.found)); (refine (takeP (by decide) (by decide) 0 hP).mono ?_); clear hP; rintro x w ⟨rfl, hP⟩; (refine ⟨_, rfl, ?_⟩)
  have e1 : takeX [[⟨1, 0⟩, ⟨1, 0⟩, ⟨1, 0⟩]] 0 = ((0, 0), [[⟨2, 0⟩, ⟨1, 0⟩, ⟨1, 0⟩]]) := by kernel_rfl
  rw [e1] at hP ⊢
  (refine Reach.walk ?_; (repeat (first | ((with_reducible refine AllSt.mk ?_); (try clear hS); intro w hS) | ((with_reducible refine AllVw.mk ?_); intro V hV))))
  ((with_reducible apply WpL.call); (· exact rfl); (· exact Try.call12); (· exact Vals.found)); (refine (erasedP (by decide) (by decide) 0 0 hP).mono ?_); clear hP; rintro x w ⟨rfl, hP⟩; (refine ⟨_, rfl, ?_⟩)
  have e2 : erasedX [[⟨2, 0⟩, ⟨1, 0⟩, ⟨1, 0⟩]] 0 0 = (0, [[⟨2, 1⟩, ⟨1, 0⟩, ⟨1, 0⟩]]) := by kernel_rfl
  rw [e2] at hP ⊢
  (refine Reach.walk ?_; (repeat (first | ((with_reducible refine AllSt.mk ?_); (try clear hS); intro w hS) | ((with_reducible refine AllVw.mk ?_); intro V hV))))
  ((with_reducible apply WpL.call); (· exact rfl); (· exact Try.call13); (· exact Vals.found)); (refine (freeP (by decide) (by decide) 0 0 hP).mono ?_); clear hP; rintro x w ⟨rfl, hP⟩; (refine ⟨_, rfl, ?_⟩)
  have e3 : turnX [[⟨2, 1⟩, ⟨1, 0⟩, ⟨1, 0⟩]] 0 0 1 [2, 3] = (0, [[⟨1, 1⟩, ⟨1, 0⟩, ⟨1, 0⟩]]) := by kernel_rfl
  rw [e3] at hP ⊢
  (refine Reach.walk ?_; (repeat (first | ((with_reducible refine AllSt.mk ?_); (try clear hS); intro w hS) | ((with_reducible refine AllVw.mk ?_); intro V hV))))
  ((with_reducible apply WpL.call); (· exact rfl); (· exact Try.call11); (· exact Vals.found)); (refine (takeP (by decide) (by decide) 0 hP).mono ?_); clear hP; rintro x w ⟨rfl, hP⟩; (refine ⟨_, rfl, ?_⟩)
  have e4 : takeX [[⟨1, 1⟩, ⟨1, 0⟩, ⟨1, 0⟩]] 0 = ((1, 0), [[⟨1, 1⟩, ⟨2, 0⟩, ⟨1, 0⟩]]) := by kernel_rfl
  rw [e4] at hP ⊢
  (refine Reach.walk ?_; (repeat (first | ((with_reducible refine AllSt.mk ?_); (try clear hS); intro w hS) | ((with_reducible refine AllVw.mk ?_); intro V hV))))
  ((with_reducible apply WpL.call); (· exact rfl); (· exact Try.call19); (· exact Vals.found)); (refine (closeP (by decide) (by decide) 0 2 hP).mono ?_); clear hP; rintro x w ⟨rfl, hP⟩; (refine ⟨_, rfl, ?_⟩)
  have e5 : turnX [[⟨1, 1⟩, ⟨2, 0⟩, ⟨1, 0⟩]] 0 2 3 [2] = (71, [[⟨1, 1⟩, ⟨2, 0⟩, ⟨1, 0⟩]]) := by kernel_rfl
  rw [e5] at hP ⊢
  (refine Reach.walk ?_; (repeat (first | ((with_reducible refine AllSt.mk ?_); (try clear hS); intro w hS) | ((with_reducible refine AllVw.mk ?_); intro V hV))))
  ((with_reducible apply WpL.call); (· exact rfl); (· exact Try.call25); (· exact Vals.found)); (refine (stateP (by decide) (by decide) 0 1 hP).mono ?_); clear hP; rintro x w ⟨rfl, hP⟩; (refine ⟨_, rfl, ?_⟩)
  have e6 : stX [[⟨1, 1⟩, ⟨2, 0⟩, ⟨1, 0⟩]] 0 1 = 2 := by kernel_rfl
  rw [e6]
  (refine Reach.walk ?_; (repeat (first | ((with_reducible refine AllSt.mk ?_); (try clear hS); intro w hS) | ((with_reducible refine AllVw.mk ?_); intro V hV))))
  ((with_reducible apply WpL.call); (· exact rfl); (· exact Try.call14); (· exact Vals.found)); (refine (spreadP (by decide) (by decide) 0 hP).mono ?_); clear hP; rintro x w ⟨rfl, hP⟩; (refine ⟨_, rfl, ?_⟩)
  have e7 : spreadX [[⟨1, 1⟩, ⟨2, 0⟩, ⟨1, 0⟩]] 0 = 1 := by kernel_rfl
  rw [e7]
  (refine Reach.walk ?_; (repeat (first | ((with_reducible refine AllSt.mk ?_); (try clear hS); intro w hS) | ((with_reducible refine AllVw.mk ?_); intro V hV))))
  (with_reducible apply doneQ_one Try.results8); (· exact slotFound)
  exact ⟨rfl, hP.rest⟩
end

/-! ### Wear -/
theorem bestN_min {l : List Bk} : ∀ {k b : Nat}, bestN l k = some b → ∀ i, i < k → stG l i = 1 → erG l b ≤ erG l i
  | 0, b, h, i, hi, _ => absurd hi (Nat.not_lt_zero _)
  | k + 1, b, h, i, hi, h1 => by
    rw [bestN] at h
    split at h
    · rename_i hc
      injection h with h
      subst h
      obtain ⟨_, hc2⟩ := hc
      rcases Nat.lt_or_ge i k with hik | hik
      · cases hb : bestN l k with
        | none =>
          exfalso
          have hnone : ∀ {k : Nat}, bestN l k = none → ∀ i, i < k → stG l i ≠ 1 := fun {k} => by
            induction k with
            | zero => intro _ i hi; exact absurd hi (Nat.not_lt_zero _)
            | succ k ih =>
              intro h i hi hs
              rw [bestN] at h
              split at h
              · cases h
              · rename_i hn
                rcases Nat.lt_or_ge i k with h4 | h4
                · exact ih h i h4 hs
                · obtain rfl : i = k := by omega
                  exact hn ⟨hs, by rw [h]; rfl⟩
          exact hnone hb i hik h1
        | some b' =>
          rw [hb] at hc2
          have h5 := bestN_min hb i hik h1
          have h6 : erG l k < erG l b' := of_decide_eq_true hc2
          omega
      · obtain rfl : i = k := by omega
        exact Nat.le_refl _
    · rename_i hn
      rcases Nat.lt_or_ge i k with hik | hik
      · exact bestN_min h i hik h1
      · obtain rfl : i = k := by omega
        refine Nat.not_lt.1 fun hlt => hn ⟨h1, ?_⟩
        rw [h]
        exact decide_eq_true hlt
theorem bestN_none {l : List Bk} : ∀ {k : Nat}, bestN l k = none → ∀ i, i < k → stG l i ≠ 1
  | 0, _, i, hi => absurd hi (Nat.not_lt_zero _)
  | k + 1, h, i, hi => fun hs => by
    rw [bestN] at h
    split at h
    · cases h
    · rename_i hn
      rcases Nat.lt_or_ge i k with h4 | h4
      · exact bestN_none h i h4 hs
      · obtain rfl : i = k := by omega
        exact hn ⟨hs, by rw [h]; rfl⟩
/-- All free; the erases are m or one more. -/
def Even (m : Nat) (l : List Bk) : Prop := ∀ b ∈ l, b.st = 1 ∧ (b.er = m ∨ b.er = m + 1)
theorem Even.spread {m : Nat} {l : List Bk} (h : Even m l) : spreadL l ≤ 1 := by
  have : ∀ (l : List Bk) (o : Option (Nat × Nat)), Even m l → (∀ p, o = some p → m ≤ p.1 ∧ p.2 ≤ m + 1) → ∀ p, l.foldl sprS o = some p → m ≤ p.1 ∧ p.2 ≤ m + 1 := fun l => by
    induction l with
    | nil => intro o _ h p hp; exact h p hp
    | cons b l ih =>
      intro o he ho p hp
      obtain ⟨h1, h2⟩ := he b List.mem_cons_self
      refine ih (sprS o b) (fun x hx => he x (List.mem_cons_of_mem _ hx)) (fun q hq => ?_) p hp
      unfold sprS at hq
      rw [if_neg (by omega)] at hq
      cases o with
      | none => injection hq with hq; subst hq; dsimp only; omega
      | some r =>
        obtain ⟨lo, hi⟩ := r
        obtain ⟨h3, h4⟩ := ho _ rfl
        injection hq with hq
        subst hq
        dsimp only at *
        omega
  unfold spreadL
  have h2 := this l none h (fun p hp => by cases hp)
  unfold sprN
  generalize l.foldl sprS none = o at *
  cases o with
  | none => decide
  | some p =>
    obtain ⟨lo, hi⟩ := p
    have := h2 _ rfl
    show (hi : Int) - (lo : Int) ≤ 1
    omega
theorem Even.count {m : Nat} {l : List Bk} (h : Even m l) : countL l 1 = l.length := by
  unfold countL
  rw [List.filter_eq_self.2]
  intro b hb
  have := (h b hb).1
  simp [this]
theorem Even.round {m : Nat} {l : List Bk} (h : Even m l) (h0 : 0 < l.length) (hm : m + 2 ≤ 4294967295) :
    ∃ b : Nat, b < l.length ∧ takeL l = (((b : Int), 0), l.set b ⟨2, erG l b⟩) ∧ erasedL (l.set b ⟨2, erG l b⟩) b = (0, l.set b ⟨2, erG l b + 1⟩) ∧ turnL (l.set b ⟨2, erG l b + 1⟩) b 1 [2, 3] = (0, l.set b ⟨1, erG l b + 1⟩) ∧ (Even m (l.set b ⟨1, erG l b + 1⟩) ∨ Even (m + 1) (l.set b ⟨1, erG l b + 1⟩)) := by
  have hst : ∀ i, i < l.length → stG l i = 1 := fun i hi => (h _ (getD_memB hi)).1
  cases hb : bestN l l.length with
  | none => exact absurd (hst 0 h0) (bestN_none hb 0 h0)
  | some b =>
    obtain ⟨hbl, _⟩ := bestN_lt hb
    have hmin := bestN_min hb
    have her := (h _ (getD_memB hbl)).2
    have hg : ∀ x : Bk, (l.set b x).getD b ⟨0, 0⟩ = x := fun x => by rw [List.getD_eq_getElem?_getD, List.getElem?_set_self hbl]; rfl
    refine ⟨b, hbl, by unfold takeL; rw [hb], ?_, ?_, ?_⟩
    · unfold erasedL
      rw [if_pos ⟨by omega, by rw [List.length_set]; omega⟩, Int.toNat_natCast, hg]
      dsimp only
      have : erG l b < 4294967295 := by unfold erG; omega
      rw [if_neg (by decide), if_pos this, List.set_set]
    · unfold turnL
      rw [if_pos ⟨by omega, by rw [List.length_set]; omega⟩, Int.toNat_natCast, hg]
      dsimp only
      rw [if_pos (by decide), List.set_set]
    · have hother : ∀ x ∈ l.set b ⟨1, erG l b + 1⟩, x ∈ l ∨ x = ⟨1, erG l b + 1⟩ := fun x hx => List.mem_or_eq_of_mem_set hx
      rcases her with he | he
      · left
        intro x hx
        rcases hother x hx with hx | rfl
        · exact h x hx
        · exact ⟨rfl, .inr (by show erG l b + 1 = _; unfold erG; omega)⟩
      · right
        intro x hx
        rcases hother x hx with hx | rfl
        · obtain ⟨h1, h2⟩ := h x hx
          obtain ⟨i, hi, hix⟩ := List.getElem_of_mem hx
          have h3 := hmin i hi (hst i hi)
          have h4 : erG l i = x.er := by unfold erG; rw [← getD_getB hi, hix]
          have h5 : erG l b = m + 1 := he
          exact ⟨h1, .inl (by omega)⟩
        · exact ⟨rfl, .inr (by show erG l b + 1 = _; unfold erG; omega)⟩
set_option maxHeartbeats 1000000 in
theorem blocksWear_any {many rounds : Int} (hm : -9223372036854775808 ≤ many ∧ many ≤ 9223372036854775807) (hr : -9223372036854775808 ≤ rounds ∧ rounds ≤ 9223372036854775807) (W : World) :
    Calls Try.prog 3 #[.int .i64 many, .int .i64 rounds] W fun x w' => x = .returned (.bool true) ∧ Below W.heap.size W w' := by
  have ham := absN_le hm
  have har := absN_le hr
  (refine calls_of (P := Try.prog) _ Try.func3 rfl Try.ntmps3 (Nat.le_of_ble_eq_true rfl) ?_; dsimp only [argE, Nat.reduceAdd])
  (refine Reach.walk ?_; (repeat (first | ((with_reducible refine AllSt.mk ?_); (try clear hS); intro w hS) | ((with_reducible refine AllVw.mk ?_); intro V hV))))
  (with_reducible apply WpL.call); (· exact rfl); (· exact Try.call8); (· exact Vals.found)
  refine (awake_any (St.start W)).mono ?_
  rintro x w ⟨rfl, hS⟩
  refine ⟨_, rfl, ?_⟩
  (refine Reach.walk ?_; (repeat (first | ((with_reducible refine AllSt.mk ?_); (try clear hS); intro w hS) | ((with_reducible refine AllVw.mk ?_); intro V hV))))
  (with_reducible apply WpL.call); (· exact rfl); (· exact Try.call9); (· exact Vals.found)
  refine (abs_any hm _).mono ?_
  rintro x w1 ⟨rfl, rfl⟩
  refine ⟨_, rfl, ?_⟩
  have hN : absN many % 20 < 20 := Nat.mod_lt _ (by decide)
  (refine Reach.walk ?_; (repeat (first | ((with_reducible refine AllSt.mk ?_); (try clear hS); intro w hS) | ((with_reducible refine AllVw.mk ?_); intro V hV))))
  generalize hn : 1 + absN many % 20 = n at *
  (with_reducible apply WpL.call); (· exact rfl); (· exact Try.call10); (· exact Vals.found)
  refine (newP hS).mono ?_
  clear hS
  rintro x w (⟨h, _⟩ | ⟨-, g, rfl, hP⟩)
  · exact absurd ⟨by decide, by decide, by omega, by omega⟩ h
  refine ⟨_, rfl, ?_⟩
  rw [Int.toNat_natCast] at hP
  replace hP : PSt W (feet []) w g 1 n [newBlocks n] [] := hP
  have hev : Even 0 (newBlocks n) := fun b hb => by rw [List.eq_of_mem_replicate hb]; exact ⟨rfl, .inl rfl⟩
  have hln : (newBlocks n).length = n := List.length_replicate
  (refine Reach.walk ?_; (repeat (first | ((with_reducible refine AllSt.mk ?_); (try clear hS); intro w hS) | ((with_reducible refine AllVw.mk ?_); intro V hV))))
  have hR : absN rounds % 200 < 200 := Nat.mod_lt _ (by decide)
  apply Wp.loopUp (absN rounds % 200) (fun i e w' => ∃ l m, l.length = n ∧ m ≤ i ∧ Even m l ∧ PSt W (feet []) w' g 1 n [l] [] ∧ e.Has [(8, .int .i64 (i : Nat)), (6, .pointer (some ⟨g, 0, none⟩)), (0, .int .i64 (n : Nat)), (1, .int .i64 rounds)]) (Nat.zero_le _)
    ⟨_, 0, hln, Nat.le_refl _, hev, hP, rfl, rfl, rfl, rfl, trivial⟩
  clear hP hev hln
  rintro i e w hi ⟨l, m, hl, hmi, hev, hP, he⟩
  obtain ⟨e0, rfl⟩ := he.eq
  clear he
  dsimp only [Env.sets]
  (refine Reach.walk ?_; (repeat (first | ((with_reducible refine AllSt.mk ?_); (try clear hS); intro w hS) | ((with_reducible refine AllVw.mk ?_); intro V hV))))
  (with_reducible apply WpL.call); (· exact rfl); (· exact Try.call9); (· exact Vals.found)
  refine (abs_any hr _).mono ?_
  rintro x w1 ⟨rfl, rfl⟩
  refine ⟨_, rfl, ?_⟩
  by_cases hlt : i < absN rounds % 200
  · obtain ⟨b, hb, e1, e2, e3, hev2⟩ := hev.round (by omega) (by omega)
    have hl2 : (l.set b ⟨1, erG l b + 1⟩).length = n := by rw [List.length_set, hl]
    have f1 : takeX [l] 0 = (((b : Int), 0), [l.set b ⟨2, erG l b⟩]) := by
      unfold takeX dieX
      rw [if_pos ⟨by decide, by simp⟩]
      show ((takeL l).1, [(takeL l).2]) = _
      rw [e1]
    have f2 : erasedX [l.set b ⟨2, erG l b⟩] 0 b = (0, [l.set b ⟨2, erG l b + 1⟩]) := by
      unfold erasedX dieX
      rw [if_pos ⟨by decide, by simp⟩]
      show ((erasedL (l.set b ⟨2, erG l b⟩) b).1, [(erasedL (l.set b ⟨2, erG l b⟩) b).2]) = _
      rw [e2]
    have f3 : turnX [l.set b ⟨2, erG l b + 1⟩] 0 b 1 [2, 3] = (0, [l.set b ⟨1, erG l b + 1⟩]) := by
      unfold turnX dieX
      rw [if_pos ⟨by decide, by simp⟩]
      show ((turnL (l.set b ⟨2, erG l b + 1⟩) b 1 [2, 3]).1, [(turnL (l.set b ⟨2, erG l b + 1⟩) b 1 [2, 3]).2]) = _
      rw [e3]
    have f4 : spreadX [l.set b ⟨1, erG l b + 1⟩] 0 = spreadL (l.set b ⟨1, erG l b + 1⟩) := by
      unfold spreadX dieX
      rw [if_pos ⟨by decide, by simp⟩]
      rfl
    have hsp : spreadL (l.set b ⟨1, erG l b + 1⟩) ≤ 1 := hev2.elim Even.spread Even.spread
    (refine Reach.walk ?_; (repeat (first | ((with_reducible refine AllSt.mk ?_); (try clear hS); intro w hS) | ((with_reducible refine AllVw.mk ?_); intro V hV))))
    ((with_reducible apply WpL.call); (· exact rfl); (· exact Try.call11); (· exact Vals.found)); (refine (takeP (by omega) (by decide) 0 hP).mono ?_); clear hP; rintro x w ⟨rfl, hP⟩; (refine ⟨_, rfl, ?_⟩)
    rw [f1] at hP ⊢
    (refine Reach.walk ?_; (repeat (first | ((with_reducible refine AllSt.mk ?_); (try clear hS); intro w hS) | ((with_reducible refine AllVw.mk ?_); intro V hV))))
    ((with_reducible apply WpL.call); (· exact rfl); (· exact Try.call12); (· exact Vals.found)); (refine (erasedP (by omega) (by decide) 0 b hP).mono ?_); clear hP; rintro x w ⟨rfl, hP⟩; (refine ⟨_, rfl, ?_⟩)
    rw [f2] at hP ⊢
    (refine Reach.walk ?_; (repeat (first | ((with_reducible refine AllSt.mk ?_); (try clear hS); intro w hS) | ((with_reducible refine AllVw.mk ?_); intro V hV))))
    ((with_reducible apply WpL.call); (· exact rfl); (· exact Try.call13); (· exact Vals.found)); (refine (freeP (by omega) (by decide) 0 b hP).mono ?_); clear hP; rintro x w ⟨rfl, hP⟩; (refine ⟨_, rfl, ?_⟩)
    rw [f3] at hP ⊢
    (refine Reach.walk ?_; (repeat (first | ((with_reducible refine AllSt.mk ?_); (try clear hS); intro w hS) | ((with_reducible refine AllVw.mk ?_); intro V hV))))
    ((with_reducible apply WpL.call); (· exact rfl); (· exact Try.call14); (· exact Vals.found)); (refine (spreadP (by omega) (by decide) 0 hP).mono ?_); clear hP; rintro x w ⟨rfl, hP⟩; (refine ⟨_, rfl, ?_⟩)
    rw [f4]
    generalize spreadL (l.set b ⟨1, erG l b + 1⟩) = sp at *
    (refine Reach.walk ?_; (repeat (first | ((with_reducible refine AllSt.mk ?_); (try clear hS); intro w hS) | ((with_reducible refine AllVw.mk ?_); intro V hV))))
    rcases hev2 with hev2 | hev2
    · exact ⟨hlt, _, m, hl2, by omega, hev2, hP, int_eq (by omega), rfl, rfl, rfl, trivial⟩
    · exact ⟨hlt, _, m + 1, hl2, by omega, hev2, hP, int_eq (by omega), rfl, rfl, rfl, trivial⟩
  · have f5 : countX [l] 0 1 = n := by
      unfold countX dieX
      rw [if_pos ⟨by decide, by simp⟩]
      show countL l 1 = n
      rw [hev.count, hl]
    (refine Reach.walk ?_; (repeat (first | ((with_reducible refine AllSt.mk ?_); (try clear hS); intro w hS) | ((with_reducible refine AllVw.mk ?_); intro V hV))))
    ((with_reducible apply WpL.call); (· exact rfl); (· exact Try.call15); (· exact Vals.found)); (refine (countP (by omega) (by decide) 0 1 hP).mono ?_); clear hP; rintro x w ⟨rfl, hP⟩; (refine ⟨_, rfl, ?_⟩)
    rw [f5]
    (refine Reach.walk ?_; (repeat (first | ((with_reducible refine AllSt.mk ?_); (try clear hS); intro w hS) | ((with_reducible refine AllVw.mk ?_); intro V hV))))
    (with_reducible apply doneQ_one Try.results3); (· exact slotFound)
    exact ⟨by simp, hP.rest.toBelow⟩
end Go.Proofs.Ytaapnfoimcccjaa

namespace Go.Fk
open Go.RowKit Go.MapKept
class MapT (P : Program) (t : TypeId) (k v : outParam TypeId) : Prop where
  hu : P.underlying t = some (.map k v)
/-- A map's keys and values. -/
def IMap (o : Obj) (l : List (Int × Value)) : Prop := ∃ es clock, o = .map es clock ∧ es.toList.map (fun e => (e.key, e.val)) = l.map (fun p => (Value.int .i64 p.1, p.2)) ∧ (l.map (·.1)).Nodup
theorem map_eraseIdx' {α β : Type} (f : α → β) : ∀ (l : List α) (j : Nat), (l.eraseIdx j).map f = (l.map f).eraseIdx j
  | [], _ => rfl
  | _ :: _, 0 => rfl
  | a :: l, j + 1 => by rw [List.eraseIdx_cons_succ, List.map_cons, map_eraseIdx' f l j, List.map_cons, List.eraseIdx_cons_succ]
def putL : List (Int × Value) → Int → Value → List (Int × Value)
  | [], k, v => [(k, v)]
  | p :: r, k, v => if p.1 = k then (k, v) :: r else p :: putL r k v
def delL (l : List (Int × Value)) (k : Int) : List (Int × Value) := l.filter fun p => decide (p.1 ≠ k)
def getL (l : List (Int × Value)) (k : Int) : Option Value := l.lookup k
theorem IMap.nil : IMap (.map #[] 0) [] := ⟨#[], 0, rfl, rfl, List.nodup_nil⟩
theorem putL_keys : ∀ (l : List (Int × Value)) (k : Int) (v : Value) (a : Int), a ∈ (putL l k v).map (·.1) ↔ a = k ∨ a ∈ l.map (·.1)
  | [], k, v, a => by simp [putL]
  | p :: r, k, v, a => by
    unfold putL
    by_cases h : p.1 = k
    · rw [if_pos h]; subst h; simp
    · rw [if_neg h, List.map_cons, List.mem_cons, putL_keys r, List.map_cons, List.mem_cons]
      constructor
      · rintro (h | h | h)
        · exact .inr (.inl h)
        · exact .inl h
        · exact .inr (.inr h)
      · rintro (h | h | h)
        · exact .inr (.inl h)
        · exact .inl h
        · exact .inr (.inr h)
theorem putL_nodup : ∀ (l : List (Int × Value)) (k : Int) (v : Value), (l.map (·.1)).Nodup → ((putL l k v).map (·.1)).Nodup
  | [], k, v, _ => by simp [putL]
  | p :: r, k, v, h => by
    unfold putL
    obtain ⟨h1, h2⟩ := List.nodup_cons.1 h
    by_cases hk : p.1 = k
    · rw [if_pos hk]; subst hk; exact List.nodup_cons.2 ⟨h1, h2⟩
    · rw [if_neg hk, List.map_cons]
      refine List.nodup_cons.2 ⟨fun hm => ?_, putL_nodup r k v h2⟩
      rcases (putL_keys r k v _).1 hm with h | h
      · exact hk h
      · exact h1 h
theorem delL_nodup {l : List (Int × Value)} {k : Int} (h : (l.map (·.1)).Nodup) : ((delL l k).map (·.1)).Nodup := (List.filter_sublist.map _).nodup h
theorem getL_put : ∀ (l : List (Int × Value)) (k : Int) (v : Value) (a : Int), getL (putL l k v) a = if a = k then some v else getL l a
  | [], k, v, a => by
    unfold putL getL
    by_cases h : a = k
    · rw [if_pos h]; simp [List.lookup, h]
    · have hb : (a == k) = false := by simpa using h
      rw [if_neg h]; simp [List.lookup, hb]
  | p :: r, k, v, a => by
    have ih := getL_put r k v a
    unfold getL at ih
    unfold putL getL
    obtain ⟨pk, pv⟩ := p
    by_cases h : pk = k
    · rw [if_pos h]
      by_cases ha : a = k
      · rw [if_pos ha]; simp [List.lookup, ha]
      · rw [if_neg ha]
        have hb : (a == k) = false := by simpa using ha
        have hc : (a == pk) = false := by rw [h]; exact hb
        simp [List.lookup, hb, hc]
    · rw [if_neg h]
      by_cases ha : a = pk
      · have hb : (a == pk) = true := by simpa using ha
        have hk : ¬ a = k := fun e => h (by rw [← ha]; exact e)
        rw [if_neg hk]
        simp [List.lookup, hb]
      · have hb : (a == pk) = false := by simpa using ha
        simp [List.lookup, hb, ih]
theorem getL_del : ∀ (l : List (Int × Value)) (k a : Int), getL (delL l k) a = if a = k then none else getL l a
  | [], k, a => by simp [delL, getL]
  | p :: r, k, a => by
    have ih := getL_del r k a
    obtain ⟨pk, pv⟩ := p
    unfold getL delL at ih ⊢
    by_cases h : pk = k
    · rw [List.filter_cons, if_neg (by simpa using h), ih]
      by_cases ha : a = k
      · rw [if_pos ha, if_pos ha]
      · rw [if_neg ha, if_neg ha]
        have hb : (a == pk) = false := by rw [h]; simpa using ha
        simp [List.lookup, hb]
    · rw [List.filter_cons, if_pos (by simpa using h)]
      by_cases ha : a = pk
      · have hb : (a == pk) = true := by simpa using ha
        have hk : ¬ a = k := fun e => h (by rw [← ha]; exact e)
        rw [if_neg hk]
        simp [List.lookup, hb]
      · have hb : (a == pk) = false := by simpa using ha
        simp only [List.lookup, hb]
        exact ih
theorem getL_some_iff {l : List (Int × Value)} {k : Int} : (getL l k).isSome = true ↔ k ∈ l.map (·.1) := by
  unfold getL
  induction l with
  | nil => simp
  | cons p r ih =>
    obtain ⟨pk, pv⟩ := p
    by_cases h : k = pk
    · simp [List.lookup, h]
    · have hb : (k == pk) = false := by simpa using h
      simp only [List.lookup, hb, List.map_cons, List.mem_cons, h, false_or]
      exact ih
theorem find_list (k : Int) : ∀ (es : List MapEntry) (l : List (Int × Value)) (i : Nat), es.map (fun e => (e.key, e.val)) = l.map (fun p => (Value.int .i64 p.1, p.2)) →
    (getL l k = none ∧ k ∉ l.map (·.1) ∧ Instr.findNow (.int .i64) (.int .i64 k) es i = some none) ∨
    (∃ v j, getL l k = some v ∧ j < l.length ∧ (l.map (·.1))[j]? = some k ∧ Instr.findNow (.int .i64) (.int .i64 k) es i = some (some (i + j, v)))
  | [], [], i, _ => .inl ⟨rfl, by simp, rfl⟩
  | [], _ :: _, i, h => by simp at h
  | _ :: _, [], i, h => by simp at h
  | e :: es, p :: l, i, h => by
    obtain ⟨pk, pv⟩ := p
    simp only [List.map_cons, List.cons.injEq, Prod.mk.injEq] at h
    obtain ⟨⟨h1, h2⟩, h3⟩ := h
    unfold Instr.findNow
    rw [h1]
    simp only [Instr.sameNow, if_true]
    by_cases hk : k = pk
    · subst hk
      refine .inr ⟨pv, 0, by simp [getL, List.lookup], by simp, by simp, by simp [h2]⟩
    · have hb : (k == pk) = false := by simpa using hk
      rw [hb]
      rcases find_list k es l (i + 1) h3 with ⟨g1, g2, g3⟩ | ⟨v, j, g1, g2, g3, g4⟩
      · refine .inl ⟨?_, ?_, g3⟩
        · unfold getL at g1 ⊢; simp [List.lookup, hb, g1]
        · simp only [List.map_cons, List.mem_cons, hk, false_or]; exact g2
      · refine .inr ⟨v, j + 1, ?_, by simp [g2], by simpa using g3, by rw [g4, show i + 1 + j = i + (j + 1) by omega]⟩
        unfold getL at g1 ⊢; simp [List.lookup, hb, g1]
theorem putL_set : ∀ (l : List (Int × Value)) (k : Int) (v : Value) (j : Nat), (l.map (·.1)).Nodup → (l.map (·.1))[j]? = some k → putL l k v = l.set j (k, v)
  | [], k, v, j, _, h => by simp at h
  | p :: r, k, v, 0, _, h => by
    have h : p.1 = k := by simpa using h
    unfold putL; rw [if_pos h]; rfl
  | p :: r, k, v, j + 1, hn, h => by
    obtain ⟨h1, h2⟩ := List.nodup_cons.1 hn
    have h : (r.map (·.1))[j]? = some k := by simpa using h
    have hp : ¬ p.1 = k := fun e => h1 (by show p.1 ∈ _; rw [e]; exact List.mem_of_getElem? h)
    unfold putL; rw [if_neg hp, putL_set r k v j h2 h]; rfl
theorem putL_new : ∀ (l : List (Int × Value)) (k : Int) (v : Value), k ∉ l.map (·.1) → putL l k v = l ++ [(k, v)]
  | [], k, v, _ => rfl
  | p :: r, k, v, h => by
    rw [List.map_cons, List.mem_cons, not_or] at h
    unfold putL; rw [if_neg (fun e => h.1 e.symm), putL_new r k v h.2]; rfl
theorem delL_set : ∀ (l : List (Int × Value)) (k : Int) (j : Nat), (l.map (·.1)).Nodup → (l.map (·.1))[j]? = some k → delL l k = l.eraseIdx j
  | [], k, j, _, h => by simp at h
  | p :: r, k, 0, hn, h => by
    have h : p.1 = k := by simpa using h
    obtain ⟨h1, h2⟩ := List.nodup_cons.1 hn
    unfold delL
    rw [List.filter_cons, if_neg (by simpa using h), List.eraseIdx_cons_zero]
    refine List.filter_eq_self.2 fun q hq => ?_
    simp only [decide_eq_true_eq]
    exact fun e => h1 (by show p.1 ∈ _; rw [h, ← e]; exact List.mem_map_of_mem hq)
  | p :: r, k, j + 1, hn, h => by
    obtain ⟨h1, h2⟩ := List.nodup_cons.1 hn
    have h : (r.map (·.1))[j]? = some k := by simpa using h
    have hp : ¬ p.1 = k := fun e => h1 (by show p.1 ∈ _; rw [e]; exact List.mem_of_getElem? h)
    have ih := delL_set r k j h2 h
    unfold delL at ih ⊢
    rw [List.filter_cons, if_pos (by simpa using hp), ih]; rfl
theorem delL_none {l : List (Int × Value)} {k : Int} (h : k ∉ l.map (·.1)) : delL l k = l :=
  List.filter_eq_self.2 fun q hq => by
    simp only [decide_eq_true_eq]
    exact fun e => h (by rw [← e]; exact List.mem_map_of_mem hq)
theorem putL_length (l : List (Int × Value)) (k : Int) (v : Value) : (putL l k v).length = if (getL l k).isSome = true then l.length else l.length + 1 := by
  unfold getL
  induction l with
  | nil => simp [putL]
  | cons p r ih =>
    obtain ⟨pk, pv⟩ := p
    unfold putL
    by_cases h : pk = k
    · rw [if_pos h]; simp [List.lookup, h]
    · rw [if_neg h, List.length_cons, ih]
      have hb : (k == pk) = false := by simpa using fun e : k = pk => h e.symm
      simp only [List.lookup, hb, List.length_cons]
      split <;> rfl
theorem delL_length {l : List (Int × Value)} {k : Int} (hn : (l.map (·.1)).Nodup) : (delL l k).length = if (getL l k).isSome = true then l.length - 1 else l.length := by
  by_cases h : k ∈ l.map (·.1)
  · rw [if_pos (getL_some_iff.2 h)]
    obtain ⟨j, hj⟩ := List.mem_iff_getElem?.1 h
    rw [delL_set l k j hn hj, List.length_eraseIdx_of_lt]
    have := (List.getElem?_eq_some_iff.1 hj).1
    simpa using this
  · rw [if_neg (fun e => h (getL_some_iff.1 e)), delL_none h]
section
variable {P : Program} {w w0 : World} {M : Nat → Prop} {L L1 L' : List Ch} {N : Nat} {ops : Array Oper} {K : Env → World → Prop} {rest : List Oper} {e : Env} {ty : TypeId} {pos : String} {after : Array Edge} {d : Tmp} {x y z : Operand} {t kt et : TypeId} {g : Nat} {o : Obj} {l : List (Int × Value)} {k : Int}
theorem WpL.makeMap [MapT P t kt et] (hS : St w0 M w L) (hd : dOk N (some d) = true)
    (h : ∀ g w', St w0 M w' (.obj g (.map #[] 0) :: L) → WpL P N ops K rest (e.set d (.map (some g))) w') :
    WpL P N ops K (⟨some d, .makeMap t none, ty, pos, after, none⟩ :: rest) e w :=
  WpL.run (w' := w.alloc (.map #[] 0)) hd (by simp [execOp, Instr.makeMap, newObj, Sem.run]) (h _ _ hS.newObj)
theorem IMap.look {bytes : Nat} {zv : Value} [ht : MapT P t kt et] [hk : IntT P kt .i64] [he : Elem P et 1 bytes zv] (hm : IMap o l) (hb : w.heap[g]? = some o) :
    (Instr.lookup t (.map (some g)) (.int .i64 k) true).run P w = .ok (.tuple #[(getL l k).getD zv, .bool (getL l k).isSome]) w := by
  obtain ⟨es, clock, rfl, h1, h2⟩ := hm
  obtain ⟨i, hi, hz, _⟩ := he.get
  have hzr : (zeroValue et).run P w = .ok zv w := by simp [zeroValue, typeInfo, hi, hz]
  rcases find_list k es.toList l 0 h1 with ⟨g1, _, g3⟩ | ⟨v, j, g1, _, _, g4⟩
  · rw [g1]
    simp [Instr.lookup, run_underlying ht.hu, MapKept.run_getObj_map hb, MapKept.run_checkKey hk.hu (show IsKey (.int .i64) (.int .i64 k) from rfl), MapKept.run_findKey hk.hu g3, Result.andThen, hzr]
  · rw [g1]
    simp [Instr.lookup, run_underlying ht.hu, MapKept.run_getObj_map hb, MapKept.run_checkKey hk.hu (show IsKey (.int .i64) (.int .i64 k) from rfl), MapKept.run_findKey hk.hu g4, Result.andThen]
theorem IMap.look1 {bytes : Nat} {zv : Value} [ht : MapT P t kt et] [hk : IntT P kt .i64] [he : Elem P et 1 bytes zv] (hm : IMap o l) (hb : w.heap[g]? = some o) :
    (Instr.lookup t (.map (some g)) (.int .i64 k) false).run P w = .ok ((getL l k).getD zv) w := by
  obtain ⟨es, clock, rfl, h1, h2⟩ := hm
  obtain ⟨i, hi, hz, _⟩ := he.get
  have hzr : (zeroValue et).run P w = .ok zv w := by simp [zeroValue, typeInfo, hi, hz]
  rcases find_list k es.toList l 0 h1 with ⟨g1, _, g3⟩ | ⟨v, j, g1, _, _, g4⟩
  · rw [g1]
    simp [Instr.lookup, run_underlying ht.hu, MapKept.run_getObj_map hb, MapKept.run_checkKey hk.hu (show IsKey (.int .i64) (.int .i64 k) from rfl), MapKept.run_findKey hk.hu g3, Result.andThen, hzr]
  · rw [g1]
    simp [Instr.lookup, run_underlying ht.hu, MapKept.run_getObj_map hb, MapKept.run_checkKey hk.hu (show IsKey (.int .i64) (.int .i64 k) from rfl), MapKept.run_findKey hk.hu g4, Result.andThen]
theorem IMap.update {v : Value} [ht : MapT P t kt et] [hk : IntT P kt .i64] (hm : IMap o l) (hb : w.heap[g]? = some o) :
    ∃ o', IMap o' (putL l k v) ∧ (Instr.mapUpdate t (.map (some g)) (.int .i64 k) v).run P w = .ok () (w.putObj g o') := by
  obtain ⟨es, clock, rfl, h1, h2⟩ := hm
  rcases find_list k es.toList l 0 h1 with ⟨g1, g2, g3⟩ | ⟨u, j, g1, gj, g2, g4⟩
  · refine ⟨.map (es.push ⟨.int .i64 k, v, clock⟩) (clock + 1), ⟨_, _, rfl, ?_, putL_nodup _ _ _ h2⟩, ?_⟩
    · rw [putL_new _ _ _ g2]; simp [h1]
    · simp [Instr.mapUpdate, run_underlying ht.hu, MapKept.run_getObj_map hb, MapKept.run_checkKey hk.hu (show IsKey (.int .i64) (.int .i64 k) from rfl), MapKept.run_findKey hk.hu g3, Result.andThen, MapKept.run_setObj_map _ hb, World.putObj]
  · rw [Nat.zero_add] at g4
    have hl : es.toList.length = l.length := by have := congrArg List.length h1; simpa using this
    have hj : j < es.size := by rw [← Array.length_toList]; omega
    have hkey : (es[j]).key = .int .i64 k := by
      have := congrArg (fun l => l[j]?) h1
      simp only [List.getElem?_map, Array.getElem?_toList, Array.getElem?_eq_getElem hj, Option.map_some, List.getElem?_eq_getElem gj, Option.some.injEq, Prod.mk.injEq] at this
      have h3 : l[j].1 = k := by
        rw [List.getElem?_map, List.getElem?_eq_getElem gj, Option.map_some, Option.some.injEq] at g2; exact g2
      rw [this.1, h3]
    refine ⟨.map (es.modify j fun e => { e with key := .int .i64 k, val := v }) clock, ⟨_, _, rfl, ?_, putL_nodup _ _ _ h2⟩, ?_⟩
    · rw [putL_set _ _ _ _ h2 g2, List.map_set, ← h1]
      refine List.ext_getElem? fun i => ?_
      rw [List.getElem?_map, Array.getElem?_toList, Array.getElem?_modify, List.getElem?_set]
      by_cases hij : j = i
      · subst hij; simp [hj]
      · simp [hij]
    · simp [Instr.mapUpdate, run_underlying ht.hu, MapKept.run_getObj_map hb, MapKept.run_checkKey hk.hu (show IsKey (.int .i64) (.int .i64 k) from rfl), MapKept.run_findKey hk.hu g4, Result.andThen, MapKept.run_setObj_map _ hb, World.putObj, hj, hkey, MapKept.run_keyThatStays (show IsKey (.int .i64) (.int .i64 k) from rfl)]
theorem IMap.delete [ht : MapT P t kt et] [hk : IntT P kt .i64] (hm : IMap o l) (hb : w.heap[g]? = some o) :
    ∃ o', IMap o' (delL l k) ∧ (Builtin.delete_ #[t, kt] ty #[.map (some g), .int .i64 k]).run P w = .ok (.tuple #[]) (w.putObj g o') := by
  obtain ⟨es, clock, rfl, h1, h2⟩ := hm
  rcases find_list k es.toList l 0 h1 with ⟨g1, g2, g3⟩ | ⟨u, j, g1, gj, g2, g4⟩
  · refine ⟨.map es clock, ⟨_, _, rfl, ?_, delL_nodup h2⟩, ?_⟩
    · rw [delL_none g2]; exact h1
    · simp [Builtin.delete_, run_underlying ht.hu, MapKept.run_getObj_map hb, MapKept.run_checkKey hk.hu (show IsKey (.int .i64) (.int .i64 k) from rfl), MapKept.run_findKey hk.hu g3, Result.andThen, MapKept.run_setObj_map _ hb, World.putObj]
  · rw [Nat.zero_add] at g4
    have hl : es.toList.length = l.length := by have := congrArg List.length h1; simpa using this
    have hj : j < es.size := by rw [← Array.length_toList]; omega
    refine ⟨.map (es.eraseIdxIfInBounds j) clock, ⟨_, _, rfl, ?_, delL_nodup h2⟩, ?_⟩
    · rw [delL_set _ _ _ h2 g2, Array.eraseIdxIfInBounds, dif_pos hj, Array.toList_eraseIdx, map_eraseIdx', h1, map_eraseIdx']
    · simp [Builtin.delete_, run_underlying ht.hu, MapKept.run_getObj_map hb, MapKept.run_checkKey hk.hu (show IsKey (.int .i64) (.int .i64 k) from rfl), MapKept.run_findKey hk.hu g4, Result.andThen, MapKept.run_setObj_map _ hb, World.putObj]
theorem St.objAt (hS : St w0 M w L) (hsel : Sel (.obj g o) L L1) : w.heap[g]? = some o := (hS.pick hsel |>.hold _ List.mem_cons_self).1
theorem WpL.mapLook {bytes : Nat} {zv : Value} [ht : MapT P t kt et] [hk : IntT P kt .i64] [he : Elem P et 1 bytes zv] (hm : IMap o l) (hS : St w0 M w L) (hd : dOk N (some d) = true) (hx : e.eval x = .map (some g)) (hy : e.eval y = .int .i64 k) (hsel : Sel (.obj g o) L L1)
    (h : WpL P N ops K rest (e.set d (.tuple #[(getL l k).getD zv, .bool (getL l k).isSome])) w) :
    WpL P N ops K (⟨some d, .lookup t x y true, ty, pos, after, none⟩ :: rest) e w :=
  WpL.run hd (by simp [execOp, hx, hy, hm.look (P := P) (t := t) (k := k) (hS.objAt hsel)]) h
theorem WpL.mapLook1 {bytes : Nat} {zv : Value} [ht : MapT P t kt et] [hk : IntT P kt .i64] [he : Elem P et 1 bytes zv] (hm : IMap o l) (hS : St w0 M w L) (hd : dOk N (some d) = true) (hx : e.eval x = .map (some g)) (hy : e.eval y = .int .i64 k) (hsel : Sel (.obj g o) L L1)
    (h : WpL P N ops K rest (e.set d ((getL l k).getD zv)) w) :
    WpL P N ops K (⟨some d, .lookup t x y false, ty, pos, after, none⟩ :: rest) e w :=
  WpL.run hd (by simp [execOp, hx, hy, hm.look1 (P := P) (t := t) (k := k) (hS.objAt hsel)]) h
theorem WpL.mapPut {v : Value} [ht : MapT P t kt et] [hk : IntT P kt .i64] (hm : IMap o l) (hS : St w0 M w L) (hx : e.eval x = .map (some g)) (hy : e.eval y = .int .i64 k) (hz : e.eval z = v) (hsel : Sel (.obj g o) L L1)
    (h : ∀ o' w', IMap o' (putL l k v) → St w0 M w' (.obj g o' :: L1) → WpL P N ops K rest e w') :
    WpL P N ops K (⟨none, .mapUpdate t x y z, ty, pos, after, none⟩ :: rest) e w := by
  obtain ⟨o', h1, h2⟩ := hm.update (P := P) (t := t) (k := k) (v := v) (hS.objAt hsel)
  exact WpL.runSkip (w' := w.putObj g o') rfl (by simp [execOp, hx, hy, hz, h2]) (h o' _ h1 ((hS.pick hsel).putObj o'))
theorem WpL.mapDel [ht : MapT P t kt et] [hk : IntT P kt .i64] (hm : IMap o l) (hS : St w0 M w L) (hx : e.eval x = .map (some g)) (hy : e.eval y = .int .i64 k) (hsel : Sel (.obj g o) L L1)
    (h : ∀ o' w', IMap o' (delL l k) → St w0 M w' (.obj g o' :: L1) → WpL P N ops K rest e w') :
    WpL P N ops K (⟨none, .call { callee := .builtin .delete, args := #[x, y], argTypes := #[t, kt] }, ty, pos, after, none⟩ :: rest) e w := by
  obtain ⟨o', h1, h2⟩ := hm.delete (P := P) (t := t) (k := k) (ty := ty) (hS.objAt hsel)
  exact WpL.run (v := .tuple #[]) (w' := w.putObj g o') rfl (by simp [execOp, resolve, invoke, builtin, hx, hy, h2]) (h o' _ h1 ((hS.pick hsel).putObj o'))
theorem WpL.mapLen [ht : MapT P t kt et] (hm : IMap o l) (hS : St w0 M w L) (hd : dOk N (some d) = true) (hx : e.eval x = .map (some g)) (hsel : Sel (.obj g o) L L1)
    (h : WpL P N ops K rest (e.set d (.int .i64 (l.length : Nat))) w) :
    WpL P N ops K (⟨some d, .call { callee := .builtin .len, args := #[x], argTypes := #[t] }, ty, pos, after, none⟩ :: rest) e w := by
  have hb := hS.objAt hsel
  obtain ⟨es, clock, rfl, h1, h2⟩ := hm
  have hl : es.size = l.length := by have := congrArg List.length h1; simpa using this
  exact WpL.run hd (by simp [execOp, resolve, invoke, builtin, Builtin.len_, hx, run_underlying ht.hu, MapKept.run_getObj_map hb, goInt, hl, Result.andThen]) h
end
end Go.Fk

namespace Go.Proofs.Ytaapnfoimcccjaa
open Go.Fk Go.RowKit
attribute [local irreducible] Wp WpL Det thenQ blockQ WpG thenD blockG
theorem stG_set {l : List Bk} {i j : Nat} {b : Bk} (hi : i < l.length) : stG (l.set i b) j = if i = j then b.st else stG l j := by
  unfold stG
  rw [List.getD_eq_getElem?_getD, List.getElem?_set, List.getD_eq_getElem?_getD]
  by_cases h : i = j
  · rw [if_pos h, if_pos hi, if_pos h]; rfl
  · rw [if_neg h, if_neg h]
theorem countL_set : ∀ {l : List Bk} {i : Nat} {b : Bk} (s : Int), i < l.length → countL (l.set i b) s + (if (stG l i : Int) = s then 1 else 0) = countL l s + (if (b.st : Int) = s then 1 else 0)
  | c :: l, 0, b, s, _ => by
    unfold countL stG
    rw [List.set_cons_zero, List.filter_cons, List.filter_cons]
    show _ + (if (c.st : Int) = s then 1 else 0) = _
    by_cases h1 : (b.st : Int) = s <;> by_cases h2 : (c.st : Int) = s <;> simp [h1, h2]
  | c :: l, i + 1, b, s, h => by
    have ih := countL_set (l := l) (i := i) (b := b) s (by simpa using h)
    have e : stG (c :: l) (i + 1) = stG l i := rfl
    rw [e, List.set_cons_succ]
    unfold countL at ih ⊢
    rw [List.filter_cons, List.filter_cons]
    by_cases h2 : (c.st : Int) = s
    · simp only [h2, decide_true, if_true, List.length_cons]; omega
    · simp only [h2, decide_false, Bool.false_eq_true, if_false]; exact ih
theorem countL_all : ∀ {l : List Bk}, (∀ i, i < l.length → stG l i = 1 ∨ stG l i = 2 ∨ stG l i = 4) → countL l 1 + countL l 2 + countL l 4 = l.length
  | [], _ => rfl
  | c :: l, h => by
    have ih := countL_all (l := l) fun i hi => h (i + 1) (by simpa using hi)
    have h0 : c.st = 1 ∨ c.st = 2 ∨ c.st = 4 := h 0 (by simp)
    unfold countL at ih ⊢
    rw [List.filter_cons, List.filter_cons, List.filter_cons]
    rcases h0 with h0 | h0 | h0 <;> simp [h0] <;> omega
theorem countL_zero {l : List Bk} (h : ∀ i, i < l.length → stG l i ≠ 1) : countL l 1 = 0 := by
  unfold countL
  rw [List.length_eq_zero_iff, List.filter_eq_nil_iff]
  intro b hb
  obtain ⟨i, hi, rfl⟩ := List.mem_iff_getElem.1 hb
  have := h i hi
  unfold stG at this
  rw [getD_getB hi]
  simp only [decide_eq_true_eq]
  omega
structure OnceI (many : Nat) (l : List Bk) (H B : List (Int × Value)) : Prop where
  len : l.length = many
  st : ∀ i, i < many → stG l i = 1 ∨ stG l i = 2 ∨ stG l i = 4
  held : ∀ k : Int, (getL H k).isSome = true ↔ 0 ≤ k ∧ k < many ∧ stG l k.toNat = 2
  bad : ∀ k : Int, (getL B k).isSome = true ↔ 0 ≤ k ∧ k < many ∧ stG l k.toNat = 4
  cH : H.length = countL l 2
  cB : B.length = countL l 4
section
variable {many : Nat} {l : List Bk} {H B : List (Int × Value)}
theorem OnceI.new (many : Nat) : OnceI many (newBlocks many) [] [] := by
  have h1 : ∀ i, i < many → stG (newBlocks many) i = 1 := fun i hi => by
    unfold stG newBlocks
    rw [List.getD_eq_getElem?_getD, List.getElem?_replicate, if_pos hi]; rfl
  have hs : ∀ s : Int, s ≠ 1 → countL (newBlocks many) s = 0 := fun s hs => by
    unfold countL newBlocks
    rw [List.length_eq_zero_iff, List.filter_eq_nil_iff]
    intro b hb
    rw [List.eq_of_mem_replicate hb]
    simp only [decide_eq_true_eq]
    exact fun e => hs e.symm
  refine ⟨by simp [newBlocks], fun i hi => .inl (h1 i hi), fun k => ?_, fun k => ?_, (hs 2 (by decide)).symm, (hs 4 (by decide)).symm⟩
  · constructor
    · intro h; cases h
    · rintro ⟨h2, h3, h4⟩
      rw [h1 _ (by omega)] at h4; cases h4
  · constructor
    · intro h; cases h
    · rintro ⟨h2, h3, h4⟩
      rw [h1 _ (by omega)] at h4; cases h4
theorem OnceI.all (h : OnceI many l H B) : countL l 1 + H.length + B.length = many := by
  rw [h.cH, h.cB, ← h.len]
  exact countL_all fun i hi => h.st i (by rw [← h.len]; exact hi)
theorem OnceI.none (h : OnceI many l H B) (hb : bestN l l.length = none) : H.length + B.length = many := by
  have := h.all
  rw [countL_zero (bestN_none hb)] at this
  omega
theorem OnceI.free {b : Nat} (h : OnceI many l H B) (hb : b < many) (hs : stG l b = 1) : getL H (b : Int) = .none ∧ getL B (b : Int) = .none := by
  constructor
  · cases hg : getL H (b : Int) with
    | none => rfl
    | some v =>
      have := (h.held b).1 (by rw [hg]; rfl)
      rw [Int.toNat_natCast] at this; omega
  · cases hg : getL B (b : Int) with
    | none => rfl
    | some v =>
      have := (h.bad b).1 (by rw [hg]; rfl)
      rw [Int.toNat_natCast] at this; omega
theorem getL_put_some {l : List (Int × Value)} {k a : Int} {v : Value} : (getL (putL l k v) a).isSome = true ↔ a = k ∨ (getL l a).isSome = true := by
  rw [getL_put]
  by_cases h : a = k
  · rw [if_pos h]; simp [h]
  · rw [if_neg h]; simp [h]
theorem getL_del_some {l : List (Int × Value)} {k a : Int} : (getL (delL l k) a).isSome = true ↔ a ≠ k ∧ (getL l a).isSome = true := by
  rw [getL_del]
  by_cases h : a = k
  · rw [if_pos h]; simp [h]
  · rw [if_neg h]; simp [h]
theorem OnceI.take {b e : Nat} {v : Value} (h : OnceI many l H B) (hb : b < many) (hs : stG l b = 1) : OnceI many (l.set b ⟨2, e⟩) (putL H (b : Int) v) B := by
  have hbl : b < l.length := by rw [h.len]; exact hb
  obtain ⟨hf1, hf2⟩ := h.free hb hs
  have hset := fun j => stG_set (j := j) (b := ⟨2, e⟩) hbl
  refine ⟨by rw [List.length_set]; exact h.len, fun i hi => ?_, fun k => ?_, fun k => ?_, ?_, ?_⟩
  · rw [hset]; split
    · exact .inr (.inl rfl)
    · exact h.st i hi
  · rw [getL_put_some, h.held, hset]
    constructor
    · rintro (rfl | ⟨h1, h2, h3⟩)
      · rw [Int.toNat_natCast, if_pos rfl]; exact ⟨by omega, by omega, rfl⟩
      · refine ⟨h1, h2, ?_⟩; split
        · rfl
        · exact h3
    · rintro ⟨h1, h2, h3⟩
      by_cases hk : b = k.toNat
      · left; omega
      · rw [if_neg hk] at h3; exact .inr ⟨h1, h2, h3⟩
  · rw [h.bad, hset]
    constructor
    · rintro ⟨h1, h2, h3⟩
      have : ¬ b = k.toNat := fun e => by rw [← e] at h3; omega
      rw [if_neg this]; exact ⟨h1, h2, h3⟩
    · rintro ⟨h1, h2, h3⟩
      by_cases hk : b = k.toNat
      · rw [if_pos hk] at h3; cases h3
      · rw [if_neg hk] at h3; exact ⟨h1, h2, h3⟩
  · have := countL_set (l := l) (i := b) (b := ⟨2, e⟩) 2 hbl
    rw [putL_length, hf1, if_neg (by simp), h.cH]
    rw [hs, if_neg (by decide), if_pos (show ((2 : Nat) : Int) = 2 from rfl)] at this; omega
  · have := countL_set (l := l) (i := b) (b := ⟨2, e⟩) 4 hbl
    rw [hs, if_neg (by decide), if_neg (show ¬ ((2 : Nat) : Int) = 4 by decide)] at this
    rw [h.cB]; omega
theorem OnceI.give {b e : Nat} (h : OnceI many l H B) (hn : (H.map (·.1)).Nodup) (hb : b < many) (hs : stG l b = 2) : OnceI many (l.set b ⟨1, e⟩) (delL H (b : Int)) B := by
  have hbl : b < l.length := by rw [h.len]; exact hb
  have hset := fun j => stG_set (j := j) (b := ⟨1, e⟩) hbl
  have hin : (getL H (b : Int)).isSome = true := (h.held b).2 ⟨by omega, by omega, by rw [Int.toNat_natCast]; exact hs⟩
  refine ⟨by rw [List.length_set]; exact h.len, fun i hi => ?_, fun k => ?_, fun k => ?_, ?_, ?_⟩
  · rw [hset]; split
    · exact .inl rfl
    · exact h.st i hi
  · rw [getL_del_some, h.held, hset]
    constructor
    · rintro ⟨h0, h1, h2, h3⟩
      rw [if_neg (by omega)]; exact ⟨h1, h2, h3⟩
    · rintro ⟨h1, h2, h3⟩
      by_cases hk : b = k.toNat
      · rw [if_pos hk] at h3; cases h3
      · rw [if_neg hk] at h3; exact ⟨by omega, h1, h2, h3⟩
  · rw [h.bad, hset]
    constructor
    · rintro ⟨h1, h2, h3⟩
      have : ¬ b = k.toNat := fun e => by rw [← e] at h3; omega
      rw [if_neg this]; exact ⟨h1, h2, h3⟩
    · rintro ⟨h1, h2, h3⟩
      by_cases hk : b = k.toNat
      · rw [if_pos hk] at h3; cases h3
      · rw [if_neg hk] at h3; exact ⟨h1, h2, h3⟩
  · have := countL_set (l := l) (i := b) (b := ⟨1, e⟩) 2 hbl
    rw [delL_length hn, if_pos hin, h.cH]
    rw [hs, if_pos (show ((2 : Nat) : Int) = 2 from rfl), if_neg (show ¬ ((1 : Nat) : Int) = 2 by decide)] at this; omega
  · have := countL_set (l := l) (i := b) (b := ⟨1, e⟩) 4 hbl
    rw [hs, if_neg (show ¬ ((2 : Nat) : Int) = 4 by decide), if_neg (show ¬ ((1 : Nat) : Int) = 4 by decide)] at this
    rw [h.cB]; omega
theorem OnceI.keep {b : Nat} (h : OnceI many l H B) (hn : (H.map (·.1)).Nodup) (hb : b < many) (hs : stG l b ≠ 2) : getL H (b : Int) = .none ∧ delL H (b : Int) = H := by
  have hnone : getL H (b : Int) = .none := by
    cases hg : getL H (b : Int) with
    | none => rfl
    | some v =>
      have := (h.held b).1 (by rw [hg]; rfl)
      rw [Int.toNat_natCast] at this; exact absurd this.2.2 hs
  refine ⟨hnone, delL_none fun hm => ?_⟩
  have := getL_some_iff.2 hm
  rw [hnone] at this; cases this
theorem OnceI.spoil {b e : Nat} {v : Value} (h : OnceI many l H B) (hn : (H.map (·.1)).Nodup) (hb : b < many) : OnceI many (l.set b ⟨4, e⟩) (delL H (b : Int)) (putL B (b : Int) v) := by
  have hbl : b < l.length := by rw [h.len]; exact hb
  have hset := fun j => stG_set (j := j) (b := ⟨4, e⟩) hbl
  have hH : (getL H (b : Int)).isSome = true ↔ stG l b = 2 := by
    rw [h.held, Int.toNat_natCast]; constructor
    · exact fun h => h.2.2
    · exact fun h => ⟨by omega, by omega, h⟩
  have hB : (getL B (b : Int)).isSome = true ↔ stG l b = 4 := by
    rw [h.bad, Int.toNat_natCast]; constructor
    · exact fun h => h.2.2
    · exact fun h => ⟨by omega, by omega, h⟩
  have hst := h.st b hb
  refine ⟨by rw [List.length_set]; exact h.len, fun i hi => ?_, fun k => ?_, fun k => ?_, ?_, ?_⟩
  · rw [hset]; split
    · exact .inr (.inr rfl)
    · exact h.st i hi
  · rw [getL_del_some, h.held, hset]
    constructor
    · rintro ⟨h0, h1, h2, h3⟩
      rw [if_neg (by omega)]; exact ⟨h1, h2, h3⟩
    · rintro ⟨h1, h2, h3⟩
      by_cases hk : b = k.toNat
      · rw [if_pos hk] at h3; cases h3
      · rw [if_neg hk] at h3; exact ⟨by omega, h1, h2, h3⟩
  · rw [getL_put_some, h.bad, hset]
    constructor
    · rintro (rfl | ⟨h1, h2, h3⟩)
      · rw [Int.toNat_natCast, if_pos rfl]; exact ⟨by omega, by omega, rfl⟩
      · refine ⟨h1, h2, ?_⟩; split
        · rfl
        · exact h3
    · rintro ⟨h1, h2, h3⟩
      by_cases hk : b = k.toNat
      · left; omega
      · rw [if_neg hk] at h3; exact .inr ⟨h1, h2, h3⟩
  · have := countL_set (l := l) (i := b) (b := ⟨4, e⟩) 2 hbl
    rw [if_neg (show ¬ ((4 : Nat) : Int) = 2 by decide)] at this
    rw [delL_length hn, h.cH]
    by_cases h2 : stG l b = 2
    · rw [if_pos (hH.2 h2)]; rw [h2, if_pos (show ((2 : Nat) : Int) = 2 from rfl)] at this; omega
    · rw [if_neg (fun e => h2 (hH.1 e))]; rw [if_neg (by omega)] at this; omega
  · have := countL_set (l := l) (i := b) (b := ⟨4, e⟩) 4 hbl
    rw [if_pos (show (((⟨4, e⟩ : Bk).st : Nat) : Int) = 4 from rfl)] at this
    rw [putL_length, h.cB]
    by_cases h4 : stG l b = 4
    · rw [if_pos (hB.2 h4)]; rw [h4, if_pos (show ((4 : Nat) : Int) = 4 from rfl)] at this; omega
    · rw [if_neg (fun e => h4 (hB.1 e))]; rw [if_neg (by omega)] at this; omega
end
end Go.Proofs.Ytaapnfoimcccjaa

namespace Go.Proofs.Ytaapnfoimcccjaa
open Go.Fk Go.RowKit
attribute [local irreducible] Wp WpL Det thenQ blockQ WpG thenD blockG
instance onMap : MapT Try.prog 34 3 3 := ⟨Try.underlying34⟩
section
variable {w w0 : World} {M : Nat → Prop} {L L' : List Ch} {g nd nb h : Nat} {X : List (List Bk)} {o : Obj}
theorem PSt.perm (hP : PSt w0 M w g nd nb X L) (hp : L.Perm L') : PSt w0 M w g nd nb X L' := by
  obtain ⟨D, cd, ps, h1, h2, h3⟩ := hP
  exact ⟨D, cd, ps, h1, h2, h3.perm (List.Perm.append_left (Ch.blk g _ _ :: Ch.own D _ _ _ _ _ :: rowsC nb ps) hp)⟩
theorem PSt.putObj (o' : Obj) (hP : PSt w0 M w g nd nb X (.obj h o :: L)) : PSt w0 M (w.putObj h o') g nd nb X (.obj h o' :: L) := by
  obtain ⟨D, cd, ps, h1, h2, h3⟩ := hP
  have h4 := (h3.perm (List.perm_middle (l₁ := Ch.blk g _ _ :: Ch.own D _ _ _ _ _ :: rowsC nb ps))).putObj o'
  exact ⟨D, cd, ps, h1, h2, h4.perm (List.perm_middle (l₁ := Ch.blk g _ _ :: Ch.own D _ _ _ _ _ :: rowsC nb ps)).symm⟩
theorem PSt.addObj (hP : PSt w0 M w g nd nb X L) : PSt w0 M (w.alloc o) g nd nb X (.obj w.heap.size o :: L) := by
  obtain ⟨D, cd, ps, h1, h2, h3⟩ := hP
  exact ⟨D, cd, ps, h1, h2, h3.newObj.perm (List.perm_middle (l₁ := Ch.blk g _ _ :: Ch.own D _ _ _ _ _ :: rowsC nb ps)).symm⟩
end
section
variable {P : Program} {w w0 : World} {M : Nat → Prop} {L : List Ch} {N : Nat} {ops : Array Oper} {K : Env → World → Prop} {rest : List Oper} {e : Env} {ty : TypeId} {pos : String} {after : Array Edge} {d : Tmp} {x y z : Operand} {t kt et : TypeId} {g nd nb h : Nat} {X : List (List Bk)} {o : Obj} {l : List (Int × Value)} {k : Int}
theorem WpP.makeMap [MapT P t kt et] (hP : PSt w0 M w g nd nb X L) (hd : dOk N (some d) = true)
    (hk : ∀ h w', PSt w0 M w' g nd nb X (.obj h (.map #[] 0) :: L) → WpL P N ops K rest (e.set d (.map (some h))) w') :
    WpL P N ops K (⟨some d, .makeMap t none, ty, pos, after, none⟩ :: rest) e w :=
  WpL.run (w' := w.alloc (.map #[] 0)) hd (by simp [execOp, Instr.makeMap, newObj, Sem.run]) (hk _ _ hP.addObj)
theorem WpP.mapPut {v : Value} [ht : MapT P t kt et] [hk : IntT P kt .i64] (hm : IMap o l) (hP : PSt w0 M w g nd nb X (.obj h o :: L)) (hx : e.eval x = .map (some h)) (hy : e.eval y = .int .i64 k) (hz : e.eval z = v)
    (hk : ∀ o' w', IMap o' (putL l k v) → PSt w0 M w' g nd nb X (.obj h o' :: L) → WpL P N ops K rest e w') :
    WpL P N ops K (⟨none, .mapUpdate t x y z, ty, pos, after, none⟩ :: rest) e w := by
  obtain ⟨o', h1, h2⟩ := hm.update (P := P) (t := t) (k := k) (v := v) (hP.rest.objAt .here)
  exact WpL.runSkip (w' := w.putObj h o') rfl (by simp [execOp, hx, hy, hz, h2]) (hk o' _ h1 (hP.putObj o'))
theorem WpP.mapDel [ht : MapT P t kt et] [hk : IntT P kt .i64] (hm : IMap o l) (hP : PSt w0 M w g nd nb X (.obj h o :: L)) (hx : e.eval x = .map (some h)) (hy : e.eval y = .int .i64 k)
    (hk : ∀ o' w', IMap o' (delL l k) → PSt w0 M w' g nd nb X (.obj h o' :: L) → WpL P N ops K rest e w') :
    WpL P N ops K (⟨none, .call { callee := .builtin .delete, args := #[x, y], argTypes := #[t, kt] }, ty, pos, after, none⟩ :: rest) e w := by
  obtain ⟨o', h1, h2⟩ := hm.delete (P := P) (t := t) (k := k) (ty := ty) (hP.rest.objAt .here)
  exact WpL.run (v := .tuple #[]) (w' := w.putObj h o') rfl (by simp [execOp, resolve, invoke, builtin, hx, hy, h2]) (hk o' _ h1 (hP.putObj o'))
end
theorem boolE {a b : Bool} (h : a = b) : Value.bool a = .bool b := by rw [h]
theorem countL_new (nb : Nat) : countL (newBlocks nb) 1 = nb := by have := (OnceI.new nb).all; simpa using this
theorem takeX2 {a l : List Bk} : takeX [a, l] 1 = ((takeL l).1, [a, (takeL l).2]) := rfl
theorem turnX2 {a l : List Bk} {n : Int} {to : Nat} {fs : List Int} : turnX [a, l] 1 n to fs = ((turnL l n to fs).1, [a, (turnL l n to fs).2]) := rfl
theorem countX2 {a l : List Bk} {s : Int} : countX [a, l] 1 s = countL l s := rfl
theorem countX2' {a l : List Bk} {s : Int} : countX [a, l] 0 s = countL a s := rfl
theorem turnL_at {l : List Bk} {n to : Nat} {fs : List Int} (h : n < l.length) : turnL l (n : Int) to fs = if (stG l n : Int) ∈ fs then (0, l.set n ⟨to, erG l n⟩) else (71, l) := by
  unfold turnL
  rw [if_pos ⟨by omega, by omega⟩, Int.toNat_natCast]; rfl
set_option maxHeartbeats 8000000 in
theorem blocksOnce_any {many : Int} {A : Option Addr} {n c : Nat} {zs : List Int} (hm : -9223372036854775808 ≤ many ∧ many ≤ 9223372036854775807) (hn : n ≤ zs.length) (hzs : ∀ z ∈ zs, -9223372036854775808 ≤ z ∧ z ≤ 9223372036854775807) (hV : IsVw A n c A 0) (hlen : n ≤ 140737488355328) (W : World) (hr : Rd W A (zv zs)) :
    Calls Try.prog 4 #[.int .i64 many, .slice A n c] W fun x w' => x = .returned (.bool true) ∧ Below W.heap.size W w' := by
  have hmL := absN_le hm
  have hS := (St.start W).startRo hr
  clear hr
  (refine calls_of (P := Try.prog) _ Try.func4 rfl Try.ntmps4 (Nat.le_of_ble_eq_true rfl) ?_; dsimp only [argE, Nat.reduceAdd])
  (refine Reach.walk ?_; (repeat (first | ((with_reducible refine AllSt.mk ?_); (try clear hS); intro w hS) | ((with_reducible refine AllVw.mk ?_); intro V hV))))
  (with_reducible apply WpL.call); (· exact rfl); (· exact Try.call8); (· exact Vals.found)
  refine (awake_any hS).mono ?_
  clear hS
  rintro x w ⟨rfl, hS⟩
  refine ⟨_, rfl, ?_⟩
  (refine Reach.walk ?_; (repeat (first | ((with_reducible refine AllSt.mk ?_); (try clear hS); intro w hS) | ((with_reducible refine AllVw.mk ?_); intro V hV))))
  (with_reducible apply WpL.call); (· exact rfl); (· exact Try.call9); (· exact Vals.found)
  refine (abs_any hm _).mono ?_
  rintro x w1 ⟨rfl, rfl⟩
  refine ⟨_, rfl, ?_⟩
  (refine Reach.walk ?_; (repeat (first | ((with_reducible refine AllSt.mk ?_); (try clear hS); intro w hS) | ((with_reducible refine AllVw.mk ?_); intro V hV))))
  have hm10 : absN many % 10 < 10 := Nat.mod_lt _ (by decide)
  generalize hnb : 1 + absN many % 10 = nb at *
  (with_reducible apply WpL.call); (· exact rfl); (· exact Try.call10); (· exact Vals.found)
  refine (newP hS).mono ?_
  clear hS
  rintro x w (⟨h, _⟩ | ⟨-, g, rfl, hP⟩)
  · exact absurd ⟨by omega, by omega, by omega, by omega⟩ h
  refine ⟨_, rfl, ?_⟩
  have hX : List.replicate (2 : Int).toNat (newBlocks ((nb : Int).toNat)) = [newBlocks nb, newBlocks nb] := by rw [Int.toNat_natCast]; rfl
  rw [hX, Int.toNat_natCast] at hP
  replace hP : PSt W (feet []) w g 2 nb [newBlocks nb, newBlocks nb] [.ro A (zv zs)] := hP
  have hS := hP.rest
  (refine Reach.walk ?_; (repeat (first | ((with_reducible refine AllSt.mk ?_); (try clear hS); intro w hS) | ((with_reducible refine AllVw.mk ?_); intro V hV))))
  clear hS
  refine WpP.makeMap hP rfl ?_
  clear hP
  intro gh w hP
  have hS := hP.rest
  (refine Reach.walk ?_; (repeat (first | ((with_reducible refine AllSt.mk ?_); (try clear hS); intro w hS) | ((with_reducible refine AllVw.mk ?_); intro V hV))))
  clear hS
  refine WpP.makeMap hP rfl ?_
  clear hP
  intro gb w hP
  replace hP := hP.perm (List.Perm.swap _ _ _)
  have hS := hP.rest
  (refine Reach.walk ?_; (repeat (first | ((with_reducible refine AllSt.mk ?_); (try clear hS); intro w hS) | ((with_reducible refine AllVw.mk ?_); intro V hV))))
  clear hS
  apply Wp.loopUp n (fun i e w' => ∃ l H B oh ob, OnceI nb l H B ∧ IMap oh H ∧ IMap ob B ∧ PSt W (feet []) w' g 2 nb [newBlocks nb, l] [.obj gh oh, .obj gb ob, .ro A (zv zs)] ∧
      e.Has [(10, .int .i64 (i : Nat)), (0, .int .i64 (nb : Nat)), (1, .slice A n c), (6, .pointer (some ⟨g, 0, none⟩)), (8, .map (some gh)), (9, .map (some gb))]) (Nat.zero_le _)
    ⟨_, _, _, _, _, OnceI.new nb, IMap.nil, IMap.nil, hP, rfl, rfl, rfl, rfl, rfl, rfl, trivial⟩
  clear hP
  rintro i e w hi ⟨l, H, B, oh, ob, hO, hH, hB, hP, he⟩
  obtain ⟨e0, rfl⟩ := he.eq
  clear he
  dsimp only [Env.sets]
  have hHn : (H.map (·.1)).Nodup := by obtain ⟨_, _, _, _, h⟩ := hH; exact h
  have hall := hO.all
  have hS := hP.rest
  (repeat (with_reducible apply Wp.seq))
  refine Wp.cut (fun e' w' => w' = w ∧ e'.Has [(50, .bool (decide (i < n ∧ i < 80))), (10, .int .i64 (i : Nat)), (0, .int .i64 (nb : Nat)), (1, .slice A n c), (6, .pointer (some ⟨g, 0, none⟩)), (8, .map (some gh)), (9, .map (some gb))]) ?_ ?_
  · have h : (¬ i < n) ∨ (i < n ∧ ¬ i < 80) ∨ (i < n ∧ i < 80) := by omega
    rcases h with h1 | ⟨h1, h2⟩ | ⟨h1, h2⟩
    all_goals
      (refine Reach.walk ?_; (repeat (first | ((with_reducible refine AllSt.mk ?_); (try clear hS); intro w hS) | ((with_reducible refine AllVw.mk ?_); intro V hV))))
      exact ⟨rfl, boolE (by first | exact decide_eq_decide.2 (by omega) | exact (decide_eq_false (by omega)).symm | exact (decide_eq_true (by omega)).symm), rfl, rfl, rfl, rfl, rfl, rfl, trivial⟩
  rintro e w' ⟨rfl, he⟩
  obtain ⟨e1, rfl⟩ := he.eq
  clear he
  dsimp only [Env.sets]
  by_cases hgo : i < n ∧ i < 80
  rotate_left
  · (refine Reach.walk ?_; (repeat (first | ((with_reducible refine AllSt.mk ?_); (try clear hS); intro w hS) | ((with_reducible refine AllVw.mk ?_); intro V hV))))
    clear hS
    ((with_reducible apply WpL.call); (· exact rfl); (· exact Try.call15); (· exact Vals.found)); (refine (countP (by omega) (by omega) _ _ hP).mono ?_); clear hP; rintro x w ⟨rfl, hP⟩; (refine ⟨_, rfl, ?_⟩)
    rw [countX2]
    have hS := hP.rest
    (refine Reach.walk ?_; (repeat (first | ((with_reducible refine AllSt.mk ?_); (try clear hS); intro w hS) | ((with_reducible refine AllVw.mk ?_); intro V hV))))
    refine WpL.mapLen hH hS rfl rfl .here ?_
    (refine Reach.walk ?_; (repeat (first | ((with_reducible refine AllSt.mk ?_); (try clear hS); intro w hS) | ((with_reducible refine AllVw.mk ?_); intro V hV))))
    refine WpL.mapLen hB hS rfl rfl (.there .here) ?_
    (refine Reach.walk ?_; (repeat (first | ((with_reducible refine AllSt.mk ?_); (try clear hS); intro w hS) | ((with_reducible refine AllVw.mk ?_); intro V hV))))
    clear hS
    ((with_reducible apply WpL.call); (· exact rfl); (· exact Try.call15); (· exact Vals.found)); (refine (countP (by omega) (by omega) _ _ hP).mono ?_); clear hP; rintro x w ⟨rfl, hP⟩; (refine ⟨_, rfl, ?_⟩)
    rw [countX2', show countL (newBlocks nb) 1 = nb from countL_new nb]
    have hS := hP.rest
    (refine Reach.walk ?_; (repeat (first | ((with_reducible refine AllSt.mk ?_); (try clear hS); intro w hS) | ((with_reducible refine AllVw.mk ?_); intro V hV))))
    (with_reducible apply doneQ_one Try.results4); (· exact slotFound)
    exact ⟨by simp, hS.toBelow⟩
  obtain ⟨h1, h2⟩ := hgo
  have hil : i < zs.length := by omega
  have hzb := hzs (zs.getD i 0) (by rw [List.getD_eq_getElem?_getD, List.getElem?_eq_getElem hil]; exact List.getElem_mem _)
  (refine Reach.walk ?_; (repeat (first | ((with_reducible refine AllSt.mk ?_); (try clear hS); intro w hS) | ((with_reducible refine AllVw.mk ?_); intro V hV))))
  (with_reducible apply WpL.call); (· exact rfl); (· exact Try.call9); (· exact Vals.found)
  refine (abs_any hzb _).mono ?_
  rintro x w1 ⟨rfl, rfl⟩
  refine ⟨_, rfl, ?_⟩
  generalize zs.getD i 0 = z at *
  have hzL := absN_le hzb
  have hk4 : absN z % 4 < 4 := Nat.mod_lt _ (by decide)
  have hkn : absN z / 4 % nb < nb := Nat.mod_lt _ (by omega)
  have hll := hO.len
  (refine Reach.walk ?_; (repeat (first | ((with_reducible refine AllSt.mk ?_); (try clear hS); intro w hS) | ((with_reducible refine AllVw.mk ?_); intro V hV))))
  generalize absN z % 4 = k4 at *
  rcases (show k4 = 0 ∨ k4 = 1 ∨ k4 = 2 ∨ k4 = 3 by omega) with hk | hk | hk | hk
  · (refine Reach.walk ?_; (repeat (first | ((with_reducible refine AllSt.mk ?_); (try clear hS); intro w hS) | ((with_reducible refine AllVw.mk ?_); intro V hV))))
    ((with_reducible apply WpL.call); (· exact rfl); (· exact Try.call11); (· exact Vals.found)); (refine (takeP (by omega) (by omega) _ hP).mono ?_); clear hP; rintro x w ⟨rfl, hP⟩; (refine ⟨_, rfl, ?_⟩)
    clear hS
    rw [takeX2] at hP ⊢
    cases hbn : bestN l l.length with
    | none =>
      have ht : takeL l = ((0, 70), l) := by unfold takeL; rw [hbn]
      rw [ht] at hP ⊢
      have hsum := hO.none hbn
      have hS := hP.rest
      (refine Reach.walk ?_; (repeat (first | ((with_reducible refine AllSt.mk ?_); (try clear hS); intro w hS) | ((with_reducible refine AllVw.mk ?_); intro V hV))))
      refine WpL.mapLook hH hS rfl rfl rfl .here ?_
      (refine Reach.walk ?_; (repeat (first | ((with_reducible refine AllSt.mk ?_); (try clear hS); intro w hS) | ((with_reducible refine AllVw.mk ?_); intro V hV))))
      refine WpL.mapLook hB hS rfl rfl rfl (.there .here) ?_
      (refine Reach.walk ?_; (repeat (first | ((with_reducible refine AllSt.mk ?_); (try clear hS); intro w hS) | ((with_reducible refine AllVw.mk ?_); intro V hV))))
      refine WpL.mapLen hH hS rfl rfl .here ?_
      (refine Reach.walk ?_; (repeat (first | ((with_reducible refine AllSt.mk ?_); (try clear hS); intro w hS) | ((with_reducible refine AllVw.mk ?_); intro V hV))))
      refine WpL.mapLen hB hS rfl rfl (.there .here) ?_
      (refine Reach.walk ?_; (repeat (first | ((with_reducible refine AllSt.mk ?_); (try clear hS); intro w hS) | ((with_reducible refine AllVw.mk ?_); intro V hV))))
      exact ⟨h1, l, H, B, oh, ob, hO, hH, hB, hP, int_eq (by omega), rfl, rfl, rfl, rfl, rfl, trivial⟩
    | some b =>
      obtain ⟨hbl, hbs⟩ := bestN_lt hbn
      have ht : takeL l = (((b : Int), 0), l.set b ⟨2, erG l b⟩) := by unfold takeL; rw [hbn]
      rw [ht] at hP ⊢
      obtain ⟨g1, g2⟩ := hO.free (b := b) (by omega) hbs
      have hS := hP.rest
      (refine Reach.walk ?_; (repeat (first | ((with_reducible refine AllSt.mk ?_); (try clear hS); intro w hS) | ((with_reducible refine AllVw.mk ?_); intro V hV))))
      refine WpL.mapLook hH hS rfl rfl rfl .here ?_
      rw [g1]
      (refine Reach.walk ?_; (repeat (first | ((with_reducible refine AllSt.mk ?_); (try clear hS); intro w hS) | ((with_reducible refine AllVw.mk ?_); intro V hV))))
      refine WpL.mapLook hB hS rfl rfl rfl (.there .here) ?_
      rw [g2]
      (refine Reach.walk ?_; (repeat (first | ((with_reducible refine AllSt.mk ?_); (try clear hS); intro w hS) | ((with_reducible refine AllVw.mk ?_); intro V hV))))
      clear hS
      refine WpP.mapPut hH hP rfl rfl rfl ?_
      intro oh' w hH' hP
      have hS := hP.rest
      (refine Reach.walk ?_; (repeat (first | ((with_reducible refine AllSt.mk ?_); (try clear hS); intro w hS) | ((with_reducible refine AllVw.mk ?_); intro V hV))))
      exact ⟨h1, _, _, _, _, _, hO.take (by omega) hbs, hH', hB, hP, int_eq (by omega), rfl, rfl, rfl, rfl, rfl, trivial⟩
  · (refine Reach.walk ?_; (repeat (first | ((with_reducible refine AllSt.mk ?_); (try clear hS); intro w hS) | ((with_reducible refine AllVw.mk ?_); intro V hV))))
    ((with_reducible apply WpL.call); (· exact rfl); (· exact Try.call11); (· exact Vals.found)); (refine (takeP (by omega) (by omega) _ hP).mono ?_); clear hP; rintro x w ⟨rfl, hP⟩; (refine ⟨_, rfl, ?_⟩)
    clear hS
    rw [takeX2] at hP ⊢
    cases hbn : bestN l l.length with
    | none =>
      have ht : takeL l = ((0, 70), l) := by unfold takeL; rw [hbn]
      rw [ht] at hP ⊢
      have hsum := hO.none hbn
      have hS := hP.rest
      (refine Reach.walk ?_; (repeat (first | ((with_reducible refine AllSt.mk ?_); (try clear hS); intro w hS) | ((with_reducible refine AllVw.mk ?_); intro V hV))))
      refine WpL.mapLook hH hS rfl rfl rfl .here ?_
      (refine Reach.walk ?_; (repeat (first | ((with_reducible refine AllSt.mk ?_); (try clear hS); intro w hS) | ((with_reducible refine AllVw.mk ?_); intro V hV))))
      refine WpL.mapLook hB hS rfl rfl rfl (.there .here) ?_
      (refine Reach.walk ?_; (repeat (first | ((with_reducible refine AllSt.mk ?_); (try clear hS); intro w hS) | ((with_reducible refine AllVw.mk ?_); intro V hV))))
      refine WpL.mapLen hH hS rfl rfl .here ?_
      (refine Reach.walk ?_; (repeat (first | ((with_reducible refine AllSt.mk ?_); (try clear hS); intro w hS) | ((with_reducible refine AllVw.mk ?_); intro V hV))))
      refine WpL.mapLen hB hS rfl rfl (.there .here) ?_
      (refine Reach.walk ?_; (repeat (first | ((with_reducible refine AllSt.mk ?_); (try clear hS); intro w hS) | ((with_reducible refine AllVw.mk ?_); intro V hV))))
      exact ⟨h1, l, H, B, oh, ob, hO, hH, hB, hP, int_eq (by omega), rfl, rfl, rfl, rfl, rfl, trivial⟩
    | some b =>
      obtain ⟨hbl, hbs⟩ := bestN_lt hbn
      have ht : takeL l = (((b : Int), 0), l.set b ⟨2, erG l b⟩) := by unfold takeL; rw [hbn]
      rw [ht] at hP ⊢
      obtain ⟨g1, g2⟩ := hO.free (b := b) (by omega) hbs
      have hS := hP.rest
      (refine Reach.walk ?_; (repeat (first | ((with_reducible refine AllSt.mk ?_); (try clear hS); intro w hS) | ((with_reducible refine AllVw.mk ?_); intro V hV))))
      refine WpL.mapLook hH hS rfl rfl rfl .here ?_
      rw [g1]
      (refine Reach.walk ?_; (repeat (first | ((with_reducible refine AllSt.mk ?_); (try clear hS); intro w hS) | ((with_reducible refine AllVw.mk ?_); intro V hV))))
      refine WpL.mapLook hB hS rfl rfl rfl (.there .here) ?_
      rw [g2]
      (refine Reach.walk ?_; (repeat (first | ((with_reducible refine AllSt.mk ?_); (try clear hS); intro w hS) | ((with_reducible refine AllVw.mk ?_); intro V hV))))
      clear hS
      refine WpP.mapPut hH hP rfl rfl rfl ?_
      intro oh' w hH' hP
      have hS := hP.rest
      (refine Reach.walk ?_; (repeat (first | ((with_reducible refine AllSt.mk ?_); (try clear hS); intro w hS) | ((with_reducible refine AllVw.mk ?_); intro V hV))))
      exact ⟨h1, _, _, _, _, _, hO.take (by omega) hbs, hH', hB, hP, int_eq (by omega), rfl, rfl, rfl, rfl, rfl, trivial⟩
  · (refine Reach.walk ?_; (repeat (first | ((with_reducible refine AllSt.mk ?_); (try clear hS); intro w hS) | ((with_reducible refine AllVw.mk ?_); intro V hV))))
    generalize absN z / 4 % nb = b at *
    by_cases hs2 : stG l b = 2
    · have hin : (getL H (b : Int)).isSome = true := (hO.held b).2 ⟨by omega, by omega, by rw [Int.toNat_natCast]; exact hs2⟩
      obtain ⟨v, hv⟩ := Option.isSome_iff_exists.1 hin
      refine WpL.mapLook hH hS rfl rfl rfl .here ?_
      rw [hv]
      (refine Reach.walk ?_; (repeat (first | ((with_reducible refine AllSt.mk ?_); (try clear hS); intro w hS) | ((with_reducible refine AllVw.mk ?_); intro V hV))))
      clear hS
      ((with_reducible apply WpL.call); (· exact rfl); (· exact Try.call13); (· exact Vals.found)); (refine (freeP (by omega) (by omega) _ _ hP).mono ?_); clear hP; rintro x w ⟨rfl, hP⟩; (refine ⟨_, rfl, ?_⟩)
      rw [turnX2, turnL_at (by omega), if_pos (by rw [hs2]; decide)] at hP ⊢
      have hS := hP.rest
      (refine Reach.walk ?_; (repeat (first | ((with_reducible refine AllSt.mk ?_); (try clear hS); intro w hS) | ((with_reducible refine AllVw.mk ?_); intro V hV))))
      clear hS
      refine WpP.mapDel hH hP rfl rfl ?_
      intro oh' w hH' hP
      have hS := hP.rest
      (refine Reach.walk ?_; (repeat (first | ((with_reducible refine AllSt.mk ?_); (try clear hS); intro w hS) | ((with_reducible refine AllVw.mk ?_); intro V hV))))
      exact ⟨h1, _, _, _, _, _, hO.give hHn (by omega) hs2, hH', hB, hP, int_eq (by omega), rfl, rfl, rfl, rfl, rfl, trivial⟩
    · obtain ⟨hno, hdel⟩ := hO.keep hHn (b := b) (by omega) hs2
      have hst := hO.st b (by omega)
      refine WpL.mapLook hH hS rfl rfl rfl .here ?_
      rw [hno]
      (refine Reach.walk ?_; (repeat (first | ((with_reducible refine AllSt.mk ?_); (try clear hS); intro w hS) | ((with_reducible refine AllVw.mk ?_); intro V hV))))
      clear hS
      ((with_reducible apply WpL.call); (· exact rfl); (· exact Try.call13); (· exact Vals.found)); (refine (freeP (by omega) (by omega) _ _ hP).mono ?_); clear hP; rintro x w ⟨rfl, hP⟩; (refine ⟨_, rfl, ?_⟩)
      rw [turnX2, turnL_at (by omega), if_neg (by simp only [List.mem_cons, List.not_mem_nil, or_false]; omega)] at hP ⊢
      have hS := hP.rest
      (refine Reach.walk ?_; (repeat (first | ((with_reducible refine AllSt.mk ?_); (try clear hS); intro w hS) | ((with_reducible refine AllVw.mk ?_); intro V hV))))
      clear hS
      refine WpP.mapDel hH hP rfl rfl ?_
      intro oh' w hH' hP
      rw [hdel] at hH'
      have hS := hP.rest
      (refine Reach.walk ?_; (repeat (first | ((with_reducible refine AllSt.mk ?_); (try clear hS); intro w hS) | ((with_reducible refine AllVw.mk ?_); intro V hV))))
      exact ⟨h1, _, _, _, _, _, hO, hH', hB, hP, int_eq (by omega), rfl, rfl, rfl, rfl, rfl, trivial⟩
  · (refine Reach.walk ?_; (repeat (first | ((with_reducible refine AllSt.mk ?_); (try clear hS); intro w hS) | ((with_reducible refine AllVw.mk ?_); intro V hV))))
    generalize absN z / 4 % nb = b at *
    have hst := hO.st b (by omega)
    clear hS
    ((with_reducible apply WpL.call); (· exact rfl); (· exact Try.call16); (· exact Vals.found)); (refine (badP (by omega) (by omega) _ _ hP).mono ?_); clear hP; rintro x w ⟨rfl, hP⟩; (refine ⟨_, rfl, ?_⟩)
    rw [turnX2, turnL_at (by omega), if_pos (by simp only [List.mem_cons, List.not_mem_nil, or_false]; omega)] at hP ⊢
    have hS := hP.rest
    (refine Reach.walk ?_; (repeat (first | ((with_reducible refine AllSt.mk ?_); (try clear hS); intro w hS) | ((with_reducible refine AllVw.mk ?_); intro V hV))))
    clear hS
    refine WpP.mapDel hH hP rfl rfl ?_
    intro oh' w hH' hP
    replace hP := hP.perm (List.Perm.swap _ _ _)
    have hS := hP.rest
    (refine Reach.walk ?_; (repeat (first | ((with_reducible refine AllSt.mk ?_); (try clear hS); intro w hS) | ((with_reducible refine AllVw.mk ?_); intro V hV))))
    clear hS
    refine WpP.mapPut hB hP rfl rfl rfl ?_
    intro ob' w hB' hP
    replace hP := hP.perm (List.Perm.swap _ _ _)
    have hS := hP.rest
    (refine Reach.walk ?_; (repeat (first | ((with_reducible refine AllSt.mk ?_); (try clear hS); intro w hS) | ((with_reducible refine AllVw.mk ?_); intro V hV))))
    exact ⟨h1, _, _, _, _, _, hO.spoil hHn (by omega), hH', hB', hP, int_eq (by omega), rfl, rfl, rfl, rfl, rfl, trivial⟩
end Go.Proofs.Ytaapnfoimcccjaa

namespace Go.Fk
open Go.RowKit Go.ChangeShapes Go.WideShapes Go.ChangeAt

/-- What a slice reads as. -/
def SliceD {H : Type} (d : DataW H) (len cap : Nat) : Prop := (d = .nil ∧ len = 0 ∧ cap = 0) ∨ ∃ elems spare : List (DataW H), d = .slice elems spare ∧ elems.length = len ∧ spare.length = cap - len

section
variable {H : Type} {enc : TypeId × Value → H} {P : Program} {W : World}
theorem argInts {t el : TypeId} {k : IntKind} (ht : P.underlying t = some (.slice el)) (he : P.underlying el = some (.int k)) (hc : P.cellsOf el = 1) {A : Option Addr} {len cap : Nat} {d : DataW H} {p : List MemPlace}
    (h : DataW.Trod enc P W 0 (fun _ => true) true t (.slice A len cap) d p) :
    ∃ zs : List Int, zs.length = cap ∧ len ≤ cap ∧ cap ≤ maxLen ∧ Rd W A (zs.map (Value.int k)) ∧ SliceD d len cap ∧ ∀ z ∈ zs, (Lit.int k z).wf = true := by
  obtain ⟨fuel, hf⟩ := h
  rcases open_ints ht he hc hf with ⟨hcs, hx⟩ | ⟨a, l, c, zs, hcs, _, hl, hm, hz, hx, hcell, hwz⟩
  · simp [Value.cells] at hcs
    obtain ⟨rfl, rfl, rfl⟩ := hcs
    simp only [Prod.mk.injEq] at hx
    exact ⟨[], rfl, Nat.le_refl _, Nat.zero_le _, .inl rfl, .inl ⟨hx.1, rfl, rfl⟩, by simp⟩
  · simp [Value.cells] at hcs
    obtain ⟨rfl, rfl, rfl⟩ := hcs
    simp only [if_true] at hz
    simp only [Prod.mk.injEq] at hx
    refine ⟨zs, hz, hl, hm, .inr ⟨a, rfl, fun j u hu => ?_⟩, .inr ⟨_, _, hx.1, by simp [lits]; omega, by simp [lits]; omega⟩, hwz⟩
    rw [List.getElem?_map] at hu
    cases hj : zs[j]? with
    | none => rw [hj] at hu; cases hu
    | some z =>
      rw [hj] at hu
      have hjl := (List.getElem?_eq_some_iff.1 hj).1
      rw [hcell j hjl, ← hu]
      simp [List.getD_eq_getElem?_getD, hj]

theorem argBytes {t el : TypeId} (ht : P.underlying t = some (.slice el)) (he : P.underlying el = some (.int .u8)) (hc : P.cellsOf el = 1) {A : Option Addr} {len cap : Nat} {d : DataW H} {p : List MemPlace}
    (h : DataW.Trod enc P W 0 (fun _ => true) true t (.slice A len cap) d p) :
    ∃ l : List UInt8, l.length = len ∧ len ≤ cap ∧ cap ≤ maxLen ∧ Rd W A (bv l) ∧ SliceD d len cap := by
  obtain ⟨zs, hz, hl, hm, hr, hd, hw⟩ := argInts ht he hc h
  refine ⟨(zs.take len).map fun z => UInt8.ofNat z.toNat, by simp; omega, hl, hm, ?_, hd⟩
  have e1 : bv ((zs.take len).map fun z => UInt8.ofNat z.toNat) = (zs.map (Value.int .u8)).take len := by
    rw [← List.map_take, bv, List.map_map]
    refine List.map_congr_left fun z hz' => ?_
    have hzw := hw z (List.mem_of_mem_take hz')
    simp [Lit.wf, IntKind.min, IntKind.max, IntKind.signed, IntKind.bits] at hzw
    simp only [Function.comp]
    refine int_eq ?_
    have : (UInt8.ofNat z.toNat).toNat = z.toNat % 256 := by simp
    rw [this]; omega
  rw [e1]
  exact hr.take _

/-- The form's own reach: a slice's capacity. -/
theorem sizedSlice {ts : List TypeId} {ds : List (DataW H)} (h : (DataW.weightsEach P ts ds).all (· ≤ reachBytes) = true) {j : Nat} {t e : TypeId} {d : DataW H} {len cap : Nat} (hs : SliceD d len cap) (hlc : len ≤ cap)
    (ht : ts[j]? = some t) (hd : ds[j]? = some d) (hu : P.underlying t = some (.slice e)) : cap * P.bytesOf e ≤ reachBytes := by
  rcases hs with ⟨_, _, rfl⟩ | ⟨elems, spare, rfl, h1, h2⟩
  · simp
  · have := sized_slice h ht hd hu
    rw [h1, h2, Nat.add_sub_cancel' hlc] at this
    exact this
end

end Go.Fk
namespace Go.Proofs.Ytaapnfoimcccjaa
open Go.Fk
theorem bulkAll_len {H : Type} : ∀ l : List (DataW H), l.length ≤ Rows.uptoBulkAll l
  | [] => Nat.zero_le _
  | d :: r => by
    have h1 : 1 ≤ Rows.uptoBulk d := by
      cases d with
      | lit l => cases l <;> simp [Rows.uptoBulk]
      | _ => simp [Rows.uptoBulk]
    have h2 := bulkAll_len r
    simp only [Rows.uptoBulkAll, List.length_cons]; omega
/-- The second form's bound: a slice's places. -/
theorem bulk_slice {H : Type} {d : DataW H} {len cap : Nat} (hs : SliceD d len cap) (hlc : len ≤ cap) : cap ≤ Rows.uptoBulk d := by
  rcases hs with ⟨_, _, rfl⟩ | ⟨elems, spare, rfl, h1, h2⟩
  · exact Nat.zero_le _
  · have h3 := bulkAll_len elems
    have h4 := bulkAll_len spare
    simp only [Rows.uptoBulk]; omega
end Go.Proofs.Ytaapnfoimcccjaa

namespace Go.Fk
open Go.RowKit Go.ChangeShapes Go.WideShapes Go.ChangeAt Go.Deep

inductive CK where
  | int (k : IntKind)
  | bool
def CK.is : CK → Value → Prop
  | .int k, .int k' z => k' = k ∧ (Lit.int k' z).wf = true
  | .bool, .bool _ => True
  | _, _ => False
def AllIs : List CK → List Value → Prop
  | [], [] => True
  | k :: ks, v :: vs => k.is v ∧ AllIs ks vs
  | _, _ => False
theorem AllIs.length : ∀ {ks : List CK} {vs : List Value}, AllIs ks vs → vs.length = ks.length
  | [], [], _ => rfl
  | [], _ :: _, h => h.elim
  | _ :: _, [], h => h.elim
  | _ :: _, _ :: _, h => by simp [AllIs.length h.2]
theorem AllIs.append : ∀ {ks ks' : List CK} {vs vs' : List Value}, AllIs ks vs → AllIs ks' vs' → AllIs (ks ++ ks') (vs ++ vs')
  | [], _, [], _, _, h => h
  | [], _, _ :: _, _, h, _ => h.elim
  | _ :: _, _, [], _, h, _ => h.elim
  | _ :: _, _, _ :: _, _, h, h' => ⟨h.1, AllIs.append h.2 h'⟩
theorem AllIs.nil {vs : List Value} (h : AllIs [] vs) : vs = [] := by
  cases vs with
  | nil => rfl
  | cons _ _ => exact h.elim
theorem AllIs.cons {k : CK} {ks : List CK} {vs : List Value} (h : AllIs (k :: ks) vs) : ∃ v r, vs = v :: r ∧ k.is v ∧ AllIs ks r := by
  cases vs with
  | nil => exact h.elim
  | cons v r => exact ⟨v, r, rfl, h.1, h.2⟩
theorem CK.is_int {k : IntKind} {v : Value} (h : (CK.int k).is v) : ∃ z, v = .int k z ∧ (Lit.int k z).wf = true := by
  cases v <;> simp only [CK.is] at h
  all_goals first
    | exact h.elim
    | (obtain ⟨rfl, h⟩ := h; exact ⟨_, rfl, h⟩)
theorem CK.is_bool {v : Value} (h : CK.bool.is v) : ∃ b, v = .bool b := by
  cases v <;> simp only [CK.is] at h
  all_goals first
    | exact h.elim
    | exact ⟨_, rfl⟩
section
variable {ks : List CK} {vs : List Value}
theorem AllIs.i64 (h : AllIs (.int .i64 :: ks) vs) : ∃ z r, vs = .int .i64 z :: r ∧ (-9223372036854775808 ≤ z ∧ z ≤ 9223372036854775807) ∧ AllIs ks r := by
  obtain ⟨v, r, rfl, h1, h2⟩ := h.cons
  obtain ⟨z, rfl, hw⟩ := CK.is_int h1
  exact ⟨z, r, rfl, by simpa [Lit.wf, IntKind.min, IntKind.max, IntKind.signed, IntKind.bits] using hw, h2⟩
theorem AllIs.u64 (h : AllIs (.int .u64 :: ks) vs) : ∃ (m : Nat) (r : List Value), vs = .int .u64 (m : Int) :: r ∧ m < 18446744073709551616 ∧ AllIs ks r := by
  obtain ⟨v, r, rfl, h1, h2⟩ := h.cons
  obtain ⟨z, rfl, hw⟩ := CK.is_int h1
  have hw : 0 ≤ z ∧ z ≤ 18446744073709551615 := by simpa [Lit.wf, IntKind.min, IntKind.max, IntKind.signed, IntKind.bits] using hw
  obtain ⟨m, rfl⟩ := Int.eq_ofNat_of_zero_le hw.1
  exact ⟨m, r, rfl, by omega, h2⟩
theorem AllIs.u32 (h : AllIs (.int .u32 :: ks) vs) : ∃ (m : Nat) (r : List Value), vs = .int .u32 (m : Int) :: r ∧ m < 4294967296 ∧ AllIs ks r := by
  obtain ⟨v, r, rfl, h1, h2⟩ := h.cons
  obtain ⟨z, rfl, hw⟩ := CK.is_int h1
  have hw : 0 ≤ z ∧ z ≤ 4294967295 := by simpa [Lit.wf, IntKind.min, IntKind.max, IntKind.signed, IntKind.bits] using hw
  obtain ⟨m, rfl⟩ := Int.eq_ofNat_of_zero_le hw.1
  exact ⟨m, r, rfl, by omega, h2⟩
theorem AllIs.u8 (h : AllIs (.int .u8 :: ks) vs) : ∃ (m : Nat) (r : List Value), vs = .int .u8 (m : Int) :: r ∧ m < 256 ∧ AllIs ks r := by
  obtain ⟨v, r, rfl, h1, h2⟩ := h.cons
  obtain ⟨z, rfl, hw⟩ := CK.is_int h1
  have hw : 0 ≤ z ∧ z ≤ 255 := by simpa [Lit.wf, IntKind.min, IntKind.max, IntKind.signed, IntKind.bits] using hw
  obtain ⟨m, rfl⟩ := Int.eq_ofNat_of_zero_le hw.1
  exact ⟨m, r, rfl, by omega, h2⟩
theorem AllIs.b (h : AllIs (.bool :: ks) vs) : ∃ b r, vs = .bool b :: r ∧ AllIs ks r := by
  obtain ⟨v, r, rfl, h1, h2⟩ := h.cons
  obtain ⟨b, rfl⟩ := CK.is_bool h1
  exact ⟨b, r, rfl, h2⟩
end

def flats (g : TypeId → Option (List CK)) (P : Program) : Nat → List Field → Option (List CK)
  | _, [] => some []
  | o, f :: r => if f.offset = o then (g f.type).bind fun ks => if ks.length = P.cellsOf f.type then (flats g P (o + ks.length) r).map (ks ++ ·) else none else none
/-- What the cells of a type of numbers and truths are. -/
def flat (P : Program) : Nat → TypeId → Option (List CK)
  | 0, _ => none
  | d + 1, t => match P.underlying t with
    | some (.int k) => some [.int k]
    | some .bool => some [.bool]
    | some (.struct fs) => (flats (flat P d) P 0 fs.toList).bind fun ks => if ks.length = P.cellsOf t then some ks else none
    | _ => none
theorem flats_spec {g : TypeId → Option (List CK)} {P : Program} {cs : List Value} : ∀ (l : List Field) (o : Nat) (ks : List CK), flats g P o l = some ks →
    (∀ f ∈ l, ∀ ks', g f.type = some ks' → AllIs ks' ((cs.drop f.offset).take (P.cellsOf f.type))) → AllIs ks ((cs.drop o).take ks.length)
  | [], o, ks, h, _ => by
    simp only [flats, Option.some.injEq] at h
    subst h; simp [AllIs]
  | f :: r, o, ks, h, hf => by
    simp only [flats] at h
    split at h
    · rename_i ho
      cases hg : g f.type with
      | none => rw [hg] at h; cases h
      | some k1 =>
        rw [hg] at h
        simp only [Option.bind_some] at h
        split at h
        · rename_i hl
          cases hr : flats g P (o + k1.length) r with
          | none => rw [hr] at h; cases h
          | some k2 =>
            rw [hr] at h
            simp only [Option.map_some, Option.some.injEq] at h
            subst h
            have h1 := hf f List.mem_cons_self k1 hg
            have h2 := flats_spec r _ k2 hr fun f' hf' => hf f' (List.mem_cons_of_mem _ hf')
            rw [ho, ← hl] at h1
            rw [List.length_append, List.take_add, List.drop_drop]
            exact h1.append h2
        · cases h
    · cases h

section
variable {H : Type} {enc : TypeId × Value → H} {P : Program} {w W : World} {base : Nat} {spare : Nat → Bool} {held : Bool}
theorem flat_trod : ∀ (d : Nat) (t : TypeId) (ks : List CK), flat P d t = some ks → ∀ (fuel : Nat) (cs : List Value) (x : DataW H × List MemPlace), DataW.trod enc P w base spare held fuel t cs = some x → AllIs ks cs
  | 0, t, ks, h, _, _, _, _ => by cases h
  | d + 1, t, ks, h, fuel, cs, x, hx => by
    unfold flat at h
    split at h
    · rename_i k hu
      simp only [Option.some.injEq] at h
      subst h
      obtain ⟨n, rfl, _, hw⟩ := DataW.trod_int hu hx
      exact ⟨⟨rfl, hw⟩, trivial⟩
    · rename_i hu
      simp only [Option.some.injEq] at h
      subst h
      obtain ⟨b, rfl, _⟩ := DataW.trod_bool hu hx
      exact ⟨trivial, trivial⟩
    · rename_i fs hu
      cases hf : flats (flat P d) P 0 fs.toList with
      | none => rw [hf] at h; cases h
      | some k1 =>
        rw [hf] at h
        simp only [Option.bind_some] at h
        split at h
        · rename_i hl
          simp only [Option.some.injEq] at h
          subst h
          obtain ⟨xs, n, _, _, hlen, hxl, hall⟩ := DataW.trod_struct hu hx
          have h1 := flats_spec (cs := cs) fs.toList 0 k1 hf fun f hfm ks' hg => by
            obtain ⟨i, hi, hfi⟩ := List.getElem_of_mem hfm
            have hfi' : fs[i]? = some f := by
              rw [← Array.getElem?_toList, List.getElem?_eq_getElem hi, hfi]
            have h2 := hall i f hfi'
            have hi2 : i < xs.length := by rw [hxl]; simpa using hi
            rw [List.getElem?_eq_getElem hi2] at h2
            exact flat_trod d _ _ hg _ _ _ h2
          rw [List.drop_zero, List.take_of_length_le (by omega)] at h1
          exact h1
        · cases h
    · cases h
/-- A struct by value. -/
theorem argFlat {r : Go.Reach} {b0 : Nat} {t : TypeId} {fs : Array Field} {ks : List CK} {v : Value} {d : DataW H} {p : List MemPlace} (n : Nat) (hu : P.underlying t = some (.struct fs)) (hk : flat P n t = some ks) (hv : Value.okWide P w r b0 t v) (h : DataW.Trod enc P w base spare held t v d p) :
    ∃ cs : List Value, v = .agg cs.toArray ∧ AllIs ks cs := by
  obtain ⟨cs, rfl, _⟩ := okWide_struct hu hv
  obtain ⟨fuel, hf⟩ := h
  exact ⟨cs.toList, rfl, flat_trod n t ks hk fuel _ _ hf⟩

theorem argInts2 {t el : TypeId} (ht : P.underlying t = some (.slice el)) (he : P.underlying el = some (.int .i64)) (hc : P.cellsOf el = 1) {A : Option Addr} {len cap : Nat} {d : DataW H} {p : List MemPlace}
    (h : DataW.Trod enc P W 0 (fun _ => true) true t (.slice A len cap) d p) :
    ∃ zs : List Int, zs.length = cap ∧ IsVw A len cap A 0 ∧ Rd W A (zv zs) ∧ SliceD d len cap ∧ ∀ z ∈ zs, -9223372036854775808 ≤ z ∧ z ≤ 9223372036854775807 := by
  have hA : A = none → cap = 0 := fun hA => by
    subst hA
    obtain ⟨fuel, hf⟩ := h
    rcases open_ints ht he hc hf with ⟨hcs, _⟩ | ⟨a, l, c, zs, hcs, _⟩
    · simp [Value.cells] at hcs; exact hcs.2
    · simp [Value.cells] at hcs
  obtain ⟨zs, hz, hl, hm, hr, hd, hw⟩ := argInts ht he hc h
  refine ⟨zs, hz, IsVw.base hl hm hA, hr, hd, fun z hzm => ?_⟩
  have := hw z hzm
  simpa [Lit.wf, IntKind.min, IntKind.max, IntKind.signed, IntKind.bits] using this
theorem argBytes2 {t el : TypeId} (ht : P.underlying t = some (.slice el)) (he : P.underlying el = some (.int .u8)) (hc : P.cellsOf el = 1) {A : Option Addr} {len cap : Nat} {d : DataW H} {p : List MemPlace}
    (h : DataW.Trod enc P W 0 (fun _ => true) true t (.slice A len cap) d p) :
    ∃ l : List UInt8, l.length = len ∧ IsVw A len cap A 0 ∧ Rd W A (bv l) ∧ SliceD d len cap := by
  have hA : A = none → cap = 0 := fun hA => by
    subst hA
    obtain ⟨fuel, hf⟩ := h
    rcases open_ints ht he hc hf with ⟨hcs, _⟩ | ⟨a, l, c, zs, hcs, _⟩
    · simp [Value.cells] at hcs; exact hcs.2
    · simp [Value.cells] at hcs
  obtain ⟨l, hn, hl, hm, hr, hd⟩ := argBytes ht he hc h
  exact ⟨l, hn, IsVw.base hl hm hA, hr, hd⟩
/-- A slice of structs of numbers and truths. -/
theorem argFlats {t el : TypeId} {ks : List CK} (n : Nat) (ht : P.underlying t = some (.slice el)) (hk : flat P n el = some ks) {A : Option Addr} {len cap : Nat} {d : DataW H} {p : List MemPlace}
    (h : DataW.Trod enc P W 0 (fun _ => true) true t (.slice A len cap) d p) :
    ∃ cs : List Value, cs.length = cap * P.cellsOf el ∧ IsVw A len cap A 0 ∧ Rd W A cs ∧ SliceD d len cap ∧ ∀ i, i < cap → AllIs ks ((cs.drop (i * P.cellsOf el)).take (P.cellsOf el)) := by
  obtain ⟨fuel, hf⟩ := h
  rcases open_slice ht hf with ⟨hcs, hx⟩ | ⟨a, l, c, m, n', D, Pl, hcs, _, hl, hm, hmm, hx, hi⟩
  · simp [Value.cells] at hcs
    obtain ⟨rfl, rfl, rfl⟩ := hcs
    simp only [Prod.mk.injEq] at hx
    exact ⟨[], by simp, IsVw.nil, .inl rfl, .inl ⟨hx.1, rfl, rfl⟩, fun i hi => absurd hi (Nat.not_lt_zero _)⟩
  · simp [Value.cells] at hcs
    obtain ⟨rfl, rfl, rfl⟩ := hcs
    simp only [if_true] at hmm
    subst hmm
    simp only [Prod.mk.injEq] at hx
    generalize hsz : P.cellsOf el = sz at *
    have hcell : ∀ i, i < m → ∃ cs' : List Value, cs'.length = sz ∧ (∀ j, j < sz → W.cell? (a.add (i * sz + j)) = cs'[j]?) ∧ AllIs ks cs' := fun i him => by
      obtain ⟨cs', h1, h2⟩ := hi i him
      obtain ⟨_, h3, h4⟩ := World.cells?_some h1
      refine ⟨cs', h3, fun j hj => ?_, flat_trod n el ks hk _ _ _ h2⟩
      have := h4 j hj
      rwa [Go.Deep.add_add] at this
    let g : Nat → Value := fun j => (W.cell? (a.add j)).getD undef
    have hg : ∀ j, j < m * sz → W.cell? (a.add j) = some (g j) := fun j hj => by
      have hs0 : 0 < sz := Nat.pos_of_ne_zero fun h0 => by subst h0; simp at hj
      have hq : j / sz < m := Nat.div_lt_of_lt_mul (by rwa [Nat.mul_comm] at hj)
      obtain ⟨cs', h1, h2, _⟩ := hcell (j / sz) hq
      have h3 := h2 (j % sz) (Nat.mod_lt _ hs0)
      rw [show j / sz * sz + j % sz = j by rw [Nat.mul_comm]; exact Nat.div_add_mod j sz, List.getElem?_eq_getElem (by rw [h1]; exact Nat.mod_lt _ hs0)] at h3
      show _ = some ((W.cell? (a.add j)).getD undef)
      rw [h3]; rfl
    refine ⟨(List.range (m * sz)).map g, by simp, IsVw.base hl hm (by simp), .inr ⟨a, rfl, fun j u hu => ?_⟩, .inr ⟨_, _, hx.1, by simp, by simp⟩, fun i him => ?_⟩
    · rw [List.getElem?_map] at hu
      have hj : j < m * sz := by
        rcases Nat.lt_or_ge j (m * sz) with h | h
        · exact h
        · rw [List.getElem?_eq_none (by simpa using h)] at hu; cases hu
      rw [List.getElem?_range hj] at hu
      rw [hg j hj]; exact hu
    · obtain ⟨cs', h1, h2, h3⟩ := hcell i him
      have hle : i * sz + sz ≤ m * sz := by
        have := Nat.mul_le_mul_right sz (show i + 1 ≤ m by omega)
        rwa [Nat.add_mul, Nat.one_mul] at this
      have : (((List.range (m * sz)).map g).drop (i * sz)).take sz = cs' := by
        refine List.ext_getElem? fun j => ?_
        rw [List.getElem?_take]
        split
        · rename_i hj
          rw [List.getElem?_drop, List.getElem?_map, List.getElem?_range (by omega)]
          have h4 := h2 j hj
          rw [hg _ (by omega)] at h4
          exact h4
        · rw [List.getElem?_eq_none (by omega)]
      rw [this]; exact h3
end
end Go.Fk
