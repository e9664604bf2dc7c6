/-
  The pool of bytes.
-/
import Derived.Test.YtaapnfoimcccjaaBlkK
namespace Go.Fk
open Go.RowKit
theorem doneQ_cc {P : Program} {fn : Func} {R : Ending → World → Prop} {e : Env} {w w0 : World} {M : Nat → Prop} {L : List Ch} {p q : Tmp} {ty uy : TypeId} {a b : Addr} {v u : Value} [h : Cell1 P ty] [k : Cell1 P uy] (hr : fn.results = #[.cell p ty, .cell q uy]) (hp : e p = .pointer (some a)) (hq : e q = .pointer (some b)) (hS : St w0 M w L) (hl : Look L a v) (hm : Look L b u)
    (hR : R (.returned (.tuple #[v, u])) w) : doneQ P fn R .ret e w :=
  ⟨.tuple #[v, u], fun tmps ht => by
    obtain ⟨d, hu, hd⟩ := h.hu
    obtain ⟨d', hu', hd'⟩ := k.hu
    have hagg : (isAgg ty).run P w = .ok false w := by
      unfold isAgg
      rw [Sem.run_bind, run_underlying hu w]
      cases d <;> simp_all
    have hagg' : (isAgg uy).run P w = .ok false w := by
      unfold isAgg
      rw [Sem.run_bind, run_underlying hu' w]
      cases d' <;> simp_all
    have hp' : tmps[p]?.getD undef = .pointer (some a) := by have := ht p; rw [hp] at this; simpa using this
    have hq' : tmps[q]?.getD undef = .pointer (some b) := by have := ht q; rw [hq] at this; simpa using this
    simp [results, hr, hp', hq', asAddr, loadVar, hagg, hagg', hl.cell hS, hm.cell hS], hR⟩
/-- What was made beside, put to what was known. -/
theorem St.join {w0 w wb w' : World} {M : Nat → Prop} {L L2 : List Ch} (hS : St w0 M w L) (hb : Below w.heap.size w w') (hwb : w.heap.size ≤ wb.heap.size) (h2 : St wb (feet []) w' L2) (hro : ∀ c ∈ L2, c.isRo = false) : St w0 M w' (L2 ++ L) := by
  have h := hS.below hb
  have hnew : ∀ c ∈ L2, ∀ g, c.foot = some g → wb.heap.size ≤ g := fun c hc g hg => by
    have h3 := (h2.hold c hc).2
    have h4 := hro c hc
    have no : ¬ feet [] g := fun ⟨_, h, _⟩ => by cases h
    cases c with
    | ro A xs => cases h4
    | blk g' t cs => exact (h3 g hg).resolve_right no
    | own A n c el sz xs => exact (h3 g hg).resolve_right no
    | app A n c el sz xs => exact (h3 g hg).resolve_right no
    | obj g' o => exact (h3 g hg).resolve_right no
  refine ⟨h.chg, fun c hc => ?_, List.pairwise_append.2 ⟨h2.apart, h.apart, fun a ha b hbb g hg hg' => ?_⟩⟩
  · rcases List.mem_append.1 hc with hc | hc
    · refine ⟨(h2.hold c hc).1, ?_⟩
      have h4 := hro c hc
      have h5 := hnew c hc
      have h6 := hS.chg.size
      cases c with
      | ro A xs => cases h4
      | blk g' t cs => exact fun k hk => .inl (Nat.le_trans (Nat.le_trans h6 hwb) (h5 k hk))
      | own A n c el sz xs => exact fun k hk => .inl (Nat.le_trans (Nat.le_trans h6 hwb) (h5 k hk))
      | app A n c el sz xs => exact fun k hk => .inl (Nat.le_trans (Nat.le_trans h6 hwb) (h5 k hk))
      | obj g' o => exact fun k hk => .inl (Nat.le_trans (Nat.le_trans h6 hwb) (h5 k hk))
    · exact h.hold c hc
  · have := hnew a ha g hg
    have := St.feet_lt hS b hbb g hg'
    omega
end Go.Fk
namespace Go.Proofs.Ytaapnfoimcccjaa
open Go.Fk Go.RowKit
attribute [local irreducible] Wp WpL Det thenQ blockQ WpG thenD blockG
theorem PSt.join {w0 w wb w' : World} {M : Nat → Prop} {L : List Ch} {g nd nb : Nat} {X : List (List Bk)} (hS : St w0 M w L) (hb : Below w.heap.size w w') (hwb : w.heap.size ≤ wb.heap.size) (hP : PSt wb (feet []) w' g nd nb X []) : PSt w0 M w' g nd nb X L := by
  obtain ⟨D, cd, ps, h1, h2, h3⟩ := hP
  refine ⟨D, cd, ps, h1, h2, ?_⟩
  have := hS.join hb hwb h3 fun c hc => by
    rcases List.mem_cons.1 hc with rfl | hc
    · rfl
    rcases List.mem_cons.1 hc with rfl | hc
    · rfl
    rw [List.append_nil] at hc
    obtain ⟨p, _, rfl⟩ := List.mem_map.1 hc
    rfl
  simpa using this
/-- A new pool, made beside what was known at w. -/
def NewT (w : World) (nd nb : Nat) : Fk.Spec := fun x w2 => ∃ g wb, x = .tuple #[.pointer (some ⟨g, 0, none⟩), .int .i64 0] ∧ w.heap.size ≤ wb.heap.size ∧ PSt wb (feet []) w2 g nd nb (List.replicate nd (newBlocks nb)) []
def NewG (w : World) (nd nb : Nat) : Fk.Spec := fun x w2 => ∃ g wb, x = .pointer (some ⟨g, 0, none⟩) ∧ w.heap.size ≤ wb.heap.size ∧ PSt wb (feet []) w2 g nd nb (List.replicate nd (newBlocks nb)) []
theorem NewT.stays {w : World} {nd nb : Nat} (v : Value) (w1 w2 : World) : NewT w nd nb v w1 → Below w1.heap.size w1 w2 → NewT w nd nb v w2 := fun ⟨g, wb, h1, h2, h3⟩ hb => ⟨g, wb, h1, h2, h3.below hb⟩
theorem NewG.stays {w : World} {nd nb : Nat} (v : Value) (w1 w2 : World) : NewG w nd nb v w1 → Below w1.heap.size w1 w2 → NewG w nd nb v w2 := fun ⟨g, wb, h1, h2, h3⟩ hb => ⟨g, wb, h1, h2, h3.below hb⟩
instance cellErrno : Cell1 Try.prog 25 := ⟨_, Try.underlying25, rfl⟩
instance sizeErrno : SizeT Try.prog 25 1 := ⟨by kernel_rfl⟩
instance elemErrno : Elem Try.prog 25 1 8 (.int .i64 0) := ⟨by kernel_rfl, rfl, by decide⟩
instance elemPool : Elem Try.prog 24 1 8 (.pointer none) := ⟨by kernel_rfl, rfl, by decide⟩
/-- The i-th block of a pool's bytes. -/
def bkAt (y : List UInt8) (i : Nat) : Bk := ⟨(y.getD (2 + 5 * i) 0).toNat, Crc.loN ((y.drop (2 + 5 * i + 1)).take 4)⟩
def dieAt (y : List UInt8) (nb d : Nat) : List Bk := (List.range nb).map fun j => bkAt y (d * nb + j)
def poolAt (y : List UInt8) (nd nb : Nat) : List (List Bk) := (List.range nd).map (dieAt y nb)
theorem getD_setB {l : List Bk} {x : Nat} {b : Bk} (h : x < l.length) : (l.set x b).getD x ⟨0, 0⟩ = b := by rw [List.getD_eq_getElem?_getD, List.getElem?_set_self h]; rfl
theorem dieAt_fit (y : List UInt8) (nb d : Nat) : Fit (dieAt y nb d) := fun b hb => by
  obtain ⟨j, _, rfl⟩ := List.mem_map.1 hb
  refine ⟨Nat.lt_of_lt_of_le (Crc.loN_lt _) (Nat.pow_le_pow_right (by decide) (show 8 * ((y.drop (2 + 5 * (d * nb + j) + 1)).take 4).length ≤ 32 by rw [List.length_take]; omega)), ?_⟩
  have := (y.getD (2 + 5 * (d * nb + j)) 0).toNat_lt
  exact this
theorem rowsC_set {nb : Nat} {ps : Dies} {k : Nat} {Ak : Option Addr} {l' : List Bk} (hk : k < ps.length) (L : List Ch) : List.Perm (rowsC nb (ps.set k (Ak, l')) ++ L) (.own Ak nb nb 60 2 (kv l') :: restC nb ps k L) := by
  rw [List.set_eq_take_append_cons_drop, if_pos hk, rowsC_mid, List.append_assoc, List.cons_append]
  exact List.perm_middle
theorem rowsV_set {nb : Nat} {ps : Dies} {k : Nat} {Ak : Option Addr} {l' : List Bk} (hk : k < ps.length) (hA : ps[k].1 = Ak) : rowsV nb (ps.set k (Ak, l')) = rowsV nb ps := by
  have hsp : ps = ps.take k ++ ps[k] :: ps.drop (k + 1) := by rw [← List.drop_eq_getElem_cons hk, List.take_append_drop]
  rw [List.set_eq_take_append_cons_drop, if_pos hk, rowsV_mid]
  refine Eq.trans ?_ ((congrArg (rowsV nb) hsp).trans (rowsV_mid _ _ _ _)).symm
  rw [hA]
theorem restC_cons (nb : Nat) (ps : Dies) (k : Nat) (c : Ch) (L : List Ch) : List.Perm (restC nb ps k (c :: L)) (c :: restC nb ps k L) :=
  (List.Perm.append_left _ List.perm_middle).trans List.perm_middle
structure PoolBytes (y : List UInt8) (nd nb : Nat) : Prop where
  two : 2 ≤ y.length
  d : nd = (y.getD 0 0).toNat
  b : nb = (y.getD 1 0).toNat
  hd : 1 ≤ nd ∧ nd ≤ 8
  hb : 1 ≤ nb ∧ nb ≤ 64
  len : y.length = 2 + 5 * (nd * nb)
  sts : ∀ i, i < nd * nb → 1 ≤ (bkAt y i).st ∧ (bkAt y i).st ≤ 4
section
variable {w w0 : World} {M : Nat → Prop} {L : List Ch}
set_option maxHeartbeats 4000000 in
theorem parseP {V : Option Addr} {n c : Nat} {b : List UInt8} (hS : St w0 M w L) (hr : RdsV L V n (bv b)) (hnc : n ≤ c) (hlen : n ≤ 140737488355328) :
    Calls Try.prog 23 #[.slice V n c] w fun x w' =>
      (¬ Crc.good b ∧ x = .returned (.tuple #[.pointer none, .int .i64 30]) ∧ St w0 M w' L) ∨
      ((Crc.good b ∧ ∀ nd nb, ¬ PoolBytes (b.take (n - 4)) nd nb) ∧ x = .returned (.tuple #[.pointer none, .int .i64 81]) ∧ St w0 M w' L) ∨
      (Crc.good b ∧ ∃ g nd nb, PoolBytes (b.take (n - 4)) nd nb ∧ x = .returned (.tuple #[.pointer (some ⟨g, 0, none⟩), .int .i64 0]) ∧ PSt w0 M w' g nd nb (poolAt (b.take (n - 4)) nd nb) L) := by
  (refine calls_ofG (P := Try.prog) _ Try.func23 rfl Try.ntmps23 (Nat.le_of_ble_eq_true rfl) ?_; dsimp only [argE, Nat.reduceAdd])
  (refine Reach.walkG ?_; (repeat (first | ((with_reducible refine AllSt.mk ?_); (try clear hS); intro w hS) | ((with_reducible refine AllVw.mk ?_); intro V hV))))
  ((with_reducible apply WpL.bx); (· assumption); (· exact rfl); (· exact Env.found); (· exact rfl); clear hS)
  intro gb w hS
  (refine Reach.walkG ?_; (repeat (first | ((with_reducible refine AllSt.mk ?_); (try clear hS); intro w hS) | ((with_reducible refine AllVw.mk ?_); intro V hV))))
  ((with_reducible apply WpL.al); (· assumption); (· exact rfl); (· exact rfl); clear hS)
  intro gp w hS
  (refine Reach.walkG ?_; (repeat (first | ((with_reducible refine AllSt.mk ?_); (try clear hS); intro w hS) | ((with_reducible refine AllVw.mk ?_); intro V hV))))
  ((with_reducible apply WpL.al); (· assumption); (· exact rfl); (· exact rfl); clear hS)
  intro ge w hS
  (refine Reach.walkG ?_; (repeat (first | ((with_reducible refine AllSt.mk ?_); (try clear hS); intro w hS) | ((with_reducible refine AllVw.mk ?_); intro V hV))))
  (with_reducible apply WpL.call); (· exact rfl); (· exact Try.call36); (· exact Vals.found)
  refine (openS hS (((hr.there _).there _).there _) hnc hlen).mono ?_
  have hbl : b.length = n := by have := (hr w0 M w (hS.tail.tail.tail)).2; simpa using this
  clear hS
  rintro x w (⟨hg, A, cA, rfl, hA, hS⟩ | ⟨hg, rfl, hS⟩)
  rotate_left
  · refine ⟨_, rfl, ?_⟩
    (refine Reach.walkG ?_; (repeat (first | ((with_reducible refine AllSt.mk ?_); (try clear hS); intro w hS) | ((with_reducible refine AllVw.mk ?_); intro V hV))))
    refine leaveG_nil ?_
    refine doneQ_cc Try.results23 slotFound slotFound hS Look.found Look.found ?_
    exact .inl ⟨hg, rfl, hS.tail.tail.tail⟩
  refine ⟨_, rfl, ?_⟩
  have hyl : (b.take (n - 4)).length = n - 4 := by rw [List.length_take]; omega
  generalize hy : b.take (n - 4) = y at *
  generalize n - 4 = N at *
  by_cases h2 : N < 2
  · (refine Reach.walkG ?_; (repeat (first | ((with_reducible refine AllSt.mk ?_); (try clear hS); intro w hS) | ((with_reducible refine AllVw.mk ?_); intro V hV))))
    refine leaveG_nil ?_
    refine doneQ_cc Try.results23 slotFound slotFound hS Look.found Look.found ?_
    exact .inr (.inl ⟨⟨hg, fun nd nb h => by have := h.two; omega⟩, rfl, hS.tail.tail.tail.tail⟩)
  (refine Reach.walkG ?_; (repeat (first | ((with_reducible refine AllSt.mk ?_); (try clear hS); intro w hS) | ((with_reducible refine AllVw.mk ?_); intro V hV))))
  have hnd := (y.getD 0 0).toNat_lt
  have hnb := (y.getD 1 0).toNat_lt
  generalize hndd : (y.getD 0 0).toNat = nd at *
  generalize hnbb : (y.getD 1 0).toNat = nb at *
  by_cases hok : 1 ≤ nd ∧ nd ≤ 8 ∧ 1 ≤ nb ∧ nb ≤ 64
  rotate_left
  · (refine WpG.drawD 14 (by kernel_rfl) (by kernel_rfl) rfl ?_; dsimp only [List.take, List.drop])
    (refine Reach.rwalk ?_; (repeat (first | ((with_reducible refine AllSt.mk ?_); (try clear hS); intro w hS) | ((with_reducible refine AllVw.mk ?_); intro V hV))))
    rw [hndd, hnbb]
    refine RgD.known0 (c := .tuple #[.pointer none, .int .i64 1]) rfl rfl rfl rfl (fun w5 hb5 => ?_) ?_
    · (with_reducible apply WpL.call); (· exact rfl); (· exact Try.call10); (· exact Vals.found)
      refine (newP (St.start w5)).mono ?_
      rintro x w6 (⟨_, rfl, h6⟩ | ⟨h6, _⟩)
      · exact ⟨_, rfl, WpL.nil ⟨⟨hb5.on h6.toBelow, h6.toBelow⟩, Env.set_same _ _ _⟩⟩
      · exact absurd h6 (fun h => hok (by omega))
    (refine Reach.rwalk ?_; (repeat (first | ((with_reducible refine AllSt.mk ?_); (try clear hS); intro w hS) | ((with_reducible refine AllVw.mk ?_); intro V hV))))
    (refine RgD.fin0 fun w hb => ?_; replace hS := hS.below hb; clear hb)
    (refine Reach.walkG ?_; (repeat (first | ((with_reducible refine AllSt.mk ?_); (try clear hS); intro w hS) | ((with_reducible refine AllVw.mk ?_); intro V hV))))
    (refine WpG.drawD 18 (by kernel_rfl) (by kernel_rfl) rfl ?_; dsimp only [List.take, List.drop])
    (refine Reach.rwalk ?_; (repeat (first | ((with_reducible refine AllSt.mk ?_); (try clear hS); intro w hS) | ((with_reducible refine AllVw.mk ?_); intro V hV))))
    (refine RgD.fin0 fun w hb => ?_; replace hS := hS.below hb; clear hb)
    (refine Reach.walkG ?_; (repeat (first | ((with_reducible refine AllSt.mk ?_); (try clear hS); intro w hS) | ((with_reducible refine AllVw.mk ?_); intro V hV))))
    refine leaveG_nil ?_
    refine doneQ_cc Try.results23 slotFound slotFound hS Look.found Look.found ?_
    exact .inr (.inl ⟨⟨hg, fun nd nb h => hok (by have := h.hd; have := h.hb; have := h.d; have := h.b; omega)⟩, rfl, hS.tail.tail.tail.tail⟩)
  have hnd8 := hok.2.1
  have hnb64 := hok.2.2.2
  have hmul : nd * nb ≤ 8 * 64 := Nat.mul_le_mul hnd8 hnb64
  (refine WpG.drawD 14 (by kernel_rfl) (by kernel_rfl) rfl ?_; dsimp only [List.take, List.drop])
  (refine Reach.rwalk ?_; (repeat (first | ((with_reducible refine AllSt.mk ?_); (try clear hS); intro w hS) | ((with_reducible refine AllVw.mk ?_); intro V hV))))
  rw [hndd, hnbb]
  refine RgD.spec0 (NewT w nd nb) rfl rfl rfl rfl NewT.stays (fun w5 hb5 => ?_) ?_
  · (with_reducible apply WpL.call); (· exact rfl); (· exact Try.call10); (· exact Vals.found)
    refine (newP (St.start w5)).mono ?_
    rintro x w6 (⟨h6, _⟩ | ⟨_, g, rfl, h6⟩)
    · exact absurd h6 (fun h => h (by omega))
    · rw [Int.toNat_natCast, Int.toNat_natCast] at h6
      exact ⟨_, rfl, WpL.nil ⟨⟨hb5.on h6.rest.toBelow, h6.rest.toBelow⟩, g, w5, Env.set_same _ _ _, hb5.size, h6⟩⟩
  refine RgD.spec1 (NewT w nd nb) rfl rfl rfl rfl NewT.stays (fun w5 hb5 x hx => ?_) ?_
  · (refine Reach.walkL ?_; (repeat (first | ((with_reducible refine AllSt.mk ?_); (try clear hS); intro w hS) | ((with_reducible refine AllVw.mk ?_); intro V hV))))
    exact ⟨⟨hb5, Below.refl _ _⟩, by rw [Env.set_same]; exact hx⟩
  refine RgD.spec1 (NewG w nd nb) rfl rfl rfl rfl NewG.stays (fun w5 hb5 x hx => ?_) ?_
  · obtain ⟨g, wb, rfl, h1, h2⟩ := hx
    (refine Reach.walkL ?_; (repeat (first | ((with_reducible refine AllSt.mk ?_); (try clear hS); intro w hS) | ((with_reducible refine AllVw.mk ?_); intro V hV))))
    exact ⟨⟨hb5, Below.refl _ _⟩, g, wb, Env.set_same _ _ _, h1, h2⟩
  refine RgD.known1 (c := .int .i64 0) rfl rfl rfl rfl (fun w5 hb5 x hx => ?_) ?_
  · obtain ⟨g, wb, rfl, h1, h2⟩ := hx
    (refine Reach.walkL ?_; (repeat (first | ((with_reducible refine AllSt.mk ?_); (try clear hS); intro w hS) | ((with_reducible refine AllVw.mk ?_); intro V hV))))
    exact ⟨⟨hb5, Below.refl _ _⟩, Env.set_same _ _ _⟩
  refine RgD.spec1 (NewG w nd nb) rfl rfl rfl rfl NewG.stays (fun w5 hb5 x hx => ?_) ?_
  · (refine Reach.walkL ?_; (repeat (first | ((with_reducible refine AllSt.mk ?_); (try clear hS); intro w hS) | ((with_reducible refine AllVw.mk ?_); intro V hV))))
    exact ⟨⟨hb5, Below.refl _ _⟩, by rw [Env.set_same]; exact hx⟩
  (refine Reach.rwalk ?_; (repeat (first | ((with_reducible refine AllSt.mk ?_); (try clear hS); intro w hS) | ((with_reducible refine AllVw.mk ?_); intro V hV))))
  refine RgD.fin fun w1 hb1 => ?_
  rintro x1 _ x2 _ x3 _ _ ⟨g, wb, rfl, h1, h2⟩
  have hP := PSt.join hS hb1 h1 h2
  replace hS := hS.below hb1
  clear h1 h2 hb1
  show WpL _ _ _ _ _ _ _
  (refine Reach.walkG ?_; (repeat (first | ((with_reducible refine AllSt.mk ?_); (try clear hS); intro w hS) | ((with_reducible refine AllVw.mk ?_); intro V hV))))
  clear hS
  (refine WpG.drawD 18 (by kernel_rfl) (by kernel_rfl) rfl ?_; dsimp only [List.take, List.drop])
  have hS := hP.rest
  (refine Reach.rwalk ?_; (repeat (first | ((with_reducible refine AllSt.mk ?_); (try clear hS); intro w hS) | ((with_reducible refine AllVw.mk ?_); intro V hV))))
  rw [hndd, hnbb]
  have hw : IntKind.i64.wrap (2 + IntKind.i64.wrap (((5 * nd : Nat) : Int) * (nb : Int))) = ((2 + 5 * (nd * nb) : Nat) : Int) := by
    have e1 : IntKind.i64.wrap ((5 * (nd * nb) : Nat) : Int) = ((5 * (nd * nb) : Nat) : Int) := wrap_i64 (by omega) (by omega)
    rw [← Int.natCast_mul, Nat.mul_assoc, e1, wrap_i64 (by omega) (by omega)]
    omega
  rw [hw]
  clear hS
  refine RgD.fin0 fun w hb => ?_
  replace hP := hP.below hb
  clear hb
  by_cases hN : N = 2 + 5 * (nd * nb)
  rotate_left
  · have hS := hP.rest
    (refine Reach.walkG ?_; (repeat (first | ((with_reducible refine AllSt.mk ?_); (try clear hS); intro w hS) | ((with_reducible refine AllVw.mk ?_); intro V hV))))
    refine leaveG_nil ?_
    refine doneQ_cc Try.results23 slotFound slotFound hS Look.found Look.found ?_
    exact .inr (.inl ⟨⟨hg, fun nd' nb' h => hN (by have h1 := h.len; have h2 := h.d; have h3 := h.b; rw [hndd] at h2; rw [hnbb] at h3; subst h2 h3; omega)⟩, rfl, hS.tail.tail.tail.tail⟩)
  obtain ⟨D, cd, ps, hpo, hps, hS⟩ := hP
  have hD := hpo.vw
  replace hS : St w0 M w (.blk gb 49 [.slice A N cA] :: .own A N cA 5 1 (bv y) :: .blk ge 25 [.int .i64 0] :: .blk gp 24 [.pointer none] :: poolL g D nd cd nb ps L) := by
    refine hS.perm ?_
    refine (List.perm_append_comm_assoc (Ch.blk g _ _ :: Ch.own D _ _ _ _ _ :: rowsC nb ps) [Ch.own A _ _ _ _ _, Ch.blk ge _ _, Ch.blk gp _ _, Ch.blk gb _ _] L).trans ?_
    exact (List.perm_append_comm_assoc [Ch.own A _ _ _ _ _, Ch.blk ge _ _, Ch.blk gp _ _] [Ch.blk gb _ _] _)
  (refine Reach.walkG ?_; (repeat (first | ((with_reducible refine AllSt.mk ?_); (try clear hS); intro w hS) | ((with_reducible refine AllVw.mk ?_); intro V hV))))
  have hps0 : ps.map (·.2) = (List.range 0).map (dieAt y nb) ++ List.replicate (nd - 0) (newBlocks nb) := by rw [hps]; rfl
  clear hps hw
  refine WpG.loopCnt 57 nd (fun k ds e w' => k ≤ nd ∧ ∃ (Ds : List Nat) (V : Option Addr) (ps : Dies), ds = Ds.map markD ∧ IsVw V (N - (2 + 5 * (k * nb))) (cA - (2 + 5 * (k * nb))) A (2 + 5 * (k * nb)) ∧ PoolOk D nd cd nb ps ∧
      ps.map (·.2) = (List.range k).map (dieAt y nb) ++ List.replicate (nd - k) (newBlocks nb) ∧ (∀ i, i < k * nb → 1 ≤ (bkAt y i).st ∧ (bkAt y i).st ≤ 4) ∧
      St w0 M w' (.blk gb 49 [.slice V (N - (2 + 5 * (k * nb))) (cA - (2 + 5 * (k * nb)))] :: .own A N cA 5 1 (bv y) :: .blk ge 25 [.int .i64 0] :: .blk gp 24 [.pointer none] :: poolL g D nd cd nb ps (Ds.map (fun D => .obj D (.deferred (some []))) ++ L)) ∧
      e.Has [(57, .int .i64 (k : Nat)), (56, .int .i64 (nd : Nat)), (5, .pointer (some ⟨g, 0, none⟩)), (1, .pointer (some ⟨gb, 0, none⟩)), (2, .pointer (some ⟨gp, 0, none⟩)), (3, .pointer (some ⟨ge, 0, none⟩))]) (fun k ds e w ⟨h1, _, _, _, _, _, _, _, _, _, h2⟩ => ⟨h1, h2.1⟩) (k0 := 0) ?_ ?_
  · have h0 : 2 + 5 * (0 * nb) = 2 := by omega
    exact ⟨Nat.zero_le _, [], V, ps, rfl, by rw [h0]; exact hV, hpo, hps0, fun i hi => absurd hi (by omega), by rw [h0]; exact hS, rfl, rfl, rfl, rfl, rfl, rfl, trivial⟩
  clear hS hps0 hpo
  rintro k ds e w ⟨hk, Ds, V, ps, rfl, hV, hpo, hps, hsts, hS, he⟩
  obtain ⟨e0, rfl⟩ := he.eq
  clear he
  dsimp only [Env.sets]
  by_cases hlt : k < nd
  rotate_left
  · obtain rfl : k = nd := by omega
    (refine Reach.walkG ?_; (repeat (first | ((with_reducible refine AllSt.mk ?_); (try clear hS); intro w hS) | ((with_reducible refine AllVw.mk ?_); intro V hV))))
    replace hS : St w0 M w (Ds.map (fun D => .obj D (.deferred (some []))) ++ (.blk ge 25 [.int .i64 0] :: .blk gp 24 [.pointer (some ⟨g, 0, none⟩)] :: poolL g D k cd nb ps L)) := by
      generalize Ds.map (fun D => Ch.obj D (.deferred (some []))) = Dm at *
      refine (hS.sub ((List.sublist_cons_self _ _).trans (List.sublist_cons_self _ _))).perm ?_
      exact List.perm_append_comm_assoc (.blk ge _ _ :: .blk gp _ _ :: .blk g _ _ :: .own D _ _ _ _ _ :: rowsC nb ps) Dm L
    refine leaveG_marks (fun w hS => ?_) Ds _ hS
    refine doneQ_cc Try.results23 slotFound slotFound hS Look.found Look.found ?_
    refine .inr (.inr ⟨hg, g, k, nb, ⟨by omega, hndd.symm, hnbb.symm, ⟨hok.1, hok.2.1⟩, hok.2.2, by omega, hsts⟩, rfl, D, cd, ps, hpo, ?_, hS.tail.tail⟩)
    rw [hps, Nat.sub_self, List.replicate_zero, List.append_nil]
    rfl
  have hkl : k < ps.length := by have := hpo.len; omega
  have hrowk : (rowsV nb ps)[k]? = some (.slice ps[k].1 nb nb) := by rw [rowsV, List.getElem?_map, List.getElem?_eq_getElem hkl]; rfl
  obtain ⟨hAk, hlk, hfk⟩ := hpo.rows ps[k] (List.getElem_mem hkl)
  have hlk2 : ps[k].2 = newBlocks nb := by
    have h1 : (ps.map (·.2))[k]? = some ps[k].2 := by rw [List.getElem?_map, List.getElem?_eq_getElem hkl]; rfl
    rw [hps, List.getElem?_append_right (by simp)] at h1
    simp only [List.length_map, List.length_range, Nat.sub_self] at h1
    rw [List.getElem?_replicate, if_pos (by omega)] at h1
    injection h1 with h1
    exact h1.symm
  have hsp : ps = ps.take k ++ ps[k] :: ps.drop (k + 1) := by rw [← List.drop_eq_getElem_cons hkl, List.take_append_drop]
  have hperm := rowsC_die (nb := nb) hkl (Ds.map (fun D => Ch.obj D (.deferred (some []))) ++ L)
  rw [hlk2] at hperm
  generalize hDm : Ds.map (fun D => Ch.obj D (.deferred (some []))) = Dm at *
  generalize hRC : restC nb ps k (Dm ++ L) = RC at hperm
  generalize hAkk : ps[k].1 = Ak at *
  have hkn : (k + 1) * nb = k * nb + nb := by rw [Nat.add_mul, Nat.one_mul]
  have hkn2 : (k + 1) * nb ≤ nd * nb := Nat.mul_le_mul_right _ (by omega)
  rw [hkn] at hkn2
  generalize hof : k * nb = kn at *
  (refine Reach.walkG ?_; (repeat (first | ((with_reducible refine AllSt.mk ?_); (try clear hS); intro w hS) | ((with_reducible refine AllVw.mk ?_); intro V hV))))
  (with_reducible apply WpL.call); (· exact rfl); (· exact Try.call30); (· exact Vals.found)
  refine (of_any hS).mono ?_
  clear hS
  rintro x w ⟨g1, g2, rfl, hS⟩
  refine ⟨_, rfl, ?_⟩
  (refine Reach.walkG ?_; (repeat (first | ((with_reducible refine AllSt.mk ?_); (try clear hS); intro w hS) | ((with_reducible refine AllVw.mk ?_); intro V hV))))
  refine WpG.rangeFunc (ps := [63, 64]) (w0 := w0) (M := M) (Γ0 := RC) (Lc := [.blk gb 49 [.slice V (N - (2 + 5 * kn)) (cA - (2 + 5 * kn))], .own A N cA 5 1 (bv y), .blk ge 25 [.int .i64 0], .blk gp 24 [.pointer none], .own Ak nb nb 60 2 (kv (newBlocks nb))])
    (of_iter_in (g := g) (g1 := g1) (g2 := g2) (rows := rowsV nb ps) hD hlt hrowk hAk (by omega) (by omega)) rfl Try.call42 (fun _ => rfl) (by decide)
    (fun pre Lc => (∀ i, i < kn + pre.length → 1 ≤ (bkAt y i).st ∧ (bkAt y i).st ≤ 4) ∧ ∃ V, IsVw V (N - (2 + 5 * (kn + pre.length))) (cA - (2 + 5 * (kn + pre.length))) A (2 + 5 * (kn + pre.length)) ∧
      Lc = [.blk gb 49 [.slice V (N - (2 + 5 * (kn + pre.length))) (cA - (2 + 5 * (kn + pre.length)))], .own A N cA 5 1 (bv y), .blk ge 25 [.int .i64 0], .blk gp 24 [.pointer none],
        .own Ak nb nb 60 2 (kv ((List.range pre.length).map (fun j => bkAt y (kn + j)) ++ List.replicate (nb - pre.length) (⟨1, 0⟩ : Bk)))])
    (fun c pre Lc => c = .ret ∧ (∃ i, i < nd * nb ∧ ¬ (1 ≤ (bkAt y i).st ∧ (bkAt y i).st ≤ 4)) ∧ ∃ v l', Lc = [.blk gb 49 [v], .own A N cA 5 1 (bv y), .blk ge 25 [.int .i64 81], .blk gp 24 [.pointer none], .own Ak nb nb 60 2 l'])
    ?hS ⟨fun i hi => hsts i (by simpa using hi), V, hV, rfl⟩ ?body ?done ?stop
  case hS =>
    have h2 : St w0 M w (.blk g1 _ _ :: .blk g2 _ _ :: .blk gb _ _ :: .own A _ _ _ _ _ :: .blk ge _ _ :: .blk gp _ _ :: .blk g _ _ :: .own D _ _ _ _ _ :: .own Ak _ _ _ _ _ :: RC) := hS.perm (List.Perm.append_left [_, _, _, _, _, _, _, _] hperm)
    have h3 := h2.take (pre := [.blk gb _ _, .own A _ _ _ _ _, .blk ge _ _, .blk gp _ _, .own Ak _ _ _ _ _, .blk g1 _ _, .blk g2 _ _, .blk g _ _, .own D _ _ _ _ _]) Take.found
    exact h3
  case body =>
    clear hS
    rintro r pre x rest _ Γ' w o hx ⟨hsts, V0, hV0, rfl⟩ hS
    obtain ⟨hpl, hxn⟩ := range_mid hx
    simp only [List.cons_append, List.nil_append] at hS
    dsimp only [Env.params]
    (refine Reach.walkG ?_; (repeat (first | ((with_reducible refine AllSt.mk ?_); (try clear hS); intro w hS) | ((with_reducible refine AllVw.mk ?_); intro V hV))))
    refine ⟨rfl, _, hS, ?_⟩
    clear hS
    intro w o' hS
    have hpx : (pre ++ [x]).length = x + 1 := by simp [hpl]
    rw [hpl] at hV0 hS hsts
    have hl0 : ((List.range x).map (fun j => bkAt y (kn + j)) ++ List.replicate (nb - x) (⟨1, 0⟩ : Bk)).length = nb := by simp; omega
    have hl1 : ((List.range x).map (fun j => bkAt y (kn + j)) ++ List.replicate (nb - x) (⟨1, 0⟩ : Bk)).set x (bkAt y (kn + x)) = (List.range (x + 1)).map (fun j => bkAt y (kn + j)) ++ List.replicate (nb - (x + 1)) (⟨1, 0⟩ : Bk) := by
      obtain ⟨q, hq⟩ : ∃ q, nb - x = q + 1 := ⟨nb - x - 1, by omega⟩
      rw [hq, show nb - (x + 1) = q by omega, List.replicate_succ, List.set_append_right _ _ (by simp), List.range_succ, List.map_append]
      simp
    generalize (List.range x).map (fun j => bkAt y (kn + j)) ++ List.replicate (nb - x) (⟨1, 0⟩ : Bk) = l0 at *
    have hoff : 2 + 5 * (kn + x) + 5 ≤ N := by omega
    obtain ⟨sv, hsv⟩ : ∃ sv, (y.getD (2 + 5 * (kn + x)) 0).toNat = sv := ⟨_, rfl⟩
    have hsv2 : sv < 256 := by have := (y.getD (2 + 5 * (kn + x)) 0).toNat_lt; omega
    have hxl : x < l0.length := by omega
    have hlk0 : Look (.obj r o' :: .blk gb 49 [.slice V0 (N - (2 + 5 * (kn + x))) (cA - (2 + 5 * (kn + x)))] :: .own A N cA 5 1 (bv y) :: .blk ge 25 [.int .i64 0] :: .blk gp 24 [.pointer none] :: .own Ak nb nb 60 2 (kv l0) :: Γ') ((adr A).add (2 + 5 * (kn + x) + 0)) (.int .u8 (sv : Int)) := by
      rw [← hsv]
      exact .there (.there (Look.own (bvg (by omega))))
    have hup : Upd (.obj r o' :: .blk gb 49 [.slice V0 (N - (2 + 5 * (kn + x))) (cA - (2 + 5 * (kn + x)))] :: .own A N cA 5 1 (bv y) :: .blk ge 25 [.int .i64 0] :: .blk gp 24 [.pointer none] :: .own Ak nb nb 60 2 (kv l0) :: Γ') ((adr Ak).add (0 + x * 2 + 0)) (.int .i64 (sv : Int))
        (.obj r o' :: .blk gb 49 [.slice V0 (N - (2 + 5 * (kn + x))) (cA - (2 + 5 * (kn + x)))] :: .own A N cA 5 1 (bv y) :: .blk ge 25 [.int .i64 0] :: .blk gp 24 [.pointer none] :: .own Ak nb nb 60 2 (kv (l0.set x ⟨sv, (l0.getD x ⟨0, 0⟩).er⟩)) :: Γ') :=
      .there (.there (.there (.there (.there (Upd.own (by rw [kv_length]; omega) (kv_set_st' sv hxl))))))
    have hlk1 : Look (.obj r o' :: .blk gb 49 [.slice V0 (N - (2 + 5 * (kn + x))) (cA - (2 + 5 * (kn + x)))] :: .own A N cA 5 1 (bv y) :: .blk ge 25 [.int .i64 0] :: .blk gp 24 [.pointer none] :: .own Ak nb nb 60 2 (kv (l0.set x ⟨sv, (l0.getD x ⟨0, 0⟩).er⟩)) :: Γ') ((adr Ak).add (0 + x * 2 + 0)) (.int .i64 (sv : Int)) := by
      have := kv_st' (l := l0.set x ⟨sv, (l0.getD x ⟨0, 0⟩).er⟩) (i := x) (by simpa using hxl)
      rw [getD_setB hxl] at this
      exact .there (.there (.there (.there (.there (Look.own this)))))
    have hbk : (bkAt y (kn + x)).st = sv := hsv
    by_cases h1 : 1 ≤ sv
    rotate_left
    · (refine Reach.walkG ?_; (repeat (first | ((with_reducible refine AllSt.mk ?_); (try clear hS); intro w hS) | ((with_reducible refine AllVw.mk ?_); intro V hV))))
      exact roundD.ret (Lc' := [_, _, _, _, _]) ⟨rfl, ⟨kn + x, by omega, fun h => h1 (by omega)⟩, _, _, rfl⟩ hS
    by_cases h4 : sv ≤ 4
    rotate_left
    · (refine Reach.walkG ?_; (repeat (first | ((with_reducible refine AllSt.mk ?_); (try clear hS); intro w hS) | ((with_reducible refine AllVw.mk ?_); intro V hV))))
      exact roundD.ret (Lc' := [_, _, _, _, _]) ⟨rfl, ⟨kn + x, by omega, fun h => h4 (by omega)⟩, _, _, rfl⟩ hS
    (refine Reach.walkG ?_; (repeat (first | ((with_reducible refine AllSt.mk ?_); (try clear hS); intro w hS) | ((with_reducible refine AllVw.mk ?_); intro V hV))))
    (with_reducible apply WpL.call); (· exact rfl); (· exact Try.call37); (· exact Vals.found)
    refine (uint32S hS RdsV.found (by omega) (by omega)).mono ?_
    rintro v w1 ⟨rfl, rfl⟩
    refine ⟨_, rfl, ?_⟩
    have hern : Crc.loN ((((y.drop (2 + 5 * (kn + x) + 1)).take (N - (2 + 5 * (kn + x)) - 1))).take 4) = (bkAt y (kn + x)).er := by
      rw [List.take_take, Nat.min_eq_left (by omega)]; rfl
    rw [hern]
    have her : (bkAt y (kn + x)).er < 4294967296 := Nat.lt_of_lt_of_le (Crc.loN_lt _) (by rw [List.length_take, List.length_drop, Nat.min_eq_left (by omega)]; decide)
    have hup2 := kv_set_er' (l := l0.set x ⟨sv, (l0.getD x ⟨0, 0⟩).er⟩) (i := x) (bkAt y (kn + x)).er (by simpa using hxl)
    rw [getD_setB hxl, List.set_set, show (⟨sv, (bkAt y (kn + x)).er⟩ : Bk) = bkAt y (kn + x) from Bk.ext' hbk.symm rfl, hl1] at hup2
    have hup3 : Upd (.obj r o' :: .blk gb 49 [.slice V0 (N - (2 + 5 * (kn + x))) (cA - (2 + 5 * (kn + x)))] :: .own A N cA 5 1 (bv y) :: .blk ge 25 [.int .i64 0] :: .blk gp 24 [.pointer none] :: .own Ak nb nb 60 2 (kv (l0.set x ⟨sv, (l0.getD x ⟨0, 0⟩).er⟩)) :: Γ') ((adr Ak).add (0 + x * 2 + 1)) (.int .u32 ((bkAt y (kn + x)).er : Int))
        (.obj r o' :: .blk gb 49 [.slice V0 (N - (2 + 5 * (kn + x))) (cA - (2 + 5 * (kn + x)))] :: .own A N cA 5 1 (bv y) :: .blk ge 25 [.int .i64 0] :: .blk gp 24 [.pointer none] :: .own Ak nb nb 60 2 (kv ((List.range (x + 1)).map (fun j => bkAt y (kn + j)) ++ List.replicate (nb - (x + 1)) (⟨1, 0⟩ : Bk))) :: Γ') :=
      .there (.there (.there (.there (.there (Upd.own (by rw [kv_length, List.length_set]; omega) hup2)))))
    clear hup hup2 hlk0 hlk1 hl1
    (refine Reach.walkG ?_; (repeat (first | ((with_reducible refine AllSt.mk ?_); (try clear hS); intro w hS) | ((with_reducible refine AllVw.mk ?_); intro V hV))))
    have e5 : 2 + 5 * (kn + x) + 5 = 2 + 5 * (kn + (x + 1)) := by omega
    have e6 : N - (2 + 5 * (kn + x)) - 5 = N - (2 + 5 * (kn + (x + 1))) := by omega
    have e7 : cA - (2 + 5 * (kn + x)) - 5 = cA - (2 + 5 * (kn + (x + 1))) := by omega
    rw [e6, e7] at hS
    refine roundD.go (Lc' := [_, _, _, _, _]) ⟨fun i hi => ?_, _, ?_, by rw [hpx]⟩ hS
    · rw [hpx] at hi
      by_cases hix : i = kn + x
      · subst hix
        omega
      · exact hsts i (by omega)
    · rw [hpx, ← e5, Nat.sub_add_eq N (2 + 5 * (kn + x)) 5, Nat.sub_add_eq cA (2 + 5 * (kn + x)) 5]
      assumption
  case done =>
    clear hS
    rintro D' _ w ⟨hsts, V, hV, rfl⟩ hS
    rw [List.length_range] at hV hS hsts
    simp only [List.cons_append, List.nil_append] at hS
    (refine Reach.walkG ?_; (repeat (first | ((with_reducible refine AllSt.mk ?_); (try clear hS); intro w hS) | ((with_reducible refine AllVw.mk ?_); intro V hV))))
    rw [hkn]
    have hps' : (ps.set k (Ak, dieAt y nb k)).map (·.2) = (List.range (k + 1)).map (dieAt y nb) ++ List.replicate (nd - (k + 1)) (newBlocks nb) := by
      obtain ⟨q, hq⟩ : ∃ q, nd - k = q + 1 := ⟨nd - k - 1, by omega⟩
      rw [List.map_set, hps, hq, show nd - (k + 1) = q by omega, List.replicate_succ, List.set_append_right _ _ (by simp), List.range_succ, List.map_append]
      simp
    have hdie : (List.range nb).map (fun j => bkAt y (kn + j)) ++ List.replicate (nb - nb) (⟨1, 0⟩ : Bk) = dieAt y nb k := by
      rw [Nat.sub_self, List.replicate_zero, List.append_nil, dieAt, hof]
    rw [hdie] at hS
    (replace hS := (hS.take (pre := [.blk gb _ _, .own A _ _ _ _ _, .blk ge _ _, .blk gp _ _, .blk g _ _, .own D _ _ _ _ _, .own Ak _ _ _ _ _, .obj D' _]) Take.found); (try simp only [List.cons_append, List.nil_append] at hS))
    have h4 := hS.sub (.cons_cons _ (.cons_cons _ (.cons_cons _ (.cons_cons _ (.cons_cons _ (.cons_cons _ (.cons_cons _ (.cons_cons _ ((List.sublist_cons_self _ _).trans (List.sublist_cons_self _ _))))))))))
    refine ⟨hlt, by omega, D' :: Ds, V, ps.set k (Ak, dieAt y nb k), rfl, hV, ⟨by rw [List.length_set, hpo.len], hpo.vw, fun p hp => ?_⟩, hps', hsts, ?_, int_eq (by omega), rfl, rfl, rfl, rfl, rfl, trivial⟩
    · rcases List.mem_or_eq_of_mem_set hp with hp | rfl
      · exact hpo.rows p hp
      · exact ⟨hAk, by simp [dieAt], dieAt_fit y nb k⟩
    · rw [List.map_cons, hDm]
      show St w0 M w (.blk gb _ _ :: .own A _ _ _ _ _ :: .blk ge _ _ :: .blk gp _ _ :: .blk g _ _ :: .own D nd cd 57 1 (rowsV nb (ps.set k (Ak, dieAt y nb k))) :: (rowsC nb (ps.set k (Ak, dieAt y nb k)) ++ (.obj D' (.deferred (some [])) :: (Dm ++ L))))
      rw [rowsV_set hkl hAkk]
      refine h4.perm (List.Perm.append_left [_, _, _, _, _, _] ?_)
      rw [← hRC]
      exact ((rowsC_set hkl _).trans (List.Perm.cons _ (restC_cons nb ps k _ _))).symm
  case stop =>
    clear hS
    rintro D' _ pre _ w ⟨rfl, hbad, v, l', rfl⟩ hS
    simp only [List.cons_append, List.nil_append] at hS
    (refine Reach.walkG ?_; (repeat (first | ((with_reducible refine AllSt.mk ?_); (try clear hS); intro w hS) | ((with_reducible refine AllVw.mk ?_); intro V hV))))
    (replace hS := (hS.take (pre := [.obj D' _, .blk ge _ _, .blk gp _ _]) Take.found); (try simp only [List.cons_append, List.nil_append] at hS))
    have h4 : St w0 M w (.obj D' (.deferred (some [])) :: .blk ge 25 [.int .i64 81] :: .blk gp 24 [.pointer none] :: (Dm ++ L)) := by
      refine hS.sub (.cons_cons _ (.cons_cons _ (.cons_cons _ ?_)))
      rw [← hRC]
      have e1 : (Dm ++ L).Sublist (restC nb ps k (Dm ++ L)) := (List.sublist_append_right _ _).trans (List.sublist_append_right _ _)
      exact e1.trans (List.sublist_append_right [_, _, _, _, _, _, _] _)
    have h5 : St w0 M w ((D' :: Ds).map (fun D => .obj D (.deferred (some []))) ++ (.blk ge 25 [.int .i64 81] :: .blk gp 24 [.pointer none] :: L)) := by
      rw [List.map_cons, hDm]
      exact h4.perm (List.Perm.cons _ (List.perm_append_comm_assoc [_, _] Dm L))
    clear hS h4
    refine leaveG_marks (fun w hS => ?_) (D' :: Ds) _ h5
    refine doneQ_cc Try.results23 slotFound slotFound hS Look.found Look.found ?_
    obtain ⟨i, hi, hbad⟩ := hbad
    exact .inr (.inl ⟨⟨hg, fun nd' nb' h => hbad (by
      have h1 := h.sts; have h2 := h.d; have h3 := h.b; rw [hndd] at h2; rw [hnbb] at h3; subst h2 h3
      exact h1 i hi)⟩, rfl, hS.tail.tail⟩)
end
end Go.Proofs.Ytaapnfoimcccjaa
