/-
  A pool's bytes.
-/
import Derived.Test.YtaapnfoimcccjaaBlkI
import Derived.Test.YtaapnfoimcccjaaRgm
import Derived.Test.YtaapnfoimcccjaaLowA
namespace Go.Fk
open Go.RowKit
theorem WpG.loopCnt {P : Program} {N : Nat} {ro : Option Nat} {ds : List Deferred} {Q : PostD} {e : Env} {w : World} {c : Code} (t : Tmp) (M : Nat) (I : Nat → List Deferred → Env → World → Prop) (hI : ∀ k ds e w, I k ds e w → k ≤ M ∧ e t = .int .i64 (k : Int)) {k0 : Nat} (h0 : I k0 ds e w)
    (round : ∀ k ds e w, I k ds e w → WpG ro P N ds c (thenD (fun ds' e' w' => k < M ∧ I (k + 1) ds' e' w') Q) e w) : WpG ro P N ds (.loop c) Q e w := by
  refine WpG.loop (fun ds e w => ∃ k, I k ds e w) (fun e _ => match e t with | .int _ k => M - k.toNat | _ => 0) ⟨k0, h0⟩ fun ds e w ⟨k, hk⟩ => ?_
  refine (round k ds e w hk).mono fun x ds' e' w' hx => ?_
  cases x with
  | normal =>
    obtain ⟨h1, h2⟩ := hx
    refine ⟨⟨k + 1, h2⟩, ?_⟩
    rw [(hI _ _ _ _ hk).2, (hI _ _ _ _ h2).2]
    dsimp only
    omega
  | _ => exact hx
theorem St.new2 {w0 w w' : World} {M : Nat → Prop} {L : List Ch} {c1 c2 : Ch} (hS : St w0 M w L) (hb : Below w.heap.size w w') (h1 : c1.Is w') (r1 : c1.isRo = false) (f1 : ∀ g, c1.foot = some g → w.heap.size ≤ g) (h2 : c2.Is w') (r2 : c2.isRo = false) (f2 : ∀ g, c2.foot = some g → w.heap.size ≤ g) (hoff : Off c1 c2) : St w0 M w' (c1 :: c2 :: L) := by
  have h := hS.new hb h2 r2 f2
  refine ⟨h.chg, fun c hc => ?_, List.pairwise_cons.2 ⟨fun c hc => ?_, h.apart⟩⟩
  · rcases List.mem_cons.1 hc with rfl | hc
    · refine ⟨h1, ?_⟩
      have := hS.chg.size
      cases c with
      | ro A xs => cases r1
      | blk g t cs => exact fun k hk => .inl (Nat.le_trans this (f1 k hk))
      | own A n c el sz xs => exact fun k hk => .inl (Nat.le_trans this (f1 k hk))
      | app A n c el sz xs => exact fun k hk => .inl (Nat.le_trans this (f1 k hk))
      | obj g o => exact fun k hk => .inl (Nat.le_trans this (f1 k hk))
    · exact h.hold c hc
  · rcases List.mem_cons.1 hc with rfl | hc
    · exact hoff
    · intro g hg hg'
      have := f1 g hg
      have := St.feet_lt hS c hc g hg'
      omega
end Go.Fk
namespace Go.Proofs.Ytaapnfoimcccjaa
open Go.Fk Go.RowKit
attribute [local irreducible] Wp WpL Det thenQ blockQ WpG thenD blockG
instance elemBytes : Elem Try.prog 49 1 24 (.slice none 0 0) := ⟨by kernel_rfl, rfl, by decide⟩
def blkB (b : Bk) : List UInt8 := UInt8.ofNat b.st :: Crc.loB b.er 4
def dieB (l : List Bk) : List UInt8 := l.flatMap blkB
def poolB (nb : Nat) (X : List (List Bk)) : List UInt8 := [UInt8.ofNat X.length, UInt8.ofNat nb] ++ X.flatMap dieB
theorem blkB_length (b : Bk) : (blkB b).length = 5 := by simp [blkB, Crc.loB_length]
theorem dieB_length (l : List Bk) : (dieB l).length = l.length * 5 := by
  induction l with
  | nil => rfl
  | cons b l ih => simp only [dieB, List.flatMap_cons, List.length_append, blkB_length] at ih ⊢; rw [ih, List.length_cons]; omega
theorem dieB_step {l : List Bk} {i : Nat} (h : i < l.length) : dieB (l.take (i + 1)) = dieB (l.take i) ++ blkB (l.getD i ⟨0, 0⟩) := by
  rw [take_snocB h, dieB, dieB, List.flatMap_append]
  simp
theorem flatDies_length {nb : Nat} {X : List (List Bk)} (h : ∀ l ∈ X, l.length = nb) : (X.flatMap dieB).length = X.length * (nb * 5) := by
  induction X with
  | nil => simp
  | cons l X ih =>
    rw [List.flatMap_cons, List.length_append, dieB_length, h l List.mem_cons_self, ih fun l hl => h l (List.mem_cons_of_mem _ hl), List.length_cons, Nat.add_mul]
    omega
theorem poolB_length {nb : Nat} {X : List (List Bk)} (h : ∀ l ∈ X, l.length = nb) : (poolB nb X).length = 2 + X.length * (nb * 5) := by
  rw [poolB, List.length_append, flatDies_length h]; rfl
/-- The dies beside one. -/
def restC (nb : Nat) (ps : Dies) (d : Nat) (L : List Ch) : List Ch := rowsC nb (ps.take d) ++ (rowsC nb (ps.drop (d + 1)) ++ L)
theorem rowsC_die {nb : Nat} {ps : Dies} {d : Nat} (hd : d < ps.length) (L : List Ch) : List.Perm (rowsC nb ps ++ L) (.own ps[d].1 nb nb 60 2 (kv ps[d].2) :: restC nb ps d L) := by
  have hsp : ps = ps.take d ++ ps[d] :: ps.drop (d + 1) := by rw [← List.drop_eq_getElem_cons hd, List.take_append_drop]
  have hC : rowsC nb ps ++ L = rowsC nb (ps.take d) ++ (.own ps[d].1 nb nb 60 2 (kv ps[d].2) :: (rowsC nb (ps.drop (d + 1)) ++ L)) := by
    rw [(congrArg (rowsC nb) hsp).trans (rowsC_mid _ _ _ _), List.append_assoc, List.cons_append]
  rw [hC]
  exact List.perm_middle
section
variable {w w0 : World} {M : Nat → Prop} {L : List Ch} {g nd nb : Nat} {X : List (List Bk)}
set_option maxHeartbeats 4000000 in
theorem bytesP (hnb : 1 ≤ nb ∧ nb ≤ 64) (hnd : 1 ≤ nd ∧ nd ≤ 8) (h : PSt w0 M w g nd nb X L) :
    Calls Try.prog 24 #[.pointer (some ⟨g, 0, none⟩)] w fun x w' => ∃ A c, x = .returned (.slice A ((poolB nb X).length + 4) c) ∧ IsVw A ((poolB nb X).length + 4) c A 0 ∧
      PSt w0 M w' g nd nb X (.own A ((poolB nb X).length + 4) c 5 1 (bv (Crc.sealed (poolB nb X))) :: L) := by
  obtain ⟨D, cd, ps, hok, rfl, hS⟩ := h
  have hnd2 := hnd.2
  have hnb2 := hnb.2
  have hpl := hok.len
  have hrow0 : (rowsV nb ps)[0]? = some (.slice (ps[0]'(by omega)).1 nb nb) := by rw [rowsV, List.getElem?_map, List.getElem?_eq_getElem (by omega)]; rfl
  have hD := hok.vw
  generalize (ps[0]'(by omega)).1 = A0 at hrow0
  (refine calls_ofG (P := Try.prog) _ Try.func24 rfl Try.ntmps24 (Nat.le_of_ble_eq_true rfl) ?_; dsimp only [argE, Nat.reduceAdd])
  (refine Reach.walkG ?_; (repeat (first | ((with_reducible refine AllSt.mk ?_); (try clear hS); intro w hS) | ((with_reducible refine AllVw.mk ?_); intro V hV))))
  (refine WpG.drawD 16 (by kernel_rfl) (by kernel_rfl) rfl ?_; dsimp only [List.take, List.drop])
  (refine Reach.rwalk ?_; (repeat (first | ((with_reducible refine AllSt.mk ?_); (try clear hS); intro w hS) | ((with_reducible refine AllVw.mk ?_); intro V hV))))
  refine RgD.ld hS rfl rfl rfl rfl (.there (Look.own hrow0)) ?_
  (refine Reach.rwalk ?_; (repeat (first | ((with_reducible refine AllSt.mk ?_); (try clear hS); intro w hS) | ((with_reducible refine AllVw.mk ?_); intro V hV))))
  refine RgD.spec0 (fun x w2 => ∃ g2, x = .slice (some ⟨g2, 0, none⟩) 2 2 ∧ w.heap.size ≤ g2 ∧ Blk w2 g2 5 (bv [UInt8.ofNat nd, UInt8.ofNat nb]).toArray) rfl rfl rfl rfl (fun x w w' ⟨g, h, h1, h2⟩ hb => ⟨g, h, h1, h2.stay hb⟩) (fun w5 hb5 => ?_) ?_
  · refine WpL.buildSlice rfl BVals.found (oneAll_spec rfl) rfl (by decide) ?_
    intro w6 hb6 hs6 hg6
    refine WpL.nil ⟨⟨hb5.on hb6, hb6⟩, _, Env.set_same _ _ _, hb5.size, ?_⟩
    have e1 : bv [UInt8.ofNat nd, UInt8.ofNat nb] = [.int .u8 (nd : Int), .int .u8 (nb : Int)] := by
      simp only [bv, List.map_cons, List.map_nil, UInt8.toNat_ofNat', Nat.reducePow]
      rw [Nat.mod_eq_of_lt (by omega), Nat.mod_eq_of_lt (by omega)]
    rw [e1]
    exact hg6
  refine RgD.spec0 (fun x w2 => ∃ g3, x = .pointer (some ⟨g3, 0, none⟩) ∧ w.heap.size ≤ g3 ∧ Blk w2 g3 49 #[.slice none 0 0]) rfl rfl rfl rfl (fun x w w' ⟨g, h, h1, h2⟩ hb => ⟨g, h, h1, h2.stay hb⟩) (fun w5 hb5 => ?_) ?_
  · refine WpL.alloc rfl ?_
    intro w6 hb6 hs6 hg6
    exact WpL.nil ⟨⟨hb5.on hb6, hb6⟩, _, Env.set_same _ _ _, hb5.size, hg6⟩
  refine RgD.fin fun w1 hb1 => ?_
  rintro _ ⟨g2, rfl, hg2, hB2⟩ _ ⟨g3, rfl, hg3, hB3⟩
  have hne : g2 ≠ g3 := fun e => by
    subst e
    have h5 := congrArg List.length (congrArg Array.toList (Obj.cells.inj (Option.some.inj (hB2.symm.trans hB3))).1)
    simp [bv] at h5
  replace hS : St w0 M w1 (.app (some ⟨g2, 0, none⟩) 2 2 5 1 (bv [UInt8.ofNat nd, UInt8.ofNat nb]) :: .blk g3 49 [.slice none 0 0] :: poolL g D nd cd nb ps L) :=
    hS.new2 hb1 (.inl ⟨by simp, .inr ⟨g2, 2, _, rfl, Nat.zero_le _, hB2, Nat.le_refl _, by decide, by simp, by simp [bv]⟩⟩) rfl (fun k hk => by simp [Ch.foot] at hk; omega) hB3 rfl (fun k hk => by simp [Ch.foot] at hk; omega)
      (fun k h1 h2 => by simp [Ch.foot] at h1 h2; omega)
  clear hB2 hB3 hb1 hrow0 hne
  show WpL _ _ _ _ _ _ _
  (refine Reach.walkG ?_; (repeat (first | ((with_reducible refine AllSt.mk ?_); (try clear hS); intro w hS) | ((with_reducible refine AllVw.mk ?_); intro V hV))))
  refine WpG.loopCnt 29 nd (fun k ds e w' => k ≤ nd ∧ ∃ (Ds : List Nat) (A : Option Addr) (c : Nat), ds = Ds.map markD ∧ IsVw A (2 + k * (nb * 5)) c A 0 ∧
      St w0 M w' (.app A (2 + k * (nb * 5)) c 5 1 (bv ([UInt8.ofNat nd, UInt8.ofNat nb] ++ ((ps.map (·.2)).take k).flatMap dieB)) :: .blk g3 49 [.slice A (2 + k * (nb * 5)) c] :: poolL g D nd cd nb ps (Ds.map (fun D => .obj D (.deferred (some []))) ++ L)) ∧
      e.Has [(29, .int .i64 (k : Nat)), (28, .int .i64 (nd : Nat)), (0, .pointer (some ⟨g, 0, none⟩)), (3, .pointer (some ⟨g3, 0, none⟩))]) (fun k ds e w ⟨h1, _, _, _, _, _, _, h2⟩ => ⟨h1, h2.1⟩) (k0 := 0) ?_ ?_
  · refine ⟨Nat.zero_le _, [], some ⟨g2, 0, none⟩, 2, rfl, ?_, ?_, rfl, rfl, rfl, rfl, trivial⟩
    · rw [Nat.zero_mul]; exact IsVw.base (Nat.le_refl _) (by decide) (by simp)
    · rw [Nat.zero_mul, List.take_zero]; exact hS
  clear hS
  rintro k ds e w ⟨hk, Ds, A, c, rfl, hA, hS, he⟩
  obtain ⟨e0, rfl⟩ := he.eq
  clear he
  dsimp only [Env.sets]
  by_cases hlt : k < nd
  rotate_left
  · obtain rfl : k = nd := by omega
    have hle : k * (nb * 5) ≤ 8 * 320 := Nat.mul_le_mul hnd2 (by omega)
    have hXl : ∀ l ∈ ps.map (·.2), l.length = nb := fun l hl => by
      obtain ⟨p, hp, rfl⟩ := List.mem_map.1 hl
      exact (hok.rows p hp).2.1
    have hpB : poolB nb (ps.map (·.2)) = [UInt8.ofNat k, UInt8.ofNat nb] ++ ((ps.map (·.2)).take k).flatMap dieB := by
      rw [List.take_of_length_le (by rw [List.length_map]; omega), poolB, List.length_map, hpl]
    have hpBl : (poolB nb (ps.map (·.2))).length = 2 + k * (nb * 5) := by rw [poolB_length hXl, List.length_map, hpl]
    rw [← hpB] at hS
    rw [hpBl]
    generalize hDm : Ds.map (fun D => Ch.obj D (.deferred (some []))) = Dm at hS
    (refine Reach.walkG ?_; (repeat (first | ((with_reducible refine AllSt.mk ?_); (try clear hS); intro w hS) | ((with_reducible refine AllVw.mk ?_); intro V hV))))
    (with_reducible apply WpL.call); (· exact rfl); (· exact Try.call39); (· exact Vals.found)
    refine (sealS hS RdsV.found (by omega)).mono ?_
    clear hS
    rintro x w ⟨A2, c2, rfl, hA2, hS⟩
    refine ⟨_, rfl, ?_⟩
    (refine Reach.walkG ?_; (repeat (first | ((with_reducible refine AllSt.mk ?_); (try clear hS); intro w hS) | ((with_reducible refine AllVw.mk ?_); intro V hV))))
    replace hS := hS.sub (.cons_cons _ ((List.sublist_cons_self _ _).trans (List.sublist_cons_self _ _)))
    replace hS : St w0 M w (Dm ++ (poolL g D k cd nb ps (.own A2 (2 + k * (nb * 5) + 4) c2 5 1 (bv (Crc.sealed (poolB nb (ps.map (·.2))))) :: L))) := by
      refine hS.perm ?_
      refine (List.perm_append_comm_assoc (_ :: .blk g _ _ :: .own D _ _ _ _ _ :: rowsC nb ps) Dm L).trans ?_
      refine List.Perm.append_left Dm ?_
      refine List.Perm.trans (List.Perm.swap _ _ _) (List.Perm.cons _ (List.Perm.trans (List.Perm.swap _ _ _) (List.Perm.cons _ ?_)))
      exact List.perm_middle.symm
    subst hDm
    refine leaveG_marks (fun w hS => ?_) Ds _ hS
    (with_reducible apply doneQ_one Try.results24); (· exact slotFound)
    exact ⟨A2, c2, rfl, hA2, D, cd, ps, hok, rfl, hS⟩
  have hkl : k < ps.length := by omega
  have hrowk : (rowsV nb ps)[k]? = some (.slice ps[k].1 nb nb) := by rw [rowsV, List.getElem?_map, List.getElem?_eq_getElem hkl]; rfl
  obtain ⟨hAk, hlk, hfk⟩ := hok.rows ps[k] (List.getElem_mem hkl)
  have hstep : ((ps.map (·.2)).take (k + 1)).flatMap dieB = ((ps.map (·.2)).take k).flatMap dieB ++ dieB ps[k].2 := by
    have e1 : (ps.map (·.2)).take (k + 1) = (ps.map (·.2)).take k ++ [ps[k].2] := by
      rw [List.take_add_one, List.getElem?_map, List.getElem?_eq_getElem hkl]; rfl
    rw [e1, List.flatMap_append]; simp
  have hperm := rowsC_die (nb := nb) hkl (Ds.map (fun D => Ch.obj D (.deferred (some []))) ++ L)
  have hXl : ∀ l ∈ ps.map (·.2), l.length = nb := fun l hl => by
    obtain ⟨p, hp, rfl⟩ := List.mem_map.1 hl
    exact (hok.rows p hp).2.1
  have hlen0 : ([UInt8.ofNat nd, UInt8.ofNat nb] ++ ((ps.map (·.2)).take k).flatMap dieB).length = 2 + k * (nb * 5) := by
    rw [List.length_append, flatDies_length (nb := nb) fun l hl => hXl l (List.mem_of_mem_take hl), List.length_take, List.length_map, Nat.min_eq_left (by omega)]; rfl
  have hn1 : 2 + (k + 1) * (nb * 5) = 2 + k * (nb * 5) + nb * 5 := by rw [Nat.add_mul]; omega
  have hle : k * (nb * 5) ≤ 8 * 320 := Nat.mul_le_mul (by omega) (by omega)
  have hn0 : 2 + k * (nb * 5) ≤ 2562 := by omega
  rw [hn1, hstep, ← List.append_assoc]
  generalize 2 + k * (nb * 5) = n0 at *
  generalize hB0 : [UInt8.ofNat nd, UInt8.ofNat nb] ++ ((ps.map (·.2)).take k).flatMap dieB = B0 at *
  generalize hDm : Ds.map (fun D => Ch.obj D (.deferred (some []))) = Dm at *
  generalize hRC : restC nb ps k (Dm ++ L) = RC at hperm
  generalize ps[k].1 = Ak at *
  generalize ps[k].2 = l at *
  (refine Reach.walkG ?_; (repeat (first | ((with_reducible refine AllSt.mk ?_); (try clear hS); intro w hS) | ((with_reducible refine AllVw.mk ?_); intro V hV))))
  (with_reducible apply WpL.call); (· exact rfl); (· exact Try.call30); (· exact Vals.found)
  refine (of_any hS).mono ?_
  clear hS
  rintro x w ⟨g1, g2, rfl, hS⟩
  refine ⟨_, rfl, ?_⟩
  (refine Reach.walkG ?_; (repeat (first | ((with_reducible refine AllSt.mk ?_); (try clear hS); intro w hS) | ((with_reducible refine AllVw.mk ?_); intro V hV))))
  refine WpG.rangeFunc (ps := [35, 36]) (w0 := w0) (M := M) (Γ0 := RC) (Lc := [.app A n0 c 5 1 (bv B0), .blk g3 49 [.slice A n0 c], .own Ak nb nb 60 2 (kv l)])
    (of_iter_in (g := g) (g1 := g1) (g2 := g2) (rows := rowsV nb ps) hD hlt hrowk hAk (by omega) (by omega)) rfl Try.call42 (fun _ => rfl) (by decide)
    (fun pre Lc => ∃ A c, IsVw A (n0 + pre.length * 5) c A 0 ∧ Lc = [.app A (n0 + pre.length * 5) c 5 1 (bv (B0 ++ dieB (l.take pre.length))), .blk g3 49 [.slice A (n0 + pre.length * 5) c], .own Ak nb nb 60 2 (kv l)])
    (fun c pre Lc => False) ?hS ⟨A, c, hA, by simp [dieB]⟩ ?body ?done ?stop
  case hS =>
    have h2 : St w0 M w (.blk g1 _ _ :: .blk g2 _ _ :: .app A _ _ _ _ _ :: .blk g3 _ _ :: .blk g _ _ :: .own D _ _ _ _ _ :: .own Ak _ _ _ _ _ :: RC) := hS.perm (List.Perm.append_left [_, _, _, _, _, _] hperm)
    have h3 := h2.take (pre := [.app A _ _ _ _ _, .blk g3 _ _, .own Ak _ _ _ _ _, .blk g1 _ _, .blk g2 _ _, .blk g _ _, .own D _ _ _ _ _]) Take.found
    exact h3
  case body =>
    clear hS
    rintro r pre x rest _ Γ' w o hx ⟨A, c, hA, rfl⟩ hS
    obtain ⟨hpl, hxn⟩ := range_mid hx
    simp only [List.cons_append, List.nil_append] at hS
    dsimp only [Env.params]
    (refine Reach.walkG ?_; (repeat (first | ((with_reducible refine AllSt.mk ?_); (try clear hS); intro w hS) | ((with_reducible refine AllVw.mk ?_); intro V hV))))
    refine ⟨rfl, _, hS, ?_⟩
    clear hS
    intro w o' hS
    rw [hpl] at hA hS
    have hpx : (pre ++ [x]).length = x + 1 := by simp [hpl]
    subst hlk
    have hst := dieB_step hxn
    have hfb := hfk _ (getD_memB hxn)
    have hdl := dieB_length (l.take x)
    rw [List.length_take, Nat.min_eq_left (by omega)] at hdl
    have hlk : Look (.obj r o' :: .blk g3 49 [.slice A (n0 + x * 5) c] :: .own Ak l.length l.length 60 2 (kv l) :: Γ') ((adr Ak).add (0 + x * 2 + 0)) (.int .i64 ((l.getD x ⟨0, 0⟩).st : Int)) :=
      .there (.there (Look.own (kv_st' hxn)))
    have hlk2 : Look (.obj r o' :: .blk g3 49 [.slice A (n0 + x * 5) c] :: .own Ak l.length l.length 60 2 (kv l) :: Γ') ((adr Ak).add (0 + x * 2 + 1)) (.int .u32 ((l.getD x ⟨0, 0⟩).er : Int)) :=
      .there (.there (Look.own (kv_er' hxn)))
    generalize l.getD x ⟨0, 0⟩ = b at *
    obtain ⟨st, er⟩ := b
    dsimp only at hlk hlk2 hfb
    replace hS := hS.swap1
    (refine Reach.walkG ?_; (repeat (first | ((with_reducible refine AllSt.mk ?_); (try clear hS); intro w hS) | ((with_reducible refine AllVw.mk ?_); intro V hV))))
    refine WpG.drawApp 12 7 44 1 [.int .u8 (st : Int)] hS (by kernel_rfl) (by kernel_rfl) rfl (by kernel_rfl) ?_
    dsimp only [List.take, List.drop]
    have hfeet := St.feet_lt hS
    (repeat (first | ((with_reducible apply RgM.ld); (· exact rfl); (· exact rfl); (· exact rfl); (· exact rfl); (· exact rfl); (· exact Look.found)) | ((with_reducible apply RgM.det); (· exact rfl); (· exact rfl); (· exact rfl); (· exact rfl); (· exact rfl); (· exact Det.found2))))
    refine RgM.spec (NewB w.heap.size 5 1 [.int .u8 (st : Int)]) rfl rfl rfl rfl [] rfl (fun v w w' ⟨g, h1, h2, h3⟩ hR => ⟨g, h1, h2, (hR.2 g h2 h3.lt).trans h3⟩) (fun w A m c xs hb hw => ?_) ?_
    · refine WpL.buildSlice rfl BVals.found (oneAll_spec rfl) rfl (by decide) ?_
      intro w6 hb6 hs6 hg6
      exact WpL.nil ⟨hb6, _, Env.set_same _ _ _, hb, hg6⟩
    refine RgM.app rfl rfl rfl rfl rfl (by simp) (fun g hg => hfeet _ List.mem_cons_self g hg) rfl (by decide) (oneAll_spec rfl) (by omega) (by omega) ?_
    (repeat (first | ((with_reducible apply RgM.ld); (· exact rfl); (· exact rfl); (· exact rfl); (· exact rfl); (· exact rfl); (· exact Look.found)) | ((with_reducible apply RgM.det); (· exact rfl); (· exact rfl); (· exact rfl); (· exact rfl); (· exact rfl); (· exact Det.found2))))
    clear hS hfeet
    refine RgM.fin rfl fun w A2 c2 u hA2 hS => ?_
    show WpL _ _ _ _ _ _ _
    (refine Reach.walkG ?_; (repeat (first | ((with_reducible refine AllSt.mk ?_); (try clear hS); intro w hS) | ((with_reducible refine AllVw.mk ?_); intro V hV))))
    have e1 : bv (B0 ++ dieB (l.take x)) ++ [Value.int .u8 (st : Int)] = bv (B0 ++ dieB (l.take x) ++ [UInt8.ofNat st]) := by
      rw [bv_append (B0 ++ dieB (l.take x))]
      simp only [bv, List.map_cons, List.map_nil, UInt8.toNat_ofNat', Nat.reducePow]
      rw [Nat.mod_eq_of_lt hfb.2]
    rw [e1] at hS
    (with_reducible apply WpL.call); (· exact rfl); (· exact Try.call38); (· exact Vals.found)
    refine (lowAppend32A_any (m := er) (by rw [List.length_append, List.length_append, hlen0, hdl]; rfl) hfb.1 (by omega) hA2 hS).mono ?_
    clear hS
    rintro _ w ⟨A3, c3, rfl, hA3, hS⟩
    refine ⟨_, rfl, ?_⟩
    (refine Reach.walkG ?_; (repeat (first | ((with_reducible refine AllSt.mk ?_); (try clear hS); intro w hS) | ((with_reducible refine AllVw.mk ?_); intro V hV))))
    replace hS := hS.swap1
    have e5 : n0 + x * 5 + 1 + 4 = n0 + (x + 1) * 5 := by omega
    have e6 : B0 ++ dieB (l.take x) ++ [UInt8.ofNat st] ++ Crc.loB er 4 = B0 ++ dieB (l.take (x + 1)) := by
      rw [hst]; simp [blkB]
    rw [e5] at hA3
    rw [e5, e6] at hS
    exact roundD.go (Lc' := [_, _, _]) ⟨A3, c3, by rw [hpx]; exact hA3, by rw [hpx]⟩ hS
  case done =>
    clear hS
    rintro D' _ w ⟨A2, c2, hA2, rfl⟩ hS
    rw [List.length_range] at hA2 hS
    rw [List.take_of_length_le (Nat.le_of_eq hlk)] at hS
    simp only [List.cons_append, List.nil_append] at hS
    (refine Reach.walkG ?_; (repeat (first | ((with_reducible refine AllSt.mk ?_); (try clear hS); intro w hS) | ((with_reducible refine AllVw.mk ?_); intro V hV))))
    refine ⟨hlt, by omega, D' :: Ds, A2, c2, rfl, hA2, ?_, int_eq (by omega), rfl, rfl, rfl, trivial⟩
    rw [List.map_cons, hDm]
    (replace hS := (hS.take (pre := [.app A2 _ _ _ _ _, .blk g3 _ _, .blk g _ _, .own D _ _ _ _ _, .obj D' _, .own Ak _ _ _ _ _]) Take.found); (try simp only [List.cons_append, List.nil_append] at hS))
    have h4 := hS.sub (.cons_cons _ (.cons_cons _ (.cons_cons _ (.cons_cons _ (.cons_cons _ (.cons_cons _ ((List.sublist_cons_self _ _).trans (List.sublist_cons_self _ _))))))))
    exact h4.perm (List.Perm.append_left [_, _, _, _] ((List.Perm.cons _ hperm.symm).trans List.perm_middle.symm))
  case stop => rintro D' c pre Lc w h; exact h.elim
end
end Go.Proofs.Ytaapnfoimcccjaa
