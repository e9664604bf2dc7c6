/-
  What is left of polynomials: the program's.
-/
import Derived.Test.YtkffgdccjgdiaaaGfP
namespace Go.Gf
section
variable {m : Nat} {a b : List Nat} {c o : Nat}
theorem range_cf (a : List Nat) : (List.range a.length).map (cf a) = a := by
  refine List.ext_getElem (by simp) fun i h1 h2 => by simp [cf_get h2]
theorem sub_row (h : Is m) : addRow m a.length (cf a) c b o b.length = sub m c o a b := addRow_full h (Nat.le_refl _)
end
end Go.Gf
namespace Go.Proofs.Ytkffgdccjgdiaaa
open Go.Fk Go.RowKit
attribute [local irreducible] Wp WpL Det thenQ blockQ
section
variable {w w0 : World} {M : Nat → Prop} {L : List Ch} {m g : Nat} {F : FS}
theorem FI.sub {L' : List Ch} (hs : L'.Sublist L) (h : FI w0 M g m L w) : FI w0 M g m L' w := let ⟨F, hF, hS⟩ := h; ⟨F, hF, hS.sub (.cons_cons _ (.cons_cons _ (.cons_cons _ hs)))⟩
theorem FI.nil_ (h : FI w0 M g m L w) : FI w0 M g m (.own none 0 0 3 1 (zv (nv [])) :: L) w := by
  obtain ⟨F, hF, hS⟩ := h
  have h2 : St w0 M _ (.own none 0 0 3 1 (zv (nv [])) :: F.blk g m :: F.p :: F.l :: L) := hS.nil_
  exact ⟨F, hF, h2.take (pre := [F.blk g m, F.p, F.l, .own none _ _ _ _ _]) Take.found⟩
theorem rest_any (h : Gf.Is m) {V : Option Addr} {n c : Nat} {p : List Int} {V' : Option Addr} {n' c' : Nat} {q : List Int} (hn : p.length = n) (hV : IsVw V n c V 0) (hm : n ≤ 1048576) (hr : RdsV L V n (zv p))
    (hn' : q.length = n') (hV' : IsVw V' n' c' V' 0) (hm' : n' ≤ 1048576) (hr' : RdsV L V' n' (zv q)) (hI : FI w0 M g m L w) :
    Calls Try.prog 40 #[.pointer (some ⟨g, 0, none⟩), .slice V n c, .slice V' n' c'] w fun x w' => ∃ A k, x = .returned (.slice A (Gf.rest m (pe m p) (pe m q)).length k) ∧ IsVw A (Gf.rest m (pe m p) (pe m q)).length k A 0 ∧
      FI w0 M g m (.own A (Gf.rest m (pe m p) (pe m q)).length k 3 1 (zv (nv (Gf.rest m (pe m p) (pe m q)))) :: L) w' := by
  have hb := (pe_el h q).trim
  have hbt := Gf.Tr.of_trim (pe m q)
  have ha0 := (pe_el h p).trim
  have hat0 := Gf.Tr.of_trim (pe m p)
  have hla : (Gf.trim (pe m p)).length ≤ n := by rw [Gf.trim_length]; have := Gf.tl_le (pe m p); simp at this; omega
  have hlb : (Gf.trim (pe m q)).length ≤ n' := by rw [Gf.trim_length]; have := Gf.tl_le (pe m q); simp at this; omega
  have hdef : Gf.rest m (pe m p) (pe m q) = if Gf.trim (pe m q) = [] then [] else Gf.restL m (Gf.trim (pe m q)) (Gf.trim (pe m p)) := rfl
  (refine calls_of (P := Try.prog) _ Try.func40 rfl Try.ntmps40 (Nat.le_of_ble_eq_true rfl) ?_; dsimp only [argE, Nat.reduceAdd])
  (refine Reach.walk ?_; (repeat (first | ((with_reducible refine AllSt.mk ?_); (try clear hS); intro w hS) | ((with_reducible refine AllVw.mk ?_); intro V hV))))
  (with_reducible apply WpL.call); (· exact rfl); (· exact Try.call51); (· exact Vals.found)
  refine (taken_any h hn hV hm hr hI).mono ?_
  clear hI
  rintro x w1 ⟨A, ca, rfl, hA, hI⟩
  refine ⟨_, rfl, ?_⟩
  (refine Reach.walk ?_; (repeat (first | ((with_reducible refine AllSt.mk ?_); (try clear hS); intro w hS) | ((with_reducible refine AllVw.mk ?_); intro V hV))))
  (with_reducible apply WpL.call); (· exact rfl); (· exact Try.call51); (· exact Vals.found)
  refine (taken_any h hn' hV' hm' (hr'.there _) hI).mono ?_
  clear hI
  rintro x w2 ⟨B, cb, rfl, hB, hI⟩
  refine ⟨_, rfl, ?_⟩
  generalize Gf.rest m (pe m p) (pe m q) = tgt at *
  generalize Gf.trim (pe m q) = b at *
  generalize Gf.trim (pe m p) = a0 at *
  by_cases hb0 : b = []
  · subst hb0
    rw [if_pos rfl] at hdef
    subst hdef
    (refine Reach.walk ?_; (repeat (first | ((with_reducible refine AllSt.mk ?_); (try clear hS); intro w hS) | ((with_reducible refine AllVw.mk ?_); intro V hV))))
    (with_reducible apply doneQ_one Try.results40); (· exact slotFound)
    exact ⟨none, 0, rfl, IsVw.nil, hI.nil_.sub (.cons_cons _ ((List.sublist_cons_self _ _).trans (List.sublist_cons_self _ _)))⟩
  rw [if_neg hb0] at hdef
  have hb1 : 0 < b.length := List.length_pos_iff.2 hb0
  have hget : (zv (nv b))[b.length - 1]? = some (.int .i64 (Gf.cf b (b.length - 1) : Nat)) := nv_cell (by omega)
  have hbc := hb.cf (b.length - 1)
  have htop : Gf.inv m (Gf.cf b (b.length - 1)) < 2 ^ m := Gf.inv_lt h _
  have hs2 := Gf.sz_le h
  have hsa := Gf.sz_add h
  have hcb : (b.length : Int) - 1 = ((b.length - 1 : Nat) : Int) := by omega
  obtain ⟨F, hF, hS⟩ := hI
  (refine Reach.walk ?_; (repeat (first | ((with_reducible refine AllSt.mk ?_); (try clear hS); intro w hS) | ((with_reducible refine AllVw.mk ?_); intro V hV))))
  refine WpL.ldV (RdsV.whole (n := b.length) .own (by simp)) hS.tail.tail.tail hget rfl rfl ?_
  (refine Reach.walk ?_; (repeat (first | ((with_reducible refine AllSt.mk ?_); (try clear hS); intro w hS) | ((with_reducible refine AllVw.mk ?_); intro V hV))))
  (with_reducible apply WpL.call); (· exact rfl); (· exact Try.call25); (· exact Vals.found)
  refine (inv_any h hF hS).mono ?_
  clear hS hF
  rintro x w3 ⟨rfl, hI⟩
  refine ⟨_, rfl, ?_⟩
  rw [inE_nat h hbc]
  (refine Reach.walk ?_; (repeat (first | ((with_reducible refine AllSt.mk ?_); (try clear hS); intro w hS) | ((with_reducible refine AllVw.mk ?_); intro V hV))))
  apply Wp.loopG (m := a0.length) (fun k e w' => ∃ a : List Nat, k = a.length ∧ a.length ≤ n ∧ Gf.El m a ∧ Gf.Tr a ∧ Gf.restL m b a = tgt ∧ IsVw A a.length ca A 0 ∧ FI w0 M g m (.own B b.length cb 3 1 (zv (nv b)) :: .own A a.length ca 3 1 (zv (nv a)) :: L) w' ∧
      e.Has [(1, .slice A a.length ca), (2, .slice B b.length cb), (0, .pointer (some ⟨g, 0, none⟩)), (7, .int .i64 (Gf.inv m (Gf.cf b (b.length - 1)) : Nat))])
    ⟨a0, rfl, hla, ha0, hat0, hdef.symm, hA, hI, rfl, rfl, rfl, rfl, trivial⟩
  clear hI hA hla ha0 hat0 hdef
  rintro _ e w4 ⟨a, rfl, hla, ha, hat, htgt, hA, hI, he⟩
  obtain ⟨e0, rfl⟩ := he.eq
  clear he
  dsimp only [Env.sets]
  by_cases hlt : b.length ≤ a.length
  · have hca : (a.length : Int) - 1 = ((a.length - 1 : Nat) : Int) := by omega
    have hcab : (a.length : Int) - (b.length : Int) = ((a.length - b.length : Nat) : Int) := by omega
    have hgeta : (zv (nv a))[a.length - 1]? = some (.int .i64 (Gf.cf a (a.length - 1) : Nat)) := nv_cell (by omega)
    have hac := ha.cf (a.length - 1)
    have hstep := Gf.restL_step h ha hb hbt hb1 hlt
    have hslt := Gf.stepR_lt h ha hb hbt hb1 hlt
    have hsel := Gf.stepR_el h (b := b) ha
    have hcl : Gf.topC m a b < 2 ^ m := Gf.topC_lt h ha
    have hcd : Gf.mul m (Gf.cf a (a.length - 1)) (Gf.inv m (Gf.cf b (b.length - 1))) = Gf.topC m a b := rfl
    have hse : Gf.stepR m a b = Gf.trim (Gf.addRow m a.length (Gf.cf a) (Gf.topC m a b) b (a.length - b.length) b.length) := by rw [Gf.sub_row h]; rfl
    have hstr : Gf.Tr (Gf.stepR m a b) := by rw [hse]; exact .of_trim _
    rw [hstep] at htgt
    clear hstep
    generalize Gf.inv m (Gf.cf b (b.length - 1)) = top at *
    obtain ⟨F, hF, hS⟩ := hI
    (refine Reach.walk ?_; (repeat (first | ((with_reducible refine AllSt.mk ?_); (try clear hS); intro w hS) | ((with_reducible refine AllVw.mk ?_); intro V hV))))
    refine WpL.ldV (RdsV.whole (n := a.length) .own (by simp)) hS.tail.tail.tail.tail hgeta rfl rfl ?_
    (refine Reach.walk ?_; (repeat (first | ((with_reducible refine AllSt.mk ?_); (try clear hS); intro w hS) | ((with_reducible refine AllVw.mk ?_); intro V hV))))
    (with_reducible apply WpL.call); (· exact rfl); (· exact Try.call23); (· exact Vals.found)
    refine (mul_any h hF hS).mono ?_
    clear hS hF
    rintro x w5 ⟨rfl, hI⟩
    refine ⟨_, rfl, ?_⟩
    rw [inE_nat h hac, inE_nat h htop, hcd]
    obtain ⟨F, hF, hS⟩ := hI
    (refine Reach.walk ?_; (repeat (first | ((with_reducible refine AllSt.mk ?_); (try clear hS); intro w hS) | ((with_reducible refine AllVw.mk ?_); intro V hV))))
    have hI : FI w0 M g m (.own B b.length cb 3 1 (zv (nv b)) :: .own A a.length ca 3 1 (zv (nv (Gf.addRow m a.length (Gf.cf a) (Gf.topC m a b) b (a.length - b.length) 0))) :: L) _ := ⟨F, hF, by rw [Gf.addRow_zero, Gf.range_cf]; exact hS⟩
    clear hS hF
    generalize Gf.topC m a b = cc at *
    apply Wp.loopUp b.length (fun k e w' => FI w0 M g m (.own B b.length cb 3 1 (zv (nv b)) :: .own A a.length ca 3 1 (zv (nv (Gf.addRow m a.length (Gf.cf a) cc b (a.length - b.length) k))) :: L) w' ∧ e.Has [(52, .int .i64 (k : Nat)), (51, .int .i64 (b.length : Nat)), (50, .slice B b.length cb), (8, .int .i64 (cc : Nat)), (9, .int .i64 ((a.length - b.length : Nat) : Nat)), (1, .slice A a.length ca), (2, .slice B b.length cb), (0, .pointer (some ⟨g, 0, none⟩)), (7, .int .i64 (top : Nat))]) (Nat.zero_le _)
      ⟨hI, rfl, rfl, rfl, rfl, rfl, rfl, rfl, rfl, rfl, trivial⟩
    clear hI
    rintro k e w6 hk ⟨hI, he⟩
    obtain ⟨e0, rfl⟩ := he.eq
    clear he
    dsimp only [Env.sets]
    by_cases hlk : k < b.length
    · have hik : a.length - b.length + k < a.length := by omega
      have hrat := Gf.addRow_at (m := m) (B := Gf.cf a) (c := cc) (b := b) hik
      have hset := Gf.addRow_set (m := m) (B := Gf.cf a) (c := cc) (b := b) hik
      have hlen : (nv (Gf.addRow m a.length (Gf.cf a) cc b (a.length - b.length) k)).length = a.length := by simp
      have hgr : (zv (nv (Gf.addRow m a.length (Gf.cf a) cc b (a.length - b.length) k)))[a.length - b.length + k]? = some (.int .i64 (Gf.cf a (a.length - b.length + k) : Nat)) := by
        rw [nv_cell (by simpa using hik), hrat]
      have hgb : (zv (nv b))[k]? = some (.int .i64 (Gf.cf b k : Nat)) := nv_cell hlk
      have hrl := ha.cf (a.length - b.length + k)
      have hbk := hb.cf k
      have hml := Gf.mul_lt h (b := Gf.cf b k) hcl
      generalize Gf.addRow m a.length (Gf.cf a) cc b (a.length - b.length) k = R at *
      generalize Gf.cf a (a.length - b.length + k) = y at *
      have hcik : ((a.length - b.length : Nat) : Int) + (k : Int) = ((a.length - b.length + k : Nat) : Int) := by omega
      generalize hoo : a.length - b.length = o at *
      obtain ⟨F, hF, hS⟩ := hI
      (refine Reach.walk ?_; (repeat (first | ((with_reducible refine AllSt.mk ?_); (try clear hS); intro w hS) | ((with_reducible refine AllVw.mk ?_); intro V hV))))
      refine WpL.ldV (RdsV.whole (n := b.length) .own (by simp)) hS.tail.tail.tail hgb rfl rfl ?_
      (refine Reach.walk ?_; (repeat (first | ((with_reducible refine AllSt.mk ?_); (try clear hS); intro w hS) | ((with_reducible refine AllVw.mk ?_); intro V hV))))
      have hI : FI w0 M g m (.own B b.length cb 3 1 (zv (nv b)) :: .own A a.length ca 3 1 (zv (nv R)) :: L) _ := ⟨F, hF, hS⟩
      (refine Wp.drawF 12 (FI w0 M g m (.own B b.length cb 3 1 (zv (nv b)) :: .own A a.length ca 3 1 (zv (nv R)) :: L)) ?_ (by kernel_rfl) (by kernel_rfl) rfl ?_; rotate_left; dsimp only [List.take, List.drop]; rotate_left)
      · exact hI.drew
      (repeat (first | ((with_reducible apply RgF.det); (· exact rfl); (· exact rfl); (· exact Det.found2))))
      refine RgF.ld (fun w2 hI => (RdsV.whole (n := a.length) .own (by simpa using hlen)).cellAt hI.rest.tail hgr) rfl rfl ?_
      (repeat (first | ((with_reducible apply RgF.det); (· exact rfl); (· exact rfl); (· exact Det.found2))))
      refine RgF.op (c := .int .i64 (Gf.mul m cc (Gf.cf b k) : Nat)) rfl rfl (fun w2 hI => ?_) ?_
      · obtain ⟨F, hF, hS⟩ := hI
        (with_reducible apply WpL.call); (· exact rfl); (· exact Try.call23); (· exact Vals.found)
        refine (mul_any h hF hS).mono ?_
        rintro x w3 ⟨rfl, hI⟩
        exact ⟨_, by rw [inE_nat h hcl, inE_nat h hbk], WpL.nil ⟨hI, Env.set_same _ _ _⟩⟩
      (repeat (first | ((with_reducible apply RgF.det); (· exact rfl); (· exact rfl); (· exact Det.found2))))
      refine RgF.fin ?_
      clear hI hS hF
      rintro w ⟨F, hF, hS⟩
      (replace hS := (hS.take (pre := [.own A _ _ _ _ _]) Take.found); (try simp only [List.cons_append, List.nil_append] at hS))
      (refine Reach.walk ?_; (repeat (first | ((with_reducible refine AllSt.mk ?_); (try clear hS); intro w hS) | ((with_reducible refine AllVw.mk ?_); intro V hV))))
      rw [nv_set, hset] at hS
      (replace hS := (hS.take (pre := [F.blk g m, F.p, F.l, .own B _ _ _ _ _, .own A _ _ _ _ _]) Take.found); (try simp only [List.cons_append, List.nil_append] at hS))
      exact ⟨hlk, ⟨F, hF, hS⟩, int_eq (by omega), rfl, rfl, rfl, rfl, rfl, rfl, rfl, rfl, trivial⟩
    · obtain rfl : k = b.length := by omega
      have hRl : (Gf.addRow m a.length (Gf.cf a) cc b (a.length - b.length) b.length).length = a.length := by simp
      generalize Gf.addRow m a.length (Gf.cf a) cc b (a.length - b.length) b.length = R at *
      obtain ⟨F, hF, hS⟩ := hI
      (replace hS := (hS.take (pre := [.own A _ _ _ _ _]) Take.found); (try simp only [List.cons_append, List.nil_append] at hS))
      (refine Reach.walk ?_; (repeat (first | ((with_reducible refine AllSt.mk ?_); (try clear hS); intro w hS) | ((with_reducible refine AllVw.mk ?_); intro V hV))))
      (with_reducible apply WpL.call); (· exact rfl); (· exact Try.call46); (· exact Vals.found)
      refine (trim_any (l := R) hRl hA (by omega) (RdsV.whole .own (by simp [hRl])) hS).mono ?_
      rintro x w2 ⟨rfl, rfl⟩
      refine ⟨_, rfl, ?_⟩
      have hle : Gf.tl R ≤ a.length := by have := Gf.tl_le R; omega
      have h2 := hS.shrink hle
      rw [nv_take] at h2
      have h3 : St w0 M _ (.own A (Gf.tl R) ca 3 1 (zv (nv (Gf.trim R))) :: F.blk g m :: F.p :: F.l :: .own B b.length cb 3 1 (zv (nv b)) :: L) := h2
      rw [← Gf.trim_length, ← hse] at h3
      rw [← Gf.trim_length, ← hse] at hle
      rw [← Gf.trim_length, ← hse]
      generalize Gf.stepR m a b = a' at *
      (refine Reach.walk ?_; (repeat (first | ((with_reducible refine AllSt.mk ?_); (try clear hS); intro w hS) | ((with_reducible refine AllVw.mk ?_); intro V hV))))
      exact ⟨_, hslt, a', rfl, by omega, hsel, hstr, htgt, ⟨by have := hA.le; omega, hA.max, hA.at_⟩, ⟨F, hF, h3.take (pre := [F.blk g m, F.p, F.l, .own B _ _ _ _ _, .own A _ _ _ _ _]) Take.found⟩, rfl, rfl, rfl, rfl, trivial⟩
  · have hd := Gf.restL_done h (Nat.lt_of_not_le hlt)
    rw [hd] at htgt
    subst htgt
    (refine Reach.walk ?_; (repeat (first | ((with_reducible refine AllSt.mk ?_); (try clear hS); intro w hS) | ((with_reducible refine AllVw.mk ?_); intro V hV))))
    (with_reducible apply doneQ_one Try.results40); (· exact slotFound)
    exact ⟨A, ca, rfl, hA, hI.sub (List.sublist_cons_self _ _)⟩
end
end Go.Proofs.Ytkffgdccjgdiaaa
