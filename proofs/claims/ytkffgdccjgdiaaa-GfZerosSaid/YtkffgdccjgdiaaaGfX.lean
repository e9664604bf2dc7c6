/-
  What is left of polynomials: the document's.
-/
import Derived.Test.YtkffgdccjgdiaaaGfV
namespace Go.Proofs.Ytkffgdccjgdiaaa
open Go.Fk Go.RowKit
attribute [local irreducible] Wp WpL Det thenQ blockQ
section
variable {w w0 : World} {M : Nat → Prop} {L : List Ch} {m g : Nat} {F : FS}
theorem pe_snoc {m : Nat} {p : List Int} {i : Nat} (h : i < p.length) : nv ((pe m p).take i) ++ [(inE m (p.getD i 0) : Int)] = nv ((pe m p).take (i + 1)) := by
  rw [List.take_succ_eq_append_getElem (by simpa using h)]
  simp [nv, pe, List.getD_eq_getElem?_getD, h]
set_option maxHeartbeats 4000000 in
theorem refRest_any (h : Gf.Is m) {V : Option Addr} {n c : Nat} {p : List Int} {V' : Option Addr} {n' c' : Nat} {q : List Int} (hn : p.length = n) (hV : IsVw V n c V 0) (hm : n ≤ 1048576) (hr : RdsV L V n (zv p))
    (hn' : q.length = n') (hV' : IsVw V' n' c' V' 0) (hm' : n' ≤ 1048576) (hr' : RdsV L V' n' (zv q)) (hS : St w0 M w L) :
    Calls Try.prog 41 #[.int .i64 (m : Int), .slice V n c, .slice V' n' c'] w fun x w' => ∃ A k, x = .returned (.slice A (Gf.rest m (pe m p) (pe m q)).length k) ∧ IsVw A (Gf.rest m (pe m p) (pe m q)).length k A 0 ∧
      St w0 M w' (.own A (Gf.rest m (pe m p) (pe m q)).length k 3 1 (zv (nv (Gf.rest m (pe m p) (pe m q)))) :: L) := by
  have hb := (pe_el h q).trim
  have hbt := Gf.Tr.of_trim (pe m q)
  have ha0 := (pe_el h p).trim
  have hat0 := Gf.Tr.of_trim (pe m p)
  have hlb := Gf.tl_le (pe m q)
  have hla := Gf.tl_le (pe m p)
  rw [pe_length] at hla hlb
  have hlp : (pe m p).length = n := by rw [pe_length, hn]
  have hlq : (pe m q).length = n' := by rw [pe_length, hn']
  have hdef : Gf.rest m (pe m p) (pe m q) = if Gf.trim (pe m q) = [] then [] else Gf.restL m (Gf.trim (pe m q)) (Gf.trim (pe m p)) := rfl
  (refine calls_of (P := Try.prog) _ Try.func41 rfl Try.ntmps41 (Nat.le_of_ble_eq_true rfl) ?_; dsimp only [argE, Nat.reduceAdd])
  (refine Reach.walk ?_; (repeat (first | ((with_reducible refine AllSt.mk ?_); (try clear hS); intro w hS) | ((with_reducible refine AllVw.mk ?_); intro V hV))))
  replace hS := hS.nil_ (el := 3) (sz := 1)
  apply Wp.loopUp n (fun i e w' => ∃ A c1, IsVw A i c1 A 0 ∧ St w0 M w' (.own A i c1 3 1 (zv (nv ((pe m p).take i))) :: L) ∧ e.Has [(8, .int .i64 (i : Nat)), (7, .slice A i c1), (0, .int .i64 (m : Nat)), (1, .slice V n c), (2, .slice V' n' c')]) (Nat.zero_le n)
    ⟨none, 0, IsVw.nil, hS, rfl, rfl, rfl, rfl, rfl, trivial⟩
  clear hS
  rintro i e w hi ⟨A, ca, hA, hS, he⟩
  obtain ⟨e0, rfl⟩ := he.eq
  clear he
  dsimp only [Env.sets]
  by_cases hlt : i < n
  · have hnx := pe_snoc (m := m) (p := p) (i := i) (by omega)
    have hln : (nv ((pe m p).take i)).length = i := by simp; omega
    generalize nv ((pe m p).take i) = l at *
    (refine Reach.walk ?_; (repeat (first | ((with_reducible refine AllSt.mk ?_); (try clear hS); intro w hS) | ((with_reducible refine AllVw.mk ?_); intro V hV))))
    refine WpL.ldV hr hS.tail (zvg (i := i) (by omega)) rfl rfl ?_
    (refine Reach.walk ?_; (repeat (first | ((with_reducible refine AllSt.mk ?_); (try clear hS); intro w hS) | ((with_reducible refine AllVw.mk ?_); intro V hV))))
    (with_reducible apply WpL.call); (· exact rfl); (· exact Try.call30); (· exact Vals.found)
    refine (refIn_any h _ _).mono ?_
    rintro x w1 ⟨rfl, rfl⟩
    refine ⟨_, rfl, ?_⟩
    (refine Reach.walk ?_; (repeat (first | ((with_reducible refine AllSt.mk ?_); (try clear hS); intro w hS) | ((with_reducible refine AllVw.mk ?_); intro V hV))))
    ((with_reducible apply WpL.bs); (· assumption); (· exact rfl); (· exact BVals.found); (· exact oneAll_spec rfl); (· exact rfl); (· decide); (· exact listFound); clear hS)
    intro A2 w hV2 hS
    (refine Reach.walk ?_; (repeat (first | ((with_reducible refine AllSt.mk ?_); (try clear hS); intro w hS) | ((with_reducible refine AllVw.mk ?_); intro V hV))))
    ((with_reducible apply WpL.app); (· assumption); (· exact rfl); (· exact rfl); (· exact rfl); (· exact Sel.found); (· simp only [Nat.mul_one]; exact RdsV.found); (· exact onesFound); (· exact catFound); (· omega); (· omega); clear hS)
    intro A3 c3 w hV3 hS
    replace hS := hS.perm (List.Perm.swap _ _ _) |>.tail
    (refine Reach.walk ?_; (repeat (first | ((with_reducible refine AllSt.mk ?_); (try clear hS); intro w hS) | ((with_reducible refine AllVw.mk ?_); intro V hV))))
    refine ⟨hlt, A3, c3, hV3, ?_, int_eq (by omega), rfl, rfl, rfl, rfl, trivial⟩
    rw [← hnx]
    exact hS
  obtain rfl : i = n := by omega
  rw [List.take_of_length_le (by omega)] at hS
  (refine Reach.walk ?_; (repeat (first | ((with_reducible refine AllSt.mk ?_); (try clear hS); intro w hS) | ((with_reducible refine AllVw.mk ?_); intro V hV))))
  replace hS := hS.nil_ (el := 3) (sz := 1)
  apply Wp.loopUp n' (fun k e w' => ∃ B cb, IsVw B k cb B 0 ∧ St w0 M w' (.own B k cb 3 1 (zv (nv ((pe m q).take k))) :: .own A i ca 3 1 (zv (nv (pe m p))) :: L) ∧ e.Has [(10, .int .i64 (k : Nat)), (9, .slice B k cb), (7, .slice A i ca), (0, .int .i64 (m : Nat)), (1, .slice V i c), (2, .slice V' n' c')]) (Nat.zero_le n')
    ⟨none, 0, IsVw.nil, hS, rfl, rfl, rfl, rfl, rfl, rfl, trivial⟩
  clear hS hlt
  rintro k e w hk ⟨B, cb, hB, hS, he⟩
  obtain ⟨e0, rfl⟩ := he.eq
  clear he
  dsimp only [Env.sets]
  by_cases hlt : k < n'
  · have hnx := pe_snoc (m := m) (p := q) (i := k) (by omega)
    have hln : (nv ((pe m q).take k)).length = k := by simp; omega
    generalize nv ((pe m q).take k) = l at *
    (refine Reach.walk ?_; (repeat (first | ((with_reducible refine AllSt.mk ?_); (try clear hS); intro w hS) | ((with_reducible refine AllVw.mk ?_); intro V hV))))
    refine WpL.ldV hr' hS.tail.tail (zvg (i := k) (by omega)) rfl rfl ?_
    (refine Reach.walk ?_; (repeat (first | ((with_reducible refine AllSt.mk ?_); (try clear hS); intro w hS) | ((with_reducible refine AllVw.mk ?_); intro V hV))))
    (with_reducible apply WpL.call); (· exact rfl); (· exact Try.call30); (· exact Vals.found)
    refine (refIn_any h _ _).mono ?_
    rintro x w1 ⟨rfl, rfl⟩
    refine ⟨_, rfl, ?_⟩
    (refine Reach.walk ?_; (repeat (first | ((with_reducible refine AllSt.mk ?_); (try clear hS); intro w hS) | ((with_reducible refine AllVw.mk ?_); intro V hV))))
    ((with_reducible apply WpL.bs); (· assumption); (· exact rfl); (· exact BVals.found); (· exact oneAll_spec rfl); (· exact rfl); (· decide); (· exact listFound); clear hS)
    intro A2 w hV2 hS
    (refine Reach.walk ?_; (repeat (first | ((with_reducible refine AllSt.mk ?_); (try clear hS); intro w hS) | ((with_reducible refine AllVw.mk ?_); intro V hV))))
    ((with_reducible apply WpL.app); (· assumption); (· exact rfl); (· exact rfl); (· exact rfl); (· exact Sel.found); (· simp only [Nat.mul_one]; exact RdsV.found); (· exact onesFound); (· exact catFound); (· omega); (· omega); clear hS)
    intro A3 c3 w hV3 hS
    replace hS := hS.perm (List.Perm.swap _ _ _) |>.tail
    (refine Reach.walk ?_; (repeat (first | ((with_reducible refine AllSt.mk ?_); (try clear hS); intro w hS) | ((with_reducible refine AllVw.mk ?_); intro V hV))))
    refine ⟨hlt, A3, c3, hV3, ?_, int_eq (by omega), rfl, rfl, rfl, rfl, rfl, trivial⟩
    rw [← hnx]
    exact hS
  obtain rfl : k = n' := by omega
  rw [List.take_of_length_le (by omega)] at hS
  (refine Reach.walk ?_; (repeat (first | ((with_reducible refine AllSt.mk ?_); (try clear hS); intro w hS) | ((with_reducible refine AllVw.mk ?_); intro V hV))))
  (with_reducible apply WpL.call); (· exact rfl); (· exact Try.call50); (· exact Vals.found)
  refine (refTrim_any (l := pe m p) hlp hA (by omega) (.there (.whole .own (by simp [hn])) _) hS).mono ?_
  rintro x w2 ⟨rfl, rfl⟩
  refine ⟨_, rfl, ?_⟩
  (refine Reach.walk ?_; (repeat (first | ((with_reducible refine AllSt.mk ?_); (try clear hS); intro w hS) | ((with_reducible refine AllVw.mk ?_); intro V hV))))
  (with_reducible apply WpL.call); (· exact rfl); (· exact Try.call50); (· exact Vals.found)
  refine (refTrim_any (l := pe m q) hlq hB (by omega) (.whole .own (by simp [hn'])) hS).mono ?_
  rintro x w2 ⟨rfl, rfl⟩
  refine ⟨_, rfl, ?_⟩
  have h2 := hS.shrink (k := Gf.tl (pe m q)) (by omega)
  rw [nv_take] at h2
  replace h2 := (h2.perm (List.Perm.swap _ _ _)).shrink (k := Gf.tl (pe m p)) (by omega)
  rw [nv_take] at h2
  replace h2 := h2.perm (List.Perm.swap _ _ _)
  have hS : St w0 M w (.own B (Gf.tl (pe m q)) cb 3 1 (zv (nv (Gf.trim (pe m q)))) :: .own A (Gf.tl (pe m p)) ca 3 1 (zv (nv (Gf.trim (pe m p)))) :: L) := h2
  clear h2
  have hA : IsVw A (Gf.tl (pe m p)) ca A 0 := ⟨by have := hA.le; omega, hA.max, hA.at_⟩
  have hB : IsVw B (Gf.tl (pe m q)) cb B 0 := ⟨by have := hB.le; omega, hB.max, hB.at_⟩
  rw [← Gf.trim_length, ← Gf.trim_length] at hS
  rw [← Gf.trim_length] at hA hB hla hlb
  rw [← Gf.trim_length, ← Gf.trim_length]
  clear hlp hlq hlt
  generalize Gf.rest m (pe m p) (pe m q) = tgt at *
  generalize Gf.trim (pe m q) = b at *
  generalize Gf.trim (pe m p) = a0 at *
  by_cases hb0 : b = []
  · subst hb0
    rw [if_pos rfl] at hdef
    subst hdef
    (refine Reach.walk ?_; (repeat (first | ((with_reducible refine AllSt.mk ?_); (try clear hS); intro w hS) | ((with_reducible refine AllVw.mk ?_); intro V hV))))
    (with_reducible apply doneQ_one Try.results41); (· exact slotFound)
    exact ⟨none, 0, rfl, IsVw.nil, hS.tail.tail.nil_⟩
  rw [if_neg hb0] at hdef
  have hb1 : 0 < b.length := List.length_pos_iff.2 hb0
  have hget : (zv (nv b))[b.length - 1]? = some (.int .i64 (Gf.cf b (b.length - 1) : Nat)) := nv_cell (by omega)
  have hbc := hb.cf (b.length - 1)
  have htop : Gf.inv m (Gf.cf b (b.length - 1)) < 2 ^ m := Gf.inv_lt h _
  have hs2 := Gf.sz_le h
  have hsa := Gf.sz_add h
  have hcb : (b.length : Int) - 1 = ((b.length - 1 : Nat) : Int) := by omega
  (refine Reach.walk ?_; (repeat (first | ((with_reducible refine AllSt.mk ?_); (try clear hS); intro w hS) | ((with_reducible refine AllVw.mk ?_); intro V hV))))
  apply Wp.loopG (m := a0.length) (fun k e w' => ∃ a : List Nat, k = a.length ∧ a.length ≤ p.length ∧ Gf.El m a ∧ Gf.Tr a ∧ Gf.restL m b a = tgt ∧ IsVw A a.length ca A 0 ∧ St w0 M w' (.own B b.length cb 3 1 (zv (nv b)) :: .own A a.length ca 3 1 (zv (nv a)) :: L) ∧
      e.Has [(7, .slice A a.length ca), (9, .slice B b.length cb), (0, .int .i64 (m : Nat))])
    ⟨a0, rfl, hla, ha0, hat0, hdef.symm, hA, hS, rfl, rfl, rfl, trivial⟩
  clear hS hA hla ha0 hat0 hdef
  rintro _ e w4 ⟨a, rfl, hla, ha, hat, htgt, hA, hS, he⟩
  obtain ⟨e0, rfl⟩ := he.eq
  clear he
  dsimp only [Env.sets]
  by_cases hlt : b.length ≤ a.length
  · have hca : (a.length : Int) - 1 = ((a.length - 1 : Nat) : Int) := by omega
    have hcab : (a.length : Int) - (b.length : Int) = ((a.length - b.length : Nat) : Int) := by omega
    have hgeta : (zv (nv a))[a.length - 1]? = some (.int .i64 (Gf.cf a (a.length - 1) : Nat)) := nv_cell (by omega)
    have hac := ha.cf (a.length - 1)
    have hstep := Gf.restL_step h ha hb hbt hb1 hlt
    have hslt := Gf.stepR_lt h ha hb hbt hb1 hlt
    have hsel := Gf.stepR_el h (b := b) ha
    have hcl : Gf.topC m a b < 2 ^ m := Gf.topC_lt h ha
    have hcd : Gf.mul m (Gf.cf a (a.length - 1)) (Gf.inv m (Gf.cf b (b.length - 1))) = Gf.topC m a b := rfl
    have hse : Gf.stepR m a b = Gf.trim (Gf.addRow m a.length (Gf.cf a) (Gf.topC m a b) b (a.length - b.length) b.length) := by rw [Gf.sub_row h]; rfl
    have hstr : Gf.Tr (Gf.stepR m a b) := by rw [hse]; exact .of_trim _
    rw [hstep] at htgt
    clear hstep
    (refine Reach.walk ?_; (repeat (first | ((with_reducible refine AllSt.mk ?_); (try clear hS); intro w hS) | ((with_reducible refine AllVw.mk ?_); intro V hV))))
    (refine Wp.drawF 16 (fun w => St w0 M w (.own B b.length cb 3 1 (zv (nv b)) :: .own A a.length ca 3 1 (zv (nv a)) :: L)) ?_ (by kernel_rfl) (by kernel_rfl) rfl ?_; rotate_left; dsimp only [List.take, List.drop]; rotate_left)
    · exact hS.drew
    (repeat (first | ((with_reducible apply RgF.det); (· exact rfl); (· exact rfl); (· exact Det.found2))))
    refine RgF.ld (fun w2 hS => (RdsV.whole (n := a.length) .own (by simp)).cellAt hS.tail hgeta) rfl rfl ?_
    (repeat (first | ((with_reducible apply RgF.det); (· exact rfl); (· exact rfl); (· exact Det.found2))))
    refine RgF.ld (fun w2 hS => (RdsV.whole (n := b.length) .own (by simp)).cellAt hS hget) rfl rfl ?_
    (repeat (first | ((with_reducible apply RgF.det); (· exact rfl); (· exact rfl); (· exact Det.found2))))
    refine RgF.op (c := .int .i64 (Gf.inv m (Gf.cf b (b.length - 1)) : Nat)) rfl rfl (fun w2 hS => ?_) ?_
    · (with_reducible apply WpL.call); (· exact rfl); (· exact Try.call32); (· exact Vals.found)
      refine (refInv_any h _ _).mono ?_
      rintro x w3 ⟨rfl, rfl⟩
      exact ⟨_, by rw [inE_nat h hbc], WpL.nil ⟨hS, Env.set_same _ _ _⟩⟩
    (repeat (first | ((with_reducible apply RgF.det); (· exact rfl); (· exact rfl); (· exact Det.found2))))
    refine RgF.op (c := .int .i64 (Gf.topC m a b : Nat)) rfl rfl (fun w2 hS => ?_) ?_
    · (with_reducible apply WpL.call); (· exact rfl); (· exact Try.call31); (· exact Vals.found)
      refine (refMul_any h _ _ _).mono ?_
      rintro x w3 ⟨rfl, rfl⟩
      exact ⟨_, by rw [inE_nat h hac, inE_nat h htop, hcd], WpL.nil ⟨hS, Env.set_same _ _ _⟩⟩
    (repeat (first | ((with_reducible apply RgF.det); (· exact rfl); (· exact rfl); (· exact Det.found2))))
    refine RgF.fin ?_
    clear hS
    intro w hS
    generalize Gf.inv m (Gf.cf b (b.length - 1)) = top at *
    clear hget hgeta
    (refine Reach.walk ?_; (repeat (first | ((with_reducible refine AllSt.mk ?_); (try clear hS); intro w hS) | ((with_reducible refine AllVw.mk ?_); intro V hV))))
    have hS' : St w0 M w (.own B b.length cb 3 1 (zv (nv b)) :: .own A a.length ca 3 1 (zv (nv (Gf.addRow m a.length (Gf.cf a) (Gf.topC m a b) b (a.length - b.length) 0))) :: L) := by rw [Gf.addRow_zero, Gf.range_cf]; exact hS
    clear hS
    clear hcd
    generalize Gf.topC m a b = cc at *
    apply Wp.loopUp b.length (fun k e w' => St w0 M w' (.own B b.length cb 3 1 (zv (nv b)) :: .own A a.length ca 3 1 (zv (nv (Gf.addRow m a.length (Gf.cf a) cc b (a.length - b.length) k))) :: L) ∧ e.Has [(12, .int .i64 (k : Nat)), (11, .int .i64 (cc : Nat)), (7, .slice A a.length ca), (9, .slice B b.length cb), (0, .int .i64 (m : Nat))]) (Nat.zero_le _)
      ⟨hS', rfl, rfl, rfl, rfl, rfl, trivial⟩
    clear hS'
    rintro k e w6 hk ⟨hS, he⟩
    obtain ⟨e0, rfl⟩ := he.eq
    clear he
    dsimp only [Env.sets]
    by_cases hlk : k < b.length
    · have hik : a.length - b.length + k < a.length := by omega
      have hrat := Gf.addRow_at (m := m) (B := Gf.cf a) (c := cc) (b := b) hik
      have hset := Gf.addRow_set (m := m) (B := Gf.cf a) (c := cc) (b := b) hik
      have hlen : (nv (Gf.addRow m a.length (Gf.cf a) cc b (a.length - b.length) k)).length = a.length := by simp
      have hgr : (zv (nv (Gf.addRow m a.length (Gf.cf a) cc b (a.length - b.length) k)))[a.length - b.length + k]? = some (.int .i64 (Gf.cf a (a.length - b.length + k) : Nat)) := by
        rw [nv_cell (by simpa using hik), hrat]
      have hgb : (zv (nv b))[k]? = some (.int .i64 (Gf.cf b k : Nat)) := nv_cell hlk
      have hrl := ha.cf (a.length - b.length + k)
      have hbk := hb.cf k
      have hml := Gf.mul_lt h (b := Gf.cf b k) hcl
      generalize Gf.addRow m a.length (Gf.cf a) cc b (a.length - b.length) k = R at *
      generalize Gf.cf a (a.length - b.length + k) = y at *
      have hcik : ((a.length - b.length : Nat) : Int) + (k : Int) = ((a.length - b.length + k : Nat) : Int) := by omega
      (refine Reach.walk ?_; (repeat (first | ((with_reducible refine AllSt.mk ?_); (try clear hS); intro w hS) | ((with_reducible refine AllVw.mk ?_); intro V hV))))
      (refine Wp.drawF 15 (fun w => St w0 M w (.own B b.length cb 3 1 (zv (nv b)) :: .own A a.length ca 3 1 (zv (nv R)) :: L)) ?_ (by kernel_rfl) (by kernel_rfl) rfl ?_; rotate_left; dsimp only [List.take, List.drop]; rotate_left)
      · exact hS.drew
      (repeat (first | ((with_reducible apply RgF.det); (· exact rfl); (· exact rfl); (· exact Det.found2))))
      refine RgF.ld (fun w2 hS => (RdsV.whole (n := a.length) .own (by simpa using hlen)).cellAt hS.tail hgr) rfl rfl ?_
      (repeat (first | ((with_reducible apply RgF.det); (· exact rfl); (· exact rfl); (· exact Det.found2))))
      refine RgF.ld (fun w2 hS => (RdsV.whole (n := b.length) .own (by simp)).cellAt hS hgb) rfl rfl ?_
      (repeat (first | ((with_reducible apply RgF.det); (· exact rfl); (· exact rfl); (· exact Det.found2))))
      refine RgF.op (c := .int .i64 (Gf.mul m cc (Gf.cf b k) : Nat)) rfl rfl (fun w2 hS => ?_) ?_
      · (with_reducible apply WpL.call); (· exact rfl); (· exact Try.call31); (· exact Vals.found)
        refine (refMul_any h _ _ _).mono ?_
        rintro x w3 ⟨rfl, rfl⟩
        exact ⟨_, by rw [inE_nat h hcl, inE_nat h hbk], WpL.nil ⟨hS, Env.set_same _ _ _⟩⟩
      (repeat (first | ((with_reducible apply RgF.det); (· exact rfl); (· exact rfl); (· exact Det.found2))))
      refine RgF.fin ?_
      clear hS
      intro w hS
      (replace hS := (hS.take (pre := [.own A _ _ _ _ _]) Take.found); (try simp only [List.cons_append, List.nil_append] at hS))
      (refine Reach.walk ?_; (repeat (first | ((with_reducible refine AllSt.mk ?_); (try clear hS); intro w hS) | ((with_reducible refine AllVw.mk ?_); intro V hV))))
      rw [nv_set, hset] at hS
      (replace hS := (hS.take (pre := [.own B _ _ _ _ _, .own A _ _ _ _ _]) Take.found); (try simp only [List.cons_append, List.nil_append] at hS))
      exact ⟨hlk, hS, int_eq (by omega), rfl, rfl, rfl, rfl, trivial⟩
    · obtain rfl : k = b.length := by omega
      have hRl : (Gf.addRow m a.length (Gf.cf a) cc b (a.length - b.length) b.length).length = a.length := by simp
      generalize Gf.addRow m a.length (Gf.cf a) cc b (a.length - b.length) b.length = R at *
      (replace hS := (hS.take (pre := [.own A _ _ _ _ _]) Take.found); (try simp only [List.cons_append, List.nil_append] at hS))
      (refine Reach.walk ?_; (repeat (first | ((with_reducible refine AllSt.mk ?_); (try clear hS); intro w hS) | ((with_reducible refine AllVw.mk ?_); intro V hV))))
      (with_reducible apply WpL.call); (· exact rfl); (· exact Try.call50); (· exact Vals.found)
      refine (refTrim_any (l := R) hRl hA (by omega) (RdsV.whole .own (by simp [hRl])) hS).mono ?_
      rintro x w2 ⟨rfl, rfl⟩
      refine ⟨_, rfl, ?_⟩
      have hle : Gf.tl R ≤ a.length := by have := Gf.tl_le R; omega
      have h2 := hS.shrink hle
      rw [nv_take] at h2
      have h3 : St w0 M _ (.own A (Gf.tl R) ca 3 1 (zv (nv (Gf.trim R))) :: .own B b.length cb 3 1 (zv (nv b)) :: L) := h2
      rw [← Gf.trim_length, ← hse] at h3
      rw [← Gf.trim_length, ← hse] at hle
      rw [← Gf.trim_length, ← hse]
      generalize Gf.stepR m a b = a' at *
      (refine Reach.walk ?_; (repeat (first | ((with_reducible refine AllSt.mk ?_); (try clear hS); intro w hS) | ((with_reducible refine AllVw.mk ?_); intro V hV))))
      exact ⟨_, hslt, a', rfl, by omega, hsel, hstr, htgt, ⟨by have := hA.le; omega, hA.max, hA.at_⟩, h3.perm (List.Perm.swap _ _ _), rfl, rfl, rfl, trivial⟩
  · have hd := Gf.restL_done h (Nat.lt_of_not_le hlt)
    rw [hd] at htgt
    subst htgt
    (refine Reach.walk ?_; (repeat (first | ((with_reducible refine AllSt.mk ?_); (try clear hS); intro w hS) | ((with_reducible refine AllVw.mk ?_); intro V hV))))
    (with_reducible apply doneQ_one Try.results41); (· exact slotFound)
    exact ⟨A, ca, rfl, hA, hS.tail⟩
end
end Go.Proofs.Ytkffgdccjgdiaaa
