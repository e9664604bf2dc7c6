/-
  What is left of a product and something is that something.
-/
import Derived.Test.YtkffgdccjgdiaaaGfT
namespace Go.Proofs.Ytkffgdccjgdiaaa
open Go.Fk Go.RowKit
attribute [local irreducible] Wp WpL Det thenQ blockQ
theorem _root_.Go.Gf.cf_zeros (T : List Nat) (k t : Nat) : Gf.cf (T ++ List.replicate k 0) t = Gf.cf T t := by
  rcases Nat.lt_or_ge t T.length with h | h
  · simp [Gf.cf, List.getD_eq_getElem?_getD, List.getElem?_append_left h]
  · rw [Gf.cf_over h]
    simp only [Gf.cf, List.getD_eq_getElem?_getD, List.getElem?_append_right h, List.getElem?_replicate]
    split <;> rfl
theorem _root_.Go.Gf.rest_sum {m : Nat} (h : Gf.Is m) {P Q R S : List Nat} (hP : Gf.El m P) (hQ : Gf.El m Q) (hQt : Gf.Tr Q) (hRt : Gf.Tr R) (hlen : R.length < Q.length) (hS : Gf.El m S) (hc : ∀ t, Gf.cf S t = Gf.cf (Gf.times m P Q) t ^^^ Gf.cf R t) : Gf.rest m S Q = R := by
  unfold Gf.rest
  rw [hQt.eq, if_neg (fun e => by rw [e] at hlen; exact absurd hlen (Nat.not_lt_zero _))]
  refine Gf.restL_product h hQ hQt hRt hlen P.length P (Gf.trim S) hP hS.trim (Gf.Tr.of_trim S) rfl fun t => ?_
  rw [Gf.cf_trim, hc, Gf.times, Gf.cf_trim, Gf.rs_conv h]
set_option maxHeartbeats 8000000 in
theorem gfDivides_any {c : Int} (hc : I64 c) {V : Option Addr} {n k : Nat} {p : List Int} (hn : p.length = n) (hV : IsVw V n k V 0) (hm : n ≤ 140737488355328)
    {V' : Option Addr} {n' k' : Nat} {q : List Int} (hn' : q.length = n') (hV' : IsVw V' n' k' V' 0) (hm' : n' ≤ 140737488355328)
    {V'' : Option Addr} {n'' k'' : Nat} {r : List Int} (hn'' : r.length = n'') (hV'' : IsVw V'' n'' k'' V'' 0) (hm'' : n'' ≤ 140737488355328) (W : World) (hr : Rd W V (zv p)) (hr' : Rd W V' (zv q)) (hr'' : Rd W V'' (zv r)) :
    Calls Try.prog 12 #[.int .i64 c, .slice V n k, .slice V' n' k', .slice V'' n'' k''] W fun x w' => x = .returned (.bool true) ∧ Below W.heap.size W w' := by
  have hS0 := (((St.start W).startRo hr'').startRo hr').startRo hr
  have hp : RdsV [Ch.ro V (zv p), .ro V' (zv q), .ro V'' (zv r)] V n (zv p) := .whole .ro (by simp [hn])
  have hq : RdsV [Ch.ro V (zv p), .ro V' (zv q), .ro V'' (zv r)] V' n' (zv q) := .there (.whole .ro (by simp [hn'])) _
  have hq' : RdsV [Ch.ro V (zv p), .ro V' (zv q), .ro V'' (zv r)] V'' n'' (zv r) := .there (.there (.whole .ro (by simp [hn''])) _) _
  (refine calls_of (P := Try.prog) _ Try.func12 rfl Try.ntmps12 (Nat.le_of_ble_eq_true rfl) ?_; dsimp only [argE, Nat.reduceAdd])
  (refine Reach.walk ?_; (repeat (first | ((with_reducible refine AllSt.mk ?_); (try clear hS); intro w hS) | ((with_reducible refine AllVw.mk ?_); intro V hV))))
  (with_reducible apply WpL.call); (· exact rfl); (· exact Try.call14); (· exact Vals.found)
  refine (awake_any hS0).mono ?_
  clear hS0
  rintro x0 w ⟨rfl, hS⟩
  refine ⟨_, rfl, ?_⟩
  (refine Reach.walk ?_; (repeat (first | ((with_reducible refine AllSt.mk ?_); (try clear hS); intro w hS) | ((with_reducible refine AllVw.mk ?_); intro V hV))))
  (with_reducible apply WpL.call); (· exact rfl); (· exact Try.call15); (· exact Vals.found)
  refine (field_any hc hS).mono ?_
  clear hS
  rintro x0 w ⟨g, rfl, hI⟩
  refine ⟨_, rfl, ?_⟩
  have h := pickM_is c
  generalize pickM c = m at *
  have hs2 := Gf.sz_le h
  have hsa := Gf.sz_add h
  by_cases hl1 : 40 < n
  · (refine Reach.walk ?_; (repeat (first | ((with_reducible refine AllSt.mk ?_); (try clear hS); intro w hS) | ((with_reducible refine AllVw.mk ?_); intro V hV))))
    (with_reducible apply doneQ_one Try.results12); (· exact slotFound)
    exact ⟨rfl, hI.toBelow⟩
  by_cases hl2 : 40 < n'
  · (refine Reach.walk ?_; (repeat (first | ((with_reducible refine AllSt.mk ?_); (try clear hS); intro w hS) | ((with_reducible refine AllVw.mk ?_); intro V hV))))
    (with_reducible apply doneQ_one Try.results12); (· exact slotFound)
    exact ⟨rfl, hI.toBelow⟩
  by_cases hl3 : 40 < n''
  · (refine Reach.walk ?_; (repeat (first | ((with_reducible refine AllSt.mk ?_); (try clear hS); intro w hS) | ((with_reducible refine AllVw.mk ?_); intro V hV))))
    (with_reducible apply doneQ_one Try.results12); (· exact slotFound)
    exact ⟨rfl, hI.toBelow⟩
  generalize hL0 : [Ch.ro V (zv p), .ro V' (zv q), .ro V'' (zv r)] = L0 at *
  have hpl := pe_length m p
  have hql := pe_length m q
  have hrl := pe_length m r
  have htq := Gf.times_len h (pe m q) [1]
  have htr := Gf.times_len h (pe m r) [1]
  have hqe := Gf.times_el h (q := [1]) (pe_el h q)
  have hre := Gf.times_el h (q := [1]) (pe_el h r)
  have hqt : Gf.Tr (Gf.times m (pe m q) [1]) := Gf.Tr.of_trim _
  have hrt : Gf.Tr (Gf.times m (pe m r) [1]) := Gf.Tr.of_trim _
  have h1e := pe_nv h (Gf.one_el h)
  rw [List.length_singleton] at htq htr
  generalize hQ : Gf.times m (pe m q) [1] = Q at *
  generalize hR : Gf.times m (pe m r) [1] = R at *
  obtain ⟨F, hF, hS⟩ := hI
  (refine Reach.walk ?_; (repeat (first | ((with_reducible refine AllSt.mk ?_); (try clear hS); intro w hS) | ((with_reducible refine AllVw.mk ?_); intro V hV))))
  ((with_reducible apply WpL.bs); (· assumption); (· exact rfl); (· exact BVals.found); (· exact oneAll_spec rfl); (· exact rfl); (· decide); (· exact listFound); clear hS)
  intro B w hB hS
  have h2 : St W (feet []) w (.own B 1 1 3 1 (zv (nv [1])) :: F.blk g m :: F.p :: F.l :: L0) := hS
  have hI : FI W (feet []) g m (.own B 1 1 3 1 (zv (nv [1])) :: L0) w := ⟨F, hF, h2.take (pre := [F.blk g m, F.p, F.l, .own B _ _ _ _ _]) Take.found⟩
  clear hS h2 hF
  (refine Reach.walk ?_; (repeat (first | ((with_reducible refine AllSt.mk ?_); (try clear hS); intro w hS) | ((with_reducible refine AllVw.mk ?_); intro V hV))))
  (with_reducible apply WpL.call); (· exact rfl); (· exact Try.call27); (· exact Vals.found)
  refine (times_any h hn' hV' (by omega) (.there hq _) (q := nv [1]) rfl hB (by decide) (.whole .own rfl) hI).mono ?_
  clear hI
  rintro x0 w ⟨QA, kq, rfl, hQA, hI⟩
  refine ⟨_, rfl, ?_⟩
  rw [h1e, hQ] at hQA hI ⊢
  replace hI := hI.sub (.cons_cons _ (List.sublist_cons_self _ _))
  obtain ⟨F, hF, hS⟩ := hI
  (refine Reach.walk ?_; (repeat (first | ((with_reducible refine AllSt.mk ?_); (try clear hS); intro w hS) | ((with_reducible refine AllVw.mk ?_); intro V hV))))
  ((with_reducible apply WpL.bs); (· assumption); (· exact rfl); (· exact BVals.found); (· exact oneAll_spec rfl); (· exact rfl); (· decide); (· exact listFound); clear hS)
  intro B2 w hB2 hS
  have h2 : St W (feet []) w (.own B2 1 1 3 1 (zv (nv [1])) :: F.blk g m :: F.p :: F.l :: .own QA Q.length kq 3 1 (zv (nv Q)) :: L0) := hS
  have hI : FI W (feet []) g m (.own B2 1 1 3 1 (zv (nv [1])) :: .own QA Q.length kq 3 1 (zv (nv Q)) :: L0) w := ⟨F, hF, h2.take (pre := [F.blk g m, F.p, F.l, .own B2 _ _ _ _ _]) Take.found⟩
  clear hS h2 hF
  (refine Reach.walk ?_; (repeat (first | ((with_reducible refine AllSt.mk ?_); (try clear hS); intro w hS) | ((with_reducible refine AllVw.mk ?_); intro V hV))))
  (with_reducible apply WpL.call); (· exact rfl); (· exact Try.call27); (· exact Vals.found)
  refine (times_any h hn'' hV'' (by omega) (.there (.there hq' _) _) (q := nv [1]) rfl hB2 (by decide) (.whole .own rfl) hI).mono ?_
  clear hI
  rintro x0 w ⟨RA, kr, rfl, hRA, hI⟩
  refine ⟨_, rfl, ?_⟩
  rw [h1e, hR] at hRA hI ⊢
  replace hI := hI.sub (.cons_cons _ (List.sublist_cons_self _ _))
  by_cases hq0 : Q.length = 0
  · have hq0' : (Q.length : Int) = 0 := by omega
    (refine Reach.walk ?_; (repeat (first | ((with_reducible refine AllSt.mk ?_); (try clear hS); intro w hS) | ((with_reducible refine AllVw.mk ?_); intro V hV))))
    (with_reducible apply doneQ_one Try.results12); (· exact slotFound)
    exact ⟨rfl, hI.toBelow⟩
  by_cases hqr : Q.length ≤ R.length
  · have hq0' : ¬ (Q.length : Int) = 0 := by omega
    (refine Reach.walk ?_; (repeat (first | ((with_reducible refine AllSt.mk ?_); (try clear hS); intro w hS) | ((with_reducible refine AllVw.mk ?_); intro V hV))))
    (with_reducible apply doneQ_one Try.results12); (· exact slotFound)
    exact ⟨rfl, hI.toBelow⟩
  have hq0' : ¬ (Q.length : Int) = 0 := by omega
  have hqr' : ¬ (Q.length : Int) ≤ (R.length : Int) := by omega
  have htt := Gf.times_len h (pe m p) Q
  have htd : pe m (nv Q) = Q := pe_nv h hqe
  have hT : Gf.times m (pe m p) Q = Gf.times m (pe m p) Q := rfl
  (refine Reach.walk ?_; (repeat (first | ((with_reducible refine AllSt.mk ?_); (try clear hS); intro w hS) | ((with_reducible refine AllVw.mk ?_); intro V hV))))
  (with_reducible apply WpL.call); (· exact rfl); (· exact Try.call27); (· exact Vals.found)
  refine (times_any h hn hV (by omega) (.there (.there hp _) _) (q := nv Q) (by simp) hQA (by omega) (.there (.whole .own (by simp)) _) hI).mono ?_
  clear hI
  rintro x0 w ⟨A, ka, rfl, hA, hI⟩
  refine ⟨_, rfl, ?_⟩
  rw [htd] at hA hI ⊢
  have hrest : ∀ S : List Nat, Gf.El m S → (∀ t, Gf.cf S t = Gf.cf (Gf.times m (pe m p) Q) t ^^^ Gf.cf R t) → Gf.rest m S Q = R := fun S hS hc => Gf.rest_sum h (pe_el h p) hqe hqt hrt (by omega) hS hc
  have hte := Gf.times_el h (q := Q) (pe_el h p)
  clear hT
  generalize Gf.times m (pe m p) Q = T at *
  (refine Reach.walk ?_; (repeat (first | ((with_reducible refine AllSt.mk ?_); (try clear hS); intro w hS) | ((with_reducible refine AllVw.mk ?_); intro V hV))))
  apply Wp.loopUp (R.length - T.length) (fun i e w' => ∃ A ka, IsVw A (T.length + i) ka A 0 ∧ FI W (feet []) g m (.own A (T.length + i) ka 3 1 (zv (nv (T ++ List.replicate i 0))) :: .own RA R.length kr 3 1 (zv (nv R)) :: .own QA Q.length kq 3 1 (zv (nv Q)) :: L0) w' ∧
      e.Has [(12, .slice A (T.length + i) ka), (3, .slice RA R.length kr), (2, .slice QA Q.length kq), (10, .pointer (some ⟨g, 0, none⟩))]) (Nat.zero_le _)
    ⟨A, ka, hA, by rw [show T ++ List.replicate 0 0 = T from List.append_nil T]; exact hI, rfl, rfl, rfl, rfl, trivial⟩
  clear hI hA
  rintro i e w hi ⟨A, ka, hA, hI, he⟩
  obtain ⟨e0, rfl⟩ := he.eq
  clear he
  dsimp only [Env.sets]
  by_cases hlt : T.length + i < R.length
  · have hnx : nv (T ++ List.replicate i 0) ++ [0] = nv (T ++ List.replicate (i + 1) 0) := by
      rw [List.replicate_succ', ← List.append_assoc]
      simp [nv]
    have hln : (nv (T ++ List.replicate i 0)).length = T.length + i := by simp
    generalize nv (T ++ List.replicate i 0) = l at *
    obtain ⟨F, hF, hS⟩ := hI
    (refine Reach.walk ?_; (repeat (first | ((with_reducible refine AllSt.mk ?_); (try clear hS); intro w hS) | ((with_reducible refine AllVw.mk ?_); intro V hV))))
    ((with_reducible apply WpL.bs); (· assumption); (· exact rfl); (· exact BVals.found); (· exact oneAll_spec rfl); (· exact rfl); (· decide); (· exact listFound); clear hS)
    intro B w hB hS
    (refine Reach.walk ?_; (repeat (first | ((with_reducible refine AllSt.mk ?_); (try clear hS); intro w hS) | ((with_reducible refine AllVw.mk ?_); intro V hV))))
    ((with_reducible apply WpL.app); (· assumption); (· exact rfl); (· exact rfl); (· exact rfl); (· exact Sel.found); (· simp only [Nat.mul_one]; exact RdsV.found); (· exact onesFound); (· exact catFound); (· omega); (· omega); clear hS)
    intro A3 c3 w hA3 hS
    (replace hS := (hS.take (pre := [F.blk g m, F.p, F.l, .own A3 _ _ _ _ _]) Take.found); (try simp only [List.cons_append, List.nil_append] at hS))
    have hI : FI W (feet []) g m (.own A3 (T.length + i + 1) c3 3 1 (zv (l ++ [0])) :: .own RA R.length kr 3 1 (zv (nv R)) :: .own QA Q.length kq 3 1 (zv (nv Q)) :: L0) w := FI.sub (.cons_cons _ (List.sublist_cons_self _ _)) ⟨F, hF, hS⟩
    clear hS hF
    rw [hnx] at hI
    (refine Reach.walk ?_; (repeat (first | ((with_reducible refine AllSt.mk ?_); (try clear hS); intro w hS) | ((with_reducible refine AllVw.mk ?_); intro V hV))))
    exact ⟨by omega, A3, c3, hA3, hI, rfl, rfl, rfl, rfl, trivial⟩
  have hcT : ∀ t, Gf.cf (T ++ List.replicate i 0) t = Gf.cf T t := Gf.cf_zeros T i
  have hTl : (T ++ List.replicate i 0).length = T.length + i := by simp
  have hTe : Gf.El m (T ++ List.replicate i 0) := .of fun t => by rw [hcT]; exact hte.cf t
  have hz0 : Gf.addRow m (T.length + i) (Gf.cf (T ++ List.replicate i 0)) 1 R 0 0 = T ++ List.replicate i 0 := by rw [Gf.addRow_zero, ← hTl, Gf.range_cf]
  rw [← hz0] at hI
  clear hz0
  have hNb : T.length + i ≤ 200 := by omega
  generalize T ++ List.replicate i 0 = T' at *
  generalize T.length + i = N at *
  (refine Reach.walk ?_; (repeat (first | ((with_reducible refine AllSt.mk ?_); (try clear hS); intro w hS) | ((with_reducible refine AllVw.mk ?_); intro V hV))))
  apply Wp.loopUp R.length (fun j e w' => FI W (feet []) g m (.own A N ka 3 1 (zv (nv (Gf.addRow m N (Gf.cf T') 1 R 0 j))) :: .own RA R.length kr 3 1 (zv (nv R)) :: .own QA Q.length kq 3 1 (zv (nv Q)) :: L0) w' ∧
      e.Has [(13, .int .i64 (j : Nat)), (12, .slice A N ka), (3, .slice RA R.length kr), (2, .slice QA Q.length kq), (10, .pointer (some ⟨g, 0, none⟩))]) (Nat.zero_le _)
    ⟨hI, rfl, rfl, rfl, rfl, rfl, trivial⟩
  clear hI
  rintro j e w hj ⟨hI, he⟩
  obtain ⟨e0, rfl⟩ := he.eq
  clear he
  dsimp only [Env.sets]
  by_cases hlj : j < R.length
  · have hrl2 : Gf.cf R j < 2 ^ m := hre.cf j
    have hsl2 : Gf.cf T' j < 2 ^ m := hTe.cf j
    have hat := Gf.addRow_at (m := m) (N := N) (B := Gf.cf T') (c := 1) (b := R) (o := 0) (k := j) (by omega)
    have hset := Gf.addRow_set (m := m) (N := N) (B := Gf.cf T') (c := 1) (b := R) (o := 0) (k := j) (by omega)
    rw [Nat.zero_add] at hat hset
    rw [Gf.one_mul h hrl2] at hset
    have hlen : (nv (Gf.addRow m N (Gf.cf T') 1 R 0 j)).length = N := by simp [Gf.addRow]
    have hgs : (zv (nv (Gf.addRow m N (Gf.cf T') 1 R 0 j)))[j]? = some (.int .i64 (Gf.cf T' j : Nat)) := by
      rw [nv_cell (by rw [nv_length] at hlen; omega), hat]
    have hgr : (zv (nv R))[j]? = some (.int .i64 (Gf.cf R j : Nat)) := nv_cell hlj
    clear hat
    generalize Gf.addRow m N (Gf.cf T') 1 R 0 (j + 1) = S' at *
    generalize Gf.addRow m N (Gf.cf T') 1 R 0 j = S at *
    generalize Gf.cf T' j = y at *
    generalize Gf.cf R j = z at *
    (refine Reach.walk ?_; (repeat (first | ((with_reducible refine AllSt.mk ?_); (try clear hS); intro w hS) | ((with_reducible refine AllVw.mk ?_); intro V hV))))
    (refine Wp.drawF 13 (fun w => FI W (feet []) g m (.own A N ka 3 1 (zv (nv S)) :: .own RA R.length kr 3 1 (zv (nv R)) :: .own QA Q.length kq 3 1 (zv (nv Q)) :: L0) w) ?_ (by kernel_rfl) (by kernel_rfl) rfl ?_; rotate_left; dsimp only [List.take, List.drop]; rotate_left)
    · exact hI.drew
    (repeat (first | ((with_reducible apply RgF.det); (· exact rfl); (· exact rfl); (· exact Det.found2))))
    refine RgF.ld (fun w2 hI => (RdsV.whole (n := N) .own (by simpa using hlen)).cellAt hI.rest hgs) rfl rfl ?_
    (repeat (first | ((with_reducible apply RgF.det); (· exact rfl); (· exact rfl); (· exact Det.found2))))
    refine RgF.ld (fun w2 hI => (RdsV.whole (n := R.length) .own (by simp)).cellAt hI.rest.tail hgr) rfl rfl ?_
    (repeat (first | ((with_reducible apply RgF.det); (· exact rfl); (· exact rfl); (· exact Det.found2))))
    refine RgF.op (c := .int .i64 ((y ^^^ z : Nat) : Int)) rfl rfl (fun w2 hI => ?_) ?_
    · (with_reducible apply WpL.call); (· exact rfl); (· exact Try.call24); (· exact Vals.found)
      refine (addF h (inE_nat h hsl2) (inE_nat h hrl2) hI).mono ?_
      rintro x0 w3 ⟨rfl, hI⟩
      exact ⟨_, rfl, WpL.nil ⟨hI, Env.set_same _ _ _⟩⟩
    (repeat (first | ((with_reducible apply RgF.det); (· exact rfl); (· exact rfl); (· exact Det.found2))))
    refine RgF.fin ?_
    clear hI
    intro w hI
    obtain ⟨F, hF, hS⟩ := hI
    (replace hS := (hS.take (pre := [.own A _ _ _ _ _]) Take.found); (try simp only [List.cons_append, List.nil_append] at hS))
    (refine Reach.walk ?_; (repeat (first | ((with_reducible refine AllSt.mk ?_); (try clear hS); intro w hS) | ((with_reducible refine AllVw.mk ?_); intro V hV))))
    rw [nv_set, hset] at hS
    (replace hS := (hS.take (pre := [F.blk g m, F.p, F.l, .own A _ _ _ _ _]) Take.found); (try simp only [List.cons_append, List.nil_append] at hS))
    exact ⟨hlj, ⟨F, hF, hS⟩, int_eq (by omega), rfl, rfl, rfl, rfl, trivial⟩
  obtain rfl : j = R.length := by omega
  have hcS : ∀ t, Gf.cf (Gf.addRow m N (Gf.cf T') 1 R 0 R.length) t = Gf.cf T t ^^^ Gf.cf R t := fun t => by
    rw [Gf.cf_addRow]
    by_cases ht : t < N
    · rw [if_pos ht, hcT]
      by_cases ht2 : t < R.length
      · rw [if_pos ⟨Nat.zero_le _, by omega⟩, Nat.sub_zero, Gf.one_mul h (hre.cf t)]
      · rw [if_neg (by omega), Gf.cf_over (l := R) (by omega)]
    · rw [if_neg ht, ← hcT, Gf.cf_over (l := T') (by omega), Gf.cf_over (l := R) (by omega)]; rfl
  have hSe : Gf.El m (Gf.addRow m N (Gf.cf T') 1 R 0 R.length) := .of fun t => by rw [hcS]; exact Nat.xor_lt_two_pow (hte.cf t) (hre.cf t)
  have hfin := hrest _ hSe hcS
  have hlen : (Gf.addRow m N (Gf.cf T') 1 R 0 R.length).length = N := by simp [Gf.addRow]
  have hpS := pe_nv h hSe
  clear hcS hSe
  generalize Gf.addRow m N (Gf.cf T') 1 R 0 R.length = S at *
  (refine Reach.walk ?_; (repeat (first | ((with_reducible refine AllSt.mk ?_); (try clear hS); intro w hS) | ((with_reducible refine AllVw.mk ?_); intro V hV))))
  (with_reducible apply WpL.call); (· exact rfl); (· exact Try.call40); (· exact Vals.found)
  refine (rest_any h (p := nv S) (q := nv Q) (by simpa using hlen) hA (by omega) (.whole .own (by simpa using hlen)) (by simp) hQA (by omega) (.there (.there (.whole .own (by simp)) _) _) hI).mono ?_
  clear hI
  rintro x0 w ⟨C, kc, rfl, hC, F, hF, hS⟩
  refine ⟨_, rfl, ?_⟩
  rw [htd, hpS, hfin] at hC hS ⊢
  (refine Reach.walk ?_; (repeat (first | ((with_reducible refine AllSt.mk ?_); (try clear hS); intro w hS) | ((with_reducible refine AllVw.mk ?_); intro V hV))))
  (with_reducible apply WpL.call); (· exact rfl); (· exact Try.call18); (· exact Vals.found)
  refine (same_any (p := nv R) (q := nv R) (by simp) hC (by omega) (.there (.there (.there (.whole .own (by simp)) _) _) _) (by simp) hRA (by omega) (.there (.there (.there (.there (.there (.whole .own (by simp)) _) _) _) _) _) hS).mono ?_
  clear hS
  rintro x0 w ⟨rfl, hS⟩
  refine ⟨_, rfl, ?_⟩
  rw [decide_eq_true (show nv R = nv R from rfl)]
  (refine Reach.walk ?_; (repeat (first | ((with_reducible refine AllSt.mk ?_); (try clear hS); intro w hS) | ((with_reducible refine AllVw.mk ?_); intro V hV))))
  (with_reducible apply doneQ_one Try.results12); (· exact slotFound)
  exact ⟨rfl, (hS.sub (List.nil_sublist _)).toBelow⟩
end Go.Proofs.Ytkffgdccjgdiaaa
