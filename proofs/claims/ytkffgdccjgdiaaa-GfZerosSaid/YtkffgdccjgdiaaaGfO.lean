/-
  Polynomials of the program: values, elements taken, products.
-/
import Derived.Test.YtkffgdccjgdiaaaGfN
namespace Go.Proofs.Ytkffgdccjgdiaaa
open Go.Fk Go.RowKit
attribute [local irreducible] Wp WpL Det thenQ blockQ
section
variable {w w0 : World} {M : Nat → Prop} {L : List Ch} {m g : Nat} {F : FS}
theorem FI.drew (h : FI w0 M g m L w) : FI w0 M g m L w.drew := let ⟨F, hF, hS⟩ := h; ⟨F, hF, hS.drew⟩
theorem FI.rest (h : FI w0 M g m L w) : St w0 M w L := let ⟨_, _, hS⟩ := h; hS.tail.tail.tail
theorem hor_drop (m x : Nat) {l : List Nat} {i : Nat} (hi : i < l.length) : Gf.hor m x (l.drop i) = Gf.mul m (Gf.hor m x (l.drop (i + 1))) x ^^^ Gf.cf l i := by
  rw [List.drop_eq_getElem_cons hi, Gf.hor, Gf.cf_get hi]
theorem El_drop {m : Nat} {l : List Nat} (h : Gf.El m l) (i : Nat) : Gf.El m (l.drop i) := fun x hx => h x (List.mem_of_mem_drop hx)

theorem eval_any (h : Gf.Is m) {V : Option Addr} {n c : Nat} {p : List Int} {z : Int} (hn : p.length = n) (hV : IsVw V n c V 0) (hm : n ≤ 1099511627776) (hr : RdsV L V n (zv p)) (hI : FI w0 M g m L w) :
    Calls Try.prog 26 #[.pointer (some ⟨g, 0, none⟩), .slice V n c, .int .i64 z] w fun x w' => x = .returned (.int .i64 (Gf.hor m (inE m z) (pe m p) : Int)) ∧ FI w0 M g m L w' := by
  have hel := pe_el h p
  have hzl := inE_lt h z
  (refine calls_of (P := Try.prog) _ Try.func26 rfl Try.ntmps26 (Nat.le_of_ble_eq_true rfl) ?_; dsimp only [argE, Nat.reduceAdd])
  (refine Reach.walk ?_; (repeat (first | ((with_reducible refine AllSt.mk ?_); (try clear hS); intro w hS) | ((with_reducible refine AllVw.mk ?_); intro V hV))))
  apply Wp.loopUp n (fun k e w' => FI w0 M g m L w' ∧ e.Has [(8, .int .i64 ((n : Int) - 1 - (k : Nat))), (7, .int .i64 (Gf.hor m (inE m z) ((pe m p).drop (n - k)) : Nat)), (0, .pointer (some ⟨g, 0, none⟩)), (1, .slice V n c), (2, .int .i64 z)]) (Nat.zero_le n)
    ⟨hI, int_eq (by omega), int_eq (by rw [List.drop_of_length_le (by simp [hn])]; rfl), rfl, rfl, rfl, trivial⟩
  clear hI
  rintro k e w1 hk ⟨hI, he⟩
  obtain ⟨e0, rfl⟩ := he.eq
  clear he
  dsimp only [Env.sets]
  by_cases hlt : k < n
  · have hi : (n : Int) - 1 - (k : Nat) = ((n - 1 - k : Nat) : Int) := by omega
    have hstep := hor_drop m (inE m z) (l := pe m p) (i := n - 1 - k) (by simp; omega)
    rw [show n - 1 - k + 1 = n - k by omega] at hstep
    have hy := Gf.hor_lt h (x := inE m z) (El_drop hel (n - k))
    have hcf : Gf.cf (pe m p) (n - 1 - k) = inE m (p.getD (n - 1 - k) 0) := by rw [pe_cf, if_pos (by omega)]
    have hcl := inE_lt h (p.getD (n - 1 - k) 0)
    have hmy := Gf.mul_lt h (b := inE m z) hy
    generalize Gf.hor m (inE m z) ((pe m p).drop (n - k)) = y at *
    have hs2 := Gf.sz_le h
    have hsa := Gf.sz_add h
    rw [hi]
    (refine Reach.walk ?_; (repeat (first | ((with_reducible refine AllSt.mk ?_); (try clear hS); intro w hS) | ((with_reducible refine AllVw.mk ?_); intro V hV))))
    (refine Wp.drawF 12 (FI w0 M g m L) ?_ (by kernel_rfl) (by kernel_rfl) rfl ?_; rotate_left; dsimp only [List.take, List.drop]; rotate_left)
    · exact hI.drew
    (repeat (first | ((with_reducible apply RgF.det); (· exact rfl); (· exact rfl); (· exact Det.found2))))
    refine RgF.op (c := .int .i64 (Gf.mul m y (inE m z) : Nat)) rfl rfl (fun w2 hI => ?_) ?_
    · obtain ⟨F, hF, hS⟩ := hI
      (with_reducible apply WpL.call); (· exact rfl); (· exact Try.call23); (· exact Vals.found)
      refine (mul_any h hF hS).mono ?_
      rintro x w3 ⟨rfl, hI⟩
      exact ⟨_, by rw [inE_nat h hy], WpL.nil ⟨hI, Env.set_same _ _ _⟩⟩
    (repeat (first | ((with_reducible apply RgF.det); (· exact rfl); (· exact rfl); (· exact Det.found2))))
    refine RgF.ld (fun w2 hI => hr.cellAt hI.rest (zvg (i := n - 1 - k) (by omega))) rfl rfl ?_
    refine RgF.op (c := .int .i64 (inE m (p.getD (n - 1 - k) 0) : Nat)) rfl rfl (fun w2 hI => ?_) ?_
    · obtain ⟨F, hF, hS⟩ := hI
      (with_reducible apply WpL.call); (· exact rfl); (· exact Try.call45); (· exact Vals.found)
      refine (in_any h (lookM F) hS).mono ?_
      rintro x w3 ⟨rfl, rfl⟩
      exact ⟨_, rfl, WpL.nil ⟨⟨F, hF, hS⟩, Env.set_same _ _ _⟩⟩
    (repeat (first | ((with_reducible apply RgF.det); (· exact rfl); (· exact rfl); (· exact Det.found2))))
    refine RgF.fin ?_
    clear hI
    intro w hI
    (refine Reach.walk ?_; (repeat (first | ((with_reducible refine AllSt.mk ?_); (try clear hS); intro w hS) | ((with_reducible refine AllVw.mk ?_); intro V hV))))
    exact ⟨hlt, hI, int_eq (by omega), int_eq (by rw [show n - (k + 1) = n - 1 - k by omega, hstep, hcf]), rfl, rfl, rfl, trivial⟩
  · obtain rfl : k = n := by omega
    (refine Reach.walk ?_; (repeat (first | ((with_reducible refine AllSt.mk ?_); (try clear hS); intro w hS) | ((with_reducible refine AllVw.mk ?_); intro V hV))))
    (with_reducible apply doneQ_one Try.results26); (· exact slotFound)
    exact ⟨by rw [Nat.sub_self, List.drop_zero], hI⟩

theorem taken_any (h : Gf.Is m) {V : Option Addr} {n c : Nat} {p : List Int} (hn : p.length = n) (hV : IsVw V n c V 0) (hm : n ≤ 1048576) (hr : RdsV L V n (zv p)) (hI : FI w0 M g m L w) :
    Calls Try.prog 51 #[.pointer (some ⟨g, 0, none⟩), .slice V n c] w fun x w' => ∃ A' c', x = .returned (.slice A' (Gf.trim (pe m p)).length c') ∧ IsVw A' (Gf.trim (pe m p)).length c' A' 0 ∧
      FI w0 M g m (.own A' (Gf.trim (pe m p)).length c' 3 1 (zv (nv (Gf.trim (pe m p)))) :: L) w' := by
  (refine calls_of (P := Try.prog) _ Try.func51 rfl Try.ntmps51 (Nat.le_of_ble_eq_true rfl) ?_; dsimp only [argE, Nat.reduceAdd])
  (refine Reach.walk ?_; (repeat (first | ((with_reducible refine AllSt.mk ?_); (try clear hS); intro w hS) | ((with_reducible refine AllVw.mk ?_); intro V hV))))
  obtain ⟨F, hF, hS⟩ := hI
  refine WpL.mk1 (bytes := 8) (n := n) (z := .int .i64 0) hS rfl rfl rfl rfl rfl rfl (by omega) (by omega) ?_
  clear hS
  intro A w hVA hS
  rw [replicate_zv] at hS
  (replace hS := (hS.take (pre := [F.blk g m, F.p, F.l]) Take.found); (try simp only [List.cons_append, List.nil_append] at hS))
  (refine Reach.walk ?_; (repeat (first | ((with_reducible refine AllSt.mk ?_); (try clear hS); intro w hS) | ((with_reducible refine AllVw.mk ?_); intro V hV))))
  have hz0 : List.replicate n (0 : Int) = nv ((pe m p).take 0 ++ List.replicate (n - 0) 0) := by simp [nv]
  rw [hz0] at hS
  apply Wp.loopUp n (fun k e w' => FI w0 M g m (.own A n n 3 1 (zv (nv ((pe m p).take k ++ List.replicate (n - k) 0))) :: L) w' ∧ e.Has [(13, .int .i64 (k : Nat)), (12, .int .i64 (n : Nat)), (11, .slice V n c), (5, .slice A n n), (0, .pointer (some ⟨g, 0, none⟩))]) (Nat.zero_le n)
    ⟨⟨F, hF, hS⟩, rfl, rfl, rfl, rfl, rfl, trivial⟩
  clear hS hF
  rintro k e w1 hk ⟨hI, he⟩
  obtain ⟨e0, rfl⟩ := he.eq
  clear he
  dsimp only [Env.sets]
  obtain ⟨F, hF, hS⟩ := hI
  by_cases hlt : k < n
  · have hset : (nv ((pe m p).take k ++ List.replicate (n - k) 0)).set k (inE m (p.getD k 0) : Int) = nv ((pe m p).take (k + 1) ++ List.replicate (n - (k + 1)) 0) := by
      have hcf : (pe m p)[k]'(by simp; omega) = inE m (p.getD k 0) := by
        simp [pe, List.getD_eq_getElem?_getD, show k < p.length by omega]
      rw [List.take_succ_eq_append_getElem (by simp; omega), hcf, show n - k = (n - (k + 1)) + 1 by omega, List.replicate_succ]
      simp only [nv, List.map_append, List.map_cons]
      rw [List.set_append_right _ _ (by simp; omega)]
      have : k - (List.map (fun a : Nat => (a : Int)) (List.take k (pe m p))).length = 0 := by simp; omega
      rw [this]
      simp
    have hlen : (nv ((pe m p).take k ++ List.replicate (n - k) 0)).length = n := by simp; omega
    (refine Reach.walk ?_; (repeat (first | ((with_reducible refine AllSt.mk ?_); (try clear hS); intro w hS) | ((with_reducible refine AllVw.mk ?_); intro V hV))))
    refine WpL.ldV hr hS.tail.tail.tail.tail (zvg (i := k) (by omega)) rfl rfl ?_
    (refine Reach.walk ?_; (repeat (first | ((with_reducible refine AllSt.mk ?_); (try clear hS); intro w hS) | ((with_reducible refine AllVw.mk ?_); intro V hV))))
    (with_reducible apply WpL.call); (· exact rfl); (· exact Try.call45); (· exact Vals.found)
    refine (in_any h (lookM F) hS).mono ?_
    rintro x w2 ⟨rfl, rfl⟩
    refine ⟨_, rfl, ?_⟩
    (replace hS := (hS.take (pre := [.own A _ _ _ _ _]) Take.found); (try simp only [List.cons_append, List.nil_append] at hS))
    (refine Reach.walk ?_; (repeat (first | ((with_reducible refine AllSt.mk ?_); (try clear hS); intro w hS) | ((with_reducible refine AllVw.mk ?_); intro V hV))))
    rw [hset] at hS
    (replace hS := (hS.take (pre := [F.blk g m, F.p, F.l, .own A _ _ _ _ _]) Take.found); (try simp only [List.cons_append, List.nil_append] at hS))
    exact ⟨hlt, ⟨F, hF, hS⟩, int_eq (by omega), rfl, rfl, rfl, rfl, trivial⟩
  · obtain rfl : k = n := by omega
    rw [Nat.sub_self, List.replicate_zero, List.append_nil, List.take_of_length_le (by simp [hn])] at hS
    (replace hS := (hS.take (pre := [.own A _ _ _ _ _]) Take.found); (try simp only [List.cons_append, List.nil_append] at hS))
    (refine Reach.walk ?_; (repeat (first | ((with_reducible refine AllSt.mk ?_); (try clear hS); intro w hS) | ((with_reducible refine AllVw.mk ?_); intro V hV))))
    (with_reducible apply WpL.call); (· exact rfl); (· exact Try.call46); (· exact Vals.found)
    refine (trim_any (l := pe m p) (by simp [hn]) hVA (by omega) (RdsV.whole .own (by simp [hn])) hS).mono ?_
    rintro x w2 ⟨rfl, rfl⟩
    refine ⟨_, rfl, ?_⟩
    (refine Reach.walk ?_; (repeat (first | ((with_reducible refine AllSt.mk ?_); (try clear hS); intro w hS) | ((with_reducible refine AllVw.mk ?_); intro V hV))))
    (with_reducible apply doneQ_one Try.results51); (· exact slotFound)
    have hle : Gf.tl (pe m p) ≤ k := by have := Gf.tl_le (pe m p); simp at this; omega
    have h2 := hS.shrink hle
    rw [nv_take] at h2
    have h3 : St w0 M _ (.own A (Gf.tl (pe m p)) k 3 1 (zv (nv (Gf.trim (pe m p)))) :: F.blk g m :: F.p :: F.l :: L) := h2
    rw [← Gf.trim_length] at h3
    rw [← Gf.trim_length] at hle
    rw [← Gf.trim_length]
    exact ⟨A, k, rfl, ⟨hle, hVA.max, hVA.at_⟩, F, hF, h3.take (pre := [F.blk g m, F.p, F.l, .own A _ _ _ _ _]) Take.found⟩
end
end Go.Proofs.Ytkffgdccjgdiaaa
