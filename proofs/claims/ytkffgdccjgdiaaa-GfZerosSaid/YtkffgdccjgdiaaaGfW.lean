/-
  Products of polynomials, and what is left: the document's.
-/
import Derived.Test.YtkffgdccjgdiaaaGfV
namespace Go.Proofs.Ytkffgdccjgdiaaa
open Go.Fk Go.RowKit
attribute [local irreducible] Wp WpL Det thenQ blockQ
section
variable {w w0 : World} {M : Nat → Prop} {L : List Ch} {m g : Nat} {F : FS}
theorem refTimes_any (h : Gf.Is m) {V : Option Addr} {n c : Nat} {p : List Int} {V' : Option Addr} {n' c' : Nat} {q : List Int} (hn : p.length = n) (hV : IsVw V n c V 0) (hm : n ≤ 1048576) (hr : RdsV L V n (zv p))
    (hn' : q.length = n') (hV' : IsVw V' n' c' V' 0) (hm' : n' ≤ 1048576) (hr' : RdsV L V' n' (zv q)) (hS : St w0 M w L) :
    Calls Try.prog 39 #[.int .i64 (m : Int), .slice V n c, .slice V' n' c'] w fun x w' => ∃ A k, x = .returned (.slice A (Gf.times m (pe m p) (pe m q)).length k) ∧ IsVw A (Gf.times m (pe m p) (pe m q)).length k A 0 ∧
      St w0 M w' (.own A (Gf.times m (pe m p) (pe m q)).length k 3 1 (zv (nv (Gf.times m (pe m p) (pe m q)))) :: L) := by
  (refine calls_of (P := Try.prog) _ Try.func39 rfl Try.ntmps39 (Nat.le_of_ble_eq_true rfl) ?_; dsimp only [argE, Nat.reduceAdd])
  (refine Reach.walk ?_; (repeat (first | ((with_reducible refine AllSt.mk ?_); (try clear hS); intro w hS) | ((with_reducible refine AllVw.mk ?_); intro V hV))))
  refine WpL.mk1 (bytes := 8) (n := n + n') (z := .int .i64 0) hS rfl rfl rfl rfl rfl rfl (by omega) (by omega) ?_
  clear hS
  intro A w hVA hS
  rw [replicate_zv] at hS
  have hz0 : List.replicate (n + n') (0 : Int) = nv ((List.range (n + n')).map (Gf.rs m (pe m p) (pe m q) 0)) := by
    refine List.ext_getElem (by simp) fun i h1 h2 => by simp [nv, Gf.rs]
  rw [hz0] at hS
  generalize hN : n + n' = N at *
  (refine Reach.walk ?_; (repeat (first | ((with_reducible refine AllSt.mk ?_); (try clear hS); intro w hS) | ((with_reducible refine AllVw.mk ?_); intro V hV))))
  apply Wp.loopUp n (fun i e w' => St w0 M w' (.own A N N 3 1 (zv (nv ((List.range N).map (Gf.rs m (pe m p) (pe m q) i)))) :: L) ∧ e.Has [(8, .int .i64 (i : Nat)), (7, .slice A N N), (0, .int .i64 (m : Nat)), (1, .slice V n c), (2, .slice V' n' c')]) (Nat.zero_le n)
    ⟨hS, rfl, rfl, rfl, rfl, rfl, trivial⟩
  clear hS hz0
  rintro i e w1 hi ⟨hS, he⟩
  obtain ⟨e0, rfl⟩ := he.eq
  clear he
  dsimp only [Env.sets]
  by_cases hlt : i < n
  · have hPi : Gf.cf (pe m p) i = inE m (p.getD i 0) := by rw [pe_cf, if_pos (by omega)]
    (refine Reach.walk ?_; (repeat (first | ((with_reducible refine AllSt.mk ?_); (try clear hS); intro w hS) | ((with_reducible refine AllVw.mk ?_); intro V hV))))
    rw [← Gf.addRow_zero (m := m) (c := Gf.cf (pe m p) i) (b := pe m q) (o := i)] at hS
    apply Wp.loopUp n' (fun k e w' => St w0 M w' (.own A N N 3 1 (zv (nv (Gf.addRow m N (Gf.rs m (pe m p) (pe m q) i) (Gf.cf (pe m p) i) (pe m q) i k))) :: L) ∧ e.Has [(9, .int .i64 (k : Nat)), (8, .int .i64 (i : Nat)), (7, .slice A N N), (0, .int .i64 (m : Nat)), (1, .slice V n c), (2, .slice V' n' c')]) (Nat.zero_le n')
      ⟨hS, rfl, rfl, rfl, rfl, rfl, rfl, trivial⟩
    clear hS
    rintro k e w1 hk ⟨hS, he⟩
    obtain ⟨e0, rfl⟩ := he.eq
    clear he
    dsimp only [Env.sets]
    by_cases hlk : k < n'
    · have hQk : Gf.cf (pe m q) k = inE m (q.getD k 0) := by rw [pe_cf, if_pos (by omega)]
      have hik : i + k < N := by omega
      have hat := Gf.addRow_at (m := m) (B := Gf.rs m (pe m p) (pe m q) i) (c := Gf.cf (pe m p) i) (b := pe m q) hik
      have hset := Gf.addRow_set (m := m) (B := Gf.rs m (pe m p) (pe m q) i) (c := Gf.cf (pe m p) i) (b := pe m q) hik
      have hlen : (nv (Gf.addRow m N (Gf.rs m (pe m p) (pe m q) i) (Gf.cf (pe m p) i) (pe m q) i k)).length = N := by simp
      have hget : (zv (nv (Gf.addRow m N (Gf.rs m (pe m p) (pe m q) i) (Gf.cf (pe m p) i) (pe m q) i k)))[i + k]? = some (.int .i64 (Gf.rs m (pe m p) (pe m q) i (i + k) : Nat)) := by
        rw [nv_cell (by simpa using hik), hat]
      have hrl := Gf.rs_lt h (q := pe m q) (pe_el h p) i (i + k)
      have hml := Gf.mul_lt h (b := Gf.cf (pe m q) k) ((pe_el h p).cf i)
      have hs2 := Gf.sz_le h
      have hsa := Gf.sz_add h
      have hgp : (zv p)[i]? = some (.int .i64 (p.getD i 0)) := zvg (by omega)
      have hgq : (zv q)[k]? = some (.int .i64 (q.getD k 0)) := zvg (by omega)
      generalize Gf.rs m (pe m p) (pe m q) i (i + k) = y at *
      generalize Gf.addRow m N (Gf.rs m (pe m p) (pe m q) i) (Gf.cf (pe m p) i) (pe m q) i k = R at *
      generalize p.getD i 0 = a at *
      generalize q.getD k 0 = b at *
      have hcik : (i : Int) + (k : Int) = ((i + k : Nat) : Int) := by omega
      (refine Reach.walk ?_; (repeat (first | ((with_reducible refine AllSt.mk ?_); (try clear hS); intro w hS) | ((with_reducible refine AllVw.mk ?_); intro V hV))))
      (refine Wp.drawF 22 (fun w => St w0 M w (.own A N N 3 1 (zv (nv R)) :: L)) ?_ (by kernel_rfl) (by kernel_rfl) rfl ?_; rotate_left; dsimp only [List.take, List.drop]; rotate_left)
      · exact hS.drew
      (repeat (first | ((with_reducible apply RgF.det); (· exact rfl); (· exact rfl); (· exact Det.found2))))
      refine RgF.ld (fun w2 hS => (RdsV.whole (n := N) .own (by simpa using hlen)).cellAt hS hget) rfl rfl ?_
      (repeat (first | ((with_reducible apply RgF.det); (· exact rfl); (· exact rfl); (· exact Det.found2))))
      refine RgF.ld (fun w2 hS => hr.cellAt hS.tail hgp) rfl rfl ?_
      (repeat (first | ((with_reducible apply RgF.det); (· exact rfl); (· exact rfl); (· exact Det.found2))))
      refine RgF.ld (fun w2 hS => hr'.cellAt hS.tail hgq) rfl rfl ?_
      (repeat (first | ((with_reducible apply RgF.det); (· exact rfl); (· exact rfl); (· exact Det.found2))))
      refine RgF.op (c := .int .i64 (Gf.mul m (Gf.cf (pe m p) i) (Gf.cf (pe m q) k) : Nat)) rfl rfl (fun w2 hS => ?_) ?_
      · (with_reducible apply WpL.call); (· exact rfl); (· exact Try.call31); (· exact Vals.found)
        refine (refMul_any h _ _ _).mono ?_
        rintro x w3 ⟨rfl, rfl⟩
        exact ⟨_, by rw [hPi, hQk], WpL.nil ⟨hS, Env.set_same _ _ _⟩⟩
      (repeat (first | ((with_reducible apply RgF.det); (· exact rfl); (· exact rfl); (· exact Det.found2))))
      refine RgF.fin ?_
      clear hS
      intro w hS
      (refine Reach.walk ?_; (repeat (first | ((with_reducible refine AllSt.mk ?_); (try clear hS); intro w hS) | ((with_reducible refine AllVw.mk ?_); intro V hV))))
      rw [nv_set, hset] at hS
      exact ⟨hlk, hS, int_eq (by omega), rfl, rfl, rfl, rfl, rfl, trivial⟩
    · obtain rfl : k = n' := by omega
      have hfull : Gf.addRow m N (Gf.rs m (pe m p) (pe m q) i) (Gf.cf (pe m p) i) (pe m q) i k = (List.range N).map (Gf.rs m (pe m p) (pe m q) (i + 1)) := Gf.addRow_full h (by simp [hn'])
      rw [hfull] at hS
      (refine Reach.walk ?_; (repeat (first | ((with_reducible refine AllSt.mk ?_); (try clear hS); intro w hS) | ((with_reducible refine AllVw.mk ?_); intro V hV))))
      exact ⟨hlt, hS, int_eq (by omega), rfl, rfl, rfl, rfl, trivial⟩
  · obtain rfl : i = n := by omega
    have htr : Gf.trim ((List.range N).map (Gf.rs m (pe m p) (pe m q) i)) = Gf.times m (pe m p) (pe m q) := by
      have := Gf.rs_trim (N := N) h (p := pe m p) (q := pe m q) (by simp; omega)
      rwa [show (pe m p).length = i by simp [hn]] at this
    have hRl : ((List.range N).map (Gf.rs m (pe m p) (pe m q) i)).length = N := by simp
    generalize (List.range N).map (Gf.rs m (pe m p) (pe m q) i) = R at *
    (refine Reach.walk ?_; (repeat (first | ((with_reducible refine AllSt.mk ?_); (try clear hS); intro w hS) | ((with_reducible refine AllVw.mk ?_); intro V hV))))
    (with_reducible apply WpL.call); (· exact rfl); (· exact Try.call50); (· exact Vals.found)
    refine (refTrim_any (l := R) hRl hVA (by omega) (RdsV.whole .own (by simp [hRl])) hS).mono ?_
    rintro x w2 ⟨rfl, rfl⟩
    refine ⟨_, rfl, ?_⟩
    (refine Reach.walk ?_; (repeat (first | ((with_reducible refine AllSt.mk ?_); (try clear hS); intro w hS) | ((with_reducible refine AllVw.mk ?_); intro V hV))))
    (with_reducible apply doneQ_one Try.results39); (· exact slotFound)
    have hle : Gf.tl R ≤ N := by have := Gf.tl_le R; omega
    have h2 := hS.shrink hle
    rw [nv_take] at h2
    have h3 : St w0 M _ (.own A (Gf.tl R) N 3 1 (zv (nv (Gf.trim R))) :: L) := h2
    rw [← Gf.trim_length] at h3
    rw [← Gf.trim_length] at hle
    rw [← Gf.trim_length]
    rw [htr] at *
    exact ⟨A, N, rfl, ⟨hle, hVA.max, hVA.at_⟩, h3⟩
end
end Go.Proofs.Ytkffgdccjgdiaaa
