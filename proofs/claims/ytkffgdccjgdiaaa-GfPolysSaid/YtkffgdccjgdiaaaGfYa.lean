/-
  Polynomials are reckoned as the document says.
-/
import Derived.Test.YtkffgdccjgdiaaaGfT
import Derived.Test.YtkffgdccjgdiaaaGfW
import Derived.Test.YtkffgdccjgdiaaaGfX
namespace Go.Proofs.Ytkffgdccjgdiaaa
open Go.Fk Go.RowKit
attribute [local irreducible] Wp WpL Det thenQ blockQ
theorem _root_.Go.Gf.stepR_le (m : Nat) (a b : List Nat) : (Gf.stepR m a b).length ≤ a.length := by
  unfold Gf.stepR
  rw [Gf.trim_length]
  have := Gf.tl_le (Gf.sub m (Gf.topC m a b) (a.length - b.length) a b)
  rw [Gf.sub_length] at this
  exact this
theorem _root_.Go.Gf.restN_len (m : Nat) (b : List Nat) : ∀ k a, (Gf.restN m b k a).length ≤ a.length
  | 0, a => Nat.le_refl _
  | k + 1, a => by
    rw [Gf.restN]
    split
    · exact Nat.le_refl _
    · exact Nat.le_trans (Gf.restN_len m b k _) (Gf.stepR_le m a b)
theorem _root_.Go.Gf.rest_len (m : Nat) (p q : List Nat) : (Gf.rest m p q).length ≤ p.length := by
  unfold Gf.rest
  split
  · exact Nat.zero_le _
  · refine Nat.le_trans (Gf.restN_len m _ _ _) ?_
    rw [Gf.trim_length]
    exact Gf.tl_le p
set_option maxHeartbeats 8000000 in
theorem gfPolys_any {c : Int} (hc : I64 c) {z : Int} {V : Option Addr} {n k : Nat} {p : List Int} (hn : p.length = n) (hV : IsVw V n k V 0) (hm : n ≤ 140737488355328)
    {V' : Option Addr} {n' k' : Nat} {q : List Int} (hn' : q.length = n') (hV' : IsVw V' n' k' V' 0) (hm' : n' ≤ 140737488355328) (W : World) (hr : Rd W V (zv p)) (hr' : Rd W V' (zv q)) :
    Calls Try.prog 10 #[.int .i64 c, .slice V n k, .slice V' n' k', .int .i64 z] W fun x w' => x = .returned (.bool true) ∧ Below W.heap.size W w' := by
  have hS0 := ((St.start W).startRo hr').startRo hr
  have hp : RdsV [Ch.ro V (zv p), .ro V' (zv q)] V n (zv p) := .whole .ro (by simp [hn])
  have hq : RdsV [Ch.ro V (zv p), .ro V' (zv q)] V' n' (zv q) := .there (.whole .ro (by simp [hn'])) _
  (refine calls_of (P := Try.prog) _ Try.func10 rfl Try.ntmps10 (Nat.le_of_ble_eq_true rfl) ?_; dsimp only [argE, Nat.reduceAdd])
  (refine Reach.walk ?_; (repeat (first | ((with_reducible refine AllSt.mk ?_); (try clear hS); intro w hS) | ((with_reducible refine AllVw.mk ?_); intro V hV))))
  (with_reducible apply WpL.call); (· exact rfl); (· exact Try.call14); (· exact Vals.found)
  refine (awake_any hS0).mono ?_
  clear hS0
  rintro x0 w ⟨rfl, hS⟩
  refine ⟨_, rfl, ?_⟩
  (refine Reach.walk ?_; (repeat (first | ((with_reducible refine AllSt.mk ?_); (try clear hS); intro w hS) | ((with_reducible refine AllVw.mk ?_); intro V hV))))
  (with_reducible apply WpL.call); (· exact rfl); (· exact Try.call15); (· exact Vals.found)
  refine (field_any hc hS).mono ?_
  clear hS
  rintro x0 w ⟨g, rfl, hI⟩
  refine ⟨_, rfl, ?_⟩
  have h := pickM_is c
  generalize pickM c = m at *
  have hs2 := Gf.sz_le h
  have hsa := Gf.sz_add h
  by_cases hl1 : 60 < n
  · (refine Reach.walk ?_; (repeat (first | ((with_reducible refine AllSt.mk ?_); (try clear hS); intro w hS) | ((with_reducible refine AllVw.mk ?_); intro V hV))))
    (with_reducible apply doneQ_one Try.results10); (· exact slotFound)
    exact ⟨rfl, hI.toBelow⟩
  by_cases hl2 : 60 < n'
  · (refine Reach.walk ?_; (repeat (first | ((with_reducible refine AllSt.mk ?_); (try clear hS); intro w hS) | ((with_reducible refine AllVw.mk ?_); intro V hV))))
    (with_reducible apply doneQ_one Try.results10); (· exact slotFound)
    exact ⟨rfl, hI.toBelow⟩
  have hpl := pe_length m p
  have hql := pe_length m q
  have htl := Gf.times_len h (pe m p) (pe m q)
  have hrl := Gf.rest_len m (pe m p) (pe m q)
  (refine Reach.walk ?_; (repeat (first | ((with_reducible refine AllSt.mk ?_); (try clear hS); intro w hS) | ((with_reducible refine AllVw.mk ?_); intro V hV))))
  ((with_reducible apply WpL.call); (· exact rfl); (· exact Try.call26); (· exact Vals.found)); (refine (eval_any h hn hV (by omega) hp hI).mono ?_); clear hI; rintro x w ⟨rfl, hI⟩; (refine ⟨_, rfl, ?_⟩)
  (refine Reach.walk ?_; (repeat (first | ((with_reducible refine AllSt.mk ?_); (try clear hS); intro w hS) | ((with_reducible refine AllVw.mk ?_); intro V hV))))
  ((with_reducible apply WpL.call); (· exact rfl); (· exact Try.call38); (· exact Vals.found)); (refine (refEval_any h hn hV (by omega) hp hI.rest).mono ?_); (rintro x w1 ⟨rfl, rfl⟩); (refine ⟨_, rfl, ?_⟩)
  (refine Reach.walk ?_; (repeat (first | ((with_reducible refine AllSt.mk ?_); (try clear hS); intro w hS) | ((with_reducible refine AllVw.mk ?_); intro V hV))))
  (with_reducible apply WpL.call); (· exact rfl); (· exact Try.call27); (· exact Vals.found)
  refine (times_any h hn hV (by omega) hp hn' hV' (by omega) hq hI).mono ?_
  clear hI
  rintro x0 w ⟨A, ka, rfl, hA, F, hF, hS⟩
  refine ⟨_, rfl, ?_⟩
  (refine Reach.walk ?_; (repeat (first | ((with_reducible refine AllSt.mk ?_); (try clear hS); intro w hS) | ((with_reducible refine AllVw.mk ?_); intro V hV))))
  (with_reducible apply WpL.call); (· exact rfl); (· exact Try.call39); (· exact Vals.found)
  refine (refTimes_any h hn hV (by omega) (.there (.there (.there (.there hp _) _) _) _) hn' hV' (by omega) (.there (.there (.there (.there hq _) _) _) _) hS).mono ?_
  clear hS
  rintro x0 w ⟨B, kb, rfl, hB, hS⟩
  refine ⟨_, rfl, ?_⟩
  generalize Gf.times m (pe m p) (pe m q) = T at *
  (refine Reach.walk ?_; (repeat (first | ((with_reducible refine AllSt.mk ?_); (try clear hS); intro w hS) | ((with_reducible refine AllVw.mk ?_); intro V hV))))
  (with_reducible apply WpL.call); (· exact rfl); (· exact Try.call18); (· exact Vals.found)
  refine (same_any (p := nv T) (q := nv T) (by simp) hA (by omega) (.there (.there (.there (.there (.whole .own (by simp)) _) _) _) _) (by simp) hB (by omega) (.whole .own (by simp)) hS).mono ?_
  clear hS
  rintro x0 w ⟨rfl, hS⟩
  refine ⟨_, rfl, ?_⟩
  rw [decide_eq_true (show nv T = nv T from rfl)]
  have hI : FI W (feet []) g m [Ch.ro V (zv p), .ro V' (zv q)] w := FI.sub (List.sublist_cons_self _ _) ⟨F, hF, hS.tail⟩
  clear hS hF
  (refine Reach.walk ?_; (repeat (first | ((with_reducible refine AllSt.mk ?_); (try clear hS); intro w hS) | ((with_reducible refine AllVw.mk ?_); intro V hV))))
  (with_reducible apply WpL.call); (· exact rfl); (· exact Try.call40); (· exact Vals.found)
  refine (rest_any h hn hV (by omega) hp hn' hV' (by omega) hq hI).mono ?_
  clear hI
  rintro x0 w ⟨A2, ka2, rfl, hA2, F, hF, hS⟩
  refine ⟨_, rfl, ?_⟩
  (refine Reach.walk ?_; (repeat (first | ((with_reducible refine AllSt.mk ?_); (try clear hS); intro w hS) | ((with_reducible refine AllVw.mk ?_); intro V hV))))
  (with_reducible apply WpL.call); (· exact rfl); (· exact Try.call41); (· exact Vals.found)
  refine (refRest_any h hn hV (by omega) (.there (.there (.there (.there hp _) _) _) _) hn' hV' (by omega) (.there (.there (.there (.there hq _) _) _) _) hS).mono ?_
  clear hS
  rintro x0 w ⟨B2, kb2, rfl, hB2, hS⟩
  refine ⟨_, rfl, ?_⟩
  generalize Gf.rest m (pe m p) (pe m q) = T2 at *
  (refine Reach.walk ?_; (repeat (first | ((with_reducible refine AllSt.mk ?_); (try clear hS); intro w hS) | ((with_reducible refine AllVw.mk ?_); intro V hV))))
  (with_reducible apply WpL.call); (· exact rfl); (· exact Try.call18); (· exact Vals.found)
  refine (same_any (p := nv T2) (q := nv T2) (by simp) hA2 (by omega) (.there (.there (.there (.there (.whole .own (by simp)) _) _) _) _) (by simp) hB2 (by omega) (.whole .own (by simp)) hS).mono ?_
  clear hS
  rintro x0 w ⟨rfl, hS⟩
  refine ⟨_, rfl, ?_⟩
  rw [decide_eq_true (show nv T2 = nv T2 from rfl)]
  (refine Reach.walk ?_; (repeat (first | ((with_reducible refine AllSt.mk ?_); (try clear hS); intro w hS) | ((with_reducible refine AllVw.mk ?_); intro V hV))))
  (with_reducible apply doneQ_one Try.results10); (· exact slotFound)
  exact ⟨by simp, (hS.sub (List.nil_sublist _)).toBelow⟩
end Go.Proofs.Ytkffgdccjgdiaaa
