/-
  How many blocks of a die are in a state; by how much erases differ.
-/
import Derived.Test.YtaapnfoimcccjaaBlkD
namespace Go.Proofs.Ytaapnfoimcccjaa
open Go.Fk Go.RowKit
attribute [local irreducible] Wp WpL Det thenQ blockQ WpG thenD blockG
theorem range_mid {n x : Nat} {pre rest : List Nat} (h : List.range n = pre ++ x :: rest) : pre.length = x ∧ x < n := by
  have h1 : (List.range n)[pre.length]? = some x := by rw [h]; simp
  obtain ⟨h2, h3⟩ := List.getElem?_eq_some_iff.1 h1
  rw [List.getElem_range] at h3
  rw [List.length_range] at h2
  exact ⟨h3, by omega⟩
def countL (l : List Bk) (s : Int) : Nat := (l.filter fun b => decide ((b.st : Int) = s)).length
theorem countL_le (l : List Bk) (s : Int) : countL l s ≤ l.length := List.length_filter_le _ _
theorem take_snocB {l : List Bk} {i : Nat} (h : i < l.length) : l.take (i + 1) = l.take i ++ [l.getD i ⟨0, 0⟩] := by
  rw [List.take_succ_eq_append_getElem h, getD_getB h]
theorem countL_step {l : List Bk} {i : Nat} (s : Int) (h : i < l.length) : countL (l.take (i + 1)) s = countL (l.take i) s + if ((l.getD i ⟨0, 0⟩).st : Int) = s then 1 else 0 := by
  unfold countL
  rw [take_snocB h, List.filter_append, List.length_append]
  congr 1
  by_cases he : ((l.getD i ⟨0, 0⟩).st : Int) = s
  · rw [if_pos he, List.filter_cons_of_pos (by simpa using he)]; rfl
  · rw [if_neg he, List.filter_cons_of_neg (by simpa using he)]; rfl
theorem sub4 {a b c d : Ch} (L : List Ch) : L.Sublist (a :: b :: c :: d :: L) := (List.sublist_cons_self _ _).trans ((List.sublist_cons_self _ _).trans ((List.sublist_cons_self _ _).trans (List.sublist_cons_self _ _)))
section
variable {w w0 : World} {M : Nat → Prop} {L : List Ch} {g nd cd : Nat} {D : Option Addr} {rows : List Value}
theorem countO {d s : Int} (hD : IsVw D nd cd D 0) (hd : ¬ (0 ≤ d ∧ d < nd)) (hS : St w0 M w (headsC g D nd cd rows L)) :
    Calls Try.prog 15 #[.pointer (some ⟨g, 0, none⟩), .int .i64 d, .int .i64 s] w fun x w' => x = .returned (.int .i64 0) ∧ St w0 M w' (headsC g D nd cd rows L) := by
  (refine calls_ofG (P := Try.prog) _ Try.func15 rfl Try.ntmps15 (Nat.le_of_ble_eq_true rfl) ?_; dsimp only [argE, Nat.reduceAdd])
  (refine Reach.walkG ?_; (repeat (first | ((with_reducible refine AllSt.mk ?_); (try clear hS); intro w hS) | ((with_reducible refine AllVw.mk ?_); intro V hV))))
  ((with_reducible apply WpL.bx); (· assumption); (· exact rfl); (· exact Env.found); (· exact rfl); clear hS)
  intro g5 w hS
  (refine Reach.walkG ?_; (repeat (first | ((with_reducible refine AllSt.mk ?_); (try clear hS); intro w hS) | ((with_reducible refine AllVw.mk ?_); intro V hV))))
  ((with_reducible apply WpL.al); (· assumption); (· exact rfl); (· exact rfl); clear hS)
  intro g7 w hS
  (refine Reach.walkG ?_; (repeat (first | ((with_reducible refine AllSt.mk ?_); (try clear hS); intro w hS) | ((with_reducible refine AllVw.mk ?_); intro V hV))))
  (with_reducible apply WpL.call); (· exact rfl); (· exact Try.call30); (· exact Vals.found)
  refine (of_any hS).mono ?_
  clear hS
  rintro x w ⟨g1, g2, rfl, hS⟩
  refine ⟨_, rfl, ?_⟩
  (refine Reach.walkG ?_; (repeat (first | ((with_reducible refine AllSt.mk ?_); (try clear hS); intro w hS) | ((with_reducible refine AllVw.mk ?_); intro V hV))))
  refine WpG.rangeFunc (ps := [13, 14]) (w0 := w0) (M := M) (Γ0 := L) (Lc := [.blk g7 3 [.int .i64 0], .blk g5 3 [.int .i64 s]])
    (of_iter_out (g := g) (g1 := g1) (g2 := g2) (rows := rows) hD hd (fun i : Nat => [.int .i64 (i : Int), .int .i64 0])) rfl Try.call42 (fun _ => rfl) (by decide)
    (fun pre Lc => Lc = [.blk g7 3 [.int .i64 0], .blk g5 3 [.int .i64 s]]) (fun c pre Lc => False) ?hS rfl ?body ?done ?stop
  case hS => exact hS.perm (List.perm_append_comm_assoc [_, _] [_, _] _)
  case body =>
    rintro r pre x rest _ Γ' w o hx
    cases pre <;> cases hx
  case done =>
    clear hS
    rintro D' _ w rfl hS
    simp only [List.cons_append, List.nil_append] at hS
    (refine Reach.walkG ?_; (repeat (first | ((with_reducible refine AllSt.mk ?_); (try clear hS); intro w hS) | ((with_reducible refine AllVw.mk ?_); intro V hV))))
    refine leaveG_mark hS fun w hS => leaveG_nil ?_
    (with_reducible apply doneQ_one Try.results15); (· exact slotFound)
    exact ⟨rfl, hS.sub ((List.sublist_cons_self _ _).trans ((List.sublist_cons_self _ _).trans ((List.sublist_cons_self _ _).trans (List.sublist_cons_self _ _))))⟩
  case stop => rintro D' c pre Lc w h; exact h.elim
theorem countI {d : Nat} {s : Int} {A : Option Addr} {nb cb : Nat} {l : List Bk} (hl : l.length = nb) (hf : Fit l) (hD : IsVw D nd cd D 0) (hdn : d < nd) (hrow : rows[d]? = some (.slice A nb cb)) (hA : IsVw A nb cb A 0) (hnb : nb ≤ 1048576) (hnd : nd ≤ 1048576) (hS : St w0 M w (poolC g D nd cd rows A nb cb l L)) :
    Calls Try.prog 15 #[.pointer (some ⟨g, 0, none⟩), .int .i64 (d : Int), .int .i64 s] w fun x w' => x = .returned (.int .i64 (countL l s : Nat)) ∧ St w0 M w' (poolC g D nd cd rows A nb cb l L) := by
  subst hl
  (refine calls_ofG (P := Try.prog) _ Try.func15 rfl Try.ntmps15 (Nat.le_of_ble_eq_true rfl) ?_; dsimp only [argE, Nat.reduceAdd])
  (refine Reach.walkG ?_; (repeat (first | ((with_reducible refine AllSt.mk ?_); (try clear hS); intro w hS) | ((with_reducible refine AllVw.mk ?_); intro V hV))))
  ((with_reducible apply WpL.bx); (· assumption); (· exact rfl); (· exact Env.found); (· exact rfl); clear hS)
  intro g5 w hS
  (refine Reach.walkG ?_; (repeat (first | ((with_reducible refine AllSt.mk ?_); (try clear hS); intro w hS) | ((with_reducible refine AllVw.mk ?_); intro V hV))))
  ((with_reducible apply WpL.al); (· assumption); (· exact rfl); (· exact rfl); clear hS)
  intro g7 w hS
  (refine Reach.walkG ?_; (repeat (first | ((with_reducible refine AllSt.mk ?_); (try clear hS); intro w hS) | ((with_reducible refine AllVw.mk ?_); intro V hV))))
  (with_reducible apply WpL.call); (· exact rfl); (· exact Try.call30); (· exact Vals.found)
  refine (of_any hS).mono ?_
  clear hS
  rintro x w ⟨g1, g2, rfl, hS⟩
  refine ⟨_, rfl, ?_⟩
  (refine Reach.walkG ?_; (repeat (first | ((with_reducible refine AllSt.mk ?_); (try clear hS); intro w hS) | ((with_reducible refine AllVw.mk ?_); intro V hV))))
  refine WpG.rangeFunc (ps := [13, 14]) (w0 := w0) (M := M) (Γ0 := L) (Lc := [.blk g7 3 [.int .i64 0], .blk g5 3 [.int .i64 s], .own A l.length cb 60 2 (kv l)])
    (of_iter_in (g := g) (g1 := g1) (g2 := g2) (rows := rows) hD hdn hrow hA hnb hnd) rfl Try.call42 (fun _ => rfl) (by decide)
    (fun pre Lc => Lc = [.blk g7 3 [.int .i64 ((countL (l.take pre.length) s : Nat) : Int)], .blk g5 3 [.int .i64 s], .own A l.length cb 60 2 (kv l)]) (fun c pre Lc => False) ?hS rfl ?body ?done ?stop
  case hS => 
    have h3 := hS.take (pre := [.blk g7 _ _, .blk g5 _ _, .own A _ _ _ _ _, .blk g1 _ _, .blk g2 _ _, .blk g _ _, .own D _ _ _ _ _]) Take.found
    exact h3
  case body =>
    clear hS
    rintro r pre x rest _ Γ' w o hx rfl hS
    obtain ⟨hpl, hxn⟩ := range_mid hx
    simp only [List.cons_append, List.nil_append] at hS
    dsimp only [Env.params]
    (refine Reach.walkG ?_; (repeat (first | ((with_reducible refine AllSt.mk ?_); (try clear hS); intro w hS) | ((with_reducible refine AllVw.mk ?_); intro V hV))))
    refine ⟨rfl, _, hS, ?_⟩
    clear hS
    intro w o' hS
    have hst := countL_step s hxn
    have hle := countL_le (l.take pre.length) s
    have hpx : (pre ++ [x]).length = pre.length + 1 := by simp
    rw [List.length_take] at hle
    rw [← hpl] at hst hxn
    have hlk : Look (.obj r o' :: .blk g7 3 [.int .i64 ((countL (l.take pre.length) s : Nat) : Int)] :: .blk g5 3 [.int .i64 s] :: .own A l.length cb 60 2 (kv l) :: Γ') ((adr A).add (0 + x * 2 + 0)) (.int .i64 ((l.getD pre.length ⟨0, 0⟩).st : Int)) :=
      .there (.there (.there (Look.own (by rw [← hpl]; exact kv_st' hxn))))
    rw [← hpx] at hst
    generalize hcN : countL (l.take (pre ++ [x]).length) s = cN at *
    generalize countL (l.take pre.length) s = c0 at *
    generalize (l.getD pre.length ⟨0, 0⟩).st = st at *
    (refine Reach.walkG ?_; (repeat (first | ((with_reducible refine AllSt.mk ?_); (try clear hS); intro w hS) | ((with_reducible refine AllVw.mk ?_); intro V hV))))
    (refine WpG.drawD 6 (by kernel_rfl) (by kernel_rfl) rfl ?_; dsimp only [List.take, List.drop])
    (refine Reach.rwalk ?_; (repeat (first | ((with_reducible refine AllSt.mk ?_); (try clear hS); intro w hS) | ((with_reducible refine AllVw.mk ?_); intro V hV))))
    (refine RgD.fin0 fun w hb => ?_; replace hS := hS.below hb; clear hb)
    by_cases heq : (st : Int) = s
    · rw [if_pos heq] at hst
      (refine Reach.walkG ?_; (repeat (first | ((with_reducible refine AllSt.mk ?_); (try clear hS); intro w hS) | ((with_reducible refine AllVw.mk ?_); intro V hV))))
      rw [← hst] at hS
      exact roundD.go (Lc' := [_, _, _]) (by rw [hcN]) hS
    · rw [if_neg heq, Nat.add_zero] at hst
      (refine Reach.walkG ?_; (repeat (first | ((with_reducible refine AllSt.mk ?_); (try clear hS); intro w hS) | ((with_reducible refine AllVw.mk ?_); intro V hV))))
      rw [← hst] at hS
      exact roundD.go (Lc' := [_, _, _]) (by rw [hcN]) hS
  case done =>
    clear hS
    rintro D' _ w rfl hS
    simp only [List.cons_append, List.nil_append] at hS
    rw [List.length_range, List.take_length] at hS
    (refine Reach.walkG ?_; (repeat (first | ((with_reducible refine AllSt.mk ?_); (try clear hS); intro w hS) | ((with_reducible refine AllVw.mk ?_); intro V hV))))
    refine leaveG_mark hS fun w hS => leaveG_nil ?_
    (with_reducible apply doneQ_one Try.results15); (· exact slotFound)
    (replace hS := (hS.take (pre := [.blk g _ _, .own D _ _ _ _ _, .own A _ _ _ _ _]) Take.found); (try simp only [List.cons_append, List.nil_append] at hS))
    exact ⟨rfl, hS.sub (.cons_cons _ (.cons_cons _ (.cons_cons _ (sub4 L))))⟩
  case stop => rintro D' c pre Lc w h; exact h.elim
end
end Go.Proofs.Ytaapnfoimcccjaa
