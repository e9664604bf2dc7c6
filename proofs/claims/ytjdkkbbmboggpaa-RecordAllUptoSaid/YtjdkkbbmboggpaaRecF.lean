/-
  Records taken of bytes, at most so many.
-/
import Derived.Test.YtjdkkbbmboggpaaRecE
namespace Go.Proofs.Ytjdkkbbmboggpaa
open Go.Fk Go.RowKit
attribute [local irreducible] Wp WpL Det thenQ blockQ WpG thenD blockG
instance : FnT Try.prog 53 := ⟨_, _, _, Try.underlying53⟩
instance : Elem Try.prog 34 1 24 (.slice none 0 0) := ⟨by kernel_rfl, rfl, by decide⟩
def takenR (l : List UInt8) (most : Int) : List Rec := if most < 0 then recsG none l else (recsG none l).take most.toNat
section
variable {w w0 : World} {M : Nat → Prop} {L : List Ch}
theorem taken_any {U : Option Addr} {n c : Nat} {l : List UInt8} {most : Int} (hU : IsVw U n c U 0) (hm : n ≤ 140737488355328) (hrl : (recsG none l).length ≤ 3000000000000) (hr : RdsV L U n (bv l)) (hS : St w0 M w L) :
    Calls Try.prog 15 #[.slice U n c, .int .i64 most] w fun x w' => ∃ A k, x = .returned (.slice A (takenR l most).length k) ∧ IsVw A (takenR l most).length k A 0 ∧
      St w0 M w' (.own A (takenR l most).length k 24 5 (rv (takenR l most)) :: L) := by
  have hn : l.length = n := by
    have := (hr w0 M w hS).2
    simpa using this
  (refine calls_ofG (P := Try.prog) _ Try.func15 rfl Try.ntmps15 (Nat.le_of_ble_eq_true rfl) ?_; dsimp only [argE, Nat.reduceAdd])
  (refine Reach.walkG ?_; (repeat (first | ((with_reducible refine AllSt.mk ?_); (try clear hS); intro w hS) | ((with_reducible refine AllVw.mk ?_); intro V hV))))
  ((with_reducible apply WpL.bx); (· assumption); (· exact rfl); (· exact Env.found); (· exact rfl); clear hS)
  intro g3 w hS
  (refine Reach.walkG ?_; (repeat (first | ((with_reducible refine AllSt.mk ?_); (try clear hS); intro w hS) | ((with_reducible refine AllVw.mk ?_); intro V hV))))
  ((with_reducible apply WpL.al); (· assumption); (· exact rfl); (· exact rfl); clear hS)
  intro g5 w hS
  (refine Reach.walkG ?_; (repeat (first | ((with_reducible refine AllSt.mk ?_); (try clear hS); intro w hS) | ((with_reducible refine AllVw.mk ?_); intro V hV))))
  (with_reducible apply WpL.call); (· exact rfl); (· exact Try.call25); (· exact Vals.found)
  refine (recAll_any hS).mono ?_
  clear hS
  rintro x w ⟨g, rfl, hS⟩
  refine ⟨_, rfl, ?_⟩
  (refine Reach.walkG ?_; (repeat (first | ((with_reducible refine AllSt.mk ?_); (try clear hS); intro w hS) | ((with_reducible refine AllVw.mk ?_); intro V hV))))
  refine WpL.det rfl (Det.eqlNilF rfl rfl) ?_
  by_cases h0 : most = 0
  · (refine Reach.walkG ?_; (repeat (first | ((with_reducible refine AllSt.mk ?_); (try clear hS); intro w hS) | ((with_reducible refine AllVw.mk ?_); intro V hV))))
    have ht : takenR l most = [] := by unfold takenR; rw [if_neg (by omega), h0]; rfl
    refine leaveG_nil ?_
    (with_reducible apply doneQ_one Try.results15); (· exact slotFound)
    rw [ht]
    exact ⟨none, 0, rfl, IsVw.nil, hS.tail.tail.tail.nil_⟩
  (refine Reach.walkG ?_; (repeat (first | ((with_reducible refine AllSt.mk ?_); (try clear hS); intro w hS) | ((with_reducible refine AllVw.mk ?_); intro V hV))))
  refine WpG.rangeFunc (ps := [17]) (w0 := w0) (M := M) (Γ0 := []) (Lc := [.blk g5 34 [.slice none 0 0], .own none 0 0 24 5 (rv []), .blk g3 3 [.int .i64 most]])
    (recAll_iter (Γ0 := L) (g := g) hU hm hr hn) rfl Try.call34 (fun _ => rfl) (by decide)
    (fun pre Lc => ∃ A k, IsVw A pre.length k A 0 ∧ (most < 0 ∨ (pre.length : Int) < most) ∧ Lc = [.blk g5 34 [.slice A pre.length k], .own A pre.length k 24 5 (rv pre), .blk g3 3 [.int .i64 most]])
    (fun c pre Lc => c = .exit 0 ∧ ∃ A k, IsVw A pre.length k A 0 ∧ (pre.length : Int) = most ∧ pre <+: recsG none l ∧ Lc = [.blk g5 34 [.slice A pre.length k], .own A pre.length k 24 5 (rv pre), .blk g3 3 [.int .i64 most]])
    ?hS ⟨none, 0, IsVw.nil, by simp; omega, rfl⟩ ?body ?done ?stop
  case hS =>
    have hS2 : St w0 M w (.own none 0 0 24 5 (rv []) :: .blk g 25 [.slice U n c] :: .blk g5 34 [.slice none 0 0] :: .blk g3 3 [.int .i64 most] :: L) := hS.nil_
    have h3 := hS2.take (pre := [.blk g5 _ _, .own none _ _ _ _ _, .blk g3 _ _]) Take.found
    rw [List.append_nil]
    exact h3
  case body =>
    clear hS
    rintro r pre x rest _ Γ' w o hx ⟨A, k, hA, hmo, rfl⟩ hS
    simp only [List.cons_append, List.nil_append] at hS
    have hlen : pre.length + 1 ≤ 3000000000000 := by
      have := congrArg List.length hx
      rw [List.length_append, List.length_cons] at this
      omega
    have hpx : (pre ++ [x]).length = pre.length + 1 := by simp
    have hpf : pre ++ [x] <+: recsG none l := ⟨rest, by rw [hx]; simp⟩
    dsimp only [Env.params]
    (refine Reach.walkG ?_; (repeat (first | ((with_reducible refine AllSt.mk ?_); (try clear hS); intro w hS) | ((with_reducible refine AllVw.mk ?_); intro V hV))))
    ((with_reducible apply WpL.al); (· assumption); (· exact rfl); (· exact rfl); clear hS)
    intro gx w hS
    (refine Reach.walkG ?_; (repeat (first | ((with_reducible refine AllSt.mk ?_); (try clear hS); intro w hS) | ((with_reducible refine AllVw.mk ?_); intro V hV))))
    refine ⟨rfl, _, hS.swap1, ?_⟩
    clear hS
    intro w o' hS
    (refine Reach.walkG ?_; (repeat (first | ((with_reducible refine AllSt.mk ?_); (try clear hS); intro w hS) | ((with_reducible refine AllVw.mk ?_); intro V hV))))
    refine WpL.bs1 (sz := 5) (cells := x.cells) hS rfl rfl (by decide) (by decide) (by kernel_rfl) rfl ?_
    clear hS
    intro B w hB hS
    (refine Reach.walkG ?_; (repeat (first | ((with_reducible refine AllSt.mk ?_); (try clear hS); intro w hS) | ((with_reducible refine AllVw.mk ?_); intro V hV))))
    ((with_reducible apply WpL.app); (· assumption); (· exact rfl); (· exact rfl); (· exact rfl); (· exact Sel.found); (· simp only [Nat.mul_one]; exact RdsV.found); (· exact onesFound); (· exact catFound); (· omega); (· omega); clear hS)
    intro A3 c3 w hA3 hS
    (refine Reach.walkG ?_; (repeat (first | ((with_reducible refine AllSt.mk ?_); (try clear hS); intro w hS) | ((with_reducible refine AllVw.mk ?_); intro V hV))))
    have hS2 : St w0 M w (.obj r o' :: ([.blk g5 34 [.slice A3 (pre ++ [x]).length c3], .own A3 (pre ++ [x]).length c3 24 5 (rv (pre ++ [x])), .blk g3 3 [.int .i64 most]] ++ Γ')) := by
      rw [hpx, ← rv_snoc]
      have h3 := hS.take (pre := [.obj r _, .blk g5 _ _, .own A3 _ _ _ _ _, .blk g3 _ _]) Take.found
      exact h3.sub (.cons_cons _ (.cons_cons _ (.cons_cons _ (.cons_cons _ ((List.sublist_cons_self _ _).trans (List.sublist_cons_self _ _))))))
    rw [← hpx] at hA3
    by_cases hstop : (pre.length : Int) + 1 = most
    · (refine Reach.walkG ?_; (repeat (first | ((with_reducible refine AllSt.mk ?_); (try clear hS); intro w hS) | ((with_reducible refine AllVw.mk ?_); intro V hV))))
      exact roundD.exit ⟨rfl, A3, c3, hA3, by rw [hpx]; omega, hpf, rfl⟩ hS2
    · (refine Reach.walkG ?_; (repeat (first | ((with_reducible refine AllSt.mk ?_); (try clear hS); intro w hS) | ((with_reducible refine AllVw.mk ?_); intro V hV))))
      exact roundD.go ⟨A3, c3, hA3, by rw [hpx]; omega, rfl⟩ hS2
  case done =>
    clear hS
    rintro D _ w ⟨A, k, hA, hmo, rfl⟩ hS
    simp only [List.cons_append, List.nil_append, List.append_nil] at hS
    have ht : takenR l most = recsG none l := by
      unfold takenR
      split
      · rfl
      · exact List.take_of_length_le (by omega)
    (refine Reach.walkG ?_; (repeat (first | ((with_reducible refine AllSt.mk ?_); (try clear hS); intro w hS) | ((with_reducible refine AllVw.mk ?_); intro V hV))))
    refine leaveG_mark hS fun w hS => leaveG_nil ?_
    (with_reducible apply doneQ_one Try.results15); (· exact slotFound)
    rw [ht]
    exact ⟨A, k, rfl, hA, hS.tail.drop1.drop1⟩
  case stop =>
    clear hS
    rintro D _ pre _ w ⟨rfl, A, k, hA, hmo, hpf, rfl⟩ hS
    simp only [List.cons_append, List.nil_append, List.append_nil] at hS
    have ht : takenR l most = pre := by
      unfold takenR
      rw [if_neg (by omega), ← hmo, Int.toNat_natCast]
      exact (List.prefix_iff_eq_take.1 hpf).symm
    (refine Reach.walkG ?_; (repeat (first | ((with_reducible refine AllSt.mk ?_); (try clear hS); intro w hS) | ((with_reducible refine AllVw.mk ?_); intro V hV))))
    refine leaveG_mark hS fun w hS => leaveG_nil ?_
    (with_reducible apply doneQ_one Try.results15); (· exact slotFound)
    rw [ht]
    exact ⟨A, k, rfl, hA, hS.tail.drop1.drop1⟩
end
end Go.Proofs.Ytjdkkbbmboggpaa
