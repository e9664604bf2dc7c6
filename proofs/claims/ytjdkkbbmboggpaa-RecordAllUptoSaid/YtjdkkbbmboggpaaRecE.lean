/-
  The records of bytes, as an iterator.
-/
import Derived.Test.YtjdkkbbmboggpaaRecD
namespace Go.Proofs.Ytjdkkbbmboggpaa
open Go.Fk Go.RowKit
attribute [local irreducible] Wp WpL Det thenQ blockQ
section
variable {w w0 : World} {M : Nat → Prop} {L : List Ch}
theorem recAll_any {U : Option Addr} {n c : Nat} (hS : St w0 M w L) :
    Calls Try.prog 25 #[.slice U n c] w fun x w' => ∃ g, x = .returned (.func (.func 34) #[] #[.pointer (some ⟨g, 0, none⟩)]) ∧ St w0 M w' (.blk g 25 [.slice U n c] :: L) := by
  (refine calls_of (P := Try.prog) _ Try.func25 rfl Try.ntmps25 (Nat.le_of_ble_eq_true rfl) ?_; dsimp only [argE, Nat.reduceAdd])
  (refine Reach.walk ?_; (repeat (first | ((with_reducible refine AllSt.mk ?_); (try clear hS); intro w hS) | ((with_reducible refine AllVw.mk ?_); intro V hV))))
  ((with_reducible apply WpL.bx); (· assumption); (· exact rfl); (· exact Env.found); (· exact rfl); clear hS)
  intro g w hS
  (refine Reach.walk ?_; (repeat (first | ((with_reducible refine AllSt.mk ?_); (try clear hS); intro w hS) | ((with_reducible refine AllVw.mk ?_); intro V hV))))
  (with_reducible apply doneQ_one Try.results25); (· exact slotFound)
  exact ⟨g, rfl, hS⟩
end
theorem recAll_iter {w0 : World} {M : Nat → Prop} {Γ0 : List Ch} {g : Nat} {U : Option Addr} {n c : Nat} {l : List UInt8} (hU : IsVw U n c U 0) (hm : n ≤ 140737488355328) (hr : RdsV Γ0 U n (bv l)) (hn : l.length = n) :
    IterOk Try.prog 34 #[.pointer (some ⟨g, 0, none⟩)] (fun r : Rec => [.agg r.cells.toArray]) (recsG none l) w0 M (.blk g 25 [.slice U n c] :: Γ0) := by
  intro rr I Ix hY Lc Γ' w h0 hS
  have hS1 : St w0 M w (.blk g 25 [.slice U n c] :: (Lc ++ (Γ0 ++ Γ'))) := hS.perm List.perm_middle
  clear hS
  show Calls Try.prog 34 #[.func (.yield rr) #[] #[], .pointer (some ⟨g, 0, none⟩)] w _
  have hrT : ∀ Lc, RdsV (.blk g 25 [.slice U n c] :: (Lc ++ (Γ0 ++ Γ'))) U n (bv l) := fun Lc => ((hr.left Γ').right Lc).there _
  (refine calls_of (P := Try.prog) _ Try.func34 rfl Try.ntmps34 (Nat.le_of_ble_eq_true rfl) ?_; dsimp only [argE, Nat.reduceAdd])
  (refine Reach.walk ?_; (repeat (first | ((with_reducible refine AllSt.mk ?_); (try clear hS); intro w hS) | ((with_reducible refine AllVw.mk ?_); intro V hV))))
  apply Wp.loopUp (recsG none l).length (fun k e w' => ∃ pre Lc V s, pre.length = k ∧ k * 37 ≤ n ∧ recsG none l = pre ++ recsG (lastS pre) (l.drop (k * 37)) ∧ (0 < k → lastS pre = some s) ∧ I pre Lc ∧ IsVw V (n - k * 37) (c - k * 37) U (k * 37) ∧
      St w0 M w' (.blk g 25 [.slice U n c] :: (Lc ++ (Γ0 ++ Γ'))) ∧
      e.Has [(3, .slice V (n - k * 37) (c - k * 37)), (4, .int .u64 ((s : Nat) : Int)), (5, .bool (decide (0 < k))), (0, .func (.yield rr) #[] #[]), (1, .pointer (some ⟨g, 0, none⟩))]) (Nat.zero_le _)
    ⟨[], Lc, U, 0, rfl, by omega, rfl, fun h => absurd h (by decide), h0, hU, hS1, rfl, rfl, rfl, rfl, rfl, trivial⟩
  clear hS1 h0
  rintro k e w1 hk ⟨pre, Lc, V, s, hpl, hkn, hrec, hls, hI, hV, hS, he⟩
  obtain ⟨e0, rfl⟩ := he.eq
  clear he
  dsimp only [Env.sets]
  have hrV : RdsV (.blk g 25 [.slice U n c] :: (Lc ++ (Γ0 ++ Γ'))) V (n - k * 37) (bv (l.drop (k * 37))) := by
    have h1 := (hrT Lc).view hV (by omega)
    have e1 : ((bv l).drop (k * 37)).take (n - k * 37) = bv (l.drop (k * 37)) := by
      rw [← bv_drop, List.take_of_length_le (by rw [bv_length, List.length_drop]; omega)]
    rwa [e1] at h1
  (refine Reach.walk ?_; (repeat (first | ((with_reducible refine AllSt.mk ?_); (try clear hS); intro w hS) | ((with_reducible refine AllVw.mk ?_); intro V hV))))
  (with_reducible apply WpL.call); (· exact rfl); (· exact Try.call11); (· exact Vals.found)
  refine (parse_any hS hrV hV.self (by omega)).mono ?_
  clear hS hrV
  rintro x w2 ⟨rfl, hS⟩
  refine ⟨_, rfl, ?_⟩
  have hpl2 := @parseR_len (l.drop (k * 37))
  have hgo := @recsG_go (lastS pre) (l.drop (k * 37))
  have hst := @recsG_stop (lastS pre) (l.drop (k * 37))
  rw [List.length_drop, hn] at hpl2
  rw [List.drop_drop] at hgo
  generalize hq : (parseR (l.drop (k * 37))).1 = q at *
  generalize (parseR (l.drop (k * 37))).2 = E at *
  (refine Reach.walk ?_; (repeat (first | ((with_reducible refine AllSt.mk ?_); (try clear hS); intro w hS) | ((with_reducible refine AllVw.mk ?_); intro V hV))))
  ((with_reducible apply WpL.al); (· assumption); (· exact rfl); (· exact rfl); clear hS)
  intro gr w hS
  by_cases hE : E = 0
  rotate_left
  · rw [hst (fun h => hE h.1), List.append_nil] at hrec
    (refine Reach.walkL ?_; (repeat (first | ((with_reducible refine AllSt.mk ?_); (try clear hS); intro w hS) | ((with_reducible refine AllVw.mk ?_); intro V hV))))
    refine thenQ_normal ?_
    (repeat (with_reducible apply Wp.seq))
    refine Wp.regionYat 14 rfl rfl rfl ?_
    dsimp only [List.take, List.drop]
    (refine Reach.walkL ?_; (repeat (first | ((with_reducible refine AllSt.mk ?_); (try clear hS); intro w hS) | ((with_reducible refine AllVw.mk ?_); intro V hV))))
    refine .inr ⟨unwanted_of rfl rfl rfl boolFound2, ?_⟩
    (refine Reach.walk ?_; (repeat (first | ((with_reducible refine AllSt.mk ?_); (try clear hS); intro w hS) | ((with_reducible refine AllVw.mk ?_); intro V hV))))
    (try with_reducible apply doneQ_end); (with_reducible apply doneQ_none Try.results34)
    refine ⟨⟨_, rfl⟩, .inl ⟨Lc, by rw [hrec]; exact hI, ?_⟩⟩
    exact hS.tail.perm List.perm_middle.symm
  subst hE
  have hp2 : (Ch.blk gr 24 q.cells.toArray.toList :: Ch.blk g 25 [.slice U n c] :: (Lc ++ (Γ0 ++ Γ'))).Perm (Lc ++ (Ch.blk gr 24 q.cells.toArray.toList :: Ch.blk g 25 [.slice U n c] :: (Γ0 ++ Γ'))) := List.perm_append_comm_assoc [_, _] Lc (Γ0 ++ Γ')
  by_cases hgb : goB (lastS pre) q.seq = true
  rotate_left
  · have hls2 : 0 < k ∧ q.seq ≤ s := by
      have hk0 : 0 < k := by
        refine Nat.pos_of_ne_zero fun h => hgb ?_
        rw [List.eq_nil_of_length_eq_zero (show pre.length = 0 by omega)]
        rfl
      rw [hls hk0] at hgb
      exact ⟨hk0, Nat.not_lt.1 fun h => hgb (decide_eq_true h)⟩
    obtain ⟨hk0, hls3⟩ := hls2
    rw [hst (fun h => hgb h.2), List.append_nil] at hrec
    (refine Reach.walkL ?_; (repeat (first | ((with_reducible refine AllSt.mk ?_); (try clear hS); intro w hS) | ((with_reducible refine AllVw.mk ?_); intro V hV))))
    refine thenQ_normal ?_
    (repeat (with_reducible apply Wp.seq))
    refine Wp.regionYat 14 rfl rfl rfl ?_
    dsimp only [List.take, List.drop]
    (refine Reach.walkL ?_; (repeat (first | ((with_reducible refine AllSt.mk ?_); (try clear hS); intro w hS) | ((with_reducible refine AllVw.mk ?_); intro V hV))))
    refine .inr ⟨unwanted_of rfl rfl rfl boolFound2, ?_⟩
    (refine Reach.walk ?_; (repeat (first | ((with_reducible refine AllSt.mk ?_); (try clear hS); intro w hS) | ((with_reducible refine AllVw.mk ?_); intro V hV))))
    (try with_reducible apply doneQ_end); (with_reducible apply doneQ_none Try.results34)
    refine ⟨⟨_, rfl⟩, .inl ⟨Lc, by rw [hrec]; exact hI, ?_⟩⟩
    exact hS.tail.perm List.perm_middle.symm
  have hgo2 := hgo rfl hgb
  replace hpl2 := hpl2 rfl
  rw [hgo2] at hrec
  have hlen : k < (recsG none l).length := by rw [hrec, List.length_append, List.length_cons]; omega
  have hlt : 0 < k → s < q.seq := fun h => by
    rw [hls h] at hgb
    exact of_decide_eq_true hgb
  have hfin : ∀ Lc', (Ch.blk gr 24 q.cells.toArray.toList :: Ch.blk g 25 [.slice U n c] :: (Lc' ++ (Γ0 ++ Γ'))).Perm (Lc' ++ (Ch.blk gr 24 q.cells.toArray.toList :: Ch.blk g 25 [.slice U n c] :: (Γ0 ++ Γ'))) := fun Lc' => List.perm_append_comm_assoc [_, _] Lc' (Γ0 ++ Γ')
  by_cases hk0 : 0 < k
  · have hls2 := hlt hk0
    (refine Reach.walkL ?_; (repeat (first | ((with_reducible refine AllSt.mk ?_); (try clear hS); intro w hS) | ((with_reducible refine AllVw.mk ?_); intro V hV))))
    refine thenQ_normal ?_
    (repeat (with_reducible apply Wp.seq))
    refine Wp.regionYat 14 rfl rfl rfl ?_
    dsimp only [List.take, List.drop]
    (refine Reach.walkL ?_; (repeat (first | ((with_reducible refine AllSt.mk ?_); (try clear hS); intro w hS) | ((with_reducible refine AllVw.mk ?_); intro V hV))))
    refine .inl ⟨wanted_of rfl rfl rfl boolFound2, rr, _, rfl, Vals.found, ?_⟩
    refine (hY pre q _ Lc _ w hrec hI (hS.perm hp2)).mono ?_
    clear hS
    rintro v w' (⟨rfl, Lc', hI', hS⟩ | ⟨rfl, Lc', hI', hS⟩)
    · refine ⟨_, rfl, ?_⟩
      replace hS := hS.perm (hfin Lc').symm
      (refine Reach.walk ?_; (repeat (first | ((with_reducible refine AllSt.mk ?_); (try clear hS); intro w hS) | ((with_reducible refine AllVw.mk ?_); intro V hV))))
      (refine Wp.drawD 7 (by kernel_rfl) (by kernel_rfl) rfl ?_; dsimp only [List.take, List.drop])
      (refine Reach.rwalk ?_; (repeat (first | ((with_reducible refine AllSt.mk ?_); (try clear hS); intro w hS) | ((with_reducible refine AllVw.mk ?_); intro V hV))))
      (refine RgD.fin0 fun w hb => ?_; replace hS := hS.below hb; clear hb)
      (refine Reach.walk ?_; (repeat (first | ((with_reducible refine AllSt.mk ?_); (try clear hS); intro w hS) | ((with_reducible refine AllVw.mk ?_); intro V hV))))
      have e1 : n - (k + 1) * 37 = n - k * 37 - 37 := by omega
      have e2 : c - (k + 1) * 37 = c - k * 37 - 37 := by omega
      have e3 : (k + 1) * 37 = k * 37 + 37 := by omega
      refine ⟨hlen, pre ++ [q], Lc', V, q.seq, by simp [hpl], by omega, ?_, fun _ => lastS_snoc _ _, hI', by rw [e1, e2, e3]; exact hV, hS.tail, by rw [e1, e2]; rfl, rfl, by rw [decide_eq_true (Nat.succ_pos k)]; rfl, rfl, rfl, trivial⟩
      rw [hrec, lastS_snoc, List.append_assoc, e3]; rfl
    · refine ⟨_, rfl, ?_⟩
      replace hS := hS.perm (hfin Lc').symm
      (refine Reach.walk ?_; (repeat (first | ((with_reducible refine AllSt.mk ?_); (try clear hS); intro w hS) | ((with_reducible refine AllVw.mk ?_); intro V hV))))
      (try with_reducible apply doneQ_end); (with_reducible apply doneQ_none Try.results34)
      exact ⟨⟨_, rfl⟩, .inr ⟨pre ++ [q], Lc', hI', hS.tail.perm List.perm_middle.symm⟩⟩
  · have hk1 : ¬ ((0 : Nat) < k) := hk0
    (refine Reach.walkL ?_; (repeat (first | ((with_reducible refine AllSt.mk ?_); (try clear hS); intro w hS) | ((with_reducible refine AllVw.mk ?_); intro V hV))))
    refine thenQ_normal ?_
    (repeat (with_reducible apply Wp.seq))
    refine Wp.regionYat 14 rfl rfl rfl ?_
    dsimp only [List.take, List.drop]
    (refine Reach.walkL ?_; (repeat (first | ((with_reducible refine AllSt.mk ?_); (try clear hS); intro w hS) | ((with_reducible refine AllVw.mk ?_); intro V hV))))
    refine .inl ⟨wanted_of rfl rfl rfl boolFound2, rr, _, rfl, Vals.found, ?_⟩
    refine (hY pre q _ Lc _ w hrec hI (hS.perm hp2)).mono ?_
    clear hS
    rintro v w' (⟨rfl, Lc', hI', hS⟩ | ⟨rfl, Lc', hI', hS⟩)
    · refine ⟨_, rfl, ?_⟩
      replace hS := hS.perm (hfin Lc').symm
      (refine Reach.walk ?_; (repeat (first | ((with_reducible refine AllSt.mk ?_); (try clear hS); intro w hS) | ((with_reducible refine AllVw.mk ?_); intro V hV))))
      (refine Wp.drawD 7 (by kernel_rfl) (by kernel_rfl) rfl ?_; dsimp only [List.take, List.drop])
      (refine Reach.rwalk ?_; (repeat (first | ((with_reducible refine AllSt.mk ?_); (try clear hS); intro w hS) | ((with_reducible refine AllVw.mk ?_); intro V hV))))
      (refine RgD.fin0 fun w hb => ?_; replace hS := hS.below hb; clear hb)
      (refine Reach.walk ?_; (repeat (first | ((with_reducible refine AllSt.mk ?_); (try clear hS); intro w hS) | ((with_reducible refine AllVw.mk ?_); intro V hV))))
      have e1 : n - (k + 1) * 37 = n - k * 37 - 37 := by omega
      have e2 : c - (k + 1) * 37 = c - k * 37 - 37 := by omega
      have e3 : (k + 1) * 37 = k * 37 + 37 := by omega
      refine ⟨hlen, pre ++ [q], Lc', V, q.seq, by simp [hpl], by omega, ?_, fun _ => lastS_snoc _ _, hI', by rw [e1, e2, e3]; exact hV, hS.tail, by rw [e1, e2]; rfl, rfl, by rw [decide_eq_true (Nat.succ_pos k)]; rfl, rfl, rfl, trivial⟩
      rw [hrec, lastS_snoc, List.append_assoc, e3]; rfl
    · refine ⟨_, rfl, ?_⟩
      replace hS := hS.perm (hfin Lc').symm
      (refine Reach.walk ?_; (repeat (first | ((with_reducible refine AllSt.mk ?_); (try clear hS); intro w hS) | ((with_reducible refine AllVw.mk ?_); intro V hV))))
      (try with_reducible apply doneQ_end); (with_reducible apply doneQ_none Try.results34)
      exact ⟨⟨_, rfl⟩, .inr ⟨pre ++ [q], Lc', hI', hS.tail.perm List.perm_middle.symm⟩⟩
end Go.Proofs.Ytjdkkbbmboggpaa
