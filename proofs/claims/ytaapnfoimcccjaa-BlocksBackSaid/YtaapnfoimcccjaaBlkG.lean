/-
  A free block of a die is taken: the first of those erased least.
-/
import Derived.Test.YtaapnfoimcccjaaBlkF
namespace Go.Proofs.Ytaapnfoimcccjaa
open Go.Fk Go.RowKit
attribute [local irreducible] Wp WpL Det thenQ blockQ WpG thenD blockG
def stG (l : List Bk) (i : Nat) : Nat := (l.getD i ⟨0, 0⟩).st
def erG (l : List Bk) (i : Nat) : Nat := (l.getD i ⟨0, 0⟩).er
def lessB (l : List Bk) (k : Nat) : Option Nat → Bool
  | none => true
  | some b => decide (erG l k < erG l b)
def bestN (l : List Bk) : Nat → Option Nat
  | 0 => none
  | k + 1 => if stG l k = 1 ∧ lessB l k (bestN l k) = true then some k else bestN l k
theorem bestN_lt {l : List Bk} : ∀ {k b : Nat}, bestN l k = some b → b < k ∧ stG l b = 1
  | 0, b, h => by cases h
  | k + 1, b, h => by
    rw [bestN] at h
    split at h
    · rename_i hc
      injection h with h
      subst h
      exact ⟨Nat.lt_succ_self _, hc.1⟩
    · have := bestN_lt h
      exact ⟨by omega, this.2⟩
def takeL (l : List Bk) : (Int × Int) × List Bk := match bestN l l.length with
  | none => ((0, 70), l)
  | some b => (((b : Int), 0), l.set b ⟨2, erG l b⟩)
theorem takeL_len (l : List Bk) : (takeL l).2.length = l.length := by
  unfold takeL
  split <;> simp
theorem Fit.take {l : List Bk} (h : Fit l) : Fit (takeL l).2 := by
  unfold takeL
  split
  · exact h
  · rename_i b hb
    exact h.set _ ⟨(h _ (getD_memB (bestN_lt hb).1)).1, by show 2 < 256; decide⟩
def bestV (A : Option Addr) : Option Nat → Value
  | none => .pointer none
  | some b => .pointer (some ((adr A).add (0 + b * 2)))
def atV : Option Nat → Int
  | none => 0
  | some b => b
section
variable {w w0 : World} {M : Nat → Prop} {L : List Ch} {g nd cd : Nat} {D : Option Addr} {rows : List Value}
theorem takeO {d : Int} (hD : IsVw D nd cd D 0) (hd : ¬ (0 ≤ d ∧ d < nd)) (hS : St w0 M w (headsC g D nd cd rows L)) :
    Calls Try.prog 11 #[.pointer (some ⟨g, 0, none⟩), .int .i64 d] w fun x w' => x = .returned (.tuple #[.int .i64 0, .int .i64 1]) ∧ St w0 M w' (headsC g D nd cd rows L) := by
  (refine calls_ofG (P := Try.prog) _ Try.func11 rfl Try.ntmps11 (Nat.le_of_ble_eq_true rfl) ?_; dsimp only [argE, Nat.reduceAdd])
  (refine Reach.walkG ?_; (repeat (first | ((with_reducible refine AllSt.mk ?_); (try clear hS); intro w hS) | ((with_reducible refine AllVw.mk ?_); intro V hV))))
  (with_reducible apply WpL.call); (· exact rfl); (· exact Try.call29); (· exact Vals.found)
  refine (atO hD hd hS).mono ?_
  clear hS
  rintro x w ⟨rfl, hS⟩
  refine ⟨_, rfl, ?_⟩
  (refine Reach.walkG ?_; (repeat (first | ((with_reducible refine AllSt.mk ?_); (try clear hS); intro w hS) | ((with_reducible refine AllVw.mk ?_); intro V hV))))
  refine leaveG_nil ?_
  (with_reducible apply doneQ_two Try.results11); (· exact slotFound); (· exact slotFound)
  exact ⟨rfl, hS⟩
theorem takeI {d : Nat} {A : Option Addr} {nb cb : Nat} {l : List Bk} (hnb0 : 0 < nb) (hl : l.length = nb) (hf : Fit l) (hD : IsVw D nd cd D 0) (hdn : d < nd) (hrow : rows[d]? = some (.slice A nb cb)) (hA : IsVw A nb cb A 0) (hnb : nb ≤ 1048576) (hnd : nd ≤ 1048576) (hS : St w0 M w (poolC g D nd cd rows A nb cb l L)) :
    Calls Try.prog 11 #[.pointer (some ⟨g, 0, none⟩), .int .i64 (d : Int)] w fun x w' => x = .returned (.tuple #[.int .i64 (takeL l).1.1, .int .i64 (takeL l).1.2]) ∧ St w0 M w' (poolC g D nd cd rows A nb cb (takeL l).2 L) := by
  subst hl
  (refine calls_ofG (P := Try.prog) _ Try.func11 rfl Try.ntmps11 (Nat.le_of_ble_eq_true rfl) ?_; dsimp only [argE, Nat.reduceAdd])
  (refine Reach.walkG ?_; (repeat (first | ((with_reducible refine AllSt.mk ?_); (try clear hS); intro w hS) | ((with_reducible refine AllVw.mk ?_); intro V hV))))
  (with_reducible apply WpL.call); (· exact rfl); (· exact Try.call29); (· exact Vals.found)
  refine (atI hD hdn hrow hA hnb hnd hS).mono ?_
  clear hS
  rintro x w ⟨rfl, hS⟩
  refine ⟨_, rfl, ?_⟩
  have hat : atP A l.length 0 = .pointer (some ((adr A).add (0 + 0 * 2))) := by unfold atP; rw [if_pos ⟨by decide, by omega⟩]; rfl
  rw [hat]
  clear hat
  (refine Reach.walkG ?_; (repeat (first | ((with_reducible refine AllSt.mk ?_); (try clear hS); intro w hS) | ((with_reducible refine AllVw.mk ?_); intro V hV))))
  ((with_reducible apply WpL.al); (· assumption); (· exact rfl); (· exact rfl); clear hS)
  intro g6 w hS
  (refine Reach.walkG ?_; (repeat (first | ((with_reducible refine AllSt.mk ?_); (try clear hS); intro w hS) | ((with_reducible refine AllVw.mk ?_); intro V hV))))
  ((with_reducible apply WpL.al); (· assumption); (· exact rfl); (· exact rfl); clear hS)
  intro g7 w hS
  (refine Reach.walkG ?_; (repeat (first | ((with_reducible refine AllSt.mk ?_); (try clear hS); intro w hS) | ((with_reducible refine AllVw.mk ?_); intro V hV))))
  (with_reducible apply WpL.call); (· exact rfl); (· exact Try.call30); (· exact Vals.found)
  refine (of_any hS).mono ?_
  clear hS
  rintro x w ⟨g1, g2, rfl, hS⟩
  refine ⟨_, rfl, ?_⟩
  (refine Reach.walkG ?_; (repeat (first | ((with_reducible refine AllSt.mk ?_); (try clear hS); intro w hS) | ((with_reducible refine AllVw.mk ?_); intro V hV))))
  refine WpG.rangeFunc (ps := [17, 18]) (w0 := w0) (M := M) (Γ0 := L) (Lc := [.blk g7 3 [.int .i64 0], .blk g6 61 [.pointer none], .own A l.length cb 60 2 (kv l)])
    (of_iter_in (g := g) (g1 := g1) (g2 := g2) (rows := rows) hD hdn hrow hA hnb hnd) rfl Try.call42 (fun _ => rfl) (by decide)
    (fun pre Lc => Lc = [.blk g7 3 [.int .i64 (atV (bestN l pre.length))], .blk g6 61 [bestV A (bestN l pre.length)], .own A l.length cb 60 2 (kv l)]) (fun c pre Lc => False) ?hS rfl ?body ?done ?stop
  case hS =>
    have h3 := hS.take (pre := [.blk g7 _ _, .blk g6 _ _, .own A _ _ _ _ _, .blk g1 _ _, .blk g2 _ _, .blk g _ _, .own D _ _ _ _ _]) Take.found
    exact h3
  case body =>
    clear hS
    rintro r pre x rest _ Γ' w o hx rfl hS
    obtain ⟨hpl, hxn⟩ := range_mid hx
    simp only [List.cons_append, List.nil_append] at hS
    dsimp only [Env.params]
    (refine Reach.walkG ?_; (repeat (first | ((with_reducible refine AllSt.mk ?_); (try clear hS); intro w hS) | ((with_reducible refine AllVw.mk ?_); intro V hV))))
    refine ⟨rfl, _, hS, ?_⟩
    clear hS
    intro w o' hS
    have hpx : (pre ++ [x]).length = x + 1 := by simp [hpl]
    have hst : bestN l (x + 1) = if stG l x = 1 ∧ lessB l x (bestN l x) = true then some x else bestN l x := rfl
    have hfb := hf _ (getD_memB hxn)
    have hlt := @bestN_lt l x
    rw [hpl] at hS
    have hlk : Look (.obj r o' :: .blk g7 3 [.int .i64 (atV (bestN l x))] :: .blk g6 61 [bestV A (bestN l x)] :: .own A l.length cb 60 2 (kv l) :: Γ') ((adr A).add (0 + x * 2 + 0)) (.int .i64 (stG l x : Int)) :=
      .there (.there (.there (Look.own (kv_st' hxn))))
    have hlk2 : Look (.obj r o' :: .blk g7 3 [.int .i64 (atV (bestN l x))] :: .blk g6 61 [bestV A (bestN l x)] :: .own A l.length cb 60 2 (kv l) :: Γ') ((adr A).add (0 + x * 2 + 1)) (.int .u32 (erG l x : Int)) :=
      .there (.there (.there (Look.own (kv_er' hxn))))
    have hlk3 : ∀ b, b < x → Look (.obj r o' :: .blk g7 3 [.int .i64 (atV (bestN l x))] :: .blk g6 61 [bestV A (bestN l x)] :: .own A l.length cb 60 2 (kv l) :: Γ') ((adr A).add (0 + b * 2 + 1)) (.int .u32 (erG l b : Int)) :=
      fun b hb => .there (.there (.there (Look.own (kv_er' (by omega)))))
    generalize hcN : bestN l (x + 1) = oN at *
    generalize bestN l x = o0 at *
    by_cases h1 : stG l x = 1
    rotate_left
    · rw [if_neg (fun h => h1 h.1)] at hst
      generalize stG l x = st at *
      (refine Reach.walkG ?_; (repeat (first | ((with_reducible refine AllSt.mk ?_); (try clear hS); intro w hS) | ((with_reducible refine AllVw.mk ?_); intro V hV))))
      (refine WpG.drawD 20 (by kernel_rfl) (by kernel_rfl) rfl ?_; dsimp only [List.take, List.drop])
      (refine Reach.rwalk ?_; (repeat (first | ((with_reducible refine AllSt.mk ?_); (try clear hS); intro w hS) | ((with_reducible refine AllVw.mk ?_); intro V hV))))
      (refine RgD.fin0 fun w hb => ?_; replace hS := hS.below hb; clear hb)
      (refine Reach.walkG ?_; (repeat (first | ((with_reducible refine AllSt.mk ?_); (try clear hS); intro w hS) | ((with_reducible refine AllVw.mk ?_); intro V hV))))
      rw [← hst] at hS
      exact roundD.go (Lc' := [_, _, _]) (by rw [hpx, hcN]) hS
    rw [h1] at hlk
    cases o0 with
    | none =>
      rw [if_pos ⟨h1, rfl⟩] at hst
      dsimp only [atV, bestV] at *
      (refine Reach.walkG ?_; (repeat (first | ((with_reducible refine AllSt.mk ?_); (try clear hS); intro w hS) | ((with_reducible refine AllVw.mk ?_); intro V hV))))
      (refine WpG.drawD 20 (by kernel_rfl) (by kernel_rfl) rfl ?_; dsimp only [List.take, List.drop])
      (refine Reach.rwalk ?_; (repeat (first | ((with_reducible refine AllSt.mk ?_); (try clear hS); intro w hS) | ((with_reducible refine AllVw.mk ?_); intro V hV))))
      (refine RgD.fin0 fun w hb => ?_; replace hS := hS.below hb; clear hb)
      (refine Reach.walkG ?_; (repeat (first | ((with_reducible refine AllSt.mk ?_); (try clear hS); intro w hS) | ((with_reducible refine AllVw.mk ?_); intro V hV))))
      exact roundD.go (Lc' := [_, _, _]) (by rw [hpx, hcN, hst]) hS
    | some b =>
      have hb := (hlt rfl).1
      have hlk4 := hlk3 b hb
      clear hlk3
      dsimp only [atV, bestV] at *
      by_cases hless : erG l x < erG l b
      · rw [if_pos ⟨h1, decide_eq_true hless⟩] at hst
        generalize erG l x = ex at *
        generalize erG l b = eb at *
        (refine Reach.walkG ?_; (repeat (first | ((with_reducible refine AllSt.mk ?_); (try clear hS); intro w hS) | ((with_reducible refine AllVw.mk ?_); intro V hV))))
        (refine WpG.drawD 20 (by kernel_rfl) (by kernel_rfl) rfl ?_; dsimp only [List.take, List.drop])
        (refine Reach.rwalk ?_; (repeat (first | ((with_reducible refine AllSt.mk ?_); (try clear hS); intro w hS) | ((with_reducible refine AllVw.mk ?_); intro V hV))))
        (refine RgD.fin0 fun w hb => ?_; replace hS := hS.below hb; clear hb)
        (refine Reach.walkG ?_; (repeat (first | ((with_reducible refine AllSt.mk ?_); (try clear hS); intro w hS) | ((with_reducible refine AllVw.mk ?_); intro V hV))))
        exact roundD.go (Lc' := [_, _, _]) (by rw [hpx, hcN, hst]) hS
      · rw [if_neg (fun h => hless (of_decide_eq_true h.2))] at hst
        generalize erG l x = ex at *
        generalize erG l b = eb at *
        (refine Reach.walkG ?_; (repeat (first | ((with_reducible refine AllSt.mk ?_); (try clear hS); intro w hS) | ((with_reducible refine AllVw.mk ?_); intro V hV))))
        (refine WpG.drawD 20 (by kernel_rfl) (by kernel_rfl) rfl ?_; dsimp only [List.take, List.drop])
        (refine Reach.rwalk ?_; (repeat (first | ((with_reducible refine AllSt.mk ?_); (try clear hS); intro w hS) | ((with_reducible refine AllVw.mk ?_); intro V hV))))
        (refine RgD.fin0 fun w hb => ?_; replace hS := hS.below hb; clear hb)
        (refine Reach.walkG ?_; (repeat (first | ((with_reducible refine AllSt.mk ?_); (try clear hS); intro w hS) | ((with_reducible refine AllVw.mk ?_); intro V hV))))
        exact roundD.go (Lc' := [_, _, _]) (by rw [hpx, hcN, hst]) hS
  case done =>
    clear hS
    rintro D' _ w rfl hS
    simp only [List.cons_append, List.nil_append] at hS
    rw [List.length_range] at hS
    unfold takeL
    have hlt := @bestN_lt l l.length
    generalize bestN l l.length = o at *
    cases o with
    | none =>
      dsimp only [atV, bestV] at *
      (refine Reach.walkG ?_; (repeat (first | ((with_reducible refine AllSt.mk ?_); (try clear hS); intro w hS) | ((with_reducible refine AllVw.mk ?_); intro V hV))))
      refine leaveG_mark hS fun w hS => leaveG_nil ?_
      (with_reducible apply doneQ_two Try.results11); (· exact slotFound); (· exact slotFound)
      (replace hS := (hS.take (pre := [.blk g _ _, .own D _ _ _ _ _, .own A _ _ _ _ _]) Take.found); (try simp only [List.cons_append, List.nil_append] at hS))
      exact ⟨rfl, hS.sub (.cons_cons _ (.cons_cons _ (.cons_cons _ (sub4 _))))⟩
    | some b =>
      have hb := (hlt rfl).1
      dsimp only [atV, bestV] at *
      have hup : Upd (.obj D' (.deferred (some [])) :: .blk g7 3 [.int .i64 (b : Int)] :: .blk g6 61 [.pointer (some ((adr A).add (0 + b * 2)))] :: .own A l.length cb 60 2 (kv l) :: .blk g1 24 [.pointer (some ⟨g, 0, none⟩)] :: .blk g2 3 [.int .i64 (d : Int)] :: .blk g 56 [.slice D nd cd] :: .own D nd cd 57 1 rows :: L)
          ((adr A).add (0 + b * 2 + 0)) (.int .i64 2) (.obj D' (.deferred (some [])) :: .blk g7 3 [.int .i64 (b : Int)] :: .blk g6 61 [.pointer (some ((adr A).add (0 + b * 2)))] :: .own A l.length cb 60 2 (kv (l.set b ⟨2, erG l b⟩)) :: .blk g1 24 [.pointer (some ⟨g, 0, none⟩)] :: .blk g2 3 [.int .i64 (d : Int)] :: .blk g 56 [.slice D nd cd] :: .own D nd cd 57 1 rows :: L) :=
        .there (.there (.there (Upd.own (by rw [kv_length]; omega) (kv_set_st' 2 hb))))
      unfold poolP at *
      (refine Reach.walkG ?_; (repeat (first | ((with_reducible refine AllSt.mk ?_); (try clear hS); intro w hS) | ((with_reducible refine AllVw.mk ?_); intro V hV))))
      refine leaveG_mark hS fun w hS => leaveG_nil ?_
      (with_reducible apply doneQ_two Try.results11); (· exact slotFound); (· exact slotFound)
      (replace hS := (hS.take (pre := [.blk g _ _, .own D _ _ _ _ _, .own A _ _ _ _ _]) Take.found); (try simp only [List.cons_append, List.nil_append] at hS))
      exact ⟨rfl, hS.sub (.cons_cons _ (.cons_cons _ (.cons_cons _ (sub4 _))))⟩
  case stop => rintro D' c pre Lc w h; exact h.elim
end
end Go.Proofs.Ytaapnfoimcccjaa
