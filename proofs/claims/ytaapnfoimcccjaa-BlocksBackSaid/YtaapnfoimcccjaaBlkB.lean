/-
  A die's blocks as an iterator; one block of a die.
-/
import Derived.Test.YtaapnfoimcccjaaBlkA
namespace Go.Proofs.Ytaapnfoimcccjaa
open Go.Fk Go.RowKit
attribute [local irreducible] Wp WpL Det thenQ blockQ WpG thenD blockG
instance : FieldT Try.prog 56 0 0 := ⟨by kernel_rfl⟩
instance : FieldT Try.prog 60 0 0 := ⟨by kernel_rfl⟩
instance : FieldT Try.prog 60 1 1 := ⟨by kernel_rfl⟩
instance : SizeT Try.prog 56 1 := ⟨by kernel_rfl⟩
instance : SizeT Try.prog 60 2 := ⟨by kernel_rfl⟩
instance : RowT Try.prog 60 := ⟨_, Try.underlying60, rfl⟩
instance : SliceT Try.prog 57 60 := ⟨Try.underlying57⟩
instance : SliceT Try.prog 54 57 := ⟨Try.underlying54⟩
instance : Cell1 Try.prog 57 := ⟨_, Try.underlying57, rfl⟩
instance : Cell1 Try.prog 54 := ⟨_, Try.underlying54, rfl⟩
instance : SizeT Try.prog 57 1 := ⟨by kernel_rfl⟩
instance : SizeT Try.prog 54 1 := ⟨by kernel_rfl⟩
instance : PtrT Try.prog 24 := ⟨_, Try.underlying24⟩
instance : PtrT Try.prog 61 := ⟨_, Try.underlying61⟩
instance : Cell1 Try.prog 24 := ⟨_, Try.underlying24, rfl⟩
instance : Cell1 Try.prog 61 := ⟨_, Try.underlying61, rfl⟩
instance : SizeT Try.prog 24 1 := ⟨by kernel_rfl⟩
instance : SizeT Try.prog 61 1 := ⟨by kernel_rfl⟩
instance : Elem Try.prog 61 1 8 (.pointer none) := ⟨by kernel_rfl, rfl, by decide⟩
instance : Elem Try.prog 60 2 16 (.agg #[.int .i64 0, .int .u32 0]) := ⟨by kernel_rfl, rfl, by decide⟩
instance : Elem Try.prog 57 1 24 (.slice none 0 0) := ⟨by kernel_rfl, rfl, by decide⟩
instance : IntT Try.prog 25 .i64 := ⟨Try.underlying25⟩
def poolP (g : Nat) : Value := .pointer (some ⟨g, 0, none⟩)
section
variable {w w0 : World} {M : Nat → Prop} {L : List Ch}
theorem of_any {p : Option Addr} {d : Int} (hS : St w0 M w L) :
    Calls Try.prog 30 #[.pointer p, .int .i64 d] w fun x w' => ∃ g1 g2, x = .returned (.func (.func 42) #[] #[.pointer (some ⟨g1, 0, none⟩), .pointer (some ⟨g2, 0, none⟩)]) ∧
      St w0 M w' (.blk g1 24 [.pointer p] :: .blk g2 3 [.int .i64 d] :: L) := by
  (refine calls_of (P := Try.prog) _ Try.func30 rfl Try.ntmps30 (Nat.le_of_ble_eq_true rfl) ?_; dsimp only [argE, Nat.reduceAdd])
  (refine Reach.walk ?_; (repeat (first | ((with_reducible refine AllSt.mk ?_); (try clear hS); intro w hS) | ((with_reducible refine AllVw.mk ?_); intro V hV))))
  ((with_reducible apply WpL.bx); (· assumption); (· exact rfl); (· exact Env.found); (· exact rfl); clear hS)
  intro g1 w hS
  (refine Reach.walk ?_; (repeat (first | ((with_reducible refine AllSt.mk ?_); (try clear hS); intro w hS) | ((with_reducible refine AllVw.mk ?_); intro V hV))))
  ((with_reducible apply WpL.bx); (· assumption); (· exact rfl); (· exact Env.found); (· exact rfl); clear hS)
  intro g2 w hS
  (refine Reach.walk ?_; (repeat (first | ((with_reducible refine AllSt.mk ?_); (try clear hS); intro w hS) | ((with_reducible refine AllVw.mk ?_); intro V hV))))
  (with_reducible apply doneQ_one Try.results30); (· exact slotFound)
  exact ⟨g1, g2, rfl, hS.swap1⟩
end
/-- The heads of a pool: where its dies lie. -/
abbrev heads (g : Nat) (D : Option Addr) (nd cd : Nat) (rows : List Value) : List Ch := [.blk g 56 [.slice D nd cd], .own D nd cd 57 1 rows]
theorem of_iter_out {w0 : World} {M : Nat → Prop} {g g1 g2 nd cd : Nat} {D : Option Addr} {rows : List Value} {d : Int} (hD : IsVw D nd cd D 0) (hd : ¬ (0 ≤ d ∧ d < nd)) (encs : Nat → List Value) :
    IterOk Try.prog 42 #[.pointer (some ⟨g1, 0, none⟩), .pointer (some ⟨g2, 0, none⟩)] encs [] w0 M (.blk g1 24 [poolP g] :: .blk g2 3 [.int .i64 d] :: heads g D nd cd rows) := by
  intro rr I Ix hY Lc Γ' w h0 hS
  have hS1 : St w0 M w (.blk g1 24 [poolP g] :: .blk g2 3 [.int .i64 d] :: .blk g 56 [.slice D nd cd] :: .own D nd cd 57 1 rows :: (Lc ++ Γ')) := hS.perm (List.perm_append_comm_assoc Lc [_, _, _, _] Γ')
  clear hS
  show Calls Try.prog 42 #[.func (.yield rr) #[] #[], .pointer (some ⟨g1, 0, none⟩), .pointer (some ⟨g2, 0, none⟩)] w _
  have fin : ∀ w', St w0 M w' (.blk g1 24 [poolP g] :: .blk g2 3 [.int .i64 d] :: .blk g 56 [.slice D nd cd] :: .own D nd cd 57 1 rows :: (Lc ++ Γ')) →
      St w0 M w' (Lc ++ (.blk g1 24 [poolP g] :: .blk g2 3 [.int .i64 d] :: heads g D nd cd rows ++ Γ')) := fun w' h => h.perm (List.perm_append_comm_assoc [_, _, _, _] Lc Γ')
  unfold poolP at *
  (refine calls_ofG (P := Try.prog) _ Try.func42 rfl Try.ntmps42 (Nat.le_of_ble_eq_true rfl) ?_; dsimp only [argE, Nat.reduceAdd])
  (refine Reach.walkG ?_; (repeat (first | ((with_reducible refine AllSt.mk ?_); (try clear hS); intro w hS) | ((with_reducible refine AllVw.mk ?_); intro V hV))))
  by_cases h1 : d < 0
  · (refine WpG.drawD 15 (by kernel_rfl) (by kernel_rfl) rfl ?_; dsimp only [List.take, List.drop])
    have hS := hS1
    (refine Reach.rwalk ?_; (repeat (first | ((with_reducible refine AllSt.mk ?_); (try clear hS); intro w hS) | ((with_reducible refine AllVw.mk ?_); intro V hV))))
    (refine RgD.fin0 fun w hb => ?_; replace hS := hS.below hb; clear hb)
    (refine Reach.walkG ?_; (repeat (first | ((with_reducible refine AllSt.mk ?_); (try clear hS); intro w hS) | ((with_reducible refine AllVw.mk ?_); intro V hV))))
    refine leaveG_nil ?_
    (try with_reducible apply doneQ_end); (with_reducible apply doneQ_none Try.results42)
    exact ⟨⟨_, rfl⟩, .inl ⟨Lc, h0, fin _ hS⟩⟩
  · have h2 : ¬ d < (nd : Int) := fun h => hd ⟨by omega, h⟩
    (refine WpG.drawD 15 (by kernel_rfl) (by kernel_rfl) rfl ?_; dsimp only [List.take, List.drop])
    have hS := hS1
    (refine Reach.rwalk ?_; (repeat (first | ((with_reducible refine AllSt.mk ?_); (try clear hS); intro w hS) | ((with_reducible refine AllVw.mk ?_); intro V hV))))
    (refine RgD.fin0 fun w hb => ?_; replace hS := hS.below hb; clear hb)
    (refine Reach.walkG ?_; (repeat (first | ((with_reducible refine AllSt.mk ?_); (try clear hS); intro w hS) | ((with_reducible refine AllVw.mk ?_); intro V hV))))
    refine leaveG_nil ?_
    (try with_reducible apply doneQ_end); (with_reducible apply doneQ_none Try.results42)
    exact ⟨⟨_, rfl⟩, .inl ⟨Lc, h0, fin _ hS⟩⟩
theorem range_split {i n : Nat} (h : i < n) : ∃ rest, List.range n = List.range i ++ i :: rest := by
  obtain ⟨k, rfl⟩ : ∃ k, n = i + (k + 1) := ⟨n - i - 1, by omega⟩
  exact ⟨_, by rw [List.range_add, List.range_succ_eq_map, List.map_cons, Nat.add_zero]⟩
theorem of_iter_in {w0 : World} {M : Nat → Prop} {g g1 g2 nd cd d : Nat} {D : Option Addr} {rows : List Value} {A : Option Addr} {nb cb : Nat} (hD : IsVw D nd cd D 0) (hdn : d < nd) (hrow : rows[d]? = some (.slice A nb cb)) (hA : IsVw A nb cb A 0) (hnb : nb ≤ 1048576) (hnd : nd ≤ 1048576) :
    IterOk Try.prog 42 #[.pointer (some ⟨g1, 0, none⟩), .pointer (some ⟨g2, 0, none⟩)] (fun i : Nat => [.int .i64 (i : Int), .pointer (some ((adr A).add (0 + i * 2)))]) (List.range nb) w0 M (.blk g1 24 [poolP g] :: .blk g2 3 [.int .i64 (d : Int)] :: heads g D nd cd rows) := by
  intro rr I Ix hY Lc Γ' w h0 hS
  have to : ∀ Lc w', St w0 M w' (Lc ++ (.blk g1 24 [poolP g] :: .blk g2 3 [.int .i64 (d : Int)] :: heads g D nd cd rows ++ Γ')) → St w0 M w' (.blk g1 24 [poolP g] :: .blk g2 3 [.int .i64 (d : Int)] :: .blk g 56 [.slice D nd cd] :: .own D nd cd 57 1 rows :: (Lc ++ Γ')) := fun Lc w' h => h.perm (List.perm_append_comm_assoc Lc [_, _, _, _] Γ')
  have fro : ∀ Lc w', St w0 M w' (.blk g1 24 [poolP g] :: .blk g2 3 [.int .i64 (d : Int)] :: .blk g 56 [.slice D nd cd] :: .own D nd cd 57 1 rows :: (Lc ++ Γ')) →
      St w0 M w' (Lc ++ (.blk g1 24 [poolP g] :: .blk g2 3 [.int .i64 (d : Int)] :: heads g D nd cd rows ++ Γ')) := fun Lc w' h => h.perm (List.perm_append_comm_assoc [_, _, _, _] Lc Γ')
  replace hS := to _ _ hS
  show Calls Try.prog 42 #[.func (.yield rr) #[] #[], .pointer (some ⟨g1, 0, none⟩), .pointer (some ⟨g2, 0, none⟩)] w _
  unfold poolP at *
  (refine calls_ofG (P := Try.prog) _ Try.func42 rfl Try.ntmps42 (Nat.le_of_ble_eq_true rfl) ?_; dsimp only [argE, Nat.reduceAdd])
  (refine Reach.walkG ?_; (repeat (first | ((with_reducible refine AllSt.mk ?_); (try clear hS); intro w hS) | ((with_reducible refine AllVw.mk ?_); intro V hV))))
  (refine WpG.drawD 15 (by kernel_rfl) (by kernel_rfl) rfl ?_; dsimp only [List.take, List.drop])
  (refine Reach.rwalk ?_; (repeat (first | ((with_reducible refine AllSt.mk ?_); (try clear hS); intro w hS) | ((with_reducible refine AllVw.mk ?_); intro V hV))))
  (refine RgD.fin0 fun w hb => ?_; replace hS := hS.below hb; clear hb)
  (refine Reach.walkG ?_; (repeat (first | ((with_reducible refine AllSt.mk ?_); (try clear hS); intro w hS) | ((with_reducible refine AllVw.mk ?_); intro V hV))))
  (refine WpG.drawD 9 (by kernel_rfl) (by kernel_rfl) rfl ?_; dsimp only [List.take, List.drop])
  (refine Reach.rwalk ?_; (repeat (first | ((with_reducible refine AllSt.mk ?_); (try clear hS); intro w hS) | ((with_reducible refine AllVw.mk ?_); intro V hV))))
  refine RgD.ld hS rfl rfl rfl rfl (.there (.there (.there (Look.own hrow)))) ?_
  (refine Reach.rwalk ?_; (repeat (first | ((with_reducible refine AllSt.mk ?_); (try clear hS); intro w hS) | ((with_reducible refine AllVw.mk ?_); intro V hV))))
  (refine RgD.fin0 fun w hb => ?_; replace hS := hS.below hb; clear hb)
  (refine Reach.walkG ?_; (repeat (first | ((with_reducible refine AllSt.mk ?_); (try clear hS); intro w hS) | ((with_reducible refine AllVw.mk ?_); intro V hV))))
  apply WpG.loopUp nb (fun i e w' => ∃ Lc, I (List.range i) Lc ∧ St w0 M w' (.blk g1 24 [.pointer (some ⟨g, 0, none⟩)] :: .blk g2 3 [.int .i64 (d : Int)] :: .blk g 56 [.slice D nd cd] :: .own D nd cd 57 1 rows :: (Lc ++ Γ')) ∧
      e.Has [(28, .int .i64 (i : Nat)), (27, .int .i64 (nb : Nat)), (0, .func (.yield rr) #[] #[]), (1, .pointer (some ⟨g1, 0, none⟩)), (2, .pointer (some ⟨g2, 0, none⟩))]) (Nat.zero_le _)
    ⟨Lc, h0, hS, rfl, rfl, rfl, rfl, rfl, trivial⟩
  clear hS h0
  rintro i e w hi ⟨Lc, hI, hS, he⟩
  obtain ⟨e0, rfl⟩ := he.eq
  clear he
  dsimp only [Env.sets]
  by_cases hlt : i < nb
  rotate_left
  · obtain rfl : i = nb := by omega
    (refine Reach.walkG ?_; (repeat (first | ((with_reducible refine AllSt.mk ?_); (try clear hS); intro w hS) | ((with_reducible refine AllVw.mk ?_); intro V hV))))
    refine leaveG_nil ?_
    (try with_reducible apply doneQ_end); (with_reducible apply doneQ_none Try.results42)
    exact ⟨⟨_, rfl⟩, .inl ⟨Lc, hI, fro _ _ hS⟩⟩
  obtain ⟨rest, hrest⟩ := range_split hlt
  (refine Reach.walkG ?_; (repeat (first | ((with_reducible refine AllSt.mk ?_); (try clear hS); intro w hS) | ((with_reducible refine AllVw.mk ?_); intro V hV))))
  (refine WpG.drawDY 11 (by kernel_rfl) (by kernel_rfl) rfl ?_; dsimp only [List.take, List.drop])
  (refine Reach.rwalk ?_; (repeat (first | ((with_reducible refine AllSt.mk ?_); (try clear hS); intro w hS) | ((with_reducible refine AllVw.mk ?_); intro V hV))))
  refine RgD.ld hS rfl rfl rfl rfl (.there (.there (.there (Look.own hrow)))) ?_
  (refine Reach.rwalk ?_; (repeat (first | ((with_reducible refine AllSt.mk ?_); (try clear hS); intro w hS) | ((with_reducible refine AllVw.mk ?_); intro V hV))))
  (refine RgD.finY fun w hb => ?_; replace hS := hS.below hb; clear hb)
  refine WpY.yield rfl rfl rfl Vals.found ?_
  refine (hY (List.range i) i rest Lc _ w hrest hI (fro _ _ hS)).mono ?_
  clear hS
  rintro v w' (⟨rfl, Lc', hI', hS⟩ | ⟨rfl, Lc', hI', hS⟩)
  · refine ⟨_, rfl, WpL.toY ?_⟩
    replace hS := to _ _ hS
    (refine Reach.walkG ?_; (repeat (first | ((with_reducible refine AllSt.mk ?_); (try clear hS); intro w hS) | ((with_reducible refine AllVw.mk ?_); intro V hV))))
    exact ⟨rfl, hlt, Lc', by rw [List.range_succ]; exact hI', hS, int_eq (by omega), rfl, rfl, rfl, rfl, trivial⟩
  · refine ⟨_, rfl, WpL.toY ?_⟩
    replace hS := to _ _ hS
    (refine Reach.walkG ?_; (repeat (first | ((with_reducible refine AllSt.mk ?_); (try clear hS); intro w hS) | ((with_reducible refine AllVw.mk ?_); intro V hV))))
    refine leaveG_nil ?_
    (try with_reducible apply doneQ_end); (with_reducible apply doneQ_none Try.results42)
    exact ⟨⟨_, rfl⟩, .inr ⟨_, Lc', hI', fro _ _ hS⟩⟩
/-- Where a block of a die lies, if there is one. -/
def atP (A : Option Addr) (nb : Nat) (n : Int) : Value := if 0 ≤ n ∧ n < nb then .pointer (some ((adr A).add (0 + n.toNat * 2))) else .pointer none
section
variable {w w0 : World} {M : Nat → Prop} {L : List Ch} {g nd cd : Nat} {D : Option Addr} {rows : List Value}
theorem at_out {d n : Int} (hD : IsVw D nd cd D 0) (hd : ¬ (0 ≤ d ∧ d < nd)) (hS : St w0 M w (heads g D nd cd rows ++ L)) :
    Calls Try.prog 29 #[poolP g, .int .i64 d, .int .i64 n] w fun x w' => x = .returned (.pointer none) ∧ St w0 M w' (heads g D nd cd rows ++ L) := by
  unfold poolP
  (refine calls_ofG (P := Try.prog) _ Try.func29 rfl Try.ntmps29 (Nat.le_of_ble_eq_true rfl) ?_; dsimp only [argE, Nat.reduceAdd])
  (refine Reach.walkG ?_; (repeat (first | ((with_reducible refine AllSt.mk ?_); (try clear hS); intro w hS) | ((with_reducible refine AllVw.mk ?_); intro V hV))))
  ((with_reducible apply WpL.bx); (· assumption); (· exact rfl); (· exact Env.found); (· exact rfl); clear hS)
  intro g5 w hS
  (refine Reach.walkG ?_; (repeat (first | ((with_reducible refine AllSt.mk ?_); (try clear hS); intro w hS) | ((with_reducible refine AllVw.mk ?_); intro V hV))))
  ((with_reducible apply WpL.al); (· assumption); (· exact rfl); (· exact rfl); clear hS)
  intro g6 w hS
  (refine Reach.walkG ?_; (repeat (first | ((with_reducible refine AllSt.mk ?_); (try clear hS); intro w hS) | ((with_reducible refine AllVw.mk ?_); intro V hV))))
  (with_reducible apply WpL.call); (· exact rfl); (· exact Try.call30); (· exact Vals.found)
  refine (of_any hS).mono ?_
  clear hS
  rintro x w ⟨g1, g2, rfl, hS⟩
  refine ⟨_, rfl, ?_⟩
  (refine Reach.walkG ?_; (repeat (first | ((with_reducible refine AllSt.mk ?_); (try clear hS); intro w hS) | ((with_reducible refine AllVw.mk ?_); intro V hV))))
  refine WpG.rangeFunc (ps := [12, 13]) (w0 := w0) (M := M) (Γ0 := L) (Lc := [.blk g6 61 [.pointer none], .blk g5 3 [.int .i64 n]])
    (of_iter_out (g := g) (g1 := g1) (g2 := g2) (rows := rows) hD hd (fun i : Nat => [.int .i64 (i : Int), .int .i64 0])) rfl Try.call42 (fun _ => rfl) (by decide)
    (fun pre Lc => Lc = [.blk g6 61 [.pointer none], .blk g5 3 [.int .i64 n]]) (fun c pre Lc => False) ?hS rfl ?body ?done ?stop
  case hS => exact hS.perm (List.perm_append_comm_assoc [_, _] [_, _] _)
  case body =>
    rintro r pre x rest _ Γ' w o hx
    cases pre <;> cases hx
  case done =>
    clear hS
    rintro D' _ w rfl hS
    simp only [List.cons_append, List.nil_append] at hS
    (refine Reach.walkG ?_; (repeat (first | ((with_reducible refine AllSt.mk ?_); (try clear hS); intro w hS) | ((with_reducible refine AllVw.mk ?_); intro V hV))))
    refine leaveG_mark hS fun w hS => leaveG_nil ?_
    refine doneQ_c1 Try.results29 slotFound hS Look.found ?_
    refine ⟨rfl, ?_⟩
    exact hS.sub ((List.sublist_cons_self _ _).trans ((List.sublist_cons_self _ _).trans ((List.sublist_cons_self _ _).trans (List.sublist_cons_self _ _))))
  case stop => rintro D' c pre Lc w h; exact h.elim
theorem at_in {d : Nat} {n : Int} {A : Option Addr} {nb cb : Nat} (hD : IsVw D nd cd D 0) (hdn : d < nd) (hrow : rows[d]? = some (.slice A nb cb)) (hA : IsVw A nb cb A 0) (hnb : nb ≤ 1048576) (hnd : nd ≤ 1048576) (hS : St w0 M w (heads g D nd cd rows ++ L)) :
    Calls Try.prog 29 #[poolP g, .int .i64 (d : Int), .int .i64 n] w fun x w' => x = .returned (atP A nb n) ∧ St w0 M w' (heads g D nd cd rows ++ L) := by
  unfold poolP
  (refine calls_ofG (P := Try.prog) _ Try.func29 rfl Try.ntmps29 (Nat.le_of_ble_eq_true rfl) ?_; dsimp only [argE, Nat.reduceAdd])
  (refine Reach.walkG ?_; (repeat (first | ((with_reducible refine AllSt.mk ?_); (try clear hS); intro w hS) | ((with_reducible refine AllVw.mk ?_); intro V hV))))
  ((with_reducible apply WpL.bx); (· assumption); (· exact rfl); (· exact Env.found); (· exact rfl); clear hS)
  intro g5 w hS
  (refine Reach.walkG ?_; (repeat (first | ((with_reducible refine AllSt.mk ?_); (try clear hS); intro w hS) | ((with_reducible refine AllVw.mk ?_); intro V hV))))
  ((with_reducible apply WpL.al); (· assumption); (· exact rfl); (· exact rfl); clear hS)
  intro g6 w hS
  (refine Reach.walkG ?_; (repeat (first | ((with_reducible refine AllSt.mk ?_); (try clear hS); intro w hS) | ((with_reducible refine AllVw.mk ?_); intro V hV))))
  (with_reducible apply WpL.call); (· exact rfl); (· exact Try.call30); (· exact Vals.found)
  refine (of_any hS).mono ?_
  clear hS
  rintro x w ⟨g1, g2, rfl, hS⟩
  refine ⟨_, rfl, ?_⟩
  (refine Reach.walkG ?_; (repeat (first | ((with_reducible refine AllSt.mk ?_); (try clear hS); intro w hS) | ((with_reducible refine AllVw.mk ?_); intro V hV))))
  refine WpG.rangeFunc (ps := [12, 13]) (w0 := w0) (M := M) (Γ0 := L) (Lc := [.blk g6 61 [.pointer none], .blk g5 3 [.int .i64 n]])
    (of_iter_in (g := g) (g1 := g1) (g2 := g2) (rows := rows) hD hdn hrow hA hnb hnd) rfl Try.call42 (fun _ => rfl) (by decide)
    (fun pre Lc => (∀ i ∈ pre, (i : Int) ≠ n) ∧ Lc = [.blk g6 61 [.pointer none], .blk g5 3 [.int .i64 n]])
    (fun c pre Lc => c = .ret ∧ ∃ i : Nat, (i : Int) = n ∧ i < nb ∧ Lc = [.blk g6 61 [.pointer (some ((adr A).add (0 + i * 2)))], .blk g5 3 [.int .i64 n]]) ?hS ⟨fun i h => (by cases h), rfl⟩ ?body ?done ?stop
  case hS => exact hS.perm (List.perm_append_comm_assoc [_, _] [_, _] _)
  case body =>
    clear hS
    rintro r pre x rest _ Γ' w o hx ⟨hno, rfl⟩ hS
    have hxn : x < nb := List.mem_range.1 (by rw [hx]; simp)
    simp only [List.cons_append, List.nil_append] at hS
    dsimp only [Env.params]
    (refine Reach.walkG ?_; (repeat (first | ((with_reducible refine AllSt.mk ?_); (try clear hS); intro w hS) | ((with_reducible refine AllVw.mk ?_); intro V hV))))
    refine ⟨rfl, _, hS, ?_⟩
    clear hS
    intro w o' hS
    by_cases hxe : (x : Int) = n
    · (refine Reach.walkG ?_; (repeat (first | ((with_reducible refine AllSt.mk ?_); (try clear hS); intro w hS) | ((with_reducible refine AllVw.mk ?_); intro V hV))))
      exact roundD.ret (Lc' := [_, _]) ⟨rfl, x, hxe, hxn, rfl⟩ hS
    · (refine Reach.walkG ?_; (repeat (first | ((with_reducible refine AllSt.mk ?_); (try clear hS); intro w hS) | ((with_reducible refine AllVw.mk ?_); intro V hV))))
      exact roundD.go (Lc' := [_, _]) ⟨fun i hi => by
        rcases List.mem_append.1 hi with hi | hi
        · exact hno i hi
        · rw [List.mem_singleton.1 hi]; exact hxe, rfl⟩ hS
  case done =>
    clear hS
    rintro D' _ w ⟨hno, rfl⟩ hS
    have hat : atP A nb n = .pointer none := by
      unfold atP
      rw [if_neg]
      rintro ⟨h1, h2⟩
      exact hno n.toNat (List.mem_range.2 (by omega)) (by omega)
    simp only [List.cons_append, List.nil_append] at hS
    (refine Reach.walkG ?_; (repeat (first | ((with_reducible refine AllSt.mk ?_); (try clear hS); intro w hS) | ((with_reducible refine AllVw.mk ?_); intro V hV))))
    refine leaveG_mark hS fun w hS => leaveG_nil ?_
    refine doneQ_c1 Try.results29 slotFound hS Look.found ?_
    refine ⟨by rw [hat], ?_⟩
    exact hS.sub ((List.sublist_cons_self _ _).trans ((List.sublist_cons_self _ _).trans ((List.sublist_cons_self _ _).trans (List.sublist_cons_self _ _))))
  case stop =>
    clear hS
    rintro D' _ pre _ w ⟨rfl, i, hi, hib, rfl⟩ hS
    have hat : atP A nb n = .pointer (some ((adr A).add (0 + i * 2))) := by
      unfold atP
      rw [if_pos ⟨by omega, by omega⟩, ← hi, Int.toNat_natCast]
    simp only [List.cons_append, List.nil_append] at hS
    (refine Reach.walkG ?_; (repeat (first | ((with_reducible refine AllSt.mk ?_); (try clear hS); intro w hS) | ((with_reducible refine AllVw.mk ?_); intro V hV))))
    refine leaveG_mark hS fun w hS => leaveG_nil ?_
    refine doneQ_c1 Try.results29 slotFound hS Look.found ?_
    refine ⟨by rw [hat], ?_⟩
    exact hS.sub ((List.sublist_cons_self _ _).trans ((List.sublist_cons_self _ _).trans ((List.sublist_cons_self _ _).trans (List.sublist_cons_self _ _))))
end
end Go.Proofs.Ytaapnfoimcccjaa
