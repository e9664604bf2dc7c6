/-
  Parts of a proof: A die's blocks as an iterator; one block of a die; One block of a die: its state, its erases; turns. What is out of range; Turns of one block of a die; its erases counted; How many blocks of a die are in a state; by how much erases differ; Regions that draw their order and store within, in a round or beside deferred calls. It holds for any program; conditions stand at each theorem. (The proofs are those of the text Rgs, turned to the fenced calculus.); By how much a die's erases differ; A free block of a die is taken: the first of those erased least.
-/
import Derived.Test.YtaapnfoimcccjaaLawBlocksPlayM5
set_option linter.unusedVariables false
namespace Go.Proofs.Ytaapnfoimcccjaa
open Go.Fk Go.RowKit
attribute [local irreducible] Wp WpL Det thenQ blockQ WpG thenD blockG
instance : FieldT Try.prog 56 0 0 := ⟨by kernel_rfl⟩
instance : FieldT Try.prog 60 0 0 := ⟨by kernel_rfl⟩
instance : FieldT Try.prog 60 1 1 := ⟨by kernel_rfl⟩
instance : SizeT Try.prog 56 1 := ⟨by kernel_rfl⟩
instance : SizeT Try.prog 60 2 := ⟨by kernel_rfl⟩
instance : RowT Try.prog 60 := ⟨_, Try.underlying60, rfl⟩
instance : SliceT Try.prog 57 60 := ⟨Try.underlying57⟩
instance : SliceT Try.prog 54 57 := ⟨Try.underlying54⟩
instance : Cell1 Try.prog 57 := ⟨_, Try.underlying57, rfl⟩
instance : Cell1 Try.prog 54 := ⟨_, Try.underlying54, rfl⟩
instance : SizeT Try.prog 57 1 := ⟨by kernel_rfl⟩
instance : SizeT Try.prog 54 1 := ⟨by kernel_rfl⟩
instance : PtrT Try.prog 24 := ⟨_, Try.underlying24⟩
instance : PtrT Try.prog 61 := ⟨_, Try.underlying61⟩
instance : Cell1 Try.prog 24 := ⟨_, Try.underlying24, rfl⟩
instance : Cell1 Try.prog 61 := ⟨_, Try.underlying61, rfl⟩
instance : SizeT Try.prog 24 1 := ⟨by kernel_rfl⟩
instance : SizeT Try.prog 61 1 := ⟨by kernel_rfl⟩
instance : Elem Try.prog 61 1 8 (.pointer none) := ⟨by kernel_rfl, rfl, by decide⟩
instance : Elem Try.prog 60 2 16 (.agg #[.int .i64 0, .int .u32 0]) := ⟨by kernel_rfl, rfl, by decide⟩
instance : Elem Try.prog 57 1 24 (.slice none 0 0) := ⟨by kernel_rfl, rfl, by decide⟩
instance : IntT Try.prog 25 .i64 := ⟨Try.underlying25⟩
def poolP (g : Nat) : Value := .pointer (some ⟨g, 0, none⟩)
section
variable {w w0 : World} {M : Nat → Prop} {L : List Ch}
theorem of_any {p : Option Addr} {d : Int} (hS : St w0 M w L) :
    Calls Try.prog 30 #[.pointer p, .int .i64 d] w fun x w' => ∃ g1 g2, x = .returned (.func (.func 42) #[] #[.pointer (some ⟨g1, 0, none⟩), .pointer (some ⟨g2, 0, none⟩)]) ∧
      St w0 M w' (.blk g1 24 [.pointer p] :: .blk g2 3 [.int .i64 d] :: L) := by
  (refine calls_of (P := Try.prog) _ Try.func30 rfl Try.ntmps30 (Nat.le_of_ble_eq_true rfl) ?_; dsimp only [argE, Nat.reduceAdd])
  (refine Reach.walk ?_; (repeat (first | ((with_reducible refine AllSt.mk ?_); (try clear hS); intro w hS) | ((with_reducible refine AllVw.mk ?_); intro V hV))))
  ((with_reducible apply WpL.bx); (· assumption); (· exact rfl); (· exact Env.found); (· exact rfl); clear hS)
  intro g1 w hS
  (refine Reach.walk ?_; (repeat (first | ((with_reducible refine AllSt.mk ?_); (try clear hS); intro w hS) | ((with_reducible refine AllVw.mk ?_); intro V hV))))
  ((with_reducible apply WpL.bx); (· assumption); (· exact rfl); (· exact Env.found); (· exact rfl); clear hS)
  intro g2 w hS
  (refine Reach.walk ?_; (repeat (first | ((with_reducible refine AllSt.mk ?_); (try clear hS); intro w hS) | ((with_reducible refine AllVw.mk ?_); intro V hV))))
  (with_reducible apply doneQ_one Try.results30); (· exact slotFound)
  exact ⟨g1, g2, rfl, hS.swap1⟩
end
/-- The heads of a pool: where its dies lie. -/
abbrev heads (g : Nat) (D : Option Addr) (nd cd : Nat) (rows : List Value) : List Ch := [.blk g 56 [.slice D nd cd], .own D nd cd 57 1 rows]
theorem of_iter_out {w0 : World} {M : Nat → Prop} {g g1 g2 nd cd : Nat} {D : Option Addr} {rows : List Value} {d : Int} (hD : IsVw D nd cd D 0) (hd : ¬ (0 ≤ d ∧ d < nd)) (encs : Nat → List Value) :
    IterOk Try.prog 42 #[.pointer (some ⟨g1, 0, none⟩), .pointer (some ⟨g2, 0, none⟩)] encs [] w0 M (.blk g1 24 [poolP g] :: .blk g2 3 [.int .i64 d] :: heads g D nd cd rows) := by
  intro rr I Ix hY Lc Γ' w h0 hS
  have hS1 : St w0 M w (.blk g1 24 [poolP g] :: .blk g2 3 [.int .i64 d] :: .blk g 56 [.slice D nd cd] :: .own D nd cd 57 1 rows :: (Lc ++ Γ')) := hS.perm (List.perm_append_comm_assoc Lc [_, _, _, _] Γ')
  clear hS
  show Calls Try.prog 42 #[.func (.yield rr) #[] #[], .pointer (some ⟨g1, 0, none⟩), .pointer (some ⟨g2, 0, none⟩)] w _
  have fin : ∀ w', St w0 M w' (.blk g1 24 [poolP g] :: .blk g2 3 [.int .i64 d] :: .blk g 56 [.slice D nd cd] :: .own D nd cd 57 1 rows :: (Lc ++ Γ')) →
      St w0 M w' (Lc ++ (.blk g1 24 [poolP g] :: .blk g2 3 [.int .i64 d] :: heads g D nd cd rows ++ Γ')) := fun w' h => h.perm (List.perm_append_comm_assoc [_, _, _, _] Lc Γ')
  unfold poolP at *
  (refine calls_ofG (P := Try.prog) _ Try.func42 rfl Try.ntmps42 (Nat.le_of_ble_eq_true rfl) ?_; dsimp only [argE, Nat.reduceAdd])
  (refine Reach.walkG ?_; (repeat (first | ((with_reducible refine AllSt.mk ?_); (try clear hS); intro w hS) | ((with_reducible refine AllVw.mk ?_); intro V hV))))
  by_cases h1 : d < 0
  · (refine WpG.drawD 15 (by kernel_rfl) (by kernel_rfl) rfl ?_; dsimp only [List.take, List.drop])
    have hS := hS1
    (refine Reach.rwalk ?_; (repeat (first | ((with_reducible refine AllSt.mk ?_); (try clear hS); intro w hS) | ((with_reducible refine AllVw.mk ?_); intro V hV))))
    (refine RgD.fin0 fun w hb => ?_; replace hS := hS.below hb; clear hb)
    (refine Reach.walkG ?_; (repeat (first | ((with_reducible refine AllSt.mk ?_); (try clear hS); intro w hS) | ((with_reducible refine AllVw.mk ?_); intro V hV))))
    refine leaveG_nil ?_
    (try with_reducible apply doneQ_end); (with_reducible apply doneQ_none Try.results42)
    exact ⟨⟨_, rfl⟩, .inl ⟨Lc, h0, fin _ hS⟩⟩
  · have h2 : ¬ d < (nd : Int) := fun h => hd ⟨by omega, h⟩
    (refine WpG.drawD 15 (by kernel_rfl) (by kernel_rfl) rfl ?_; dsimp only [List.take, List.drop])
    have hS := hS1
    (refine Reach.rwalk ?_; (repeat (first | ((with_reducible refine AllSt.mk ?_); (try clear hS); intro w hS) | ((with_reducible refine AllVw.mk ?_); intro V hV))))
    (refine RgD.fin0 fun w hb => ?_; replace hS := hS.below hb; clear hb)
    (refine Reach.walkG ?_; (repeat (first | ((with_reducible refine AllSt.mk ?_); (try clear hS); intro w hS) | ((with_reducible refine AllVw.mk ?_); intro V hV))))
    refine leaveG_nil ?_
    (try with_reducible apply doneQ_end); (with_reducible apply doneQ_none Try.results42)
    exact ⟨⟨_, rfl⟩, .inl ⟨Lc, h0, fin _ hS⟩⟩
theorem range_split {i n : Nat} (h : i < n) : ∃ rest, List.range n = List.range i ++ i :: rest := by
  obtain ⟨k, rfl⟩ : ∃ k, n = i + (k + 1) := ⟨n - i - 1, by omega⟩
  exact ⟨_, by rw [List.range_add, List.range_succ_eq_map, List.map_cons, Nat.add_zero]⟩
theorem of_iter_in {w0 : World} {M : Nat → Prop} {g g1 g2 nd cd d : Nat} {D : Option Addr} {rows : List Value} {A : Option Addr} {nb cb : Nat} (hD : IsVw D nd cd D 0) (hdn : d < nd) (hrow : rows[d]? = some (.slice A nb cb)) (hA : IsVw A nb cb A 0) (hnb : nb ≤ 1048576) (hnd : nd ≤ 1048576) :
    IterOk Try.prog 42 #[.pointer (some ⟨g1, 0, none⟩), .pointer (some ⟨g2, 0, none⟩)] (fun i : Nat => [.int .i64 (i : Int), .pointer (some ((adr A).add (0 + i * 2)))]) (List.range nb) w0 M (.blk g1 24 [poolP g] :: .blk g2 3 [.int .i64 (d : Int)] :: heads g D nd cd rows) := by
  intro rr I Ix hY Lc Γ' w h0 hS
  have to : ∀ Lc w', St w0 M w' (Lc ++ (.blk g1 24 [poolP g] :: .blk g2 3 [.int .i64 (d : Int)] :: heads g D nd cd rows ++ Γ')) → St w0 M w' (.blk g1 24 [poolP g] :: .blk g2 3 [.int .i64 (d : Int)] :: .blk g 56 [.slice D nd cd] :: .own D nd cd 57 1 rows :: (Lc ++ Γ')) := fun Lc w' h => h.perm (List.perm_append_comm_assoc Lc [_, _, _, _] Γ')
  have fro : ∀ Lc w', St w0 M w' (.blk g1 24 [poolP g] :: .blk g2 3 [.int .i64 (d : Int)] :: .blk g 56 [.slice D nd cd] :: .own D nd cd 57 1 rows :: (Lc ++ Γ')) →
      St w0 M w' (Lc ++ (.blk g1 24 [poolP g] :: .blk g2 3 [.int .i64 (d : Int)] :: heads g D nd cd rows ++ Γ')) := fun Lc w' h => h.perm (List.perm_append_comm_assoc [_, _, _, _] Lc Γ')
  replace hS := to _ _ hS
  show Calls Try.prog 42 #[.func (.yield rr) #[] #[], .pointer (some ⟨g1, 0, none⟩), .pointer (some ⟨g2, 0, none⟩)] w _
  unfold poolP at *
  (refine calls_ofG (P := Try.prog) _ Try.func42 rfl Try.ntmps42 (Nat.le_of_ble_eq_true rfl) ?_; dsimp only [argE, Nat.reduceAdd])
  (refine Reach.walkG ?_; (repeat (first | ((with_reducible refine AllSt.mk ?_); (try clear hS); intro w hS) | ((with_reducible refine AllVw.mk ?_); intro V hV))))
  (refine WpG.drawD 15 (by kernel_rfl) (by kernel_rfl) rfl ?_; dsimp only [List.take, List.drop])
  (refine Reach.rwalk ?_; (repeat (first | ((with_reducible refine AllSt.mk ?_); (try clear hS); intro w hS) | ((with_reducible refine AllVw.mk ?_); intro V hV))))
  (refine RgD.fin0 fun w hb => ?_; replace hS := hS.below hb; clear hb)
  (refine Reach.walkG ?_; (repeat (first | ((with_reducible refine AllSt.mk ?_); (try clear hS); intro w hS) | ((with_reducible refine AllVw.mk ?_); intro V hV))))
  (refine WpG.drawD 9 (by kernel_rfl) (by kernel_rfl) rfl ?_; dsimp only [List.take, List.drop])
  (refine Reach.rwalk ?_; (repeat (first | ((with_reducible refine AllSt.mk ?_); (try clear hS); intro w hS) | ((with_reducible refine AllVw.mk ?_); intro V hV))))
  refine RgD.ld hS rfl rfl rfl rfl (.there (.there (.there (Look.own hrow)))) ?_
  (refine Reach.rwalk ?_; (repeat (first | ((with_reducible refine AllSt.mk ?_); (try clear hS); intro w hS) | ((with_reducible refine AllVw.mk ?_); intro V hV))))
  (refine RgD.fin0 fun w hb => ?_; replace hS := hS.below hb; clear hb)
  (refine Reach.walkG ?_; (repeat (first | ((with_reducible refine AllSt.mk ?_); (try clear hS); intro w hS) | ((with_reducible refine AllVw.mk ?_); intro V hV))))
  apply WpG.loopUp nb (fun i e w' => ∃ Lc, I (List.range i) Lc ∧ St w0 M w' (.blk g1 24 [.pointer (some ⟨g, 0, none⟩)] :: .blk g2 3 [.int .i64 (d : Int)] :: .blk g 56 [.slice D nd cd] :: .own D nd cd 57 1 rows :: (Lc ++ Γ')) ∧
      e.Has [(28, .int .i64 (i : Nat)), (27, .int .i64 (nb : Nat)), (0, .func (.yield rr) #[] #[]), (1, .pointer (some ⟨g1, 0, none⟩)), (2, .pointer (some ⟨g2, 0, none⟩))]) (Nat.zero_le _)
    ⟨Lc, h0, hS, rfl, rfl, rfl, rfl, rfl, trivial⟩
  clear hS h0
  rintro i e w hi ⟨Lc, hI, hS, he⟩
  obtain ⟨e0, rfl⟩ := he.eq
  clear he
  dsimp only [Env.sets]
  by_cases hlt : i < nb
  rotate_left
  · obtain rfl : i = nb := by omega
    (refine Reach.walkG ?_; (repeat (first | ((with_reducible refine AllSt.mk ?_); (try clear hS); intro w hS) | ((with_reducible refine AllVw.mk ?_); intro V hV))))
    refine leaveG_nil ?_
    (try with_reducible apply doneQ_end); (with_reducible apply doneQ_none Try.results42)
    exact ⟨⟨_, rfl⟩, .inl ⟨Lc, hI, fro _ _ hS⟩⟩
  obtain ⟨rest, hrest⟩ := range_split hlt
  (refine Reach.walkG ?_; (repeat (first | ((with_reducible refine AllSt.mk ?_); (try clear hS); intro w hS) | ((with_reducible refine AllVw.mk ?_); intro V hV))))
  (refine WpG.drawDY 11 (by kernel_rfl) (by kernel_rfl) rfl ?_; dsimp only [List.take, List.drop])
  (refine Reach.rwalk ?_; (repeat (first | ((with_reducible refine AllSt.mk ?_); (try clear hS); intro w hS) | ((with_reducible refine AllVw.mk ?_); intro V hV))))
  refine RgD.ld hS rfl rfl rfl rfl (.there (.there (.there (Look.own hrow)))) ?_
  (refine Reach.rwalk ?_; (repeat (first | ((with_reducible refine AllSt.mk ?_); (try clear hS); intro w hS) | ((with_reducible refine AllVw.mk ?_); intro V hV))))
  (refine RgD.finY fun w hb => ?_; replace hS := hS.below hb; clear hb)
  refine WpY.yield rfl rfl rfl Vals.found ?_
  refine (hY (List.range i) i rest Lc _ w hrest hI (fro _ _ hS)).mono ?_
  clear hS
  rintro v w' (⟨rfl, Lc', hI', hS⟩ | ⟨rfl, Lc', hI', hS⟩)
  · refine ⟨_, rfl, WpL.toY ?_⟩
    replace hS := to _ _ hS
    (refine Reach.walkG ?_; (repeat (first | ((with_reducible refine AllSt.mk ?_); (try clear hS); intro w hS) | ((with_reducible refine AllVw.mk ?_); intro V hV))))
    exact ⟨rfl, hlt, Lc', by rw [List.range_succ]; exact hI', hS, int_eq (by omega), rfl, rfl, rfl, rfl, trivial⟩
  · refine ⟨_, rfl, WpL.toY ?_⟩
    replace hS := to _ _ hS
    (refine Reach.walkG ?_; (repeat (first | ((with_reducible refine AllSt.mk ?_); (try clear hS); intro w hS) | ((with_reducible refine AllVw.mk ?_); intro V hV))))
    refine leaveG_nil ?_
    (try with_reducible apply doneQ_end); (with_reducible apply doneQ_none Try.results42)
    exact ⟨⟨_, rfl⟩, .inr ⟨_, Lc', hI', fro _ _ hS⟩⟩
/-- Where a block of a die lies, if there is one. -/
def atP (A : Option Addr) (nb : Nat) (n : Int) : Value := if 0 ≤ n ∧ n < nb then .pointer (some ((adr A).add (0 + n.toNat * 2))) else .pointer none
section
variable {w w0 : World} {M : Nat → Prop} {L : List Ch} {g nd cd : Nat} {D : Option Addr} {rows : List Value}
theorem at_out {d n : Int} (hD : IsVw D nd cd D 0) (hd : ¬ (0 ≤ d ∧ d < nd)) (hS : St w0 M w (heads g D nd cd rows ++ L)) :
    Calls Try.prog 29 #[poolP g, .int .i64 d, .int .i64 n] w fun x w' => x = .returned (.pointer none) ∧ St w0 M w' (heads g D nd cd rows ++ L) := by
  unfold poolP
  (refine calls_ofG (P := Try.prog) _ Try.func29 rfl Try.ntmps29 (Nat.le_of_ble_eq_true rfl) ?_; dsimp only [argE, Nat.reduceAdd])
  (refine Reach.walkG ?_; (repeat (first | ((with_reducible refine AllSt.mk ?_); (try clear hS); intro w hS) | ((with_reducible refine AllVw.mk ?_); intro V hV))))
  ((with_reducible apply WpL.bx); (· assumption); (· exact rfl); (· exact Env.found); (· exact rfl); clear hS)
  intro g5 w hS
  (refine Reach.walkG ?_; (repeat (first | ((with_reducible refine AllSt.mk ?_); (try clear hS); intro w hS) | ((with_reducible refine AllVw.mk ?_); intro V hV))))
  ((with_reducible apply WpL.al); (· assumption); (· exact rfl); (· exact rfl); clear hS)
  intro g6 w hS
  (refine Reach.walkG ?_; (repeat (first | ((with_reducible refine AllSt.mk ?_); (try clear hS); intro w hS) | ((with_reducible refine AllVw.mk ?_); intro V hV))))
  (with_reducible apply WpL.call); (· exact rfl); (· exact Try.call30); (· exact Vals.found)
  refine (of_any hS).mono ?_
  clear hS
  rintro x w ⟨g1, g2, rfl, hS⟩
  refine ⟨_, rfl, ?_⟩
  (refine Reach.walkG ?_; (repeat (first | ((with_reducible refine AllSt.mk ?_); (try clear hS); intro w hS) | ((with_reducible refine AllVw.mk ?_); intro V hV))))
  refine WpG.rangeFunc (ps := [12, 13]) (w0 := w0) (M := M) (Γ0 := L) (Lc := [.blk g6 61 [.pointer none], .blk g5 3 [.int .i64 n]])
    (of_iter_out (g := g) (g1 := g1) (g2 := g2) (rows := rows) hD hd (fun i : Nat => [.int .i64 (i : Int), .int .i64 0])) rfl Try.call42 (fun _ => rfl) (by decide)
    (fun pre Lc => Lc = [.blk g6 61 [.pointer none], .blk g5 3 [.int .i64 n]]) (fun c pre Lc => False) ?hS rfl ?body ?done ?stop
  case hS => exact hS.perm (List.perm_append_comm_assoc [_, _] [_, _] _)
  case body =>
    rintro r pre x rest _ Γ' w o hx
    cases pre <;> cases hx
  case done =>
    clear hS
    rintro D' _ w rfl hS
    simp only [List.cons_append, List.nil_append] at hS
    (refine Reach.walkG ?_; (repeat (first | ((with_reducible refine AllSt.mk ?_); (try clear hS); intro w hS) | ((with_reducible refine AllVw.mk ?_); intro V hV))))
    refine leaveG_mark hS fun w hS => leaveG_nil ?_
    refine doneQ_c1 Try.results29 slotFound hS Look.found ?_
    refine ⟨rfl, ?_⟩
    exact hS.sub ((List.sublist_cons_self _ _).trans ((List.sublist_cons_self _ _).trans ((List.sublist_cons_self _ _).trans (List.sublist_cons_self _ _))))
  case stop => rintro D' c pre Lc w h; exact h.elim
theorem at_in {d : Nat} {n : Int} {A : Option Addr} {nb cb : Nat} (hD : IsVw D nd cd D 0) (hdn : d < nd) (hrow : rows[d]? = some (.slice A nb cb)) (hA : IsVw A nb cb A 0) (hnb : nb ≤ 1048576) (hnd : nd ≤ 1048576) (hS : St w0 M w (heads g D nd cd rows ++ L)) :
    Calls Try.prog 29 #[poolP g, .int .i64 (d : Int), .int .i64 n] w fun x w' => x = .returned (atP A nb n) ∧ St w0 M w' (heads g D nd cd rows ++ L) := by
  unfold poolP
  (refine calls_ofG (P := Try.prog) _ Try.func29 rfl Try.ntmps29 (Nat.le_of_ble_eq_true rfl) ?_; dsimp only [argE, Nat.reduceAdd])
  (refine Reach.walkG ?_; (repeat (first | ((with_reducible refine AllSt.mk ?_); (try clear hS); intro w hS) | ((with_reducible refine AllVw.mk ?_); intro V hV))))
  ((with_reducible apply WpL.bx); (· assumption); (· exact rfl); (· exact Env.found); (· exact rfl); clear hS)
  intro g5 w hS
  (refine Reach.walkG ?_; (repeat (first | ((with_reducible refine AllSt.mk ?_); (try clear hS); intro w hS) | ((with_reducible refine AllVw.mk ?_); intro V hV))))
  ((with_reducible apply WpL.al); (· assumption); (· exact rfl); (· exact rfl); clear hS)
  intro g6 w hS
  (refine Reach.walkG ?_; (repeat (first | ((with_reducible refine AllSt.mk ?_); (try clear hS); intro w hS) | ((with_reducible refine AllVw.mk ?_); intro V hV))))
  (with_reducible apply WpL.call); (· exact rfl); (· exact Try.call30); (· exact Vals.found)
  refine (of_any hS).mono ?_
  clear hS
  rintro x w ⟨g1, g2, rfl, hS⟩
  refine ⟨_, rfl, ?_⟩
  (refine Reach.walkG ?_; (repeat (first | ((with_reducible refine AllSt.mk ?_); (try clear hS); intro w hS) | ((with_reducible refine AllVw.mk ?_); intro V hV))))
  refine WpG.rangeFunc (ps := [12, 13]) (w0 := w0) (M := M) (Γ0 := L) (Lc := [.blk g6 61 [.pointer none], .blk g5 3 [.int .i64 n]])
    (of_iter_in (g := g) (g1 := g1) (g2 := g2) (rows := rows) hD hdn hrow hA hnb hnd) rfl Try.call42 (fun _ => rfl) (by decide)
    (fun pre Lc => (∀ i ∈ pre, (i : Int) ≠ n) ∧ Lc = [.blk g6 61 [.pointer none], .blk g5 3 [.int .i64 n]])
    (fun c pre Lc => c = .ret ∧ ∃ i : Nat, (i : Int) = n ∧ i < nb ∧ Lc = [.blk g6 61 [.pointer (some ((adr A).add (0 + i * 2)))], .blk g5 3 [.int .i64 n]]) ?hS ⟨fun i h => (by cases h), rfl⟩ ?body ?done ?stop
  case hS => exact hS.perm (List.perm_append_comm_assoc [_, _] [_, _] _)
  case body =>
    clear hS
    rintro r pre x rest _ Γ' w o hx ⟨hno, rfl⟩ hS
    have hxn : x < nb := List.mem_range.1 (by rw [hx]; simp)
    simp only [List.cons_append, List.nil_append] at hS
    dsimp only [Env.params]
    (refine Reach.walkG ?_; (repeat (first | ((with_reducible refine AllSt.mk ?_); (try clear hS); intro w hS) | ((with_reducible refine AllVw.mk ?_); intro V hV))))
    refine ⟨rfl, _, hS, ?_⟩
    clear hS
    intro w o' hS
    by_cases hxe : (x : Int) = n
    · (refine Reach.walkG ?_; (repeat (first | ((with_reducible refine AllSt.mk ?_); (try clear hS); intro w hS) | ((with_reducible refine AllVw.mk ?_); intro V hV))))
      exact roundD.ret (Lc' := [_, _]) ⟨rfl, x, hxe, hxn, rfl⟩ hS
    · (refine Reach.walkG ?_; (repeat (first | ((with_reducible refine AllSt.mk ?_); (try clear hS); intro w hS) | ((with_reducible refine AllVw.mk ?_); intro V hV))))
      exact roundD.go (Lc' := [_, _]) ⟨fun i hi => by
        rcases List.mem_append.1 hi with hi | hi
        · exact hno i hi
        · rw [List.mem_singleton.1 hi]; exact hxe, rfl⟩ hS
  case done =>
    clear hS
    rintro D' _ w ⟨hno, rfl⟩ hS
    have hat : atP A nb n = .pointer none := by
      unfold atP
      rw [if_neg]
      rintro ⟨h1, h2⟩
      exact hno n.toNat (List.mem_range.2 (by omega)) (by omega)
    simp only [List.cons_append, List.nil_append] at hS
    (refine Reach.walkG ?_; (repeat (first | ((with_reducible refine AllSt.mk ?_); (try clear hS); intro w hS) | ((with_reducible refine AllVw.mk ?_); intro V hV))))
    refine leaveG_mark hS fun w hS => leaveG_nil ?_
    refine doneQ_c1 Try.results29 slotFound hS Look.found ?_
    refine ⟨by rw [hat], ?_⟩
    exact hS.sub ((List.sublist_cons_self _ _).trans ((List.sublist_cons_self _ _).trans ((List.sublist_cons_self _ _).trans (List.sublist_cons_self _ _))))
  case stop =>
    clear hS
    rintro D' _ pre _ w ⟨rfl, i, hi, hib, rfl⟩ hS
    have hat : atP A nb n = .pointer (some ((adr A).add (0 + i * 2))) := by
      unfold atP
      rw [if_pos ⟨by omega, by omega⟩, ← hi, Int.toNat_natCast]
    simp only [List.cons_append, List.nil_append] at hS
    (refine Reach.walkG ?_; (repeat (first | ((with_reducible refine AllSt.mk ?_); (try clear hS); intro w hS) | ((with_reducible refine AllVw.mk ?_); intro V hV))))
    refine leaveG_mark hS fun w hS => leaveG_nil ?_
    refine doneQ_c1 Try.results29 slotFound hS Look.found ?_
    refine ⟨by rw [hat], ?_⟩
    exact hS.sub ((List.sublist_cons_self _ _).trans ((List.sublist_cons_self _ _).trans ((List.sublist_cons_self _ _).trans (List.sublist_cons_self _ _))))
end
end Go.Proofs.Ytaapnfoimcccjaa

namespace Go.Proofs.Ytaapnfoimcccjaa
open Go.Fk Go.RowKit
attribute [local irreducible] Wp WpL Det thenQ blockQ WpG thenD blockG
def stAt (l : List Bk) (n : Int) : Nat := if 0 ≤ n ∧ n < l.length then (l.getD n.toNat ⟨0, 0⟩).st else 0
def erAt (l : List Bk) (n : Int) : Nat := if 0 ≤ n ∧ n < l.length then (l.getD n.toNat ⟨0, 0⟩).er else 0
/-- The erases fit. -/
def Fit (l : List Bk) : Prop := ∀ b ∈ l, b.er < 4294967296 ∧ b.st < 256
theorem getD_memB {l : List Bk} {i : Nat} (h : i < l.length) : l.getD i ⟨0, 0⟩ ∈ l := by
  rw [List.getD_eq_getElem?_getD, List.getElem?_eq_getElem h]
  exact List.getElem_mem _
theorem getD_getB {l : List Bk} {i : Nat} (h : i < l.length) : l[i] = l.getD i ⟨0, 0⟩ := by rw [List.getD_eq_getElem?_getD, List.getElem?_eq_getElem h]; rfl
theorem kv_st' {l : List Bk} {i : Nat} (h : i < l.length) : (kv l)[0 + i * 2 + 0]? = some (.int .i64 ((l.getD i ⟨0, 0⟩).st : Int)) := by
  rw [Nat.zero_add, Nat.add_zero, kv_st h, getD_getB h]
theorem kv_er' {l : List Bk} {i : Nat} (h : i < l.length) : (kv l)[0 + i * 2 + 1]? = some (.int .u32 ((l.getD i ⟨0, 0⟩).er : Int)) := by
  rw [Nat.zero_add, kv_er h, getD_getB h]
theorem kv_set_st' {l : List Bk} {i : Nat} (s : Nat) (h : i < l.length) : (kv l).set (0 + i * 2 + 0) (.int .i64 (s : Int)) = kv (l.set i ⟨s, (l.getD i ⟨0, 0⟩).er⟩) := by
  rw [Nat.zero_add, Nat.add_zero, kv_set_st s h, getD_getB h]
theorem kv_set_er' {l : List Bk} {i : Nat} (s : Nat) (h : i < l.length) : (kv l).set (0 + i * 2 + 1) (.int .u32 (s : Int)) = kv (l.set i ⟨(l.getD i ⟨0, 0⟩).st, s⟩) := by
  rw [Nat.zero_add, kv_set_er s h, getD_getB h]
abbrev poolC (g : Nat) (D : Option Addr) (nd cd : Nat) (rows : List Value) (A : Option Addr) (nb cb : Nat) (l : List Bk) (L : List Ch) : List Ch :=
  .blk g 56 [.slice D nd cd] :: .own D nd cd 57 1 rows :: .own A nb cb 60 2 (kv l) :: L
abbrev headsC (g : Nat) (D : Option Addr) (nd cd : Nat) (rows : List Value) (L : List Ch) : List Ch :=
  .blk g 56 [.slice D nd cd] :: .own D nd cd 57 1 rows :: L
section
variable {w w0 : World} {M : Nat → Prop} {L : List Ch} {g nd cd : Nat} {D : Option Addr} {rows : List Value}
theorem atO {d n : Int} (hD : IsVw D nd cd D 0) (hd : ¬ (0 ≤ d ∧ d < nd)) (hS : St w0 M w (headsC g D nd cd rows L)) :
    Calls Try.prog 29 #[.pointer (some ⟨g, 0, none⟩), .int .i64 d, .int .i64 n] w fun x w' => x = .returned (.pointer none) ∧ St w0 M w' (headsC g D nd cd rows L) := at_out hD hd hS
theorem atI {d : Nat} {n : Int} {A : Option Addr} {nb cb : Nat} {l : List Bk} (hD : IsVw D nd cd D 0) (hdn : d < nd) (hrow : rows[d]? = some (.slice A nb cb)) (hA : IsVw A nb cb A 0) (hnb : nb ≤ 1048576) (hnd : nd ≤ 1048576) (hS : St w0 M w (poolC g D nd cd rows A nb cb l L)) :
    Calls Try.prog 29 #[.pointer (some ⟨g, 0, none⟩), .int .i64 (d : Int), .int .i64 n] w fun x w' => x = .returned (atP A nb n) ∧ St w0 M w' (poolC g D nd cd rows A nb cb l L) := at_in hD hdn hrow hA hnb hnd hS

theorem stateO {d n : Int} (hD : IsVw D nd cd D 0) (hd : ¬ (0 ≤ d ∧ d < nd)) (hS : St w0 M w (headsC g D nd cd rows L)) :
    Calls Try.prog 25 #[.pointer (some ⟨g, 0, none⟩), .int .i64 d, .int .i64 n] w fun x w' => x = .returned (.int .i64 0) ∧ St w0 M w' (headsC g D nd cd rows L) := by
  (refine calls_of (P := Try.prog) _ Try.func25 rfl Try.ntmps25 (Nat.le_of_ble_eq_true rfl) ?_; dsimp only [argE, Nat.reduceAdd])
  (refine Reach.walk ?_; (repeat (first | ((with_reducible refine AllSt.mk ?_); (try clear hS); intro w hS) | ((with_reducible refine AllVw.mk ?_); intro V hV))))
  (with_reducible apply WpL.call); (· exact rfl); (· exact Try.call29); (· exact Vals.found)
  refine (atO hD hd hS).mono ?_
  clear hS
  rintro x w ⟨rfl, hS⟩
  refine ⟨_, rfl, ?_⟩
  (refine Reach.walk ?_; (repeat (first | ((with_reducible refine AllSt.mk ?_); (try clear hS); intro w hS) | ((with_reducible refine AllVw.mk ?_); intro V hV))))
  (with_reducible apply doneQ_one Try.results25); (· exact slotFound)
  exact ⟨rfl, hS⟩
theorem stateI {d : Nat} {n : Int} {A : Option Addr} {nb cb : Nat} {l : List Bk} (hl : l.length = nb) (hf : Fit l) (hD : IsVw D nd cd D 0) (hdn : d < nd) (hrow : rows[d]? = some (.slice A nb cb)) (hA : IsVw A nb cb A 0) (hnb : nb ≤ 1048576) (hnd : nd ≤ 1048576) (hS : St w0 M w (poolC g D nd cd rows A nb cb l L)) :
    Calls Try.prog 25 #[.pointer (some ⟨g, 0, none⟩), .int .i64 (d : Int), .int .i64 n] w fun x w' => x = .returned (.int .i64 (stAt l n : Nat)) ∧ St w0 M w' (poolC g D nd cd rows A nb cb l L) := by
  subst hl
  (refine calls_of (P := Try.prog) _ Try.func25 rfl Try.ntmps25 (Nat.le_of_ble_eq_true rfl) ?_; dsimp only [argE, Nat.reduceAdd])
  (refine Reach.walk ?_; (repeat (first | ((with_reducible refine AllSt.mk ?_); (try clear hS); intro w hS) | ((with_reducible refine AllVw.mk ?_); intro V hV))))
  (with_reducible apply WpL.call); (· exact rfl); (· exact Try.call29); (· exact Vals.found)
  refine (atI hD hdn hrow hA hnb hnd hS).mono ?_
  clear hS
  rintro x w ⟨rfl, hS⟩
  refine ⟨_, rfl, ?_⟩
  unfold atP stAt
  by_cases hin : 0 ≤ n ∧ n < l.length
  · rw [if_pos hin, if_pos hin]
    have hlt : n.toNat < l.length := by omega
    have hlk : Look (poolC g D nd cd rows A l.length cb l L) ((adr A).add (0 + n.toNat * 2 + 0)) (.int .i64 ((l.getD n.toNat ⟨0, 0⟩).st : Int)) := .there (.there (Look.own (kv_st' hlt)))
    have hfb := hf _ (getD_memB hlt)
    (refine Reach.walk ?_; (repeat (first | ((with_reducible refine AllSt.mk ?_); (try clear hS); intro w hS) | ((with_reducible refine AllVw.mk ?_); intro V hV))))
    (with_reducible apply doneQ_one Try.results25); (· exact slotFound)
    exact ⟨rfl, hS⟩
  · rw [if_neg hin, if_neg hin]
    (refine Reach.walk ?_; (repeat (first | ((with_reducible refine AllSt.mk ?_); (try clear hS); intro w hS) | ((with_reducible refine AllVw.mk ?_); intro V hV))))
    (with_reducible apply doneQ_one Try.results25); (· exact slotFound)
    exact ⟨rfl, hS⟩

theorem erasesO {d n : Int} (hD : IsVw D nd cd D 0) (hd : ¬ (0 ≤ d ∧ d < nd)) (hS : St w0 M w (headsC g D nd cd rows L)) :
    Calls Try.prog 26 #[.pointer (some ⟨g, 0, none⟩), .int .i64 d, .int .i64 n] w fun x w' => x = .returned (.int .i64 0) ∧ St w0 M w' (headsC g D nd cd rows L) := by
  (refine calls_of (P := Try.prog) _ Try.func26 rfl Try.ntmps26 (Nat.le_of_ble_eq_true rfl) ?_; dsimp only [argE, Nat.reduceAdd])
  (refine Reach.walk ?_; (repeat (first | ((with_reducible refine AllSt.mk ?_); (try clear hS); intro w hS) | ((with_reducible refine AllVw.mk ?_); intro V hV))))
  (with_reducible apply WpL.call); (· exact rfl); (· exact Try.call29); (· exact Vals.found)
  refine (atO hD hd hS).mono ?_
  clear hS
  rintro x w ⟨rfl, hS⟩
  refine ⟨_, rfl, ?_⟩
  (refine Reach.walk ?_; (repeat (first | ((with_reducible refine AllSt.mk ?_); (try clear hS); intro w hS) | ((with_reducible refine AllVw.mk ?_); intro V hV))))
  (with_reducible apply doneQ_one Try.results26); (· exact slotFound)
  exact ⟨rfl, hS⟩
theorem erasesI {d : Nat} {n : Int} {A : Option Addr} {nb cb : Nat} {l : List Bk} (hl : l.length = nb) (hf : Fit l) (hD : IsVw D nd cd D 0) (hdn : d < nd) (hrow : rows[d]? = some (.slice A nb cb)) (hA : IsVw A nb cb A 0) (hnb : nb ≤ 1048576) (hnd : nd ≤ 1048576) (hS : St w0 M w (poolC g D nd cd rows A nb cb l L)) :
    Calls Try.prog 26 #[.pointer (some ⟨g, 0, none⟩), .int .i64 (d : Int), .int .i64 n] w fun x w' => x = .returned (.int .i64 (erAt l n : Nat)) ∧ St w0 M w' (poolC g D nd cd rows A nb cb l L) := by
  subst hl
  (refine calls_of (P := Try.prog) _ Try.func26 rfl Try.ntmps26 (Nat.le_of_ble_eq_true rfl) ?_; dsimp only [argE, Nat.reduceAdd])
  (refine Reach.walk ?_; (repeat (first | ((with_reducible refine AllSt.mk ?_); (try clear hS); intro w hS) | ((with_reducible refine AllVw.mk ?_); intro V hV))))
  (with_reducible apply WpL.call); (· exact rfl); (· exact Try.call29); (· exact Vals.found)
  refine (atI hD hdn hrow hA hnb hnd hS).mono ?_
  clear hS
  rintro x w ⟨rfl, hS⟩
  refine ⟨_, rfl, ?_⟩
  unfold atP erAt
  by_cases hin : 0 ≤ n ∧ n < l.length
  · rw [if_pos hin, if_pos hin]
    have hlt : n.toNat < l.length := by omega
    have hlk : Look (poolC g D nd cd rows A l.length cb l L) ((adr A).add (0 + n.toNat * 2 + 1)) (.int .u32 ((l.getD n.toNat ⟨0, 0⟩).er : Int)) := .there (.there (Look.own (kv_er' hlt)))
    have hfb := hf _ (getD_memB hlt)
    (refine Reach.walk ?_; (repeat (first | ((with_reducible refine AllSt.mk ?_); (try clear hS); intro w hS) | ((with_reducible refine AllVw.mk ?_); intro V hV))))
    (with_reducible apply doneQ_one Try.results26); (· exact slotFound)
    exact ⟨rfl, hS⟩
  · rw [if_neg hin, if_neg hin]
    (refine Reach.walk ?_; (repeat (first | ((with_reducible refine AllSt.mk ?_); (try clear hS); intro w hS) | ((with_reducible refine AllVw.mk ?_); intro V hV))))
    (with_reducible apply doneQ_one Try.results26); (· exact slotFound)
    exact ⟨rfl, hS⟩
end
end Go.Proofs.Ytaapnfoimcccjaa

namespace Go.Proofs.Ytaapnfoimcccjaa
open Go.Fk Go.RowKit
attribute [local irreducible] Wp WpL Det thenQ blockQ WpG thenD blockG
def turnL (l : List Bk) (n : Int) (to : Nat) (fs : List Int) : Int × List Bk :=
  if 0 ≤ n ∧ n < l.length then (if ((l.getD n.toNat ⟨0, 0⟩).st : Int) ∈ fs then (0, l.set n.toNat ⟨to, (l.getD n.toNat ⟨0, 0⟩).er⟩) else (71, l)) else (1, l)
def erasedL (l : List Bk) (n : Int) : Int × List Bk :=
  if 0 ≤ n ∧ n < l.length then (if (l.getD n.toNat ⟨0, 0⟩).st = 4 then (71, l) else if (l.getD n.toNat ⟨0, 0⟩).er < 4294967295 then (0, l.set n.toNat ⟨(l.getD n.toNat ⟨0, 0⟩).st, (l.getD n.toNat ⟨0, 0⟩).er + 1⟩) else (0, l)) else (1, l)
theorem turnL_len (l : List Bk) (n : Int) (to : Nat) (fs : List Int) : (turnL l n to fs).2.length = l.length := by
  unfold turnL
  split
  · split <;> simp
  · rfl
theorem erasedL_len (l : List Bk) (n : Int) : (erasedL l n).2.length = l.length := by
  unfold erasedL
  split
  · split
    · rfl
    · split <;> simp
  · rfl
theorem Fit.set {l : List Bk} (h : Fit l) (i : Nat) {b : Bk} (hb : b.er < 4294967296 ∧ b.st < 256) : Fit (l.set i b) := fun x hx => by
  rcases List.mem_or_eq_of_mem_set hx with hx | rfl
  · exact h x hx
  · exact hb
theorem Fit.turn {l : List Bk} (h : Fit l) (n : Int) {to : Nat} (ht : to < 256) (fs : List Int) : Fit (turnL l n to fs).2 := by
  unfold turnL
  split
  · rename_i hin
    split
    · exact h.set _ ⟨(h _ (getD_memB (by omega))).1, ht⟩
    · exact h
  · exact h
theorem Fit.erased {l : List Bk} (h : Fit l) (n : Int) : Fit (erasedL l n).2 := by
  unfold erasedL
  split
  · rename_i hin
    have hb := h _ (getD_memB (show n.toNat < l.length by omega))
    split
    · exact h
    · split
      · rename_i hlt
        exact h.set _ ⟨by show _ + 1 < _; omega, hb.2⟩
      · exact h
  · exact h
section
variable {w w0 : World} {M : Nat → Prop} {L : List Ch} {g nd cd : Nat} {D : Option Addr} {rows : List Value}
theorem turnO {d n to : Int} {F : Option Addr} {fs : List Int} {kf : Nat} (hD : IsVw D nd cd D 0) (hd : ¬ (0 ≤ d ∧ d < nd)) (hS : St w0 M w (headsC g D nd cd rows (.own F fs.length kf 3 1 (zv fs) :: L))) :
    Calls Try.prog 31 #[.pointer (some ⟨g, 0, none⟩), .int .i64 d, .int .i64 n, .int .i64 to, .slice F fs.length kf] w fun x w' => x = .returned (.int .i64 1) ∧ St w0 M w' (headsC g D nd cd rows L) := by
  (refine calls_of (P := Try.prog) _ Try.func31 rfl Try.ntmps31 (Nat.le_of_ble_eq_true rfl) ?_; dsimp only [argE, Nat.reduceAdd])
  (refine Reach.walk ?_; (repeat (first | ((with_reducible refine AllSt.mk ?_); (try clear hS); intro w hS) | ((with_reducible refine AllVw.mk ?_); intro V hV))))
  (with_reducible apply WpL.call); (· exact rfl); (· exact Try.call29); (· exact Vals.found)
  refine (atO hD hd hS).mono ?_
  clear hS
  rintro x w ⟨rfl, hS⟩
  refine ⟨_, rfl, ?_⟩
  (refine Reach.walk ?_; (repeat (first | ((with_reducible refine AllSt.mk ?_); (try clear hS); intro w hS) | ((with_reducible refine AllVw.mk ?_); intro V hV))))
  (with_reducible apply doneQ_one Try.results31); (· exact slotFound)
  exact ⟨rfl, hS.sub (.cons_cons _ (.cons_cons _ (List.sublist_cons_self _ _)))⟩
theorem turnI {d to : Nat} {n : Int} {A : Option Addr} {nb cb : Nat} {l : List Bk} {F : Option Addr} {fs : List Int} {kf : Nat} (hF : IsVw F fs.length kf F 0) (hfl : fs.length ≤ 1000) (hl : l.length = nb) (hf : Fit l) (hD : IsVw D nd cd D 0) (hdn : d < nd) (hrow : rows[d]? = some (.slice A nb cb)) (hA : IsVw A nb cb A 0) (hnb : nb ≤ 1048576) (hnd : nd ≤ 1048576)
    (hS : St w0 M w (poolC g D nd cd rows A nb cb l (.own F fs.length kf 3 1 (zv fs) :: L))) :
    Calls Try.prog 31 #[.pointer (some ⟨g, 0, none⟩), .int .i64 (d : Int), .int .i64 n, .int .i64 (to : Int), .slice F fs.length kf] w fun x w' => x = .returned (.int .i64 (turnL l n to fs).1) ∧ St w0 M w' (poolC g D nd cd rows A nb cb (turnL l n to fs).2 L) := by
  subst hl
  (refine calls_of (P := Try.prog) _ Try.func31 rfl Try.ntmps31 (Nat.le_of_ble_eq_true rfl) ?_; dsimp only [argE, Nat.reduceAdd])
  (refine Reach.walk ?_; (repeat (first | ((with_reducible refine AllSt.mk ?_); (try clear hS); intro w hS) | ((with_reducible refine AllVw.mk ?_); intro V hV))))
  (with_reducible apply WpL.call); (· exact rfl); (· exact Try.call29); (· exact Vals.found)
  refine (atI hD hdn hrow hA hnb hnd hS).mono ?_
  clear hS
  rintro x w ⟨rfl, hS⟩
  refine ⟨_, rfl, ?_⟩
  unfold atP turnL
  by_cases hin : 0 ≤ n ∧ n < l.length
  rotate_left
  · rw [if_neg hin, if_neg hin]
    (refine Reach.walk ?_; (repeat (first | ((with_reducible refine AllSt.mk ?_); (try clear hS); intro w hS) | ((with_reducible refine AllVw.mk ?_); intro V hV))))
    (with_reducible apply doneQ_one Try.results31); (· exact slotFound)
    exact ⟨rfl, hS.sub (.cons_cons _ (.cons_cons _ (.cons_cons _ (List.sublist_cons_self _ _))))⟩
  rw [if_pos hin, if_pos hin]
  have hlt : n.toNat < l.length := by omega
  have hlk : Look (poolC g D nd cd rows A l.length cb l (.own F fs.length kf 3 1 (zv fs) :: L)) ((adr A).add (0 + n.toNat * 2 + 0)) (.int .i64 ((l.getD n.toNat ⟨0, 0⟩).st : Int)) := .there (.there (Look.own (kv_st' hlt)))
  have hup : Upd (poolC g D nd cd rows A l.length cb l (.own F fs.length kf 3 1 (zv fs) :: L)) ((adr A).add (0 + n.toNat * 2 + 0)) (.int .i64 (to : Int)) (poolC g D nd cd rows A l.length cb (l.set n.toNat ⟨to, (l.getD n.toNat ⟨0, 0⟩).er⟩) (.own F fs.length kf 3 1 (zv fs) :: L)) :=
    .there (.there (Upd.own (by rw [kv_length]; omega) (kv_set_st' to hlt)))
  generalize (l.getD n.toNat ⟨0, 0⟩).st = s at *
  generalize (l.getD n.toNat ⟨0, 0⟩).er = r at *
  (refine Reach.walk ?_; (repeat (first | ((with_reducible refine AllSt.mk ?_); (try clear hS); intro w hS) | ((with_reducible refine AllVw.mk ?_); intro V hV))))
  apply Wp.loopUp fs.length (fun j e w' => (∀ i, i < j → fs.getD i 0 ≠ (s : Int)) ∧ St w0 M w' (poolC g D nd cd rows A l.length cb l (.own F fs.length kf 3 1 (zv fs) :: L)) ∧
      e.Has [(22, .int .i64 (j : Nat)), (21, .int .i64 (fs.length : Nat)), (20, .slice F fs.length kf), (11, .pointer (some ((adr A).add (0 + n.toNat * 2)))), (3, .int .i64 (to : Nat))]) (Nat.zero_le _)
    ⟨fun i h => absurd h (Nat.not_lt_zero _), hS, rfl, rfl, rfl, rfl, rfl, trivial⟩
  clear hS
  rintro j e w hj ⟨hno, hS, he⟩
  obtain ⟨e0, rfl⟩ := he.eq
  clear he
  dsimp only [Env.sets]
  by_cases hlj : j < fs.length
  · have hmem : fs.getD j 0 ∈ fs := by rw [List.getD_eq_getElem?_getD, List.getElem?_eq_getElem hlj]; exact List.getElem_mem _
    generalize hv : fs.getD j 0 = v at *
    (refine Reach.walk ?_; (repeat (first | ((with_reducible refine AllSt.mk ?_); (try clear hS); intro w hS) | ((with_reducible refine AllVw.mk ?_); intro V hV))))
    rw [hv]
    by_cases heq : (s : Int) = v
    · rw [if_pos (heq ▸ hmem)]
      (refine Reach.walk ?_; (repeat (first | ((with_reducible refine AllSt.mk ?_); (try clear hS); intro w hS) | ((with_reducible refine AllVw.mk ?_); intro V hV))))
      (with_reducible apply doneQ_one Try.results31); (· exact slotFound)
      exact ⟨rfl, hS.sub (.cons_cons _ (.cons_cons _ (.cons_cons _ (List.sublist_cons_self _ _))))⟩
    · (refine Reach.walk ?_; (repeat (first | ((with_reducible refine AllSt.mk ?_); (try clear hS); intro w hS) | ((with_reducible refine AllVw.mk ?_); intro V hV))))
      refine ⟨hlj, fun i hi => ?_, hS, int_eq (by omega), rfl, rfl, rfl, rfl, trivial⟩
      rcases Nat.lt_or_ge i j with h | h
      · exact hno i h
      · obtain rfl : i = j := by omega
        rw [hv]; exact fun h => heq h.symm
  · obtain rfl : j = fs.length := by omega
    rw [if_neg (fun h => by
      obtain ⟨i, hi, h2⟩ := List.getElem_of_mem h
      refine hno i hi ?_
      rw [List.getD_eq_getElem?_getD, List.getElem?_eq_getElem hi]; exact h2)]
    (refine Reach.walk ?_; (repeat (first | ((with_reducible refine AllSt.mk ?_); (try clear hS); intro w hS) | ((with_reducible refine AllVw.mk ?_); intro V hV))))
    (with_reducible apply doneQ_one Try.results31); (· exact slotFound)
    exact ⟨rfl, hS.sub (.cons_cons _ (.cons_cons _ (.cons_cons _ (List.sublist_cons_self _ _))))⟩

theorem holdO {d n : Int} (hD : IsVw D nd cd D 0) (hd : ¬ (0 ≤ d ∧ d < nd)) (hS : St w0 M w (headsC g D nd cd rows L)) :
    Calls Try.prog 21 #[.pointer (some ⟨g, 0, none⟩), .int .i64 d, .int .i64 n] w fun x w' => x = .returned (.int .i64 1) ∧ St w0 M w' (headsC g D nd cd rows L) := by
  (refine calls_of (P := Try.prog) _ Try.func21 rfl Try.ntmps21 (Nat.le_of_ble_eq_true rfl) ?_; dsimp only [argE, Nat.reduceAdd])
  (refine Reach.walk ?_; (repeat (first | ((with_reducible refine AllSt.mk ?_); (try clear hS); intro w hS) | ((with_reducible refine AllVw.mk ?_); intro V hV))))
  ((with_reducible apply WpL.bs); (· assumption); (· exact rfl); (· exact BVals.found); (· exact oneAll_spec rfl); (· exact rfl); (· decide); (· exact listFound); clear hS)
  intro F w hF hS
  (refine Reach.walk ?_; (repeat (first | ((with_reducible refine AllSt.mk ?_); (try clear hS); intro w hS) | ((with_reducible refine AllVw.mk ?_); intro V hV))))
  (replace hS := (hS.take (pre := [.blk g _ _, .own D _ _ _ _ _, .own F _ _ _ _ _]) Take.found); (try simp only [List.cons_append, List.nil_append] at hS))
  (with_reducible apply WpL.call); (· exact rfl); (· exact Try.call31); (· exact Vals.found)
  refine (turnO (fs := [1]) hD hd hS).mono ?_
  clear hS
  rintro x w ⟨rfl, hS⟩
  refine ⟨_, rfl, ?_⟩
  (refine Reach.walk ?_; (repeat (first | ((with_reducible refine AllSt.mk ?_); (try clear hS); intro w hS) | ((with_reducible refine AllVw.mk ?_); intro V hV))))
  (with_reducible apply doneQ_one Try.results21); (· exact slotFound)
  exact ⟨rfl, hS⟩
theorem holdI {d : Nat} {n : Int} {A : Option Addr} {nb cb : Nat} {l : List Bk} (hl : l.length = nb) (hf : Fit l) (hD : IsVw D nd cd D 0) (hdn : d < nd) (hrow : rows[d]? = some (.slice A nb cb)) (hA : IsVw A nb cb A 0) (hnb : nb ≤ 1048576) (hnd : nd ≤ 1048576) (hS : St w0 M w (poolC g D nd cd rows A nb cb l L)) :
    Calls Try.prog 21 #[.pointer (some ⟨g, 0, none⟩), .int .i64 (d : Int), .int .i64 n] w fun x w' => x = .returned (.int .i64 (turnL l n 2 [1]).1) ∧ St w0 M w' (poolC g D nd cd rows A nb cb (turnL l n 2 [1]).2 L) := by
  (refine calls_of (P := Try.prog) _ Try.func21 rfl Try.ntmps21 (Nat.le_of_ble_eq_true rfl) ?_; dsimp only [argE, Nat.reduceAdd])
  (refine Reach.walk ?_; (repeat (first | ((with_reducible refine AllSt.mk ?_); (try clear hS); intro w hS) | ((with_reducible refine AllVw.mk ?_); intro V hV))))
  ((with_reducible apply WpL.bs); (· assumption); (· exact rfl); (· exact BVals.found); (· exact oneAll_spec rfl); (· exact rfl); (· decide); (· exact listFound); clear hS)
  intro F w hF hS
  (refine Reach.walk ?_; (repeat (first | ((with_reducible refine AllSt.mk ?_); (try clear hS); intro w hS) | ((with_reducible refine AllVw.mk ?_); intro V hV))))
  (replace hS := (hS.take (pre := [.blk g _ _, .own D _ _ _ _ _, .own A _ _ _ _ _, .own F _ _ _ _ _]) Take.found); (try simp only [List.cons_append, List.nil_append] at hS))
  (with_reducible apply WpL.call); (· exact rfl); (· exact Try.call31); (· exact Vals.found)
  refine (turnI (to := 2) (fs := [1]) hF (by decide) hl hf hD hdn hrow hA hnb hnd hS).mono ?_
  clear hS
  rintro x w ⟨rfl, hS⟩
  refine ⟨_, rfl, ?_⟩
  (refine Reach.walk ?_; (repeat (first | ((with_reducible refine AllSt.mk ?_); (try clear hS); intro w hS) | ((with_reducible refine AllVw.mk ?_); intro V hV))))
  (with_reducible apply doneQ_one Try.results21); (· exact slotFound)
  exact ⟨rfl, hS⟩

theorem closeO {d n : Int} (hD : IsVw D nd cd D 0) (hd : ¬ (0 ≤ d ∧ d < nd)) (hS : St w0 M w (headsC g D nd cd rows L)) :
    Calls Try.prog 19 #[.pointer (some ⟨g, 0, none⟩), .int .i64 d, .int .i64 n] w fun x w' => x = .returned (.int .i64 1) ∧ St w0 M w' (headsC g D nd cd rows L) := by
  (refine calls_of (P := Try.prog) _ Try.func19 rfl Try.ntmps19 (Nat.le_of_ble_eq_true rfl) ?_; dsimp only [argE, Nat.reduceAdd])
  (refine Reach.walk ?_; (repeat (first | ((with_reducible refine AllSt.mk ?_); (try clear hS); intro w hS) | ((with_reducible refine AllVw.mk ?_); intro V hV))))
  ((with_reducible apply WpL.bs); (· assumption); (· exact rfl); (· exact BVals.found); (· exact oneAll_spec rfl); (· exact rfl); (· decide); (· exact listFound); clear hS)
  intro F w hF hS
  (refine Reach.walk ?_; (repeat (first | ((with_reducible refine AllSt.mk ?_); (try clear hS); intro w hS) | ((with_reducible refine AllVw.mk ?_); intro V hV))))
  (replace hS := (hS.take (pre := [.blk g _ _, .own D _ _ _ _ _, .own F _ _ _ _ _]) Take.found); (try simp only [List.cons_append, List.nil_append] at hS))
  (with_reducible apply WpL.call); (· exact rfl); (· exact Try.call31); (· exact Vals.found)
  refine (turnO (fs := [2]) hD hd hS).mono ?_
  clear hS
  rintro x w ⟨rfl, hS⟩
  refine ⟨_, rfl, ?_⟩
  (refine Reach.walk ?_; (repeat (first | ((with_reducible refine AllSt.mk ?_); (try clear hS); intro w hS) | ((with_reducible refine AllVw.mk ?_); intro V hV))))
  (with_reducible apply doneQ_one Try.results19); (· exact slotFound)
  exact ⟨rfl, hS⟩
theorem closeI {d : Nat} {n : Int} {A : Option Addr} {nb cb : Nat} {l : List Bk} (hl : l.length = nb) (hf : Fit l) (hD : IsVw D nd cd D 0) (hdn : d < nd) (hrow : rows[d]? = some (.slice A nb cb)) (hA : IsVw A nb cb A 0) (hnb : nb ≤ 1048576) (hnd : nd ≤ 1048576) (hS : St w0 M w (poolC g D nd cd rows A nb cb l L)) :
    Calls Try.prog 19 #[.pointer (some ⟨g, 0, none⟩), .int .i64 (d : Int), .int .i64 n] w fun x w' => x = .returned (.int .i64 (turnL l n 3 [2]).1) ∧ St w0 M w' (poolC g D nd cd rows A nb cb (turnL l n 3 [2]).2 L) := by
  (refine calls_of (P := Try.prog) _ Try.func19 rfl Try.ntmps19 (Nat.le_of_ble_eq_true rfl) ?_; dsimp only [argE, Nat.reduceAdd])
  (refine Reach.walk ?_; (repeat (first | ((with_reducible refine AllSt.mk ?_); (try clear hS); intro w hS) | ((with_reducible refine AllVw.mk ?_); intro V hV))))
  ((with_reducible apply WpL.bs); (· assumption); (· exact rfl); (· exact BVals.found); (· exact oneAll_spec rfl); (· exact rfl); (· decide); (· exact listFound); clear hS)
  intro F w hF hS
  (refine Reach.walk ?_; (repeat (first | ((with_reducible refine AllSt.mk ?_); (try clear hS); intro w hS) | ((with_reducible refine AllVw.mk ?_); intro V hV))))
  (replace hS := (hS.take (pre := [.blk g _ _, .own D _ _ _ _ _, .own A _ _ _ _ _, .own F _ _ _ _ _]) Take.found); (try simp only [List.cons_append, List.nil_append] at hS))
  (with_reducible apply WpL.call); (· exact rfl); (· exact Try.call31); (· exact Vals.found)
  refine (turnI (to := 3) (fs := [2]) hF (by decide) hl hf hD hdn hrow hA hnb hnd hS).mono ?_
  clear hS
  rintro x w ⟨rfl, hS⟩
  refine ⟨_, rfl, ?_⟩
  (refine Reach.walk ?_; (repeat (first | ((with_reducible refine AllSt.mk ?_); (try clear hS); intro w hS) | ((with_reducible refine AllVw.mk ?_); intro V hV))))
  (with_reducible apply doneQ_one Try.results19); (· exact slotFound)
  exact ⟨rfl, hS⟩

theorem freeO {d n : Int} (hD : IsVw D nd cd D 0) (hd : ¬ (0 ≤ d ∧ d < nd)) (hS : St w0 M w (headsC g D nd cd rows L)) :
    Calls Try.prog 13 #[.pointer (some ⟨g, 0, none⟩), .int .i64 d, .int .i64 n] w fun x w' => x = .returned (.int .i64 1) ∧ St w0 M w' (headsC g D nd cd rows L) := by
  (refine calls_of (P := Try.prog) _ Try.func13 rfl Try.ntmps13 (Nat.le_of_ble_eq_true rfl) ?_; dsimp only [argE, Nat.reduceAdd])
  (refine Reach.walk ?_; (repeat (first | ((with_reducible refine AllSt.mk ?_); (try clear hS); intro w hS) | ((with_reducible refine AllVw.mk ?_); intro V hV))))
  ((with_reducible apply WpL.bs); (· assumption); (· exact rfl); (· exact BVals.found); (· exact oneAll_spec rfl); (· exact rfl); (· decide); (· exact listFound); clear hS)
  intro F w hF hS
  (refine Reach.walk ?_; (repeat (first | ((with_reducible refine AllSt.mk ?_); (try clear hS); intro w hS) | ((with_reducible refine AllVw.mk ?_); intro V hV))))
  (replace hS := (hS.take (pre := [.blk g _ _, .own D _ _ _ _ _, .own F _ _ _ _ _]) Take.found); (try simp only [List.cons_append, List.nil_append] at hS))
  (with_reducible apply WpL.call); (· exact rfl); (· exact Try.call31); (· exact Vals.found)
  refine (turnO (fs := [2, 3]) hD hd hS).mono ?_
  clear hS
  rintro x w ⟨rfl, hS⟩
  refine ⟨_, rfl, ?_⟩
  (refine Reach.walk ?_; (repeat (first | ((with_reducible refine AllSt.mk ?_); (try clear hS); intro w hS) | ((with_reducible refine AllVw.mk ?_); intro V hV))))
  (with_reducible apply doneQ_one Try.results13); (· exact slotFound)
  exact ⟨rfl, hS⟩
theorem freeI {d : Nat} {n : Int} {A : Option Addr} {nb cb : Nat} {l : List Bk} (hl : l.length = nb) (hf : Fit l) (hD : IsVw D nd cd D 0) (hdn : d < nd) (hrow : rows[d]? = some (.slice A nb cb)) (hA : IsVw A nb cb A 0) (hnb : nb ≤ 1048576) (hnd : nd ≤ 1048576) (hS : St w0 M w (poolC g D nd cd rows A nb cb l L)) :
    Calls Try.prog 13 #[.pointer (some ⟨g, 0, none⟩), .int .i64 (d : Int), .int .i64 n] w fun x w' => x = .returned (.int .i64 (turnL l n 1 [2, 3]).1) ∧ St w0 M w' (poolC g D nd cd rows A nb cb (turnL l n 1 [2, 3]).2 L) := by
  (refine calls_of (P := Try.prog) _ Try.func13 rfl Try.ntmps13 (Nat.le_of_ble_eq_true rfl) ?_; dsimp only [argE, Nat.reduceAdd])
  (refine Reach.walk ?_; (repeat (first | ((with_reducible refine AllSt.mk ?_); (try clear hS); intro w hS) | ((with_reducible refine AllVw.mk ?_); intro V hV))))
  ((with_reducible apply WpL.bs); (· assumption); (· exact rfl); (· exact BVals.found); (· exact oneAll_spec rfl); (· exact rfl); (· decide); (· exact listFound); clear hS)
  intro F w hF hS
  (refine Reach.walk ?_; (repeat (first | ((with_reducible refine AllSt.mk ?_); (try clear hS); intro w hS) | ((with_reducible refine AllVw.mk ?_); intro V hV))))
  (replace hS := (hS.take (pre := [.blk g _ _, .own D _ _ _ _ _, .own A _ _ _ _ _, .own F _ _ _ _ _]) Take.found); (try simp only [List.cons_append, List.nil_append] at hS))
  (with_reducible apply WpL.call); (· exact rfl); (· exact Try.call31); (· exact Vals.found)
  refine (turnI (to := 1) (fs := [2, 3]) hF (by decide) hl hf hD hdn hrow hA hnb hnd hS).mono ?_
  clear hS
  rintro x w ⟨rfl, hS⟩
  refine ⟨_, rfl, ?_⟩
  (refine Reach.walk ?_; (repeat (first | ((with_reducible refine AllSt.mk ?_); (try clear hS); intro w hS) | ((with_reducible refine AllVw.mk ?_); intro V hV))))
  (with_reducible apply doneQ_one Try.results13); (· exact slotFound)
  exact ⟨rfl, hS⟩

theorem badO {d n : Int} (hD : IsVw D nd cd D 0) (hd : ¬ (0 ≤ d ∧ d < nd)) (hS : St w0 M w (headsC g D nd cd rows L)) :
    Calls Try.prog 16 #[.pointer (some ⟨g, 0, none⟩), .int .i64 d, .int .i64 n] w fun x w' => x = .returned (.int .i64 1) ∧ St w0 M w' (headsC g D nd cd rows L) := by
  (refine calls_of (P := Try.prog) _ Try.func16 rfl Try.ntmps16 (Nat.le_of_ble_eq_true rfl) ?_; dsimp only [argE, Nat.reduceAdd])
  (refine Reach.walk ?_; (repeat (first | ((with_reducible refine AllSt.mk ?_); (try clear hS); intro w hS) | ((with_reducible refine AllVw.mk ?_); intro V hV))))
  ((with_reducible apply WpL.bs); (· assumption); (· exact rfl); (· exact BVals.found); (· exact oneAll_spec rfl); (· exact rfl); (· decide); (· exact listFound); clear hS)
  intro F w hF hS
  (refine Reach.walk ?_; (repeat (first | ((with_reducible refine AllSt.mk ?_); (try clear hS); intro w hS) | ((with_reducible refine AllVw.mk ?_); intro V hV))))
  (replace hS := (hS.take (pre := [.blk g _ _, .own D _ _ _ _ _, .own F _ _ _ _ _]) Take.found); (try simp only [List.cons_append, List.nil_append] at hS))
  (with_reducible apply WpL.call); (· exact rfl); (· exact Try.call31); (· exact Vals.found)
  refine (turnO (fs := [1, 2, 3, 4]) hD hd hS).mono ?_
  clear hS
  rintro x w ⟨rfl, hS⟩
  refine ⟨_, rfl, ?_⟩
  (refine Reach.walk ?_; (repeat (first | ((with_reducible refine AllSt.mk ?_); (try clear hS); intro w hS) | ((with_reducible refine AllVw.mk ?_); intro V hV))))
  (with_reducible apply doneQ_one Try.results16); (· exact slotFound)
  exact ⟨rfl, hS⟩
theorem badI {d : Nat} {n : Int} {A : Option Addr} {nb cb : Nat} {l : List Bk} (hl : l.length = nb) (hf : Fit l) (hD : IsVw D nd cd D 0) (hdn : d < nd) (hrow : rows[d]? = some (.slice A nb cb)) (hA : IsVw A nb cb A 0) (hnb : nb ≤ 1048576) (hnd : nd ≤ 1048576) (hS : St w0 M w (poolC g D nd cd rows A nb cb l L)) :
    Calls Try.prog 16 #[.pointer (some ⟨g, 0, none⟩), .int .i64 (d : Int), .int .i64 n] w fun x w' => x = .returned (.int .i64 (turnL l n 4 [1, 2, 3, 4]).1) ∧ St w0 M w' (poolC g D nd cd rows A nb cb (turnL l n 4 [1, 2, 3, 4]).2 L) := by
  (refine calls_of (P := Try.prog) _ Try.func16 rfl Try.ntmps16 (Nat.le_of_ble_eq_true rfl) ?_; dsimp only [argE, Nat.reduceAdd])
  (refine Reach.walk ?_; (repeat (first | ((with_reducible refine AllSt.mk ?_); (try clear hS); intro w hS) | ((with_reducible refine AllVw.mk ?_); intro V hV))))
  ((with_reducible apply WpL.bs); (· assumption); (· exact rfl); (· exact BVals.found); (· exact oneAll_spec rfl); (· exact rfl); (· decide); (· exact listFound); clear hS)
  intro F w hF hS
  (refine Reach.walk ?_; (repeat (first | ((with_reducible refine AllSt.mk ?_); (try clear hS); intro w hS) | ((with_reducible refine AllVw.mk ?_); intro V hV))))
  (replace hS := (hS.take (pre := [.blk g _ _, .own D _ _ _ _ _, .own A _ _ _ _ _, .own F _ _ _ _ _]) Take.found); (try simp only [List.cons_append, List.nil_append] at hS))
  (with_reducible apply WpL.call); (· exact rfl); (· exact Try.call31); (· exact Vals.found)
  refine (turnI (to := 4) (fs := [1, 2, 3, 4]) hF (by decide) hl hf hD hdn hrow hA hnb hnd hS).mono ?_
  clear hS
  rintro x w ⟨rfl, hS⟩
  refine ⟨_, rfl, ?_⟩
  (refine Reach.walk ?_; (repeat (first | ((with_reducible refine AllSt.mk ?_); (try clear hS); intro w hS) | ((with_reducible refine AllVw.mk ?_); intro V hV))))
  (with_reducible apply doneQ_one Try.results16); (· exact slotFound)
  exact ⟨rfl, hS⟩

theorem erasedO {d n : Int} (hD : IsVw D nd cd D 0) (hd : ¬ (0 ≤ d ∧ d < nd)) (hS : St w0 M w (headsC g D nd cd rows L)) :
    Calls Try.prog 12 #[.pointer (some ⟨g, 0, none⟩), .int .i64 d, .int .i64 n] w fun x w' => x = .returned (.int .i64 1) ∧ St w0 M w' (headsC g D nd cd rows L) := by
  (refine calls_of (P := Try.prog) _ Try.func12 rfl Try.ntmps12 (Nat.le_of_ble_eq_true rfl) ?_; dsimp only [argE, Nat.reduceAdd])
  (refine Reach.walk ?_; (repeat (first | ((with_reducible refine AllSt.mk ?_); (try clear hS); intro w hS) | ((with_reducible refine AllVw.mk ?_); intro V hV))))
  (with_reducible apply WpL.call); (· exact rfl); (· exact Try.call29); (· exact Vals.found)
  refine (atO hD hd hS).mono ?_
  clear hS
  rintro x w ⟨rfl, hS⟩
  refine ⟨_, rfl, ?_⟩
  (refine Reach.walk ?_; (repeat (first | ((with_reducible refine AllSt.mk ?_); (try clear hS); intro w hS) | ((with_reducible refine AllVw.mk ?_); intro V hV))))
  (with_reducible apply doneQ_one Try.results12); (· exact slotFound)
  exact ⟨rfl, hS⟩
theorem erasedI {d : Nat} {n : Int} {A : Option Addr} {nb cb : Nat} {l : List Bk} (hl : l.length = nb) (hf : Fit l) (hD : IsVw D nd cd D 0) (hdn : d < nd) (hrow : rows[d]? = some (.slice A nb cb)) (hA : IsVw A nb cb A 0) (hnb : nb ≤ 1048576) (hnd : nd ≤ 1048576) (hS : St w0 M w (poolC g D nd cd rows A nb cb l L)) :
    Calls Try.prog 12 #[.pointer (some ⟨g, 0, none⟩), .int .i64 (d : Int), .int .i64 n] w fun x w' => x = .returned (.int .i64 (erasedL l n).1) ∧ St w0 M w' (poolC g D nd cd rows A nb cb (erasedL l n).2 L) := by
  subst hl
  (refine calls_of (P := Try.prog) _ Try.func12 rfl Try.ntmps12 (Nat.le_of_ble_eq_true rfl) ?_; dsimp only [argE, Nat.reduceAdd])
  (refine Reach.walk ?_; (repeat (first | ((with_reducible refine AllSt.mk ?_); (try clear hS); intro w hS) | ((with_reducible refine AllVw.mk ?_); intro V hV))))
  (with_reducible apply WpL.call); (· exact rfl); (· exact Try.call29); (· exact Vals.found)
  refine (atI hD hdn hrow hA hnb hnd hS).mono ?_
  clear hS
  rintro x w ⟨rfl, hS⟩
  refine ⟨_, rfl, ?_⟩
  unfold atP erasedL
  by_cases hin : 0 ≤ n ∧ n < l.length
  rotate_left
  · rw [if_neg hin, if_neg hin]
    (refine Reach.walk ?_; (repeat (first | ((with_reducible refine AllSt.mk ?_); (try clear hS); intro w hS) | ((with_reducible refine AllVw.mk ?_); intro V hV))))
    (with_reducible apply doneQ_one Try.results12); (· exact slotFound)
    exact ⟨rfl, hS⟩
  rw [if_pos hin, if_pos hin]
  have hlt : n.toNat < l.length := by omega
  have hlk : Look (poolC g D nd cd rows A l.length cb l L) ((adr A).add (0 + n.toNat * 2 + 0)) (.int .i64 ((l.getD n.toNat ⟨0, 0⟩).st : Int)) := .there (.there (Look.own (kv_st' hlt)))
  have hlk2 : Look (poolC g D nd cd rows A l.length cb l L) ((adr A).add (0 + n.toNat * 2 + 1)) (.int .u32 ((l.getD n.toNat ⟨0, 0⟩).er : Int)) := .there (.there (Look.own (kv_er' hlt)))
  have hup : Upd (poolC g D nd cd rows A l.length cb l L) ((adr A).add (0 + n.toNat * 2 + 1)) (.int .u32 (((l.getD n.toNat ⟨0, 0⟩).er + 1 : Nat) : Int)) (poolC g D nd cd rows A l.length cb (l.set n.toNat ⟨(l.getD n.toNat ⟨0, 0⟩).st, (l.getD n.toNat ⟨0, 0⟩).er + 1⟩) L) :=
    .there (.there (Upd.own (by rw [kv_length]; omega) (kv_set_er' _ hlt)))
  have hfb := hf _ (getD_memB hlt)
  generalize (l.getD n.toNat ⟨0, 0⟩).st = s at *
  generalize (l.getD n.toNat ⟨0, 0⟩).er = r at *
  by_cases h4 : s = 4
  · subst h4
    (refine Reach.walk ?_; (repeat (first | ((with_reducible refine AllSt.mk ?_); (try clear hS); intro w hS) | ((with_reducible refine AllVw.mk ?_); intro V hV))))
    (with_reducible apply doneQ_one Try.results12); (· exact slotFound)
    exact ⟨rfl, hS⟩
  rw [if_neg h4]
  by_cases hr : r < 4294967295
  · rw [if_pos hr]
    have hr1 : r + 1 ≤ 4294967295 := hr
    have hr2 : (r : Int) < 4294967295 := by omega
    clear hr
    generalize hK : (4294967295 : Int) = K at hr2 ⊢
    (refine Reach.walk ?_; (repeat (first | ((with_reducible refine AllSt.mk ?_); (try clear hS); intro w hS) | ((with_reducible refine AllVw.mk ?_); intro V hV))))
    (with_reducible apply doneQ_one Try.results12); (· exact slotFound)
    exact ⟨rfl, hS⟩
  · rw [if_neg hr]
    have hr2 : ¬ (r : Int) < 4294967295 := by omega
    clear hr
    generalize hK : (4294967295 : Int) = K at hr2 ⊢
    (refine Reach.walk ?_; (repeat (first | ((with_reducible refine AllSt.mk ?_); (try clear hS); intro w hS) | ((with_reducible refine AllVw.mk ?_); intro V hV))))
    (with_reducible apply doneQ_one Try.results12); (· exact slotFound)
    exact ⟨rfl, hS⟩
end
end Go.Proofs.Ytaapnfoimcccjaa

namespace Go.Proofs.Ytaapnfoimcccjaa
open Go.Fk Go.RowKit
attribute [local irreducible] Wp WpL Det thenQ blockQ WpG thenD blockG
theorem range_mid {n x : Nat} {pre rest : List Nat} (h : List.range n = pre ++ x :: rest) : pre.length = x ∧ x < n := by
  have h1 : (List.range n)[pre.length]? = some x := by rw [h]; simp
  obtain ⟨h2, h3⟩ := List.getElem?_eq_some_iff.1 h1
  rw [List.getElem_range] at h3
  rw [List.length_range] at h2
  exact ⟨h3, by omega⟩
def countL (l : List Bk) (s : Int) : Nat := (l.filter fun b => decide ((b.st : Int) = s)).length
theorem countL_le (l : List Bk) (s : Int) : countL l s ≤ l.length := List.length_filter_le _ _
theorem take_snocB {l : List Bk} {i : Nat} (h : i < l.length) : l.take (i + 1) = l.take i ++ [l.getD i ⟨0, 0⟩] := by
  rw [List.take_succ_eq_append_getElem h, getD_getB h]
theorem countL_step {l : List Bk} {i : Nat} (s : Int) (h : i < l.length) : countL (l.take (i + 1)) s = countL (l.take i) s + if ((l.getD i ⟨0, 0⟩).st : Int) = s then 1 else 0 := by
  unfold countL
  rw [take_snocB h, List.filter_append, List.length_append]
  congr 1
  by_cases he : ((l.getD i ⟨0, 0⟩).st : Int) = s
  · rw [if_pos he, List.filter_cons_of_pos (by simpa using he)]; rfl
  · rw [if_neg he, List.filter_cons_of_neg (by simpa using he)]; rfl
theorem sub4 {a b c d : Ch} (L : List Ch) : L.Sublist (a :: b :: c :: d :: L) := (List.sublist_cons_self _ _).trans ((List.sublist_cons_self _ _).trans ((List.sublist_cons_self _ _).trans (List.sublist_cons_self _ _)))
section
variable {w w0 : World} {M : Nat → Prop} {L : List Ch} {g nd cd : Nat} {D : Option Addr} {rows : List Value}
theorem countO {d s : Int} (hD : IsVw D nd cd D 0) (hd : ¬ (0 ≤ d ∧ d < nd)) (hS : St w0 M w (headsC g D nd cd rows L)) :
    Calls Try.prog 15 #[.pointer (some ⟨g, 0, none⟩), .int .i64 d, .int .i64 s] w fun x w' => x = .returned (.int .i64 0) ∧ St w0 M w' (headsC g D nd cd rows L) := by
  (refine calls_ofG (P := Try.prog) _ Try.func15 rfl Try.ntmps15 (Nat.le_of_ble_eq_true rfl) ?_; dsimp only [argE, Nat.reduceAdd])
  (refine Reach.walkG ?_; (repeat (first | ((with_reducible refine AllSt.mk ?_); (try clear hS); intro w hS) | ((with_reducible refine AllVw.mk ?_); intro V hV))))
  ((with_reducible apply WpL.bx); (· assumption); (· exact rfl); (· exact Env.found); (· exact rfl); clear hS)
  intro g5 w hS
  (refine Reach.walkG ?_; (repeat (first | ((with_reducible refine AllSt.mk ?_); (try clear hS); intro w hS) | ((with_reducible refine AllVw.mk ?_); intro V hV))))
  ((with_reducible apply WpL.al); (· assumption); (· exact rfl); (· exact rfl); clear hS)
  intro g7 w hS
  (refine Reach.walkG ?_; (repeat (first | ((with_reducible refine AllSt.mk ?_); (try clear hS); intro w hS) | ((with_reducible refine AllVw.mk ?_); intro V hV))))
  (with_reducible apply WpL.call); (· exact rfl); (· exact Try.call30); (· exact Vals.found)
  refine (of_any hS).mono ?_
  clear hS
  rintro x w ⟨g1, g2, rfl, hS⟩
  refine ⟨_, rfl, ?_⟩
  (refine Reach.walkG ?_; (repeat (first | ((with_reducible refine AllSt.mk ?_); (try clear hS); intro w hS) | ((with_reducible refine AllVw.mk ?_); intro V hV))))
  refine WpG.rangeFunc (ps := [13, 14]) (w0 := w0) (M := M) (Γ0 := L) (Lc := [.blk g7 3 [.int .i64 0], .blk g5 3 [.int .i64 s]])
    (of_iter_out (g := g) (g1 := g1) (g2 := g2) (rows := rows) hD hd (fun i : Nat => [.int .i64 (i : Int), .int .i64 0])) rfl Try.call42 (fun _ => rfl) (by decide)
    (fun pre Lc => Lc = [.blk g7 3 [.int .i64 0], .blk g5 3 [.int .i64 s]]) (fun c pre Lc => False) ?hS rfl ?body ?done ?stop
  case hS => exact hS.perm (List.perm_append_comm_assoc [_, _] [_, _] _)
  case body =>
    rintro r pre x rest _ Γ' w o hx
    cases pre <;> cases hx
  case done =>
    clear hS
    rintro D' _ w rfl hS
    simp only [List.cons_append, List.nil_append] at hS
    (refine Reach.walkG ?_; (repeat (first | ((with_reducible refine AllSt.mk ?_); (try clear hS); intro w hS) | ((with_reducible refine AllVw.mk ?_); intro V hV))))
    refine leaveG_mark hS fun w hS => leaveG_nil ?_
    (with_reducible apply doneQ_one Try.results15); (· exact slotFound)
    exact ⟨rfl, hS.sub ((List.sublist_cons_self _ _).trans ((List.sublist_cons_self _ _).trans ((List.sublist_cons_self _ _).trans (List.sublist_cons_self _ _))))⟩
  case stop => rintro D' c pre Lc w h; exact h.elim
theorem countI {d : Nat} {s : Int} {A : Option Addr} {nb cb : Nat} {l : List Bk} (hl : l.length = nb) (hf : Fit l) (hD : IsVw D nd cd D 0) (hdn : d < nd) (hrow : rows[d]? = some (.slice A nb cb)) (hA : IsVw A nb cb A 0) (hnb : nb ≤ 1048576) (hnd : nd ≤ 1048576) (hS : St w0 M w (poolC g D nd cd rows A nb cb l L)) :
    Calls Try.prog 15 #[.pointer (some ⟨g, 0, none⟩), .int .i64 (d : Int), .int .i64 s] w fun x w' => x = .returned (.int .i64 (countL l s : Nat)) ∧ St w0 M w' (poolC g D nd cd rows A nb cb l L) := by
  subst hl
  (refine calls_ofG (P := Try.prog) _ Try.func15 rfl Try.ntmps15 (Nat.le_of_ble_eq_true rfl) ?_; dsimp only [argE, Nat.reduceAdd])
  (refine Reach.walkG ?_; (repeat (first | ((with_reducible refine AllSt.mk ?_); (try clear hS); intro w hS) | ((with_reducible refine AllVw.mk ?_); intro V hV))))
  ((with_reducible apply WpL.bx); (· assumption); (· exact rfl); (· exact Env.found); (· exact rfl); clear hS)
  intro g5 w hS
  (refine Reach.walkG ?_; (repeat (first | ((with_reducible refine AllSt.mk ?_); (try clear hS); intro w hS) | ((with_reducible refine AllVw.mk ?_); intro V hV))))
  ((with_reducible apply WpL.al); (· assumption); (· exact rfl); (· exact rfl); clear hS)
  intro g7 w hS
  (refine Reach.walkG ?_; (repeat (first | ((with_reducible refine AllSt.mk ?_); (try clear hS); intro w hS) | ((with_reducible refine AllVw.mk ?_); intro V hV))))
  (with_reducible apply WpL.call); (· exact rfl); (· exact Try.call30); (· exact Vals.found)
  refine (of_any hS).mono ?_
  clear hS
  rintro x w ⟨g1, g2, rfl, hS⟩
  refine ⟨_, rfl, ?_⟩
  (refine Reach.walkG ?_; (repeat (first | ((with_reducible refine AllSt.mk ?_); (try clear hS); intro w hS) | ((with_reducible refine AllVw.mk ?_); intro V hV))))
  refine WpG.rangeFunc (ps := [13, 14]) (w0 := w0) (M := M) (Γ0 := L) (Lc := [.blk g7 3 [.int .i64 0], .blk g5 3 [.int .i64 s], .own A l.length cb 60 2 (kv l)])
    (of_iter_in (g := g) (g1 := g1) (g2 := g2) (rows := rows) hD hdn hrow hA hnb hnd) rfl Try.call42 (fun _ => rfl) (by decide)
    (fun pre Lc => Lc = [.blk g7 3 [.int .i64 ((countL (l.take pre.length) s : Nat) : Int)], .blk g5 3 [.int .i64 s], .own A l.length cb 60 2 (kv l)]) (fun c pre Lc => False) ?hS rfl ?body ?done ?stop
  case hS => 
    have h3 := hS.take (pre := [.blk g7 _ _, .blk g5 _ _, .own A _ _ _ _ _, .blk g1 _ _, .blk g2 _ _, .blk g _ _, .own D _ _ _ _ _]) Take.found
    exact h3
  case body =>
    clear hS
    rintro r pre x rest _ Γ' w o hx rfl hS
    obtain ⟨hpl, hxn⟩ := range_mid hx
    simp only [List.cons_append, List.nil_append] at hS
    dsimp only [Env.params]
    (refine Reach.walkG ?_; (repeat (first | ((with_reducible refine AllSt.mk ?_); (try clear hS); intro w hS) | ((with_reducible refine AllVw.mk ?_); intro V hV))))
    refine ⟨rfl, _, hS, ?_⟩
    clear hS
    intro w o' hS
    have hst := countL_step s hxn
    have hle := countL_le (l.take pre.length) s
    have hpx : (pre ++ [x]).length = pre.length + 1 := by simp
    rw [List.length_take] at hle
    rw [← hpl] at hst hxn
    have hlk : Look (.obj r o' :: .blk g7 3 [.int .i64 ((countL (l.take pre.length) s : Nat) : Int)] :: .blk g5 3 [.int .i64 s] :: .own A l.length cb 60 2 (kv l) :: Γ') ((adr A).add (0 + x * 2 + 0)) (.int .i64 ((l.getD pre.length ⟨0, 0⟩).st : Int)) :=
      .there (.there (.there (Look.own (by rw [← hpl]; exact kv_st' hxn))))
    rw [← hpx] at hst
    generalize hcN : countL (l.take (pre ++ [x]).length) s = cN at *
    generalize countL (l.take pre.length) s = c0 at *
    generalize (l.getD pre.length ⟨0, 0⟩).st = st at *
    (refine Reach.walkG ?_; (repeat (first | ((with_reducible refine AllSt.mk ?_); (try clear hS); intro w hS) | ((with_reducible refine AllVw.mk ?_); intro V hV))))
    (refine WpG.drawD 6 (by kernel_rfl) (by kernel_rfl) rfl ?_; dsimp only [List.take, List.drop])
    (refine Reach.rwalk ?_; (repeat (first | ((with_reducible refine AllSt.mk ?_); (try clear hS); intro w hS) | ((with_reducible refine AllVw.mk ?_); intro V hV))))
    (refine RgD.fin0 fun w hb => ?_; replace hS := hS.below hb; clear hb)
    by_cases heq : (st : Int) = s
    · rw [if_pos heq] at hst
      (refine Reach.walkG ?_; (repeat (first | ((with_reducible refine AllSt.mk ?_); (try clear hS); intro w hS) | ((with_reducible refine AllVw.mk ?_); intro V hV))))
      rw [← hst] at hS
      exact roundD.go (Lc' := [_, _, _]) (by rw [hcN]) hS
    · rw [if_neg heq, Nat.add_zero] at hst
      (refine Reach.walkG ?_; (repeat (first | ((with_reducible refine AllSt.mk ?_); (try clear hS); intro w hS) | ((with_reducible refine AllVw.mk ?_); intro V hV))))
      rw [← hst] at hS
      exact roundD.go (Lc' := [_, _, _]) (by rw [hcN]) hS
  case done =>
    clear hS
    rintro D' _ w rfl hS
    simp only [List.cons_append, List.nil_append] at hS
    rw [List.length_range, List.take_length] at hS
    (refine Reach.walkG ?_; (repeat (first | ((with_reducible refine AllSt.mk ?_); (try clear hS); intro w hS) | ((with_reducible refine AllVw.mk ?_); intro V hV))))
    refine leaveG_mark hS fun w hS => leaveG_nil ?_
    (with_reducible apply doneQ_one Try.results15); (· exact slotFound)
    (replace hS := (hS.take (pre := [.blk g _ _, .own D _ _ _ _ _, .own A _ _ _ _ _]) Take.found); (try simp only [List.cons_append, List.nil_append] at hS))
    exact ⟨rfl, hS.sub (.cons_cons _ (.cons_cons _ (.cons_cons _ (sub4 L))))⟩
  case stop => rintro D' c pre Lc w h; exact h.elim
end
end Go.Proofs.Ytaapnfoimcccjaa

namespace Go.Fk
open Go.RowKit
section
variable {P : Program} {n : Nat} {l : List Oper} {R : World → World → Prop} {OB : Oper → (Tmp → Spec) → Spec → Prop} {I0 : World → Prop} {I1 : Value → World → Prop} {t0 : Tmp}
theorem ObS.wpOpIn {ro : Option Nat} {ds : List Deferred} {ops : Array Oper} {o : Oper} {Γ : Tmp → Spec} {I : World → Prop} {J : Env → World → Prop} {R : World → World → Prop} (h : ObS P ops I J R o Γ) {a : Act} {e : Env} {w : World} (ha : RepD ds n a e) (hd : dOk n o.dst = true) {i : Nat} (ho : ops[i]? = some o)
    (hI : I w) (hΓ : ∀ t ∈ o.looksAt ops, Γ t (e t) w) {K : Act → World → Prop} {Q : Exit → Act → World → Prop}
    (hk : ∀ v a' w', RepD ds n a' (e.setD o.dst v) → J e w' → R w w' → K a' w') : Go.wpOpIn (frn ro) 0 P ops Q i K a w := by
  obtain ⟨hg, h1⟩ := h e w hI hΓ
  unfold Go.wpOpIn
  simp only [ho]
  rw [ha.yielded]
  have hw : Region.wanted o (yieldedE ops e) = true := by simp [Region.wanted, hg]
  rw [if_pos hw]
  refine ⟨fun _ _ => trivial, ?_⟩
  unfold RunsTo at h1
  rw [ha.eval]
  rcases semAt_or (ro := ro) e.eval o with hsem | ⟨c, hc⟩
  · rw [hsem]
    generalize (execOp e.eval o).run P w = r at h1 ⊢
    cases r with
    | halt x w' => exact h1.elim
    | ok x w' =>
      cases x <;> simp only at h1 <;> simp only [Oper.uponIn]
      case value v => exact hk _ _ _ (ha.put hd v) h1.1 h1.2
      case skip => exact hk _ _ _ (ha.put hd _) h1.1 h1.2
      case enter f args =>
        refine ⟨fun h => (by cases h), (Calls.toIn h1).mono fun x w'' hx => ?_⟩
        obtain ⟨v, rfl, hx⟩ := hx
        exact hk _ _ _ (ha.put hd v) hx.1 hx.2
      case row row args => exact ⟨fun h => (by cases h), Rows.toIn (h1.mono fun v w'' hx => hk _ _ _ (ha.put hd v) hx.1 hx.2)⟩
  · exfalso
    rcases run_defer (P := P) (w := w) e.eval o c hc with ⟨x, w', hr⟩ | ⟨d, w', hr⟩
    · rw [hr] at h1; exact h1
    · rw [hr] at h1; exact h1

theorem head_soundSY {ro : Option Nat} {ds : List Deferred} {N : Nat} (hok : RgOk l N) (hN : N ≤ l.length) {Vs : List Spec} {Γ0 : Tmp → Spec} (hlen : Vs.length = N) (hSt : ∀ w, R w w) {s : Nat} (hsN : s < N)
    (hst : ∀ (i : Nat) (V : Spec) v w w', Vs[i]? = some V → V v w → True → True → R w w' → V v w') (h0 : ∀ t v w w', Γ0 t v w → True → True → R w w' → Γ0 t v w')
    (hops : ∀ i o, i < N → l[i]? = some o → ∃ V, Vs[i]? = some V ∧ dOk n o.dst = true ∧ Ob2 P l.toArray I0 I1 R t0 o (ctx l Vs Γ0 i) V) (hone : ∀ i o, i < N → l[i]? = some o → (o.dst = none ↔ i = s))
    (ht0 : ∀ i o, l[i]? = some o → o.dst = some t0 → i < s) (hlook : ∀ o, l[s]? = some o → t0 ∈ o.looksAt l.toArray ∨ ∀ (i : Nat) (o' : Oper), l[i]? = some o' → o'.dst ≠ some t0)
    {K : Env → World → Prop} {Q : Exit → Act → World → Prop} (hq : ∀ a e w, RepD ds n a e → K e w → Q .normal a w)
    (hfin : ∀ e w, I1 (e t0) w → (∀ t, ctx l Vs Γ0 N t (e t) w) → WpY P n l.toArray K (l.drop N) e w) :
    ∀ (fuel : Nat) (listed : Array Bool) (a : Act) (e : Env) (w : World), RepD ds n a e → Mid l N Vs Γ0 (fun _ => True) listed e w → ((listed.getD s true = false → I0 w) ∧ (listed.getD s true = true → I1 (e t0) w)) → left l.length listed ≤ fuel → Go.wpAnyIn (frn ro) 0 P .any l.toArray Q fuel listed a w := by
  intro fuel
  -- where the head has come up whole the tail follows
  have hswitch : ∀ (fuel : Nat) (listed : Array Bool) (a : Act) (e : Env) (w : World), RepD ds n a e → Mid l N Vs Γ0 (fun _ => True) listed e w → ((listed.getD s true = false → I0 w) ∧ (listed.getD s true = true → I1 (e t0) w)) → left l.length listed ≤ fuel →
      (∀ i, i < N → listed.getD i true = true) → Go.wpAnyIn (frn ro) 0 P .any l.toArray Q fuel listed a w := fun fuel listed a e w ha hm hi hf hall => by
    have hl : ∀ i, i < l.length → listed.getD i true = decide (i < N) := fun i hi => by
      by_cases h : i < N
      · rw [hall i h]; simp [h]
      · rw [hm.head i (by omega) hi]; simp [h]
    refine tail_soundY hok hq (l.drop N) N listed a e w (Nat.le_refl _) hm.size (by simp; omega) (fun j => by rw [List.getElem?_drop]) hl ha (hfin e w (hi.2 (hall s hsN)) (hm.full hlen hN hall)) fuel ?_
    refine Nat.le_trans ?_ hf
    unfold left
    have : (List.range l.length).filter (fun i => !listed.getD i true) = (List.range l.length).filter (fun i => decide (N ≤ i)) := by
      refine List.filter_congr fun i hi => ?_
      rw [hl i (by simpa using hi)]
      by_cases h : i < N
      · simp [h]
      · simp [h]; omega
    rw [this]
    have hr : List.range l.length = List.range N ++ (List.range (l.length - N)).map (N + ·) := by
      rw [← List.range_add]; congr 1; omega
    rw [hr, List.filter_append]
    have e1 : ((List.range (l.length - N)).map (N + ·)).filter (fun i => decide (N ≤ i)) = (List.range (l.length - N)).map (N + ·) := by
      rw [List.filter_eq_self]
      intro x hx
      obtain ⟨y, _, rfl⟩ := List.mem_map.1 hx
      simp
    rw [List.length_append, e1]
    simp
  induction fuel with
  | zero =>
    intro listed a e w ha hm hinv hf
    have hall := left_zero (Nat.le_zero.1 hf)
    exact hswitch 0 listed a e w ha hm hinv hf fun i hi => hall i (by omega)
  | succ fuel ih =>
    intro listed a e w ha hm hinv hf
    by_cases hall : ∀ i, i < N → listed.getD i true = true
    · exact hswitch _ listed a e w ha hm hinv hf hall
    · refine ⟨fun h0 => absurd (fun i hi => all_of_ready_nil hok h0 i (by omega)) hall, fun i hi => ?_⟩
      obtain ⟨hun, o, ho', hpre0⟩ := mem_ready.1 hi
      have hil : i < l.length := by have := (Array.getElem?_eq_some_iff.1 ho').1; simpa using this
      have ho : l[i]? = some o := by simpa using ho'
      have hpre : ∀ ed ∈ o.after.toList, Region.binds .any ed = true → listed.getD ed.on true = true := fun ed he hb => getD_false_true (hpre0 ed (by simpa using he) hb)
      have hiN : i < N := by
        rcases Nat.lt_or_ge i N with h | h
        · exact h
        · exfalso
          refine hall fun j hj => ?_
          exact hok.tail i j hil h (by omega) _ hm.down fun o' ed h1 h2 h3 => by rw [ho] at h1; injection h1 with h1; subst h1; exact hpre ed h2 h3
      obtain ⟨V, hVi, hd, hob⟩ := hops i o hiN ho
      have hlk := hm.looks hok hlen hN ho hun hiN hpre
      by_cases his : i = s
      · -- the store
        have hdn := (hone i o hiN ho).2 his
        unfold Ob2 at hob
        rw [if_pos hdn] at hob
        obtain ⟨hob, rfl⟩ := hob
        refine hob.wpOpIn ha hd ho' (hinv.1 (by rw [← his]; exact hun)) hlk fun v a' w' ha' hJ hR => ?_
        refine ih _ a' _ w' ha' (hm.step hok hst h0 ho hun hiN hpre trivial hR fun V' hV'' => by rw [hVi] at hV''; injection hV'' with hV''; subst hV''; trivial) ?_ ?_
        · refine ⟨fun h => ?_, fun _ => by rw [hdn]; exact hJ⟩
          rw [← his, getD_set_same] at h; cases h
        · have := left_set hil hun
          omega
      · have hdn : o.dst ≠ none := fun h => his ((hone i o hiN ho).1 h)
        unfold Ob2 at hob
        rw [if_neg hdn] at hob
        have hne : (listed.setIfInBounds i true).getD s true = listed.getD s true := getD_set_ne true his
        cases hls : listed.getD s true with
        | false =>
          refine hob.1.wpOpIn ha hd ho' (hinv.1 hls) hlk (hSt w) fun v a' w' ha' hI' hS' hV' => ?_
          refine ih _ a' _ w' ha' (hm.step hok hst h0 ho hun hiN hpre trivial hS' fun V' hV'' => by rw [hVi] at hV''; injection hV'' with hV''; subst hV''; exact hV') ?_ ?_
          · rw [hne, hls]
            exact ⟨fun _ => hI', fun h => by cases h⟩
          · have := left_set hil hun
            omega
        | true =>
          have hd0 : o.dst ≠ some t0 := fun h => by
            have hlt := ht0 i o ho h
            have hs0 : l[s]? = some l[s] := List.getElem?_eq_getElem (by omega)
            rcases hlook _ hs0 with hl | hl
            · have hb := hok.order s i l[s] o t0 hs0 ho (Ne.symm his) (looks_names hl) h
              rw [Nat.max_eq_left (by omega), Nat.min_eq_right (by omega)] at hb
              have := hb.of_listed (L := fun k => listed.getD k true = true) hm.down hls
              rw [hun] at this; cases this
            · exact hl i o ho h
          have he0 : ∀ v, (e.setD o.dst v) t0 = e t0 := fun v => by
            cases h : o.dst with
            | none => rfl
            | some d' => exact Env.set_other e v (fun h' => hd0 (by rw [h, h']))
          refine (hob.2 (e t0)).wpOpIn ha hd ho' (hinv.2 hls) hlk (hSt w) fun v a' w' ha' hI' hS' hV' => ?_
          refine ih _ a' _ w' ha' (hm.step hok hst h0 ho hun hiN hpre trivial hS' fun V' hV'' => by rw [hVi] at hV''; injection hV'' with hV''; subst hV''; exact hV') ?_ ?_
          · rw [hne, hls, he0]
            exact ⟨fun h => (by cases h), fun _ => hI'⟩
          · have := left_set hil hun
            omega

/-- THE RULE. -/
theorem WpG.drawSY {ro : Option Nat} {ds : List Deferred} {id : Nat} {Q : PostD} {e : Env} {w : World} (N s t0 : Nat) (I0 : World → Prop) (I1 : Value → World → Prop) (R : World → World → Prop) (hm : P.follows .mixedOrders = true)
    (hok : rgOk l N = true) (hN : N ≤ l.length) (hSt : ∀ w, R w w) (hI : I0 w.drew) (hsk : storeOk l N s t0 = true)
    (h : RgLG n (Ob2 P l.toArray I0 I1 R t0) R (fun Γ => ∀ e' w', I1 (e' t0) w' → (∀ t, Γ t (e' t) w') → WpY P n l.toArray (Q .normal ds) (l.drop N) e' w') (l.take N) (fun t v _ => v = e t)) :
    WpG ro P n ds (.region id l.toArray true) Q e w := fun a ha => by
  have hok := rgOk_spec hok
  have hlt : (l.take N).length = N := by simp; omega
  have h' : RgLG n (Ob2 P l.toArray I0 I1 R t0) R (fun Γ => ∀ e' w', I1 (e' t0) w' → (∀ t, Γ t (e' t) w') → WpY P n l.toArray (Q .normal ds) (l.drop N) e' w') (l.take N) (ctx (l.take N) [] (fun t v _ => v = e t) 0) := h
  obtain ⟨Vs, h1, _, h3, h4⟩ := RgLG.specs (l := l.take N) (Γ0 := fun t v _ => v = e t) (l.take N) 0 [] rfl (fun j => by simp) h'
  simp only [Nat.zero_add] at h1 h3 h4
  rw [hlt] at h1 h3
  have hctx : ∀ i, i ≤ N → ctx (l.take N) Vs (fun t v _ => v = e t) i = ctx l Vs (fun t v _ => v = e t) i := fun i => by
    induction i with
    | zero => intro _; rfl
    | succ i ih =>
      intro hi
      simp only [ctx]
      rw [ih (by omega), List.getElem?_take, if_pos (by omega)]
  rw [hctx N (Nat.le_refl _)] at h3
  obtain ⟨hsN, hone, ht0, hlook⟩ := storeOk_spec hN hsk
  refine wpIn_region_any hm (head_soundSY (R := R) (I0 := I0) (I1 := I1) (t0 := t0) hok hN h1 hSt hsN (fun i V v w w' hV hv _ _ hR => ?_) (fun t v w w' h _ _ _ => h) (fun i o hi ho => ?_) hone ht0 hlook (fun a e w ha hk => ⟨ds, e, ha, hk⟩) h3 _ _ a e _ ha
    ⟨by simp, trivial, fun k o ed hk he hb hl => ?_, fun i h1 h2 => ?_, fun j o d hj _ hl => ?_, fun t _ => rfl⟩ ⟨fun _ => hI, fun hl => ?_⟩ ?_)
  · have hi : i < N := by have := (List.getElem?_eq_some_iff.1 hV).1; omega
    obtain ⟨V', hV', _, hs, _⟩ := h4 i (l[i]'(by omega)) (Nat.zero_le _) (by simp; omega) (by rw [List.getElem?_take, if_pos hi]; exact List.getElem?_eq_getElem (by omega))
    rw [hV] at hV'; injection hV' with hV'; subst hV'
    exact hs v w w' hv hR
  · obtain ⟨V, h5, h6, _, h8⟩ := h4 i o (Nat.zero_le _) (by simp; have := (List.getElem?_eq_some_iff.1 ho).1; omega) (by rw [List.getElem?_take, if_pos hi]; exact ho)
    rw [hctx i (by omega)] at h8
    exact ⟨V, h5, h6, h8⟩
  · exfalso
    have hkl : k < l.length := (List.getElem?_eq_some_iff.1 hk).1
    simp [Array.getD_eq_getD_getElem?, hkl] at hl
  · simp [Array.getD_eq_getD_getElem?, h2]
  · exfalso
    have hkl : j < l.length := (List.getElem?_eq_some_iff.1 hj).1
    simp [Array.getD_eq_getD_getElem?, hkl] at hl
  · exfalso
    have hkl : s < l.length := by omega
    simp [Array.getD_eq_getD_getElem?, hkl] at hl
  · unfold left
    exact Nat.le_trans (List.length_filter_le _ _) (by simp)
theorem RgLG.mono {Fin Fin' : (Tmp → Spec) → Prop} (hf : ∀ Γ, Fin Γ → Fin' Γ) : ∀ {l : List Oper} {Γ : Tmp → Spec}, RgLG n OB R Fin l Γ → RgLG n OB R Fin' l Γ
  | [], Γ, h => hf Γ h
  | _ :: _, _, ⟨V, h1, h2, h3, h4⟩ => ⟨V, h1, h2, h3, RgLG.mono hf h4⟩
end
section
variable {P : Program} {n : Nat} {l : List Oper} {w w0 : World} {M : Nat → Prop} {LA : List Ch} {LB : Value → List Ch} {Q : PostD} {e : Env} {ro : Option Nat} {ds : List Deferred}
theorem WpG.drawAB (N s t0 : Nat) {id : Nat} (hS : St w0 M w LA) (hm : P.follows .mixedOrders = true) (hok : rgOk l N = true) (hN : Nat.ble N l.length = true) (hsk : storeOk l N s t0 = true)
    (h : RgS P n l.toArray w0 M LA LB w.heap.size t0 (fun Γ => ∀ e' w', IS w0 M (LB (e' t0)) w.heap.size w' → (∀ t, Γ t (e' t) w') → WpL P n l.toArray (Q .normal ds) (l.drop N) e' w') (l.take N) e []) :
    WpG ro P n ds (.region id l.toArray true) Q e w :=
  WpG.drawSY N s t0 (IS w0 M LA w.heap.size) (fun x => IS w0 M (LB x) w.heap.size) (RB w.heap.size) hm hok (Nat.le_of_ble_eq_true hN) (fun w => RB.refl w) ⟨Nat.le_refl _, hS.drew⟩ hsk (RgLG.mono (fun Γ h e' w' h1 h2 => (h e' w' h1 h2).toY) (h (by simp)))
theorem RgS.finE {ops ops' : Array Oper} {K : Env → World → Prop} {tail : List Oper} {base t0 : Nat} {E : Open}
    (h : ∀ w x, St w0 M w (LB x) → AllE w (fun e => WpL P n ops' K tail e w) E e) :
    RgS P n ops w0 M LA LB base t0 (fun Γ => ∀ e' w', IS w0 M (LB (e' t0)) base w' → (∀ t, Γ t (e' t) w') → WpL P n ops' K tail e' w') [] e E :=
  fun hn e' w' hB hg => AllE.full hn hg (h w' _ hB.2)
end
end Go.Fk

namespace Go.Proofs.Ytaapnfoimcccjaa
open Go.Fk Go.RowKit
attribute [local irreducible] Wp WpL Det thenQ blockQ WpG thenD blockG
instance : Elem Try.prog 4 1 1 (.bool false) := ⟨by kernel_rfl, rfl, by decide⟩
def sprS (o : Option (Nat × Nat)) (b : Bk) : Option (Nat × Nat) := if b.st = 4 then o else match o with
  | none => some (b.er, b.er)
  | some (lo, hi) => some (min lo b.er, max hi b.er)
def sprN (l : List Bk) : Option (Nat × Nat) := l.foldl sprS none
theorem sprN_step {l : List Bk} {i : Nat} (h : i < l.length) : sprN (l.take (i + 1)) = sprS (sprN (l.take i)) (l.getD i ⟨0, 0⟩) := by
  unfold sprN
  rw [take_snocB h, List.foldl_append]
  rfl
def loV : Option (Nat × Nat) → Int
  | none => 0
  | some (lo, _) => lo
def hiV : Option (Nat × Nat) → Int
  | none => 0
  | some (_, hi) => hi
def sprOk : Option (Nat × Nat) → Prop
  | none => True
  | some (lo, hi) => lo ≤ hi ∧ hi < 4294967296
theorem sprS_ok {o : Option (Nat × Nat)} {b : Bk} (h : sprOk o) (hb : b.er < 4294967296) : sprOk (sprS o b) := by
  unfold sprS
  split
  · exact h
  · cases o with
    | none => exact ⟨Nat.le_refl _, hb⟩
    | some p =>
      obtain ⟨lo, hi⟩ := p
      obtain ⟨h1, h2⟩ := h
      exact ⟨by show min lo b.er ≤ max hi b.er; omega, by show max hi b.er < _; omega⟩
theorem sprN_ok {l : List Bk} (hf : Fit l) : sprOk (sprN l) := by
  unfold sprN
  have : ∀ (l : List Bk) (o : Option (Nat × Nat)), (∀ b ∈ l, b.er < 4294967296) → sprOk o → sprOk (l.foldl sprS o) := fun l => by
    induction l with
    | nil => intro o _ h; exact h
    | cons b l ih => intro o hb h; exact ih _ (fun x hx => hb x (List.mem_cons_of_mem _ hx)) (sprS_ok h (hb b List.mem_cons_self))
  exact this l none (fun b hb => (hf b hb).1) trivial
theorem lo_ok {o : Option (Nat × Nat)} (h : sprOk o) : 0 ≤ loV o ∧ loV o ≤ hiV o ∧ hiV o < 4294967296 := by
  cases o with
  | none => exact ⟨Int.le_refl _, Int.le_refl _, by decide⟩
  | some p =>
    obtain ⟨lo, hi⟩ := p
    obtain ⟨h1, h2⟩ := h
    exact ⟨by show (0 : Int) ≤ (lo : Int); omega, by show (lo : Int) ≤ (hi : Int); omega, by show (hi : Int) < _; omega⟩
def spreadL (l : List Bk) : Int := hiV (sprN l) - loV (sprN l)
section
variable {w w0 : World} {M : Nat → Prop} {L : List Ch} {g nd cd : Nat} {D : Option Addr} {rows : List Value}
theorem spreadO {d : Int} (hD : IsVw D nd cd D 0) (hd : ¬ (0 ≤ d ∧ d < nd)) (hS : St w0 M w (headsC g D nd cd rows L)) :
    Calls Try.prog 14 #[.pointer (some ⟨g, 0, none⟩), .int .i64 d] w fun x w' => x = .returned (.int .i64 0) ∧ St w0 M w' (headsC g D nd cd rows L) := by
  (refine calls_ofG (P := Try.prog) _ Try.func14 rfl Try.ntmps14 (Nat.le_of_ble_eq_true rfl) ?_; dsimp only [argE, Nat.reduceAdd])
  (refine Reach.walkG ?_; (repeat (first | ((with_reducible refine AllSt.mk ?_); (try clear hS); intro w hS) | ((with_reducible refine AllVw.mk ?_); intro V hV))))
  ((with_reducible apply WpL.al); (· assumption); (· exact rfl); (· exact rfl); clear hS)
  intro g5 w hS
  (refine Reach.walkG ?_; (repeat (first | ((with_reducible refine AllSt.mk ?_); (try clear hS); intro w hS) | ((with_reducible refine AllVw.mk ?_); intro V hV))))
  ((with_reducible apply WpL.al); (· assumption); (· exact rfl); (· exact rfl); clear hS)
  intro g6 w hS
  (refine Reach.walkG ?_; (repeat (first | ((with_reducible refine AllSt.mk ?_); (try clear hS); intro w hS) | ((with_reducible refine AllVw.mk ?_); intro V hV))))
  ((with_reducible apply WpL.al); (· assumption); (· exact rfl); (· exact rfl); clear hS)
  intro g7 w hS
  (refine Reach.walkG ?_; (repeat (first | ((with_reducible refine AllSt.mk ?_); (try clear hS); intro w hS) | ((with_reducible refine AllVw.mk ?_); intro V hV))))
  (with_reducible apply WpL.call); (· exact rfl); (· exact Try.call30); (· exact Vals.found)
  refine (of_any hS).mono ?_
  clear hS
  rintro x w ⟨g1, g2, rfl, hS⟩
  refine ⟨_, rfl, ?_⟩
  (refine Reach.walkG ?_; (repeat (first | ((with_reducible refine AllSt.mk ?_); (try clear hS); intro w hS) | ((with_reducible refine AllVw.mk ?_); intro V hV))))
  refine WpG.rangeFunc (ps := [14, 15]) (w0 := w0) (M := M) (Γ0 := L) (Lc := [.blk g7 4 [.bool false], .blk g6 3 [.int .i64 0], .blk g5 3 [.int .i64 0]])
    (of_iter_out (g := g) (g1 := g1) (g2 := g2) (rows := rows) hD hd (fun i : Nat => [.int .i64 (i : Int), .int .i64 0])) rfl Try.call42 (fun _ => rfl) (by decide)
    (fun pre Lc => Lc = [.blk g7 4 [.bool false], .blk g6 3 [.int .i64 0], .blk g5 3 [.int .i64 0]]) (fun c pre Lc => False) ?hS rfl ?body ?done ?stop
  case hS => exact hS.perm (List.perm_append_comm_assoc [_, _] [_, _, _] _)
  case body =>
    rintro r pre x rest _ Γ' w o hx
    cases pre <;> cases hx
  case done =>
    clear hS
    rintro D' _ w rfl hS
    simp only [List.cons_append, List.nil_append] at hS
    (refine Reach.walkG ?_; (repeat (first | ((with_reducible refine AllSt.mk ?_); (try clear hS); intro w hS) | ((with_reducible refine AllVw.mk ?_); intro V hV))))
    refine leaveG_mark hS fun w hS => leaveG_nil ?_
    (with_reducible apply doneQ_one Try.results14); (· exact slotFound)
    exact ⟨rfl, hS.tail.sub (sub4 _)⟩
  case stop => rintro D' c pre Lc w h; exact h.elim
theorem spreadI {d : Nat} {A : Option Addr} {nb cb : Nat} {l : List Bk} (hl : l.length = nb) (hf : Fit l) (hD : IsVw D nd cd D 0) (hdn : d < nd) (hrow : rows[d]? = some (.slice A nb cb)) (hA : IsVw A nb cb A 0) (hnb : nb ≤ 1048576) (hnd : nd ≤ 1048576) (hS : St w0 M w (poolC g D nd cd rows A nb cb l L)) :
    Calls Try.prog 14 #[.pointer (some ⟨g, 0, none⟩), .int .i64 (d : Int)] w fun x w' => x = .returned (.int .i64 (spreadL l)) ∧ St w0 M w' (poolC g D nd cd rows A nb cb l L) := by
  subst hl
  (refine calls_ofG (P := Try.prog) _ Try.func14 rfl Try.ntmps14 (Nat.le_of_ble_eq_true rfl) ?_; dsimp only [argE, Nat.reduceAdd])
  (refine Reach.walkG ?_; (repeat (first | ((with_reducible refine AllSt.mk ?_); (try clear hS); intro w hS) | ((with_reducible refine AllVw.mk ?_); intro V hV))))
  ((with_reducible apply WpL.al); (· assumption); (· exact rfl); (· exact rfl); clear hS)
  intro g5 w hS
  (refine Reach.walkG ?_; (repeat (first | ((with_reducible refine AllSt.mk ?_); (try clear hS); intro w hS) | ((with_reducible refine AllVw.mk ?_); intro V hV))))
  ((with_reducible apply WpL.al); (· assumption); (· exact rfl); (· exact rfl); clear hS)
  intro g6 w hS
  (refine Reach.walkG ?_; (repeat (first | ((with_reducible refine AllSt.mk ?_); (try clear hS); intro w hS) | ((with_reducible refine AllVw.mk ?_); intro V hV))))
  ((with_reducible apply WpL.al); (· assumption); (· exact rfl); (· exact rfl); clear hS)
  intro g7 w hS
  (refine Reach.walkG ?_; (repeat (first | ((with_reducible refine AllSt.mk ?_); (try clear hS); intro w hS) | ((with_reducible refine AllVw.mk ?_); intro V hV))))
  (with_reducible apply WpL.call); (· exact rfl); (· exact Try.call30); (· exact Vals.found)
  refine (of_any hS).mono ?_
  clear hS
  rintro x w ⟨g1, g2, rfl, hS⟩
  refine ⟨_, rfl, ?_⟩
  (refine Reach.walkG ?_; (repeat (first | ((with_reducible refine AllSt.mk ?_); (try clear hS); intro w hS) | ((with_reducible refine AllVw.mk ?_); intro V hV))))
  refine WpG.rangeFunc (ps := [14, 15]) (w0 := w0) (M := M) (Γ0 := L) (Lc := [.blk g7 4 [.bool false], .blk g6 3 [.int .i64 0], .blk g5 3 [.int .i64 0], .own A l.length cb 60 2 (kv l)])
    (of_iter_in (g := g) (g1 := g1) (g2 := g2) (rows := rows) hD hdn hrow hA hnb hnd) rfl Try.call42 (fun _ => rfl) (by decide)
    (fun pre Lc => Lc = [.blk g7 4 [.bool (sprN (l.take pre.length)).isSome], .blk g6 3 [.int .i64 (hiV (sprN (l.take pre.length)))], .blk g5 3 [.int .i64 (loV (sprN (l.take pre.length)))], .own A l.length cb 60 2 (kv l)]) (fun c pre Lc => False) ?hS rfl ?body ?done ?stop
  case hS =>
    have h3 := hS.take (pre := [.blk g7 _ _, .blk g6 _ _, .blk g5 _ _, .own A _ _ _ _ _, .blk g1 _ _, .blk g2 _ _, .blk g _ _, .own D _ _ _ _ _]) Take.found
    exact h3
  case body =>
    clear hS
    rintro r pre x rest _ Γ' w o hx rfl hS
    obtain ⟨hpl, hxn⟩ := range_mid hx
    simp only [List.cons_append, List.nil_append] at hS
    dsimp only [Env.params]
    (refine Reach.walkG ?_; (repeat (first | ((with_reducible refine AllSt.mk ?_); (try clear hS); intro w hS) | ((with_reducible refine AllVw.mk ?_); intro V hV))))
    refine ⟨rfl, _, hS, ?_⟩
    clear hS
    intro w o' hS
    have hok := sprN_ok (l := l.take pre.length) (fun b hb => hf b (List.mem_of_mem_take hb))
    have hst := sprN_step hxn
    have hpx : (pre ++ [x]).length = pre.length + 1 := by simp
    rw [← hpl] at hst hxn
    have hfb := hf _ (getD_memB hxn)
    have hlk : Look (.obj r o' :: .blk g7 4 [.bool (sprN (l.take pre.length)).isSome] :: .blk g6 3 [.int .i64 (hiV (sprN (l.take pre.length)))] :: .blk g5 3 [.int .i64 (loV (sprN (l.take pre.length)))] :: .own A l.length cb 60 2 (kv l) :: Γ') ((adr A).add (0 + x * 2 + 0)) (.int .i64 ((l.getD pre.length ⟨0, 0⟩).st : Int)) :=
      .there (.there (.there (.there (Look.own (by rw [← hpl]; exact kv_st' hxn)))))
    have hlk2 : Look (.obj r o' :: .blk g7 4 [.bool (sprN (l.take pre.length)).isSome] :: .blk g6 3 [.int .i64 (hiV (sprN (l.take pre.length)))] :: .blk g5 3 [.int .i64 (loV (sprN (l.take pre.length)))] :: .own A l.length cb 60 2 (kv l) :: Γ') ((adr A).add (0 + x * 2 + 1)) (.int .u32 ((l.getD pre.length ⟨0, 0⟩).er : Int)) :=
      .there (.there (.there (.there (Look.own (by rw [← hpl]; exact kv_er' hxn)))))
    rw [← hpx] at hst
    generalize hcN : sprN (l.take (pre ++ [x]).length) = oN at *
    generalize sprN (l.take pre.length) = o0 at *
    generalize l.getD pre.length ⟨0, 0⟩ = b at *
    obtain ⟨st, er⟩ := b
    unfold sprS at hst
    dsimp only at *
    by_cases h4 : st = 4
    · rw [if_pos h4] at hst
      subst h4
      (refine Reach.walkG ?_; (repeat (first | ((with_reducible refine AllSt.mk ?_); (try clear hS); intro w hS) | ((with_reducible refine AllVw.mk ?_); intro V hV))))
      rw [← hst] at hS
      exact roundD.go (Lc' := [_, _, _, _]) (by rw [hcN]) hS
    rw [if_neg h4] at hst
    cases o0 with
    | none =>
      dsimp only [loV, hiV, Option.isSome] at *
      (refine Reach.walkG ?_; (repeat (first | ((with_reducible refine AllSt.mk ?_); (try clear hS); intro w hS) | ((with_reducible refine AllVw.mk ?_); intro V hV))))
      have hlt5 : g5 < w.heap.size := St.feet_lt hS (.blk g5 3 [.int .i64 (er : Int)]) (by simp) g5 rfl
      refine WpG.drawAB 7 6 32 (LB := fun _ => .obj r o' :: .blk g7 4 [.bool true] :: .blk g6 3 [.int .i64 (er : Int)] :: .blk g5 3 [.int .i64 ((min er er : Nat) : Int)] :: .own A l.length cb 60 2 (kv l) :: Γ') hS (by kernel_rfl) (by kernel_rfl) rfl (by kernel_rfl) ?_
      dsimp only [List.take, List.drop]
      refine RgS.spec (fun v _ => v = .int .i64 (er : Int) ∨ v = .int .i64 ((min er er : Nat) : Int)) rfl rfl rfl [] rfl (fun _ _ _ h _ => h) (fun w L hL _ hS => ?_) ?_
      · show WpL _ _ _ _ _ _ _
        rcases hL with rfl | ⟨x, rfl⟩
        · exact WpL.ld hS rfl rfl (.there (.there (.there (Look.blk rfl)))) (WpL.nil ⟨Below.refl _ _, .inl (Env.set_same _ _ _)⟩)
        · exact WpL.ld hS rfl rfl (.there (.there (.there (Look.blk rfl)))) (WpL.nil ⟨Below.refl _ _, .inr (Env.set_same _ _ _)⟩)
      (repeat (first | ((with_reducible apply RgS.ld); (· exact rfl); (· exact rfl); (· exact rfl); (· exact rfl); (· exact Look.found); (· exact fun _ => Look.found)) | ((with_reducible apply RgS.det); (· exact rfl); (· exact rfl); (· exact rfl); (· exact rfl); (· exact Det.found2))))
      refine RgS.known (c := .int .i64 ((min er er : Nat) : Int)) rfl rfl rfl _ rfl (fun w L hL hS => ?_) ?_
      · intro x hx
        rcases hx with rfl | rfl
        · exact WpL.det rfl (Det.min rfl rfl) (WpL.nil ⟨Below.refl _ _, (Env.set_same _ _ _).trans (int_eq (by omega))⟩)
        · exact WpL.det rfl (Det.min rfl rfl) (WpL.nil ⟨Below.refl _ _, (Env.set_same _ _ _).trans (int_eq (by omega))⟩)
      (repeat (first | ((with_reducible apply RgS.ld); (· exact rfl); (· exact rfl); (· exact rfl); (· exact rfl); (· exact Look.found); (· exact fun _ => Look.found)) | ((with_reducible apply RgS.det); (· exact rfl); (· exact rfl); (· exact rfl); (· exact rfl); (· exact Det.found2))))
      refine RgS.st rfl rfl rfl rfl (fun _ => .there (.there (.there (Upd.blkP .here)))) hlt5 ?_
      (repeat (first | ((with_reducible apply RgS.ld); (· exact rfl); (· exact rfl); (· exact rfl); (· exact rfl); (· exact Look.found); (· exact fun _ => Look.found)) | ((with_reducible apply RgS.det); (· exact rfl); (· exact rfl); (· exact rfl); (· exact rfl); (· exact Det.found2))))
      clear hS
      refine RgS.finE fun w _ hS => ?_
      intro x _
      show WpL _ _ _ _ _ _ _
      (refine Reach.walkG ?_; (repeat (first | ((with_reducible refine AllSt.mk ?_); (try clear hS); intro w hS) | ((with_reducible refine AllVw.mk ?_); intro V hV))))
      have e2 : max (er : Int) (er : Int) = ((max er er : Nat) : Int) := by omega
      rw [e2] at hS
      rw [Nat.min_self, Nat.max_self] at hS
      exact roundD.go (Lc' := [_, _, _, _]) (by rw [hcN, hst]) hS
    | some p =>
      obtain ⟨lo, hi⟩ := p
      dsimp only [loV, hiV, Option.isSome] at *
      (refine Reach.walkG ?_; (repeat (first | ((with_reducible refine AllSt.mk ?_); (try clear hS); intro w hS) | ((with_reducible refine AllVw.mk ?_); intro V hV))))
      have hlt5 : g5 < w.heap.size := St.feet_lt hS (.blk g5 3 [.int .i64 (lo : Int)]) (by simp) g5 rfl
      refine WpG.drawAB 7 6 32 (LB := fun _ => .obj r o' :: .blk g7 4 [.bool true] :: .blk g6 3 [.int .i64 (hi : Int)] :: .blk g5 3 [.int .i64 ((min lo er : Nat) : Int)] :: .own A l.length cb 60 2 (kv l) :: Γ') hS (by kernel_rfl) (by kernel_rfl) rfl (by kernel_rfl) ?_
      dsimp only [List.take, List.drop]
      refine RgS.spec (fun v _ => v = .int .i64 (lo : Int) ∨ v = .int .i64 ((min lo er : Nat) : Int)) rfl rfl rfl [] rfl (fun _ _ _ h _ => h) (fun w L hL _ hS => ?_) ?_
      · show WpL _ _ _ _ _ _ _
        rcases hL with rfl | ⟨x, rfl⟩
        · exact WpL.ld hS rfl rfl (.there (.there (.there (Look.blk rfl)))) (WpL.nil ⟨Below.refl _ _, .inl (Env.set_same _ _ _)⟩)
        · exact WpL.ld hS rfl rfl (.there (.there (.there (Look.blk rfl)))) (WpL.nil ⟨Below.refl _ _, .inr (Env.set_same _ _ _)⟩)
      (repeat (first | ((with_reducible apply RgS.ld); (· exact rfl); (· exact rfl); (· exact rfl); (· exact rfl); (· exact Look.found); (· exact fun _ => Look.found)) | ((with_reducible apply RgS.det); (· exact rfl); (· exact rfl); (· exact rfl); (· exact rfl); (· exact Det.found2))))
      refine RgS.known (c := .int .i64 ((min lo er : Nat) : Int)) rfl rfl rfl _ rfl (fun w L hL hS => ?_) ?_
      · intro x hx
        rcases hx with rfl | rfl
        · exact WpL.det rfl (Det.min rfl rfl) (WpL.nil ⟨Below.refl _ _, (Env.set_same _ _ _).trans (int_eq (by omega))⟩)
        · exact WpL.det rfl (Det.min rfl rfl) (WpL.nil ⟨Below.refl _ _, (Env.set_same _ _ _).trans (int_eq (by omega))⟩)
      (repeat (first | ((with_reducible apply RgS.ld); (· exact rfl); (· exact rfl); (· exact rfl); (· exact rfl); (· exact Look.found); (· exact fun _ => Look.found)) | ((with_reducible apply RgS.det); (· exact rfl); (· exact rfl); (· exact rfl); (· exact rfl); (· exact Det.found2))))
      refine RgS.st rfl rfl rfl rfl (fun _ => .there (.there (.there (Upd.blkP .here)))) hlt5 ?_
      (repeat (first | ((with_reducible apply RgS.ld); (· exact rfl); (· exact rfl); (· exact rfl); (· exact rfl); (· exact Look.found); (· exact fun _ => Look.found)) | ((with_reducible apply RgS.det); (· exact rfl); (· exact rfl); (· exact rfl); (· exact rfl); (· exact Det.found2))))
      clear hS
      refine RgS.finE fun w _ hS => ?_
      intro x _
      show WpL _ _ _ _ _ _ _
      (refine Reach.walkG ?_; (repeat (first | ((with_reducible refine AllSt.mk ?_); (try clear hS); intro w hS) | ((with_reducible refine AllVw.mk ?_); intro V hV))))
      have e2 : max (hi : Int) (er : Int) = ((max hi er : Nat) : Int) := by omega
      rw [e2] at hS
      exact roundD.go (Lc' := [_, _, _, _]) (by rw [hcN, hst]) hS
  case done =>
    clear hS
    rintro D' _ w rfl hS
    simp only [List.cons_append, List.nil_append] at hS
    rw [List.length_range, List.take_length] at hS
    have hok := lo_ok (sprN_ok hf)
    have hsp : spreadL l = hiV (sprN l) - loV (sprN l) := rfl
    generalize loV (sprN l) = lo at *
    generalize hiV (sprN l) = hi at *
    (refine Reach.walkG ?_; (repeat (first | ((with_reducible refine AllSt.mk ?_); (try clear hS); intro w hS) | ((with_reducible refine AllVw.mk ?_); intro V hV))))
    refine leaveG_mark hS fun w hS => leaveG_nil ?_
    (with_reducible apply doneQ_one Try.results14); (· exact slotFound)
    (replace hS := (hS.take (pre := [.blk g _ _, .own D _ _ _ _ _, .own A _ _ _ _ _]) Take.found); (try simp only [List.cons_append, List.nil_append] at hS))
    exact ⟨by rw [hsp], hS.sub (.cons_cons _ (.cons_cons _ (.cons_cons _ ((List.sublist_cons_self _ _).trans (sub4 _)))))⟩
  case stop => rintro D' c pre Lc w h; exact h.elim
end
end Go.Proofs.Ytaapnfoimcccjaa

namespace Go.Proofs.Ytaapnfoimcccjaa
open Go.Fk Go.RowKit
attribute [local irreducible] Wp WpL Det thenQ blockQ WpG thenD blockG
def stG (l : List Bk) (i : Nat) : Nat := (l.getD i ⟨0, 0⟩).st
def erG (l : List Bk) (i : Nat) : Nat := (l.getD i ⟨0, 0⟩).er
def lessB (l : List Bk) (k : Nat) : Option Nat → Bool
  | none => true
  | some b => decide (erG l k < erG l b)
def bestN (l : List Bk) : Nat → Option Nat
  | 0 => none
  | k + 1 => if stG l k = 1 ∧ lessB l k (bestN l k) = true then some k else bestN l k
theorem bestN_lt {l : List Bk} : ∀ {k b : Nat}, bestN l k = some b → b < k ∧ stG l b = 1
  | 0, b, h => by cases h
  | k + 1, b, h => by
    rw [bestN] at h
    split at h
    · rename_i hc
      injection h with h
      subst h
      exact ⟨Nat.lt_succ_self _, hc.1⟩
    · have := bestN_lt h
      exact ⟨by omega, this.2⟩
def takeL (l : List Bk) : (Int × Int) × List Bk := match bestN l l.length with
  | none => ((0, 70), l)
  | some b => (((b : Int), 0), l.set b ⟨2, erG l b⟩)
theorem takeL_len (l : List Bk) : (takeL l).2.length = l.length := by
  unfold takeL
  split <;> simp
theorem Fit.take {l : List Bk} (h : Fit l) : Fit (takeL l).2 := by
  unfold takeL
  split
  · exact h
  · rename_i b hb
    exact h.set _ ⟨(h _ (getD_memB (bestN_lt hb).1)).1, by show 2 < 256; decide⟩
def bestV (A : Option Addr) : Option Nat → Value
  | none => .pointer none
  | some b => .pointer (some ((adr A).add (0 + b * 2)))
def atV : Option Nat → Int
  | none => 0
  | some b => b
section
variable {w w0 : World} {M : Nat → Prop} {L : List Ch} {g nd cd : Nat} {D : Option Addr} {rows : List Value}
theorem takeO {d : Int} (hD : IsVw D nd cd D 0) (hd : ¬ (0 ≤ d ∧ d < nd)) (hS : St w0 M w (headsC g D nd cd rows L)) :
    Calls Try.prog 11 #[.pointer (some ⟨g, 0, none⟩), .int .i64 d] w fun x w' => x = .returned (.tuple #[.int .i64 0, .int .i64 1]) ∧ St w0 M w' (headsC g D nd cd rows L) := by
  (refine calls_ofG (P := Try.prog) _ Try.func11 rfl Try.ntmps11 (Nat.le_of_ble_eq_true rfl) ?_; dsimp only [argE, Nat.reduceAdd])
  (refine Reach.walkG ?_; (repeat (first | ((with_reducible refine AllSt.mk ?_); (try clear hS); intro w hS) | ((with_reducible refine AllVw.mk ?_); intro V hV))))
  (with_reducible apply WpL.call); (· exact rfl); (· exact Try.call29); (· exact Vals.found)
  refine (atO hD hd hS).mono ?_
  clear hS
  rintro x w ⟨rfl, hS⟩
  refine ⟨_, rfl, ?_⟩
  (refine Reach.walkG ?_; (repeat (first | ((with_reducible refine AllSt.mk ?_); (try clear hS); intro w hS) | ((with_reducible refine AllVw.mk ?_); intro V hV))))
  refine leaveG_nil ?_
  (with_reducible apply doneQ_two Try.results11); (· exact slotFound); (· exact slotFound)
  exact ⟨rfl, hS⟩
theorem takeI {d : Nat} {A : Option Addr} {nb cb : Nat} {l : List Bk} (hnb0 : 0 < nb) (hl : l.length = nb) (hf : Fit l) (hD : IsVw D nd cd D 0) (hdn : d < nd) (hrow : rows[d]? = some (.slice A nb cb)) (hA : IsVw A nb cb A 0) (hnb : nb ≤ 1048576) (hnd : nd ≤ 1048576) (hS : St w0 M w (poolC g D nd cd rows A nb cb l L)) :
    Calls Try.prog 11 #[.pointer (some ⟨g, 0, none⟩), .int .i64 (d : Int)] w fun x w' => x = .returned (.tuple #[.int .i64 (takeL l).1.1, .int .i64 (takeL l).1.2]) ∧ St w0 M w' (poolC g D nd cd rows A nb cb (takeL l).2 L) := by
  subst hl
  (refine calls_ofG (P := Try.prog) _ Try.func11 rfl Try.ntmps11 (Nat.le_of_ble_eq_true rfl) ?_; dsimp only [argE, Nat.reduceAdd])
  (refine Reach.walkG ?_; (repeat (first | ((with_reducible refine AllSt.mk ?_); (try clear hS); intro w hS) | ((with_reducible refine AllVw.mk ?_); intro V hV))))
  (with_reducible apply WpL.call); (· exact rfl); (· exact Try.call29); (· exact Vals.found)
  refine (atI hD hdn hrow hA hnb hnd hS).mono ?_
  clear hS
  rintro x w ⟨rfl, hS⟩
  refine ⟨_, rfl, ?_⟩
  have hat : atP A l.length 0 = .pointer (some ((adr A).add (0 + 0 * 2))) := by unfold atP; rw [if_pos ⟨by decide, by omega⟩]; rfl
  rw [hat]
  clear hat
  (refine Reach.walkG ?_; (repeat (first | ((with_reducible refine AllSt.mk ?_); (try clear hS); intro w hS) | ((with_reducible refine AllVw.mk ?_); intro V hV))))
  ((with_reducible apply WpL.al); (· assumption); (· exact rfl); (· exact rfl); clear hS)
  intro g6 w hS
  (refine Reach.walkG ?_; (repeat (first | ((with_reducible refine AllSt.mk ?_); (try clear hS); intro w hS) | ((with_reducible refine AllVw.mk ?_); intro V hV))))
  ((with_reducible apply WpL.al); (· assumption); (· exact rfl); (· exact rfl); clear hS)
  intro g7 w hS
  (refine Reach.walkG ?_; (repeat (first | ((with_reducible refine AllSt.mk ?_); (try clear hS); intro w hS) | ((with_reducible refine AllVw.mk ?_); intro V hV))))
  (with_reducible apply WpL.call); (· exact rfl); (· exact Try.call30); (· exact Vals.found)
  refine (of_any hS).mono ?_
  clear hS
  rintro x w ⟨g1, g2, rfl, hS⟩
  refine ⟨_, rfl, ?_⟩
  (refine Reach.walkG ?_; (repeat (first | ((with_reducible refine AllSt.mk ?_); (try clear hS); intro w hS) | ((with_reducible refine AllVw.mk ?_); intro V hV))))
  refine WpG.rangeFunc (ps := [17, 18]) (w0 := w0) (M := M) (Γ0 := L) (Lc := [.blk g7 3 [.int .i64 0], .blk g6 61 [.pointer none], .own A l.length cb 60 2 (kv l)])
    (of_iter_in (g := g) (g1 := g1) (g2 := g2) (rows := rows) hD hdn hrow hA hnb hnd) rfl Try.call42 (fun _ => rfl) (by decide)
    (fun pre Lc => Lc = [.blk g7 3 [.int .i64 (atV (bestN l pre.length))], .blk g6 61 [bestV A (bestN l pre.length)], .own A l.length cb 60 2 (kv l)]) (fun c pre Lc => False) ?hS rfl ?body ?done ?stop
  case hS =>
    have h3 := hS.take (pre := [.blk g7 _ _, .blk g6 _ _, .own A _ _ _ _ _, .blk g1 _ _, .blk g2 _ _, .blk g _ _, .own D _ _ _ _ _]) Take.found
    exact h3
  case body =>
    clear hS
    rintro r pre x rest _ Γ' w o hx rfl hS
    obtain ⟨hpl, hxn⟩ := range_mid hx
    simp only [List.cons_append, List.nil_append] at hS
    dsimp only [Env.params]
    (refine Reach.walkG ?_; (repeat (first | ((with_reducible refine AllSt.mk ?_); (try clear hS); intro w hS) | ((with_reducible refine AllVw.mk ?_); intro V hV))))
    refine ⟨rfl, _, hS, ?_⟩
    clear hS
    intro w o' hS
    have hpx : (pre ++ [x]).length = x + 1 := by simp [hpl]
    have hst : bestN l (x + 1) = if stG l x = 1 ∧ lessB l x (bestN l x) = true then some x else bestN l x := rfl
    have hfb := hf _ (getD_memB hxn)
    have hlt := @bestN_lt l x
    rw [hpl] at hS
    have hlk : Look (.obj r o' :: .blk g7 3 [.int .i64 (atV (bestN l x))] :: .blk g6 61 [bestV A (bestN l x)] :: .own A l.length cb 60 2 (kv l) :: Γ') ((adr A).add (0 + x * 2 + 0)) (.int .i64 (stG l x : Int)) :=
      .there (.there (.there (Look.own (kv_st' hxn))))
    have hlk2 : Look (.obj r o' :: .blk g7 3 [.int .i64 (atV (bestN l x))] :: .blk g6 61 [bestV A (bestN l x)] :: .own A l.length cb 60 2 (kv l) :: Γ') ((adr A).add (0 + x * 2 + 1)) (.int .u32 (erG l x : Int)) :=
      .there (.there (.there (Look.own (kv_er' hxn))))
    have hlk3 : ∀ b, b < x → Look (.obj r o' :: .blk g7 3 [.int .i64 (atV (bestN l x))] :: .blk g6 61 [bestV A (bestN l x)] :: .own A l.length cb 60 2 (kv l) :: Γ') ((adr A).add (0 + b * 2 + 1)) (.int .u32 (erG l b : Int)) :=
      fun b hb => .there (.there (.there (Look.own (kv_er' (by omega)))))
    generalize hcN : bestN l (x + 1) = oN at *
    generalize bestN l x = o0 at *
    by_cases h1 : stG l x = 1
    rotate_left
    · rw [if_neg (fun h => h1 h.1)] at hst
      generalize stG l x = st at *
      (refine Reach.walkG ?_; (repeat (first | ((with_reducible refine AllSt.mk ?_); (try clear hS); intro w hS) | ((with_reducible refine AllVw.mk ?_); intro V hV))))
      (refine WpG.drawD 20 (by kernel_rfl) (by kernel_rfl) rfl ?_; dsimp only [List.take, List.drop])
      (refine Reach.rwalk ?_; (repeat (first | ((with_reducible refine AllSt.mk ?_); (try clear hS); intro w hS) | ((with_reducible refine AllVw.mk ?_); intro V hV))))
      (refine RgD.fin0 fun w hb => ?_; replace hS := hS.below hb; clear hb)
      (refine Reach.walkG ?_; (repeat (first | ((with_reducible refine AllSt.mk ?_); (try clear hS); intro w hS) | ((with_reducible refine AllVw.mk ?_); intro V hV))))
      rw [← hst] at hS
      exact roundD.go (Lc' := [_, _, _]) (by rw [hpx, hcN]) hS
    rw [h1] at hlk
    cases o0 with
    | none =>
      rw [if_pos ⟨h1, rfl⟩] at hst
      dsimp only [atV, bestV] at *
      (refine Reach.walkG ?_; (repeat (first | ((with_reducible refine AllSt.mk ?_); (try clear hS); intro w hS) | ((with_reducible refine AllVw.mk ?_); intro V hV))))
      (refine WpG.drawD 20 (by kernel_rfl) (by kernel_rfl) rfl ?_; dsimp only [List.take, List.drop])
      (refine Reach.rwalk ?_; (repeat (first | ((with_reducible refine AllSt.mk ?_); (try clear hS); intro w hS) | ((with_reducible refine AllVw.mk ?_); intro V hV))))
      (refine RgD.fin0 fun w hb => ?_; replace hS := hS.below hb; clear hb)
      (refine Reach.walkG ?_; (repeat (first | ((with_reducible refine AllSt.mk ?_); (try clear hS); intro w hS) | ((with_reducible refine AllVw.mk ?_); intro V hV))))
      exact roundD.go (Lc' := [_, _, _]) (by rw [hpx, hcN, hst]) hS
    | some b =>
      have hb := (hlt rfl).1
      have hlk4 := hlk3 b hb
      clear hlk3
      dsimp only [atV, bestV] at *
      by_cases hless : erG l x < erG l b
      · rw [if_pos ⟨h1, decide_eq_true hless⟩] at hst
        generalize erG l x = ex at *
        generalize erG l b = eb at *
        (refine Reach.walkG ?_; (repeat (first | ((with_reducible refine AllSt.mk ?_); (try clear hS); intro w hS) | ((with_reducible refine AllVw.mk ?_); intro V hV))))
        (refine WpG.drawD 20 (by kernel_rfl) (by kernel_rfl) rfl ?_; dsimp only [List.take, List.drop])
        (refine Reach.rwalk ?_; (repeat (first | ((with_reducible refine AllSt.mk ?_); (try clear hS); intro w hS) | ((with_reducible refine AllVw.mk ?_); intro V hV))))
        (refine RgD.fin0 fun w hb => ?_; replace hS := hS.below hb; clear hb)
        (refine Reach.walkG ?_; (repeat (first | ((with_reducible refine AllSt.mk ?_); (try clear hS); intro w hS) | ((with_reducible refine AllVw.mk ?_); intro V hV))))
        exact roundD.go (Lc' := [_, _, _]) (by rw [hpx, hcN, hst]) hS
      · rw [if_neg (fun h => hless (of_decide_eq_true h.2))] at hst
        generalize erG l x = ex at *
        generalize erG l b = eb at *
        (refine Reach.walkG ?_; (repeat (first | ((with_reducible refine AllSt.mk ?_); (try clear hS); intro w hS) | ((with_reducible refine AllVw.mk ?_); intro V hV))))
        (refine WpG.drawD 20 (by kernel_rfl) (by kernel_rfl) rfl ?_; dsimp only [List.take, List.drop])
        (refine Reach.rwalk ?_; (repeat (first | ((with_reducible refine AllSt.mk ?_); (try clear hS); intro w hS) | ((with_reducible refine AllVw.mk ?_); intro V hV))))
        (refine RgD.fin0 fun w hb => ?_; replace hS := hS.below hb; clear hb)
        (refine Reach.walkG ?_; (repeat (first | ((with_reducible refine AllSt.mk ?_); (try clear hS); intro w hS) | ((with_reducible refine AllVw.mk ?_); intro V hV))))
        exact roundD.go (Lc' := [_, _, _]) (by rw [hpx, hcN, hst]) hS
  case done =>
    clear hS
    rintro D' _ w rfl hS
    simp only [List.cons_append, List.nil_append] at hS
    rw [List.length_range] at hS
    unfold takeL
    have hlt := @bestN_lt l l.length
    generalize bestN l l.length = o at *
    cases o with
    | none =>
      dsimp only [atV, bestV] at *
      (refine Reach.walkG ?_; (repeat (first | ((with_reducible refine AllSt.mk ?_); (try clear hS); intro w hS) | ((with_reducible refine AllVw.mk ?_); intro V hV))))
      refine leaveG_mark hS fun w hS => leaveG_nil ?_
      (with_reducible apply doneQ_two Try.results11); (· exact slotFound); (· exact slotFound)
      (replace hS := (hS.take (pre := [.blk g _ _, .own D _ _ _ _ _, .own A _ _ _ _ _]) Take.found); (try simp only [List.cons_append, List.nil_append] at hS))
      exact ⟨rfl, hS.sub (.cons_cons _ (.cons_cons _ (.cons_cons _ (sub4 _))))⟩
    | some b =>
      have hb := (hlt rfl).1
      dsimp only [atV, bestV] at *
      have hup : Upd (.obj D' (.deferred (some [])) :: .blk g7 3 [.int .i64 (b : Int)] :: .blk g6 61 [.pointer (some ((adr A).add (0 + b * 2)))] :: .own A l.length cb 60 2 (kv l) :: .blk g1 24 [.pointer (some ⟨g, 0, none⟩)] :: .blk g2 3 [.int .i64 (d : Int)] :: .blk g 56 [.slice D nd cd] :: .own D nd cd 57 1 rows :: L)
          ((adr A).add (0 + b * 2 + 0)) (.int .i64 2) (.obj D' (.deferred (some [])) :: .blk g7 3 [.int .i64 (b : Int)] :: .blk g6 61 [.pointer (some ((adr A).add (0 + b * 2)))] :: .own A l.length cb 60 2 (kv (l.set b ⟨2, erG l b⟩)) :: .blk g1 24 [.pointer (some ⟨g, 0, none⟩)] :: .blk g2 3 [.int .i64 (d : Int)] :: .blk g 56 [.slice D nd cd] :: .own D nd cd 57 1 rows :: L) :=
        .there (.there (.there (Upd.own (by rw [kv_length]; omega) (kv_set_st' 2 hb))))
      unfold poolP at *
      (refine Reach.walkG ?_; (repeat (first | ((with_reducible refine AllSt.mk ?_); (try clear hS); intro w hS) | ((with_reducible refine AllVw.mk ?_); intro V hV))))
      refine leaveG_mark hS fun w hS => leaveG_nil ?_
      (with_reducible apply doneQ_two Try.results11); (· exact slotFound); (· exact slotFound)
      (replace hS := (hS.take (pre := [.blk g _ _, .own D _ _ _ _ _, .own A _ _ _ _ _]) Take.found); (try simp only [List.cons_append, List.nil_append] at hS))
      exact ⟨rfl, hS.sub (.cons_cons _ (.cons_cons _ (.cons_cons _ (sub4 _))))⟩
  case stop => rintro D' c pre Lc w h; exact h.elim
end
end Go.Proofs.Ytaapnfoimcccjaa
