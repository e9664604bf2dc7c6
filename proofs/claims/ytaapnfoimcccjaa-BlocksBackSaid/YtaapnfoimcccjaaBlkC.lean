/-
  One block of a die: its state, its erases; turns. What is out of range.
-/
import Derived.Test.YtaapnfoimcccjaaBlkB
namespace Go.Proofs.Ytaapnfoimcccjaa
open Go.Fk Go.RowKit
attribute [local irreducible] Wp WpL Det thenQ blockQ WpG thenD blockG
def stAt (l : List Bk) (n : Int) : Nat := if 0 ≤ n ∧ n < l.length then (l.getD n.toNat ⟨0, 0⟩).st else 0
def erAt (l : List Bk) (n : Int) : Nat := if 0 ≤ n ∧ n < l.length then (l.getD n.toNat ⟨0, 0⟩).er else 0
/-- The erases fit. -/
def Fit (l : List Bk) : Prop := ∀ b ∈ l, b.er < 4294967296 ∧ b.st < 256
theorem getD_memB {l : List Bk} {i : Nat} (h : i < l.length) : l.getD i ⟨0, 0⟩ ∈ l := by
  rw [List.getD_eq_getElem?_getD, List.getElem?_eq_getElem h]
  exact List.getElem_mem _
theorem getD_getB {l : List Bk} {i : Nat} (h : i < l.length) : l[i] = l.getD i ⟨0, 0⟩ := by rw [List.getD_eq_getElem?_getD, List.getElem?_eq_getElem h]; rfl
theorem kv_st' {l : List Bk} {i : Nat} (h : i < l.length) : (kv l)[0 + i * 2 + 0]? = some (.int .i64 ((l.getD i ⟨0, 0⟩).st : Int)) := by
  rw [Nat.zero_add, Nat.add_zero, kv_st h, getD_getB h]
theorem kv_er' {l : List Bk} {i : Nat} (h : i < l.length) : (kv l)[0 + i * 2 + 1]? = some (.int .u32 ((l.getD i ⟨0, 0⟩).er : Int)) := by
  rw [Nat.zero_add, kv_er h, getD_getB h]
theorem kv_set_st' {l : List Bk} {i : Nat} (s : Nat) (h : i < l.length) : (kv l).set (0 + i * 2 + 0) (.int .i64 (s : Int)) = kv (l.set i ⟨s, (l.getD i ⟨0, 0⟩).er⟩) := by
  rw [Nat.zero_add, Nat.add_zero, kv_set_st s h, getD_getB h]
theorem kv_set_er' {l : List Bk} {i : Nat} (s : Nat) (h : i < l.length) : (kv l).set (0 + i * 2 + 1) (.int .u32 (s : Int)) = kv (l.set i ⟨(l.getD i ⟨0, 0⟩).st, s⟩) := by
  rw [Nat.zero_add, kv_set_er s h, getD_getB h]
abbrev poolC (g : Nat) (D : Option Addr) (nd cd : Nat) (rows : List Value) (A : Option Addr) (nb cb : Nat) (l : List Bk) (L : List Ch) : List Ch :=
  .blk g 56 [.slice D nd cd] :: .own D nd cd 57 1 rows :: .own A nb cb 60 2 (kv l) :: L
abbrev headsC (g : Nat) (D : Option Addr) (nd cd : Nat) (rows : List Value) (L : List Ch) : List Ch :=
  .blk g 56 [.slice D nd cd] :: .own D nd cd 57 1 rows :: L
section
variable {w w0 : World} {M : Nat → Prop} {L : List Ch} {g nd cd : Nat} {D : Option Addr} {rows : List Value}
theorem atO {d n : Int} (hD : IsVw D nd cd D 0) (hd : ¬ (0 ≤ d ∧ d < nd)) (hS : St w0 M w (headsC g D nd cd rows L)) :
    Calls Try.prog 29 #[.pointer (some ⟨g, 0, none⟩), .int .i64 d, .int .i64 n] w fun x w' => x = .returned (.pointer none) ∧ St w0 M w' (headsC g D nd cd rows L) := at_out hD hd hS
theorem atI {d : Nat} {n : Int} {A : Option Addr} {nb cb : Nat} {l : List Bk} (hD : IsVw D nd cd D 0) (hdn : d < nd) (hrow : rows[d]? = some (.slice A nb cb)) (hA : IsVw A nb cb A 0) (hnb : nb ≤ 1048576) (hnd : nd ≤ 1048576) (hS : St w0 M w (poolC g D nd cd rows A nb cb l L)) :
    Calls Try.prog 29 #[.pointer (some ⟨g, 0, none⟩), .int .i64 (d : Int), .int .i64 n] w fun x w' => x = .returned (atP A nb n) ∧ St w0 M w' (poolC g D nd cd rows A nb cb l L) := at_in hD hdn hrow hA hnb hnd hS

theorem stateO {d n : Int} (hD : IsVw D nd cd D 0) (hd : ¬ (0 ≤ d ∧ d < nd)) (hS : St w0 M w (headsC g D nd cd rows L)) :
    Calls Try.prog 25 #[.pointer (some ⟨g, 0, none⟩), .int .i64 d, .int .i64 n] w fun x w' => x = .returned (.int .i64 0) ∧ St w0 M w' (headsC g D nd cd rows L) := by
  (refine calls_of (P := Try.prog) _ Try.func25 rfl Try.ntmps25 (Nat.le_of_ble_eq_true rfl) ?_; dsimp only [argE, Nat.reduceAdd])
  (refine Reach.walk ?_; (repeat (first | ((with_reducible refine AllSt.mk ?_); (try clear hS); intro w hS) | ((with_reducible refine AllVw.mk ?_); intro V hV))))
  (with_reducible apply WpL.call); (· exact rfl); (· exact Try.call29); (· exact Vals.found)
  refine (atO hD hd hS).mono ?_
  clear hS
  rintro x w ⟨rfl, hS⟩
  refine ⟨_, rfl, ?_⟩
  (refine Reach.walk ?_; (repeat (first | ((with_reducible refine AllSt.mk ?_); (try clear hS); intro w hS) | ((with_reducible refine AllVw.mk ?_); intro V hV))))
  (with_reducible apply doneQ_one Try.results25); (· exact slotFound)
  exact ⟨rfl, hS⟩
theorem stateI {d : Nat} {n : Int} {A : Option Addr} {nb cb : Nat} {l : List Bk} (hl : l.length = nb) (hf : Fit l) (hD : IsVw D nd cd D 0) (hdn : d < nd) (hrow : rows[d]? = some (.slice A nb cb)) (hA : IsVw A nb cb A 0) (hnb : nb ≤ 1048576) (hnd : nd ≤ 1048576) (hS : St w0 M w (poolC g D nd cd rows A nb cb l L)) :
    Calls Try.prog 25 #[.pointer (some ⟨g, 0, none⟩), .int .i64 (d : Int), .int .i64 n] w fun x w' => x = .returned (.int .i64 (stAt l n : Nat)) ∧ St w0 M w' (poolC g D nd cd rows A nb cb l L) := by
  subst hl
  (refine calls_of (P := Try.prog) _ Try.func25 rfl Try.ntmps25 (Nat.le_of_ble_eq_true rfl) ?_; dsimp only [argE, Nat.reduceAdd])
  (refine Reach.walk ?_; (repeat (first | ((with_reducible refine AllSt.mk ?_); (try clear hS); intro w hS) | ((with_reducible refine AllVw.mk ?_); intro V hV))))
  (with_reducible apply WpL.call); (· exact rfl); (· exact Try.call29); (· exact Vals.found)
  refine (atI hD hdn hrow hA hnb hnd hS).mono ?_
  clear hS
  rintro x w ⟨rfl, hS⟩
  refine ⟨_, rfl, ?_⟩
  unfold atP stAt
  by_cases hin : 0 ≤ n ∧ n < l.length
  · rw [if_pos hin, if_pos hin]
    have hlt : n.toNat < l.length := by omega
    have hlk : Look (poolC g D nd cd rows A l.length cb l L) ((adr A).add (0 + n.toNat * 2 + 0)) (.int .i64 ((l.getD n.toNat ⟨0, 0⟩).st : Int)) := .there (.there (Look.own (kv_st' hlt)))
    have hfb := hf _ (getD_memB hlt)
    (refine Reach.walk ?_; (repeat (first | ((with_reducible refine AllSt.mk ?_); (try clear hS); intro w hS) | ((with_reducible refine AllVw.mk ?_); intro V hV))))
    (with_reducible apply doneQ_one Try.results25); (· exact slotFound)
    exact ⟨rfl, hS⟩
  · rw [if_neg hin, if_neg hin]
    (refine Reach.walk ?_; (repeat (first | ((with_reducible refine AllSt.mk ?_); (try clear hS); intro w hS) | ((with_reducible refine AllVw.mk ?_); intro V hV))))
    (with_reducible apply doneQ_one Try.results25); (· exact slotFound)
    exact ⟨rfl, hS⟩

theorem erasesO {d n : Int} (hD : IsVw D nd cd D 0) (hd : ¬ (0 ≤ d ∧ d < nd)) (hS : St w0 M w (headsC g D nd cd rows L)) :
    Calls Try.prog 26 #[.pointer (some ⟨g, 0, none⟩), .int .i64 d, .int .i64 n] w fun x w' => x = .returned (.int .i64 0) ∧ St w0 M w' (headsC g D nd cd rows L) := by
  (refine calls_of (P := Try.prog) _ Try.func26 rfl Try.ntmps26 (Nat.le_of_ble_eq_true rfl) ?_; dsimp only [argE, Nat.reduceAdd])
  (refine Reach.walk ?_; (repeat (first | ((with_reducible refine AllSt.mk ?_); (try clear hS); intro w hS) | ((with_reducible refine AllVw.mk ?_); intro V hV))))
  (with_reducible apply WpL.call); (· exact rfl); (· exact Try.call29); (· exact Vals.found)
  refine (atO hD hd hS).mono ?_
  clear hS
  rintro x w ⟨rfl, hS⟩
  refine ⟨_, rfl, ?_⟩
  (refine Reach.walk ?_; (repeat (first | ((with_reducible refine AllSt.mk ?_); (try clear hS); intro w hS) | ((with_reducible refine AllVw.mk ?_); intro V hV))))
  (with_reducible apply doneQ_one Try.results26); (· exact slotFound)
  exact ⟨rfl, hS⟩
theorem erasesI {d : Nat} {n : Int} {A : Option Addr} {nb cb : Nat} {l : List Bk} (hl : l.length = nb) (hf : Fit l) (hD : IsVw D nd cd D 0) (hdn : d < nd) (hrow : rows[d]? = some (.slice A nb cb)) (hA : IsVw A nb cb A 0) (hnb : nb ≤ 1048576) (hnd : nd ≤ 1048576) (hS : St w0 M w (poolC g D nd cd rows A nb cb l L)) :
    Calls Try.prog 26 #[.pointer (some ⟨g, 0, none⟩), .int .i64 (d : Int), .int .i64 n] w fun x w' => x = .returned (.int .i64 (erAt l n : Nat)) ∧ St w0 M w' (poolC g D nd cd rows A nb cb l L) := by
  subst hl
  (refine calls_of (P := Try.prog) _ Try.func26 rfl Try.ntmps26 (Nat.le_of_ble_eq_true rfl) ?_; dsimp only [argE, Nat.reduceAdd])
  (refine Reach.walk ?_; (repeat (first | ((with_reducible refine AllSt.mk ?_); (try clear hS); intro w hS) | ((with_reducible refine AllVw.mk ?_); intro V hV))))
  (with_reducible apply WpL.call); (· exact rfl); (· exact Try.call29); (· exact Vals.found)
  refine (atI hD hdn hrow hA hnb hnd hS).mono ?_
  clear hS
  rintro x w ⟨rfl, hS⟩
  refine ⟨_, rfl, ?_⟩
  unfold atP erAt
  by_cases hin : 0 ≤ n ∧ n < l.length
  · rw [if_pos hin, if_pos hin]
    have hlt : n.toNat < l.length := by omega
    have hlk : Look (poolC g D nd cd rows A l.length cb l L) ((adr A).add (0 + n.toNat * 2 + 1)) (.int .u32 ((l.getD n.toNat ⟨0, 0⟩).er : Int)) := .there (.there (Look.own (kv_er' hlt)))
    have hfb := hf _ (getD_memB hlt)
    (refine Reach.walk ?_; (repeat (first | ((with_reducible refine AllSt.mk ?_); (try clear hS); intro w hS) | ((with_reducible refine AllVw.mk ?_); intro V hV))))
    (with_reducible apply doneQ_one Try.results26); (· exact slotFound)
    exact ⟨rfl, hS⟩
  · rw [if_neg hin, if_neg hin]
    (refine Reach.walk ?_; (repeat (first | ((with_reducible refine AllSt.mk ?_); (try clear hS); intro w hS) | ((with_reducible refine AllVw.mk ?_); intro V hV))))
    (with_reducible apply doneQ_one Try.results26); (· exact slotFound)
    exact ⟨rfl, hS⟩
end
end Go.Proofs.Ytaapnfoimcccjaa
