/-
  Turns of one block of a die; its erases counted.
-/
import Derived.Test.YtaapnfoimcccjaaBlkC
namespace Go.Proofs.Ytaapnfoimcccjaa
open Go.Fk Go.RowKit
attribute [local irreducible] Wp WpL Det thenQ blockQ WpG thenD blockG
def turnL (l : List Bk) (n : Int) (to : Nat) (fs : List Int) : Int × List Bk :=
  if 0 ≤ n ∧ n < l.length then (if ((l.getD n.toNat ⟨0, 0⟩).st : Int) ∈ fs then (0, l.set n.toNat ⟨to, (l.getD n.toNat ⟨0, 0⟩).er⟩) else (71, l)) else (1, l)
def erasedL (l : List Bk) (n : Int) : Int × List Bk :=
  if 0 ≤ n ∧ n < l.length then (if (l.getD n.toNat ⟨0, 0⟩).st = 4 then (71, l) else if (l.getD n.toNat ⟨0, 0⟩).er < 4294967295 then (0, l.set n.toNat ⟨(l.getD n.toNat ⟨0, 0⟩).st, (l.getD n.toNat ⟨0, 0⟩).er + 1⟩) else (0, l)) else (1, l)
theorem turnL_len (l : List Bk) (n : Int) (to : Nat) (fs : List Int) : (turnL l n to fs).2.length = l.length := by
  unfold turnL
  split
  · split <;> simp
  · rfl
theorem erasedL_len (l : List Bk) (n : Int) : (erasedL l n).2.length = l.length := by
  unfold erasedL
  split
  · split
    · rfl
    · split <;> simp
  · rfl
theorem Fit.set {l : List Bk} (h : Fit l) (i : Nat) {b : Bk} (hb : b.er < 4294967296 ∧ b.st < 256) : Fit (l.set i b) := fun x hx => by
  rcases List.mem_or_eq_of_mem_set hx with hx | rfl
  · exact h x hx
  · exact hb
theorem Fit.turn {l : List Bk} (h : Fit l) (n : Int) {to : Nat} (ht : to < 256) (fs : List Int) : Fit (turnL l n to fs).2 := by
  unfold turnL
  split
  · rename_i hin
    split
    · exact h.set _ ⟨(h _ (getD_memB (by omega))).1, ht⟩
    · exact h
  · exact h
theorem Fit.erased {l : List Bk} (h : Fit l) (n : Int) : Fit (erasedL l n).2 := by
  unfold erasedL
  split
  · rename_i hin
    have hb := h _ (getD_memB (show n.toNat < l.length by omega))
    split
    · exact h
    · split
      · rename_i hlt
        exact h.set _ ⟨by show _ + 1 < _; omega, hb.2⟩
      · exact h
  · exact h
section
variable {w w0 : World} {M : Nat → Prop} {L : List Ch} {g nd cd : Nat} {D : Option Addr} {rows : List Value}
theorem turnO {d n to : Int} {F : Option Addr} {fs : List Int} {kf : Nat} (hD : IsVw D nd cd D 0) (hd : ¬ (0 ≤ d ∧ d < nd)) (hS : St w0 M w (headsC g D nd cd rows (.own F fs.length kf 3 1 (zv fs) :: L))) :
    Calls Try.prog 31 #[.pointer (some ⟨g, 0, none⟩), .int .i64 d, .int .i64 n, .int .i64 to, .slice F fs.length kf] w fun x w' => x = .returned (.int .i64 1) ∧ St w0 M w' (headsC g D nd cd rows L) := by
  (refine calls_of (P := Try.prog) _ Try.func31 rfl Try.ntmps31 (Nat.le_of_ble_eq_true rfl) ?_; dsimp only [argE, Nat.reduceAdd])
  (refine Reach.walk ?_; (repeat (first | ((with_reducible refine AllSt.mk ?_); (try clear hS); intro w hS) | ((with_reducible refine AllVw.mk ?_); intro V hV))))
  (with_reducible apply WpL.call); (· exact rfl); (· exact Try.call29); (· exact Vals.found)
  refine (atO hD hd hS).mono ?_
  clear hS
  rintro x w ⟨rfl, hS⟩
  refine ⟨_, rfl, ?_⟩
  (refine Reach.walk ?_; (repeat (first | ((with_reducible refine AllSt.mk ?_); (try clear hS); intro w hS) | ((with_reducible refine AllVw.mk ?_); intro V hV))))
  (with_reducible apply doneQ_one Try.results31); (· exact slotFound)
  exact ⟨rfl, hS.sub (.cons_cons _ (.cons_cons _ (List.sublist_cons_self _ _)))⟩
theorem turnI {d to : Nat} {n : Int} {A : Option Addr} {nb cb : Nat} {l : List Bk} {F : Option Addr} {fs : List Int} {kf : Nat} (hF : IsVw F fs.length kf F 0) (hfl : fs.length ≤ 1000) (hl : l.length = nb) (hf : Fit l) (hD : IsVw D nd cd D 0) (hdn : d < nd) (hrow : rows[d]? = some (.slice A nb cb)) (hA : IsVw A nb cb A 0) (hnb : nb ≤ 1048576) (hnd : nd ≤ 1048576)
    (hS : St w0 M w (poolC g D nd cd rows A nb cb l (.own F fs.length kf 3 1 (zv fs) :: L))) :
    Calls Try.prog 31 #[.pointer (some ⟨g, 0, none⟩), .int .i64 (d : Int), .int .i64 n, .int .i64 (to : Int), .slice F fs.length kf] w fun x w' => x = .returned (.int .i64 (turnL l n to fs).1) ∧ St w0 M w' (poolC g D nd cd rows A nb cb (turnL l n to fs).2 L) := by
  subst hl
  (refine calls_of (P := Try.prog) _ Try.func31 rfl Try.ntmps31 (Nat.le_of_ble_eq_true rfl) ?_; dsimp only [argE, Nat.reduceAdd])
  (refine Reach.walk ?_; (repeat (first | ((with_reducible refine AllSt.mk ?_); (try clear hS); intro w hS) | ((with_reducible refine AllVw.mk ?_); intro V hV))))
  (with_reducible apply WpL.call); (· exact rfl); (· exact Try.call29); (· exact Vals.found)
  refine (atI hD hdn hrow hA hnb hnd hS).mono ?_
  clear hS
  rintro x w ⟨rfl, hS⟩
  refine ⟨_, rfl, ?_⟩
  unfold atP turnL
  by_cases hin : 0 ≤ n ∧ n < l.length
  rotate_left
  · rw [if_neg hin, if_neg hin]
    (refine Reach.walk ?_; (repeat (first | ((with_reducible refine AllSt.mk ?_); (try clear hS); intro w hS) | ((with_reducible refine AllVw.mk ?_); intro V hV))))
    (with_reducible apply doneQ_one Try.results31); (· exact slotFound)
    exact ⟨rfl, hS.sub (.cons_cons _ (.cons_cons _ (.cons_cons _ (List.sublist_cons_self _ _))))⟩
  rw [if_pos hin, if_pos hin]
  have hlt : n.toNat < l.length := by omega
  have hlk : Look (poolC g D nd cd rows A l.length cb l (.own F fs.length kf 3 1 (zv fs) :: L)) ((adr A).add (0 + n.toNat * 2 + 0)) (.int .i64 ((l.getD n.toNat ⟨0, 0⟩).st : Int)) := .there (.there (Look.own (kv_st' hlt)))
  have hup : Upd (poolC g D nd cd rows A l.length cb l (.own F fs.length kf 3 1 (zv fs) :: L)) ((adr A).add (0 + n.toNat * 2 + 0)) (.int .i64 (to : Int)) (poolC g D nd cd rows A l.length cb (l.set n.toNat ⟨to, (l.getD n.toNat ⟨0, 0⟩).er⟩) (.own F fs.length kf 3 1 (zv fs) :: L)) :=
    .there (.there (Upd.own (by rw [kv_length]; omega) (kv_set_st' to hlt)))
  generalize (l.getD n.toNat ⟨0, 0⟩).st = s at *
  generalize (l.getD n.toNat ⟨0, 0⟩).er = r at *
  (refine Reach.walk ?_; (repeat (first | ((with_reducible refine AllSt.mk ?_); (try clear hS); intro w hS) | ((with_reducible refine AllVw.mk ?_); intro V hV))))
  apply Wp.loopUp fs.length (fun j e w' => (∀ i, i < j → fs.getD i 0 ≠ (s : Int)) ∧ St w0 M w' (poolC g D nd cd rows A l.length cb l (.own F fs.length kf 3 1 (zv fs) :: L)) ∧
      e.Has [(22, .int .i64 (j : Nat)), (21, .int .i64 (fs.length : Nat)), (20, .slice F fs.length kf), (11, .pointer (some ((adr A).add (0 + n.toNat * 2)))), (3, .int .i64 (to : Nat))]) (Nat.zero_le _)
    ⟨fun i h => absurd h (Nat.not_lt_zero _), hS, rfl, rfl, rfl, rfl, rfl, trivial⟩
  clear hS
  rintro j e w hj ⟨hno, hS, he⟩
  obtain ⟨e0, rfl⟩ := he.eq
  clear he
  dsimp only [Env.sets]
  by_cases hlj : j < fs.length
  · have hmem : fs.getD j 0 ∈ fs := by rw [List.getD_eq_getElem?_getD, List.getElem?_eq_getElem hlj]; exact List.getElem_mem _
    generalize hv : fs.getD j 0 = v at *
    (refine Reach.walk ?_; (repeat (first | ((with_reducible refine AllSt.mk ?_); (try clear hS); intro w hS) | ((with_reducible refine AllVw.mk ?_); intro V hV))))
    rw [hv]
    by_cases heq : (s : Int) = v
    · rw [if_pos (heq ▸ hmem)]
      (refine Reach.walk ?_; (repeat (first | ((with_reducible refine AllSt.mk ?_); (try clear hS); intro w hS) | ((with_reducible refine AllVw.mk ?_); intro V hV))))
      (with_reducible apply doneQ_one Try.results31); (· exact slotFound)
      exact ⟨rfl, hS.sub (.cons_cons _ (.cons_cons _ (.cons_cons _ (List.sublist_cons_self _ _))))⟩
    · (refine Reach.walk ?_; (repeat (first | ((with_reducible refine AllSt.mk ?_); (try clear hS); intro w hS) | ((with_reducible refine AllVw.mk ?_); intro V hV))))
      refine ⟨hlj, fun i hi => ?_, hS, int_eq (by omega), rfl, rfl, rfl, rfl, trivial⟩
      rcases Nat.lt_or_ge i j with h | h
      · exact hno i h
      · obtain rfl : i = j := by omega
        rw [hv]; exact fun h => heq h.symm
  · obtain rfl : j = fs.length := by omega
    rw [if_neg (fun h => by
      obtain ⟨i, hi, h2⟩ := List.getElem_of_mem h
      refine hno i hi ?_
      rw [List.getD_eq_getElem?_getD, List.getElem?_eq_getElem hi]; exact h2)]
    (refine Reach.walk ?_; (repeat (first | ((with_reducible refine AllSt.mk ?_); (try clear hS); intro w hS) | ((with_reducible refine AllVw.mk ?_); intro V hV))))
    (with_reducible apply doneQ_one Try.results31); (· exact slotFound)
    exact ⟨rfl, hS.sub (.cons_cons _ (.cons_cons _ (.cons_cons _ (List.sublist_cons_self _ _))))⟩

theorem holdO {d n : Int} (hD : IsVw D nd cd D 0) (hd : ¬ (0 ≤ d ∧ d < nd)) (hS : St w0 M w (headsC g D nd cd rows L)) :
    Calls Try.prog 21 #[.pointer (some ⟨g, 0, none⟩), .int .i64 d, .int .i64 n] w fun x w' => x = .returned (.int .i64 1) ∧ St w0 M w' (headsC g D nd cd rows L) := by
  (refine calls_of (P := Try.prog) _ Try.func21 rfl Try.ntmps21 (Nat.le_of_ble_eq_true rfl) ?_; dsimp only [argE, Nat.reduceAdd])
  (refine Reach.walk ?_; (repeat (first | ((with_reducible refine AllSt.mk ?_); (try clear hS); intro w hS) | ((with_reducible refine AllVw.mk ?_); intro V hV))))
  ((with_reducible apply WpL.bs); (· assumption); (· exact rfl); (· exact BVals.found); (· exact oneAll_spec rfl); (· exact rfl); (· decide); (· exact listFound); clear hS)
  intro F w hF hS
  (refine Reach.walk ?_; (repeat (first | ((with_reducible refine AllSt.mk ?_); (try clear hS); intro w hS) | ((with_reducible refine AllVw.mk ?_); intro V hV))))
  (replace hS := (hS.take (pre := [.blk g _ _, .own D _ _ _ _ _, .own F _ _ _ _ _]) Take.found); (try simp only [List.cons_append, List.nil_append] at hS))
  (with_reducible apply WpL.call); (· exact rfl); (· exact Try.call31); (· exact Vals.found)
  refine (turnO (fs := [1]) hD hd hS).mono ?_
  clear hS
  rintro x w ⟨rfl, hS⟩
  refine ⟨_, rfl, ?_⟩
  (refine Reach.walk ?_; (repeat (first | ((with_reducible refine AllSt.mk ?_); (try clear hS); intro w hS) | ((with_reducible refine AllVw.mk ?_); intro V hV))))
  (with_reducible apply doneQ_one Try.results21); (· exact slotFound)
  exact ⟨rfl, hS⟩
theorem holdI {d : Nat} {n : Int} {A : Option Addr} {nb cb : Nat} {l : List Bk} (hl : l.length = nb) (hf : Fit l) (hD : IsVw D nd cd D 0) (hdn : d < nd) (hrow : rows[d]? = some (.slice A nb cb)) (hA : IsVw A nb cb A 0) (hnb : nb ≤ 1048576) (hnd : nd ≤ 1048576) (hS : St w0 M w (poolC g D nd cd rows A nb cb l L)) :
    Calls Try.prog 21 #[.pointer (some ⟨g, 0, none⟩), .int .i64 (d : Int), .int .i64 n] w fun x w' => x = .returned (.int .i64 (turnL l n 2 [1]).1) ∧ St w0 M w' (poolC g D nd cd rows A nb cb (turnL l n 2 [1]).2 L) := by
  (refine calls_of (P := Try.prog) _ Try.func21 rfl Try.ntmps21 (Nat.le_of_ble_eq_true rfl) ?_; dsimp only [argE, Nat.reduceAdd])
  (refine Reach.walk ?_; (repeat (first | ((with_reducible refine AllSt.mk ?_); (try clear hS); intro w hS) | ((with_reducible refine AllVw.mk ?_); intro V hV))))
  ((with_reducible apply WpL.bs); (· assumption); (· exact rfl); (· exact BVals.found); (· exact oneAll_spec rfl); (· exact rfl); (· decide); (· exact listFound); clear hS)
  intro F w hF hS
  (refine Reach.walk ?_; (repeat (first | ((with_reducible refine AllSt.mk ?_); (try clear hS); intro w hS) | ((with_reducible refine AllVw.mk ?_); intro V hV))))
  (replace hS := (hS.take (pre := [.blk g _ _, .own D _ _ _ _ _, .own A _ _ _ _ _, .own F _ _ _ _ _]) Take.found); (try simp only [List.cons_append, List.nil_append] at hS))
  (with_reducible apply WpL.call); (· exact rfl); (· exact Try.call31); (· exact Vals.found)
  refine (turnI (to := 2) (fs := [1]) hF (by decide) hl hf hD hdn hrow hA hnb hnd hS).mono ?_
  clear hS
  rintro x w ⟨rfl, hS⟩
  refine ⟨_, rfl, ?_⟩
  (refine Reach.walk ?_; (repeat (first | ((with_reducible refine AllSt.mk ?_); (try clear hS); intro w hS) | ((with_reducible refine AllVw.mk ?_); intro V hV))))
  (with_reducible apply doneQ_one Try.results21); (· exact slotFound)
  exact ⟨rfl, hS⟩

theorem closeO {d n : Int} (hD : IsVw D nd cd D 0) (hd : ¬ (0 ≤ d ∧ d < nd)) (hS : St w0 M w (headsC g D nd cd rows L)) :
    Calls Try.prog 19 #[.pointer (some ⟨g, 0, none⟩), .int .i64 d, .int .i64 n] w fun x w' => x = .returned (.int .i64 1) ∧ St w0 M w' (headsC g D nd cd rows L) := by
  (refine calls_of (P := Try.prog) _ Try.func19 rfl Try.ntmps19 (Nat.le_of_ble_eq_true rfl) ?_; dsimp only [argE, Nat.reduceAdd])
  (refine Reach.walk ?_; (repeat (first | ((with_reducible refine AllSt.mk ?_); (try clear hS); intro w hS) | ((with_reducible refine AllVw.mk ?_); intro V hV))))
  ((with_reducible apply WpL.bs); (· assumption); (· exact rfl); (· exact BVals.found); (· exact oneAll_spec rfl); (· exact rfl); (· decide); (· exact listFound); clear hS)
  intro F w hF hS
  (refine Reach.walk ?_; (repeat (first | ((with_reducible refine AllSt.mk ?_); (try clear hS); intro w hS) | ((with_reducible refine AllVw.mk ?_); intro V hV))))
  (replace hS := (hS.take (pre := [.blk g _ _, .own D _ _ _ _ _, .own F _ _ _ _ _]) Take.found); (try simp only [List.cons_append, List.nil_append] at hS))
  (with_reducible apply WpL.call); (· exact rfl); (· exact Try.call31); (· exact Vals.found)
  refine (turnO (fs := [2]) hD hd hS).mono ?_
  clear hS
  rintro x w ⟨rfl, hS⟩
  refine ⟨_, rfl, ?_⟩
  (refine Reach.walk ?_; (repeat (first | ((with_reducible refine AllSt.mk ?_); (try clear hS); intro w hS) | ((with_reducible refine AllVw.mk ?_); intro V hV))))
  (with_reducible apply doneQ_one Try.results19); (· exact slotFound)
  exact ⟨rfl, hS⟩
theorem closeI {d : Nat} {n : Int} {A : Option Addr} {nb cb : Nat} {l : List Bk} (hl : l.length = nb) (hf : Fit l) (hD : IsVw D nd cd D 0) (hdn : d < nd) (hrow : rows[d]? = some (.slice A nb cb)) (hA : IsVw A nb cb A 0) (hnb : nb ≤ 1048576) (hnd : nd ≤ 1048576) (hS : St w0 M w (poolC g D nd cd rows A nb cb l L)) :
    Calls Try.prog 19 #[.pointer (some ⟨g, 0, none⟩), .int .i64 (d : Int), .int .i64 n] w fun x w' => x = .returned (.int .i64 (turnL l n 3 [2]).1) ∧ St w0 M w' (poolC g D nd cd rows A nb cb (turnL l n 3 [2]).2 L) := by
  (refine calls_of (P := Try.prog) _ Try.func19 rfl Try.ntmps19 (Nat.le_of_ble_eq_true rfl) ?_; dsimp only [argE, Nat.reduceAdd])
  (refine Reach.walk ?_; (repeat (first | ((with_reducible refine AllSt.mk ?_); (try clear hS); intro w hS) | ((with_reducible refine AllVw.mk ?_); intro V hV))))
  ((with_reducible apply WpL.bs); (· assumption); (· exact rfl); (· exact BVals.found); (· exact oneAll_spec rfl); (· exact rfl); (· decide); (· exact listFound); clear hS)
  intro F w hF hS
  (refine Reach.walk ?_; (repeat (first | ((with_reducible refine AllSt.mk ?_); (try clear hS); intro w hS) | ((with_reducible refine AllVw.mk ?_); intro V hV))))
  (replace hS := (hS.take (pre := [.blk g _ _, .own D _ _ _ _ _, .own A _ _ _ _ _, .own F _ _ _ _ _]) Take.found); (try simp only [List.cons_append, List.nil_append] at hS))
  (with_reducible apply WpL.call); (· exact rfl); (· exact Try.call31); (· exact Vals.found)
  refine (turnI (to := 3) (fs := [2]) hF (by decide) hl hf hD hdn hrow hA hnb hnd hS).mono ?_
  clear hS
  rintro x w ⟨rfl, hS⟩
  refine ⟨_, rfl, ?_⟩
  (refine Reach.walk ?_; (repeat (first | ((with_reducible refine AllSt.mk ?_); (try clear hS); intro w hS) | ((with_reducible refine AllVw.mk ?_); intro V hV))))
  (with_reducible apply doneQ_one Try.results19); (· exact slotFound)
  exact ⟨rfl, hS⟩

theorem freeO {d n : Int} (hD : IsVw D nd cd D 0) (hd : ¬ (0 ≤ d ∧ d < nd)) (hS : St w0 M w (headsC g D nd cd rows L)) :
    Calls Try.prog 13 #[.pointer (some ⟨g, 0, none⟩), .int .i64 d, .int .i64 n] w fun x w' => x = .returned (.int .i64 1) ∧ St w0 M w' (headsC g D nd cd rows L) := by
  (refine calls_of (P := Try.prog) _ Try.func13 rfl Try.ntmps13 (Nat.le_of_ble_eq_true rfl) ?_; dsimp only [argE, Nat.reduceAdd])
  (refine Reach.walk ?_; (repeat (first | ((with_reducible refine AllSt.mk ?_); (try clear hS); intro w hS) | ((with_reducible refine AllVw.mk ?_); intro V hV))))
  ((with_reducible apply WpL.bs); (· assumption); (· exact rfl); (· exact BVals.found); (· exact oneAll_spec rfl); (· exact rfl); (· decide); (· exact listFound); clear hS)
  intro F w hF hS
  (refine Reach.walk ?_; (repeat (first | ((with_reducible refine AllSt.mk ?_); (try clear hS); intro w hS) | ((with_reducible refine AllVw.mk ?_); intro V hV))))
  (replace hS := (hS.take (pre := [.blk g _ _, .own D _ _ _ _ _, .own F _ _ _ _ _]) Take.found); (try simp only [List.cons_append, List.nil_append] at hS))
  (with_reducible apply WpL.call); (· exact rfl); (· exact Try.call31); (· exact Vals.found)
  refine (turnO (fs := [2, 3]) hD hd hS).mono ?_
  clear hS
  rintro x w ⟨rfl, hS⟩
  refine ⟨_, rfl, ?_⟩
  (refine Reach.walk ?_; (repeat (first | ((with_reducible refine AllSt.mk ?_); (try clear hS); intro w hS) | ((with_reducible refine AllVw.mk ?_); intro V hV))))
  (with_reducible apply doneQ_one Try.results13); (· exact slotFound)
  exact ⟨rfl, hS⟩
theorem freeI {d : Nat} {n : Int} {A : Option Addr} {nb cb : Nat} {l : List Bk} (hl : l.length = nb) (hf : Fit l) (hD : IsVw D nd cd D 0) (hdn : d < nd) (hrow : rows[d]? = some (.slice A nb cb)) (hA : IsVw A nb cb A 0) (hnb : nb ≤ 1048576) (hnd : nd ≤ 1048576) (hS : St w0 M w (poolC g D nd cd rows A nb cb l L)) :
    Calls Try.prog 13 #[.pointer (some ⟨g, 0, none⟩), .int .i64 (d : Int), .int .i64 n] w fun x w' => x = .returned (.int .i64 (turnL l n 1 [2, 3]).1) ∧ St w0 M w' (poolC g D nd cd rows A nb cb (turnL l n 1 [2, 3]).2 L) := by
  (refine calls_of (P := Try.prog) _ Try.func13 rfl Try.ntmps13 (Nat.le_of_ble_eq_true rfl) ?_; dsimp only [argE, Nat.reduceAdd])
  (refine Reach.walk ?_; (repeat (first | ((with_reducible refine AllSt.mk ?_); (try clear hS); intro w hS) | ((with_reducible refine AllVw.mk ?_); intro V hV))))
  ((with_reducible apply WpL.bs); (· assumption); (· exact rfl); (· exact BVals.found); (· exact oneAll_spec rfl); (· exact rfl); (· decide); (· exact listFound); clear hS)
  intro F w hF hS
  (refine Reach.walk ?_; (repeat (first | ((with_reducible refine AllSt.mk ?_); (try clear hS); intro w hS) | ((with_reducible refine AllVw.mk ?_); intro V hV))))
  (replace hS := (hS.take (pre := [.blk g _ _, .own D _ _ _ _ _, .own A _ _ _ _ _, .own F _ _ _ _ _]) Take.found); (try simp only [List.cons_append, List.nil_append] at hS))
  (with_reducible apply WpL.call); (· exact rfl); (· exact Try.call31); (· exact Vals.found)
  refine (turnI (to := 1) (fs := [2, 3]) hF (by decide) hl hf hD hdn hrow hA hnb hnd hS).mono ?_
  clear hS
  rintro x w ⟨rfl, hS⟩
  refine ⟨_, rfl, ?_⟩
  (refine Reach.walk ?_; (repeat (first | ((with_reducible refine AllSt.mk ?_); (try clear hS); intro w hS) | ((with_reducible refine AllVw.mk ?_); intro V hV))))
  (with_reducible apply doneQ_one Try.results13); (· exact slotFound)
  exact ⟨rfl, hS⟩

theorem badO {d n : Int} (hD : IsVw D nd cd D 0) (hd : ¬ (0 ≤ d ∧ d < nd)) (hS : St w0 M w (headsC g D nd cd rows L)) :
    Calls Try.prog 16 #[.pointer (some ⟨g, 0, none⟩), .int .i64 d, .int .i64 n] w fun x w' => x = .returned (.int .i64 1) ∧ St w0 M w' (headsC g D nd cd rows L) := by
  (refine calls_of (P := Try.prog) _ Try.func16 rfl Try.ntmps16 (Nat.le_of_ble_eq_true rfl) ?_; dsimp only [argE, Nat.reduceAdd])
  (refine Reach.walk ?_; (repeat (first | ((with_reducible refine AllSt.mk ?_); (try clear hS); intro w hS) | ((with_reducible refine AllVw.mk ?_); intro V hV))))
  ((with_reducible apply WpL.bs); (· assumption); (· exact rfl); (· exact BVals.found); (· exact oneAll_spec rfl); (· exact rfl); (· decide); (· exact listFound); clear hS)
  intro F w hF hS
  (refine Reach.walk ?_; (repeat (first | ((with_reducible refine AllSt.mk ?_); (try clear hS); intro w hS) | ((with_reducible refine AllVw.mk ?_); intro V hV))))
  (replace hS := (hS.take (pre := [.blk g _ _, .own D _ _ _ _ _, .own F _ _ _ _ _]) Take.found); (try simp only [List.cons_append, List.nil_append] at hS))
  (with_reducible apply WpL.call); (· exact rfl); (· exact Try.call31); (· exact Vals.found)
  refine (turnO (fs := [1, 2, 3, 4]) hD hd hS).mono ?_
  clear hS
  rintro x w ⟨rfl, hS⟩
  refine ⟨_, rfl, ?_⟩
  (refine Reach.walk ?_; (repeat (first | ((with_reducible refine AllSt.mk ?_); (try clear hS); intro w hS) | ((with_reducible refine AllVw.mk ?_); intro V hV))))
  (with_reducible apply doneQ_one Try.results16); (· exact slotFound)
  exact ⟨rfl, hS⟩
theorem badI {d : Nat} {n : Int} {A : Option Addr} {nb cb : Nat} {l : List Bk} (hl : l.length = nb) (hf : Fit l) (hD : IsVw D nd cd D 0) (hdn : d < nd) (hrow : rows[d]? = some (.slice A nb cb)) (hA : IsVw A nb cb A 0) (hnb : nb ≤ 1048576) (hnd : nd ≤ 1048576) (hS : St w0 M w (poolC g D nd cd rows A nb cb l L)) :
    Calls Try.prog 16 #[.pointer (some ⟨g, 0, none⟩), .int .i64 (d : Int), .int .i64 n] w fun x w' => x = .returned (.int .i64 (turnL l n 4 [1, 2, 3, 4]).1) ∧ St w0 M w' (poolC g D nd cd rows A nb cb (turnL l n 4 [1, 2, 3, 4]).2 L) := by
  (refine calls_of (P := Try.prog) _ Try.func16 rfl Try.ntmps16 (Nat.le_of_ble_eq_true rfl) ?_; dsimp only [argE, Nat.reduceAdd])
  (refine Reach.walk ?_; (repeat (first | ((with_reducible refine AllSt.mk ?_); (try clear hS); intro w hS) | ((with_reducible refine AllVw.mk ?_); intro V hV))))
  ((with_reducible apply WpL.bs); (· assumption); (· exact rfl); (· exact BVals.found); (· exact oneAll_spec rfl); (· exact rfl); (· decide); (· exact listFound); clear hS)
  intro F w hF hS
  (refine Reach.walk ?_; (repeat (first | ((with_reducible refine AllSt.mk ?_); (try clear hS); intro w hS) | ((with_reducible refine AllVw.mk ?_); intro V hV))))
  (replace hS := (hS.take (pre := [.blk g _ _, .own D _ _ _ _ _, .own A _ _ _ _ _, .own F _ _ _ _ _]) Take.found); (try simp only [List.cons_append, List.nil_append] at hS))
  (with_reducible apply WpL.call); (· exact rfl); (· exact Try.call31); (· exact Vals.found)
  refine (turnI (to := 4) (fs := [1, 2, 3, 4]) hF (by decide) hl hf hD hdn hrow hA hnb hnd hS).mono ?_
  clear hS
  rintro x w ⟨rfl, hS⟩
  refine ⟨_, rfl, ?_⟩
  (refine Reach.walk ?_; (repeat (first | ((with_reducible refine AllSt.mk ?_); (try clear hS); intro w hS) | ((with_reducible refine AllVw.mk ?_); intro V hV))))
  (with_reducible apply doneQ_one Try.results16); (· exact slotFound)
  exact ⟨rfl, hS⟩

theorem erasedO {d n : Int} (hD : IsVw D nd cd D 0) (hd : ¬ (0 ≤ d ∧ d < nd)) (hS : St w0 M w (headsC g D nd cd rows L)) :
    Calls Try.prog 12 #[.pointer (some ⟨g, 0, none⟩), .int .i64 d, .int .i64 n] w fun x w' => x = .returned (.int .i64 1) ∧ St w0 M w' (headsC g D nd cd rows L) := by
  (refine calls_of (P := Try.prog) _ Try.func12 rfl Try.ntmps12 (Nat.le_of_ble_eq_true rfl) ?_; dsimp only [argE, Nat.reduceAdd])
  (refine Reach.walk ?_; (repeat (first | ((with_reducible refine AllSt.mk ?_); (try clear hS); intro w hS) | ((with_reducible refine AllVw.mk ?_); intro V hV))))
  (with_reducible apply WpL.call); (· exact rfl); (· exact Try.call29); (· exact Vals.found)
  refine (atO hD hd hS).mono ?_
  clear hS
  rintro x w ⟨rfl, hS⟩
  refine ⟨_, rfl, ?_⟩
  (refine Reach.walk ?_; (repeat (first | ((with_reducible refine AllSt.mk ?_); (try clear hS); intro w hS) | ((with_reducible refine AllVw.mk ?_); intro V hV))))
  (with_reducible apply doneQ_one Try.results12); (· exact slotFound)
  exact ⟨rfl, hS⟩
theorem erasedI {d : Nat} {n : Int} {A : Option Addr} {nb cb : Nat} {l : List Bk} (hl : l.length = nb) (hf : Fit l) (hD : IsVw D nd cd D 0) (hdn : d < nd) (hrow : rows[d]? = some (.slice A nb cb)) (hA : IsVw A nb cb A 0) (hnb : nb ≤ 1048576) (hnd : nd ≤ 1048576) (hS : St w0 M w (poolC g D nd cd rows A nb cb l L)) :
    Calls Try.prog 12 #[.pointer (some ⟨g, 0, none⟩), .int .i64 (d : Int), .int .i64 n] w fun x w' => x = .returned (.int .i64 (erasedL l n).1) ∧ St w0 M w' (poolC g D nd cd rows A nb cb (erasedL l n).2 L) := by
  subst hl
  (refine calls_of (P := Try.prog) _ Try.func12 rfl Try.ntmps12 (Nat.le_of_ble_eq_true rfl) ?_; dsimp only [argE, Nat.reduceAdd])
  (refine Reach.walk ?_; (repeat (first | ((with_reducible refine AllSt.mk ?_); (try clear hS); intro w hS) | ((with_reducible refine AllVw.mk ?_); intro V hV))))
  (with_reducible apply WpL.call); (· exact rfl); (· exact Try.call29); (· exact Vals.found)
  refine (atI hD hdn hrow hA hnb hnd hS).mono ?_
  clear hS
  rintro x w ⟨rfl, hS⟩
  refine ⟨_, rfl, ?_⟩
  unfold atP erasedL
  by_cases hin : 0 ≤ n ∧ n < l.length
  rotate_left
  · rw [if_neg hin, if_neg hin]
    (refine Reach.walk ?_; (repeat (first | ((with_reducible refine AllSt.mk ?_); (try clear hS); intro w hS) | ((with_reducible refine AllVw.mk ?_); intro V hV))))
    (with_reducible apply doneQ_one Try.results12); (· exact slotFound)
    exact ⟨rfl, hS⟩
  rw [if_pos hin, if_pos hin]
  have hlt : n.toNat < l.length := by omega
  have hlk : Look (poolC g D nd cd rows A l.length cb l L) ((adr A).add (0 + n.toNat * 2 + 0)) (.int .i64 ((l.getD n.toNat ⟨0, 0⟩).st : Int)) := .there (.there (Look.own (kv_st' hlt)))
  have hlk2 : Look (poolC g D nd cd rows A l.length cb l L) ((adr A).add (0 + n.toNat * 2 + 1)) (.int .u32 ((l.getD n.toNat ⟨0, 0⟩).er : Int)) := .there (.there (Look.own (kv_er' hlt)))
  have hup : Upd (poolC g D nd cd rows A l.length cb l L) ((adr A).add (0 + n.toNat * 2 + 1)) (.int .u32 (((l.getD n.toNat ⟨0, 0⟩).er + 1 : Nat) : Int)) (poolC g D nd cd rows A l.length cb (l.set n.toNat ⟨(l.getD n.toNat ⟨0, 0⟩).st, (l.getD n.toNat ⟨0, 0⟩).er + 1⟩) L) :=
    .there (.there (Upd.own (by rw [kv_length]; omega) (kv_set_er' _ hlt)))
  have hfb := hf _ (getD_memB hlt)
  generalize (l.getD n.toNat ⟨0, 0⟩).st = s at *
  generalize (l.getD n.toNat ⟨0, 0⟩).er = r at *
  by_cases h4 : s = 4
  · subst h4
    (refine Reach.walk ?_; (repeat (first | ((with_reducible refine AllSt.mk ?_); (try clear hS); intro w hS) | ((with_reducible refine AllVw.mk ?_); intro V hV))))
    (with_reducible apply doneQ_one Try.results12); (· exact slotFound)
    exact ⟨rfl, hS⟩
  rw [if_neg h4]
  by_cases hr : r < 4294967295
  · rw [if_pos hr]
    have hr1 : r + 1 ≤ 4294967295 := hr
    have hr2 : (r : Int) < 4294967295 := by omega
    clear hr
    generalize hK : (4294967295 : Int) = K at hr2 ⊢
    (refine Reach.walk ?_; (repeat (first | ((with_reducible refine AllSt.mk ?_); (try clear hS); intro w hS) | ((with_reducible refine AllVw.mk ?_); intro V hV))))
    (with_reducible apply doneQ_one Try.results12); (· exact slotFound)
    exact ⟨rfl, hS⟩
  · rw [if_neg hr]
    have hr2 : ¬ (r : Int) < 4294967295 := by omega
    clear hr
    generalize hK : (4294967295 : Int) = K at hr2 ⊢
    (refine Reach.walk ?_; (repeat (first | ((with_reducible refine AllSt.mk ?_); (try clear hS); intro w hS) | ((with_reducible refine AllVw.mk ?_); intro V hV))))
    (with_reducible apply doneQ_one Try.results12); (· exact slotFound)
    exact ⟨rfl, hS⟩
end
end Go.Proofs.Ytaapnfoimcccjaa
