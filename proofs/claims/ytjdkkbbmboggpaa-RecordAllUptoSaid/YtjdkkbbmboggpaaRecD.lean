/-
  Records in slices: rows that are the same; the records of bytes: the document's.
-/
import Derived.Test.YtjdkkbbmboggpaaRecC
import Derived.Test.YtjdkkbbmboggpaaRow
import Derived.Test.YtjdkkbbmboggpaaRgf
namespace Go.Proofs.Ytjdkkbbmboggpaa
open Go.Fk Go.RowKit
attribute [local irreducible] Wp WpL Det thenQ blockQ
def rv (rs : List Rec) : List Value := rs.flatMap fun r => r.cells
theorem rv_nil : rv [] = [] := rfl
theorem rv_cons (r : Rec) (rs : List Rec) : rv (r :: rs) = r.cells ++ rv rs := rfl
theorem rv_snoc (rs : List Rec) (r : Rec) : rv rs ++ r.cells = rv (rs ++ [r]) := by simp [rv]
theorem rv_length : ∀ rs : List Rec, (rv rs).length = rs.length * 5
  | [] => rfl
  | r :: rs => by rw [rv_cons, List.length_append, rv_length rs, List.length_cons]; simp; omega
theorem rv_at : ∀ {rs : List Rec} {i : Nat}, i < rs.length → ((rv rs).drop (i * 5)).take 5 = (rs.getD i Rec.zero).cells
  | r :: rs, 0, _ => by rw [rv_cons, Nat.zero_mul, List.drop_zero]; exact List.take_left' rfl
  | r :: rs, i + 1, h => by
    rw [rv_cons, show (i + 1) * 5 = 5 + i * 5 by omega, ← List.drop_drop, show (r.cells ++ rv rs).drop 5 = rv rs from List.drop_left' rfl, rv_at (show i < rs.length by simpa using h)]
    rfl
theorem rv_take : ∀ (rs : List Rec) (n : Nat), (rv rs).take (n * 5) = rv (rs.take n)
  | [], n => by simp [rv]
  | r :: rs, 0 => by simp [rv]
  | r :: rs, n + 1 => by
    rw [rv_cons, show (n + 1) * 5 = r.cells.length + n * 5 by simp; omega, List.take_length_add_append, rv_take rs n]
    rfl
theorem rv_one (rs : List Rec) : ∀ u ∈ rv rs, u.oneCell' = true := fun u hu => by
  obtain ⟨r, _, hr⟩ := List.mem_flatMap.1 hu
  simp only [List.mem_cons, List.not_mem_nil, or_false] at hr
  rcases hr with rfl | rfl | rfl | rfl | rfl <;> rfl
theorem cells_one (r : Rec) : ∀ u ∈ r.cells, u.oneCell' = true := fun u hu => by
  simp only [List.mem_cons, List.not_mem_nil, or_false] at hu
  rcases hu with rfl | rfl | rfl | rfl | rfl <;> rfl
theorem rv_seq {rs : List Rec} {i : Nat} (h : i < rs.length) : (rv rs)[0 + i * 5 + 1]? = some (.int .u64 ((rs.getD i Rec.zero).seq : Int)) := by
  have h1 := congrArg (fun l : List Value => l[1]?) (rv_at h)
  simp only [List.getElem?_take, List.getElem?_drop] at h1
  rw [if_pos (by decide)] at h1
  rw [show 0 + i * 5 + 1 = i * 5 + 1 by omega, h1]
  rfl
theorem Rec.ext' {r q : Rec} (h1 : r.kind = q.kind) (h2 : r.seq = q.seq) (h3 : r.a = q.a) (h4 : r.b = q.b) (h5 : r.c = q.c) : r = q := by
  cases r; cases q; simp_all
instance : DecidableEq Rec := fun r q => if h : r.kind = q.kind ∧ r.seq = q.seq ∧ r.a = q.a ∧ r.b = q.b ∧ r.c = q.c then .isTrue (Rec.ext' h.1 h.2.1 h.2.2.1 h.2.2.2.1 h.2.2.2.2) else .isFalse fun e => h (by subst e; exact ⟨rfl, rfl, rfl, rfl, rfl⟩)
theorem eq_recs (r q : Rec) : eqCells r.cells q.cells = decide (r = q) := by
  by_cases h : r = q
  · subst h; rw [eq_rec, decide_eq_true rfl]
  · rw [decide_eq_false h]
    cases hb : eqCells r.cells q.cells with
    | false => rfl
    | true =>
      exfalso
      apply h
      simp only [eqCells, eqCell, Bool.and_eq_true, decide_eq_true_eq, beq_iff_eq] at hb
      exact Rec.ext' (by omega) (by omega) (by omega) (by omega) (by omega)

/-- Whether a record may stand behind one with the number s. -/
def goB (last : Option Nat) (q : Nat) : Bool := match last with
  | none => true
  | some s => decide (s < q)
def recsN : Nat → Option Nat → List UInt8 → List Rec
  | 0, _, _ => []
  | k + 1, last, l => if (parseR l).2 = 0 ∧ goB last (parseR l).1.seq = true then (parseR l).1 :: recsN k (some (parseR l).1.seq) (l.drop 37) else []
def recsG (last : Option Nat) (l : List UInt8) : List Rec := recsN l.length last l
theorem parseR_len {l : List UInt8} (h : (parseR l).2 = 0) : 37 ≤ l.length := by
  unfold parseR at h
  split at h
  · cases h
  · omega
theorem recsN_more : ∀ (k j : Nat) (last : Option Nat) (l : List UInt8), l.length ≤ k → l.length ≤ j → recsN k last l = recsN j last l
  | 0, 0, _, _, _, _ => rfl
  | 0, j + 1, last, l, hk, _ => by
    rw [recsN, recsN, if_neg (fun h => by have := parseR_len h.1; omega)]
  | k + 1, 0, last, l, _, hj => by
    rw [recsN, recsN, if_neg (fun h => by have := parseR_len h.1; omega)]
  | k + 1, j + 1, last, l, hk, hj => by
    rw [recsN, recsN]
    split
    · rename_i h
      have := parseR_len h.1
      rw [recsN_more k j _ (l.drop 37) (by rw [List.length_drop]; omega) (by rw [List.length_drop]; omega)]
    · rfl
theorem recsG_go {last : Option Nat} {l : List UInt8} (h1 : (parseR l).2 = 0) (h2 : goB last (parseR l).1.seq = true) : recsG last l = (parseR l).1 :: recsG (some (parseR l).1.seq) (l.drop 37) := by
  have hl := parseR_len h1
  unfold recsG
  obtain ⟨k, hk⟩ : ∃ k, l.length = k + 1 := ⟨l.length - 1, by omega⟩
  rw [hk, recsN, if_pos ⟨h1, h2⟩, recsN_more k _ _ (l.drop 37) (by rw [List.length_drop]; omega) (Nat.le_refl _)]
theorem recsG_stop {last : Option Nat} {l : List UInt8} (h : ¬ ((parseR l).2 = 0 ∧ goB last (parseR l).1.seq = true)) : recsG last l = [] := by
  unfold recsG
  cases hl : l.length with
  | zero => rfl
  | succ k => rw [recsN, if_neg h]
theorem recsN_len : ∀ (k : Nat) (last : Option Nat) (l : List UInt8), (recsN k last l).length * 37 ≤ l.length
  | 0, _, _ => by simp [recsN]
  | k + 1, last, l => by
    rw [recsN]
    split
    · rename_i h
      have h1 := parseR_len h.1
      have h2 := recsN_len k (some (parseR l).1.seq) (l.drop 37)
      rw [List.length_drop] at h2
      rw [List.length_cons]
      omega
    · simp
theorem recsG_len (last : Option Nat) (l : List UInt8) : (recsG last l).length * 37 ≤ l.length := recsN_len _ _ _
instance : SliceT Try.prog 34 24 := ⟨Try.underlying34⟩
instance : Cell1 Try.prog 34 := ⟨_, Try.underlying34, rfl⟩
instance : SizeT Try.prog 34 1 := ⟨by kernel_rfl⟩
section
variable {w w0 : World} {M : Nat → Prop} {L : List Ch}
theorem same_any {V : Option Addr} {n c : Nat} {p : List Rec} {V' : Option Addr} {n' c' : Nat} {q : List Rec} (hn : p.length = n) (hV : IsVw V n c V 0) (hm : n ≤ 1099511627776) (hr : RdsV L V (n * 5) (rv p))
    (hn' : q.length = n') (hV' : IsVw V' n' c' V' 0) (hm' : n' ≤ 1099511627776) (hr' : RdsV L V' (n' * 5) (rv q)) (hS : St w0 M w L) :
    Calls Try.prog 14 #[.slice V n c, .slice V' n' c'] w fun x w' => x = .returned (.bool (decide (p = q))) ∧ St w0 M w' L := by
  (refine calls_of (P := Try.prog) _ Try.func14 rfl Try.ntmps14 (Nat.le_of_ble_eq_true rfl) ?_; dsimp only [argE, Nat.reduceAdd])
  by_cases hl : n = n'
  · subst hl
    (refine Reach.walk ?_; (repeat (first | ((with_reducible refine AllSt.mk ?_); (try clear hS); intro w hS) | ((with_reducible refine AllVw.mk ?_); intro V hV))))
    apply Wp.loopUp n (fun k e w' => p.take k = q.take k ∧ St w0 M w' L ∧ e.Has [(5, .int .i64 (k : Nat)), (0, .slice V n c), (1, .slice V' n c')]) (Nat.zero_le _)
      ⟨rfl, hS, rfl, rfl, rfl, trivial⟩
    clear hS
    rintro k e w1 hk ⟨hpq, hS, he⟩
    obtain ⟨e0, rfl⟩ := he.eq
    clear he
    dsimp only [Env.sets]
    by_cases hlt : k < n
    · have hat1 : ∀ w2, St w0 M w2 L → At w2 ((adr V).add (0 + k * 5)) (p.getD k Rec.zero).cells := fun w2 hS => by
        have := hr.rowAt (k := k * 5) (m := 5) hS (by omega)
        rw [rv_at (by omega)] at this
        rwa [Nat.zero_add]
      have hat2 : ∀ w2, St w0 M w2 L → At w2 ((adr V').add (0 + k * 5)) (q.getD k Rec.zero).cells := fun w2 hS => by
        have := hr'.rowAt (k := k * 5) (m := 5) hS (by omega)
        rw [rv_at (by omega)] at this
        rwa [Nat.zero_add]
      (refine Reach.walk ?_; (repeat (first | ((with_reducible refine AllSt.mk ?_); (try clear hS); intro w hS) | ((with_reducible refine AllVw.mk ?_); intro V hV))))
      (refine Wp.drawF 9 (fun w => St w0 M w L) ?_ (by kernel_rfl) (by kernel_rfl) rfl ?_; rotate_left; dsimp only [List.take, List.drop]; rotate_left)
      · exact hS.drew
      (repeat (first | ((with_reducible apply RgF.det); (· exact rfl); (· exact rfl); (· exact Det.found2))))
      refine RgF.det rfl rfl (Det.ldMid rfl hat1 rfl) ?_
      (repeat (first | ((with_reducible apply RgF.det); (· exact rfl); (· exact rfl); (· exact Det.found2))))
      refine RgF.det rfl rfl (Det.ldMid rfl hat2 rfl) ?_
      (repeat (first | ((with_reducible apply RgF.det); (· exact rfl); (· exact rfl); (· exact Det.found2))))
      refine RgF.det rfl rfl (Det.neqRow rfl rfl (fit_rec _) (fit_rec _)) ?_
      rw [eq_recs]
      (repeat (first | ((with_reducible apply RgF.det); (· exact rfl); (· exact rfl); (· exact Det.found2))))
      refine RgF.fin ?_
      clear hS
      intro w hS
      by_cases heq : p.getD k Rec.zero = q.getD k Rec.zero
      · rw [decide_eq_true heq]
        (refine Reach.walk ?_; (repeat (first | ((with_reducible refine AllSt.mk ?_); (try clear hS); intro w hS) | ((with_reducible refine AllVw.mk ?_); intro V hV))))
        refine ⟨hlt, ?_, hS, int_eq (by omega), rfl, rfl, trivial⟩
        rw [List.take_add_one, List.take_add_one, hpq]
        congr 1
        rw [List.getElem?_eq_getElem (by omega), List.getElem?_eq_getElem (by omega)]
        rw [List.getD_eq_getElem?_getD, List.getD_eq_getElem?_getD, List.getElem?_eq_getElem (by omega), List.getElem?_eq_getElem (by omega)] at heq
        simpa using heq
      · rw [decide_eq_false heq]
        have hne : ¬ p = q := fun h => heq (by rw [h])
        (refine Reach.walk ?_; (repeat (first | ((with_reducible refine AllSt.mk ?_); (try clear hS); intro w hS) | ((with_reducible refine AllVw.mk ?_); intro V hV))))
        (with_reducible apply doneQ_one Try.results14); (· exact slotFound)
        exact ⟨by rw [decide_eq_false hne], hS⟩
    · obtain rfl : k = n := by omega
      rw [List.take_of_length_le (by omega), List.take_of_length_le (by omega)] at hpq
      (refine Reach.walk ?_; (repeat (first | ((with_reducible refine AllSt.mk ?_); (try clear hS); intro w hS) | ((with_reducible refine AllVw.mk ?_); intro V hV))))
      (with_reducible apply doneQ_one Try.results14); (· exact slotFound)
      exact ⟨by rw [decide_eq_true hpq], hS⟩
  · have hne : ¬ p = q := fun h => hl (by rw [← hn, ← hn', h])
    (refine Reach.walk ?_; (repeat (first | ((with_reducible refine AllSt.mk ?_); (try clear hS); intro w hS) | ((with_reducible refine AllVw.mk ?_); intro V hV))))
    (with_reducible apply doneQ_one Try.results14); (· exact slotFound)
    exact ⟨by rw [decide_eq_false hne], hS⟩

def lastS (rs : List Rec) : Option Nat := rs.getLast?.map (·.seq)
theorem lastS_snoc (rs : List Rec) (r : Rec) : lastS (rs ++ [r]) = some r.seq := by simp [lastS]
theorem refAll_any {U : Option Addr} {n c : Nat} {l : List UInt8} (hU : IsVw U n c U 0) (hm : n ≤ 140737488355328) (hrl : (recsG none l).length ≤ 3000000000000) (hr : RdsV L U n (bv l)) (hS : St w0 M w L) :
    Calls Try.prog 13 #[.slice U n c] w fun x w' => ∃ A k, x = .returned (.slice A (recsG none l).length k) ∧ IsVw A (recsG none l).length k A 0 ∧
      St w0 M w' (.own A (recsG none l).length k 24 5 (rv (recsG none l)) :: L) := by
  have hn : l.length = n := by
    have := (hr w0 M w hS).2
    simpa using this
  (refine calls_of (P := Try.prog) _ Try.func13 rfl Try.ntmps13 (Nat.le_of_ble_eq_true rfl) ?_; dsimp only [argE, Nat.reduceAdd])
  (refine Reach.walk ?_; (repeat (first | ((with_reducible refine AllSt.mk ?_); (try clear hS); intro w hS) | ((with_reducible refine AllVw.mk ?_); intro V hV))))
  have hS0 : St w0 M w (.own none 0 0 24 5 (rv []) :: L) := hS.nil_
  clear hS
  apply Wp.loopUp n (fun i e w' => ∃ pre A k, pre.length = i ∧ i * 37 ≤ n ∧ recsG none l = pre ++ recsG (lastS pre) (l.drop (i * 37)) ∧ IsVw A i k A 0 ∧ St w0 M w' (.own A i k 24 5 (rv pre) :: L) ∧
      e.Has [(4, .int .i64 ((i * 37 : Nat) : Int)), (3, .slice A i k), (0, .slice U n c)]) (Nat.zero_le _)
    ⟨[], none, 0, rfl, by omega, rfl, IsVw.nil, hS0, rfl, rfl, rfl, trivial⟩
  clear hS0
  rintro i e w1 hi ⟨pre, A, k, hpl, hin, hrec, hA, hS, he⟩
  obtain ⟨e0, rfl⟩ := he.eq
  clear he
  dsimp only [Env.sets]
  (refine Reach.walk ?_; (repeat (first | ((with_reducible refine AllSt.mk ?_); (try clear hS); intro w hS) | ((with_reducible refine AllVw.mk ?_); intro V hV))))
  have hrV : RdsV (.own A i k 24 5 (rv pre) :: L) V (n - i * 37) (bv (l.drop (i * 37))) := by
    have h1 := (hr.there (.own A i k 24 5 (rv pre))).view hV (by omega)
    rw [Nat.zero_add] at h1
    have e1 : ((bv l).drop (i * 37)).take (n - i * 37) = bv (l.drop (i * 37)) := by
      rw [← bv_drop, List.take_of_length_le (by rw [bv_length, List.length_drop]; omega)]
    rwa [e1] at h1
  (with_reducible apply WpL.call); (· exact rfl); (· exact Try.call12); (· exact Vals.found)
  refine (refParse_any hS hrV hV.self (by omega)).mono ?_
  clear hS hrV
  rintro x w2 ⟨rfl, hS⟩
  refine ⟨_, rfl, ?_⟩
  have hpl2 := @parseR_len (l.drop (i * 37))
  have hgo := @recsG_go (lastS pre) (l.drop (i * 37))
  have hst := @recsG_stop (lastS pre) (l.drop (i * 37))
  rw [List.length_drop, hn] at hpl2
  rw [List.drop_drop] at hgo
  generalize hq : (parseR (l.drop (i * 37))).1 = q at *
  generalize (parseR (l.drop (i * 37))).2 = E at *
  (refine Reach.walk ?_; (repeat (first | ((with_reducible refine AllSt.mk ?_); (try clear hS); intro w hS) | ((with_reducible refine AllVw.mk ?_); intro V hV))))
  ((with_reducible apply WpL.al); (· assumption); (· exact rfl); (· exact rfl); clear hS)
  intro gr w hS
  (refine Reach.walk ?_; (repeat (first | ((with_reducible refine AllSt.mk ?_); (try clear hS); intro w hS) | ((with_reducible refine AllVw.mk ?_); intro V hV))))
  by_cases hE : E = 0
  rotate_left
  · rw [hst (fun h => hE h.1), List.append_nil] at hrec
    (refine Wp.drawD 19 (by kernel_rfl) (by kernel_rfl) rfl ?_; dsimp only [List.take, List.drop])
    (refine Reach.rwalk ?_; (repeat (first | ((with_reducible refine AllSt.mk ?_); (try clear hS); intro w hS) | ((with_reducible refine AllVw.mk ?_); intro V hV))))
    (refine RgD.fin0 fun w hb => ?_; replace hS := hS.below hb; clear hb)
    (refine Reach.walk ?_; (repeat (first | ((with_reducible refine AllSt.mk ?_); (try clear hS); intro w hS) | ((with_reducible refine AllVw.mk ?_); intro V hV))))
    (with_reducible apply doneQ_one Try.results13); (· exact slotFound)
    subst hpl
    rw [hrec]
    exact ⟨A, k, rfl, hA, hS.tail⟩
  subst hE
  replace hpl2 := hpl2 rfl
  have hlen1 : goB (lastS pre) q.seq = true → i + 1 ≤ 3000000000000 := fun h => by
    have h1 := congrArg List.length hrec
    rw [hgo rfl h, List.length_append, List.length_cons] at h1
    omega
  by_cases hi0 : i = 0
  · have hpe : pre = [] := List.eq_nil_of_length_eq_zero (by omega)
    have hgo2 := hgo rfl (by rw [hpe]; rfl)
    have hlen2 := hlen1 (by rw [hpe]; rfl)
    (refine Wp.drawD 19 (by kernel_rfl) (by kernel_rfl) rfl ?_; dsimp only [List.take, List.drop])
    (refine Reach.rwalk ?_; (repeat (first | ((with_reducible refine AllSt.mk ?_); (try clear hS); intro w hS) | ((with_reducible refine AllVw.mk ?_); intro V hV))))
    (refine RgD.fin0 fun w hb => ?_; replace hS := hS.below hb; clear hb)
    (refine Reach.walk ?_; (repeat (first | ((with_reducible refine AllSt.mk ?_); (try clear hS); intro w hS) | ((with_reducible refine AllVw.mk ?_); intro V hV))))
    refine WpL.bs1 (sz := 5) (cells := q.cells) hS rfl rfl (by decide) (by decide) (by kernel_rfl) rfl ?_
    clear hS
    intro B w hB hS
    (refine Reach.walk ?_; (repeat (first | ((with_reducible refine AllSt.mk ?_); (try clear hS); intro w hS) | ((with_reducible refine AllVw.mk ?_); intro V hV))))
    ((with_reducible apply WpL.app); (· assumption); (· exact rfl); (· exact rfl); (· exact rfl); (· exact Sel.found); (· simp only [Nat.mul_one]; exact RdsV.found); (· exact onesFound); (· exact catFound); (· omega); (· omega); clear hS)
    intro A3 c3 w hA3 hS
    (refine Reach.walk ?_; (repeat (first | ((with_reducible refine AllSt.mk ?_); (try clear hS); intro w hS) | ((with_reducible refine AllVw.mk ?_); intro V hV))))
    refine ⟨by omega, pre ++ [q], A3, c3, by simp [hpl], by omega, ?_, hA3, ?_, int_eq (by omega), rfl, rfl, trivial⟩
    · rw [hrec, hgo2, lastS_snoc, List.append_assoc, show (i + 1) * 37 = i * 37 + 37 by omega]; rfl
    · rw [← rv_snoc]; exact hS.sub (.cons_cons _ ((List.sublist_cons_self _ _).trans (List.sublist_cons_self _ _)))
  · have hls : lastS pre = some (pre.getD (i - 1) Rec.zero).seq := by
      unfold lastS
      rw [List.getLast?_eq_getElem?, hpl, List.getD_eq_getElem?_getD, List.getElem?_eq_getElem (by omega)]
      rfl
    have hsq := rv_seq (rs := pre) (i := i - 1) (by omega)
    generalize (pre.getD (i - 1) Rec.zero).seq = s at *
    have hci : (i : Int) - 1 = ((i - 1 : Nat) : Int) := by omega
    by_cases hgt : s < q.seq
    · have hgb : goB (lastS pre) q.seq = true := by rw [hls]; exact decide_eq_true hgt
      have hgo2 := hgo rfl hgb
      have hlen2 := hlen1 hgb
      (refine Wp.drawD 19 (by kernel_rfl) (by kernel_rfl) rfl ?_; dsimp only [List.take, List.drop])
      (refine Reach.rwalk ?_; (repeat (first | ((with_reducible refine AllSt.mk ?_); (try clear hS); intro w hS) | ((with_reducible refine AllVw.mk ?_); intro V hV))))
      refine RgD.ld hS rfl rfl rfl rfl (.there (Look.own hsq)) ?_
      (refine Reach.rwalk ?_; (repeat (first | ((with_reducible refine AllSt.mk ?_); (try clear hS); intro w hS) | ((with_reducible refine AllVw.mk ?_); intro V hV))))
      (refine RgD.fin0 fun w hb => ?_; replace hS := hS.below hb; clear hb)
      (refine Reach.walk ?_; (repeat (first | ((with_reducible refine AllSt.mk ?_); (try clear hS); intro w hS) | ((with_reducible refine AllVw.mk ?_); intro V hV))))
      refine WpL.bs1 (sz := 5) (cells := q.cells) hS rfl rfl (by decide) (by decide) (by kernel_rfl) rfl ?_
      clear hS
      intro B w hB hS
      (refine Reach.walk ?_; (repeat (first | ((with_reducible refine AllSt.mk ?_); (try clear hS); intro w hS) | ((with_reducible refine AllVw.mk ?_); intro V hV))))
      ((with_reducible apply WpL.app); (· assumption); (· exact rfl); (· exact rfl); (· exact rfl); (· exact Sel.found); (· simp only [Nat.mul_one]; exact RdsV.found); (· exact onesFound); (· exact catFound); (· omega); (· omega); clear hS)
      intro A3 c3 w hA3 hS
      (refine Reach.walk ?_; (repeat (first | ((with_reducible refine AllSt.mk ?_); (try clear hS); intro w hS) | ((with_reducible refine AllVw.mk ?_); intro V hV))))
      refine ⟨by omega, pre ++ [q], A3, c3, by simp [hpl], by omega, ?_, hA3, ?_, int_eq (by omega), rfl, rfl, trivial⟩
      · rw [hrec, hgo2, lastS_snoc, List.append_assoc, show (i + 1) * 37 = i * 37 + 37 by omega]; rfl
      · rw [← rv_snoc]; exact hS.sub (.cons_cons _ ((List.sublist_cons_self _ _).trans (List.sublist_cons_self _ _)))
    · have hgb : ¬ ((0 : Int) = 0 ∧ goB (lastS pre) q.seq = true) := fun h => by
        rw [hls] at h
        exact hgt (of_decide_eq_true h.2)
      rw [hst hgb, List.append_nil] at hrec
      (refine Wp.drawD 19 (by kernel_rfl) (by kernel_rfl) rfl ?_; dsimp only [List.take, List.drop])
      (refine Reach.rwalk ?_; (repeat (first | ((with_reducible refine AllSt.mk ?_); (try clear hS); intro w hS) | ((with_reducible refine AllVw.mk ?_); intro V hV))))
      refine RgD.ld hS rfl rfl rfl rfl (.there (Look.own hsq)) ?_
      (refine Reach.rwalk ?_; (repeat (first | ((with_reducible refine AllSt.mk ?_); (try clear hS); intro w hS) | ((with_reducible refine AllVw.mk ?_); intro V hV))))
      (refine RgD.fin0 fun w hb => ?_; replace hS := hS.below hb; clear hb)
      (refine Reach.walk ?_; (repeat (first | ((with_reducible refine AllSt.mk ?_); (try clear hS); intro w hS) | ((with_reducible refine AllVw.mk ?_); intro V hV))))
      (with_reducible apply doneQ_one Try.results13); (· exact slotFound)
      subst hpl
      rw [hrec]
      exact ⟨A, k, rfl, hA, hS.tail⟩
end
end Go.Proofs.Ytjdkkbbmboggpaa
