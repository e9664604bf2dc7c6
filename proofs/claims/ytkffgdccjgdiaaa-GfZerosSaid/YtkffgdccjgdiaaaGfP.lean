/-
  Products of polynomials: the program's.
-/
import Derived.Test.YtkffgdccjgdiaaaGfO
namespace Go.Gf
/-- A row, with another one, c times, added from place o on, k places of it. -/
def addRow (m N : Nat) (B : Nat → Nat) (c : Nat) (b : List Nat) (o k : Nat) : List Nat := (List.range N).map fun t => B t ^^^ (if o ≤ t ∧ t < o + k then mul m c (cf b (t - o)) else 0)
section
variable {m N : Nat} {B : Nat → Nat} {c : Nat} {b : List Nat} {o k : Nat}
@[simp] theorem addRow_length : (addRow m N B c b o k).length = N := by simp [addRow]
theorem cf_range (f : Nat → Nat) (t : Nat) : cf ((List.range N).map f) t = if t < N then f t else 0 := by
  by_cases h : t < N
  · rw [if_pos h, cf_get (by simpa using h)]; simp
  · rw [if_neg h, cf_over (by simpa using h)]
theorem cf_addRow (t : Nat) : cf (addRow m N B c b o k) t = if t < N then B t ^^^ (if o ≤ t ∧ t < o + k then mul m c (cf b (t - o)) else 0) else 0 := cf_range _ t
theorem addRow_at (h : o + k < N) : cf (addRow m N B c b o k) (o + k) = B (o + k) := by
  rw [cf_addRow, if_pos h, if_neg (by omega), Nat.xor_zero]
theorem addRow_zero : addRow m N B c b o 0 = (List.range N).map B := by
  unfold addRow
  refine List.map_congr_left fun t _ => ?_
  rw [if_neg (by omega), Nat.xor_zero]
theorem addRow_set (h : o + k < N) : (addRow m N B c b o k).set (o + k) (B (o + k) ^^^ mul m c (cf b k)) = addRow m N B c b o (k + 1) := by
  refine List.ext_getElem (by simp) fun t h1 h2 => ?_
  rw [List.getElem_set]
  simp only [addRow, List.getElem_map, List.getElem_range]
  by_cases ht : o + k = t
  · subst ht
    rw [if_pos rfl, if_pos (by omega), show o + k - o = k by omega]
  · rw [if_neg ht]
    by_cases h3 : o ≤ t ∧ t < o + k
    · rw [if_pos h3, if_pos (by omega)]
    · rw [if_neg h3, if_neg (by omega)]
theorem addRow_full (h : Is m) (hk : b.length ≤ k) : addRow m N B c b o k = (List.range N).map fun t => B t ^^^ (if o ≤ t then mul m c (cf b (t - o)) else 0) := by
  unfold addRow
  refine List.map_congr_left fun t _ => ?_
  by_cases h1 : o ≤ t
  · rw [if_pos h1]
    by_cases h2 : t < o + k
    · rw [if_pos ⟨h1, h2⟩]
    · rw [if_neg (by omega), cf_over (by omega), mul_zero h]
  · rw [if_neg h1, if_neg (by omega)]
theorem rs_lt (h : Is m) {p q : List Nat} (hp : El m p) : ∀ i t, rs m p q i t < 2 ^ m
  | 0, _ => Nat.two_pow_pos m
  | i + 1, t => by
    rw [rs]
    refine Nat.xor_lt_two_pow (rs_lt h hp i t) ?_
    split
    · exact mul_lt h (hp.cf _)
    · exact Nat.two_pow_pos m
theorem rs_trim (h : Is m) {p q : List Nat} (hN : p.length + q.length ≤ N + 1) : trim ((List.range N).map (rs m p q p.length)) = times m p q := by
  unfold times
  refine trim_cf fun t => ?_
  rw [cf_range]
  by_cases ht : t < N
  · rw [if_pos ht, rs_conv h]
  · rw [if_neg ht, conv_over h _ _ (by omega)]
theorem times_nil_left (q : List Nat) : times m [] q = [] := rfl
theorem times_nil_right (h : Is m) (p : List Nat) : times m p [] = [] := by
  have h1 : tl (conv m p []) = 0 := tl_of (fun t _ => conv_nil h p t) (fun h => absurd h (by omega))
  unfold times trim
  rw [h1, List.take_zero]
end
end Go.Gf
namespace Go.Proofs.Ytkffgdccjgdiaaa
open Go.Fk Go.RowKit
attribute [local irreducible] Wp WpL Det thenQ blockQ
theorem nv_set (l : List Nat) (i a : Nat) : (nv l).set i (a : Int) = nv (l.set i a) := by
  unfold nv; rw [List.map_set]
section
variable {w w0 : World} {M : Nat → Prop} {L : List Ch} {m g : Nat} {F : FS}
theorem times_any (h : Gf.Is m) {V : Option Addr} {n c : Nat} {p : List Int} {V' : Option Addr} {n' c' : Nat} {q : List Int} (hn : p.length = n) (hV : IsVw V n c V 0) (hm : n ≤ 1048576) (hr : RdsV L V n (zv p))
    (hn' : q.length = n') (hV' : IsVw V' n' c' V' 0) (hm' : n' ≤ 1048576) (hr' : RdsV L V' n' (zv q)) (hI : FI w0 M g m L w) :
    Calls Try.prog 27 #[.pointer (some ⟨g, 0, none⟩), .slice V n c, .slice V' n' c'] w fun x w' => ∃ A k, x = .returned (.slice A (Gf.times m (pe m p) (pe m q)).length k) ∧ IsVw A (Gf.times m (pe m p) (pe m q)).length k A 0 ∧
      FI w0 M g m (.own A (Gf.times m (pe m p) (pe m q)).length k 3 1 (zv (nv (Gf.times m (pe m p) (pe m q)))) :: L) w' := by
  (refine calls_of (P := Try.prog) _ Try.func27 rfl Try.ntmps27 (Nat.le_of_ble_eq_true rfl) ?_; dsimp only [argE, Nat.reduceAdd])
  by_cases h0 : p = []
  · subst h0
    simp only [List.length_nil] at hn
    subst hn
    have e0 : Gf.times m (pe m []) (pe m q) = [] := rfl
    (refine Reach.walk ?_; (repeat (first | ((with_reducible refine AllSt.mk ?_); (try clear hS); intro w hS) | ((with_reducible refine AllVw.mk ?_); intro V hV))))
    (with_reducible apply doneQ_one Try.results27); (· exact slotFound)
    rw [e0]
    dsimp only [List.length_nil]
    obtain ⟨F, hF, hS⟩ := hI
    have h2 : St w0 M _ (.own none 0 0 3 1 (zv (nv [])) :: F.blk g m :: F.p :: F.l :: L) := hS.nil_
    exact ⟨none, 0, rfl, IsVw.nil, F, hF, h2.take (pre := [F.blk g m, F.p, F.l, .own none _ _ _ _ _]) Take.found⟩
  by_cases h0' : q = []
  · subst h0'
    simp only [List.length_nil] at hn'
    subst hn'
    have hp0 : 0 < p.length := List.length_pos_iff.2 h0
    have e0 : Gf.times m (pe m p) (pe m []) = [] := Gf.times_nil_right h _
    (refine Reach.walk ?_; (repeat (first | ((with_reducible refine AllSt.mk ?_); (try clear hS); intro w hS) | ((with_reducible refine AllVw.mk ?_); intro V hV))))
    (with_reducible apply doneQ_one Try.results27); (· exact slotFound)
    rw [e0]
    dsimp only [List.length_nil]
    obtain ⟨F, hF, hS⟩ := hI
    have h2 : St w0 M _ (.own none 0 0 3 1 (zv (nv [])) :: F.blk g m :: F.p :: F.l :: L) := hS.nil_
    exact ⟨none, 0, rfl, IsVw.nil, F, hF, h2.take (pre := [F.blk g m, F.p, F.l, .own none _ _ _ _ _]) Take.found⟩
  have hp0 : 0 < p.length := List.length_pos_iff.2 h0
  have hq0 : 0 < q.length := List.length_pos_iff.2 h0'
  have hcN : (n : Int) + (n' : Int) - 1 = ((n + n' - 1 : Nat) : Int) := by omega
  obtain ⟨F, hF, hS⟩ := hI
  (refine Reach.walk ?_; (repeat (first | ((with_reducible refine AllSt.mk ?_); (try clear hS); intro w hS) | ((with_reducible refine AllVw.mk ?_); intro V hV))))
  refine WpL.mk1 (bytes := 8) (n := n + n' - 1) (z := .int .i64 0) hS rfl rfl rfl rfl rfl rfl (by omega) (by omega) ?_
  clear hS
  intro A w hVA hS
  rw [replicate_zv] at hS
  have hz0 : List.replicate (n + n' - 1) (0 : Int) = nv ((List.range (n + n' - 1)).map (Gf.rs m (pe m p) (pe m q) 0)) := by
    refine List.ext_getElem (by simp) fun i h1 h2 => by simp [nv, Gf.rs]
  rw [hz0] at hS
  generalize hN : n + n' - 1 = N at *
  (replace hS := (hS.take (pre := [F.blk g m, F.p, F.l]) Take.found); (try simp only [List.cons_append, List.nil_append] at hS))
  (refine Reach.walk ?_; (repeat (first | ((with_reducible refine AllSt.mk ?_); (try clear hS); intro w hS) | ((with_reducible refine AllVw.mk ?_); intro V hV))))
  apply Wp.loopUp n (fun i e w' => FI w0 M g m (.own A N N 3 1 (zv (nv ((List.range N).map (Gf.rs m (pe m p) (pe m q) i)))) :: L) w' ∧ e.Has [(33, .int .i64 (i : Nat)), (32, .int .i64 (n : Nat)), (31, .slice V n c), (7, .slice A N N), (0, .pointer (some ⟨g, 0, none⟩)), (1, .slice V n c), (2, .slice V' n' c')]) (Nat.zero_le n)
    ⟨⟨F, hF, hS⟩, rfl, rfl, rfl, rfl, rfl, rfl, rfl, trivial⟩
  clear hS hF hz0
  rintro i e w1 hi ⟨hI, he⟩
  obtain ⟨e0, rfl⟩ := he.eq
  clear he
  dsimp only [Env.sets]
  by_cases hlt : i < n
  · have hPi : Gf.cf (pe m p) i = inE m (p.getD i 0) := by rw [pe_cf, if_pos (by omega)]
    obtain ⟨F, hF, hS⟩ := hI
    (refine Reach.walk ?_; (repeat (first | ((with_reducible refine AllSt.mk ?_); (try clear hS); intro w hS) | ((with_reducible refine AllVw.mk ?_); intro V hV))))
    refine WpL.ldV hr hS.tail.tail.tail.tail (zvg (i := i) (by omega)) rfl rfl ?_
    (refine Reach.walk ?_; (repeat (first | ((with_reducible refine AllSt.mk ?_); (try clear hS); intro w hS) | ((with_reducible refine AllVw.mk ?_); intro V hV))))
    rw [← Gf.addRow_zero (m := m) (c := Gf.cf (pe m p) i) (b := pe m q) (o := i)] at hS
    generalize p.getD i 0 = a at *
    apply Wp.loopUp n' (fun k e w' => FI w0 M g m (.own A N N 3 1 (zv (nv (Gf.addRow m N (Gf.rs m (pe m p) (pe m q) i) (Gf.cf (pe m p) i) (pe m q) i k))) :: L) w' ∧ e.Has [(40, .int .i64 (k : Nat)), (39, .int .i64 (n' : Nat)), (38, .slice V' n' c'), (8, .int .i64 (i : Nat)), (9, .int .i64 a), (33, .int .i64 (i : Nat)), (32, .int .i64 (n : Nat)), (31, .slice V n c), (7, .slice A N N), (0, .pointer (some ⟨g, 0, none⟩)), (1, .slice V n c), (2, .slice V' n' c')]) (Nat.zero_le n')
      ⟨⟨F, hF, hS⟩, rfl, rfl, rfl, rfl, rfl, rfl, rfl, rfl, rfl, rfl, rfl, rfl, trivial⟩
    clear hS hF
    rintro k e w1 hk ⟨hI, he⟩
    obtain ⟨e0, rfl⟩ := he.eq
    clear he
    dsimp only [Env.sets]
    by_cases hlk : k < n'
    · have hQk : Gf.cf (pe m q) k = inE m (q.getD k 0) := by rw [pe_cf, if_pos (by omega)]
      have hik : i + k < N := by omega
      have hat := Gf.addRow_at (m := m) (B := Gf.rs m (pe m p) (pe m q) i) (c := Gf.cf (pe m p) i) (b := pe m q) hik
      have hset := Gf.addRow_set (m := m) (B := Gf.rs m (pe m p) (pe m q) i) (c := Gf.cf (pe m p) i) (b := pe m q) hik
      have hlen : (nv (Gf.addRow m N (Gf.rs m (pe m p) (pe m q) i) (Gf.cf (pe m p) i) (pe m q) i k)).length = N := by simp
      have hget : (zv (nv (Gf.addRow m N (Gf.rs m (pe m p) (pe m q) i) (Gf.cf (pe m p) i) (pe m q) i k)))[i + k]? = some (.int .i64 (Gf.rs m (pe m p) (pe m q) i (i + k) : Nat)) := by
        rw [nv_cell (by simpa using hik), hat]
      have hrl := Gf.rs_lt h (q := pe m q) (pe_el h p) i (i + k)
      have hml := Gf.mul_lt h (b := Gf.cf (pe m q) k) ((pe_el h p).cf i)
      have hs2 := Gf.sz_le h
      have hsa := Gf.sz_add h
      generalize Gf.rs m (pe m p) (pe m q) i (i + k) = y at *
      generalize Gf.addRow m N (Gf.rs m (pe m p) (pe m q) i) (Gf.cf (pe m p) i) (pe m q) i k = R at *
      obtain ⟨F, hF, hS⟩ := hI
      (refine Reach.walk ?_; (repeat (first | ((with_reducible refine AllSt.mk ?_); (try clear hS); intro w hS) | ((with_reducible refine AllVw.mk ?_); intro V hV))))
      refine WpL.ldV hr' hS.tail.tail.tail.tail (zvg (i := k) (by omega)) rfl rfl ?_
      (refine Reach.walk ?_; (repeat (first | ((with_reducible refine AllSt.mk ?_); (try clear hS); intro w hS) | ((with_reducible refine AllVw.mk ?_); intro V hV))))
      generalize q.getD k 0 = b at *
      have hI : FI w0 M g m (.own A N N 3 1 (zv (nv R)) :: L) _ := ⟨F, hF, hS⟩
      have hcik : (i : Int) + (k : Int) = ((i + k : Nat) : Int) := by omega
      (refine Wp.drawF 12 (FI w0 M g m (.own A N N 3 1 (zv (nv R)) :: L)) ?_ (by kernel_rfl) (by kernel_rfl) rfl ?_; rotate_left; dsimp only [List.take, List.drop]; rotate_left)
      · exact hI.drew
      (repeat (first | ((with_reducible apply RgF.det); (· exact rfl); (· exact rfl); (· exact Det.found2))))
      refine RgF.ld (fun w2 hI => (RdsV.whole (n := N) .own (by simpa using hlen)).cellAt hI.rest hget) rfl rfl ?_
      (repeat (first | ((with_reducible apply RgF.det); (· exact rfl); (· exact rfl); (· exact Det.found2))))
      refine RgF.op (c := .int .i64 (Gf.mul m (Gf.cf (pe m p) i) (Gf.cf (pe m q) k) : Nat)) rfl rfl (fun w2 hI => ?_) ?_
      · obtain ⟨F, hF, hS⟩ := hI
        (with_reducible apply WpL.call); (· exact rfl); (· exact Try.call23); (· exact Vals.found)
        refine (mul_any h hF hS).mono ?_
        rintro x w3 ⟨rfl, hI⟩
        exact ⟨_, by rw [hPi, hQk], WpL.nil ⟨hI, Env.set_same _ _ _⟩⟩
      (repeat (first | ((with_reducible apply RgF.det); (· exact rfl); (· exact rfl); (· exact Det.found2))))
      refine RgF.fin ?_
      clear hI hS hF
      rintro w ⟨F, hF, hS⟩
      (replace hS := (hS.take (pre := [.own A _ _ _ _ _]) Take.found); (try simp only [List.cons_append, List.nil_append] at hS))
      (refine Reach.walk ?_; (repeat (first | ((with_reducible refine AllSt.mk ?_); (try clear hS); intro w hS) | ((with_reducible refine AllVw.mk ?_); intro V hV))))
      rw [nv_set, hset] at hS
      (replace hS := (hS.take (pre := [F.blk g m, F.p, F.l, .own A _ _ _ _ _]) Take.found); (try simp only [List.cons_append, List.nil_append] at hS))
      exact ⟨hlk, ⟨F, hF, hS⟩, int_eq (by omega), rfl, rfl, rfl, rfl, rfl, rfl, rfl, rfl, rfl, rfl, rfl, trivial⟩
    · obtain rfl : k = n' := by omega
      have hfull : Gf.addRow m N (Gf.rs m (pe m p) (pe m q) i) (Gf.cf (pe m p) i) (pe m q) i k = (List.range N).map (Gf.rs m (pe m p) (pe m q) (i + 1)) := Gf.addRow_full h (by simp [hn'])
      rw [hfull] at hI
      (refine Reach.walk ?_; (repeat (first | ((with_reducible refine AllSt.mk ?_); (try clear hS); intro w hS) | ((with_reducible refine AllVw.mk ?_); intro V hV))))
      exact ⟨hlt, hI, int_eq (by omega), rfl, rfl, rfl, rfl, rfl, rfl, trivial⟩
  · obtain rfl : i = n := by omega
    obtain ⟨F, hF, hS⟩ := hI
    have htr : Gf.trim ((List.range N).map (Gf.rs m (pe m p) (pe m q) i)) = Gf.times m (pe m p) (pe m q) := by
      have := Gf.rs_trim (N := N) h (p := pe m p) (q := pe m q) (by simp; omega)
      rwa [show (pe m p).length = i by simp [hn]] at this
    have hRl : ((List.range N).map (Gf.rs m (pe m p) (pe m q) i)).length = N := by simp
    generalize (List.range N).map (Gf.rs m (pe m p) (pe m q) i) = R at *
    (replace hS := (hS.take (pre := [.own A _ _ _ _ _]) Take.found); (try simp only [List.cons_append, List.nil_append] at hS))
    (refine Reach.walk ?_; (repeat (first | ((with_reducible refine AllSt.mk ?_); (try clear hS); intro w hS) | ((with_reducible refine AllVw.mk ?_); intro V hV))))
    (with_reducible apply WpL.call); (· exact rfl); (· exact Try.call46); (· exact Vals.found)
    refine (trim_any (l := R) hRl hVA (by omega) (RdsV.whole .own (by simp [hRl])) hS).mono ?_
    rintro x w2 ⟨rfl, rfl⟩
    refine ⟨_, rfl, ?_⟩
    (refine Reach.walk ?_; (repeat (first | ((with_reducible refine AllSt.mk ?_); (try clear hS); intro w hS) | ((with_reducible refine AllVw.mk ?_); intro V hV))))
    (with_reducible apply doneQ_one Try.results27); (· exact slotFound)
    have hle : Gf.tl R ≤ N := by have := Gf.tl_le R; omega
    have h2 := hS.shrink hle
    rw [nv_take] at h2
    have h3 : St w0 M _ (.own A (Gf.tl R) N 3 1 (zv (nv (Gf.trim R))) :: F.blk g m :: F.p :: F.l :: L) := h2
    rw [← Gf.trim_length] at h3
    rw [← Gf.trim_length] at hle
    rw [← Gf.trim_length]
    rw [htr] at *
    exact ⟨A, N, rfl, ⟨hle, hVA.max, hVA.at_⟩, F, hF, h3.take (pre := [F.blk g m, F.p, F.l, .own A _ _ _ _ _]) Take.found⟩
end
end Go.Proofs.Ytkffgdccjgdiaaa
