/-
  What a device says of itself: the walks.
-/
import Derived.Test.YtdmnhhmnekkflaaHeaD
import Derived.Test.YtdmnhhmnekkflaaStN
namespace Go.Proofs.Ytdmnhhmnekkflaa
open Go.Fk Go.RowKit
attribute [local irreducible] Wp WpL Det thenQ blockQ
instance : SliceT Try.prog 43 76 := ⟨Try.underlying43⟩
instance : SizeT Try.prog 76 3 := ⟨by kernel_rfl⟩
instance : RowT Try.prog 76 := ⟨_, Try.underlying76, rfl⟩
instance : Elem Try.prog 76 3 24 (.agg #[.int .i64 0, .int .i64 0, .int .i64 0]) := ⟨by kernel_rfl, rfl, by decide⟩
instance : FieldT Try.prog 76 0 0 := ⟨by kernel_rfl⟩
instance : FieldT Try.prog 76 1 1 := ⟨by kernel_rfl⟩
instance : FieldT Try.prog 76 2 2 := ⟨by kernel_rfl⟩
instance : FieldT Try.prog 42 0 0 := ⟨by kernel_rfl⟩
instance : FieldT Try.prog 42 1 4 := ⟨by kernel_rfl⟩
instance : FieldT Try.prog 42 2 7 := ⟨by kernel_rfl⟩
instance : FieldT Try.prog 42 3 8 := ⟨by kernel_rfl⟩
instance : FieldT Try.prog 38 0 0 := ⟨by kernel_rfl⟩
instance : FieldT Try.prog 38 1 1 := ⟨by kernel_rfl⟩
instance : FieldT Try.prog 38 2 2 := ⟨by kernel_rfl⟩
instance : FieldT Try.prog 40 0 0 := ⟨by kernel_rfl⟩
instance : FieldT Try.prog 40 1 1 := ⟨by kernel_rfl⟩
instance : FieldT Try.prog 40 2 2 := ⟨by kernel_rfl⟩
instance : Elem Try.prog 34 1 24 (.slice none 0 0) := ⟨by kernel_rfl, rfl, by decide⟩

def clampN (z : Int) : Nat := (min (max z 0) 4294967295).toNat
theorem clampN_lt (z : Int) : clampN z < 4294967296 := by unfold clampN; omega
def four (z : Int) : List UInt8 := Crc.loB (clampN z) 4
theorem four_length (z : Int) : (four z).length = 4 := Crc.loB_length _ _
def firkinB : List UInt8 := [70, 73, 82, 75, 73, 78, 32, 49]
/-- Spaces: number, first sector, how many. -/
abbrev Sp := Int × Int × Int
def sv (ss : List Sp) : List Value := ss.flatMap fun s => [.int .i64 s.1, .int .i64 s.2.1, .int .i64 s.2.2]
def clamp8 (z : Int) : Nat := (min (max z 0) 255).toNat
def spaceB (s : Sp) : List UInt8 := [UInt8.ofNat (clamp8 s.1)] ++ four s.2.2 ++ four s.2.1
theorem spaceB_length (s : Sp) : (spaceB s).length = 9 := by simp [spaceB, four_length]
def identB (nums : List Int) (ss : List Sp) : List UInt8 := firkinB ++ nums.flatMap four ++ (ss.take 16).flatMap spaceB
def ident (nums : List Int) (ss : List Sp) : List UInt8 := identB nums ss ++ List.replicate (256 - (identB nums ss).length) 0
theorem flat_snoc {α : Type} (f : α → List UInt8) (l : List α) (d : α) {i : Nat} (h : i < l.length) : (l.take (i + 1)).flatMap f = (l.take i).flatMap f ++ f (l.getD i d) := by
  rw [List.take_succ_eq_append_getElem h, List.flatMap_append]
  simp [List.getD_eq_getElem?_getD, h]
theorem flat_length {α : Type} {f : α → List UInt8} {k : Nat} (hf : ∀ a, (f a).length = k) (l : List α) : (l.flatMap f).length = k * l.length := by
  induction l with
  | nil => rfl
  | cons a r ih => rw [List.flatMap_cons, List.length_append, hf, ih, List.length_cons, Nat.mul_succ]; omega
theorem sv_length (ss : List Sp) : (sv ss).length = 3 * ss.length := by
  induction ss with
  | nil => rfl
  | cons a r ih => simp only [sv, List.flatMap_cons, List.length_append, List.length_cons, List.length_nil] at ih ⊢; omega
theorem sv_at : ∀ (ss : List Sp) (i : Nat), i < ss.length → ((sv ss).drop (i * 3)).take 3 = [.int .i64 (ss.getD i (0, 0, 0)).1, .int .i64 (ss.getD i (0, 0, 0)).2.1, .int .i64 (ss.getD i (0, 0, 0)).2.2]
  | [], i, h => absurd h (Nat.not_lt_zero _)
  | s :: r, 0, _ => rfl
  | s :: r, i + 1, h => by
    have ih := sv_at r i (by simpa using h)
    rw [show (i + 1) * 3 = i * 3 + 3 by omega]
    exact ih
theorem sv_get {ss : List Sp} {i : Nat} (h : i < ss.length) {k : Nat} (hk : k < 3) : (sv ss)[i * 3 + k]? = [Value.int .i64 (ss.getD i (0, 0, 0)).1, .int .i64 (ss.getD i (0, 0, 0)).2.1, .int .i64 (ss.getD i (0, 0, 0)).2.2][k]? := by
  rw [← sv_at ss i h, List.getElem?_take, if_pos hk, List.getElem?_drop]

theorem put_any {gb n c : Nat} {A : Option Addr} {l : List UInt8} {z : Int} {w w0 : World} {M : Nat → Prop} {L : List Ch} (hn : l.length = n) (hk : n + 4 ≤ 140737488355328) (hV : IsVw A n c A 0) (hS : St w0 M w (.blk gb 34 [.slice A n c] :: .app A n c 5 1 (bv l) :: L)) :
    Calls Try.prog 30 #[.int .i64 z, .pointer (some ⟨gb, 0, none⟩)] w fun x w' => ∃ A' c', x = .returned (.tuple #[]) ∧ IsVw A' (n + 4) c' A' 0 ∧ St w0 M w' (.blk gb 34 [.slice A' (n + 4) c'] :: .app A' (n + 4) c' 5 1 (bv (l ++ four z)) :: L) := by
  (refine calls_of (P := Try.prog) _ Try.func30 rfl Try.ntmps30 (Nat.le_of_ble_eq_true rfl) ?_; dsimp only [argE, Nat.reduceAdd])
  (refine Reach.walk ?_; (repeat (first | ((with_reducible refine AllSt.mk ?_); (try clear hS); intro w hS) | ((with_reducible refine AllVw.mk ?_); intro V hV))))
  (with_reducible apply WpL.call); (· exact rfl); (· exact Try.call31); (· exact Vals.found)
  refine (lowAppend32A_any (m := clampN z) hn (clampN_lt z) hk hV hS.swap1).mono ?_
  clear hS
  rintro x w ⟨A', c', rfl, hV', hS⟩
  refine ⟨_, rfl, ?_⟩
  (refine Reach.walk ?_; (repeat (first | ((with_reducible refine AllSt.mk ?_); (try clear hS); intro w hS) | ((with_reducible refine AllVw.mk ?_); intro V hV))))
  (try with_reducible apply doneQ_end); (with_reducible apply doneQ_none Try.results30)
  exact ⟨A', c', rfl, hV', hS.swap1⟩

theorem identify_any {A : Option Addr} {n c : Nat} {ss : List Sp} {c0 c1 c2 c3 c4 c5 c6 c7 c8 c9 c10 free : Int} {w w0 : World} {M : Nat → Prop} {L : List Ch} (hn : n ≤ ss.length) (hV : IsVw A n c A 0) (hlen : n ≤ 140737488355328) (hS : St w0 M w L) (hr : Rds L A (sv ss)) :
    Calls Try.prog 18 #[.agg #[.int .i64 c0, .int .i64 c1, .int .i64 c2, .int .i64 c3, .int .i64 c4, .int .i64 c5, .int .i64 c6, .int .i64 c7, .int .i64 c8, .int .i64 c9, .int .i64 c10], .int .i64 free, .slice A n c] w fun x w' =>
      ∃ A' c', x = .returned (.slice A' 256 c') ∧ IsVw A' 256 c' A' 0 ∧ St w0 M w' (.app A' 256 c' 5 1 (bv (ident [c7, c4, c5, c6, c0, c1, c2, c8, free, (n : Int)] (ss.take n))) :: L) := by
  (refine calls_of (P := Try.prog) _ Try.func18 rfl Try.ntmps18 (Nat.le_of_ble_eq_true rfl) ?_; dsimp only [argE, Nat.reduceAdd])
  (refine Reach.walk ?_; (repeat (first | ((with_reducible refine AllSt.mk ?_); (try clear hS); intro w hS) | ((with_reducible refine AllVw.mk ?_); intro V hV))))
  ((with_reducible apply WpL.bx); (· assumption); (· exact rfl); (· exact Env.found); (· exact rfl); clear hS)
  intro gc w hS
  (refine Reach.walk ?_; (repeat (first | ((with_reducible refine AllSt.mk ?_); (try clear hS); intro w hS) | ((with_reducible refine AllVw.mk ?_); intro V hV))))
  ((with_reducible apply WpL.bs); (· assumption); (· exact rfl); (· exact BVals.found); (· exact oneAll_spec rfl); (· exact rfl); (· decide); (· exact listFound); clear hS)
  intro Ab w hVb hS
  (refine Reach.walk ?_; (repeat (first | ((with_reducible refine AllSt.mk ?_); (try clear hS); intro w hS) | ((with_reducible refine AllVw.mk ?_); intro V hV))))
  ((with_reducible apply WpL.mark); (· assumption); (· exact rfl); (· exact rfl); (· exact Swap.found); (· decide); clear hS; intro w hS)
  (refine Reach.walk ?_; (repeat (first | ((with_reducible refine AllSt.mk ?_); (try clear hS); intro w hS) | ((with_reducible refine AllVw.mk ?_); intro V hV))))
  ((with_reducible apply WpL.al); (· assumption); (· exact rfl); (· exact rfl); clear hS)
  intro gb w hS
  (refine Reach.walk ?_; (repeat (first | ((with_reducible refine AllSt.mk ?_); (try clear hS); intro w hS) | ((with_reducible refine AllVw.mk ?_); intro V hV))))
  ((with_reducible apply WpL.bs); (· assumption); (· exact rfl); (· exact BVals.found); (· exact oneAll_spec rfl); (· exact rfl); (· decide); (· exact listFound); clear hS)
  intro An w hVn hS
  have hnl : [c7, c4, c5, c6, c0, c1, c2, c8, free, (n : Int)].length = 10 := rfl
  generalize [c7, c4, c5, c6, c0, c1, c2, c8, free, (n : Int)] = nums at *
  (refine Reach.walk ?_; (repeat (first | ((with_reducible refine AllSt.mk ?_); (try clear hS); intro w hS) | ((with_reducible refine AllVw.mk ?_); intro V hV))))
  replace hS := (hS.take (pre := [.blk gb _ _, .app Ab _ _ _ _ _, .own An _ _ _ _ _]) Take.found)
  simp only [List.cons_append, List.nil_append] at hS
  replace hS := hS.drop3
  apply Wp.loopUp 10 (fun k e w' => ∃ Ab c', IsVw Ab (8 + 4 * k) c' Ab 0 ∧ St w0 M w' (.blk gb 34 [.slice Ab (8 + 4 * k) c'] :: .app Ab (8 + 4 * k) c' 5 1 (bv (firkinB ++ (nums.take k).flatMap four)) :: .own An 10 10 3 1 (zv nums) :: L) ∧
      e.Has [(43, .int .i64 (k : Nat)), (42, .int .i64 10), (41, .slice An 10 10), (8, .func (.func 30) #[] #[.pointer (some ⟨gb, 0, none⟩)]), (7, .pointer (some ⟨gb, 0, none⟩)), (2, .slice A n c)]) (Nat.zero_le 10)
    ⟨Ab, 8, hVb, hS, rfl, rfl, rfl, rfl, rfl, rfl, trivial⟩
  clear hS hVb
  rintro k e w hk ⟨Ab, cb, hVb, hS, he⟩
  obtain ⟨e0, rfl⟩ := he.eq
  clear he
  dsimp only [Env.sets]
  have hfl : firkinB.length = 8 := rfl
  have h4k : ((nums.take k).flatMap four).length = 4 * k := by rw [flat_length four_length, List.length_take]; omega
  by_cases hlt : k < 10
  · (refine Reach.walk ?_; (repeat (first | ((with_reducible refine AllSt.mk ?_); (try clear hS); intro w hS) | ((with_reducible refine AllVw.mk ?_); intro V hV))))
    (with_reducible apply WpL.callV); (· exact rfl); (· exact rfl); (· exact Try.call30); (· exact Vals.found)
    refine (put_any (by simp only [List.length_append]; omega) (by omega) hVb hS).mono ?_
    clear hS
    rintro x w ⟨A', c', rfl, hVb', hS⟩
    refine ⟨_, rfl, ?_⟩
    (refine Reach.walk ?_; (repeat (first | ((with_reducible refine AllSt.mk ?_); (try clear hS); intro w hS) | ((with_reducible refine AllVw.mk ?_); intro V hV))))
    exact ⟨hlt, A', c', hVb', by rw [flat_snoc four nums 0 (by omega), ← List.append_assoc]; exact hS, int_eq (by omega), rfl, rfl, rfl, rfl, rfl, trivial⟩
  obtain rfl : k = 10 := by omega
  rw [List.take_of_length_le (by omega)] at hS h4k
  generalize hhead : firkinB ++ nums.flatMap four = head at *
  have hhl : head.length = 48 := by rw [← hhead, List.length_append]; omega
  clear h4k
  (refine Reach.walk ?_; (repeat (first | ((with_reducible refine AllSt.mk ?_); (try clear hS); intro w hS) | ((with_reducible refine AllVw.mk ?_); intro V hV))))
  have hm0 : (min (n : Int) 16).toNat = min n 16 := by omega
  generalize (min (n : Int) 16).toNat = m at *
  have hmn : m ≤ n := by omega
  apply Wp.loopUp m (fun j e w' => ∃ Ab c', IsVw Ab (48 + 9 * j) c' Ab 0 ∧ St w0 M w' (.blk gb 34 [.slice Ab (48 + 9 * j) c'] :: .app Ab (48 + 9 * j) c' 5 1 (bv (head ++ (ss.take j).flatMap spaceB)) :: .own An 10 10 3 1 (zv nums) :: L) ∧
      e.Has [(57, .int .i64 (j : Nat)), (56, .int .i64 (m : Nat)), (55, .slice V m c), (8, .func (.func 30) #[] #[.pointer (some ⟨gb, 0, none⟩)]), (7, .pointer (some ⟨gb, 0, none⟩))]) (Nat.zero_le m)
    ⟨Ab, cb, hVb, by simpa using hS, rfl, rfl, rfl, rfl, rfl, trivial⟩
  clear hS hVb
  rintro j e w hj ⟨Ab, cb, hVb, hS, he⟩
  obtain ⟨e0, rfl⟩ := he.eq
  clear he
  dsimp only [Env.sets]
  have h9j : ((ss.take j).flatMap spaceB).length = 9 * j := by rw [flat_length spaceB_length, List.length_take]; omega
  by_cases hlt : j < m
  · (refine Reach.walk ?_; (repeat (first | ((with_reducible refine AllSt.mk ?_); (try clear hS); intro w hS) | ((with_reducible refine AllVw.mk ?_); intro V hV))))
    refine WpL.ldMid (n := 3) (k := 0 + j * 3) hS rfl rfl (.there (.there (.there hr))) (by rw [sv_length]; omega) ?_
    rw [Nat.zero_add, sv_at ss j (by omega)]
    generalize hsp : ss.getD j (0, 0, 0) = sp
    (refine Reach.walk ?_; (repeat (first | ((with_reducible refine AllSt.mk ?_); (try clear hS); intro w hS) | ((with_reducible refine AllVw.mk ?_); intro V hV))))
    ((with_reducible apply WpL.al); (· assumption); (· exact rfl); (· exact rfl); clear hS)
    intro gs w hS
    (refine Reach.walk ?_; (repeat (first | ((with_reducible refine AllSt.mk ?_); (try clear hS); intro w hS) | ((with_reducible refine AllVw.mk ?_); intro V hV))))
    skip
    (refine Reach.walk ?_; (repeat (first | ((with_reducible refine AllSt.mk ?_); (try clear hS); intro w hS) | ((with_reducible refine AllVw.mk ?_); intro V hV))))
    ((with_reducible apply WpL.bs); (· assumption); (· exact rfl); (· exact BVals.found); (· exact oneAll_spec rfl); (· exact rfl); (· decide); (· exact listFound); clear hS)
    intro A2 w hV2 hS
    (refine Reach.walk ?_; (repeat (first | ((with_reducible refine AllSt.mk ?_); (try clear hS); intro w hS) | ((with_reducible refine AllVw.mk ?_); intro V hV))))
    ((with_reducible apply WpL.appA); (· assumption); (· exact rfl); (· exact rfl); (· exact rfl); (· exact Sel.found); (· simp only [Nat.mul_one]; exact RdsV.found); (· exact onesFound); (· exact catFound); (· omega); (· omega); clear hS)
    intro A3 c3 w hV3 hS
    (refine Reach.walk ?_; (repeat (first | ((with_reducible refine AllSt.mk ?_); (try clear hS); intro w hS) | ((with_reducible refine AllVw.mk ?_); intro V hV))))
    replace hS := (hS.take (pre := [.blk gb _ _, .app A3 _ _ _ _ _]) Take.found)
    simp only [List.cons_append, List.nil_append] at hS
    (with_reducible apply WpL.callV); (· exact rfl); (· exact rfl); (· exact Try.call30); (· exact Vals.found)
    refine (put_any (by simp only [List.length_append, List.length_cons, List.length_nil]; omega) (by omega) hV3 hS).mono ?_
    clear hS
    rintro x w ⟨A4, c4', rfl, hV4, hS⟩
    refine ⟨_, rfl, ?_⟩
    (refine Reach.walk ?_; (repeat (first | ((with_reducible refine AllSt.mk ?_); (try clear hS); intro w hS) | ((with_reducible refine AllVw.mk ?_); intro V hV))))
    (with_reducible apply WpL.callV); (· exact rfl); (· exact rfl); (· exact Try.call30); (· exact Vals.found)
    refine (put_any (by simp only [List.length_append, List.length_cons, List.length_nil, four_length]; omega) (by omega) hV4 hS).mono ?_
    clear hS
    rintro x w ⟨A5, c5', rfl, hV5, hS⟩
    refine ⟨_, rfl, ?_⟩
    (refine Reach.walk ?_; (repeat (first | ((with_reducible refine AllSt.mk ?_); (try clear hS); intro w hS) | ((with_reducible refine AllVw.mk ?_); intro V hV))))
    replace hS := (hS.take (pre := [.blk gb _ _, .app A5 _ _ _ _ _, .own An _ _ _ _ _]) Take.found)
    simp only [List.cons_append, List.nil_append] at hS
    replace hS := hS.drop3.drop3
    refine ⟨hlt, A5, c5', hV5, ?_, int_eq (by omega), rfl, rfl, rfl, rfl, trivial⟩
    rw [flat_snoc spaceB ss (0, 0, 0) (by omega), hsp, ← List.append_assoc]
    simp only [spaceB, ← List.append_assoc]
    exact hS
  · obtain rfl : j = m := by omega
    (refine Reach.walk ?_; (repeat (first | ((with_reducible refine AllSt.mk ?_); (try clear hS); intro w hS) | ((with_reducible refine AllVw.mk ?_); intro V hV))))
    ((with_reducible apply WpL.appZ); (· assumption); (· exact rfl); (· exact rfl); (· exact rfl); (· exact natFound); (· assumption); (· exact Sel.found); (· omega); clear hS)
    intro A6 c6' w hV6 hS
    (refine Reach.walk ?_; (repeat (first | ((with_reducible refine AllSt.mk ?_); (try clear hS); intro w hS) | ((with_reducible refine AllVw.mk ?_); intro V hV))))
    (with_reducible apply doneQ_one Try.results18); (· exact slotFound)
    have e1 : 48 + 9 * j + (256 - (48 + 9 * j)) = 256 := by omega
    have e2 : ident nums (ss.take n) = head ++ (ss.take j).flatMap spaceB ++ List.replicate (256 - (48 + 9 * j)) 0 := by
      unfold ident identB
      rw [List.take_take, hhead, Nat.min_comm, ← hm0, List.length_append, hhl, h9j]
    rw [e1] at hV6 hS ⊢
    rw [e2]
    exact ⟨A6, c6', rfl, hV6, hS.drop1.drop1⟩
end Go.Proofs.Ytdmnhhmnekkflaa
