/-
  HealthSays: the walk.
-/
import Derived.Test.YtdmnhhmnekkflaaHeaI
namespace Go.Proofs.Ytdmnhhmnekkflaa
open Go.Fk Go.RowKit
attribute [local irreducible] Wp WpL Det thenQ blockQ
instance : SizeT Try.prog 42 11 := ⟨by kernel_rfl⟩
instance : RowT Try.prog 42 := ⟨_, Try.underlying42, rfl⟩
section
variable {A : Option Addr} {n c : Nat} {ss : List Sp} {c0 c1 c2 c3 c4 c5 c6 c7 c8 c9 c10 free : Int} {w : World}
theorem identifyQ (hn : n ≤ ss.length) (hV : IsVw A n c A 0) (hlen : n ≤ 140737488355328) (hr : Rd w A (sv ss)) :
    Calls Try.prog 18 #[.agg #[.int .i64 c0, .int .i64 c1, .int .i64 c2, .int .i64 c3, .int .i64 c4, .int .i64 c5, .int .i64 c6, .int .i64 c7, .int .i64 c8, .int .i64 c9, .int .i64 c10], .int .i64 free, .slice A n c] w fun x w' =>
      ∃ A' c', x = .returned (.slice A' 256 c') ∧ Below w.heap.size w w' ∧ Rd w' A' (bv (ident [c7, c4, c5, c6, c0, c1, c2, c8, free, (n : Int)] (ss.take n))) := by
  refine (identify_any hn hV hlen ((St.start w).startRo hr) .ro).mono ?_
  rintro x w' ⟨A', c', rfl, _, hS⟩
  exact ⟨A', c', rfl, hS.toBelow, Rds.app.rd hS⟩
theorem refIdentifyQ (hn : n ≤ ss.length) (hV : IsVw A n c A 0) (hlen : n ≤ 140737488355328) (hr : Rd w A (sv ss)) :
    Calls Try.prog 19 #[.agg #[.int .i64 c0, .int .i64 c1, .int .i64 c2, .int .i64 c3, .int .i64 c4, .int .i64 c5, .int .i64 c6, .int .i64 c7, .int .i64 c8, .int .i64 c9, .int .i64 c10], .int .i64 free, .slice A n c] w fun x w' =>
      ∃ A' c', x = .returned (.slice A' 256 c') ∧ Below w.heap.size w w' ∧ Rd w' A' (bv (ident [c7, c4, c5, c6, c0, c1, c2, c8, free, (n : Int)] (ss.take n))) := by
  refine (refIdentify_any hn hV hlen ((St.start w).startRo hr) .ro).mono ?_
  rintro x w' ⟨A', c', rfl, _, hS⟩
  exact ⟨A', c', rfl, hS.toBelow, Rds.app.rd hS⟩
end
theorem ident_length {nums : List Int} (h : nums.length = 10) (ss : List Sp) : (ident nums ss).length = 256 := by
  have h1 : (identB nums ss).length ≤ 256 := by
    unfold identB
    rw [List.length_append, List.length_append, flat_length four_length, flat_length spaceB_length, List.length_take]
    have : firkinB.length = 8 := rfl
    omega
  unfold ident
  rw [List.length_append, List.length_replicate]
  omega

theorem healthSays_any {A : Option Addr} {n c : Nat} {ss : List Sp} {c0 c1 c2 c3 c4 c5 c6 c7 c8 c9 c10 free : Int} (hn : n ≤ ss.length) (hV : IsVw A n c A 0) (hlen : n ≤ 140737488355328) (W : World) (hr : Rd W A (sv ss)) :
    Calls Try.prog 4 #[.agg #[.int .i64 c0, .int .i64 c1, .int .i64 c2, .int .i64 c3, .int .i64 c4, .int .i64 c5, .int .i64 c6, .int .i64 c7, .int .i64 c8, .int .i64 c9, .int .i64 c10], .int .i64 free, .slice A n c] W fun x w' => x = .returned (.bool true) ∧ Below W.heap.size W w' := by
  have hS := (St.start W).startRo hr
  clear hr
  (refine calls_of (P := Try.prog) _ Try.func4 rfl Try.ntmps4 (Nat.le_of_ble_eq_true rfl) ?_; dsimp only [argE, Nat.reduceAdd])
  (refine Reach.walk ?_; (repeat (first | ((with_reducible refine AllSt.mk ?_); (try clear hS); intro w hS) | ((with_reducible refine AllVw.mk ?_); intro V hV))))
  ((with_reducible apply WpL.bx); (· assumption); (· exact rfl); (· exact Env.found); (· exact rfl); clear hS)
  intro gc w hS
  (refine Reach.walk ?_; (repeat (first | ((with_reducible refine AllSt.mk ?_); (try clear hS); intro w hS) | ((with_reducible refine AllVw.mk ?_); intro V hV))))
  (with_reducible apply WpL.call); (· exact rfl); (· exact Try.call8); (· exact Vals.found)
  refine (awake_any w).mono ?_
  rintro x w ⟨rfl, hb⟩
  refine ⟨_, rfl, ?_⟩
  replace hS := hS.below hb
  clear hb
  have hil := ident_length (nums := [c7, c4, c5, c6, c0, c1, c2, c8, free, (n : Int)]) rfl (ss.take n)
  generalize hI : ident [c7, c4, c5, c6, c0, c1, c2, c8, free, (n : Int)] (ss.take n) = I at *
  (refine Reach.walk ?_; (repeat (first | ((with_reducible refine AllSt.mk ?_); (try clear hS); intro w hS) | ((with_reducible refine AllVw.mk ?_); intro V hV))))
  (refine Wp.drawD 12 (by kernel_rfl) (by kernel_rfl) rfl ?_; dsimp only [List.take, List.drop])
  (refine Reach.rwalk ?_; (repeat (first | ((with_reducible refine AllSt.mk ?_); (try clear hS); intro w hS) | ((with_reducible refine AllVw.mk ?_); intro V hV))))
  skip
  (refine Reach.rwalk ?_; (repeat (first | ((with_reducible refine AllSt.mk ?_); (try clear hS); intro w hS) | ((with_reducible refine AllVw.mk ?_); intro V hV))))
  refine RgD.spec0 (ReadsAs I 256) rfl rfl rfl rfl (fun _ _ _ h hb => h.below hb) (fun w1 hb1 => ?_) ?_
  · (with_reducible apply WpL.call); (· exact rfl); (· exact Try.call18); (· exact Vals.found)
    refine (identifyQ hn hV hlen ((show Rds _ A (sv ss) from .there .ro).rd (hS.below hb1))).mono ?_
    rintro x w2 ⟨A', c', rfl, hb2, hr2⟩
    rw [hI] at hr2
    exact ⟨_, rfl, WpL.nil ⟨⟨hb1.on hb2, hb2⟩, A', c', Env.set_same _ _ _, hr2⟩⟩
  (refine Reach.rwalk ?_; (repeat (first | ((with_reducible refine AllSt.mk ?_); (try clear hS); intro w hS) | ((with_reducible refine AllVw.mk ?_); intro V hV))))
  refine RgD.known1 (c := .string ⟨I.toArray⟩) rfl rfl rfl rfl (fun w1 hb1 x hx => ?_) ?_
  · obtain ⟨A', c', rfl, hr⟩ := hx
    refine WpL.str rfl rfl hr hil ?_
    exact WpL.nil ⟨⟨hb1, Below.refl _ _⟩, Env.set_same _ _ _⟩
  (refine Reach.rwalk ?_; (repeat (first | ((with_reducible refine AllSt.mk ?_); (try clear hS); intro w hS) | ((with_reducible refine AllVw.mk ?_); intro V hV))))
  skip
  (refine Reach.rwalk ?_; (repeat (first | ((with_reducible refine AllSt.mk ?_); (try clear hS); intro w hS) | ((with_reducible refine AllVw.mk ?_); intro V hV))))
  refine RgD.spec0 (ReadsAs I 256) rfl rfl rfl rfl (fun _ _ _ h hb => h.below hb) (fun w1 hb1 => ?_) ?_
  · (with_reducible apply WpL.call); (· exact rfl); (· exact Try.call19); (· exact Vals.found)
    refine (refIdentifyQ hn hV hlen ((show Rds _ A (sv ss) from .there .ro).rd (hS.below hb1))).mono ?_
    rintro x w2 ⟨A', c', rfl, hb2, hr2⟩
    rw [hI] at hr2
    exact ⟨_, rfl, WpL.nil ⟨⟨hb1.on hb2, hb2⟩, A', c', Env.set_same _ _ _, hr2⟩⟩
  (refine Reach.rwalk ?_; (repeat (first | ((with_reducible refine AllSt.mk ?_); (try clear hS); intro w hS) | ((with_reducible refine AllVw.mk ?_); intro V hV))))
  refine RgD.known1 (c := .string ⟨I.toArray⟩) rfl rfl rfl rfl (fun w1 hb1 x hx => ?_) ?_
  · obtain ⟨A', c', rfl, hr⟩ := hx
    refine WpL.str rfl rfl hr hil ?_
    exact WpL.nil ⟨⟨hb1, Below.refl _ _⟩, Env.set_same _ _ _⟩
  (refine Reach.rwalk ?_; (repeat (first | ((with_reducible refine AllSt.mk ?_); (try clear hS); intro w hS) | ((with_reducible refine AllVw.mk ?_); intro V hV))))
  refine RgD.fin fun w hb => ?_
  intro x hx y hy
  dsimp only [AllE]
  replace hS := hS.below hb
  (refine Reach.walk ?_; (repeat (first | ((with_reducible refine AllSt.mk ?_); (try clear hS); intro w hS) | ((with_reducible refine AllVw.mk ?_); intro V hV))))
  (with_reducible apply doneQ_one Try.results4); (· exact slotFound)
  exact ⟨by simp, hS.toBelow⟩
end Go.Proofs.Ytdmnhhmnekkflaa
