/-
  HealthBack, HealthTurned: walks.
-/
import Derived.Test.YtdmnhhmnekkflaaHeaD
import Derived.Test.YtdmnhhmnekkflaaHeaL
import Derived.Test.YtdmnhhmnekkflaaCrcM
namespace Go.Proofs.Ytdmnhhmnekkflaa
open Go.Fk Go.RowKit
attribute [local irreducible] Wp WpL Det thenQ blockQ

theorem healthBack_any (A1 A2 : Option Addr) (z1 z2 : List Int) (n1 n2 c1 c2 : Nat) (hl1 : n1 ≤ z1.length) (hl2 : n2 ≤ z2.length) (hv1 : IsVw A1 n1 c1 A1 0) (hv2 : IsVw A2 n2 c2 A2 0) (hn1 : n1 ≤ 140737488355328) (hn2 : n2 ≤ 140737488355328)
    (hw2 : ∀ x ∈ z2, x ≤ 9223372036854775807) (W : World) (hr1 : Rd W A1 (zv z1)) (hr2 : Rd W A2 (zv z2)) :
    Calls Try.prog 6 #[.slice A1 n1 c1, .slice A2 n2 c2] W fun x w' => x = .returned (.bool true) ∧ Below W.heap.size W w' := by
  have hS := ((St.start W).startRo hr1).startRo hr2
  clear hr1 hr2
  (refine calls_of (P := Try.prog) _ Try.func6 rfl Try.ntmps6 (Nat.le_of_ble_eq_true rfl) ?_; dsimp only [argE, Nat.reduceAdd])
  (refine Reach.walk ?_; (repeat (first | ((with_reducible refine AllSt.mk ?_); (try clear hS); intro w hS) | ((with_reducible refine AllVw.mk ?_); intro V hV))))
  (with_reducible apply WpL.call); (· exact rfl); (· exact Try.call8); (· exact Vals.found)
  refine (awake_any W).mono ?_
  rintro x w ⟨rfl, hb⟩
  refine ⟨_, rfl, ?_⟩
  replace hS := hS.below hb
  clear hb
  (refine Reach.walk ?_; (repeat (first | ((with_reducible refine AllSt.mk ?_); (try clear hS); intro w hS) | ((with_reducible refine AllVw.mk ?_); intro V hV))))
  (with_reducible apply WpL.call); (· exact rfl); (· exact Try.call9); (· exact Vals.found)
  refine (new_any _).mono ?_
  rintro x w ⟨g, rfl, hS1⟩
  refine ⟨_, rfl, ?_⟩
  replace hS := hS.back Take.nil hS1 rfl
  clear hS1
  (refine Reach.walk ?_; (repeat (first | ((with_reducible refine AllSt.mk ?_); (try clear hS); intro w hS) | ((with_reducible refine AllVw.mk ?_); intro V hV))))
  apply Wp.loopUp 100 (fun i e w' => ∃ ns, Small ns ∧ St W (feet []) w' [.blk g 66 (logC ns false), .ro A2 (zv z2), .ro A1 (zv z1)] ∧
      e.Has [(7, .int .i64 (i : Nat)), (0, .slice A1 n1 c1), (1, .slice A2 n2 c2), (6, logP g)]) (Nat.zero_le 100)
    ⟨_, Small.zero, hS, rfl, rfl, rfl, rfl, trivial⟩
  clear hS
  rintro i e w hi ⟨ns, hs, hS, he⟩
  obtain ⟨e0, rfl⟩ := he.eq
  clear he
  dsimp only [Env.sets]
  (repeat (with_reducible apply Wp.seq))
  refine Wp.cut (fun e' w' => w' = w ∧ e'.Has [(29, .bool (decide (i < n1 ∧ i < n2 ∧ i < 100))), (7, .int .i64 (i : Nat)), (0, .slice A1 n1 c1), (1, .slice A2 n2 c2), (6, logP g)]) ?_ ?_
  · have h : (¬ i < n1) ∨ (i < n1 ∧ ¬ i < n2) ∨ (i < n1 ∧ i < n2 ∧ ¬ i < 100) ∨ (i < n1 ∧ i < n2 ∧ i < 100) := by omega
    rcases h with h1 | ⟨h1, h2⟩ | ⟨h1, h2, h3⟩ | ⟨h1, h2, h3⟩
    all_goals
      (refine Reach.walk ?_; (repeat (first | ((with_reducible refine AllSt.mk ?_); (try clear hS); intro w hS) | ((with_reducible refine AllVw.mk ?_); intro V hV))))
      exact ⟨rfl, bool_eq (by first | exact decide_eq_decide.2 (by omega) | exact (decide_eq_false (by omega)).symm | exact (decide_eq_true (by omega)).symm), rfl, rfl, rfl, rfl, trivial⟩
  rintro e w' ⟨rfl, he⟩
  obtain ⟨e0, rfl⟩ := he.eq
  clear he
  dsimp only [Env.sets]
  by_cases hgo : i < n1 ∧ i < n2 ∧ i < 100
  · have ⟨h1, h2, h3⟩ := hgo
    have hx2 := getD_le (by decide) hw2 i
    (refine Reach.walk ?_; (repeat (first | ((with_reducible refine AllSt.mk ?_); (try clear hS); intro w hS) | ((with_reducible refine AllVw.mk ?_); intro V hV))))
    (with_reducible apply WpL.call); (· exact rfl); (· exact Try.call14); (· exact Vals.found)
    refine (of_any _ hS (LogIn.blk hs.1 _)).mono ?_
    rintro x w ⟨rfl, rfl⟩
    refine ⟨_, rfl, ?_⟩
    (refine Reach.walk ?_; (repeat (first | ((with_reducible refine AllSt.mk ?_); (try clear hS); intro w hS) | ((with_reducible refine AllVw.mk ?_); intro V hV))))
    (refine Wp.drawD 9 (by kernel_rfl) (by kernel_rfl) rfl ?_; dsimp only [List.take, List.drop])
    (refine Reach.rwalk ?_; (repeat (first | ((with_reducible refine AllSt.mk ?_); (try clear hS); intro w hS) | ((with_reducible refine AllVw.mk ?_); intro V hV))))
    (refine RgD.fin0 fun w hb => ?_; replace hS := hS.below hb; clear hb)
    (refine Reach.walk ?_; (repeat (first | ((with_reducible refine AllSt.mk ?_); (try clear hS); intro w hS) | ((with_reducible refine AllVw.mk ?_); intro V hV))))
    (with_reducible apply WpL.call); (· exact rfl); (· exact Try.call11); (· exact Vals.found)
    refine (add_any hs _ _ hx2 hS).mono ?_
    clear hS
    rintro x w ⟨rfl, hS⟩
    refine ⟨_, rfl, ?_⟩
    have hs' := hs.add (z1.getD i 0) (z2.getD i 0)
    (refine Reach.walk ?_; (repeat (first | ((with_reducible refine AllSt.mk ?_); (try clear hS); intro w hS) | ((with_reducible refine AllVw.mk ?_); intro V hV))))
    (with_reducible apply WpL.call); (· exact rfl); (· exact Try.call14); (· exact Vals.found)
    refine (of_any _ hS (LogIn.blk hs'.1 _)).mono ?_
    rintro x w1 ⟨rfl, rfl⟩
    refine ⟨_, rfl, ?_⟩
    have hrise := cOf_rises hs (z1.getD i 0) (z2.getD i 0)
    (refine Reach.walk ?_; (repeat (first | ((with_reducible refine AllSt.mk ?_); (try clear hS); intro w hS) | ((with_reducible refine AllVw.mk ?_); intro V hV))))
    exact ⟨h3, _, hs', hS, int_eq (by omega), rfl, rfl, rfl, trivial⟩
  · have hlen := hs.1
    have hsl : (Crc.sealed (logB ns false)).length = 89 := by rw [Crc.sealed_length, logB_length hlen]
    (refine Reach.walk ?_; (repeat (first | ((with_reducible refine AllSt.mk ?_); (try clear hS); intro w hS) | ((with_reducible refine AllVw.mk ?_); intro V hV))))
    (with_reducible apply WpL.call); (· exact rfl); (· exact Try.call16); (· exact Vals.found)
    refine (bytes_any hs hS (LogIn.blk hlen false)).mono ?_
    clear hS
    rintro x w ⟨A, c, rfl, hV, hS⟩
    refine ⟨_, rfl, ?_⟩
    (refine Reach.walk ?_; (repeat (first | ((with_reducible refine AllSt.mk ?_); (try clear hS); intro w hS) | ((with_reducible refine AllVw.mk ?_); intro V hV))))
    (with_reducible apply WpL.call); (· exact rfl); (· exact Try.call21); (· exact Vals.found)
    refine (parse_any hsl hS RdsV.found hV.le (by decide)).mono ?_
    clear hS
    rintro x w (⟨_, gk, rfl, hS⟩ | ⟨hE, _⟩)
    rotate_left
    · exact absurd (parseE_log hs false) hE
    rw [parseNs_log hs, parseOnly_log hs] at hS
    refine ⟨_, rfl, ?_⟩
    (refine Reach.walk ?_; (repeat (first | ((with_reducible refine AllSt.mk ?_); (try clear hS); intro w hS) | ((with_reducible refine AllVw.mk ?_); intro V hV))))
    apply Wp.loopUp 10 (fun i e w' => w' = w ∧ e.Has [(11, .int .i64 (i : Nat)), (6, logP g), (9, logP gk)]) (Nat.zero_le 10)
      ⟨rfl, rfl, rfl, rfl, trivial⟩
    rintro i e w hi ⟨rfl, he⟩
    obtain ⟨e0, rfl⟩ := he.eq
    clear he
    dsimp only [Env.sets]
    by_cases hlt : i < 10
    · (refine Reach.walk ?_; (repeat (first | ((with_reducible refine AllSt.mk ?_); (try clear hS); intro w hS) | ((with_reducible refine AllVw.mk ?_); intro V hV))))
      (with_reducible apply WpL.call); (· exact rfl); (· exact Try.call14); (· exact Vals.found)
      refine (of_any _ hS (LogIn.blk hlen false)).mono ?_
      rintro x w1 ⟨rfl, rfl⟩
      refine ⟨_, rfl, ?_⟩
      (refine Reach.walk ?_; (repeat (first | ((with_reducible refine AllSt.mk ?_); (try clear hS); intro w hS) | ((with_reducible refine AllVw.mk ?_); intro V hV))))
      (with_reducible apply WpL.call); (· exact rfl); (· exact Try.call14); (· exact Vals.found)
      refine (of_any _ hS (((LogIn.blk hlen false).there _).there _)).mono ?_
      rintro x w1 ⟨rfl, rfl⟩
      refine ⟨_, rfl, ?_⟩
      (refine Reach.walk ?_; (repeat (first | ((with_reducible refine AllSt.mk ?_); (try clear hS); intro w hS) | ((with_reducible refine AllVw.mk ?_); intro V hV))))
      exact ⟨hlt, rfl, int_eq (by omega), rfl, rfl, trivial⟩
    · (refine Reach.walk ?_; (repeat (first | ((with_reducible refine AllSt.mk ?_); (try clear hS); intro w hS) | ((with_reducible refine AllVw.mk ?_); intro V hV))))
      (with_reducible apply doneQ_one Try.results6); (· exact slotFound)
      exact ⟨rfl, hS.toBelow⟩
end Go.Proofs.Ytdmnhhmnekkflaa
