/-
  HealthCounts, HealthBack, HealthParses: walks.
-/
import Derived.Test.YtdmnhhmnekkflaaHeaC
namespace Go.Proofs.Ytdmnhhmnekkflaa
open Go.Fk Go.RowKit
attribute [local irreducible] Wp WpL Det thenQ blockQ
instance : IntT Try.prog 47 .i64 := ⟨Try.underlying47⟩

theorem awake_any (w : World) : Calls Try.prog 8 #[] w fun x w' => x = .returned (.bool true) ∧ Below w.heap.size w w' := by
  have hS := St.start w
  (refine calls_of (P := Try.prog) _ Try.func8 rfl Try.ntmps8 (Nat.le_of_ble_eq_true rfl) ?_; dsimp only [argE, Nat.reduceAdd])
  (refine Reach.walk ?_; (repeat (first | ((with_reducible refine AllSt.mk ?_); (try clear hS); intro w hS) | ((with_reducible refine AllVw.mk ?_); intro V hV))))
  (with_reducible apply WpL.call); (· exact rfl); (· exact Try.call9); (· exact Vals.found)
  refine (new_any w).mono ?_
  clear hS
  rintro x w ⟨g, rfl, hS⟩
  refine ⟨_, rfl, ?_⟩
  (refine Reach.walk ?_; (repeat (first | ((with_reducible refine AllSt.mk ?_); (try clear hS); intro w hS) | ((with_reducible refine AllVw.mk ?_); intro V hV))))
  (with_reducible apply WpL.call); (· exact rfl); (· exact Try.call11); (· exact Vals.found)
  refine (add_any Small.zero 0 3 (by decide) hS).mono ?_
  clear hS
  rintro x w ⟨rfl, hS⟩
  refine ⟨_, rfl, ?_⟩
  (refine Reach.walk ?_; (repeat (first | ((with_reducible refine AllSt.mk ?_); (try clear hS); intro w hS) | ((with_reducible refine AllVw.mk ?_); intro V hV))))
  (with_reducible apply WpL.call); (· exact rfl); (· exact Try.call11); (· exact Vals.found)
  refine (add_any (Small.zero.add 0 3) 0 (-1) (by decide) hS).mono ?_
  clear hS
  rintro x w ⟨rfl, hS⟩
  refine ⟨_, rfl, ?_⟩
  (refine Reach.walk ?_; (repeat (first | ((with_reducible refine AllSt.mk ?_); (try clear hS); intro w hS) | ((with_reducible refine AllVw.mk ?_); intro V hV))))
  (with_reducible apply WpL.call); (· exact rfl); (· exact Try.call11); (· exact Vals.found)
  refine (add_any ((Small.zero.add 0 3).add 0 (-1)) 99 1 (by decide) hS).mono ?_
  clear hS
  rintro x w ⟨rfl, hS⟩
  refine ⟨_, rfl, ?_⟩
  have hsm := ((Small.zero.add 0 3).add 0 (-1)).add 99 1
  have e0 : cOf (addN (addN (addN (List.replicate 10 0) 0 3) 0 (-1)) 99 1) 0 = 3 := by decide
  have e1 : cOf (addN (addN (addN (List.replicate 10 0) 0 3) 0 (-1)) 99 1) 99 = 0 := by decide
  have e2 : (Crc.sealed (logB (addN (addN (addN (List.replicate 10 0) 0 3) 0 (-1)) 99 1) false)).getD 4 0 = 3 := by kernel_rfl
  have e3 : List.take 4 (List.drop 0 (Crc.sealed (logB (addN (addN (addN (List.replicate 10 0) 0 3) 0 (-1)) 99 1) false))) = [70, 76, 79, 71] := by kernel_rfl
  have e4 : (Crc.sealed (logB (addN (addN (addN (List.replicate 10 0) 0 3) 0 (-1)) 99 1) false)).length = 89 := by rw [Crc.sealed_length, logB_length hsm.1]
  generalize addN (addN (addN (List.replicate 10 0) 0 3) 0 (-1)) 99 1 = ns at *
  (refine Reach.walk ?_; (repeat (first | ((with_reducible refine AllSt.mk ?_); (try clear hS); intro w hS) | ((with_reducible refine AllVw.mk ?_); intro V hV))))
  (with_reducible apply WpL.call); (· exact rfl); (· exact Try.call16); (· exact Vals.found)
  refine (bytes_any hsm hS (LogIn.blk hsm.1 _)).mono ?_
  clear hS
  rintro x w ⟨A, c, rfl, hV, hS⟩
  refine ⟨_, rfl, ?_⟩
  generalize Crc.sealed (logB ns false) = l at *
  (refine Reach.walk ?_; (repeat (first | ((with_reducible refine AllSt.mk ?_); (try clear hS); intro w hS) | ((with_reducible refine AllVw.mk ?_); intro V hV))))
  (with_reducible apply WpL.call); (· exact rfl); (· exact Try.call14); (· exact Vals.found)
  refine (of_any _ hS ((LogIn.blk hsm.1 _).there _)).mono ?_
  rintro x w1 ⟨rfl, rfl⟩
  refine ⟨_, rfl, ?_⟩
  rw [e0]
  (refine Reach.walk ?_; (repeat (first | ((with_reducible refine AllSt.mk ?_); (try clear hS); intro w hS) | ((with_reducible refine AllVw.mk ?_); intro V hV))))
  (with_reducible apply WpL.call); (· exact rfl); (· exact Try.call14); (· exact Vals.found)
  refine (of_any _ hS ((LogIn.blk hsm.1 _).there _)).mono ?_
  rintro x w1 ⟨rfl, rfl⟩
  refine ⟨_, rfl, ?_⟩
  rw [e1]
  have e3' := decide_eq_true e3
  have e2' : (l.getD 4 0).toNat = 3 := by rw [e2]; rfl
  (refine Reach.walk ?_; (repeat (first | ((with_reducible refine AllSt.mk ?_); (try clear hS); intro w hS) | ((with_reducible refine AllVw.mk ?_); intro V hV))))
  (with_reducible apply doneQ_one Try.results8); (· exact slotFound)
  exact ⟨by rw [e2']; rfl, hS.toBelow⟩

theorem bool_eq {a b : Bool} (h : a = b) : Value.bool a = Value.bool b := by rw [h]
theorem getD_le {z : List Int} {b : Int} (hb : 0 ≤ b) (h : ∀ x ∈ z, x ≤ b) (i : Nat) : z.getD i 0 ≤ b := by
  rw [List.getD_eq_getElem?_getD]
  cases hi : z[i]? with
  | none => simpa using hb
  | some x => exact h x (List.mem_of_getElem? hi)

theorem healthCounts_any (A1 A2 : Option Addr) (z1 z2 : List Int) (n1 n2 c1 c2 : Nat) (only : Bool) (hl1 : n1 ≤ z1.length) (hl2 : n2 ≤ z2.length) (hv1 : IsVw A1 n1 c1 A1 0) (hv2 : IsVw A2 n2 c2 A2 0) (hn1 : n1 ≤ 140737488355328) (hn2 : n2 ≤ 140737488355328)
    (hw2 : ∀ x ∈ z2, x ≤ 9223372036854775807) (W : World) (hr1 : Rd W A1 (zv z1)) (hr2 : Rd W A2 (zv z2)) :
    Calls Try.prog 3 #[.slice A1 n1 c1, .slice A2 n2 c2, .bool only] W fun x w' => x = .returned (.bool true) ∧ Below W.heap.size W w' := by
  have hS := ((St.start W).startRo hr1).startRo hr2
  clear hr1 hr2
  (refine calls_of (P := Try.prog) _ Try.func3 rfl Try.ntmps3 (Nat.le_of_ble_eq_true rfl) ?_; dsimp only [argE, Nat.reduceAdd])
  (refine Reach.walk ?_; (repeat (first | ((with_reducible refine AllSt.mk ?_); (try clear hS); intro w hS) | ((with_reducible refine AllVw.mk ?_); intro V hV))))
  (with_reducible apply WpL.call); (· exact rfl); (· exact Try.call8); (· exact Vals.found)
  refine (awake_any W).mono ?_
  rintro x w ⟨rfl, hb⟩
  refine ⟨_, rfl, ?_⟩
  replace hS := hS.below hb
  clear hb
  (refine Reach.walk ?_; (repeat (first | ((with_reducible refine AllSt.mk ?_); (try clear hS); intro w hS) | ((with_reducible refine AllVw.mk ?_); intro V hV))))
  (with_reducible apply WpL.call); (· exact rfl); (· exact Try.call9); (· exact Vals.found)
  refine (new_any _).mono ?_
  rintro x w ⟨g, rfl, hS1⟩
  refine ⟨_, rfl, ?_⟩
  replace hS := hS.back Take.nil hS1 rfl
  clear hS1
  (refine Reach.walk ?_; (repeat (first | ((with_reducible refine AllSt.mk ?_); (try clear hS); intro w hS) | ((with_reducible refine AllVw.mk ?_); intro V hV))))
  (with_reducible apply WpL.call); (· exact rfl); (· exact Try.call10); (· exact Vals.found)
  refine (refNew_any _).mono ?_
  rintro x w ⟨gr, A0, rfl, hV0, hS1⟩
  refine ⟨_, rfl, ?_⟩
  replace hS := hS.back Take.nil hS1 rfl
  clear hS1
  (refine Reach.walk ?_; (repeat (first | ((with_reducible refine AllSt.mk ?_); (try clear hS); intro w hS) | ((with_reducible refine AllVw.mk ?_); intro V hV))))
  apply Wp.loopUp 100 (fun i e w' => ∃ ns, Small ns ∧ St W (feet []) w' (rlogL gr A0 ns false ++ [.blk g 66 (logC ns false), .ro A2 (zv z2), .ro A1 (zv z1)]) ∧
      e.Has [(10, .int .i64 (i : Nat)), (0, .slice A1 n1 c1), (1, .slice A2 n2 c2), (2, .bool only), (8, logP g), (9, rlogP gr)]) (Nat.zero_le 100)
    ⟨_, Small.zero, hS, rfl, rfl, rfl, rfl, rfl, rfl, trivial⟩
  clear hS
  rintro i e w hi ⟨ns, hs, hS, he⟩
  obtain ⟨e0, rfl⟩ := he.eq
  clear he
  dsimp only [Env.sets]
  simp only [rlogL, List.cons_append, List.nil_append] at hS
  (repeat (with_reducible apply Wp.seq))
  refine Wp.cut (fun e' w' => w' = w ∧ e'.Has [(30, .bool (decide (i < n1 ∧ i < n2 ∧ i < 100))), (10, .int .i64 (i : Nat)), (0, .slice A1 n1 c1), (1, .slice A2 n2 c2), (2, .bool only), (8, logP g), (9, rlogP gr)]) ?_ ?_
  · have h : (¬ i < n1) ∨ (i < n1 ∧ ¬ i < n2) ∨ (i < n1 ∧ i < n2 ∧ ¬ i < 100) ∨ (i < n1 ∧ i < n2 ∧ i < 100) := by omega
    rcases h with h1 | ⟨h1, h2⟩ | ⟨h1, h2, h3⟩ | ⟨h1, h2, h3⟩
    all_goals
      (refine Reach.walk ?_; (repeat (first | ((with_reducible refine AllSt.mk ?_); (try clear hS); intro w hS) | ((with_reducible refine AllVw.mk ?_); intro V hV))))
      exact ⟨rfl, bool_eq (by first | exact decide_eq_decide.2 (by omega) | exact (decide_eq_false (by omega)).symm | exact (decide_eq_true (by omega)).symm), rfl, rfl, rfl, rfl, rfl, rfl, trivial⟩
  rintro e w' ⟨rfl, he⟩
  obtain ⟨e0, rfl⟩ := he.eq
  clear he
  dsimp only [Env.sets]
  by_cases hgo : i < n1 ∧ i < n2 ∧ i < 100
  · have ⟨h1, h2, h3⟩ := hgo
    have hx2 := getD_le (by decide) hw2 i
    (refine Reach.walk ?_; (repeat (first | ((with_reducible refine AllSt.mk ?_); (try clear hS); intro w hS) | ((with_reducible refine AllVw.mk ?_); intro V hV))))
    (refine Wp.drawD 9 (by kernel_rfl) (by kernel_rfl) rfl ?_; dsimp only [List.take, List.drop])
    (refine Reach.rwalk ?_; (repeat (first | ((with_reducible refine AllSt.mk ?_); (try clear hS); intro w hS) | ((with_reducible refine AllVw.mk ?_); intro V hV))))
    (refine RgD.fin0 fun w hb => ?_; replace hS := hS.below hb; clear hb)
    (refine Reach.walk ?_; (repeat (first | ((with_reducible refine AllSt.mk ?_); (try clear hS); intro w hS) | ((with_reducible refine AllVw.mk ?_); intro V hV))))
    replace hS := hS.take (pre := [.blk g _ _]) Take.found
    simp only [List.cons_append, List.nil_append] at hS
    (with_reducible apply WpL.call); (· exact rfl); (· exact Try.call11); (· exact Vals.found)
    refine (add_any hs _ _ hx2 hS).mono ?_
    clear hS
    rintro x w ⟨rfl, hS⟩
    refine ⟨_, rfl, ?_⟩
    (refine Reach.walk ?_; (repeat (first | ((with_reducible refine AllSt.mk ?_); (try clear hS); intro w hS) | ((with_reducible refine AllVw.mk ?_); intro V hV))))
    (refine Wp.drawD 9 (by kernel_rfl) (by kernel_rfl) rfl ?_; dsimp only [List.take, List.drop])
    (refine Reach.rwalk ?_; (repeat (first | ((with_reducible refine AllSt.mk ?_); (try clear hS); intro w hS) | ((with_reducible refine AllVw.mk ?_); intro V hV))))
    (refine RgD.fin0 fun w hb => ?_; replace hS := hS.below hb; clear hb)
    (refine Reach.walk ?_; (repeat (first | ((with_reducible refine AllSt.mk ?_); (try clear hS); intro w hS) | ((with_reducible refine AllVw.mk ?_); intro V hV))))
    replace hS := hS.take (pre := rlogL gr A0 ns false) (by unfold rlogL; exact Take.found)
    (with_reducible apply WpL.call); (· exact rfl); (· exact Try.call12); (· exact Vals.found)
    refine (refAdd_any hs hV0 _ _ hx2 hS).mono ?_
    clear hS
    rintro x w ⟨rfl, hS⟩
    refine ⟨_, rfl, ?_⟩
    (refine Reach.walk ?_; (repeat (first | ((with_reducible refine AllSt.mk ?_); (try clear hS); intro w hS) | ((with_reducible refine AllVw.mk ?_); intro V hV))))
    exact ⟨h3, _, hs.add _ _, hS, int_eq (by omega), rfl, rfl, rfl, rfl, rfl, trivial⟩
  · have hlen := hs.1
    have step : ∀ {w : World} (only : Bool), True := fun _ => trivial
    (refine Reach.walk ?_; (repeat (first | ((with_reducible refine AllSt.mk ?_); (try clear hS); intro w hS) | ((with_reducible refine AllVw.mk ?_); intro V hV))))
    refine Wp.cut (fun e' w' => St W (feet []) w' (rlogL gr A0 ns only ++ [.blk g 66 (logC ns only), .ro A2 (zv z2), .ro A1 (zv z1)]) ∧ e'.Has [(2, .bool only), (8, logP g), (9, rlogP gr)]) ?_ ?_
    · cases only with
      | false =>
        (refine Reach.walk ?_; (repeat (first | ((with_reducible refine AllSt.mk ?_); (try clear hS); intro w hS) | ((with_reducible refine AllVw.mk ?_); intro V hV))))
        exact ⟨hS, rfl, rfl, rfl, trivial⟩
      | true =>
        (refine Reach.walk ?_; (repeat (first | ((with_reducible refine AllSt.mk ?_); (try clear hS); intro w hS) | ((with_reducible refine AllVw.mk ?_); intro V hV))))
        replace hS := hS.take (pre := [.blk g _ _]) Take.found
        simp only [List.cons_append, List.nil_append] at hS
        (with_reducible apply WpL.call); (· exact rfl); (· exact Try.call13); (· exact Vals.found)
        refine (only_any hlen hS).mono ?_
        clear hS
        rintro x w ⟨rfl, hS⟩
        refine ⟨_, rfl, ?_⟩
        (refine Reach.walk ?_; (repeat (first | ((with_reducible refine AllSt.mk ?_); (try clear hS); intro w hS) | ((with_reducible refine AllVw.mk ?_); intro V hV))))
        exact ⟨hS.perm (by exact (List.Perm.swap _ _ _).trans (List.Perm.cons _ (List.Perm.swap _ _ _))), rfl, rfl, rfl, trivial⟩
    clear hS
    rintro e w ⟨hS, he⟩
    obtain ⟨e0, rfl⟩ := he.eq
    clear he
    dsimp only [Env.sets]
    have hin : LogIn (rlogL gr A0 ns only ++ [.blk g 66 (logC ns only), .ro A2 (zv z2), .ro A1 (zv z1)]) g ns only := ((LogIn.blk hlen only).there _).there _
    have hrin : RLogIn (rlogL gr A0 ns only ++ [.blk g 66 (logC ns only), .ro A2 (zv z2), .ro A1 (zv z1)]) gr A0 ns only := RLogIn.blk hlen only
    have hrd1 : Rds (rlogL gr A0 ns only ++ [.blk g 66 (logC ns only), .ro A2 (zv z2), .ro A1 (zv z1)]) (some ⟨g, 0, none⟩) (logC ns only) := .there (.there .blk)
    have hrd2 : Rds (rlogL gr A0 ns only ++ [.blk g 66 (logC ns only), .ro A2 (zv z2), .ro A1 (zv z1)]) (some ⟨gr, 0, none⟩) [.slice A0 10 10, .bool only] := .blk
    have hrd3 : Rds (rlogL gr A0 ns only ++ [.blk g 66 (logC ns only), .ro A2 (zv z2), .ro A1 (zv z1)]) A0 (uv ns) := .there .own
    have hsl : (Crc.sealed (logB ns only)).length = 89 := by rw [Crc.sealed_length, logB_length hlen]
    generalize rlogL gr A0 ns only ++ [.blk g 66 (logC ns only), .ro A2 (zv z2), .ro A1 (zv z1)] = L at *
    (refine Reach.walk ?_; (repeat (first | ((with_reducible refine AllSt.mk ?_); (try clear hS); intro w hS) | ((with_reducible refine AllVw.mk ?_); intro V hV))))
    apply Wp.loopUp 10 (fun i e w' => St W (feet []) w' L ∧ e.Has [(11, .int .i64 (i : Nat)), (2, .bool only), (8, logP g), (9, rlogP gr)]) (Nat.zero_le 10)
      ⟨hS, rfl, rfl, rfl, rfl, trivial⟩
    clear hS
    rintro i e w hi ⟨hS, he⟩
    obtain ⟨e0, rfl⟩ := he.eq
    clear he
    dsimp only [Env.sets]
    by_cases hlt : i < 10
    · have hk1 := hrin.1
      have hk2 := hrin.2.2 i hlt
      (refine Reach.walk ?_; (repeat (first | ((with_reducible refine AllSt.mk ?_); (try clear hS); intro w hS) | ((with_reducible refine AllVw.mk ?_); intro V hV))))
      (refine Wp.drawD 11 (by kernel_rfl) (by kernel_rfl) rfl ?_; dsimp only [List.take, List.drop])
      (refine Reach.rwalk ?_; (repeat (first | ((with_reducible refine AllSt.mk ?_); (try clear hS); intro w hS) | ((with_reducible refine AllVw.mk ?_); intro V hV))))
      refine RgD.known0 (c := .int .u64 ((ns.getD i 0 : Nat) : Int)) rfl rfl rfl rfl (fun w1 hb1 => ?_) ?_
      · (with_reducible apply WpL.call); (· exact rfl); (· exact Try.call14); (· exact Vals.found)
        refine (of_any _ (hS.below hb1) hin).mono ?_
        rintro x w2 ⟨rfl, rfl⟩
        exact ⟨_, by rw [cOf, if_pos (by omega)]; rfl, WpL.nil ⟨⟨hb1, Below.refl _ _⟩, Env.set_same _ _ _⟩⟩
      (refine Reach.rwalk ?_; (repeat (first | ((with_reducible refine AllSt.mk ?_); (try clear hS); intro w hS) | ((with_reducible refine AllVw.mk ?_); intro V hV))))
      (refine RgD.fin0 fun w hb => ?_; replace hS := hS.below hb; clear hb)
      (refine Reach.walk ?_; (repeat (first | ((with_reducible refine AllSt.mk ?_); (try clear hS); intro w hS) | ((with_reducible refine AllVw.mk ?_); intro V hV))))
      exact ⟨hlt, hS, int_eq (by omega), rfl, rfl, rfl, trivial⟩
    · (refine Reach.walk ?_; (repeat (first | ((with_reducible refine AllSt.mk ?_); (try clear hS); intro w hS) | ((with_reducible refine AllVw.mk ?_); intro V hV))))
      (refine Wp.drawD 24 (by kernel_rfl) (by kernel_rfl) rfl ?_; dsimp only [List.take, List.drop])
      (refine Reach.rwalk ?_; (repeat (first | ((with_reducible refine AllSt.mk ?_); (try clear hS); intro w hS) | ((with_reducible refine AllVw.mk ?_); intro V hV))))
      refine RgD.known0 (c := .bool only) rfl rfl rfl rfl (fun w1 hb1 => ?_) ?_
      · (refine Reach.walk ?_; (repeat (first | ((with_reducible refine AllSt.mk ?_); (try clear hS); intro w hS) | ((with_reducible refine AllVw.mk ?_); intro V hV))))
        (with_reducible apply WpL.call); (· exact rfl); (· exact Try.call15); (· exact Vals.found)
        refine (isOnly_any (hS.below hb1) hin).mono ?_
        rintro x w2 ⟨rfl, rfl⟩
        exact ⟨_, rfl, WpL.nil ⟨⟨hb1, Below.refl _ _⟩, Env.set_same _ _ _⟩⟩
      (refine Reach.rwalk ?_; (repeat (first | ((with_reducible refine AllSt.mk ?_); (try clear hS); intro w hS) | ((with_reducible refine AllVw.mk ?_); intro V hV))))
      refine RgD.known0 (c := .int .u64 0) rfl rfl rfl rfl (fun w1 hb1 => ?_) ?_
      · (refine Reach.walk ?_; (repeat (first | ((with_reducible refine AllSt.mk ?_); (try clear hS); intro w hS) | ((with_reducible refine AllVw.mk ?_); intro V hV))))
        (with_reducible apply WpL.call); (· exact rfl); (· exact Try.call14); (· exact Vals.found)
        refine (of_any _ (hS.below hb1) hin).mono ?_
        rintro x w2 ⟨rfl, rfl⟩
        exact ⟨_, rfl, WpL.nil ⟨⟨hb1, Below.refl _ _⟩, Env.set_same _ _ _⟩⟩
      (refine Reach.rwalk ?_; (repeat (first | ((with_reducible refine AllSt.mk ?_); (try clear hS); intro w hS) | ((with_reducible refine AllVw.mk ?_); intro V hV))))
      refine RgD.known0 (c := .int .u64 0) rfl rfl rfl rfl (fun w1 hb1 => ?_) ?_
      · (refine Reach.walk ?_; (repeat (first | ((with_reducible refine AllSt.mk ?_); (try clear hS); intro w hS) | ((with_reducible refine AllVw.mk ?_); intro V hV))))
        (with_reducible apply WpL.call); (· exact rfl); (· exact Try.call14); (· exact Vals.found)
        refine (of_any _ (hS.below hb1) hin).mono ?_
        rintro x w2 ⟨rfl, rfl⟩
        exact ⟨_, rfl, WpL.nil ⟨⟨hb1, Below.refl _ _⟩, Env.set_same _ _ _⟩⟩
      (refine Reach.rwalk ?_; (repeat (first | ((with_reducible refine AllSt.mk ?_); (try clear hS); intro w hS) | ((with_reducible refine AllVw.mk ?_); intro V hV))))
      refine RgD.spec0 (ReadsAs (Crc.sealed (logB ns only)) 89) rfl rfl rfl rfl (fun _ _ _ h hb => h.below hb) (fun w1 hb1 => ?_) ?_
      · (refine Reach.walk ?_; (repeat (first | ((with_reducible refine AllSt.mk ?_); (try clear hS); intro w hS) | ((with_reducible refine AllVw.mk ?_); intro V hV))))
        (with_reducible apply WpL.call); (· exact rfl); (· exact Try.call16); (· exact Vals.found)
        refine (bytesQ hs (hrd1.rd (hS.below hb1))).mono ?_
        rintro x w2 ⟨A, c, rfl, hb2, hr2⟩
        exact ⟨_, rfl, WpL.nil ⟨⟨hb1.on hb2, hb2⟩, A, c, Env.set_same _ _ _, hr2⟩⟩
      (refine Reach.rwalk ?_; (repeat (first | ((with_reducible refine AllSt.mk ?_); (try clear hS); intro w hS) | ((with_reducible refine AllVw.mk ?_); intro V hV))))
      refine RgD.known1 (c := .string ⟨(Crc.sealed (logB ns only)).toArray⟩) rfl rfl rfl rfl (fun w1 hb1 x hx => ?_) ?_
      · obtain ⟨A, c, rfl, hr⟩ := hx
        (refine Reach.walk ?_; (repeat (first | ((with_reducible refine AllSt.mk ?_); (try clear hS); intro w hS) | ((with_reducible refine AllVw.mk ?_); intro V hV))))
        refine WpL.str rfl rfl hr hsl ?_
        exact WpL.nil ⟨⟨hb1, Below.refl _ _⟩, Env.set_same _ _ _⟩
      (refine Reach.rwalk ?_; (repeat (first | ((with_reducible refine AllSt.mk ?_); (try clear hS); intro w hS) | ((with_reducible refine AllVw.mk ?_); intro V hV))))
      refine RgD.spec0 (ReadsAs (Crc.sealed (logB ns only)) 89) rfl rfl rfl rfl (fun _ _ _ h hb => h.below hb) (fun w1 hb1 => ?_) ?_
      · (refine Reach.walk ?_; (repeat (first | ((with_reducible refine AllSt.mk ?_); (try clear hS); intro w hS) | ((with_reducible refine AllVw.mk ?_); intro V hV))))
        (with_reducible apply WpL.call); (· exact rfl); (· exact Try.call17); (· exact Vals.found)
        refine (refBytesQ hs hV0 (hrd2.rd (hS.below hb1)) (hrd3.rd (hS.below hb1))).mono ?_
        rintro x w2 ⟨A, c, rfl, hb2, hr2⟩
        exact ⟨_, rfl, WpL.nil ⟨⟨hb1.on hb2, hb2⟩, A, c, Env.set_same _ _ _, hr2⟩⟩
      (refine Reach.rwalk ?_; (repeat (first | ((with_reducible refine AllSt.mk ?_); (try clear hS); intro w hS) | ((with_reducible refine AllVw.mk ?_); intro V hV))))
      refine RgD.known1 (c := .string ⟨(Crc.sealed (logB ns only)).toArray⟩) rfl rfl rfl rfl (fun w1 hb1 x hx => ?_) ?_
      · obtain ⟨A, c, rfl, hr⟩ := hx
        (refine Reach.walk ?_; (repeat (first | ((with_reducible refine AllSt.mk ?_); (try clear hS); intro w hS) | ((with_reducible refine AllVw.mk ?_); intro V hV))))
        refine WpL.str rfl rfl hr hsl ?_
        exact WpL.nil ⟨⟨hb1, Below.refl _ _⟩, Env.set_same _ _ _⟩
      (refine Reach.rwalk ?_; (repeat (first | ((with_reducible refine AllSt.mk ?_); (try clear hS); intro w hS) | ((with_reducible refine AllVw.mk ?_); intro V hV))))
      refine RgD.fin fun w hb => ?_
      intro x hx y hy
      dsimp only [AllE]
      replace hS := hS.below hb
      (refine Reach.walk ?_; (repeat (first | ((with_reducible refine AllSt.mk ?_); (try clear hS); intro w hS) | ((with_reducible refine AllVw.mk ?_); intro V hV))))
      (with_reducible apply doneQ_one Try.results3); (· exact slotFound)
      exact ⟨by simp, hS.toBelow⟩
end Go.Proofs.Ytdmnhhmnekkflaa
