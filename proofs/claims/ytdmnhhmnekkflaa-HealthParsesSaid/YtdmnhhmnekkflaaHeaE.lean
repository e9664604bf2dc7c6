/-
  HealthParses, HealthBack: walks.
-/
import Derived.Test.YtdmnhhmnekkflaaHeaD
import Derived.Test.YtdmnhhmnekkflaaHeaL
namespace Go.Proofs.Ytdmnhhmnekkflaa
open Go.Fk Go.RowKit
attribute [local irreducible] Wp WpL Det thenQ blockQ

theorem healthParses_any (A : Option Addr) (l : List UInt8) (n c : Nat) (sl : Bool) (hn : l.length = n) (hv : IsVw A n c A 0) (hlen : n ≤ 140737488351232) (W : World) (hr : Rd W A (bv l)) :
    Calls Try.prog 5 #[.slice A n c, .bool sl] W fun x w' => x = .returned (.bool true) ∧ Below W.heap.size W w' := by
  have hS := (St.start W).startRo hr
  clear hr
  (refine calls_of (P := Try.prog) _ Try.func5 rfl Try.ntmps5 (Nat.le_of_ble_eq_true rfl) ?_; dsimp only [argE, Nat.reduceAdd])
  (refine Reach.walk ?_; (repeat (first | ((with_reducible refine AllSt.mk ?_); (try clear hS); intro w hS) | ((with_reducible refine AllVw.mk ?_); intro V hV))))
  (with_reducible apply WpL.call); (· exact rfl); (· exact Try.call8); (· exact Vals.found)
  refine (awake_any W).mono ?_
  rintro x w ⟨rfl, hb⟩
  refine ⟨_, rfl, ?_⟩
  replace hS := hS.below hb
  clear hb
  (refine Reach.walk ?_; (repeat (first | ((with_reducible refine AllSt.mk ?_); (try clear hS); intro w hS) | ((with_reducible refine AllVw.mk ?_); intro V hV))))
  refine Wp.cut (fun e' w' => ∃ V m d t L, IsVw V m d V 0 ∧ St W (feet []) w' L ∧ RdsV L V m (bv t) ∧ t.length = m ∧ m ≤ 140737488355328 ∧ e'.Has [(0, .slice V m d)]) ?_ ?_
  · cases sl with
    | false =>
      (refine Reach.walk ?_; (repeat (first | ((with_reducible refine AllSt.mk ?_); (try clear hS); intro w hS) | ((with_reducible refine AllVw.mk ?_); intro V hV))))
      exact ⟨A, n, c, l, _, hv, hS, RdsV.whole .ro (by simpa using hn), hn, by omega, rfl, trivial⟩
    | true =>
      (refine Reach.walk ?_; (repeat (first | ((with_reducible refine AllSt.mk ?_); (try clear hS); intro w hS) | ((with_reducible refine AllVw.mk ?_); intro V hV))))
      (with_reducible apply WpL.call); (· exact rfl); (· exact Try.call20); (· exact Vals.found)
      refine (refSealS hS RdsV.found (by omega)).mono ?_
      clear hS
      rintro x w ⟨V, d, rfl, hV, hS⟩
      refine ⟨_, rfl, ?_⟩
      (refine Reach.walk ?_; (repeat (first | ((with_reducible refine AllSt.mk ?_); (try clear hS); intro w hS) | ((with_reducible refine AllVw.mk ?_); intro V hV))))
      have e1 : (Crc.sealed l).length = n + 4 := by rw [Crc.sealed_length]; omega
      exact ⟨V, n + 4, d, Crc.sealed l, _, hV, hS, RdsV.whole .own (by simpa using e1), e1, by omega, rfl, trivial⟩
  clear hS
  rintro e w ⟨V, m, d, t, L, hV, hS, hrd, hm, hml, he⟩
  obtain ⟨e0, rfl⟩ := he.eq
  clear he
  dsimp only [Env.sets]
  have hVle := hV.le
  (refine Reach.walk ?_; (repeat (first | ((with_reducible refine AllSt.mk ?_); (try clear hS); intro w hS) | ((with_reducible refine AllVw.mk ?_); intro V hV))))
  (with_reducible apply WpL.call); (· exact rfl); (· exact Try.call21); (· exact Vals.found)
  refine (parse_any hm hS hrd hVle hml).mono ?_
  rintro x w (⟨hE, g, rfl, hS⟩ | ⟨hE, rfl, hS⟩)
  · refine ⟨_, rfl, ?_⟩
    have hrd2 : RdsV (.blk g 66 (logC (parseNs t) (parseOnly t)) :: L) V m (bv t) := fun w0 M w h => hrd w0 M w h.tail
    (refine Reach.walk ?_; (repeat (first | ((with_reducible refine AllSt.mk ?_); (try clear hS); intro w hS) | ((with_reducible refine AllVw.mk ?_); intro V hV))))
    (with_reducible apply WpL.call); (· exact rfl); (· exact Try.call22); (· exact Vals.found)
    refine (refParse_any hm hS hrd2 hVle hml).mono ?_
    clear hS
    rintro x w (⟨_, gr, A0, rfl, hV0, hS⟩ | ⟨hE2, rfl, hS⟩)
    rotate_left
    · exact absurd hE hE2
    refine ⟨_, rfl, ?_⟩
    have hsm := parse_small hE
    generalize parseNs t = ns at *
    generalize parseOnly t = only at *
    have hlen := hsm.1
    have hin : LogIn (rlogL gr A0 ns only ++ .blk g 66 (logC ns only) :: L) g ns only := ((LogIn.blk hlen only).there _).there _
    have hrin : RLogIn (rlogL gr A0 ns only ++ .blk g 66 (logC ns only) :: L) gr A0 ns only := RLogIn.blk hlen only
    have hrd1 : Rds (rlogL gr A0 ns only ++ .blk g 66 (logC ns only) :: L) (some ⟨g, 0, none⟩) (logC ns only) := .there (.there .blk)
    have hrd2 : Rds (rlogL gr A0 ns only ++ .blk g 66 (logC ns only) :: L) (some ⟨gr, 0, none⟩) [.slice A0 10 10, .bool only] := .blk
    have hrd3 : Rds (rlogL gr A0 ns only ++ .blk g 66 (logC ns only) :: L) A0 (uv ns) := .there .own
    have hsl : (Crc.sealed (logB ns only)).length = 89 := by rw [Crc.sealed_length, logB_length hlen]
    generalize rlogL gr A0 ns only ++ .blk g 66 (logC ns only) :: L = L2 at *
    have hk3 := hrin.2.1
    (refine Reach.walk ?_; (repeat (first | ((with_reducible refine AllSt.mk ?_); (try clear hS); intro w hS) | ((with_reducible refine AllVw.mk ?_); intro V hV))))
    (refine Wp.drawD 21 (by kernel_rfl) (by kernel_rfl) rfl ?_; dsimp only [List.take, List.drop])
    (refine Reach.rwalk ?_; (repeat (first | ((with_reducible refine AllSt.mk ?_); (try clear hS); intro w hS) | ((with_reducible refine AllVw.mk ?_); intro V hV))))
    refine RgD.spec0 (ReadsAs (Crc.sealed (logB ns only)) 89) rfl rfl rfl rfl (fun _ _ _ h hb => h.below hb) (fun w1 hb1 => ?_) ?_
    · (refine Reach.walk ?_; (repeat (first | ((with_reducible refine AllSt.mk ?_); (try clear hS); intro w hS) | ((with_reducible refine AllVw.mk ?_); intro V hV))))
      (with_reducible apply WpL.call); (· exact rfl); (· exact Try.call16); (· exact Vals.found)
      refine (bytesQ hsm (hrd1.rd (hS.below hb1))).mono ?_
      rintro x w2 ⟨A, c, rfl, hb2, hr2⟩
      exact ⟨_, rfl, WpL.nil ⟨⟨hb1.on hb2, hb2⟩, A, c, Env.set_same _ _ _, hr2⟩⟩
    (refine Reach.rwalk ?_; (repeat (first | ((with_reducible refine AllSt.mk ?_); (try clear hS); intro w hS) | ((with_reducible refine AllVw.mk ?_); intro V hV))))
    refine RgD.known1 (c := .string ⟨(Crc.sealed (logB ns only)).toArray⟩) rfl rfl rfl rfl (fun w1 hb1 x hx => ?_) ?_
    · obtain ⟨A, c, rfl, hr⟩ := hx
      (refine Reach.walk ?_; (repeat (first | ((with_reducible refine AllSt.mk ?_); (try clear hS); intro w hS) | ((with_reducible refine AllVw.mk ?_); intro V hV))))
      refine WpL.str rfl rfl hr hsl ?_
      exact WpL.nil ⟨⟨hb1, Below.refl _ _⟩, Env.set_same _ _ _⟩
    (refine Reach.rwalk ?_; (repeat (first | ((with_reducible refine AllSt.mk ?_); (try clear hS); intro w hS) | ((with_reducible refine AllVw.mk ?_); intro V hV))))
    refine RgD.spec0 (ReadsAs (Crc.sealed (logB ns only)) 89) rfl rfl rfl rfl (fun _ _ _ h hb => h.below hb) (fun w1 hb1 => ?_) ?_
    · (refine Reach.walk ?_; (repeat (first | ((with_reducible refine AllSt.mk ?_); (try clear hS); intro w hS) | ((with_reducible refine AllVw.mk ?_); intro V hV))))
      (with_reducible apply WpL.call); (· exact rfl); (· exact Try.call17); (· exact Vals.found)
      refine (refBytesQ hsm hV0 (hrd2.rd (hS.below hb1)) (hrd3.rd (hS.below hb1))).mono ?_
      rintro x w2 ⟨A, c, rfl, hb2, hr2⟩
      exact ⟨_, rfl, WpL.nil ⟨⟨hb1.on hb2, hb2⟩, A, c, Env.set_same _ _ _, hr2⟩⟩
    (refine Reach.rwalk ?_; (repeat (first | ((with_reducible refine AllSt.mk ?_); (try clear hS); intro w hS) | ((with_reducible refine AllVw.mk ?_); intro V hV))))
    refine RgD.known1 (c := .string ⟨(Crc.sealed (logB ns only)).toArray⟩) rfl rfl rfl rfl (fun w1 hb1 x hx => ?_) ?_
    · obtain ⟨A, c, rfl, hr⟩ := hx
      (refine Reach.walk ?_; (repeat (first | ((with_reducible refine AllSt.mk ?_); (try clear hS); intro w hS) | ((with_reducible refine AllVw.mk ?_); intro V hV))))
      refine WpL.str rfl rfl hr hsl ?_
      exact WpL.nil ⟨⟨hb1, Below.refl _ _⟩, Env.set_same _ _ _⟩
    (refine Reach.rwalk ?_; (repeat (first | ((with_reducible refine AllSt.mk ?_); (try clear hS); intro w hS) | ((with_reducible refine AllVw.mk ?_); intro V hV))))
    refine RgD.known0 (c := .bool only) rfl rfl rfl rfl (fun w1 hb1 => ?_) ?_
    · (refine Reach.walk ?_; (repeat (first | ((with_reducible refine AllSt.mk ?_); (try clear hS); intro w hS) | ((with_reducible refine AllVw.mk ?_); intro V hV))))
      (with_reducible apply WpL.call); (· exact rfl); (· exact Try.call15); (· exact Vals.found)
      refine (isOnly_any (hS.below hb1) hin).mono ?_
      rintro x w2 ⟨rfl, rfl⟩
      exact ⟨_, rfl, WpL.nil ⟨⟨hb1, Below.refl _ _⟩, Env.set_same _ _ _⟩⟩
    (refine Reach.rwalk ?_; (repeat (first | ((with_reducible refine AllSt.mk ?_); (try clear hS); intro w hS) | ((with_reducible refine AllVw.mk ?_); intro V hV))))
    refine RgD.fin fun w hb => ?_
    intro x hx y hy
    dsimp only [AllE]
    replace hS := hS.below hb
    (refine Reach.walk ?_; (repeat (first | ((with_reducible refine AllSt.mk ?_); (try clear hS); intro w hS) | ((with_reducible refine AllVw.mk ?_); intro V hV))))
    (with_reducible apply doneQ_one Try.results5); (· exact slotFound)
    exact ⟨by simp, hS.toBelow⟩
  · refine ⟨_, rfl, ?_⟩
    (refine Reach.walk ?_; (repeat (first | ((with_reducible refine AllSt.mk ?_); (try clear hS); intro w hS) | ((with_reducible refine AllVw.mk ?_); intro V hV))))
    (with_reducible apply WpL.call); (· exact rfl); (· exact Try.call22); (· exact Vals.found)
    refine (refParse_any hm hS hrd hVle hml).mono ?_
    clear hS
    rintro x w (⟨hE2, _⟩ | ⟨_, rfl, hS⟩)
    · exact absurd hE2 hE
    refine ⟨_, rfl, ?_⟩
    generalize parseE t = E at *
    (refine Reach.walk ?_; (repeat (first | ((with_reducible refine AllSt.mk ?_); (try clear hS); intro w hS) | ((with_reducible refine AllVw.mk ?_); intro V hV))))
    (refine Wp.drawD 21 (by kernel_rfl) (by kernel_rfl) rfl ?_; dsimp only [List.take, List.drop])
    (refine Reach.rwalk ?_; (repeat (first | ((with_reducible refine AllSt.mk ?_); (try clear hS); intro w hS) | ((with_reducible refine AllVw.mk ?_); intro V hV))))
    refine RgD.fin0 fun w hb => ?_
    replace hS := hS.below hb
    (refine Reach.walk ?_; (repeat (first | ((with_reducible refine AllSt.mk ?_); (try clear hS); intro w hS) | ((with_reducible refine AllVw.mk ?_); intro V hV))))
    (with_reducible apply doneQ_one Try.results5); (· exact slotFound)
    exact ⟨by simp, hS.toBelow⟩
end Go.Proofs.Ytdmnhhmnekkflaa
