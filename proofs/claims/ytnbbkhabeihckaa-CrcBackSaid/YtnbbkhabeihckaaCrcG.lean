/-
  The statements on what is sealed and opened: walks.
-/
import Derived.Test.YtnbbkhabeihckaaCrcD
import Derived.Test.YtnbbkhabeihckaaCrcF
namespace Go.Proofs.Ytnbbkhabeihckaa
open Go.Fk Go.RowKit
attribute [local irreducible] Wp WpL Det thenQ blockQ
instance : StrT Try.prog 9 := ⟨Try.underlying9⟩


theorem crcSeals_any (A1 A2 : Option Addr) (l1 l2 : List UInt8) (n1 n2 c1 c2 : Nat) (hn1 : l1.length = n1) (hn2 : l2.length = n2) (hc2 : n2 ≤ c2) (h1 : n1 + 4 ≤ 140737488355328) (h2 : n2 ≤ 140737488355328) (w : World) (hr1 : Rd w A1 (bv l1)) (hr2 : Rd w A2 (bv l2)) :
    Calls Try.prog 7 #[.slice A1 n1 c1, .slice A2 n2 c2] w fun x w' => x = .returned (.bool true) ∧ Below w.heap.size w w' := by
  (refine calls_of (P := Try.prog) _ Try.func7 rfl Try.ntmps7 (Nat.le_of_ble_eq_true rfl) ?_; dsimp only [argE, Nat.reduceAdd])
  repeat (first | ((with_reducible apply WpL.det); (· exact rfl); (· exact Det.found)) | ((with_reducible apply WpL.nilN)) | ((with_reducible apply WpL.nil)) | ((with_reducible apply Wp.seq)) | ((with_reducible apply Wp.region)) | ((with_reducible apply thenQ_normal)) | ((with_reducible apply Wp.block)) | ((with_reducible apply Wp.skip)) | ((with_reducible apply Wp.ret)) | ((with_reducible apply Wp.exit)) | ((with_reducible apply thenQ_exit)) | ((with_reducible apply thenQ_ret)) | ((with_reducible apply blockQ_normal)) | ((with_reducible apply blockQ_ret)) | ((with_reducible apply blockQ_same)) | ((with_reducible apply blockQ_other); (· exact rfl)) | ((with_reducible apply WpL.detG); (· exact rfl); (· exact rfl); (· exact boolFound); (· exact rfl); (· exact Det.found)) | ((with_reducible apply WpL.skipG); (· exact rfl); (· exact rfl); (· exact boolFound); (· exact rfl)) | ((with_reducible apply Wp.condT); (· exact rfl); (· exact boolFound)) | ((with_reducible apply Wp.condF); (· exact rfl); (· exact boolFound)))
  (with_reducible apply WpL.call); (· exact rfl); (· exact Try.call10); (· exact Vals.found)
  refine (awake_any w).mono ?_
  rintro x w1 ⟨rfl, hb1⟩
  refine ⟨_, rfl, ?_⟩
  repeat (first | ((with_reducible apply WpL.det); (· exact rfl); (· exact Det.found)) | ((with_reducible apply WpL.nilN)) | ((with_reducible apply WpL.nil)) | ((with_reducible apply Wp.seq)) | ((with_reducible apply Wp.region)) | ((with_reducible apply thenQ_normal)) | ((with_reducible apply Wp.block)) | ((with_reducible apply Wp.skip)) | ((with_reducible apply Wp.ret)) | ((with_reducible apply Wp.exit)) | ((with_reducible apply thenQ_exit)) | ((with_reducible apply thenQ_ret)) | ((with_reducible apply blockQ_normal)) | ((with_reducible apply blockQ_ret)) | ((with_reducible apply blockQ_same)) | ((with_reducible apply blockQ_other); (· exact rfl)) | ((with_reducible apply WpL.detG); (· exact rfl); (· exact rfl); (· exact boolFound); (· exact rfl); (· exact Det.found)) | ((with_reducible apply WpL.skipG); (· exact rfl); (· exact rfl); (· exact boolFound); (· exact rfl)) | ((with_reducible apply Wp.condT); (· exact rfl); (· exact boolFound)) | ((with_reducible apply Wp.condF); (· exact rfl); (· exact boolFound)))
  (with_reducible apply WpL.call); (· exact rfl); (· exact Try.call15); (· exact Vals.found)
  refine (seal_any A1 l1 n1 c1 hn1 h1 w1 (hr1.below hb1)).mono ?_
  rintro x w2 ⟨v2, rfl, hv2, hb2⟩
  refine ⟨_, rfl, ?_⟩
  replace hb2 := hb1.on hb2
  repeat (first | ((with_reducible apply WpL.det); (· exact rfl); (· exact Det.found)) | ((with_reducible apply WpL.nilN)) | ((with_reducible apply WpL.nil)) | ((with_reducible apply Wp.seq)) | ((with_reducible apply Wp.region)) | ((with_reducible apply thenQ_normal)) | ((with_reducible apply Wp.block)) | ((with_reducible apply Wp.skip)) | ((with_reducible apply Wp.ret)) | ((with_reducible apply Wp.exit)) | ((with_reducible apply thenQ_exit)) | ((with_reducible apply thenQ_ret)) | ((with_reducible apply blockQ_normal)) | ((with_reducible apply blockQ_ret)) | ((with_reducible apply blockQ_same)) | ((with_reducible apply blockQ_other); (· exact rfl)) | ((with_reducible apply WpL.detG); (· exact rfl); (· exact rfl); (· exact boolFound); (· exact rfl); (· exact Det.found)) | ((with_reducible apply WpL.skipG); (· exact rfl); (· exact rfl); (· exact boolFound); (· exact rfl)) | ((with_reducible apply Wp.condT); (· exact rfl); (· exact boolFound)) | ((with_reducible apply Wp.condF); (· exact rfl); (· exact boolFound)))
  (with_reducible apply WpL.call); (· exact rfl); (· exact Try.call16); (· exact Vals.found)
  refine (open_any A2 l2 n2 c2 hn2 hc2 h2 w2 (hr2.below hb2)).mono ?_
  rintro x w3 ⟨hb3, hx⟩
  have hx' : ∃ v3 r3, x = .returned (.tuple #[v3, .int .i64 r3]) ∧ ((Crc.good l2 ∧ SlB w3 w2.heap.size 5 v3 (l2.take (n2 - 4)) ∧ r3 = 0) ∨ (¬ Crc.good l2 ∧ SlB w3 w2.heap.size 5 v3 [] ∧ r3 = 30)) := by
    rcases hx with ⟨hg, v, rfl, hv⟩ | ⟨hg, rfl⟩
    · exact ⟨_, _, rfl, .inl ⟨hg, hv, rfl⟩⟩
    · exact ⟨_, _, rfl, .inr ⟨hg, SlB.nil _ _ _, rfl⟩⟩
  clear hx
  obtain ⟨v3, r3, rfl, h3⟩ := hx'
  refine ⟨_, rfl, ?_⟩
  replace hv2 := hv2.below hb3
  replace hb3 := hb2.on hb3
  repeat (first | ((with_reducible apply WpL.det); (· exact rfl); (· exact Det.found)) | ((with_reducible apply WpL.nilN)) | ((with_reducible apply WpL.nil)) | ((with_reducible apply Wp.seq)) | ((with_reducible apply Wp.region)) | ((with_reducible apply thenQ_normal)) | ((with_reducible apply Wp.block)) | ((with_reducible apply Wp.skip)) | ((with_reducible apply Wp.ret)) | ((with_reducible apply Wp.exit)) | ((with_reducible apply thenQ_exit)) | ((with_reducible apply thenQ_ret)) | ((with_reducible apply blockQ_normal)) | ((with_reducible apply blockQ_ret)) | ((with_reducible apply blockQ_same)) | ((with_reducible apply blockQ_other); (· exact rfl)) | ((with_reducible apply WpL.detG); (· exact rfl); (· exact rfl); (· exact boolFound); (· exact rfl); (· exact Det.found)) | ((with_reducible apply WpL.skipG); (· exact rfl); (· exact rfl); (· exact boolFound); (· exact rfl)) | ((with_reducible apply Wp.condT); (· exact rfl); (· exact boolFound)) | ((with_reducible apply Wp.condF); (· exact rfl); (· exact boolFound)))
  (with_reducible apply WpL.call); (· exact rfl); (· exact Try.call17); (· exact Vals.found)
  refine (refOpen_any A2 l2 n2 c2 hn2 hc2 h2 w3 (hr2.below hb3)).mono ?_
  rintro x w4 ⟨hb4, hx⟩
  have hx' : ∃ v4 r4 l4, x = .returned (.tuple #[v4, .int .i64 r4]) ∧ SlB w4 w3.heap.size 5 v4 l4 ∧ SlB w4 w2.heap.size 5 v3 l4 ∧ r4 = r3 := by
    rcases h3 with ⟨hg, hv, rfl⟩ | ⟨hg, hv, rfl⟩
    · rcases hx with ⟨_, v, rfl, hv'⟩ | ⟨hg', rfl⟩
      · exact ⟨_, _, _, rfl, hv', hv.below hb4, rfl⟩
      · exact absurd hg hg'
    · rcases hx with ⟨hg', v, rfl, hv'⟩ | ⟨_, rfl⟩
      · exact absurd hg' hg
      · exact ⟨_, _, _, rfl, SlB.nil _ _ _, hv.below hb4, rfl⟩
  clear hx
  obtain ⟨v4, r4, l4, rfl, hv4, hv3, rfl⟩ := hx'
  refine ⟨_, rfl, ?_⟩
  replace hv2 := hv2.below hb4
  replace hb4 := hb3.on hb4
  obtain ⟨A3, k3, rfl, -, -, -, hr3⟩ := hv3.form
  obtain ⟨A4, k4, rfl, -, -, -, hr4⟩ := hv4.form
  obtain ⟨A5, k5, rfl, -, -, -, hr5⟩ := hv2.form
  clear h3 hv2 hv3 hv4
  repeat (first | ((with_reducible apply WpL.det); (· exact rfl); (· exact Det.found)) | ((with_reducible apply WpL.nilN)) | ((with_reducible apply WpL.nil)) | ((with_reducible apply Wp.seq)) | ((with_reducible apply Wp.region)) | ((with_reducible apply thenQ_normal)) | ((with_reducible apply Wp.block)) | ((with_reducible apply Wp.skip)) | ((with_reducible apply Wp.ret)) | ((with_reducible apply Wp.exit)) | ((with_reducible apply thenQ_exit)) | ((with_reducible apply thenQ_ret)) | ((with_reducible apply blockQ_normal)) | ((with_reducible apply blockQ_ret)) | ((with_reducible apply blockQ_same)) | ((with_reducible apply blockQ_other); (· exact rfl)) | ((with_reducible apply WpL.detG); (· exact rfl); (· exact rfl); (· exact boolFound); (· exact rfl); (· exact Det.found)) | ((with_reducible apply WpL.skipG); (· exact rfl); (· exact rfl); (· exact boolFound); (· exact rfl)) | ((with_reducible apply Wp.condT); (· exact rfl); (· exact boolFound)) | ((with_reducible apply Wp.condF); (· exact rfl); (· exact boolFound)))
  (refine Wp.drawD 18 (by kernel_rfl) (by kernel_rfl) rfl ?_; dsimp only [List.take, List.drop])
  (repeat (first | ((with_reducible apply RgD.det); (· exact rfl); (· exact rfl); (· exact rfl); (· exact rfl); (· exact Det.found)) | ((with_reducible apply RgD.detG); (· exact rfl); (· exact rfl); (· exact boolFound); (· exact rfl); (· exact rfl); (· exact rfl); (· exact rfl); (· exact Det.found)) | ((with_reducible apply RgD.skipG); (· exact rfl); (· exact rfl); (· exact boolFound); (· exact rfl); (· exact rfl); (· exact rfl); (· exact rfl))))
  refine RgD.str rfl rfl rfl rfl hr5 rfl ?_
  (repeat (first | ((with_reducible apply RgD.det); (· exact rfl); (· exact rfl); (· exact rfl); (· exact rfl); (· exact Det.found)) | ((with_reducible apply RgD.detG); (· exact rfl); (· exact rfl); (· exact boolFound); (· exact rfl); (· exact rfl); (· exact rfl); (· exact rfl); (· exact Det.found)) | ((with_reducible apply RgD.skipG); (· exact rfl); (· exact rfl); (· exact boolFound); (· exact rfl); (· exact rfl); (· exact rfl); (· exact rfl))))
  refine RgD.spec0 (fun v w => SlB w w4.heap.size 5 v (Crc.sealed l1)) rfl rfl rfl rfl (fun v w w' h hb => h.below hb) (fun w5 hb5 => ?_) ?_
  · (with_reducible apply WpL.call); (· exact rfl); (· exact Try.call18); (· exact Vals.found)
    refine (refSeal_any A1 l1 n1 c1 hn1 h1 w5 (hr1.below (hb4.on hb5))).mono ?_
    rintro x w6 ⟨v6, rfl, hv6, hb6⟩
    exact ⟨_, rfl, WpL.nil ⟨⟨hb5.on hb6, hb6⟩, by simp only [Env.set_same]; exact hv6.mono hb5.size⟩⟩
  refine RgD.known1 (c := .string ⟨(Crc.sealed l1).toArray⟩) rfl rfl rfl rfl (fun w5 hb5 x hx => ?_) ?_
  · obtain ⟨A6, k6, rfl, -, -, -, hr6⟩ := hx.form
    exact WpL.str rfl rfl hr6 rfl (WpL.nil ⟨⟨hb5, Below.refl _ _⟩, Env.set_same _ _ _⟩)
  (repeat (first | ((with_reducible apply RgD.det); (· exact rfl); (· exact rfl); (· exact rfl); (· exact rfl); (· exact Det.found)) | ((with_reducible apply RgD.detG); (· exact rfl); (· exact rfl); (· exact boolFound); (· exact rfl); (· exact rfl); (· exact rfl); (· exact rfl); (· exact Det.found)) | ((with_reducible apply RgD.skipG); (· exact rfl); (· exact rfl); (· exact boolFound); (· exact rfl); (· exact rfl); (· exact rfl); (· exact rfl))))
  refine RgD.strG rfl rfl boolFound rfl rfl rfl rfl hr3 rfl ?_
  (repeat (first | ((with_reducible apply RgD.det); (· exact rfl); (· exact rfl); (· exact rfl); (· exact rfl); (· exact Det.found)) | ((with_reducible apply RgD.detG); (· exact rfl); (· exact rfl); (· exact boolFound); (· exact rfl); (· exact rfl); (· exact rfl); (· exact rfl); (· exact Det.found)) | ((with_reducible apply RgD.skipG); (· exact rfl); (· exact rfl); (· exact boolFound); (· exact rfl); (· exact rfl); (· exact rfl); (· exact rfl))))
  refine RgD.strG rfl rfl boolFound rfl rfl rfl rfl hr4 rfl ?_
  (repeat (first | ((with_reducible apply RgD.det); (· exact rfl); (· exact rfl); (· exact rfl); (· exact rfl); (· exact Det.found)) | ((with_reducible apply RgD.detG); (· exact rfl); (· exact rfl); (· exact boolFound); (· exact rfl); (· exact rfl); (· exact rfl); (· exact rfl); (· exact Det.found)) | ((with_reducible apply RgD.skipG); (· exact rfl); (· exact rfl); (· exact boolFound); (· exact rfl); (· exact rfl); (· exact rfl); (· exact rfl))))
  refine RgD.fin1 fun w7 hb7 x _ => ?_
  repeat (first | ((with_reducible apply WpL.det); (· exact rfl); (· exact Det.found)) | ((with_reducible apply WpL.nilN)) | ((with_reducible apply WpL.nil)) | ((with_reducible apply Wp.seq)) | ((with_reducible apply Wp.region)) | ((with_reducible apply thenQ_normal)) | ((with_reducible apply Wp.block)) | ((with_reducible apply Wp.skip)) | ((with_reducible apply Wp.ret)) | ((with_reducible apply Wp.exit)) | ((with_reducible apply thenQ_exit)) | ((with_reducible apply thenQ_ret)) | ((with_reducible apply blockQ_normal)) | ((with_reducible apply blockQ_ret)) | ((with_reducible apply blockQ_same)) | ((with_reducible apply blockQ_other); (· exact rfl)) | ((with_reducible apply WpL.detG); (· exact rfl); (· exact rfl); (· exact boolFound); (· exact rfl); (· exact Det.found)) | ((with_reducible apply WpL.skipG); (· exact rfl); (· exact rfl); (· exact boolFound); (· exact rfl)) | ((with_reducible apply Wp.condT); (· exact rfl); (· exact boolFound)) | ((with_reducible apply Wp.condF); (· exact rfl); (· exact boolFound)))
  (with_reducible apply doneQ_one Try.results7); (· exact slotFound)
  exact ⟨by simp, hb4.on hb7⟩
end Go.Proofs.Ytnbbkhabeihckaa
