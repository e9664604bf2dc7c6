/-
  Parts of a proof: The document's pool: the pool of bytes; Regions that draw their order, some of whose operations are calls that write and give back what they wrote: between the operations the worlds keep a condition of one's own. It holds for any program; conditions stand at each theorem. (The proofs are those of the text Rgd, turned to that condition.); A pool and the document's pool, side by side; whether they tell the same; BlocksParse: any bytes are the pool that the document says, or none; What a law is told of its arguments: slices of bytes and of numbers as they come in. It holds for any program; conditions stand at each theorem; What a law is told of its arguments: slices as views, structs of numbers and truths by value, slices of such structs. It holds for any program; conditions stand at each theorem.
-/
import Derived.Test.YtaapnfoimcccjaaRows
import Derived.ProofKit
import Derived.OpenShut
import Derived.ShutString
import Derived.ChangeOld
import Derived.SizedLaws
import Derived.JoinedCond
import Derived.Deep.Slices
import Derived.Deep.Fields
import Derived.ChangeSame
import Derived.Test.YtaapnfoimcccjaaLawBlocksParseM8
set_option linter.unusedVariables false
namespace Go.Proofs.Ytaapnfoimcccjaa
open Go.Fk Go.RowKit
attribute [local irreducible] Wp WpL Det thenQ blockQ WpG thenD blockG
theorem RSt.below {w0 w w' : World} {M : Nat → Prop} {r nd nb : Nat} {X : List (List Bk)} {L : List Ch} (h : RSt w0 M w r nd nb X L) (hb : Below w.heap.size w w') : RSt w0 M w' r nd nb X L := let ⟨S, cS, E, cE, h1, h2, h3, h4⟩ := h; ⟨S, cS, E, cE, h1, h2, h3, h4.below hb⟩
theorem RSt.rest {w0 w : World} {M : Nat → Prop} {r nd nb : Nat} {X : List (List Bk)} {L : List Ch} (h : RSt w0 M w r nd nb X L) : St w0 M w L := let ⟨_, _, _, _, _, _, _, h4⟩ := h; h4.tail.tail.tail
theorem RSt.join {w0 w wb w' : World} {M : Nat → Prop} {L : List Ch} {r nd nb : Nat} {X : List (List Bk)} (hS : St w0 M w L) (hb : Below w.heap.size w w') (hwb : w.heap.size ≤ wb.heap.size) (hP : RSt wb (feet []) w' r nd nb X []) : RSt w0 M w' r nd nb X L := by
  obtain ⟨S, cS, E, cE, h1, h2, h3, h4⟩ := hP
  refine ⟨S, cS, E, cE, h1, h2, h3, ?_⟩
  have := hS.join hb hwb h4 fun c hc => by
    rcases List.mem_cons.1 hc with rfl | hc
    · rfl
    rcases List.mem_cons.1 hc with rfl | hc
    · rfl
    rcases List.mem_cons.1 hc with rfl | hc
    · rfl
    cases hc
  simpa using this
def NewRT (w : World) (nd nb : Nat) : Fk.Spec := fun x w2 => ∃ g wb, x = .tuple #[.pointer (some ⟨g, 0, none⟩), .int .i64 0] ∧ w.heap.size ≤ wb.heap.size ∧ RSt wb (feet []) w2 g nd nb (List.replicate nd (newBlocks nb)) []
def NewRG (w : World) (nd nb : Nat) : Fk.Spec := fun x w2 => ∃ g wb, x = .pointer (some ⟨g, 0, none⟩) ∧ w.heap.size ≤ wb.heap.size ∧ RSt wb (feet []) w2 g nd nb (List.replicate nd (newBlocks nb)) []
theorem NewRT.stays {w : World} {nd nb : Nat} (v : Value) (w1 w2 : World) : NewRT w nd nb v w1 → Below w1.heap.size w1 w2 → NewRT w nd nb v w2 := fun ⟨g, wb, h1, h2, h3⟩ hb => ⟨g, wb, h1, h2, h3.below hb⟩
theorem NewRG.stays {w : World} {nd nb : Nat} (v : Value) (w1 w2 : World) : NewRG w nd nb v w1 → Below w1.heap.size w1 w2 → NewRG w nd nb v w2 := fun ⟨g, wb, h1, h2, h3⟩ hb => ⟨g, wb, h1, h2, h3.below hb⟩
theorem take4 : ∀ {z : List UInt8}, 4 ≤ z.length → z.take 4 = [z.getD 0 0, z.getD 1 0, z.getD 2 0, z.getD 3 0]
  | a :: b :: c :: d :: r, _ => rfl
  | [], h | [_], h | [_, _], h | [_, _, _], h => absurd h (by simp)
theorem er_of {y : List UInt8} {i : Nat} (h : 2 + 5 * i + 5 ≤ y.length) : (y.getD (2 + 5 * i + 1) 0).toNat + (y.getD (2 + 5 * i + 2) 0).toNat <<< 8 + (y.getD (2 + 5 * i + 3) 0).toNat <<< 16 + (y.getD (2 + 5 * i + 4) 0).toNat <<< 24 = (bkAt y i).er := by
  have h4 := take4 (z := y.drop (2 + 5 * i + 1)) (by rw [List.length_drop]; omega)
  have hg : ∀ j, (y.drop (2 + 5 * i + 1)).getD j 0 = y.getD (2 + 5 * i + 1 + j) 0 := fun j => by simp only [List.getD_eq_getElem?_getD, List.getElem?_drop]
  rw [hg, hg, hg, hg] at h4
  show _ = Crc.loN ((y.drop (2 + 5 * i + 1)).take 4)
  rw [h4]
  simp only [Crc.loN, Nat.add_zero]
  show _ = (y.getD (2 + 5 * i + 1) 0).toNat + 256 * ((y.getD (2 + 5 * i + 2) 0).toNat + 256 * ((y.getD (2 + 5 * i + 3) 0).toNat + 256 * ((y.getD (2 + 5 * i + 4) 0).toNat + 256 * 0)))
  omega
theorem poolAt_flat (y : List UInt8) (nb : Nat) : ∀ nd, (poolAt y nd nb).flatten = (List.range (nd * nb)).map (bkAt y)
  | 0 => by simp [poolAt]
  | nd + 1 => by
    have ih := poolAt_flat y nb nd
    unfold poolAt at ih ⊢
    rw [List.range_succ, List.map_append, List.flatten_append, ih, Nat.add_mul, Nat.one_mul, List.range_add, List.map_append]
    simp [dieAt, Function.comp_def]
theorem poolAt_ok (y : List UInt8) (nd nb : Nat) : XOk nd nb (poolAt y nd nb) :=
  ⟨by simp [poolAt], fun l hl => by
    obtain ⟨d, _, rfl⟩ := List.mem_map.1 hl
    exact ⟨by simp [dieAt], dieAt_fit y nb d⟩⟩
theorem upto_set {f : Nat → Bk} {i n : Nat} (h : i < n) : ((List.range i).map f ++ List.replicate (n - i) (⟨1, 0⟩ : Bk)).set i (f i) = (List.range (i + 1)).map f ++ List.replicate (n - (i + 1)) ⟨1, 0⟩ := by
  obtain ⟨q, hq⟩ : ∃ q, n - i = q + 1 := ⟨n - i - 1, by omega⟩
  rw [hq, show n - (i + 1) = q by omega, List.replicate_succ, List.set_append_right _ _ (by simp), List.range_succ, List.map_append]
  simp
theorem upto_at {f : Nat → Bk} {i n : Nat} (h : i < n) : ((List.range i).map f ++ List.replicate (n - i) (⟨1, 0⟩ : Bk)).getD i ⟨0, 0⟩ = ⟨1, 0⟩ := by
  obtain ⟨q, hq⟩ : ∃ q, n - i = q + 1 := ⟨n - i - 1, by omega⟩
  rw [hq, List.replicate_succ, List.getD_eq_getElem?_getD, List.getElem?_append_right (by simp)]
  simp
section
variable {w w0 : World} {M : Nat → Prop} {L : List Ch}
set_option maxHeartbeats 4000000 in
theorem refParseP {V : Option Addr} {n c : Nat} {b : List UInt8} (hS : St w0 M w L) (hr : RdsV L V n (bv b)) (hnc : n ≤ c) (hlen : n ≤ 140737488355328) :
    Calls Try.prog 28 #[.slice V n c] w fun x w' =>
      (¬ Crc.good b ∧ x = .returned (.tuple #[.pointer none, .int .i64 30]) ∧ St w0 M w' L) ∨
      ((Crc.good b ∧ ∀ nd nb, ¬ PoolBytes (b.take (n - 4)) nd nb) ∧ x = .returned (.tuple #[.pointer none, .int .i64 81]) ∧ St w0 M w' L) ∨
      (Crc.good b ∧ ∃ g nd nb, PoolBytes (b.take (n - 4)) nd nb ∧ x = .returned (.tuple #[.pointer (some ⟨g, 0, none⟩), .int .i64 0]) ∧ RSt w0 M w' g nd nb (poolAt (b.take (n - 4)) nd nb) L) := by
  (refine calls_of (P := Try.prog) _ Try.func28 rfl Try.ntmps28 (Nat.le_of_ble_eq_true rfl) ?_; dsimp only [argE, Nat.reduceAdd])
  (refine Reach.walk ?_; (repeat (first | ((with_reducible refine AllSt.mk ?_); (try clear hS); intro w hS) | ((with_reducible refine AllVw.mk ?_); intro V hV))))
  (with_reducible apply WpL.call); (· exact rfl); (· exact Try.call41); (· exact Vals.found)
  refine (refOpenS hS hr hnc hlen).mono ?_
  have hbl : b.length = n := by have := (hr w0 M w hS).2; simpa using this
  clear hS
  rintro x w (⟨hg, A, cA, rfl, hA, hS⟩ | ⟨hg, rfl, hS⟩)
  rotate_left
  · refine ⟨_, rfl, ?_⟩
    (refine Reach.walk ?_; (repeat (first | ((with_reducible refine AllSt.mk ?_); (try clear hS); intro w hS) | ((with_reducible refine AllVw.mk ?_); intro V hV))))
    (with_reducible apply doneQ_two Try.results28); (· exact slotFound); (· exact slotFound)
    exact .inl ⟨hg, rfl, hS⟩
  refine ⟨_, rfl, ?_⟩
  have hyl : (b.take (n - 4)).length = n - 4 := by rw [List.length_take]; omega
  generalize hy : b.take (n - 4) = y at *
  generalize n - 4 = N at *
  by_cases h2 : N < 2
  · (refine Reach.walk ?_; (repeat (first | ((with_reducible refine AllSt.mk ?_); (try clear hS); intro w hS) | ((with_reducible refine AllVw.mk ?_); intro V hV))))
    (with_reducible apply doneQ_two Try.results28); (· exact slotFound); (· exact slotFound)
    exact .inr (.inl ⟨⟨hg, fun nd nb h => by have := h.two; omega⟩, rfl, hS.tail⟩)
  (refine Reach.walk ?_; (repeat (first | ((with_reducible refine AllSt.mk ?_); (try clear hS); intro w hS) | ((with_reducible refine AllVw.mk ?_); intro V hV))))
  have hnd := (y.getD 0 0).toNat_lt
  have hnb := (y.getD 1 0).toNat_lt
  generalize hndd : (y.getD 0 0).toNat = nd at *
  generalize hnbb : (y.getD 1 0).toNat = nb at *
  by_cases hok : 1 ≤ nd ∧ nd ≤ 8 ∧ 1 ≤ nb ∧ nb ≤ 64
  rotate_left
  · (refine Wp.drawD 14 (by kernel_rfl) (by kernel_rfl) rfl ?_; dsimp only [List.take, List.drop])
    (refine Reach.rwalk ?_; (repeat (first | ((with_reducible refine AllSt.mk ?_); (try clear hS); intro w hS) | ((with_reducible refine AllVw.mk ?_); intro V hV))))
    rw [hndd, hnbb]
    refine RgD.known0 (c := .tuple #[.pointer none, .int .i64 1]) rfl rfl rfl rfl (fun w5 hb5 => ?_) ?_
    · (with_reducible apply WpL.call); (· exact rfl); (· exact Try.call17); (· exact Vals.found)
      refine (refNewP (St.start w5)).mono ?_
      rintro x w6 (⟨_, rfl, h6⟩ | ⟨h6, _⟩)
      · exact ⟨_, rfl, WpL.nil ⟨⟨hb5.on h6.toBelow, h6.toBelow⟩, Env.set_same _ _ _⟩⟩
      · exact absurd h6 (fun h => hok (by omega))
    (refine Reach.rwalk ?_; (repeat (first | ((with_reducible refine AllSt.mk ?_); (try clear hS); intro w hS) | ((with_reducible refine AllVw.mk ?_); intro V hV))))
    (refine RgD.fin0 fun w hb => ?_; replace hS := hS.below hb; clear hb)
    (refine Reach.walk ?_; (repeat (first | ((with_reducible refine AllSt.mk ?_); (try clear hS); intro w hS) | ((with_reducible refine AllVw.mk ?_); intro V hV))))
    (refine Wp.drawD 18 (by kernel_rfl) (by kernel_rfl) rfl ?_; dsimp only [List.take, List.drop])
    (refine Reach.rwalk ?_; (repeat (first | ((with_reducible refine AllSt.mk ?_); (try clear hS); intro w hS) | ((with_reducible refine AllVw.mk ?_); intro V hV))))
    (refine RgD.fin0 fun w hb => ?_; replace hS := hS.below hb; clear hb)
    (refine Reach.walk ?_; (repeat (first | ((with_reducible refine AllSt.mk ?_); (try clear hS); intro w hS) | ((with_reducible refine AllVw.mk ?_); intro V hV))))
    (with_reducible apply doneQ_two Try.results28); (· exact slotFound); (· exact slotFound)
    exact .inr (.inl ⟨⟨hg, fun nd nb h => hok (by have := h.hd; have := h.hb; have := h.d; have := h.b; omega)⟩, rfl, hS.tail⟩)
  have hnd8 := hok.2.1
  have hnb64 := hok.2.2.2
  have hmul : nd * nb ≤ 8 * 64 := Nat.mul_le_mul hnd8 hnb64
  have hmul5 : 5 * nd * nb ≤ 2560 := by rw [Nat.mul_assoc]; omega
  have hm5e : 5 * nd * nb = 5 * (nd * nb) := Nat.mul_assoc _ _ _
  (refine Wp.drawD 14 (by kernel_rfl) (by kernel_rfl) rfl ?_; dsimp only [List.take, List.drop])
  (refine Reach.rwalk ?_; (repeat (first | ((with_reducible refine AllSt.mk ?_); (try clear hS); intro w hS) | ((with_reducible refine AllVw.mk ?_); intro V hV))))
  rw [hndd, hnbb]
  refine RgD.spec0 (NewRT w nd nb) rfl rfl rfl rfl NewRT.stays (fun w5 hb5 => ?_) ?_
  · (with_reducible apply WpL.call); (· exact rfl); (· exact Try.call17); (· exact Vals.found)
    refine (refNewP (St.start w5)).mono ?_
    rintro x w6 (⟨h6, _⟩ | ⟨_, g, rfl, h6⟩)
    · exact absurd h6 (fun h => h (by omega))
    · rw [Int.toNat_natCast, Int.toNat_natCast] at h6
      exact ⟨_, rfl, WpL.nil ⟨⟨hb5.on h6.rest.toBelow, h6.rest.toBelow⟩, g, w5, Env.set_same _ _ _, hb5.size, h6⟩⟩
  refine RgD.spec1 (NewRT w nd nb) rfl rfl rfl rfl NewRT.stays (fun w5 hb5 x hx => ?_) ?_
  · (refine Reach.walkL ?_; (repeat (first | ((with_reducible refine AllSt.mk ?_); (try clear hS); intro w hS) | ((with_reducible refine AllVw.mk ?_); intro V hV))))
    exact ⟨⟨hb5, Below.refl _ _⟩, by rw [Env.set_same]; exact hx⟩
  refine RgD.spec1 (NewRG w nd nb) rfl rfl rfl rfl NewRG.stays (fun w5 hb5 x hx => ?_) ?_
  · obtain ⟨g, wb, rfl, h1, h2⟩ := hx
    (refine Reach.walkL ?_; (repeat (first | ((with_reducible refine AllSt.mk ?_); (try clear hS); intro w hS) | ((with_reducible refine AllVw.mk ?_); intro V hV))))
    exact ⟨⟨hb5, Below.refl _ _⟩, g, wb, Env.set_same _ _ _, h1, h2⟩
  refine RgD.known1 (c := .int .i64 0) rfl rfl rfl rfl (fun w5 hb5 x hx => ?_) ?_
  · obtain ⟨g, wb, rfl, h1, h2⟩ := hx
    (refine Reach.walkL ?_; (repeat (first | ((with_reducible refine AllSt.mk ?_); (try clear hS); intro w hS) | ((with_reducible refine AllVw.mk ?_); intro V hV))))
    exact ⟨⟨hb5, Below.refl _ _⟩, Env.set_same _ _ _⟩
  refine RgD.spec1 (NewRG w nd nb) rfl rfl rfl rfl NewRG.stays (fun w5 hb5 x hx => ?_) ?_
  · (refine Reach.walkL ?_; (repeat (first | ((with_reducible refine AllSt.mk ?_); (try clear hS); intro w hS) | ((with_reducible refine AllVw.mk ?_); intro V hV))))
    exact ⟨⟨hb5, Below.refl _ _⟩, by rw [Env.set_same]; exact hx⟩
  (refine Reach.rwalk ?_; (repeat (first | ((with_reducible refine AllSt.mk ?_); (try clear hS); intro w hS) | ((with_reducible refine AllVw.mk ?_); intro V hV))))
  refine RgD.fin fun w1 hb1 => ?_
  rintro x1 _ x2 _ x3 _ _ ⟨r, wb, rfl, h1, h2⟩
  have hP := RSt.join hS hb1 h1 h2
  clear hS h1 h2 hb1
  show WpL _ _ _ _ _ _ _
  obtain ⟨S, cS, E, cE, hVS, hVE, hX, hS⟩ := hP
  replace hS := hS.take (pre := [.own A _ _ _ _ _]) Take.found
  simp only [List.cons_append, List.nil_append] at hS
  rw [newBlocks, List.flatten_replicate_replicate] at hS
  (refine Reach.walk ?_; (repeat (first | ((with_reducible refine AllSt.mk ?_); (try clear hS); intro w hS) | ((with_reducible refine AllVw.mk ?_); intro V hV))))
  (refine Wp.drawD 18 (by kernel_rfl) (by kernel_rfl) rfl ?_; dsimp only [List.take, List.drop])
  (refine Reach.rwalk ?_; (repeat (first | ((with_reducible refine AllSt.mk ?_); (try clear hS); intro w hS) | ((with_reducible refine AllVw.mk ?_); intro V hV))))
  (refine RgD.fin0 fun w hb => ?_; replace hS := hS.below hb; clear hb)
  by_cases hN : N = 2 + 5 * nd * nb
  rotate_left
  · (refine Reach.walk ?_; (repeat (first | ((with_reducible refine AllSt.mk ?_); (try clear hS); intro w hS) | ((with_reducible refine AllVw.mk ?_); intro V hV))))
    (with_reducible apply doneQ_two Try.results28); (· exact slotFound); (· exact slotFound)
    exact .inr (.inl ⟨⟨hg, fun nd' nb' h => hN (by have h1 := h.len; have h2 := h.d; have h3 := h.b; rw [hndd] at h2; rw [hnbb] at h3; subst h2 h3; omega)⟩, rfl, hS.tail.tail.tail.tail⟩)
  (refine Reach.walk ?_; (repeat (first | ((with_reducible refine AllSt.mk ?_); (try clear hS); intro w hS) | ((with_reducible refine AllVw.mk ?_); intro V hV))))
  replace hS : St w0 M w (.own A N cA 5 1 (bv y) :: refC r nd nb (nd * nb) S cS E cE ((List.range 0).map (bkAt y) ++ List.replicate (nd * nb - 0) ⟨1, 0⟩) L) := hS
  apply Wp.loopUp (nd * nb) (fun i e w' => (∀ j, j < i → 1 ≤ (bkAt y j).st ∧ (bkAt y j).st ≤ 4) ∧ St w0 M w' (.own A N cA 5 1 (bv y) :: refC r nd nb (nd * nb) S cS E cE ((List.range i).map (bkAt y) ++ List.replicate (nd * nb - i) ⟨1, 0⟩) L) ∧
      e.Has [(8, .int .i64 (i : Nat)), (6, .pointer (some ⟨r, 0, none⟩)), (4, .slice A N cA)]) (Nat.zero_le _)
    ⟨fun j hj => absurd hj (Nat.not_lt_zero _), hS, rfl, rfl, rfl, trivial⟩
  clear hS
  rintro i e w hi ⟨hsts, hS, he⟩
  obtain ⟨e0, rfl⟩ := he.eq
  clear he
  dsimp only [Env.sets]
  by_cases hlt : i < nd * nb
  rotate_left
  · obtain rfl : i = nd * nb := by omega
    rw [Nat.sub_self, List.replicate_zero, List.append_nil, ← poolAt_flat] at hS
    (refine Reach.walk ?_; (repeat (first | ((with_reducible refine AllSt.mk ?_); (try clear hS); intro w hS) | ((with_reducible refine AllVw.mk ?_); intro V hV))))
    (refine Wp.drawD 11 (by kernel_rfl) (by kernel_rfl) rfl ?_; dsimp only [List.take, List.drop])
    (refine Reach.rwalk ?_; (repeat (first | ((with_reducible refine AllSt.mk ?_); (try clear hS); intro w hS) | ((with_reducible refine AllVw.mk ?_); intro V hV))))
    (refine RgD.fin0 fun w hb => ?_; replace hS := hS.below hb; clear hb)
    (refine Reach.walk ?_; (repeat (first | ((with_reducible refine AllSt.mk ?_); (try clear hS); intro w hS) | ((with_reducible refine AllVw.mk ?_); intro V hV))))
    (with_reducible apply doneQ_two Try.results28); (· exact slotFound); (· exact slotFound)
    exact .inr (.inr ⟨hg, r, nd, nb, ⟨by omega, hndd.symm, hnbb.symm, ⟨hok.1, hok.2.1⟩, hok.2.2, by omega, hsts⟩, rfl, S, cS, E, cE, hVS, hVE, poolAt_ok y nd nb, hS.tail⟩)
  have her := er_of (y := y) (i := i) (by omega)
  have hst : (bkAt y i).st = (y.getD (2 + 5 * i + 0) 0).toNat := rfl
  have hat := upto_at (f := bkAt y) hlt
  have hset := upto_set (f := bkAt y) hlt
  have hfl : ((List.range i).map (bkAt y) ++ List.replicate (nd * nb - i) (⟨1, 0⟩ : Bk)).length = nd * nb := by simp; omega
  generalize (List.range i).map (bkAt y) ++ List.replicate (nd * nb - i) (⟨1, 0⟩ : Bk) = F at *
  have hlook : ∀ F j, j < 5 → Look (.own A N cA 5 1 (bv y) :: refC r nd nb (nd * nb) S cS E cE F L) ((adr A).add (0 + (2 + 5 * i) + j)) (.int .u8 ((y.getD (2 + 5 * i + j) 0).toNat : Int)) := fun F j hj => by
    rw [Nat.zero_add]
    exact Look.own (bvg (by omega))
  have hb0 := (y.getD (2 + 5 * i + 0) 0).toNat_lt
  have hb1 := (y.getD (2 + 5 * i + 1) 0).toNat_lt
  have hb2 := (y.getD (2 + 5 * i + 2) 0).toNat_lt
  have hb3 := (y.getD (2 + 5 * i + 3) 0).toNat_lt
  have hb4 := (y.getD (2 + 5 * i + 4) 0).toNat_lt
  have hk0 := hlook F 0 (by decide)
  have hq0 := fun F => hlook F 0 (by decide)
  have hq1 := fun F => hlook F 1 (by decide)
  have hq2 := fun F => hlook F 2 (by decide)
  have hq3 := fun F => hlook F 3 (by decide)
  have hq4 := fun F => hlook F 4 (by decide)
  clear hlook
  generalize (y.getD (2 + 5 * i + 0) 0).toNat = b0 at *
  generalize (y.getD (2 + 5 * i + 1) 0).toNat = b1 at *
  generalize (y.getD (2 + 5 * i + 2) 0).toNat = b2 at *
  generalize (y.getD (2 + 5 * i + 3) 0).toNat = b3 at *
  generalize (y.getD (2 + 5 * i + 4) 0).toNat = b4 at *
  have hat2 : (F.set i ⟨b0, 0⟩).getD i ⟨0, 0⟩ = ⟨b0, 0⟩ := by
    rw [List.getD_eq_getElem?_getD, List.getElem?_set_self (by omega)]; rfl
  have hup : Upd (.own A N cA 5 1 (bv y) :: refC r nd nb (nd * nb) S cS E cE F L) ((adr S).add i) (.int .i64 (b0 : Int)) (.own A N cA 5 1 (bv y) :: refC r nd nb (nd * nb) S cS E cE (F.set i ⟨b0, 0⟩) L) :=
    .there (updS _ (by omega) hat)
  have hup2 : Upd (.own A N cA 5 1 (bv y) :: refC r nd nb (nd * nb) S cS E cE (F.set i ⟨b0, 0⟩) L) ((adr E).add i) (.int .i64 ((b1 + b2 <<< 8 + b3 <<< 16 + b4 <<< 24 : Nat) : Int))
      (.own A N cA 5 1 (bv y) :: refC r nd nb (nd * nb) S cS E cE ((List.range (i + 1)).map (bkAt y) ++ List.replicate (nd * nb - (i + 1)) ⟨1, 0⟩) L) := by
    have := updE (r := r) (nd := nd) (nb := nb) (n := nd * nb) (cS := cS) (cE := cE) (S := S) (E := E) (L := L) (b1 + b2 <<< 8 + b3 <<< 16 + b4 <<< 24) (i := i) (F := F.set i ⟨b0, 0⟩) (by rw [List.length_set]; omega) hat2
    rw [List.set_set] at this
    rw [← hset]
    have e : bkAt y i = ⟨b0, b1 + b2 <<< 8 + b3 <<< 16 + b4 <<< 24⟩ := Bk.ext' hst her.symm
    rw [e]
    exact .there this
  have hq1 := hq1 (F.set i ⟨b0, 0⟩)
  have hq2 := hq2 (F.set i ⟨b0, 0⟩)
  have hq3 := hq3 (F.set i ⟨b0, 0⟩)
  have hq4 := hq4 (F.set i ⟨b0, 0⟩)
  generalize F.set i ⟨b0, 0⟩ = F1 at *
  clear hat hset hat2 her hq0
  by_cases h1 : 1 ≤ b0
  rotate_left
  · (refine Reach.walk ?_; (repeat (first | ((with_reducible refine AllSt.mk ?_); (try clear hS); intro w hS) | ((with_reducible refine AllVw.mk ?_); intro V hV))))
    (refine Wp.drawD 11 (by kernel_rfl) (by kernel_rfl) rfl ?_; dsimp only [List.take, List.drop])
    (refine Reach.rwalk ?_; (repeat (first | ((with_reducible refine AllSt.mk ?_); (try clear hS); intro w hS) | ((with_reducible refine AllVw.mk ?_); intro V hV))))
    (refine RgD.fin0 fun w hb => ?_; replace hS := hS.below hb; clear hb)
    (refine Reach.walk ?_; (repeat (first | ((with_reducible refine AllSt.mk ?_); (try clear hS); intro w hS) | ((with_reducible refine AllVw.mk ?_); intro V hV))))
    (with_reducible apply doneQ_two Try.results28); (· exact slotFound); (· exact slotFound)
    exact .inr (.inl ⟨⟨hg, fun nd' nb' h => h1 (by
      have h1 := h.sts; have h2 := h.d; have h3 := h.b; rw [hndd] at h2; rw [hnbb] at h3; subst h2 h3
      have := (h1 i hlt).1; omega)⟩, rfl, hS.tail.tail.tail.tail⟩)
  by_cases h4 : b0 ≤ 4
  rotate_left
  · (refine Reach.walk ?_; (repeat (first | ((with_reducible refine AllSt.mk ?_); (try clear hS); intro w hS) | ((with_reducible refine AllVw.mk ?_); intro V hV))))
    (refine Wp.drawD 11 (by kernel_rfl) (by kernel_rfl) rfl ?_; dsimp only [List.take, List.drop])
    (refine Reach.rwalk ?_; (repeat (first | ((with_reducible refine AllSt.mk ?_); (try clear hS); intro w hS) | ((with_reducible refine AllVw.mk ?_); intro V hV))))
    (refine RgD.fin0 fun w hb => ?_; replace hS := hS.below hb; clear hb)
    (refine Reach.walk ?_; (repeat (first | ((with_reducible refine AllSt.mk ?_); (try clear hS); intro w hS) | ((with_reducible refine AllVw.mk ?_); intro V hV))))
    (with_reducible apply doneQ_two Try.results28); (· exact slotFound); (· exact slotFound)
    exact .inr (.inl ⟨⟨hg, fun nd' nb' h => h4 (by
      have h1 := h.sts; have h2 := h.d; have h3 := h.b; rw [hndd] at h2; rw [hnbb] at h3; subst h2 h3
      have := (h1 i hlt).2; omega)⟩, rfl, hS.tail.tail.tail.tail⟩)
  (refine Reach.walk ?_; (repeat (first | ((with_reducible refine AllSt.mk ?_); (try clear hS); intro w hS) | ((with_reducible refine AllVw.mk ?_); intro V hV))))
  (refine Wp.drawD 11 (by kernel_rfl) (by kernel_rfl) rfl ?_; dsimp only [List.take, List.drop])
  (refine Reach.rwalk ?_; (repeat (first | ((with_reducible refine AllSt.mk ?_); (try clear hS); intro w hS) | ((with_reducible refine AllVw.mk ?_); intro V hV))))
  (refine RgD.fin0 fun w hb => ?_; replace hS := hS.below hb; clear hb)
  (refine Reach.walk ?_; (repeat (first | ((with_reducible refine AllSt.mk ?_); (try clear hS); intro w hS) | ((with_reducible refine AllVw.mk ?_); intro V hV))))
  (refine Wp.drawD 10 (by kernel_rfl) (by kernel_rfl) rfl ?_; dsimp only [List.take, List.drop])
  (refine Reach.rwalk ?_; (repeat (first | ((with_reducible refine AllSt.mk ?_); (try clear hS); intro w hS) | ((with_reducible refine AllVw.mk ?_); intro V hV))))
  (refine RgD.fin0 fun w hb => ?_; replace hS := hS.below hb; clear hb)
  (refine Reach.walk ?_; (repeat (first | ((with_reducible refine AllSt.mk ?_); (try clear hS); intro w hS) | ((with_reducible refine AllVw.mk ?_); intro V hV))))
  (refine Wp.drawD 28 (by kernel_rfl) (by kernel_rfl) rfl ?_; dsimp only [List.take, List.drop])
  (refine Reach.rwalk ?_; (repeat (first | ((with_reducible refine AllSt.mk ?_); (try clear hS); intro w hS) | ((with_reducible refine AllVw.mk ?_); intro V hV))))
  (refine RgD.fin0 fun w hb => ?_; replace hS := hS.below hb; clear hb)
  (refine Reach.walk ?_; (repeat (first | ((with_reducible refine AllSt.mk ?_); (try clear hS); intro w hS) | ((with_reducible refine AllVw.mk ?_); intro V hV))))
  refine ⟨hlt, fun j hj => ?_, hS, int_eq (by omega), rfl, rfl, trivial⟩
  by_cases hji : j = i
  · subst hji
    omega
  · exact hsts j (by omega)
end
end Go.Proofs.Ytaapnfoimcccjaa

namespace Go.Fk
open Go.RowKit
section
variable {P : Program} {n : Nat} {ops : Array Oper} {I : World → Prop} {R : World → World → Prop} {Fin : (Tmp → Spec) → Prop} {rest : List Oper} {e : Env} {E : Open} {ty : TypeId} {pos : String} {after : Array Edge} {guard : Option (Nat × Bool)}
def RgE (P : Program) (n : Nat) (ops : Array Oper) (I : World → Prop) (R : World → World → Prop) (Fin : (Tmp → Spec) → Prop) (l : List Oper) (e : Env) (E : Open) : Prop :=
  (E.map (·.1)).Nodup → RgL P n ops I R Fin l (gam e E)
theorem one_obE {o : Oper} {d : Tmp} {V : Spec} (hd : o.dst = some d) (hs : notSelect o.op = true) (hn : (E.map (·.1)).Nodup)
    (h : ∀ w, I w → AllE w (fun e => WpL P n ops (fun e' w' => (I w' ∧ R w w') ∧ V (e' d) w') [o] e w) (sub (o.looksAt ops) E) e) :
    Ob P ops I R o (gam e E) V := by
  intro e1 w hw hg
  obtain ⟨e', ⟨_, h1⟩, h2⟩ := AllE.inst (o.looksAt ops) hn hg (h w hw)
  have hops : ∀ x ∈ o.op.operands, e1.eval x = e'.eval x := fun x hx => by
    cases x with
    | tmp t => exact (h2 t (List.mem_append_left _ (List.mem_filterMap.2 ⟨.tmp t, by simpa using hx, rfl⟩))).symm
    | _ => rfl
  have hy : Region.wanted o (yieldedE ops e1) = Region.wanted o (yieldedE ops e') := by
    unfold Region.wanted
    cases hgd : o.guard with
    | none => rfl
    | some p =>
      obtain ⟨g, b⟩ := p
      simp only
      have : yieldedE ops e1 g = yieldedE ops e' g := by
        unfold yieldedE
        cases hb : (ops[g]?).bind (·.dst) with
        | none => rfl
        | some t =>
          simp only
          rw [h2 t (List.mem_append_right _ (by rw [hgd]; simp only; rw [hb]; simp))]
      rw [this]
  have hx : execOp e1.eval o = execOp e'.eval o := execOp_congr o (fun cs b hc => by rw [hc] at hs; cases hs) hops
  rw [hy]
  by_cases hwt : Region.wanted o (yieldedE ops e') = true
  · rw [if_pos hwt] at h1 ⊢
    unfold OpW at h1
    unfold RunsTo
    rw [hx]
    generalize (execOp e'.eval o).run P w = r at h1 ⊢
    have fin : ∀ v w', WpL P n ops (fun e' w' => (I w' ∧ R w w') ∧ V (e' d) w') [] (e'.setD o.dst v) w' → I w' ∧ R w w' ∧ V v w' := fun v w' h => by
      have h : (I w' ∧ R w w') ∧ V (e'.setD o.dst v d) w' := h
      rw [hd] at h
      simp only [Env.setD, Env.set_same] at h
      exact ⟨h.1.1, h.1.2, h.2⟩
    cases r with
    | halt x w' => exact h1.elim
    | ok x w' =>
      cases x <;> simp only at h1 ⊢
      case value v => exact fin _ _ h1
      case skip => exact fin _ _ h1
      case enter f args => exact h1.mono fun x w'' ⟨v, hv, hx⟩ => ⟨v, hv, fin _ _ hx⟩
      case row row args => exact h1.mono fun v w'' hx => fin _ _ hx
  · rw [if_neg hwt] at h1 ⊢
    have h : (I w ∧ R w w) ∧ V (e'.setD o.dst undef d) w := h1
    rw [hd] at h
    simp only [Env.setD, Env.set_same] at h
    exact h.2
/-- One operation whose value is known ahead. -/
theorem RgE.known {o : Op} {d : Tmp} {c : Value} (hd : dOk n (some d) = true) (hs : notSelect o = true) (hk : (E.map (·.1)).contains d = false) (E' : Open) (hE : sub ((⟨some d, o, ty, pos, after, guard⟩ : Oper).looksAt ops) E = E')
    (h : ∀ w, I w → AllE w (fun e => WpL P n ops (fun e' w' => (I w' ∧ R w w') ∧ e' d = c) [⟨some d, o, ty, pos, after, guard⟩] e w) E' e)
    (hr : RgE P n ops I R Fin rest (e.set d c) E) : RgE P n ops I R Fin (⟨some d, o, ty, pos, after, guard⟩ :: rest) e E := fun hn => by
  subst hE
  have hk : d ∉ E.map (·.1) := by simpa using hk
  refine ⟨fun v _ => v = c, hd, fun _ _ _ h _ _ _ => h, one_obE rfl hs hn h, ?_⟩
  have : setG (gam e E) (some d) (fun v _ => v = c) = gam (e.set d c) E := funext fun t => by
    unfold setG
    by_cases ht : t = d
    · subst ht; rw [if_pos rfl, gam_off hk, Env.set_same]
    · rw [if_neg (fun h => ht (by injection h with h; exact h.symm)), gam_set ht]
  simp only [this]
  exact hr hn
/-- One operation of whose value something holds, and goes on to hold. -/
theorem RgE.spec {o : Op} {d : Tmp} (V : Spec) (hd : dOk n (some d) = true) (hs : notSelect o = true) (hk : (E.map (·.1)).contains d = false) (E' : Open) (hE : sub ((⟨some d, o, ty, pos, after, guard⟩ : Oper).looksAt ops) E = E')
    (hst : ∀ v w w', V v w → I w → I w' → R w w' → V v w')
    (h : ∀ w, I w → AllE w (fun e => WpL P n ops (fun e' w' => (I w' ∧ R w w') ∧ V (e' d) w') [⟨some d, o, ty, pos, after, guard⟩] e w) E' e)
    (hr : RgE P n ops I R Fin rest e (E ++ [(d, V)])) : RgE P n ops I R Fin (⟨some d, o, ty, pos, after, guard⟩ :: rest) e E := fun hn => by
  subst hE
  have hk : d ∉ E.map (·.1) := by simpa using hk
  refine ⟨V, hd, fun v w w' h h1 h2 hb => hst v w w' h h1 h2 hb, one_obE rfl hs hn h, ?_⟩
  have : setG (gam e E) (some d) V = gam e (E ++ [(d, V)]) := funext fun t => by
    unfold setG
    rw [gam_last hk]
    by_cases ht : t = d
    · subst ht; rw [if_pos rfl, if_pos rfl]
    · rw [if_neg (fun h => ht (by injection h with h; exact h.symm)), if_neg ht]
  simp only [this]
  refine hr ?_
  simp only [List.map_append, List.map_cons, List.map_nil]
  exact List.nodup_append.2 ⟨hn, by simp, fun a ha b hb => by simp only [List.mem_singleton] at hb; subst hb; exact fun h => hk (h ▸ ha)⟩
theorem RgE.known1 {o : Op} {d t : Tmp} {V : Spec} {c : Value} (hd : dOk n (some d) = true) (hs : notSelect o = true) (hk : (E.map (·.1)).contains d = false) (hE : sub ((⟨some d, o, ty, pos, after, guard⟩ : Oper).looksAt ops) E = [(t, V)])
    (h : ∀ w, I w → ∀ x, V x w → WpL P n ops (fun e' w' => (I w' ∧ R w w') ∧ e' d = c) [⟨some d, o, ty, pos, after, guard⟩] (e.set t x) w)
    (hr : RgE P n ops I R Fin rest (e.set d c) E) : RgE P n ops I R Fin (⟨some d, o, ty, pos, after, guard⟩ :: rest) e E := RgE.known hd hs hk [(t, V)] hE h hr
theorem RgE.spec0 {o : Op} {d : Tmp} (V : Spec) (hd : dOk n (some d) = true) (hs : notSelect o = true) (hk : (E.map (·.1)).contains d = false) (hE : sub ((⟨some d, o, ty, pos, after, guard⟩ : Oper).looksAt ops) E = [])
    (hst : ∀ v w w', V v w → I w → I w' → R w w' → V v w')
    (h : ∀ w, I w → WpL P n ops (fun e' w' => (I w' ∧ R w w') ∧ V (e' d) w') [⟨some d, o, ty, pos, after, guard⟩] e w)
    (hr : RgE P n ops I R Fin rest e (E ++ [(d, V)])) : RgE P n ops I R Fin (⟨some d, o, ty, pos, after, guard⟩ :: rest) e E := RgE.spec V hd hs hk [] hE hst h hr
/-- What leaves the world alone, of known operands. -/
theorem RgE.det {o : Op} {d : Tmp} {c : Value} (hR : ∀ w, R w w) (hd : dOk n (some d) = true) (hs : notSelect o = true) (hk : (E.map (·.1)).contains d = false) (hE : sub ((⟨some d, o, ty, pos, after, none⟩ : Oper).looksAt ops) E = [])
    (h : Det P I o ty e c) (hr : RgE P n ops I R Fin rest (e.set d c) E) : RgE P n ops I R Fin (⟨some d, o, ty, pos, after, none⟩ :: rest) e E :=
  RgE.known hd hs hk [] hE (fun w hw => WpL.det hd (fun _ _ _ _ w' hw' => by subst hw'; exact h _ _ _ _ _ hw) ⟨⟨hw, hR w⟩, Env.set_same _ _ _⟩) hr
theorem RgE.fin {ops' : Array Oper} {K : Env → World → Prop} {tail : List Oper}
    (h : ∀ w, I w → AllE w (fun e => WpL P n ops' K tail e w) E e) :
    RgE P n ops I R (fun Γ => ∀ e' w', I w' → (∀ t, Γ t (e' t) w') → WpL P n ops' K tail e' w') [] e E :=
  fun hn e' w' hb hg => AllE.full hn hg (h w' hb)
end
theorem RgE.fin2 {P : Program} {n : Nat} {ops ops' : Array Oper} {I : World → Prop} {R : World → World → Prop} {e : Env} {K : Env → World → Prop} {tail : List Oper} {t u : Tmp} {V U : Spec}
    (h : ∀ w, I w → ∀ x, V x w → ∀ y, U y w → WpL P n ops' K tail ((e.set t x).set u y) w) :
    RgE P n ops I R (fun Γ => ∀ e' w', I w' → (∀ t, Γ t (e' t) w') → WpL P n ops' K tail e' w') [] e [(t, V), (u, U)] := RgE.fin h
/-- THE RULE, in this form. -/
theorem Wp.drawE {P : Program} {n : Nat} {l : List Oper} {id : Nat} {Q : Exit → Env → World → Prop} {e : Env} {w : World} (N : Nat) (I : World → Prop) (R : World → World → Prop) (hm : P.follows .mixedOrders = true)
    (hok : rgOk l N = true) (hN : Nat.ble N l.length = true) (hR : ∀ w, R w w) (hI : I w.drew)
    (h : RgE P n l.toArray I R (fun Γ => ∀ e' w', I w' → (∀ t, Γ t (e' t) w') → WpL P n l.toArray (Q .normal) (l.drop N) e' w') (l.take N) e []) :
    Wp P n (.region id l.toArray true) Q e w := by
  refine Wp.draw N I R hm hok (Nat.le_of_ble_eq_true hN) hR hI ?_
  exact h (by simp)
/-- A slice that was made beside the parts. -/
def SlV (pre : List Ch) (n : Nat) (xs : List Value) : Spec := fun v w => ∃ A c, v = .slice A n c ∧ Rd w A xs ∧ ∀ a, A = some a → ¬ feet pre a.block
theorem SlV.stays {pre : List Ch} {n : Nat} {xs : List Value} (v : Value) (w w' : World) (h : SlV pre n xs v w) (hR : Chg w (feet pre) w') : SlV pre n xs v w' := by
  obtain ⟨A, c, rfl, h1, h2⟩ := h
  refine ⟨A, c, rfl, h1.keep hR ?_, h2⟩
  rcases h1 with h1 | ⟨a, rfl, _⟩
  · exact .inl h1
  · exact .inr ⟨a, rfl, h2 a rfl⟩
theorem SlV.made {w0 w w' : World} {M : Nat → Prop} {pre Γ : List Ch} {A : Option Addr} {n c : Nat} {el : TypeId} {sz : Nat} {xs : List Value} (h : St w0 M w (pre ++ Γ)) (h' : St w (feet pre) w' (.own A n c el sz xs :: pre)) (hro : ∀ c ∈ pre, c.isRo = false) :
    (St w0 M w' (pre ++ Γ) ∧ Chg w (feet pre) w') ∧ SlV pre n xs (.slice A n c) w' := by
  have h1 : St w0 M w' ((.own A n c el sz xs :: pre) ++ Γ) := h.step h' fun c hc => by
    rcases List.mem_cons.1 hc with rfl | hc
    · rfl
    · exact hro c hc
  refine ⟨⟨h1.tail, h'.chg⟩, A, c, rfl, Rds.own.rd h', ?_⟩
  rintro a rfl ⟨d, hd, hf⟩
  exact (List.pairwise_cons.1 h'.apart).1 d hd a.block rfl hf
end Go.Fk

namespace Go.Proofs.Ytaapnfoimcccjaa
open Go.Fk Go.RowKit
attribute [local irreducible] Wp WpL Det thenQ blockQ WpG thenD blockG
/-- A pool lies at g, the document's at r. -/
def PR (w0 : World) (M : Nat → Prop) (w : World) (g r nd nb : Nat) (Xp Xr : List (List Bk)) (L : List Ch) : Prop := ∃ D cd ps S cS E cE, PoolOk D nd cd nb ps ∧ ps.map (·.2) = Xp ∧ IsVw S (nd * nb) cS S 0 ∧ IsVw E (nd * nb) cE E 0 ∧ XOk nd nb Xr ∧
  St w0 M w (refC r nd nb (nd * nb) S cS E cE Xr.flatten (poolL g D nd cd nb ps L))
theorem side_perm {r nd nb n cS cE g cd : Nat} {S E D : Option Addr} {F : List Bk} {ps : Dies} {L : List Ch} : List.Perm (refC r nd nb n S cS E cE F (poolL g D nd cd nb ps L)) (poolL g D nd cd nb ps (refC r nd nb n S cS E cE F L)) :=
  List.perm_append_comm_assoc [Ch.blk r _ _, Ch.own S _ _ _ _ _, Ch.own E _ _ _ _ _] (Ch.blk g _ _ :: Ch.own D _ _ _ _ _ :: rowsC nb ps) L
/-- The parts of both. -/
abbrev sideC (r nd nb : Nat) (S : Option Addr) (cS : Nat) (E : Option Addr) (cE : Nat) (F : List Bk) (g : Nat) (D : Option Addr) (cd : Nat) (ps : Dies) : List Ch := refC r nd nb (nd * nb) S cS E cE F (poolL g D nd cd nb ps [])
theorem sideC_ro {r nd nb cS cE g cd : Nat} {S E D : Option Addr} {F : List Bk} {ps : Dies} : ∀ c ∈ sideC r nd nb S cS E cE F g D cd ps, c.isRo = false := fun c hc => by
  rcases List.mem_cons.1 hc with rfl | hc
  · rfl
  rcases List.mem_cons.1 hc with rfl | hc
  · rfl
  rcases List.mem_cons.1 hc with rfl | hc
  · rfl
  rcases List.mem_cons.1 hc with rfl | hc
  · rfl
  rcases List.mem_cons.1 hc with rfl | hc
  · rfl
  rw [List.append_nil] at hc
  obtain ⟨p, _, rfl⟩ := List.mem_map.1 hc
  rfl
section
variable {w w0 : World} {M : Nat → Prop} {L : List Ch} {g r nd nb : Nat} {Xp Xr Xn X : List (List Bk)}
theorem PR.left (h : PR w0 M w g r nd nb Xp Xr L) {P : Program} {f : FuncId} {args : Array Value} {R : Ending → Prop}
    (hc : ∀ L', PSt w0 M w g nd nb Xp L' → Calls P f args w fun x w' => R x ∧ PSt w0 M w' g nd nb Xn L') : Calls P f args w fun x w' => R x ∧ PR w0 M w' g r nd nb Xn Xr L := by
  obtain ⟨D, cd, ps, S, cS, E, cE, h1, h2, h3, h4, h5, h6⟩ := h
  refine (hc _ ⟨D, cd, ps, h1, h2, h6.perm side_perm⟩).mono ?_
  rintro x w' ⟨hx, D, cd, ps, h1, h2, h6⟩
  exact ⟨hx, D, cd, ps, S, cS, E, cE, h1, h2, h3, h4, h5, h6.perm side_perm.symm⟩
theorem PR.right (h : PR w0 M w g r nd nb Xp Xr L) {P : Program} {f : FuncId} {args : Array Value} {R : Ending → Prop}
    (hc : ∀ L', RSt w0 M w r nd nb Xr L' → Calls P f args w fun x w' => R x ∧ RSt w0 M w' r nd nb Xn L') : Calls P f args w fun x w' => R x ∧ PR w0 M w' g r nd nb Xp Xn L := by
  obtain ⟨D, cd, ps, S, cS, E, cE, h1, h2, h3, h4, h5, h6⟩ := h
  refine (hc _ ⟨S, cS, E, cE, h3, h4, h5, h6⟩).mono ?_
  rintro x w' ⟨hx, S, cS, E, cE, h3, h4, h5, h6⟩
  exact ⟨hx, D, cd, ps, S, cS, E, cE, h1, h2, h3, h4, h5, h6⟩
theorem PR.rest (h : PR w0 M w g r nd nb Xp Xr L) : St w0 M w L := by
  obtain ⟨D, cd, ps, S, cS, E, cE, h1, h2, h3, h4, h5, h6⟩ := h
  exact PSt.rest ⟨D, cd, ps, h1, h2, h6.tail.tail.tail⟩
theorem stX_in (hX : XOk nd nb X) {d b : Nat} (hd : d < nd) (hb : b < nb) : stX X (d : Int) (b : Int) = ((X.getD d []).getD b ⟨0, 0⟩).st := by
  have hl := (hX.at_ (nb := nb) (nd := nd) · · hd)
  have hkl : d < X.length := by rw [hX.len]; exact hd
  have hm : X.getD d [] ∈ X := by rw [List.getD_eq_getElem?_getD, List.getElem?_eq_getElem hkl]; exact List.getElem_mem _
  have hl := (hX.rows _ hm).1
  unfold stX stAt dieX
  rw [if_pos ⟨by omega, by omega⟩, Int.toNat_natCast, if_pos ⟨by omega, by omega⟩, Int.toNat_natCast]
theorem erX_in (hX : XOk nd nb X) {d b : Nat} (hd : d < nd) (hb : b < nb) : erX X (d : Int) (b : Int) = ((X.getD d []).getD b ⟨0, 0⟩).er := by
  have hkl : d < X.length := by rw [hX.len]; exact hd
  have hm : X.getD d [] ∈ X := by rw [List.getD_eq_getElem?_getD, List.getElem?_eq_getElem hkl]; exact List.getElem_mem _
  have hl := (hX.rows _ hm).1
  unfold erX erAt dieX
  rw [if_pos ⟨by omega, by omega⟩, Int.toNat_natCast, if_pos ⟨by omega, by omega⟩, Int.toNat_natCast]
theorem stX_out (hX : XOk nd nb X) {d b : Int} (h : ¬ (0 ≤ d ∧ d < nd ∧ 0 ≤ b ∧ b < nb)) : stX X d b = 0 ∧ erX X d b = 0 := by
  unfold stX erX stAt erAt
  by_cases hin : inX X d
  · rw [if_pos hin, if_pos hin]
    unfold inX at hin
    have hkl : d.toNat < X.length := by omega
    have hl : (dieX X d).length = nb := by
      refine (hX.rows _ ?_).1
      unfold dieX
      rw [List.getD_eq_getElem?_getD, List.getElem?_eq_getElem hkl]; exact List.getElem_mem _
    have := hX.len
    have hn : ¬ (0 ≤ b ∧ b < ((dieX X d).length : Int)) := fun h2 => h ⟨hin.1, by omega, h2.1, by omega⟩
    rw [if_neg hn, if_neg hn]; exact ⟨rfl, rfl⟩
  · rw [if_neg hin, if_neg hin]; exact ⟨rfl, rfl⟩
set_option maxHeartbeats 4000000 in
theorem alikeP (hnb : 1 ≤ nb ∧ nb ≤ 64) (hnd : 1 ≤ nd ∧ nd ≤ 8) (h : PR w0 M w g r nd nb X X L) :
    Calls Try.prog 22 #[.pointer (some ⟨g, 0, none⟩), .pointer (some ⟨r, 0, none⟩)] w fun x w' => x = .returned (.bool true) ∧ St w0 M w' L := by
  have hnb1 := hnb.1
  have hnb2 := hnb.2
  have hnd1 := hnd.1
  have hnd2 := hnd.2
  have hn0 : nd * nb ≤ 512 := Nat.le_trans (Nat.mul_le_mul hnd2 hnb2) (by decide)
  (refine calls_of (P := Try.prog) _ Try.func22 rfl Try.ntmps22 (Nat.le_of_ble_eq_true rfl) ?_; dsimp only [argE, Nat.reduceAdd])
  (refine Reach.walk ?_; (repeat (first | ((with_reducible refine AllSt.mk ?_); (try clear hS); intro w hS) | ((with_reducible refine AllVw.mk ?_); intro V hV))))
  apply Wp.loopUp (nd + 2) (fun k e w' => PR w0 M w' g r nd nb X X L ∧ e.Has [(5, .int .i64 ((k : Int) - 1)), (0, .pointer (some ⟨g, 0, none⟩)), (1, .pointer (some ⟨r, 0, none⟩))]) (Nat.zero_le _)
    ⟨h, rfl, rfl, rfl, trivial⟩
  clear h
  rintro k e w hk ⟨hP, he⟩
  obtain ⟨e0, rfl⟩ := he.eq
  clear he
  dsimp only [Env.sets]
  obtain ⟨D, cd, ps, S, cS, E, cE, hpo, hps, hVS, hVE, hX, hS⟩ := id hP
  by_cases hkl : k < nd + 2
  rotate_left
  · obtain rfl : k = nd + 2 := by omega
    clear hP
    (refine Reach.walk ?_; (repeat (first | ((with_reducible refine AllSt.mk ?_); (try clear hS); intro w hS) | ((with_reducible refine AllVw.mk ?_); intro V hV))))
    have hI : St w0 M w (sideC r nd nb S cS E cE X.flatten g D cd ps ++ L) := by simpa using hS
    clear hS
    have hbl : (Crc.sealed (poolB nb X)).length = (poolB nb X).length + 4 := Crc.sealed_length _
    refine Wp.drawE 8 (fun w' => St w0 M w' (sideC r nd nb S cS E cE X.flatten g D cd ps ++ L)) (fun w w' => Chg w (feet (sideC r nd nb S cS E cE X.flatten g D cd ps)) w') (by kernel_rfl) (by kernel_rfl) rfl (fun w => Chg.refl _ _) hI.drew ?_
    dsimp only [List.take, List.drop]
    refine RgE.det (fun w => Chg.refl _ _) rfl rfl rfl rfl Det.found2 ?_
    refine RgE.spec0 (SlV (sideC r nd nb S cS E cE X.flatten g D cd ps) ((poolB nb X).length + 4) (bv (Crc.sealed (poolB nb X)))) rfl rfl rfl rfl (fun v w w' h _ _ hR => SlV.stays v w w' h hR) (fun w hw => ?_) ?_
    · (with_reducible apply WpL.call); (· exact rfl); (· exact Try.call24); (· exact Vals.found)
      have hB := bytesS hnb hnd hpo (hw.part.perm side_perm)
      rw [hps] at hB
      refine hB.mono ?_
      rintro x w' ⟨A, c, rfl, hA, h2⟩
      have h4 := SlV.made hw (h2.perm ((List.perm_middle (l₁ := Ch.blk g _ _ :: Ch.own D _ _ _ _ _ :: rowsC nb ps)).trans (List.Perm.cons _ side_perm.symm))) sideC_ro
      exact ⟨_, rfl, WpL.nil ⟨h4.1, by rw [Env.set_same]; exact h4.2⟩⟩
    refine RgE.known1 (c := .string ⟨(Crc.sealed (poolB nb X)).toArray⟩) rfl rfl rfl rfl (fun w hw x hx => ?_) ?_
    · obtain ⟨A, c, rfl, hrd, _⟩ := hx
      exact WpL.det rfl (Det.str rfl (fun w' hw' => by subst hw'; exact hrd) hbl) (WpL.nil ⟨⟨hw, Chg.refl _ _⟩, Env.set_same _ _ _⟩)
    refine RgE.det (fun w => Chg.refl _ _) rfl rfl rfl rfl Det.found2 ?_
    refine RgE.spec0 (SlV (sideC r nd nb S cS E cE X.flatten g D cd ps) ((poolB nb X).length + 4) (bv (Crc.sealed (poolB nb X)))) rfl rfl rfl rfl (fun v w w' h _ _ hR => SlV.stays v w w' h hR) (fun w hw => ?_) ?_
    · (with_reducible apply WpL.call); (· exact rfl); (· exact Try.call35); (· exact Vals.found)
      refine (refBytesS hnb hnd hVS hVE hX hw.part).mono ?_
      rintro x w' ⟨A, c, rfl, hA, h2⟩
      have h4 := SlV.made hw h2 sideC_ro
      exact ⟨_, rfl, WpL.nil ⟨h4.1, by rw [Env.set_same]; exact h4.2⟩⟩
    refine RgE.known1 (c := .string ⟨(Crc.sealed (poolB nb X)).toArray⟩) rfl rfl rfl rfl (fun w hw x hx => ?_) ?_
    · obtain ⟨A, c, rfl, hrd, _⟩ := hx
      exact WpL.det rfl (Det.str rfl (fun w' hw' => by subst hw'; exact hrd) hbl) (WpL.nil ⟨⟨hw, Chg.refl _ _⟩, Env.set_same _ _ _⟩)
    refine RgE.det (fun w => Chg.refl _ _) rfl rfl rfl rfl Det.found2 ?_
    refine RgE.det (fun w => Chg.refl _ _) rfl rfl rfl rfl Det.found2 ?_
    refine RgE.fin2 fun w hS x _ y _ => ?_
    (refine Reach.walk ?_; (repeat (first | ((with_reducible refine AllSt.mk ?_); (try clear hS); intro w hS) | ((with_reducible refine AllVw.mk ?_); intro V hV))))
    (with_reducible apply doneQ_one Try.results22); (· exact slotFound)
    refine ⟨by simp, ?_⟩
    exact hS.sub (List.sublist_append_right _ _)
  (refine Reach.walk ?_; (repeat (first | ((with_reducible refine AllSt.mk ?_); (try clear hS); intro w hS) | ((with_reducible refine AllVw.mk ?_); intro V hV))))
  apply Wp.loopUp (nb + 2) (fun m e w' => PR w0 M w' g r nd nb X X L ∧ e.Has [(6, .int .i64 ((m : Int) - 1)), (5, .int .i64 ((k : Int) - 1)), (0, .pointer (some ⟨g, 0, none⟩)), (1, .pointer (some ⟨r, 0, none⟩))]) (Nat.zero_le _)
    ⟨hP, rfl, rfl, rfl, rfl, trivial⟩
  clear hS hP hps hpo hVS hVE
  clear D cd ps S cS E cE
  rintro m e w hm ⟨hP, he⟩
  obtain ⟨e1, rfl⟩ := he.eq
  clear he
  dsimp only [Env.sets]
  obtain ⟨D, cd, ps, S, cS, E, cE, hpo, hps, hVS, hVE, hX, hS⟩ := id hP
  by_cases hml : m < nb + 2
  · (refine Reach.walk ?_; (repeat (first | ((with_reducible refine AllSt.mk ?_); (try clear hS); intro w hS) | ((with_reducible refine AllVw.mk ?_); intro V hV))))
    (with_reducible apply WpL.call); (· exact rfl); (· exact Try.call32); (· exact Vals.found)
    refine (refIn hS).mono ?_
    clear hS hP
    rintro x w ⟨rfl, hS⟩
    refine ⟨_, rfl, ?_⟩
    have hP : PR w0 M w g r nd nb X X L := ⟨D, cd, ps, S, cS, E, cE, hpo, hps, hVS, hVE, hX, hS⟩
    by_cases hin : 0 ≤ (k : Int) - 1 ∧ (k : Int) - 1 < nd ∧ 0 ≤ (m : Int) - 1 ∧ (m : Int) - 1 < nb
    · rw [decide_eq_true hin]
      obtain ⟨d, rfl⟩ : ∃ d, k = d + 1 := ⟨k - 1, by omega⟩
      obtain ⟨b, rfl⟩ : ∃ b, m = b + 1 := ⟨m - 1, by omega⟩
      have ed : ((d + 1 : Nat) : Int) - 1 = (d : Int) := by omega
      have eb : ((b + 1 : Nat) : Int) - 1 = (b : Int) := by omega
      rw [ed, eb] at hin ⊢
      have hdl : d < nd := by omega
      have hbl : b < nb := by omega
      have hda := hX.at_ hnd2 hnb2 hdl
      have hsx := stX_in hX hdl hbl
      have hex := erX_in hX hdl hbl
      have hlt := hda.lt b hbl
      have hmul := hda.mul
      have hfl := hda.flen
      have hlk : Look (refC r nd nb (nd * nb) S cS E cE X.flatten (poolL g D nd cd nb ps L)) ((adr S).add (d * nb + b)) (.int .i64 (((X.getD d []).getD b ⟨0, 0⟩).st : Int)) := lookS (by omega) (hda.at_ b hbl)
      have hlk2 : Look (refC r nd nb (nd * nb) S cS E cE X.flatten (poolL g D nd cd nb ps L)) ((adr E).add (d * nb + b)) (.int .i64 (((X.getD d []).getD b ⟨0, 0⟩).er : Int)) := lookE (by omega) (hda.at_ b hbl)
      rw [← hsx] at hlk
      rw [← hex] at hlk2
      clear hsx hex hda
      (refine Reach.walk ?_; (repeat (first | ((with_reducible refine AllSt.mk ?_); (try clear hS); intro w hS) | ((with_reducible refine AllVw.mk ?_); intro V hV))))
      (refine Wp.drawD 15 (by kernel_rfl) (by kernel_rfl) rfl ?_; dsimp only [List.take, List.drop])
      (refine Reach.rwalk ?_; (repeat (first | ((with_reducible refine AllSt.mk ?_); (try clear hS); intro w hS) | ((with_reducible refine AllVw.mk ?_); intro V hV))))
      (refine RgD.fin0 fun w hb => ?_; replace hS := hS.below hb; clear hb)
      (refine Reach.walk ?_; (repeat (first | ((with_reducible refine AllSt.mk ?_); (try clear hS); intro w hS) | ((with_reducible refine AllVw.mk ?_); intro V hV))))
      (refine Wp.drawD 15 (by kernel_rfl) (by kernel_rfl) rfl ?_; dsimp only [List.take, List.drop])
      (refine Reach.rwalk ?_; (repeat (first | ((with_reducible refine AllSt.mk ?_); (try clear hS); intro w hS) | ((with_reducible refine AllVw.mk ?_); intro V hV))))
      (refine RgD.fin0 fun w hb => ?_; replace hS := hS.below hb; clear hb)
      replace hP : PR w0 M w g r nd nb X X L := ⟨D, cd, ps, S, cS, E, cE, hpo, hps, hVS, hVE, hX, hS⟩
      clear hlk hlk2 hS
      (refine Reach.walk ?_; (repeat (first | ((with_reducible refine AllSt.mk ?_); (try clear hS); intro w hS) | ((with_reducible refine AllVw.mk ?_); intro V hV))))
      (with_reducible apply WpL.call); (· exact rfl); (· exact Try.call25); (· exact Vals.found)
      refine (hP.left (R := fun x => x = .returned (.int .i64 (stX X (d : Int) (b : Int) : Nat))) fun L' h => stateP hnb hnd2 _ _ h).mono ?_
      clear hP
      rintro x w ⟨rfl, hP⟩
      refine ⟨_, rfl, ?_⟩
      (refine Reach.walk ?_; (repeat (first | ((with_reducible refine AllSt.mk ?_); (try clear hS); intro w hS) | ((with_reducible refine AllVw.mk ?_); intro V hV))))
      (with_reducible apply WpL.call); (· exact rfl); (· exact Try.call26); (· exact Vals.found)
      refine (hP.left (R := fun x => x = .returned (.int .i64 (erX X (d : Int) (b : Int) : Nat))) fun L' h => erasesP hnb hnd2 _ _ h).mono ?_
      clear hP
      rintro x w ⟨rfl, hP⟩
      refine ⟨_, rfl, ?_⟩
      (refine Reach.walk ?_; (repeat (first | ((with_reducible refine AllSt.mk ?_); (try clear hS); intro w hS) | ((with_reducible refine AllVw.mk ?_); intro V hV))))
      exact ⟨hml, hP, int_eq (by omega), int_eq (by omega), rfl, rfl, trivial⟩
    · rw [decide_eq_false hin]
      obtain ⟨hsx, hex⟩ := stX_out hX hin
      clear hS
      generalize hdd : (k : Int) - 1 = d at *
      generalize hbb : (m : Int) - 1 = b at *
      (refine Reach.walk ?_; (repeat (first | ((with_reducible refine AllSt.mk ?_); (try clear hS); intro w hS) | ((with_reducible refine AllVw.mk ?_); intro V hV))))
      (with_reducible apply WpL.call); (· exact rfl); (· exact Try.call25); (· exact Vals.found)
      refine (hP.left (R := fun x => x = .returned (.int .i64 (stX X d b : Nat))) fun L' h => stateP hnb hnd2 _ _ h).mono ?_
      clear hP
      rintro x w ⟨rfl, hP⟩
      refine ⟨_, rfl, ?_⟩
      rw [hsx]
      (refine Reach.walk ?_; (repeat (first | ((with_reducible refine AllSt.mk ?_); (try clear hS); intro w hS) | ((with_reducible refine AllVw.mk ?_); intro V hV))))
      (with_reducible apply WpL.call); (· exact rfl); (· exact Try.call26); (· exact Vals.found)
      refine (hP.left (R := fun x => x = .returned (.int .i64 (erX X d b : Nat))) fun L' h => erasesP hnb hnd2 _ _ h).mono ?_
      clear hP
      rintro x w ⟨rfl, hP⟩
      refine ⟨_, rfl, ?_⟩
      rw [hex]
      (refine Reach.walk ?_; (repeat (first | ((with_reducible refine AllSt.mk ?_); (try clear hS); intro w hS) | ((with_reducible refine AllVw.mk ?_); intro V hV))))
      exact ⟨hml, hP, int_eq (by omega), int_eq (by omega), rfl, rfl, trivial⟩
  obtain rfl : m = nb + 2 := by omega
  (refine Reach.walk ?_; (repeat (first | ((with_reducible refine AllSt.mk ?_); (try clear hS); intro w hS) | ((with_reducible refine AllVw.mk ?_); intro V hV))))
  apply Wp.loopUp 6 (fun s e w' => PR w0 M w' g r nd nb X X L ∧ e.Has [(10, .int .i64 (s : Nat)), (5, .int .i64 ((k : Int) - 1)), (0, .pointer (some ⟨g, 0, none⟩)), (1, .pointer (some ⟨r, 0, none⟩))]) (Nat.zero_le _)
    ⟨hP, rfl, rfl, rfl, rfl, trivial⟩
  clear hS hP hps hpo hVS hVE
  clear D cd ps S cS E cE
  rintro s e w hs ⟨hP, he⟩
  obtain ⟨e2, rfl⟩ := he.eq
  clear he
  dsimp only [Env.sets]
  by_cases hsl : s < 6
  · (refine Reach.walk ?_; (repeat (first | ((with_reducible refine AllSt.mk ?_); (try clear hS); intro w hS) | ((with_reducible refine AllVw.mk ?_); intro V hV))))
    (with_reducible apply WpL.call); (· exact rfl); (· exact Try.call15); (· exact Vals.found)
    refine (hP.left (R := fun x => x = .returned (.int .i64 (countX X ((k : Int) - 1) (s : Int) : Nat))) fun L' h => countP hnb hnd2 _ _ h).mono ?_
    clear hP
    rintro x w ⟨rfl, hP⟩
    refine ⟨_, rfl, ?_⟩
    (refine Reach.walk ?_; (repeat (first | ((with_reducible refine AllSt.mk ?_); (try clear hS); intro w hS) | ((with_reducible refine AllVw.mk ?_); intro V hV))))
    (with_reducible apply WpL.call); (· exact rfl); (· exact Try.call33); (· exact Vals.found)
    refine (hP.right (R := fun x => x = .returned (.int .i64 (countX X ((k : Int) - 1) (s : Int) : Nat))) fun L' h => refCountP hnb hnd2 _ _ h).mono ?_
    clear hP
    rintro x w ⟨rfl, hP⟩
    refine ⟨_, rfl, ?_⟩
    (refine Reach.walk ?_; (repeat (first | ((with_reducible refine AllSt.mk ?_); (try clear hS); intro w hS) | ((with_reducible refine AllVw.mk ?_); intro V hV))))
    exact ⟨hsl, hP, int_eq (by omega), rfl, rfl, rfl, trivial⟩
  obtain rfl : s = 6 := by omega
  (refine Reach.walk ?_; (repeat (first | ((with_reducible refine AllSt.mk ?_); (try clear hS); intro w hS) | ((with_reducible refine AllVw.mk ?_); intro V hV))))
  (with_reducible apply WpL.call); (· exact rfl); (· exact Try.call14); (· exact Vals.found)
  refine (hP.left (R := fun x => x = .returned (.int .i64 (spreadX X ((k : Int) - 1)))) fun L' h => spreadP hnb hnd2 _ h).mono ?_
  clear hP
  rintro x w ⟨rfl, hP⟩
  refine ⟨_, rfl, ?_⟩
  (refine Reach.walk ?_; (repeat (first | ((with_reducible refine AllSt.mk ?_); (try clear hS); intro w hS) | ((with_reducible refine AllVw.mk ?_); intro V hV))))
  (with_reducible apply WpL.call); (· exact rfl); (· exact Try.call34); (· exact Vals.found)
  refine (hP.right (R := fun x => x = .returned (.int .i64 (spreadX X ((k : Int) - 1)))) fun L' h => refSpreadP hnb hnd2 _ h).mono ?_
  clear hP
  rintro x w ⟨rfl, hP⟩
  refine ⟨_, rfl, ?_⟩
  (refine Reach.walk ?_; (repeat (first | ((with_reducible refine AllSt.mk ?_); (try clear hS); intro w hS) | ((with_reducible refine AllVw.mk ?_); intro V hV))))
  exact ⟨hkl, hP, int_eq (by omega), rfl, rfl, trivial⟩
end
end Go.Proofs.Ytaapnfoimcccjaa

namespace Go.Proofs.Ytaapnfoimcccjaa
open Go.Fk Go.RowKit
attribute [local irreducible] Wp WpL Det thenQ blockQ WpG thenD blockG
instance rfLp : PtrT Try.prog 24 := ⟨_, Try.underlying24⟩
theorem PR.of {w0 w : World} {M : Nat → Prop} {L : List Ch} {g r nd nb : Nat} {Xp Xr : List (List Bk)} {D : Option Addr} {cd : Nat} {ps : Dies} (h1 : PoolOk D nd cd nb ps) (h2 : ps.map (·.2) = Xp) (h : RSt w0 M w r nd nb Xr (poolL g D nd cd nb ps L)) : PR w0 M w g r nd nb Xp Xr L := by
  obtain ⟨S, cS, E, cE, h3, h4, h5, h6⟩ := h
  exact ⟨D, cd, ps, S, cS, E, cE, h1, h2, h3, h4, h5, h6⟩
theorem PoolBytes.one {y : List UInt8} {nd nb nd' nb' : Nat} (h : PoolBytes y nd nb) (h' : PoolBytes y nd' nb') : nd = nd' ∧ nb = nb' := ⟨h.d.trans h'.d.symm, h.b.trans h'.b.symm⟩
set_option maxHeartbeats 4000000 in
theorem blocksParse_any {A : Option Addr} {n c : Nat} {l : List UInt8} {s : Bool} (hn : n ≤ l.length) (hV : IsVw A n c A 0) (hlen : n + 4 ≤ 140737488355328) (W : World) (hr : Rd W A (bv l)) :
    Calls Try.prog 7 #[.slice A n c, .bool s] W fun x w' => x = .returned (.bool true) ∧ Below W.heap.size W w' := by
  have hS := (St.start W).startRo hr
  clear hr
  (refine calls_of (P := Try.prog) _ Try.func7 rfl Try.ntmps7 (Nat.le_of_ble_eq_true rfl) ?_; dsimp only [argE, Nat.reduceAdd])
  (refine Reach.walk ?_; (repeat (first | ((with_reducible refine AllSt.mk ?_); (try clear hS); intro w hS) | ((with_reducible refine AllVw.mk ?_); intro V hV))))
  (with_reducible apply WpL.call); (· exact rfl); (· exact Try.call8); (· exact Vals.found)
  refine (awake_any hS).mono ?_
  clear hS
  rintro x w ⟨rfl, hS⟩
  refine ⟨_, rfl, ?_⟩
  (refine Reach.walk ?_; (repeat (first | ((with_reducible refine AllSt.mk ?_); (try clear hS); intro w hS) | ((with_reducible refine AllVw.mk ?_); intro V hV))))
  refine Wp.cut (fun e w => ∃ (L : List Ch) (V : Option Addr) (m k : Nat) (b : List UInt8), St W (feet []) w L ∧ RdsV L V m (bv b) ∧ m ≤ k ∧ m ≤ 140737488355328 ∧ e.Has [(0, .slice V m k)]) ?_ ?_
  · have hr : RdsV [.ro A (bv l)] A n (bv ((l.drop 0).take n)) := RdsV.byte hV Rds.ro (by omega)
    have hn2 : ((l.drop 0).take n).length = n := by simp; omega
    generalize (l.drop 0).take n = l2 at *
    have hle := hV.le
    cases s
    · (refine Reach.walk ?_; (repeat (first | ((with_reducible refine AllSt.mk ?_); (try clear hS); intro w hS) | ((with_reducible refine AllVw.mk ?_); intro V hV))))
      exact ⟨_, A, n, c, l2, hS, hr, hle, by omega, rfl, trivial⟩
    · (refine Reach.walk ?_; (repeat (first | ((with_reducible refine AllSt.mk ?_); (try clear hS); intro w hS) | ((with_reducible refine AllVw.mk ?_); intro V hV))))
      (with_reducible apply WpL.call); (· exact rfl); (· exact Try.call27); (· exact Vals.found)
      refine (refSealS hS hr (by omega)).mono ?_
      clear hS
      rintro x w ⟨B, cB, rfl, hB, hS⟩
      refine ⟨_, rfl, ?_⟩
      (refine Reach.walk ?_; (repeat (first | ((with_reducible refine AllSt.mk ?_); (try clear hS); intro w hS) | ((with_reducible refine AllVw.mk ?_); intro V hV))))
      exact ⟨_, B, n + 4, cB, Crc.sealed l2, hS, RdsV.whole Rds.own (by rw [bv_length, Crc.sealed_length, hn2]), hB.le, by omega, rfl, trivial⟩
  clear hS
  rintro e w ⟨L, V, m, k, b, hS, hr, hmk, hm, he⟩
  obtain ⟨e0, rfl⟩ := he.eq
  clear he
  dsimp only [Env.sets]
  (refine Reach.walk ?_; (repeat (first | ((with_reducible refine AllSt.mk ?_); (try clear hS); intro w hS) | ((with_reducible refine AllVw.mk ?_); intro V hV))))
  (with_reducible apply WpL.call); (· exact rfl); (· exact Try.call23); (· exact Vals.found)
  refine (parseP hS hr hmk hm).mono ?_
  clear hS
  rintro x w (⟨hg, rfl, hS⟩ | ⟨⟨hg, hno⟩, rfl, hS⟩ | ⟨hg, g, nd, nb, hpb, rfl, hP⟩)
  · refine ⟨_, rfl, ?_⟩
    (refine Reach.walk ?_; (repeat (first | ((with_reducible refine AllSt.mk ?_); (try clear hS); intro w hS) | ((with_reducible refine AllVw.mk ?_); intro V hV))))
    (with_reducible apply WpL.call); (· exact rfl); (· exact Try.call28); (· exact Vals.found)
    refine (refParseP hS hr hmk hm).mono ?_
    clear hS
    rintro x w (⟨_, rfl, hS⟩ | ⟨⟨h, _⟩, _⟩ | ⟨h, _⟩)
    rotate_left
    · exact absurd h hg
    · exact absurd h hg
    refine ⟨_, rfl, ?_⟩
    (refine Reach.walk ?_; (repeat (first | ((with_reducible refine AllSt.mk ?_); (try clear hS); intro w hS) | ((with_reducible refine AllVw.mk ?_); intro V hV))))
    (with_reducible apply doneQ_one Try.results7); (· exact slotFound)
    exact ⟨rfl, hS.toBelow⟩
  · refine ⟨_, rfl, ?_⟩
    (refine Reach.walk ?_; (repeat (first | ((with_reducible refine AllSt.mk ?_); (try clear hS); intro w hS) | ((with_reducible refine AllVw.mk ?_); intro V hV))))
    (with_reducible apply WpL.call); (· exact rfl); (· exact Try.call28); (· exact Vals.found)
    refine (refParseP hS hr hmk hm).mono ?_
    clear hS
    rintro x w (⟨h, _⟩ | ⟨_, rfl, hS⟩ | ⟨_, g, nd, nb, h, _⟩)
    · exact absurd hg h
    rotate_left
    · exact absurd h (hno nd nb)
    refine ⟨_, rfl, ?_⟩
    (refine Reach.walk ?_; (repeat (first | ((with_reducible refine AllSt.mk ?_); (try clear hS); intro w hS) | ((with_reducible refine AllVw.mk ?_); intro V hV))))
    (with_reducible apply doneQ_one Try.results7); (· exact slotFound)
    exact ⟨rfl, hS.toBelow⟩
  · refine ⟨_, rfl, ?_⟩
    obtain ⟨D, cd, ps, h1, h2, hS⟩ := hP
    have hr' : RdsV (poolL g D nd cd nb ps L) V m (bv b) := hr.mem fun _ _ _ hS => hS.sub (List.sublist_append_right (Ch.blk g _ _ :: Ch.own D _ _ _ _ _ :: rowsC nb ps) L)
    (refine Reach.walk ?_; (repeat (first | ((with_reducible refine AllSt.mk ?_); (try clear hS); intro w hS) | ((with_reducible refine AllVw.mk ?_); intro V hV))))
    (with_reducible apply WpL.call); (· exact rfl); (· exact Try.call28); (· exact Vals.found)
    refine (refParseP hS hr' hmk hm).mono ?_
    clear hS
    rintro x w (⟨h, _⟩ | ⟨⟨_, h⟩, _⟩ | ⟨_, r, nd', nb', hpb', rfl, hP⟩)
    · exact absurd hg h
    · exact absurd hpb (h nd nb)
    obtain ⟨rfl, rfl⟩ := hpb'.one hpb
    refine ⟨_, rfl, ?_⟩
    have hPR := PR.of h1 h2 hP
    clear hP
    have hS := hPR.rest
    (refine Reach.walk ?_; (repeat (first | ((with_reducible refine AllSt.mk ?_); (try clear hS); intro w hS) | ((with_reducible refine AllVw.mk ?_); intro V hV))))
    (with_reducible apply WpL.call); (· exact rfl); (· exact Try.call22); (· exact Vals.found)
    refine (alikeP hpb.hb hpb.hd hPR).mono ?_
    clear hS hPR
    rintro x w ⟨rfl, hS⟩
    refine ⟨_, rfl, ?_⟩
    (refine Reach.walk ?_; (repeat (first | ((with_reducible refine AllSt.mk ?_); (try clear hS); intro w hS) | ((with_reducible refine AllVw.mk ?_); intro V hV))))
    (with_reducible apply doneQ_one Try.results7); (· exact slotFound)
    exact ⟨rfl, hS.toBelow⟩
end Go.Proofs.Ytaapnfoimcccjaa

namespace Go.Fk
open Go.RowKit Go.ChangeShapes Go.WideShapes Go.ChangeAt

/-- What a slice reads as. -/
def SliceD {H : Type} (d : DataW H) (len cap : Nat) : Prop := (d = .nil ∧ len = 0 ∧ cap = 0) ∨ ∃ elems spare : List (DataW H), d = .slice elems spare ∧ elems.length = len ∧ spare.length = cap - len

section
variable {H : Type} {enc : TypeId × Value → H} {P : Program} {W : World}
theorem argInts {t el : TypeId} {k : IntKind} (ht : P.underlying t = some (.slice el)) (he : P.underlying el = some (.int k)) (hc : P.cellsOf el = 1) {A : Option Addr} {len cap : Nat} {d : DataW H} {p : List MemPlace}
    (h : DataW.Trod enc P W 0 (fun _ => true) true t (.slice A len cap) d p) :
    ∃ zs : List Int, zs.length = cap ∧ len ≤ cap ∧ cap ≤ maxLen ∧ Rd W A (zs.map (Value.int k)) ∧ SliceD d len cap ∧ ∀ z ∈ zs, (Lit.int k z).wf = true := by
  obtain ⟨fuel, hf⟩ := h
  rcases open_ints ht he hc hf with ⟨hcs, hx⟩ | ⟨a, l, c, zs, hcs, _, hl, hm, hz, hx, hcell, hwz⟩
  · simp [Value.cells] at hcs
    obtain ⟨rfl, rfl, rfl⟩ := hcs
    simp only [Prod.mk.injEq] at hx
    exact ⟨[], rfl, Nat.le_refl _, Nat.zero_le _, .inl rfl, .inl ⟨hx.1, rfl, rfl⟩, by simp⟩
  · simp [Value.cells] at hcs
    obtain ⟨rfl, rfl, rfl⟩ := hcs
    simp only [if_true] at hz
    simp only [Prod.mk.injEq] at hx
    refine ⟨zs, hz, hl, hm, .inr ⟨a, rfl, fun j u hu => ?_⟩, .inr ⟨_, _, hx.1, by simp [lits]; omega, by simp [lits]; omega⟩, hwz⟩
    rw [List.getElem?_map] at hu
    cases hj : zs[j]? with
    | none => rw [hj] at hu; cases hu
    | some z =>
      rw [hj] at hu
      have hjl := (List.getElem?_eq_some_iff.1 hj).1
      rw [hcell j hjl, ← hu]
      simp [List.getD_eq_getElem?_getD, hj]

theorem argBytes {t el : TypeId} (ht : P.underlying t = some (.slice el)) (he : P.underlying el = some (.int .u8)) (hc : P.cellsOf el = 1) {A : Option Addr} {len cap : Nat} {d : DataW H} {p : List MemPlace}
    (h : DataW.Trod enc P W 0 (fun _ => true) true t (.slice A len cap) d p) :
    ∃ l : List UInt8, l.length = len ∧ len ≤ cap ∧ cap ≤ maxLen ∧ Rd W A (bv l) ∧ SliceD d len cap := by
  obtain ⟨zs, hz, hl, hm, hr, hd, hw⟩ := argInts ht he hc h
  refine ⟨(zs.take len).map fun z => UInt8.ofNat z.toNat, by simp; omega, hl, hm, ?_, hd⟩
  have e1 : bv ((zs.take len).map fun z => UInt8.ofNat z.toNat) = (zs.map (Value.int .u8)).take len := by
    rw [← List.map_take, bv, List.map_map]
    refine List.map_congr_left fun z hz' => ?_
    have hzw := hw z (List.mem_of_mem_take hz')
    simp [Lit.wf, IntKind.min, IntKind.max, IntKind.signed, IntKind.bits] at hzw
    simp only [Function.comp]
    refine int_eq ?_
    have : (UInt8.ofNat z.toNat).toNat = z.toNat % 256 := by simp
    rw [this]; omega
  rw [e1]
  exact hr.take _

/-- The form's own reach: a slice's capacity. -/
theorem sizedSlice {ts : List TypeId} {ds : List (DataW H)} (h : (DataW.weightsEach P ts ds).all (· ≤ reachBytes) = true) {j : Nat} {t e : TypeId} {d : DataW H} {len cap : Nat} (hs : SliceD d len cap) (hlc : len ≤ cap)
    (ht : ts[j]? = some t) (hd : ds[j]? = some d) (hu : P.underlying t = some (.slice e)) : cap * P.bytesOf e ≤ reachBytes := by
  rcases hs with ⟨_, _, rfl⟩ | ⟨elems, spare, rfl, h1, h2⟩
  · simp
  · have := sized_slice h ht hd hu
    rw [h1, h2, Nat.add_sub_cancel' hlc] at this
    exact this
end

end Go.Fk
namespace Go.Proofs.Ytaapnfoimcccjaa
open Go.Fk
theorem bulkAll_len {H : Type} : ∀ l : List (DataW H), l.length ≤ Rows.uptoBulkAll l
  | [] => Nat.zero_le _
  | d :: r => by
    have h1 : 1 ≤ Rows.uptoBulk d := by
      cases d with
      | lit l => cases l <;> simp [Rows.uptoBulk]
      | _ => simp [Rows.uptoBulk]
    have h2 := bulkAll_len r
    simp only [Rows.uptoBulkAll, List.length_cons]; omega
/-- The second form's bound: a slice's places. -/
theorem bulk_slice {H : Type} {d : DataW H} {len cap : Nat} (hs : SliceD d len cap) (hlc : len ≤ cap) : cap ≤ Rows.uptoBulk d := by
  rcases hs with ⟨_, _, rfl⟩ | ⟨elems, spare, rfl, h1, h2⟩
  · exact Nat.zero_le _
  · have h3 := bulkAll_len elems
    have h4 := bulkAll_len spare
    simp only [Rows.uptoBulk]; omega
end Go.Proofs.Ytaapnfoimcccjaa

namespace Go.Fk
open Go.RowKit Go.ChangeShapes Go.WideShapes Go.ChangeAt Go.Deep

inductive CK where
  | int (k : IntKind)
  | bool
def CK.is : CK → Value → Prop
  | .int k, .int k' z => k' = k ∧ (Lit.int k' z).wf = true
  | .bool, .bool _ => True
  | _, _ => False
def AllIs : List CK → List Value → Prop
  | [], [] => True
  | k :: ks, v :: vs => k.is v ∧ AllIs ks vs
  | _, _ => False
theorem AllIs.length : ∀ {ks : List CK} {vs : List Value}, AllIs ks vs → vs.length = ks.length
  | [], [], _ => rfl
  | [], _ :: _, h => h.elim
  | _ :: _, [], h => h.elim
  | _ :: _, _ :: _, h => by simp [AllIs.length h.2]
theorem AllIs.append : ∀ {ks ks' : List CK} {vs vs' : List Value}, AllIs ks vs → AllIs ks' vs' → AllIs (ks ++ ks') (vs ++ vs')
  | [], _, [], _, _, h => h
  | [], _, _ :: _, _, h, _ => h.elim
  | _ :: _, _, [], _, h, _ => h.elim
  | _ :: _, _, _ :: _, _, h, h' => ⟨h.1, AllIs.append h.2 h'⟩
theorem AllIs.nil {vs : List Value} (h : AllIs [] vs) : vs = [] := by
  cases vs with
  | nil => rfl
  | cons _ _ => exact h.elim
theorem AllIs.cons {k : CK} {ks : List CK} {vs : List Value} (h : AllIs (k :: ks) vs) : ∃ v r, vs = v :: r ∧ k.is v ∧ AllIs ks r := by
  cases vs with
  | nil => exact h.elim
  | cons v r => exact ⟨v, r, rfl, h.1, h.2⟩
theorem CK.is_int {k : IntKind} {v : Value} (h : (CK.int k).is v) : ∃ z, v = .int k z ∧ (Lit.int k z).wf = true := by
  cases v <;> simp only [CK.is] at h
  all_goals first
    | exact h.elim
    | (obtain ⟨rfl, h⟩ := h; exact ⟨_, rfl, h⟩)
theorem CK.is_bool {v : Value} (h : CK.bool.is v) : ∃ b, v = .bool b := by
  cases v <;> simp only [CK.is] at h
  all_goals first
    | exact h.elim
    | exact ⟨_, rfl⟩
section
variable {ks : List CK} {vs : List Value}
theorem AllIs.i64 (h : AllIs (.int .i64 :: ks) vs) : ∃ z r, vs = .int .i64 z :: r ∧ (-9223372036854775808 ≤ z ∧ z ≤ 9223372036854775807) ∧ AllIs ks r := by
  obtain ⟨v, r, rfl, h1, h2⟩ := h.cons
  obtain ⟨z, rfl, hw⟩ := CK.is_int h1
  exact ⟨z, r, rfl, by simpa [Lit.wf, IntKind.min, IntKind.max, IntKind.signed, IntKind.bits] using hw, h2⟩
theorem AllIs.u64 (h : AllIs (.int .u64 :: ks) vs) : ∃ (m : Nat) (r : List Value), vs = .int .u64 (m : Int) :: r ∧ m < 18446744073709551616 ∧ AllIs ks r := by
  obtain ⟨v, r, rfl, h1, h2⟩ := h.cons
  obtain ⟨z, rfl, hw⟩ := CK.is_int h1
  have hw : 0 ≤ z ∧ z ≤ 18446744073709551615 := by simpa [Lit.wf, IntKind.min, IntKind.max, IntKind.signed, IntKind.bits] using hw
  obtain ⟨m, rfl⟩ := Int.eq_ofNat_of_zero_le hw.1
  exact ⟨m, r, rfl, by omega, h2⟩
theorem AllIs.u32 (h : AllIs (.int .u32 :: ks) vs) : ∃ (m : Nat) (r : List Value), vs = .int .u32 (m : Int) :: r ∧ m < 4294967296 ∧ AllIs ks r := by
  obtain ⟨v, r, rfl, h1, h2⟩ := h.cons
  obtain ⟨z, rfl, hw⟩ := CK.is_int h1
  have hw : 0 ≤ z ∧ z ≤ 4294967295 := by simpa [Lit.wf, IntKind.min, IntKind.max, IntKind.signed, IntKind.bits] using hw
  obtain ⟨m, rfl⟩ := Int.eq_ofNat_of_zero_le hw.1
  exact ⟨m, r, rfl, by omega, h2⟩
theorem AllIs.u8 (h : AllIs (.int .u8 :: ks) vs) : ∃ (m : Nat) (r : List Value), vs = .int .u8 (m : Int) :: r ∧ m < 256 ∧ AllIs ks r := by
  obtain ⟨v, r, rfl, h1, h2⟩ := h.cons
  obtain ⟨z, rfl, hw⟩ := CK.is_int h1
  have hw : 0 ≤ z ∧ z ≤ 255 := by simpa [Lit.wf, IntKind.min, IntKind.max, IntKind.signed, IntKind.bits] using hw
  obtain ⟨m, rfl⟩ := Int.eq_ofNat_of_zero_le hw.1
  exact ⟨m, r, rfl, by omega, h2⟩
theorem AllIs.b (h : AllIs (.bool :: ks) vs) : ∃ b r, vs = .bool b :: r ∧ AllIs ks r := by
  obtain ⟨v, r, rfl, h1, h2⟩ := h.cons
  obtain ⟨b, rfl⟩ := CK.is_bool h1
  exact ⟨b, r, rfl, h2⟩
end

def flats (g : TypeId → Option (List CK)) (P : Program) : Nat → List Field → Option (List CK)
  | _, [] => some []
  | o, f :: r => if f.offset = o then (g f.type).bind fun ks => if ks.length = P.cellsOf f.type then (flats g P (o + ks.length) r).map (ks ++ ·) else none else none
/-- What the cells of a type of numbers and truths are. -/
def flat (P : Program) : Nat → TypeId → Option (List CK)
  | 0, _ => none
  | d + 1, t => match P.underlying t with
    | some (.int k) => some [.int k]
    | some .bool => some [.bool]
    | some (.struct fs) => (flats (flat P d) P 0 fs.toList).bind fun ks => if ks.length = P.cellsOf t then some ks else none
    | _ => none
theorem flats_spec {g : TypeId → Option (List CK)} {P : Program} {cs : List Value} : ∀ (l : List Field) (o : Nat) (ks : List CK), flats g P o l = some ks →
    (∀ f ∈ l, ∀ ks', g f.type = some ks' → AllIs ks' ((cs.drop f.offset).take (P.cellsOf f.type))) → AllIs ks ((cs.drop o).take ks.length)
  | [], o, ks, h, _ => by
    simp only [flats, Option.some.injEq] at h
    subst h; simp [AllIs]
  | f :: r, o, ks, h, hf => by
    simp only [flats] at h
    split at h
    · rename_i ho
      cases hg : g f.type with
      | none => rw [hg] at h; cases h
      | some k1 =>
        rw [hg] at h
        simp only [Option.bind_some] at h
        split at h
        · rename_i hl
          cases hr : flats g P (o + k1.length) r with
          | none => rw [hr] at h; cases h
          | some k2 =>
            rw [hr] at h
            simp only [Option.map_some, Option.some.injEq] at h
            subst h
            have h1 := hf f List.mem_cons_self k1 hg
            have h2 := flats_spec r _ k2 hr fun f' hf' => hf f' (List.mem_cons_of_mem _ hf')
            rw [ho, ← hl] at h1
            rw [List.length_append, List.take_add, List.drop_drop]
            exact h1.append h2
        · cases h
    · cases h

section
variable {H : Type} {enc : TypeId × Value → H} {P : Program} {w W : World} {base : Nat} {spare : Nat → Bool} {held : Bool}
theorem flat_trod : ∀ (d : Nat) (t : TypeId) (ks : List CK), flat P d t = some ks → ∀ (fuel : Nat) (cs : List Value) (x : DataW H × List MemPlace), DataW.trod enc P w base spare held fuel t cs = some x → AllIs ks cs
  | 0, t, ks, h, _, _, _, _ => by cases h
  | d + 1, t, ks, h, fuel, cs, x, hx => by
    unfold flat at h
    split at h
    · rename_i k hu
      simp only [Option.some.injEq] at h
      subst h
      obtain ⟨n, rfl, _, hw⟩ := DataW.trod_int hu hx
      exact ⟨⟨rfl, hw⟩, trivial⟩
    · rename_i hu
      simp only [Option.some.injEq] at h
      subst h
      obtain ⟨b, rfl, _⟩ := DataW.trod_bool hu hx
      exact ⟨trivial, trivial⟩
    · rename_i fs hu
      cases hf : flats (flat P d) P 0 fs.toList with
      | none => rw [hf] at h; cases h
      | some k1 =>
        rw [hf] at h
        simp only [Option.bind_some] at h
        split at h
        · rename_i hl
          simp only [Option.some.injEq] at h
          subst h
          obtain ⟨xs, n, _, _, hlen, hxl, hall⟩ := DataW.trod_struct hu hx
          have h1 := flats_spec (cs := cs) fs.toList 0 k1 hf fun f hfm ks' hg => by
            obtain ⟨i, hi, hfi⟩ := List.getElem_of_mem hfm
            have hfi' : fs[i]? = some f := by
              rw [← Array.getElem?_toList, List.getElem?_eq_getElem hi, hfi]
            have h2 := hall i f hfi'
            have hi2 : i < xs.length := by rw [hxl]; simpa using hi
            rw [List.getElem?_eq_getElem hi2] at h2
            exact flat_trod d _ _ hg _ _ _ h2
          rw [List.drop_zero, List.take_of_length_le (by omega)] at h1
          exact h1
        · cases h
    · cases h
/-- A struct by value. -/
theorem argFlat {r : Go.Reach} {b0 : Nat} {t : TypeId} {fs : Array Field} {ks : List CK} {v : Value} {d : DataW H} {p : List MemPlace} (n : Nat) (hu : P.underlying t = some (.struct fs)) (hk : flat P n t = some ks) (hv : Value.okWide P w r b0 t v) (h : DataW.Trod enc P w base spare held t v d p) :
    ∃ cs : List Value, v = .agg cs.toArray ∧ AllIs ks cs := by
  obtain ⟨cs, rfl, _⟩ := okWide_struct hu hv
  obtain ⟨fuel, hf⟩ := h
  exact ⟨cs.toList, rfl, flat_trod n t ks hk fuel _ _ hf⟩

theorem argInts2 {t el : TypeId} (ht : P.underlying t = some (.slice el)) (he : P.underlying el = some (.int .i64)) (hc : P.cellsOf el = 1) {A : Option Addr} {len cap : Nat} {d : DataW H} {p : List MemPlace}
    (h : DataW.Trod enc P W 0 (fun _ => true) true t (.slice A len cap) d p) :
    ∃ zs : List Int, zs.length = cap ∧ IsVw A len cap A 0 ∧ Rd W A (zv zs) ∧ SliceD d len cap ∧ ∀ z ∈ zs, -9223372036854775808 ≤ z ∧ z ≤ 9223372036854775807 := by
  have hA : A = none → cap = 0 := fun hA => by
    subst hA
    obtain ⟨fuel, hf⟩ := h
    rcases open_ints ht he hc hf with ⟨hcs, _⟩ | ⟨a, l, c, zs, hcs, _⟩
    · simp [Value.cells] at hcs; exact hcs.2
    · simp [Value.cells] at hcs
  obtain ⟨zs, hz, hl, hm, hr, hd, hw⟩ := argInts ht he hc h
  refine ⟨zs, hz, IsVw.base hl hm hA, hr, hd, fun z hzm => ?_⟩
  have := hw z hzm
  simpa [Lit.wf, IntKind.min, IntKind.max, IntKind.signed, IntKind.bits] using this
theorem argBytes2 {t el : TypeId} (ht : P.underlying t = some (.slice el)) (he : P.underlying el = some (.int .u8)) (hc : P.cellsOf el = 1) {A : Option Addr} {len cap : Nat} {d : DataW H} {p : List MemPlace}
    (h : DataW.Trod enc P W 0 (fun _ => true) true t (.slice A len cap) d p) :
    ∃ l : List UInt8, l.length = len ∧ IsVw A len cap A 0 ∧ Rd W A (bv l) ∧ SliceD d len cap := by
  have hA : A = none → cap = 0 := fun hA => by
    subst hA
    obtain ⟨fuel, hf⟩ := h
    rcases open_ints ht he hc hf with ⟨hcs, _⟩ | ⟨a, l, c, zs, hcs, _⟩
    · simp [Value.cells] at hcs; exact hcs.2
    · simp [Value.cells] at hcs
  obtain ⟨l, hn, hl, hm, hr, hd⟩ := argBytes ht he hc h
  exact ⟨l, hn, IsVw.base hl hm hA, hr, hd⟩
/-- A slice of structs of numbers and truths. -/
theorem argFlats {t el : TypeId} {ks : List CK} (n : Nat) (ht : P.underlying t = some (.slice el)) (hk : flat P n el = some ks) {A : Option Addr} {len cap : Nat} {d : DataW H} {p : List MemPlace}
    (h : DataW.Trod enc P W 0 (fun _ => true) true t (.slice A len cap) d p) :
    ∃ cs : List Value, cs.length = cap * P.cellsOf el ∧ IsVw A len cap A 0 ∧ Rd W A cs ∧ SliceD d len cap ∧ ∀ i, i < cap → AllIs ks ((cs.drop (i * P.cellsOf el)).take (P.cellsOf el)) := by
  obtain ⟨fuel, hf⟩ := h
  rcases open_slice ht hf with ⟨hcs, hx⟩ | ⟨a, l, c, m, n', D, Pl, hcs, _, hl, hm, hmm, hx, hi⟩
  · simp [Value.cells] at hcs
    obtain ⟨rfl, rfl, rfl⟩ := hcs
    simp only [Prod.mk.injEq] at hx
    exact ⟨[], by simp, IsVw.nil, .inl rfl, .inl ⟨hx.1, rfl, rfl⟩, fun i hi => absurd hi (Nat.not_lt_zero _)⟩
  · simp [Value.cells] at hcs
    obtain ⟨rfl, rfl, rfl⟩ := hcs
    simp only [if_true] at hmm
    subst hmm
    simp only [Prod.mk.injEq] at hx
    generalize hsz : P.cellsOf el = sz at *
    have hcell : ∀ i, i < m → ∃ cs' : List Value, cs'.length = sz ∧ (∀ j, j < sz → W.cell? (a.add (i * sz + j)) = cs'[j]?) ∧ AllIs ks cs' := fun i him => by
      obtain ⟨cs', h1, h2⟩ := hi i him
      obtain ⟨_, h3, h4⟩ := World.cells?_some h1
      refine ⟨cs', h3, fun j hj => ?_, flat_trod n el ks hk _ _ _ h2⟩
      have := h4 j hj
      rwa [Go.Deep.add_add] at this
    let g : Nat → Value := fun j => (W.cell? (a.add j)).getD undef
    have hg : ∀ j, j < m * sz → W.cell? (a.add j) = some (g j) := fun j hj => by
      have hs0 : 0 < sz := Nat.pos_of_ne_zero fun h0 => by subst h0; simp at hj
      have hq : j / sz < m := Nat.div_lt_of_lt_mul (by rwa [Nat.mul_comm] at hj)
      obtain ⟨cs', h1, h2, _⟩ := hcell (j / sz) hq
      have h3 := h2 (j % sz) (Nat.mod_lt _ hs0)
      rw [show j / sz * sz + j % sz = j by rw [Nat.mul_comm]; exact Nat.div_add_mod j sz, List.getElem?_eq_getElem (by rw [h1]; exact Nat.mod_lt _ hs0)] at h3
      show _ = some ((W.cell? (a.add j)).getD undef)
      rw [h3]; rfl
    refine ⟨(List.range (m * sz)).map g, by simp, IsVw.base hl hm (by simp), .inr ⟨a, rfl, fun j u hu => ?_⟩, .inr ⟨_, _, hx.1, by simp, by simp⟩, fun i him => ?_⟩
    · rw [List.getElem?_map] at hu
      have hj : j < m * sz := by
        rcases Nat.lt_or_ge j (m * sz) with h | h
        · exact h
        · rw [List.getElem?_eq_none (by simpa using h)] at hu; cases hu
      rw [List.getElem?_range hj] at hu
      rw [hg j hj]; exact hu
    · obtain ⟨cs', h1, h2, h3⟩ := hcell i him
      have hle : i * sz + sz ≤ m * sz := by
        have := Nat.mul_le_mul_right sz (show i + 1 ≤ m by omega)
        rwa [Nat.add_mul, Nat.one_mul] at this
      have : (((List.range (m * sz)).map g).drop (i * sz)).take sz = cs' := by
        refine List.ext_getElem? fun j => ?_
        rw [List.getElem?_take]
        split
        · rename_i hj
          rw [List.getElem?_drop, List.getElem?_map, List.getElem?_range (by omega)]
          have h4 := h2 j hj
          rw [hg _ (by omega)] at h4
          exact h4
        · rw [List.getElem?_eq_none (by omega)]
      rw [this]; exact h3
end
end Go.Fk
