/-
  Parts of a proof: The document's pool: the pool of bytes; Regions that draw their order, some of whose operations are calls that write and give back what they wrote: between the operations the worlds keep a condition of one's own. It holds for any program; conditions stand at each theorem. (The proofs are those of the text Rgd, turned to that condition.); A pool and the document's pool, side by side; whether they tell the same; BlocksParse: any bytes are the pool that the document says, or none; BlocksPlay: a pool does what the document says, call by call; BlocksBack: what is written of a pool is read as it was; What a law is told of its arguments: slices of bytes and of numbers as they come in. It holds for any program; conditions stand at each theorem.
-/
import Derived.Test.YtaapnfoimcccjaaRows
import Derived.ProofKit
import Derived.OpenShut
import Derived.ShutString
import Derived.ChangeOld
import Derived.SizedLaws
import Derived.JoinedCond
import Derived.Test.YtaapnfoimcccjaaLawBlocksPlayM8
set_option linter.unusedVariables false
namespace Go.Proofs.Ytaapnfoimcccjaa
open Go.Fk Go.RowKit
attribute [local irreducible] Wp WpL Det thenQ blockQ WpG thenD blockG
theorem RSt.below {w0 w w' : World} {M : Nat → Prop} {r nd nb : Nat} {X : List (List Bk)} {L : List Ch} (h : RSt w0 M w r nd nb X L) (hb : Below w.heap.size w w') : RSt w0 M w' r nd nb X L := let ⟨S, cS, E, cE, h1, h2, h3, h4⟩ := h; ⟨S, cS, E, cE, h1, h2, h3, h4.below hb⟩
theorem RSt.rest {w0 w : World} {M : Nat → Prop} {r nd nb : Nat} {X : List (List Bk)} {L : List Ch} (h : RSt w0 M w r nd nb X L) : St w0 M w L := let ⟨_, _, _, _, _, _, _, h4⟩ := h; h4.tail.tail.tail
theorem RSt.join {w0 w wb w' : World} {M : Nat → Prop} {L : List Ch} {r nd nb : Nat} {X : List (List Bk)} (hS : St w0 M w L) (hb : Below w.heap.size w w') (hwb : w.heap.size ≤ wb.heap.size) (hP : RSt wb (feet []) w' r nd nb X []) : RSt w0 M w' r nd nb X L := by
  obtain ⟨S, cS, E, cE, h1, h2, h3, h4⟩ := hP
  refine ⟨S, cS, E, cE, h1, h2, h3, ?_⟩
  have := hS.join hb hwb h4 fun c hc => by
    rcases List.mem_cons.1 hc with rfl | hc
    · rfl
    rcases List.mem_cons.1 hc with rfl | hc
    · rfl
    rcases List.mem_cons.1 hc with rfl | hc
    · rfl
    cases hc
  simpa using this
def NewRT (w : World) (nd nb : Nat) : Fk.Spec := fun x w2 => ∃ g wb, x = .tuple #[.pointer (some ⟨g, 0, none⟩), .int .i64 0] ∧ w.heap.size ≤ wb.heap.size ∧ RSt wb (feet []) w2 g nd nb (List.replicate nd (newBlocks nb)) []
def NewRG (w : World) (nd nb : Nat) : Fk.Spec := fun x w2 => ∃ g wb, x = .pointer (some ⟨g, 0, none⟩) ∧ w.heap.size ≤ wb.heap.size ∧ RSt wb (feet []) w2 g nd nb (List.replicate nd (newBlocks nb)) []
theorem NewRT.stays {w : World} {nd nb : Nat} (v : Value) (w1 w2 : World) : NewRT w nd nb v w1 → Below w1.heap.size w1 w2 → NewRT w nd nb v w2 := fun ⟨g, wb, h1, h2, h3⟩ hb => ⟨g, wb, h1, h2, h3.below hb⟩
theorem NewRG.stays {w : World} {nd nb : Nat} (v : Value) (w1 w2 : World) : NewRG w nd nb v w1 → Below w1.heap.size w1 w2 → NewRG w nd nb v w2 := fun ⟨g, wb, h1, h2, h3⟩ hb => ⟨g, wb, h1, h2, h3.below hb⟩
theorem take4 : ∀ {z : List UInt8}, 4 ≤ z.length → z.take 4 = [z.getD 0 0, z.getD 1 0, z.getD 2 0, z.getD 3 0]
  | a :: b :: c :: d :: r, _ => rfl
  | [], h | [_], h | [_, _], h | [_, _, _], h => absurd h (by simp)
theorem er_of {y : List UInt8} {i : Nat} (h : 2 + 5 * i + 5 ≤ y.length) : (y.getD (2 + 5 * i + 1) 0).toNat + (y.getD (2 + 5 * i + 2) 0).toNat <<< 8 + (y.getD (2 + 5 * i + 3) 0).toNat <<< 16 + (y.getD (2 + 5 * i + 4) 0).toNat <<< 24 = (bkAt y i).er := by
  have h4 := take4 (z := y.drop (2 + 5 * i + 1)) (by rw [List.length_drop]; omega)
  have hg : ∀ j, (y.drop (2 + 5 * i + 1)).getD j 0 = y.getD (2 + 5 * i + 1 + j) 0 := fun j => by simp only [List.getD_eq_getElem?_getD, List.getElem?_drop]
  rw [hg, hg, hg, hg] at h4
  show _ = Crc.loN ((y.drop (2 + 5 * i + 1)).take 4)
  rw [h4]
  simp only [Crc.loN, Nat.add_zero]
  show _ = (y.getD (2 + 5 * i + 1) 0).toNat + 256 * ((y.getD (2 + 5 * i + 2) 0).toNat + 256 * ((y.getD (2 + 5 * i + 3) 0).toNat + 256 * ((y.getD (2 + 5 * i + 4) 0).toNat + 256 * 0)))
  omega
theorem poolAt_flat (y : List UInt8) (nb : Nat) : ∀ nd, (poolAt y nd nb).flatten = (List.range (nd * nb)).map (bkAt y)
  | 0 => by simp [poolAt]
  | nd + 1 => by
    have ih := poolAt_flat y nb nd
    unfold poolAt at ih ⊢
    rw [List.range_succ, List.map_append, List.flatten_append, ih, Nat.add_mul, Nat.one_mul, List.range_add, List.map_append]
    simp [dieAt, Function.comp_def]
theorem poolAt_ok (y : List UInt8) (nd nb : Nat) : XOk nd nb (poolAt y nd nb) :=
  ⟨by simp [poolAt], fun l hl => by
    obtain ⟨d, _, rfl⟩ := List.mem_map.1 hl
    exact ⟨by simp [dieAt], dieAt_fit y nb d⟩⟩
theorem upto_set {f : Nat → Bk} {i n : Nat} (h : i < n) : ((List.range i).map f ++ List.replicate (n - i) (⟨1, 0⟩ : Bk)).set i (f i) = (List.range (i + 1)).map f ++ List.replicate (n - (i + 1)) ⟨1, 0⟩ := by
  obtain ⟨q, hq⟩ : ∃ q, n - i = q + 1 := ⟨n - i - 1, by omega⟩
  rw [hq, show n - (i + 1) = q by omega, List.replicate_succ, List.set_append_right _ _ (by simp), List.range_succ, List.map_append]
  simp
theorem upto_at {f : Nat → Bk} {i n : Nat} (h : i < n) : ((List.range i).map f ++ List.replicate (n - i) (⟨1, 0⟩ : Bk)).getD i ⟨0, 0⟩ = ⟨1, 0⟩ := by
  obtain ⟨q, hq⟩ : ∃ q, n - i = q + 1 := ⟨n - i - 1, by omega⟩
  rw [hq, List.replicate_succ, List.getD_eq_getElem?_getD, List.getElem?_append_right (by simp)]
  simp
section
variable {w w0 : World} {M : Nat → Prop} {L : List Ch}
set_option maxHeartbeats 4000000 in
theorem refParseP {V : Option Addr} {n c : Nat} {b : List UInt8} (hS : St w0 M w L) (hr : RdsV L V n (bv b)) (hnc : n ≤ c) (hlen : n ≤ 140737488355328) :
    Calls Try.prog 28 #[.slice V n c] w fun x w' =>
      (¬ Crc.good b ∧ x = .returned (.tuple #[.pointer none, .int .i64 30]) ∧ St w0 M w' L) ∨
      ((Crc.good b ∧ ∀ nd nb, ¬ PoolBytes (b.take (n - 4)) nd nb) ∧ x = .returned (.tuple #[.pointer none, .int .i64 81]) ∧ St w0 M w' L) ∨
      (Crc.good b ∧ ∃ g nd nb, PoolBytes (b.take (n - 4)) nd nb ∧ x = .returned (.tuple #[.pointer (some ⟨g, 0, none⟩), .int .i64 0]) ∧ RSt w0 M w' g nd nb (poolAt (b.take (n - 4)) nd nb) L) := by
  (refine calls_of (P := Try.prog) _ Try.func28 rfl Try.ntmps28 (Nat.le_of_ble_eq_true rfl) ?_; dsimp only [argE, Nat.reduceAdd])
  (refine Reach.walk ?_; (repeat (first | ((with_reducible refine AllSt.mk ?_); (try clear hS); intro w hS) | ((with_reducible refine AllVw.mk ?_); intro V hV))))
  (with_reducible apply WpL.call); (· exact rfl); (· exact Try.call41); (· exact Vals.found)
  refine (refOpenS hS hr hnc hlen).mono ?_
  have hbl : b.length = n := by have := (hr w0 M w hS).2; simpa using this
  clear hS
  rintro x w (⟨hg, A, cA, rfl, hA, hS⟩ | ⟨hg, rfl, hS⟩)
  rotate_left
  · refine ⟨_, rfl, ?_⟩
    (refine Reach.walk ?_; (repeat (first | ((with_reducible refine AllSt.mk ?_); (try clear hS); intro w hS) | ((with_reducible refine AllVw.mk ?_); intro V hV))))
    (with_reducible apply doneQ_two Try.results28); (· exact slotFound); (· exact slotFound)
    exact .inl ⟨hg, rfl, hS⟩
  refine ⟨_, rfl, ?_⟩
  have hyl : (b.take (n - 4)).length = n - 4 := by rw [List.length_take]; omega
  generalize hy : b.take (n - 4) = y at *
  generalize n - 4 = N at *
  by_cases h2 : N < 2
  · (refine Reach.walk ?_; (repeat (first | ((with_reducible refine AllSt.mk ?_); (try clear hS); intro w hS) | ((with_reducible refine AllVw.mk ?_); intro V hV))))
    (with_reducible apply doneQ_two Try.results28); (· exact slotFound); (· exact slotFound)
    exact .inr (.inl ⟨⟨hg, fun nd nb h => by have := h.two; omega⟩, rfl, hS.tail⟩)
  (refine Reach.walk ?_; (repeat (first | ((with_reducible refine AllSt.mk ?_); (try clear hS); intro w hS) | ((with_reducible refine AllVw.mk ?_); intro V hV))))
  have hnd := (y.getD 0 0).toNat_lt
  have hnb := (y.getD 1 0).toNat_lt
  generalize hndd : (y.getD 0 0).toNat = nd at *
  generalize hnbb : (y.getD 1 0).toNat = nb at *
  by_cases hok : 1 ≤ nd ∧ nd ≤ 8 ∧ 1 ≤ nb ∧ nb ≤ 64
  rotate_left
  · (refine Wp.drawD 14 (by kernel_rfl) (by kernel_rfl) rfl ?_; dsimp only [List.take, List.drop])
    (refine Reach.rwalk ?_; (repeat (first | ((with_reducible refine AllSt.mk ?_); (try clear hS); intro w hS) | ((with_reducible refine AllVw.mk ?_); intro V hV))))
    rw [hndd, hnbb]
    refine RgD.known0 (c := .tuple #[.pointer none, .int .i64 1]) rfl rfl rfl rfl (fun w5 hb5 => ?_) ?_
    · (with_reducible apply WpL.call); (· exact rfl); (· exact Try.call17); (· exact Vals.found)
      refine (refNewP (St.start w5)).mono ?_
      rintro x w6 (⟨_, rfl, h6⟩ | ⟨h6, _⟩)
      · exact ⟨_, rfl, WpL.nil ⟨⟨hb5.on h6.toBelow, h6.toBelow⟩, Env.set_same _ _ _⟩⟩
      · exact absurd h6 (fun h => hok (by omega))
    (refine Reach.rwalk ?_; (repeat (first | ((with_reducible refine AllSt.mk ?_); (try clear hS); intro w hS) | ((with_reducible refine AllVw.mk ?_); intro V hV))))
    (refine RgD.fin0 fun w hb => ?_; replace hS := hS.below hb; clear hb)
    (refine Reach.walk ?_; (repeat (first | ((with_reducible refine AllSt.mk ?_); (try clear hS); intro w hS) | ((with_reducible refine AllVw.mk ?_); intro V hV))))
    (refine Wp.drawD 18 (by kernel_rfl) (by kernel_rfl) rfl ?_; dsimp only [List.take, List.drop])
    (refine Reach.rwalk ?_; (repeat (first | ((with_reducible refine AllSt.mk ?_); (try clear hS); intro w hS) | ((with_reducible refine AllVw.mk ?_); intro V hV))))
    (refine RgD.fin0 fun w hb => ?_; replace hS := hS.below hb; clear hb)
    (refine Reach.walk ?_; (repeat (first | ((with_reducible refine AllSt.mk ?_); (try clear hS); intro w hS) | ((with_reducible refine AllVw.mk ?_); intro V hV))))
    (with_reducible apply doneQ_two Try.results28); (· exact slotFound); (· exact slotFound)
    exact .inr (.inl ⟨⟨hg, fun nd nb h => hok (by have := h.hd; have := h.hb; have := h.d; have := h.b; omega)⟩, rfl, hS.tail⟩)
  have hnd8 := hok.2.1
  have hnb64 := hok.2.2.2
  have hmul : nd * nb ≤ 8 * 64 := Nat.mul_le_mul hnd8 hnb64
  have hmul5 : 5 * nd * nb ≤ 2560 := by rw [Nat.mul_assoc]; omega
  have hm5e : 5 * nd * nb = 5 * (nd * nb) := Nat.mul_assoc _ _ _
  (refine Wp.drawD 14 (by kernel_rfl) (by kernel_rfl) rfl ?_; dsimp only [List.take, List.drop])
  (refine Reach.rwalk ?_; (repeat (first | ((with_reducible refine AllSt.mk ?_); (try clear hS); intro w hS) | ((with_reducible refine AllVw.mk ?_); intro V hV))))
  rw [hndd, hnbb]
  refine RgD.spec0 (NewRT w nd nb) rfl rfl rfl rfl NewRT.stays (fun w5 hb5 => ?_) ?_
  · (with_reducible apply WpL.call); (· exact rfl); (· exact Try.call17); (· exact Vals.found)
    refine (refNewP (St.start w5)).mono ?_
    rintro x w6 (⟨h6, _⟩ | ⟨_, g, rfl, h6⟩)
    · exact absurd h6 (fun h => h (by omega))
    · rw [Int.toNat_natCast, Int.toNat_natCast] at h6
      exact ⟨_, rfl, WpL.nil ⟨⟨hb5.on h6.rest.toBelow, h6.rest.toBelow⟩, g, w5, Env.set_same _ _ _, hb5.size, h6⟩⟩
  refine RgD.spec1 (NewRT w nd nb) rfl rfl rfl rfl NewRT.stays (fun w5 hb5 x hx => ?_) ?_
  · (refine Reach.walkL ?_; (repeat (first | ((with_reducible refine AllSt.mk ?_); (try clear hS); intro w hS) | ((with_reducible refine AllVw.mk ?_); intro V hV))))
    exact ⟨⟨hb5, Below.refl _ _⟩, by rw [Env.set_same]; exact hx⟩
  refine RgD.spec1 (NewRG w nd nb) rfl rfl rfl rfl NewRG.stays (fun w5 hb5 x hx => ?_) ?_
  · obtain ⟨g, wb, rfl, h1, h2⟩ := hx
    (refine Reach.walkL ?_; (repeat (first | ((with_reducible refine AllSt.mk ?_); (try clear hS); intro w hS) | ((with_reducible refine AllVw.mk ?_); intro V hV))))
    exact ⟨⟨hb5, Below.refl _ _⟩, g, wb, Env.set_same _ _ _, h1, h2⟩
  refine RgD.known1 (c := .int .i64 0) rfl rfl rfl rfl (fun w5 hb5 x hx => ?_) ?_
  · obtain ⟨g, wb, rfl, h1, h2⟩ := hx
    (refine Reach.walkL ?_; (repeat (first | ((with_reducible refine AllSt.mk ?_); (try clear hS); intro w hS) | ((with_reducible refine AllVw.mk ?_); intro V hV))))
    exact ⟨⟨hb5, Below.refl _ _⟩, Env.set_same _ _ _⟩
  refine RgD.spec1 (NewRG w nd nb) rfl rfl rfl rfl NewRG.stays (fun w5 hb5 x hx => ?_) ?_
  · (refine Reach.walkL ?_; (repeat (first | ((with_reducible refine AllSt.mk ?_); (try clear hS); intro w hS) | ((with_reducible refine AllVw.mk ?_); intro V hV))))
    exact ⟨⟨hb5, Below.refl _ _⟩, by rw [Env.set_same]; exact hx⟩
  (refine Reach.rwalk ?_; (repeat (first | ((with_reducible refine AllSt.mk ?_); (try clear hS); intro w hS) | ((with_reducible refine AllVw.mk ?_); intro V hV))))
  refine RgD.fin fun w1 hb1 => ?_
  rintro x1 _ x2 _ x3 _ _ ⟨r, wb, rfl, h1, h2⟩
  have hP := RSt.join hS hb1 h1 h2
  clear hS h1 h2 hb1
  show WpL _ _ _ _ _ _ _
  obtain ⟨S, cS, E, cE, hVS, hVE, hX, hS⟩ := hP
  replace hS := hS.take (pre := [.own A _ _ _ _ _]) Take.found
  simp only [List.cons_append, List.nil_append] at hS
  rw [newBlocks, List.flatten_replicate_replicate] at hS
  (refine Reach.walk ?_; (repeat (first | ((with_reducible refine AllSt.mk ?_); (try clear hS); intro w hS) | ((with_reducible refine AllVw.mk ?_); intro V hV))))
  (refine Wp.drawD 18 (by kernel_rfl) (by kernel_rfl) rfl ?_; dsimp only [List.take, List.drop])
  (refine Reach.rwalk ?_; (repeat (first | ((with_reducible refine AllSt.mk ?_); (try clear hS); intro w hS) | ((with_reducible refine AllVw.mk ?_); intro V hV))))
  (refine RgD.fin0 fun w hb => ?_; replace hS := hS.below hb; clear hb)
  by_cases hN : N = 2 + 5 * nd * nb
  rotate_left
  · (refine Reach.walk ?_; (repeat (first | ((with_reducible refine AllSt.mk ?_); (try clear hS); intro w hS) | ((with_reducible refine AllVw.mk ?_); intro V hV))))
    (with_reducible apply doneQ_two Try.results28); (· exact slotFound); (· exact slotFound)
    exact .inr (.inl ⟨⟨hg, fun nd' nb' h => hN (by have h1 := h.len; have h2 := h.d; have h3 := h.b; rw [hndd] at h2; rw [hnbb] at h3; subst h2 h3; omega)⟩, rfl, hS.tail.tail.tail.tail⟩)
  (refine Reach.walk ?_; (repeat (first | ((with_reducible refine AllSt.mk ?_); (try clear hS); intro w hS) | ((with_reducible refine AllVw.mk ?_); intro V hV))))
  replace hS : St w0 M w (.own A N cA 5 1 (bv y) :: refC r nd nb (nd * nb) S cS E cE ((List.range 0).map (bkAt y) ++ List.replicate (nd * nb - 0) ⟨1, 0⟩) L) := hS
  apply Wp.loopUp (nd * nb) (fun i e w' => (∀ j, j < i → 1 ≤ (bkAt y j).st ∧ (bkAt y j).st ≤ 4) ∧ St w0 M w' (.own A N cA 5 1 (bv y) :: refC r nd nb (nd * nb) S cS E cE ((List.range i).map (bkAt y) ++ List.replicate (nd * nb - i) ⟨1, 0⟩) L) ∧
      e.Has [(8, .int .i64 (i : Nat)), (6, .pointer (some ⟨r, 0, none⟩)), (4, .slice A N cA)]) (Nat.zero_le _)
    ⟨fun j hj => absurd hj (Nat.not_lt_zero _), hS, rfl, rfl, rfl, trivial⟩
  clear hS
  rintro i e w hi ⟨hsts, hS, he⟩
  obtain ⟨e0, rfl⟩ := he.eq
  clear he
  dsimp only [Env.sets]
  by_cases hlt : i < nd * nb
  rotate_left
  · obtain rfl : i = nd * nb := by omega
    rw [Nat.sub_self, List.replicate_zero, List.append_nil, ← poolAt_flat] at hS
    (refine Reach.walk ?_; (repeat (first | ((with_reducible refine AllSt.mk ?_); (try clear hS); intro w hS) | ((with_reducible refine AllVw.mk ?_); intro V hV))))
    (refine Wp.drawD 11 (by kernel_rfl) (by kernel_rfl) rfl ?_; dsimp only [List.take, List.drop])
    (refine Reach.rwalk ?_; (repeat (first | ((with_reducible refine AllSt.mk ?_); (try clear hS); intro w hS) | ((with_reducible refine AllVw.mk ?_); intro V hV))))
    (refine RgD.fin0 fun w hb => ?_; replace hS := hS.below hb; clear hb)
    (refine Reach.walk ?_; (repeat (first | ((with_reducible refine AllSt.mk ?_); (try clear hS); intro w hS) | ((with_reducible refine AllVw.mk ?_); intro V hV))))
    (with_reducible apply doneQ_two Try.results28); (· exact slotFound); (· exact slotFound)
    exact .inr (.inr ⟨hg, r, nd, nb, ⟨by omega, hndd.symm, hnbb.symm, ⟨hok.1, hok.2.1⟩, hok.2.2, by omega, hsts⟩, rfl, S, cS, E, cE, hVS, hVE, poolAt_ok y nd nb, hS.tail⟩)
  have her := er_of (y := y) (i := i) (by omega)
  have hst : (bkAt y i).st = (y.getD (2 + 5 * i + 0) 0).toNat := rfl
  have hat := upto_at (f := bkAt y) hlt
  have hset := upto_set (f := bkAt y) hlt
  have hfl : ((List.range i).map (bkAt y) ++ List.replicate (nd * nb - i) (⟨1, 0⟩ : Bk)).length = nd * nb := by simp; omega
  generalize (List.range i).map (bkAt y) ++ List.replicate (nd * nb - i) (⟨1, 0⟩ : Bk) = F at *
  have hlook : ∀ F j, j < 5 → Look (.own A N cA 5 1 (bv y) :: refC r nd nb (nd * nb) S cS E cE F L) ((adr A).add (0 + (2 + 5 * i) + j)) (.int .u8 ((y.getD (2 + 5 * i + j) 0).toNat : Int)) := fun F j hj => by
    rw [Nat.zero_add]
    exact Look.own (bvg (by omega))
  have hb0 := (y.getD (2 + 5 * i + 0) 0).toNat_lt
  have hb1 := (y.getD (2 + 5 * i + 1) 0).toNat_lt
  have hb2 := (y.getD (2 + 5 * i + 2) 0).toNat_lt
  have hb3 := (y.getD (2 + 5 * i + 3) 0).toNat_lt
  have hb4 := (y.getD (2 + 5 * i + 4) 0).toNat_lt
  have hk0 := hlook F 0 (by decide)
  have hq0 := fun F => hlook F 0 (by decide)
  have hq1 := fun F => hlook F 1 (by decide)
  have hq2 := fun F => hlook F 2 (by decide)
  have hq3 := fun F => hlook F 3 (by decide)
  have hq4 := fun F => hlook F 4 (by decide)
  clear hlook
  generalize (y.getD (2 + 5 * i + 0) 0).toNat = b0 at *
  generalize (y.getD (2 + 5 * i + 1) 0).toNat = b1 at *
  generalize (y.getD (2 + 5 * i + 2) 0).toNat = b2 at *
  generalize (y.getD (2 + 5 * i + 3) 0).toNat = b3 at *
  generalize (y.getD (2 + 5 * i + 4) 0).toNat = b4 at *
  have hat2 : (F.set i ⟨b0, 0⟩).getD i ⟨0, 0⟩ = ⟨b0, 0⟩ := by
    rw [List.getD_eq_getElem?_getD, List.getElem?_set_self (by omega)]; rfl
  have hup : Upd (.own A N cA 5 1 (bv y) :: refC r nd nb (nd * nb) S cS E cE F L) ((adr S).add i) (.int .i64 (b0 : Int)) (.own A N cA 5 1 (bv y) :: refC r nd nb (nd * nb) S cS E cE (F.set i ⟨b0, 0⟩) L) :=
    .there (updS _ (by omega) hat)
  have hup2 : Upd (.own A N cA 5 1 (bv y) :: refC r nd nb (nd * nb) S cS E cE (F.set i ⟨b0, 0⟩) L) ((adr E).add i) (.int .i64 ((b1 + b2 <<< 8 + b3 <<< 16 + b4 <<< 24 : Nat) : Int))
      (.own A N cA 5 1 (bv y) :: refC r nd nb (nd * nb) S cS E cE ((List.range (i + 1)).map (bkAt y) ++ List.replicate (nd * nb - (i + 1)) ⟨1, 0⟩) L) := by
    have := updE (r := r) (nd := nd) (nb := nb) (n := nd * nb) (cS := cS) (cE := cE) (S := S) (E := E) (L := L) (b1 + b2 <<< 8 + b3 <<< 16 + b4 <<< 24) (i := i) (F := F.set i ⟨b0, 0⟩) (by rw [List.length_set]; omega) hat2
    rw [List.set_set] at this
    rw [← hset]
    have e : bkAt y i = ⟨b0, b1 + b2 <<< 8 + b3 <<< 16 + b4 <<< 24⟩ := Bk.ext' hst her.symm
    rw [e]
    exact .there this
  have hq1 := hq1 (F.set i ⟨b0, 0⟩)
  have hq2 := hq2 (F.set i ⟨b0, 0⟩)
  have hq3 := hq3 (F.set i ⟨b0, 0⟩)
  have hq4 := hq4 (F.set i ⟨b0, 0⟩)
  generalize F.set i ⟨b0, 0⟩ = F1 at *
  clear hat hset hat2 her hq0
  by_cases h1 : 1 ≤ b0
  rotate_left
  · (refine Reach.walk ?_; (repeat (first | ((with_reducible refine AllSt.mk ?_); (try clear hS); intro w hS) | ((with_reducible refine AllVw.mk ?_); intro V hV))))
    (refine Wp.drawD 11 (by kernel_rfl) (by kernel_rfl) rfl ?_; dsimp only [List.take, List.drop])
    (refine Reach.rwalk ?_; (repeat (first | ((with_reducible refine AllSt.mk ?_); (try clear hS); intro w hS) | ((with_reducible refine AllVw.mk ?_); intro V hV))))
    (refine RgD.fin0 fun w hb => ?_; replace hS := hS.below hb; clear hb)
    (refine Reach.walk ?_; (repeat (first | ((with_reducible refine AllSt.mk ?_); (try clear hS); intro w hS) | ((with_reducible refine AllVw.mk ?_); intro V hV))))
    (with_reducible apply doneQ_two Try.results28); (· exact slotFound); (· exact slotFound)
    exact .inr (.inl ⟨⟨hg, fun nd' nb' h => h1 (by
      have h1 := h.sts; have h2 := h.d; have h3 := h.b; rw [hndd] at h2; rw [hnbb] at h3; subst h2 h3
      have := (h1 i hlt).1; omega)⟩, rfl, hS.tail.tail.tail.tail⟩)
  by_cases h4 : b0 ≤ 4
  rotate_left
  · (refine Reach.walk ?_; (repeat (first | ((with_reducible refine AllSt.mk ?_); (try clear hS); intro w hS) | ((with_reducible refine AllVw.mk ?_); intro V hV))))
    (refine Wp.drawD 11 (by kernel_rfl) (by kernel_rfl) rfl ?_; dsimp only [List.take, List.drop])
    (refine Reach.rwalk ?_; (repeat (first | ((with_reducible refine AllSt.mk ?_); (try clear hS); intro w hS) | ((with_reducible refine AllVw.mk ?_); intro V hV))))
    (refine RgD.fin0 fun w hb => ?_; replace hS := hS.below hb; clear hb)
    (refine Reach.walk ?_; (repeat (first | ((with_reducible refine AllSt.mk ?_); (try clear hS); intro w hS) | ((with_reducible refine AllVw.mk ?_); intro V hV))))
    (with_reducible apply doneQ_two Try.results28); (· exact slotFound); (· exact slotFound)
    exact .inr (.inl ⟨⟨hg, fun nd' nb' h => h4 (by
      have h1 := h.sts; have h2 := h.d; have h3 := h.b; rw [hndd] at h2; rw [hnbb] at h3; subst h2 h3
      have := (h1 i hlt).2; omega)⟩, rfl, hS.tail.tail.tail.tail⟩)
  (refine Reach.walk ?_; (repeat (first | ((with_reducible refine AllSt.mk ?_); (try clear hS); intro w hS) | ((with_reducible refine AllVw.mk ?_); intro V hV))))
  (refine Wp.drawD 11 (by kernel_rfl) (by kernel_rfl) rfl ?_; dsimp only [List.take, List.drop])
  (refine Reach.rwalk ?_; (repeat (first | ((with_reducible refine AllSt.mk ?_); (try clear hS); intro w hS) | ((with_reducible refine AllVw.mk ?_); intro V hV))))
  (refine RgD.fin0 fun w hb => ?_; replace hS := hS.below hb; clear hb)
  (refine Reach.walk ?_; (repeat (first | ((with_reducible refine AllSt.mk ?_); (try clear hS); intro w hS) | ((with_reducible refine AllVw.mk ?_); intro V hV))))
  (refine Wp.drawD 10 (by kernel_rfl) (by kernel_rfl) rfl ?_; dsimp only [List.take, List.drop])
  (refine Reach.rwalk ?_; (repeat (first | ((with_reducible refine AllSt.mk ?_); (try clear hS); intro w hS) | ((with_reducible refine AllVw.mk ?_); intro V hV))))
  (refine RgD.fin0 fun w hb => ?_; replace hS := hS.below hb; clear hb)
  (refine Reach.walk ?_; (repeat (first | ((with_reducible refine AllSt.mk ?_); (try clear hS); intro w hS) | ((with_reducible refine AllVw.mk ?_); intro V hV))))
  (refine Wp.drawD 28 (by kernel_rfl) (by kernel_rfl) rfl ?_; dsimp only [List.take, List.drop])
  (refine Reach.rwalk ?_; (repeat (first | ((with_reducible refine AllSt.mk ?_); (try clear hS); intro w hS) | ((with_reducible refine AllVw.mk ?_); intro V hV))))
  (refine RgD.fin0 fun w hb => ?_; replace hS := hS.below hb; clear hb)
  (refine Reach.walk ?_; (repeat (first | ((with_reducible refine AllSt.mk ?_); (try clear hS); intro w hS) | ((with_reducible refine AllVw.mk ?_); intro V hV))))
  refine ⟨hlt, fun j hj => ?_, hS, int_eq (by omega), rfl, rfl, trivial⟩
  by_cases hji : j = i
  · subst hji
    omega
  · exact hsts j (by omega)
end
end Go.Proofs.Ytaapnfoimcccjaa

namespace Go.Fk
open Go.RowKit
section
variable {P : Program} {n : Nat} {ops : Array Oper} {I : World → Prop} {R : World → World → Prop} {Fin : (Tmp → Spec) → Prop} {rest : List Oper} {e : Env} {E : Open} {ty : TypeId} {pos : String} {after : Array Edge} {guard : Option (Nat × Bool)}
def RgE (P : Program) (n : Nat) (ops : Array Oper) (I : World → Prop) (R : World → World → Prop) (Fin : (Tmp → Spec) → Prop) (l : List Oper) (e : Env) (E : Open) : Prop :=
  (E.map (·.1)).Nodup → RgL P n ops I R Fin l (gam e E)
theorem one_obE {o : Oper} {d : Tmp} {V : Spec} (hd : o.dst = some d) (hs : notSelect o.op = true) (hn : (E.map (·.1)).Nodup)
    (h : ∀ w, I w → AllE w (fun e => WpL P n ops (fun e' w' => (I w' ∧ R w w') ∧ V (e' d) w') [o] e w) (sub (o.looksAt ops) E) e) :
    Ob P ops I R o (gam e E) V := by
  intro e1 w hw hg
  obtain ⟨e', ⟨_, h1⟩, h2⟩ := AllE.inst (o.looksAt ops) hn hg (h w hw)
  have hops : ∀ x ∈ o.op.operands, e1.eval x = e'.eval x := fun x hx => by
    cases x with
    | tmp t => exact (h2 t (List.mem_append_left _ (List.mem_filterMap.2 ⟨.tmp t, by simpa using hx, rfl⟩))).symm
    | _ => rfl
  have hy : Region.wanted o (yieldedE ops e1) = Region.wanted o (yieldedE ops e') := by
    unfold Region.wanted
    cases hgd : o.guard with
    | none => rfl
    | some p =>
      obtain ⟨g, b⟩ := p
      simp only
      have : yieldedE ops e1 g = yieldedE ops e' g := by
        unfold yieldedE
        cases hb : (ops[g]?).bind (·.dst) with
        | none => rfl
        | some t =>
          simp only
          rw [h2 t (List.mem_append_right _ (by rw [hgd]; simp only; rw [hb]; simp))]
      rw [this]
  have hx : execOp e1.eval o = execOp e'.eval o := execOp_congr o (fun cs b hc => by rw [hc] at hs; cases hs) hops
  rw [hy]
  by_cases hwt : Region.wanted o (yieldedE ops e') = true
  · rw [if_pos hwt] at h1 ⊢
    unfold OpW at h1
    unfold RunsTo
    rw [hx]
    generalize (execOp e'.eval o).run P w = r at h1 ⊢
    have fin : ∀ v w', WpL P n ops (fun e' w' => (I w' ∧ R w w') ∧ V (e' d) w') [] (e'.setD o.dst v) w' → I w' ∧ R w w' ∧ V v w' := fun v w' h => by
      have h : (I w' ∧ R w w') ∧ V (e'.setD o.dst v d) w' := h
      rw [hd] at h
      simp only [Env.setD, Env.set_same] at h
      exact ⟨h.1.1, h.1.2, h.2⟩
    cases r with
    | halt x w' => exact h1.elim
    | ok x w' =>
      cases x <;> simp only at h1 ⊢
      case value v => exact fin _ _ h1
      case skip => exact fin _ _ h1
      case enter f args => exact h1.mono fun x w'' ⟨v, hv, hx⟩ => ⟨v, hv, fin _ _ hx⟩
      case row row args => exact h1.mono fun v w'' hx => fin _ _ hx
  · rw [if_neg hwt] at h1 ⊢
    have h : (I w ∧ R w w) ∧ V (e'.setD o.dst undef d) w := h1
    rw [hd] at h
    simp only [Env.setD, Env.set_same] at h
    exact h.2
/-- One operation whose value is known ahead. -/
theorem RgE.known {o : Op} {d : Tmp} {c : Value} (hd : dOk n (some d) = true) (hs : notSelect o = true) (hk : (E.map (·.1)).contains d = false) (E' : Open) (hE : sub ((⟨some d, o, ty, pos, after, guard⟩ : Oper).looksAt ops) E = E')
    (h : ∀ w, I w → AllE w (fun e => WpL P n ops (fun e' w' => (I w' ∧ R w w') ∧ e' d = c) [⟨some d, o, ty, pos, after, guard⟩] e w) E' e)
    (hr : RgE P n ops I R Fin rest (e.set d c) E) : RgE P n ops I R Fin (⟨some d, o, ty, pos, after, guard⟩ :: rest) e E := fun hn => by
  subst hE
  have hk : d ∉ E.map (·.1) := by simpa using hk
  refine ⟨fun v _ => v = c, hd, fun _ _ _ h _ _ _ => h, one_obE rfl hs hn h, ?_⟩
  have : setG (gam e E) (some d) (fun v _ => v = c) = gam (e.set d c) E := funext fun t => by
    unfold setG
    by_cases ht : t = d
    · subst ht; rw [if_pos rfl, gam_off hk, Env.set_same]
    · rw [if_neg (fun h => ht (by injection h with h; exact h.symm)), gam_set ht]
  simp only [this]
  exact hr hn
/-- One operation of whose value something holds, and goes on to hold. -/
theorem RgE.spec {o : Op} {d : Tmp} (V : Spec) (hd : dOk n (some d) = true) (hs : notSelect o = true) (hk : (E.map (·.1)).contains d = false) (E' : Open) (hE : sub ((⟨some d, o, ty, pos, after, guard⟩ : Oper).looksAt ops) E = E')
    (hst : ∀ v w w', V v w → I w → I w' → R w w' → V v w')
    (h : ∀ w, I w → AllE w (fun e => WpL P n ops (fun e' w' => (I w' ∧ R w w') ∧ V (e' d) w') [⟨some d, o, ty, pos, after, guard⟩] e w) E' e)
    (hr : RgE P n ops I R Fin rest e (E ++ [(d, V)])) : RgE P n ops I R Fin (⟨some d, o, ty, pos, after, guard⟩ :: rest) e E := fun hn => by
  subst hE
  have hk : d ∉ E.map (·.1) := by simpa using hk
  refine ⟨V, hd, fun v w w' h h1 h2 hb => hst v w w' h h1 h2 hb, one_obE rfl hs hn h, ?_⟩
  have : setG (gam e E) (some d) V = gam e (E ++ [(d, V)]) := funext fun t => by
    unfold setG
    rw [gam_last hk]
    by_cases ht : t = d
    · subst ht; rw [if_pos rfl, if_pos rfl]
    · rw [if_neg (fun h => ht (by injection h with h; exact h.symm)), if_neg ht]
  simp only [this]
  refine hr ?_
  simp only [List.map_append, List.map_cons, List.map_nil]
  exact List.nodup_append.2 ⟨hn, by simp, fun a ha b hb => by simp only [List.mem_singleton] at hb; subst hb; exact fun h => hk (h ▸ ha)⟩
theorem RgE.known1 {o : Op} {d t : Tmp} {V : Spec} {c : Value} (hd : dOk n (some d) = true) (hs : notSelect o = true) (hk : (E.map (·.1)).contains d = false) (hE : sub ((⟨some d, o, ty, pos, after, guard⟩ : Oper).looksAt ops) E = [(t, V)])
    (h : ∀ w, I w → ∀ x, V x w → WpL P n ops (fun e' w' => (I w' ∧ R w w') ∧ e' d = c) [⟨some d, o, ty, pos, after, guard⟩] (e.set t x) w)
    (hr : RgE P n ops I R Fin rest (e.set d c) E) : RgE P n ops I R Fin (⟨some d, o, ty, pos, after, guard⟩ :: rest) e E := RgE.known hd hs hk [(t, V)] hE h hr
theorem RgE.spec0 {o : Op} {d : Tmp} (V : Spec) (hd : dOk n (some d) = true) (hs : notSelect o = true) (hk : (E.map (·.1)).contains d = false) (hE : sub ((⟨some d, o, ty, pos, after, guard⟩ : Oper).looksAt ops) E = [])
    (hst : ∀ v w w', V v w → I w → I w' → R w w' → V v w')
    (h : ∀ w, I w → WpL P n ops (fun e' w' => (I w' ∧ R w w') ∧ V (e' d) w') [⟨some d, o, ty, pos, after, guard⟩] e w)
    (hr : RgE P n ops I R Fin rest e (E ++ [(d, V)])) : RgE P n ops I R Fin (⟨some d, o, ty, pos, after, guard⟩ :: rest) e E := RgE.spec V hd hs hk [] hE hst h hr
/-- What leaves the world alone, of known operands. -/
theorem RgE.det {o : Op} {d : Tmp} {c : Value} (hR : ∀ w, R w w) (hd : dOk n (some d) = true) (hs : notSelect o = true) (hk : (E.map (·.1)).contains d = false) (hE : sub ((⟨some d, o, ty, pos, after, none⟩ : Oper).looksAt ops) E = [])
    (h : Det P I o ty e c) (hr : RgE P n ops I R Fin rest (e.set d c) E) : RgE P n ops I R Fin (⟨some d, o, ty, pos, after, none⟩ :: rest) e E :=
  RgE.known hd hs hk [] hE (fun w hw => WpL.det hd (fun _ _ _ _ w' hw' => by subst hw'; exact h _ _ _ _ _ hw) ⟨⟨hw, hR w⟩, Env.set_same _ _ _⟩) hr
theorem RgE.fin {ops' : Array Oper} {K : Env → World → Prop} {tail : List Oper}
    (h : ∀ w, I w → AllE w (fun e => WpL P n ops' K tail e w) E e) :
    RgE P n ops I R (fun Γ => ∀ e' w', I w' → (∀ t, Γ t (e' t) w') → WpL P n ops' K tail e' w') [] e E :=
  fun hn e' w' hb hg => AllE.full hn hg (h w' hb)
end
theorem RgE.fin2 {P : Program} {n : Nat} {ops ops' : Array Oper} {I : World → Prop} {R : World → World → Prop} {e : Env} {K : Env → World → Prop} {tail : List Oper} {t u : Tmp} {V U : Spec}
    (h : ∀ w, I w → ∀ x, V x w → ∀ y, U y w → WpL P n ops' K tail ((e.set t x).set u y) w) :
    RgE P n ops I R (fun Γ => ∀ e' w', I w' → (∀ t, Γ t (e' t) w') → WpL P n ops' K tail e' w') [] e [(t, V), (u, U)] := RgE.fin h
/-- THE RULE, in this form. -/
theorem Wp.drawE {P : Program} {n : Nat} {l : List Oper} {id : Nat} {Q : Exit → Env → World → Prop} {e : Env} {w : World} (N : Nat) (I : World → Prop) (R : World → World → Prop) (hm : P.follows .mixedOrders = true)
    (hok : rgOk l N = true) (hN : Nat.ble N l.length = true) (hR : ∀ w, R w w) (hI : I w.drew)
    (h : RgE P n l.toArray I R (fun Γ => ∀ e' w', I w' → (∀ t, Γ t (e' t) w') → WpL P n l.toArray (Q .normal) (l.drop N) e' w') (l.take N) e []) :
    Wp P n (.region id l.toArray true) Q e w := by
  refine Wp.draw N I R hm hok (Nat.le_of_ble_eq_true hN) hR hI ?_
  exact h (by simp)
/-- A slice that was made beside the parts. -/
def SlV (pre : List Ch) (n : Nat) (xs : List Value) : Spec := fun v w => ∃ A c, v = .slice A n c ∧ Rd w A xs ∧ ∀ a, A = some a → ¬ feet pre a.block
theorem SlV.stays {pre : List Ch} {n : Nat} {xs : List Value} (v : Value) (w w' : World) (h : SlV pre n xs v w) (hR : Chg w (feet pre) w') : SlV pre n xs v w' := by
  obtain ⟨A, c, rfl, h1, h2⟩ := h
  refine ⟨A, c, rfl, h1.keep hR ?_, h2⟩
  rcases h1 with h1 | ⟨a, rfl, _⟩
  · exact .inl h1
  · exact .inr ⟨a, rfl, h2 a rfl⟩
theorem SlV.made {w0 w w' : World} {M : Nat → Prop} {pre Γ : List Ch} {A : Option Addr} {n c : Nat} {el : TypeId} {sz : Nat} {xs : List Value} (h : St w0 M w (pre ++ Γ)) (h' : St w (feet pre) w' (.own A n c el sz xs :: pre)) (hro : ∀ c ∈ pre, c.isRo = false) :
    (St w0 M w' (pre ++ Γ) ∧ Chg w (feet pre) w') ∧ SlV pre n xs (.slice A n c) w' := by
  have h1 : St w0 M w' ((.own A n c el sz xs :: pre) ++ Γ) := h.step h' fun c hc => by
    rcases List.mem_cons.1 hc with rfl | hc
    · rfl
    · exact hro c hc
  refine ⟨⟨h1.tail, h'.chg⟩, A, c, rfl, Rds.own.rd h', ?_⟩
  rintro a rfl ⟨d, hd, hf⟩
  exact (List.pairwise_cons.1 h'.apart).1 d hd a.block rfl hf
end Go.Fk

namespace Go.Proofs.Ytaapnfoimcccjaa
open Go.Fk Go.RowKit
attribute [local irreducible] Wp WpL Det thenQ blockQ WpG thenD blockG
/-- A pool lies at g, the document's at r. -/
def PR (w0 : World) (M : Nat → Prop) (w : World) (g r nd nb : Nat) (Xp Xr : List (List Bk)) (L : List Ch) : Prop := ∃ D cd ps S cS E cE, PoolOk D nd cd nb ps ∧ ps.map (·.2) = Xp ∧ IsVw S (nd * nb) cS S 0 ∧ IsVw E (nd * nb) cE E 0 ∧ XOk nd nb Xr ∧
  St w0 M w (refC r nd nb (nd * nb) S cS E cE Xr.flatten (poolL g D nd cd nb ps L))
theorem side_perm {r nd nb n cS cE g cd : Nat} {S E D : Option Addr} {F : List Bk} {ps : Dies} {L : List Ch} : List.Perm (refC r nd nb n S cS E cE F (poolL g D nd cd nb ps L)) (poolL g D nd cd nb ps (refC r nd nb n S cS E cE F L)) :=
  List.perm_append_comm_assoc [Ch.blk r _ _, Ch.own S _ _ _ _ _, Ch.own E _ _ _ _ _] (Ch.blk g _ _ :: Ch.own D _ _ _ _ _ :: rowsC nb ps) L
/-- The parts of both. -/
abbrev sideC (r nd nb : Nat) (S : Option Addr) (cS : Nat) (E : Option Addr) (cE : Nat) (F : List Bk) (g : Nat) (D : Option Addr) (cd : Nat) (ps : Dies) : List Ch := refC r nd nb (nd * nb) S cS E cE F (poolL g D nd cd nb ps [])
theorem sideC_ro {r nd nb cS cE g cd : Nat} {S E D : Option Addr} {F : List Bk} {ps : Dies} : ∀ c ∈ sideC r nd nb S cS E cE F g D cd ps, c.isRo = false := fun c hc => by
  rcases List.mem_cons.1 hc with rfl | hc
  · rfl
  rcases List.mem_cons.1 hc with rfl | hc
  · rfl
  rcases List.mem_cons.1 hc with rfl | hc
  · rfl
  rcases List.mem_cons.1 hc with rfl | hc
  · rfl
  rcases List.mem_cons.1 hc with rfl | hc
  · rfl
  rw [List.append_nil] at hc
  obtain ⟨p, _, rfl⟩ := List.mem_map.1 hc
  rfl
section
variable {w w0 : World} {M : Nat → Prop} {L : List Ch} {g r nd nb : Nat} {Xp Xr Xn X : List (List Bk)}
theorem PR.left (h : PR w0 M w g r nd nb Xp Xr L) {P : Program} {f : FuncId} {args : Array Value} {R : Ending → Prop}
    (hc : ∀ L', PSt w0 M w g nd nb Xp L' → Calls P f args w fun x w' => R x ∧ PSt w0 M w' g nd nb Xn L') : Calls P f args w fun x w' => R x ∧ PR w0 M w' g r nd nb Xn Xr L := by
  obtain ⟨D, cd, ps, S, cS, E, cE, h1, h2, h3, h4, h5, h6⟩ := h
  refine (hc _ ⟨D, cd, ps, h1, h2, h6.perm side_perm⟩).mono ?_
  rintro x w' ⟨hx, D, cd, ps, h1, h2, h6⟩
  exact ⟨hx, D, cd, ps, S, cS, E, cE, h1, h2, h3, h4, h5, h6.perm side_perm.symm⟩
theorem PR.right (h : PR w0 M w g r nd nb Xp Xr L) {P : Program} {f : FuncId} {args : Array Value} {R : Ending → Prop}
    (hc : ∀ L', RSt w0 M w r nd nb Xr L' → Calls P f args w fun x w' => R x ∧ RSt w0 M w' r nd nb Xn L') : Calls P f args w fun x w' => R x ∧ PR w0 M w' g r nd nb Xp Xn L := by
  obtain ⟨D, cd, ps, S, cS, E, cE, h1, h2, h3, h4, h5, h6⟩ := h
  refine (hc _ ⟨S, cS, E, cE, h3, h4, h5, h6⟩).mono ?_
  rintro x w' ⟨hx, S, cS, E, cE, h3, h4, h5, h6⟩
  exact ⟨hx, D, cd, ps, S, cS, E, cE, h1, h2, h3, h4, h5, h6⟩
theorem PR.rest (h : PR w0 M w g r nd nb Xp Xr L) : St w0 M w L := by
  obtain ⟨D, cd, ps, S, cS, E, cE, h1, h2, h3, h4, h5, h6⟩ := h
  exact PSt.rest ⟨D, cd, ps, h1, h2, h6.tail.tail.tail⟩
theorem stX_in (hX : XOk nd nb X) {d b : Nat} (hd : d < nd) (hb : b < nb) : stX X (d : Int) (b : Int) = ((X.getD d []).getD b ⟨0, 0⟩).st := by
  have hl := (hX.at_ (nb := nb) (nd := nd) · · hd)
  have hkl : d < X.length := by rw [hX.len]; exact hd
  have hm : X.getD d [] ∈ X := by rw [List.getD_eq_getElem?_getD, List.getElem?_eq_getElem hkl]; exact List.getElem_mem _
  have hl := (hX.rows _ hm).1
  unfold stX stAt dieX
  rw [if_pos ⟨by omega, by omega⟩, Int.toNat_natCast, if_pos ⟨by omega, by omega⟩, Int.toNat_natCast]
theorem erX_in (hX : XOk nd nb X) {d b : Nat} (hd : d < nd) (hb : b < nb) : erX X (d : Int) (b : Int) = ((X.getD d []).getD b ⟨0, 0⟩).er := by
  have hkl : d < X.length := by rw [hX.len]; exact hd
  have hm : X.getD d [] ∈ X := by rw [List.getD_eq_getElem?_getD, List.getElem?_eq_getElem hkl]; exact List.getElem_mem _
  have hl := (hX.rows _ hm).1
  unfold erX erAt dieX
  rw [if_pos ⟨by omega, by omega⟩, Int.toNat_natCast, if_pos ⟨by omega, by omega⟩, Int.toNat_natCast]
theorem stX_out (hX : XOk nd nb X) {d b : Int} (h : ¬ (0 ≤ d ∧ d < nd ∧ 0 ≤ b ∧ b < nb)) : stX X d b = 0 ∧ erX X d b = 0 := by
  unfold stX erX stAt erAt
  by_cases hin : inX X d
  · rw [if_pos hin, if_pos hin]
    unfold inX at hin
    have hkl : d.toNat < X.length := by omega
    have hl : (dieX X d).length = nb := by
      refine (hX.rows _ ?_).1
      unfold dieX
      rw [List.getD_eq_getElem?_getD, List.getElem?_eq_getElem hkl]; exact List.getElem_mem _
    have := hX.len
    have hn : ¬ (0 ≤ b ∧ b < ((dieX X d).length : Int)) := fun h2 => h ⟨hin.1, by omega, h2.1, by omega⟩
    rw [if_neg hn, if_neg hn]; exact ⟨rfl, rfl⟩
  · rw [if_neg hin, if_neg hin]; exact ⟨rfl, rfl⟩
set_option maxHeartbeats 4000000 in
theorem alikeP (hnb : 1 ≤ nb ∧ nb ≤ 64) (hnd : 1 ≤ nd ∧ nd ≤ 8) (h : PR w0 M w g r nd nb X X L) :
    Calls Try.prog 22 #[.pointer (some ⟨g, 0, none⟩), .pointer (some ⟨r, 0, none⟩)] w fun x w' => x = .returned (.bool true) ∧ St w0 M w' L := by
  have hnb1 := hnb.1
  have hnb2 := hnb.2
  have hnd1 := hnd.1
  have hnd2 := hnd.2
  have hn0 : nd * nb ≤ 512 := Nat.le_trans (Nat.mul_le_mul hnd2 hnb2) (by decide)
  (refine calls_of (P := Try.prog) _ Try.func22 rfl Try.ntmps22 (Nat.le_of_ble_eq_true rfl) ?_; dsimp only [argE, Nat.reduceAdd])
  (refine Reach.walk ?_; (repeat (first | ((with_reducible refine AllSt.mk ?_); (try clear hS); intro w hS) | ((with_reducible refine AllVw.mk ?_); intro V hV))))
  apply Wp.loopUp (nd + 2) (fun k e w' => PR w0 M w' g r nd nb X X L ∧ e.Has [(5, .int .i64 ((k : Int) - 1)), (0, .pointer (some ⟨g, 0, none⟩)), (1, .pointer (some ⟨r, 0, none⟩))]) (Nat.zero_le _)
    ⟨h, rfl, rfl, rfl, trivial⟩
  clear h
  rintro k e w hk ⟨hP, he⟩
  obtain ⟨e0, rfl⟩ := he.eq
  clear he
  dsimp only [Env.sets]
  obtain ⟨D, cd, ps, S, cS, E, cE, hpo, hps, hVS, hVE, hX, hS⟩ := id hP
  by_cases hkl : k < nd + 2
  rotate_left
  · obtain rfl : k = nd + 2 := by omega
    clear hP
    (refine Reach.walk ?_; (repeat (first | ((with_reducible refine AllSt.mk ?_); (try clear hS); intro w hS) | ((with_reducible refine AllVw.mk ?_); intro V hV))))
    have hI : St w0 M w (sideC r nd nb S cS E cE X.flatten g D cd ps ++ L) := by simpa using hS
    clear hS
    have hbl : (Crc.sealed (poolB nb X)).length = (poolB nb X).length + 4 := Crc.sealed_length _
    refine Wp.drawE 8 (fun w' => St w0 M w' (sideC r nd nb S cS E cE X.flatten g D cd ps ++ L)) (fun w w' => Chg w (feet (sideC r nd nb S cS E cE X.flatten g D cd ps)) w') (by kernel_rfl) (by kernel_rfl) rfl (fun w => Chg.refl _ _) hI.drew ?_
    dsimp only [List.take, List.drop]
    refine RgE.det (fun w => Chg.refl _ _) rfl rfl rfl rfl Det.found2 ?_
    refine RgE.spec0 (SlV (sideC r nd nb S cS E cE X.flatten g D cd ps) ((poolB nb X).length + 4) (bv (Crc.sealed (poolB nb X)))) rfl rfl rfl rfl (fun v w w' h _ _ hR => SlV.stays v w w' h hR) (fun w hw => ?_) ?_
    · (with_reducible apply WpL.call); (· exact rfl); (· exact Try.call24); (· exact Vals.found)
      have hB := bytesS hnb hnd hpo (hw.part.perm side_perm)
      rw [hps] at hB
      refine hB.mono ?_
      rintro x w' ⟨A, c, rfl, hA, h2⟩
      have h4 := SlV.made hw (h2.perm ((List.perm_middle (l₁ := Ch.blk g _ _ :: Ch.own D _ _ _ _ _ :: rowsC nb ps)).trans (List.Perm.cons _ side_perm.symm))) sideC_ro
      exact ⟨_, rfl, WpL.nil ⟨h4.1, by rw [Env.set_same]; exact h4.2⟩⟩
    refine RgE.known1 (c := .string ⟨(Crc.sealed (poolB nb X)).toArray⟩) rfl rfl rfl rfl (fun w hw x hx => ?_) ?_
    · obtain ⟨A, c, rfl, hrd, _⟩ := hx
      exact WpL.det rfl (Det.str rfl (fun w' hw' => by subst hw'; exact hrd) hbl) (WpL.nil ⟨⟨hw, Chg.refl _ _⟩, Env.set_same _ _ _⟩)
    refine RgE.det (fun w => Chg.refl _ _) rfl rfl rfl rfl Det.found2 ?_
    refine RgE.spec0 (SlV (sideC r nd nb S cS E cE X.flatten g D cd ps) ((poolB nb X).length + 4) (bv (Crc.sealed (poolB nb X)))) rfl rfl rfl rfl (fun v w w' h _ _ hR => SlV.stays v w w' h hR) (fun w hw => ?_) ?_
    · (with_reducible apply WpL.call); (· exact rfl); (· exact Try.call35); (· exact Vals.found)
      refine (refBytesS hnb hnd hVS hVE hX hw.part).mono ?_
      rintro x w' ⟨A, c, rfl, hA, h2⟩
      have h4 := SlV.made hw h2 sideC_ro
      exact ⟨_, rfl, WpL.nil ⟨h4.1, by rw [Env.set_same]; exact h4.2⟩⟩
    refine RgE.known1 (c := .string ⟨(Crc.sealed (poolB nb X)).toArray⟩) rfl rfl rfl rfl (fun w hw x hx => ?_) ?_
    · obtain ⟨A, c, rfl, hrd, _⟩ := hx
      exact WpL.det rfl (Det.str rfl (fun w' hw' => by subst hw'; exact hrd) hbl) (WpL.nil ⟨⟨hw, Chg.refl _ _⟩, Env.set_same _ _ _⟩)
    refine RgE.det (fun w => Chg.refl _ _) rfl rfl rfl rfl Det.found2 ?_
    refine RgE.det (fun w => Chg.refl _ _) rfl rfl rfl rfl Det.found2 ?_
    refine RgE.fin2 fun w hS x _ y _ => ?_
    (refine Reach.walk ?_; (repeat (first | ((with_reducible refine AllSt.mk ?_); (try clear hS); intro w hS) | ((with_reducible refine AllVw.mk ?_); intro V hV))))
    (with_reducible apply doneQ_one Try.results22); (· exact slotFound)
    refine ⟨by simp, ?_⟩
    exact hS.sub (List.sublist_append_right _ _)
  (refine Reach.walk ?_; (repeat (first | ((with_reducible refine AllSt.mk ?_); (try clear hS); intro w hS) | ((with_reducible refine AllVw.mk ?_); intro V hV))))
  apply Wp.loopUp (nb + 2) (fun m e w' => PR w0 M w' g r nd nb X X L ∧ e.Has [(6, .int .i64 ((m : Int) - 1)), (5, .int .i64 ((k : Int) - 1)), (0, .pointer (some ⟨g, 0, none⟩)), (1, .pointer (some ⟨r, 0, none⟩))]) (Nat.zero_le _)
    ⟨hP, rfl, rfl, rfl, rfl, trivial⟩
  clear hS hP hps hpo hVS hVE
  clear D cd ps S cS E cE
  rintro m e w hm ⟨hP, he⟩
  obtain ⟨e1, rfl⟩ := he.eq
  clear he
  dsimp only [Env.sets]
  obtain ⟨D, cd, ps, S, cS, E, cE, hpo, hps, hVS, hVE, hX, hS⟩ := id hP
  by_cases hml : m < nb + 2
  · (refine Reach.walk ?_; (repeat (first | ((with_reducible refine AllSt.mk ?_); (try clear hS); intro w hS) | ((with_reducible refine AllVw.mk ?_); intro V hV))))
    (with_reducible apply WpL.call); (· exact rfl); (· exact Try.call32); (· exact Vals.found)
    refine (refIn hS).mono ?_
    clear hS hP
    rintro x w ⟨rfl, hS⟩
    refine ⟨_, rfl, ?_⟩
    have hP : PR w0 M w g r nd nb X X L := ⟨D, cd, ps, S, cS, E, cE, hpo, hps, hVS, hVE, hX, hS⟩
    by_cases hin : 0 ≤ (k : Int) - 1 ∧ (k : Int) - 1 < nd ∧ 0 ≤ (m : Int) - 1 ∧ (m : Int) - 1 < nb
    · rw [decide_eq_true hin]
      obtain ⟨d, rfl⟩ : ∃ d, k = d + 1 := ⟨k - 1, by omega⟩
      obtain ⟨b, rfl⟩ : ∃ b, m = b + 1 := ⟨m - 1, by omega⟩
      have ed : ((d + 1 : Nat) : Int) - 1 = (d : Int) := by omega
      have eb : ((b + 1 : Nat) : Int) - 1 = (b : Int) := by omega
      rw [ed, eb] at hin ⊢
      have hdl : d < nd := by omega
      have hbl : b < nb := by omega
      have hda := hX.at_ hnd2 hnb2 hdl
      have hsx := stX_in hX hdl hbl
      have hex := erX_in hX hdl hbl
      have hlt := hda.lt b hbl
      have hmul := hda.mul
      have hfl := hda.flen
      have hlk : Look (refC r nd nb (nd * nb) S cS E cE X.flatten (poolL g D nd cd nb ps L)) ((adr S).add (d * nb + b)) (.int .i64 (((X.getD d []).getD b ⟨0, 0⟩).st : Int)) := lookS (by omega) (hda.at_ b hbl)
      have hlk2 : Look (refC r nd nb (nd * nb) S cS E cE X.flatten (poolL g D nd cd nb ps L)) ((adr E).add (d * nb + b)) (.int .i64 (((X.getD d []).getD b ⟨0, 0⟩).er : Int)) := lookE (by omega) (hda.at_ b hbl)
      rw [← hsx] at hlk
      rw [← hex] at hlk2
      clear hsx hex hda
      (refine Reach.walk ?_; (repeat (first | ((with_reducible refine AllSt.mk ?_); (try clear hS); intro w hS) | ((with_reducible refine AllVw.mk ?_); intro V hV))))
      (refine Wp.drawD 15 (by kernel_rfl) (by kernel_rfl) rfl ?_; dsimp only [List.take, List.drop])
      (refine Reach.rwalk ?_; (repeat (first | ((with_reducible refine AllSt.mk ?_); (try clear hS); intro w hS) | ((with_reducible refine AllVw.mk ?_); intro V hV))))
      (refine RgD.fin0 fun w hb => ?_; replace hS := hS.below hb; clear hb)
      (refine Reach.walk ?_; (repeat (first | ((with_reducible refine AllSt.mk ?_); (try clear hS); intro w hS) | ((with_reducible refine AllVw.mk ?_); intro V hV))))
      (refine Wp.drawD 15 (by kernel_rfl) (by kernel_rfl) rfl ?_; dsimp only [List.take, List.drop])
      (refine Reach.rwalk ?_; (repeat (first | ((with_reducible refine AllSt.mk ?_); (try clear hS); intro w hS) | ((with_reducible refine AllVw.mk ?_); intro V hV))))
      (refine RgD.fin0 fun w hb => ?_; replace hS := hS.below hb; clear hb)
      replace hP : PR w0 M w g r nd nb X X L := ⟨D, cd, ps, S, cS, E, cE, hpo, hps, hVS, hVE, hX, hS⟩
      clear hlk hlk2 hS
      (refine Reach.walk ?_; (repeat (first | ((with_reducible refine AllSt.mk ?_); (try clear hS); intro w hS) | ((with_reducible refine AllVw.mk ?_); intro V hV))))
      (with_reducible apply WpL.call); (· exact rfl); (· exact Try.call25); (· exact Vals.found)
      refine (hP.left (R := fun x => x = .returned (.int .i64 (stX X (d : Int) (b : Int) : Nat))) fun L' h => stateP hnb hnd2 _ _ h).mono ?_
      clear hP
      rintro x w ⟨rfl, hP⟩
      refine ⟨_, rfl, ?_⟩
      (refine Reach.walk ?_; (repeat (first | ((with_reducible refine AllSt.mk ?_); (try clear hS); intro w hS) | ((with_reducible refine AllVw.mk ?_); intro V hV))))
      (with_reducible apply WpL.call); (· exact rfl); (· exact Try.call26); (· exact Vals.found)
      refine (hP.left (R := fun x => x = .returned (.int .i64 (erX X (d : Int) (b : Int) : Nat))) fun L' h => erasesP hnb hnd2 _ _ h).mono ?_
      clear hP
      rintro x w ⟨rfl, hP⟩
      refine ⟨_, rfl, ?_⟩
      (refine Reach.walk ?_; (repeat (first | ((with_reducible refine AllSt.mk ?_); (try clear hS); intro w hS) | ((with_reducible refine AllVw.mk ?_); intro V hV))))
      exact ⟨hml, hP, int_eq (by omega), int_eq (by omega), rfl, rfl, trivial⟩
    · rw [decide_eq_false hin]
      obtain ⟨hsx, hex⟩ := stX_out hX hin
      clear hS
      generalize hdd : (k : Int) - 1 = d at *
      generalize hbb : (m : Int) - 1 = b at *
      (refine Reach.walk ?_; (repeat (first | ((with_reducible refine AllSt.mk ?_); (try clear hS); intro w hS) | ((with_reducible refine AllVw.mk ?_); intro V hV))))
      (with_reducible apply WpL.call); (· exact rfl); (· exact Try.call25); (· exact Vals.found)
      refine (hP.left (R := fun x => x = .returned (.int .i64 (stX X d b : Nat))) fun L' h => stateP hnb hnd2 _ _ h).mono ?_
      clear hP
      rintro x w ⟨rfl, hP⟩
      refine ⟨_, rfl, ?_⟩
      rw [hsx]
      (refine Reach.walk ?_; (repeat (first | ((with_reducible refine AllSt.mk ?_); (try clear hS); intro w hS) | ((with_reducible refine AllVw.mk ?_); intro V hV))))
      (with_reducible apply WpL.call); (· exact rfl); (· exact Try.call26); (· exact Vals.found)
      refine (hP.left (R := fun x => x = .returned (.int .i64 (erX X d b : Nat))) fun L' h => erasesP hnb hnd2 _ _ h).mono ?_
      clear hP
      rintro x w ⟨rfl, hP⟩
      refine ⟨_, rfl, ?_⟩
      rw [hex]
      (refine Reach.walk ?_; (repeat (first | ((with_reducible refine AllSt.mk ?_); (try clear hS); intro w hS) | ((with_reducible refine AllVw.mk ?_); intro V hV))))
      exact ⟨hml, hP, int_eq (by omega), int_eq (by omega), rfl, rfl, trivial⟩
  obtain rfl : m = nb + 2 := by omega
  (refine Reach.walk ?_; (repeat (first | ((with_reducible refine AllSt.mk ?_); (try clear hS); intro w hS) | ((with_reducible refine AllVw.mk ?_); intro V hV))))
  apply Wp.loopUp 6 (fun s e w' => PR w0 M w' g r nd nb X X L ∧ e.Has [(10, .int .i64 (s : Nat)), (5, .int .i64 ((k : Int) - 1)), (0, .pointer (some ⟨g, 0, none⟩)), (1, .pointer (some ⟨r, 0, none⟩))]) (Nat.zero_le _)
    ⟨hP, rfl, rfl, rfl, rfl, trivial⟩
  clear hS hP hps hpo hVS hVE
  clear D cd ps S cS E cE
  rintro s e w hs ⟨hP, he⟩
  obtain ⟨e2, rfl⟩ := he.eq
  clear he
  dsimp only [Env.sets]
  by_cases hsl : s < 6
  · (refine Reach.walk ?_; (repeat (first | ((with_reducible refine AllSt.mk ?_); (try clear hS); intro w hS) | ((with_reducible refine AllVw.mk ?_); intro V hV))))
    (with_reducible apply WpL.call); (· exact rfl); (· exact Try.call15); (· exact Vals.found)
    refine (hP.left (R := fun x => x = .returned (.int .i64 (countX X ((k : Int) - 1) (s : Int) : Nat))) fun L' h => countP hnb hnd2 _ _ h).mono ?_
    clear hP
    rintro x w ⟨rfl, hP⟩
    refine ⟨_, rfl, ?_⟩
    (refine Reach.walk ?_; (repeat (first | ((with_reducible refine AllSt.mk ?_); (try clear hS); intro w hS) | ((with_reducible refine AllVw.mk ?_); intro V hV))))
    (with_reducible apply WpL.call); (· exact rfl); (· exact Try.call33); (· exact Vals.found)
    refine (hP.right (R := fun x => x = .returned (.int .i64 (countX X ((k : Int) - 1) (s : Int) : Nat))) fun L' h => refCountP hnb hnd2 _ _ h).mono ?_
    clear hP
    rintro x w ⟨rfl, hP⟩
    refine ⟨_, rfl, ?_⟩
    (refine Reach.walk ?_; (repeat (first | ((with_reducible refine AllSt.mk ?_); (try clear hS); intro w hS) | ((with_reducible refine AllVw.mk ?_); intro V hV))))
    exact ⟨hsl, hP, int_eq (by omega), rfl, rfl, rfl, trivial⟩
  obtain rfl : s = 6 := by omega
  (refine Reach.walk ?_; (repeat (first | ((with_reducible refine AllSt.mk ?_); (try clear hS); intro w hS) | ((with_reducible refine AllVw.mk ?_); intro V hV))))
  (with_reducible apply WpL.call); (· exact rfl); (· exact Try.call14); (· exact Vals.found)
  refine (hP.left (R := fun x => x = .returned (.int .i64 (spreadX X ((k : Int) - 1)))) fun L' h => spreadP hnb hnd2 _ h).mono ?_
  clear hP
  rintro x w ⟨rfl, hP⟩
  refine ⟨_, rfl, ?_⟩
  (refine Reach.walk ?_; (repeat (first | ((with_reducible refine AllSt.mk ?_); (try clear hS); intro w hS) | ((with_reducible refine AllVw.mk ?_); intro V hV))))
  (with_reducible apply WpL.call); (· exact rfl); (· exact Try.call34); (· exact Vals.found)
  refine (hP.right (R := fun x => x = .returned (.int .i64 (spreadX X ((k : Int) - 1)))) fun L' h => refSpreadP hnb hnd2 _ h).mono ?_
  clear hP
  rintro x w ⟨rfl, hP⟩
  refine ⟨_, rfl, ?_⟩
  (refine Reach.walk ?_; (repeat (first | ((with_reducible refine AllSt.mk ?_); (try clear hS); intro w hS) | ((with_reducible refine AllVw.mk ?_); intro V hV))))
  exact ⟨hkl, hP, int_eq (by omega), rfl, rfl, trivial⟩
end
end Go.Proofs.Ytaapnfoimcccjaa

namespace Go.Proofs.Ytaapnfoimcccjaa
open Go.Fk Go.RowKit
attribute [local irreducible] Wp WpL Det thenQ blockQ WpG thenD blockG
instance rfLp : PtrT Try.prog 24 := ⟨_, Try.underlying24⟩
theorem PR.of {w0 w : World} {M : Nat → Prop} {L : List Ch} {g r nd nb : Nat} {Xp Xr : List (List Bk)} {D : Option Addr} {cd : Nat} {ps : Dies} (h1 : PoolOk D nd cd nb ps) (h2 : ps.map (·.2) = Xp) (h : RSt w0 M w r nd nb Xr (poolL g D nd cd nb ps L)) : PR w0 M w g r nd nb Xp Xr L := by
  obtain ⟨S, cS, E, cE, h3, h4, h5, h6⟩ := h
  exact ⟨D, cd, ps, S, cS, E, cE, h1, h2, h3, h4, h5, h6⟩
theorem PoolBytes.one {y : List UInt8} {nd nb nd' nb' : Nat} (h : PoolBytes y nd nb) (h' : PoolBytes y nd' nb') : nd = nd' ∧ nb = nb' := ⟨h.d.trans h'.d.symm, h.b.trans h'.b.symm⟩
set_option maxHeartbeats 4000000 in
theorem blocksParse_any {A : Option Addr} {n c : Nat} {l : List UInt8} {s : Bool} (hn : n ≤ l.length) (hV : IsVw A n c A 0) (hlen : n + 4 ≤ 140737488355328) (W : World) (hr : Rd W A (bv l)) :
    Calls Try.prog 7 #[.slice A n c, .bool s] W fun x w' => x = .returned (.bool true) ∧ Below W.heap.size W w' := by
  have hS := (St.start W).startRo hr
  clear hr
  (refine calls_of (P := Try.prog) _ Try.func7 rfl Try.ntmps7 (Nat.le_of_ble_eq_true rfl) ?_; dsimp only [argE, Nat.reduceAdd])
  (refine Reach.walk ?_; (repeat (first | ((with_reducible refine AllSt.mk ?_); (try clear hS); intro w hS) | ((with_reducible refine AllVw.mk ?_); intro V hV))))
  (with_reducible apply WpL.call); (· exact rfl); (· exact Try.call8); (· exact Vals.found)
  refine (awake_any hS).mono ?_
  clear hS
  rintro x w ⟨rfl, hS⟩
  refine ⟨_, rfl, ?_⟩
  (refine Reach.walk ?_; (repeat (first | ((with_reducible refine AllSt.mk ?_); (try clear hS); intro w hS) | ((with_reducible refine AllVw.mk ?_); intro V hV))))
  refine Wp.cut (fun e w => ∃ (L : List Ch) (V : Option Addr) (m k : Nat) (b : List UInt8), St W (feet []) w L ∧ RdsV L V m (bv b) ∧ m ≤ k ∧ m ≤ 140737488355328 ∧ e.Has [(0, .slice V m k)]) ?_ ?_
  · have hr : RdsV [.ro A (bv l)] A n (bv ((l.drop 0).take n)) := RdsV.byte hV Rds.ro (by omega)
    have hn2 : ((l.drop 0).take n).length = n := by simp; omega
    generalize (l.drop 0).take n = l2 at *
    have hle := hV.le
    cases s
    · (refine Reach.walk ?_; (repeat (first | ((with_reducible refine AllSt.mk ?_); (try clear hS); intro w hS) | ((with_reducible refine AllVw.mk ?_); intro V hV))))
      exact ⟨_, A, n, c, l2, hS, hr, hle, by omega, rfl, trivial⟩
    · (refine Reach.walk ?_; (repeat (first | ((with_reducible refine AllSt.mk ?_); (try clear hS); intro w hS) | ((with_reducible refine AllVw.mk ?_); intro V hV))))
      (with_reducible apply WpL.call); (· exact rfl); (· exact Try.call27); (· exact Vals.found)
      refine (refSealS hS hr (by omega)).mono ?_
      clear hS
      rintro x w ⟨B, cB, rfl, hB, hS⟩
      refine ⟨_, rfl, ?_⟩
      (refine Reach.walk ?_; (repeat (first | ((with_reducible refine AllSt.mk ?_); (try clear hS); intro w hS) | ((with_reducible refine AllVw.mk ?_); intro V hV))))
      exact ⟨_, B, n + 4, cB, Crc.sealed l2, hS, RdsV.whole Rds.own (by rw [bv_length, Crc.sealed_length, hn2]), hB.le, by omega, rfl, trivial⟩
  clear hS
  rintro e w ⟨L, V, m, k, b, hS, hr, hmk, hm, he⟩
  obtain ⟨e0, rfl⟩ := he.eq
  clear he
  dsimp only [Env.sets]
  (refine Reach.walk ?_; (repeat (first | ((with_reducible refine AllSt.mk ?_); (try clear hS); intro w hS) | ((with_reducible refine AllVw.mk ?_); intro V hV))))
  (with_reducible apply WpL.call); (· exact rfl); (· exact Try.call23); (· exact Vals.found)
  refine (parseP hS hr hmk hm).mono ?_
  clear hS
  rintro x w (⟨hg, rfl, hS⟩ | ⟨⟨hg, hno⟩, rfl, hS⟩ | ⟨hg, g, nd, nb, hpb, rfl, hP⟩)
  · refine ⟨_, rfl, ?_⟩
    (refine Reach.walk ?_; (repeat (first | ((with_reducible refine AllSt.mk ?_); (try clear hS); intro w hS) | ((with_reducible refine AllVw.mk ?_); intro V hV))))
    (with_reducible apply WpL.call); (· exact rfl); (· exact Try.call28); (· exact Vals.found)
    refine (refParseP hS hr hmk hm).mono ?_
    clear hS
    rintro x w (⟨_, rfl, hS⟩ | ⟨⟨h, _⟩, _⟩ | ⟨h, _⟩)
    rotate_left
    · exact absurd h hg
    · exact absurd h hg
    refine ⟨_, rfl, ?_⟩
    (refine Reach.walk ?_; (repeat (first | ((with_reducible refine AllSt.mk ?_); (try clear hS); intro w hS) | ((with_reducible refine AllVw.mk ?_); intro V hV))))
    (with_reducible apply doneQ_one Try.results7); (· exact slotFound)
    exact ⟨rfl, hS.toBelow⟩
  · refine ⟨_, rfl, ?_⟩
    (refine Reach.walk ?_; (repeat (first | ((with_reducible refine AllSt.mk ?_); (try clear hS); intro w hS) | ((with_reducible refine AllVw.mk ?_); intro V hV))))
    (with_reducible apply WpL.call); (· exact rfl); (· exact Try.call28); (· exact Vals.found)
    refine (refParseP hS hr hmk hm).mono ?_
    clear hS
    rintro x w (⟨h, _⟩ | ⟨_, rfl, hS⟩ | ⟨_, g, nd, nb, h, _⟩)
    · exact absurd hg h
    rotate_left
    · exact absurd h (hno nd nb)
    refine ⟨_, rfl, ?_⟩
    (refine Reach.walk ?_; (repeat (first | ((with_reducible refine AllSt.mk ?_); (try clear hS); intro w hS) | ((with_reducible refine AllVw.mk ?_); intro V hV))))
    (with_reducible apply doneQ_one Try.results7); (· exact slotFound)
    exact ⟨rfl, hS.toBelow⟩
  · refine ⟨_, rfl, ?_⟩
    obtain ⟨D, cd, ps, h1, h2, hS⟩ := hP
    have hr' : RdsV (poolL g D nd cd nb ps L) V m (bv b) := hr.mem fun _ _ _ hS => hS.sub (List.sublist_append_right (Ch.blk g _ _ :: Ch.own D _ _ _ _ _ :: rowsC nb ps) L)
    (refine Reach.walk ?_; (repeat (first | ((with_reducible refine AllSt.mk ?_); (try clear hS); intro w hS) | ((with_reducible refine AllVw.mk ?_); intro V hV))))
    (with_reducible apply WpL.call); (· exact rfl); (· exact Try.call28); (· exact Vals.found)
    refine (refParseP hS hr' hmk hm).mono ?_
    clear hS
    rintro x w (⟨h, _⟩ | ⟨⟨_, h⟩, _⟩ | ⟨_, r, nd', nb', hpb', rfl, hP⟩)
    · exact absurd hg h
    · exact absurd hpb (h nd nb)
    obtain ⟨rfl, rfl⟩ := hpb'.one hpb
    refine ⟨_, rfl, ?_⟩
    have hPR := PR.of h1 h2 hP
    clear hP
    have hS := hPR.rest
    (refine Reach.walk ?_; (repeat (first | ((with_reducible refine AllSt.mk ?_); (try clear hS); intro w hS) | ((with_reducible refine AllVw.mk ?_); intro V hV))))
    (with_reducible apply WpL.call); (· exact rfl); (· exact Try.call22); (· exact Vals.found)
    refine (alikeP hpb.hb hpb.hd hPR).mono ?_
    clear hS hPR
    rintro x w ⟨rfl, hS⟩
    refine ⟨_, rfl, ?_⟩
    (refine Reach.walk ?_; (repeat (first | ((with_reducible refine AllSt.mk ?_); (try clear hS); intro w hS) | ((with_reducible refine AllVw.mk ?_); intro V hV))))
    (with_reducible apply doneQ_one Try.results7); (· exact slotFound)
    exact ⟨rfl, hS.toBelow⟩
end Go.Proofs.Ytaapnfoimcccjaa

namespace Go.Proofs.Ytaapnfoimcccjaa
open Go.Fk Go.RowKit
attribute [local irreducible] Wp WpL Det thenQ blockQ WpG thenD blockG
instance rfRowOp : SliceT Try.prog 37 42 := ⟨Try.underlying37⟩
instance rfSizeOp : SizeT Try.prog 42 3 := ⟨by kernel_rfl⟩
instance rfFieldOp0 : FieldT Try.prog 42 0 0 := ⟨by kernel_rfl⟩
instance rfFieldOp1 : FieldT Try.prog 42 1 1 := ⟨by kernel_rfl⟩
instance rfFieldOp2 : FieldT Try.prog 42 2 2 := ⟨by kernel_rfl⟩
instance rfRowTOp : RowT Try.prog 42 := ⟨_, Try.underlying42, rfl⟩
instance rfElemOp : Elem Try.prog 42 3 24 (.agg #[.int .i64 0, .int .i64 0, .int .i64 0]) := ⟨by kernel_rfl, rfl, by decide⟩
section
variable {w w0 : World} {M : Nat → Prop} {L : List Ch} {g r nd nb : Nat} {Xp Xr : List (List Bk)} {c : Ch}
theorem PR.less (h : PR w0 M w g r nd nb Xp Xr (c :: L)) : PR w0 M w g r nd nb Xp Xr L := by
  obtain ⟨D, cd, ps, S, cS, E, cE, h1, h2, h3, h4, h5, h6⟩ := h
  refine ⟨D, cd, ps, S, cS, E, cE, h1, h2, h3, h4, h5, h6.sub ?_⟩
  refine .cons_cons _ (.cons_cons _ (.cons_cons _ (.cons_cons _ (.cons_cons _ (List.Sublist.append_left (List.sublist_cons_self _ _) _)))))
theorem bool_eqP {a b : Bool} (h : a = b) : Value.bool a = .bool b := by rw [h]
theorem side_in {nd nb cS cE g cd r : Nat} {S E D : Option Addr} {F : List Bk} {ps : Dies} (h : St w0 M w (c :: refC r nd nb (nd * nb) S cS E cE F (poolL g D nd cd nb ps L))) : St w0 M w (refC r nd nb (nd * nb) S cS E cE F (poolL g D nd cd nb ps (c :: L))) :=
  h.perm (List.perm_middle (l₁ := Ch.blk r _ _ :: Ch.own S _ _ _ _ _ :: Ch.own E _ _ _ _ _ :: Ch.blk g _ _ :: Ch.own D _ _ _ _ _ :: rowsC nb ps)).symm
end
set_option maxHeartbeats 8000000 in
theorem blocksPlay_any {dies many : Int} {A : Option Addr} {n c : Nat} {ss : List Tr} (hn : n ≤ ss.length) (hss : ∀ s ∈ ss, TrIn s) (hV : IsVw A n c A 0) (hlen : n ≤ 140737488355328) (W : World) (hr : Rd W A (tv ss)) :
    Calls Try.prog 5 #[.int .i64 dies, .int .i64 many, .slice A n c] W fun x w' => x = .returned (.bool true) ∧ Below W.heap.size W w' := by
  have hS := (St.start W).startRo hr
  clear hr
  (refine calls_of (P := Try.prog) _ Try.func5 rfl Try.ntmps5 (Nat.le_of_ble_eq_true rfl) ?_; dsimp only [argE, Nat.reduceAdd])
  (refine Reach.walk ?_; (repeat (first | ((with_reducible refine AllSt.mk ?_); (try clear hS); intro w hS) | ((with_reducible refine AllVw.mk ?_); intro V hV))))
  (with_reducible apply WpL.call); (· exact rfl); (· exact Try.call8); (· exact Vals.found)
  refine (awake_any hS).mono ?_
  clear hS
  rintro x w ⟨rfl, hS⟩
  refine ⟨_, rfl, ?_⟩
  (refine Reach.walk ?_; (repeat (first | ((with_reducible refine AllSt.mk ?_); (try clear hS); intro w hS) | ((with_reducible refine AllVw.mk ?_); intro V hV))))
  (with_reducible apply WpL.call); (· exact rfl); (· exact Try.call10); (· exact Vals.found)
  refine (newP hS).mono ?_
  clear hS
  rintro x w (⟨hno, rfl, hS⟩ | ⟨hok, g, rfl, hP⟩)
  · refine ⟨_, rfl, ?_⟩
    (refine Reach.walk ?_; (repeat (first | ((with_reducible refine AllSt.mk ?_); (try clear hS); intro w hS) | ((with_reducible refine AllVw.mk ?_); intro V hV))))
    (with_reducible apply WpL.call); (· exact rfl); (· exact Try.call17); (· exact Vals.found)
    refine (refNewP hS).mono ?_
    clear hS
    rintro x w (⟨_, rfl, hS⟩ | ⟨h, _⟩)
    rotate_left
    · exact absurd h hno
    refine ⟨_, rfl, ?_⟩
    (refine Reach.walk ?_; (repeat (first | ((with_reducible refine AllSt.mk ?_); (try clear hS); intro w hS) | ((with_reducible refine AllVw.mk ?_); intro V hV))))
    (with_reducible apply doneQ_one Try.results5); (· exact slotFound)
    exact ⟨rfl, hS.toBelow⟩
  refine ⟨_, rfl, ?_⟩
  obtain ⟨D, cd, ps, hp1, hp2, hS⟩ := hP
  (refine Reach.walk ?_; (repeat (first | ((with_reducible refine AllSt.mk ?_); (try clear hS); intro w hS) | ((with_reducible refine AllVw.mk ?_); intro V hV))))
  (with_reducible apply WpL.call); (· exact rfl); (· exact Try.call17); (· exact Vals.found)
  refine (refNewP hS).mono ?_
  clear hS
  rintro x w (⟨h, _⟩ | ⟨_, r, rfl, hP⟩)
  · exact absurd hok h
  refine ⟨_, rfl, ?_⟩
  have hPR := PR.of hp1 hp2 hP
  clear hP hp1 hp2
  obtain ⟨nd, rfl⟩ := Int.eq_ofNat_of_zero_le (show 0 ≤ dies by omega)
  obtain ⟨nb, rfl⟩ := Int.eq_ofNat_of_zero_le (show 0 ≤ many by omega)
  rw [Int.toNat_natCast, Int.toNat_natCast] at hPR
  have hnd : 1 ≤ nd ∧ nd ≤ 8 := by omega
  have hnb : 1 ≤ nb ∧ nb ≤ 64 := by omega
  clear hok
  have hS := hPR.rest
  (refine Reach.walk ?_; (repeat (first | ((with_reducible refine AllSt.mk ?_); (try clear hS); intro w hS) | ((with_reducible refine AllVw.mk ?_); intro V hV))))
  clear hS
  apply Wp.loopUp n (fun i e w' => ∃ X, OkX X ∧ PR W (feet []) w' g r nd nb X X [.ro A (tv ss)] ∧ e.Has [(12, .int .i64 (i : Nat)), (8, .pointer (some ⟨g, 0, none⟩)), (10, .pointer (some ⟨r, 0, none⟩)), (2, .slice A n c)]) (Nat.zero_le _)
    ⟨_, OkX.new nd nb, hPR, rfl, rfl, rfl, rfl, trivial⟩
  clear hPR
  rintro i e w hi ⟨X, hok, hPR, he⟩
  obtain ⟨e0, rfl⟩ := he.eq
  clear he
  dsimp only [Env.sets]
  have hS := hPR.rest
  (repeat (with_reducible apply Wp.seq))
  refine Wp.cut (fun e' w' => w' = w ∧ e'.Has [(55, .bool (decide (i < n ∧ i < 100))), (12, .int .i64 (i : Nat)), (8, .pointer (some ⟨g, 0, none⟩)), (10, .pointer (some ⟨r, 0, none⟩)), (2, .slice A n c)]) ?_ ?_
  · have h : (¬ i < n) ∨ (i < n ∧ ¬ i < 100) ∨ (i < n ∧ i < 100) := by omega
    rcases h with h1 | ⟨h1, h2⟩ | ⟨h1, h2⟩
    all_goals
      (refine Reach.walk ?_; (repeat (first | ((with_reducible refine AllSt.mk ?_); (try clear hS); intro w hS) | ((with_reducible refine AllVw.mk ?_); intro V hV))))
      exact ⟨rfl, bool_eqP (by first | exact decide_eq_decide.2 (by omega) | exact (decide_eq_false (by omega)).symm | exact (decide_eq_true (by omega)).symm), rfl, rfl, rfl, rfl, trivial⟩
  rintro e w' ⟨rfl, he⟩
  obtain ⟨e1, rfl⟩ := he.eq
  clear he
  dsimp only [Env.sets]
  by_cases hgo : i < n ∧ i < 100
  rotate_left
  · (refine Reach.walk ?_; (repeat (first | ((with_reducible refine AllSt.mk ?_); (try clear hS); intro w hS) | ((with_reducible refine AllVw.mk ?_); intro V hV))))
    (with_reducible apply WpL.call); (· exact rfl); (· exact Try.call22); (· exact Vals.found)
    refine (alikeP hnb hnd hPR).mono ?_
    clear hS hPR
    rintro x w ⟨rfl, hS⟩
    refine ⟨_, rfl, ?_⟩
    (refine Reach.walk ?_; (repeat (first | ((with_reducible refine AllSt.mk ?_); (try clear hS); intro w hS) | ((with_reducible refine AllVw.mk ?_); intro V hV))))
    (with_reducible apply doneQ_one Try.results5); (· exact slotFound)
    exact ⟨rfl, hS.toBelow⟩
  obtain ⟨h1, h2⟩ := hgo
  have hil : i < ss.length := by omega
  obtain ⟨hk0, hk1, hk2⟩ := tv_in hss hil
  have hat : At w' ((adr A).add (0 + i * 3)) [.int .i64 (ss.getD i (0, 0, 0)).1, .int .i64 (ss.getD i (0, 0, 0)).2.1, .int .i64 (ss.getD i (0, 0, 0)).2.2] := by
    have := RdsV.rowAt (k := i * 3) (m := 3) (RdsV.whole (L := [.ro A (tv ss)]) (n := ss.length * 3) .ro (tv_len ss)) hS (by omega)
    rw [tv_at hil] at this
    rwa [Nat.zero_add]
  generalize ss.getD i (0, 0, 0) = s at *
  obtain ⟨kk, kd, kb⟩ := s
  dsimp only at hk0 hk1 hk2 hat
  have hkL := absN_le hk0
  have hdL := absN_le hk1
  have hbL := absN_le hk2
  have hm1 : absN kd % (nd + 1) < nd + 1 := Nat.mod_lt _ (Nat.succ_pos _)
  have hm2 : absN kb % (nb + 1) < nb + 1 := Nat.mod_lt _ (Nat.succ_pos _)
  obtain ⟨D, cd, ps, S, cS, E, cE, hpo, hps, hVS, hVE, hX, hS⟩ := hPR
  (refine Reach.walk ?_; (repeat (first | ((with_reducible refine AllSt.mk ?_); (try clear hS); intro w hS) | ((with_reducible refine AllVw.mk ?_); intro V hV))))
  refine WpL.det rfl (Det.ldMid (cs := [.int .i64 kk, .int .i64 kd, .int .i64 kb]) rfl (by rintro _ rfl; exact hat) rfl) ?_
  clear hat
  (refine Reach.walk ?_; (repeat (first | ((with_reducible refine AllSt.mk ?_); (try clear hS); intro w hS) | ((with_reducible refine AllVw.mk ?_); intro V hV))))
  ((with_reducible apply WpL.al); (· assumption); (· exact rfl); (· exact rfl); clear hS)
  intro go w hS
  (refine Reach.walk ?_; (repeat (first | ((with_reducible refine AllSt.mk ?_); (try clear hS); intro w hS) | ((with_reducible refine AllVw.mk ?_); intro V hV))))
  replace hS : St W (feet []) w (.blk go 42 [.int .i64 kk, .int .i64 kd, .int .i64 kb] :: refC r nd nb (nd * nb) S cS E cE X.flatten (poolL g D nd cd nb ps [.ro A (tv ss)])) := hS
  (refine Wp.drawD 15 (by kernel_rfl) (by kernel_rfl) rfl ?_; dsimp only [List.take, List.drop])
  (refine Reach.rwalk ?_; (repeat (first | ((with_reducible refine AllSt.mk ?_); (try clear hS); intro w hS) | ((with_reducible refine AllVw.mk ?_); intro V hV))))
  refine RgD.known0 (c := .int .i64 (absN kd : Nat)) rfl rfl rfl rfl (fun w5 hb5 => ?_) ?_
  · (with_reducible apply WpL.call); (· exact rfl); (· exact Try.call9); (· exact Vals.found)
    refine (abs_any hk1 _).mono ?_
    rintro x w6 ⟨rfl, rfl⟩
    exact ⟨_, rfl, WpL.nil ⟨⟨hb5, Below.refl _ _⟩, Env.set_same _ _ _⟩⟩
  (refine Reach.rwalk ?_; (repeat (first | ((with_reducible refine AllSt.mk ?_); (try clear hS); intro w hS) | ((with_reducible refine AllVw.mk ?_); intro V hV))))
  refine RgD.known0 (c := .int .i64 (absN kk : Nat)) rfl rfl rfl rfl (fun w5 hb5 => ?_) ?_
  · (with_reducible apply WpL.call); (· exact rfl); (· exact Try.call9); (· exact Vals.found)
    refine (abs_any hk0 _).mono ?_
    rintro x w6 ⟨rfl, rfl⟩
    exact ⟨_, rfl, WpL.nil ⟨⟨hb5, Below.refl _ _⟩, Env.set_same _ _ _⟩⟩
  (refine Reach.rwalk ?_; (repeat (first | ((with_reducible refine AllSt.mk ?_); (try clear hS); intro w hS) | ((with_reducible refine AllVw.mk ?_); intro V hV))))
  (refine RgD.fin0 fun w hb => ?_; replace hS := hS.below hb; clear hb)
  (refine Reach.walk ?_; (repeat (first | ((with_reducible refine AllSt.mk ?_); (try clear hS); intro w hS) | ((with_reducible refine AllVw.mk ?_); intro V hV))))
  (refine Wp.drawD 15 (by kernel_rfl) (by kernel_rfl) rfl ?_; dsimp only [List.take, List.drop])
  (refine Reach.rwalk ?_; (repeat (first | ((with_reducible refine AllSt.mk ?_); (try clear hS); intro w hS) | ((with_reducible refine AllVw.mk ?_); intro V hV))))
  refine RgD.known0 (c := .int .i64 (absN kb : Nat)) rfl rfl rfl rfl (fun w5 hb5 => ?_) ?_
  · (with_reducible apply WpL.call); (· exact rfl); (· exact Try.call9); (· exact Vals.found)
    refine (abs_any hk2 _).mono ?_
    rintro x w6 ⟨rfl, rfl⟩
    exact ⟨_, rfl, WpL.nil ⟨⟨hb5, Below.refl _ _⟩, Env.set_same _ _ _⟩⟩
  (refine Reach.rwalk ?_; (repeat (first | ((with_reducible refine AllSt.mk ?_); (try clear hS); intro w hS) | ((with_reducible refine AllVw.mk ?_); intro V hV))))
  refine RgD.known0 (c := .int .i64 (absN kk : Nat)) rfl rfl rfl rfl (fun w5 hb5 => ?_) ?_
  · (with_reducible apply WpL.call); (· exact rfl); (· exact Try.call9); (· exact Vals.found)
    refine (abs_any hk0 _).mono ?_
    rintro x w6 ⟨rfl, rfl⟩
    exact ⟨_, rfl, WpL.nil ⟨⟨hb5, Below.refl _ _⟩, Env.set_same _ _ _⟩⟩
  (refine Reach.rwalk ?_; (repeat (first | ((with_reducible refine AllSt.mk ?_); (try clear hS); intro w hS) | ((with_reducible refine AllVw.mk ?_); intro V hV))))
  (refine RgD.fin0 fun w hb => ?_; replace hS := hS.below hb; clear hb)
  (refine Reach.walk ?_; (repeat (first | ((with_reducible refine AllSt.mk ?_); (try clear hS); intro w hS) | ((with_reducible refine AllVw.mk ?_); intro V hV))))
  (with_reducible apply WpL.call); (· exact rfl); (· exact Try.call9); (· exact Vals.found)
  refine (abs_any hk0 _).mono ?_
  rintro x w1 ⟨rfl, rfl⟩
  refine ⟨_, rfl, ?_⟩
  generalize hde : ((absN kd % (nd + 1) : Nat) : Int) - ((absN kk % 53 / 52 : Nat) : Int) = d
  generalize hbe : ((absN kb % (nb + 1) : Nat) : Int) - ((absN kk % 59 / 58 : Nat) : Int) = b
  have hP : PR W (feet []) w g r nd nb X X (.blk go 42 [.int .i64 kk, .int .i64 kd, .int .i64 kb] :: [.ro A (tv ss)]) := ⟨D, cd, ps, S, cS, E, cE, hpo, hps, hVS, hVE, hX, side_in hS⟩
  clear hS hpo hps hVS hVE hX hde hbe
  have hk8 : absN kk % 8 < 8 := Nat.mod_lt _ (by decide)
  (refine Reach.walk ?_; (repeat (first | ((with_reducible refine AllSt.mk ?_); (try clear hS); intro w hS) | ((with_reducible refine AllVw.mk ?_); intro V hV))))
  generalize absN kk % 8 = k8 at *
  rcases (show k8 = 0 ∨ k8 = 1 ∨ k8 = 2 ∨ k8 = 3 ∨ k8 = 4 ∨ k8 = 5 ∨ k8 = 6 ∨ k8 = 7 by omega) with hk | hk | hk | hk | hk | hk | hk | hk
  · (refine Reach.walk ?_; (repeat (first | ((with_reducible refine AllSt.mk ?_); (try clear hS); intro w hS) | ((with_reducible refine AllVw.mk ?_); intro V hV))))
    (with_reducible apply WpL.call); (· exact rfl); (· exact Try.call11); (· exact Vals.found)
    refine (hP.left (R := fun x => x = .returned (.tuple #[.int .i64 (takeX X d).1.1, .int .i64 (takeX X d).1.2])) fun L' h => takeP hnb hnd.2 _ h).mono ?_
    clear hP
    rintro x w ⟨rfl, hP⟩
    refine ⟨_, rfl, ?_⟩
    (refine Reach.walk ?_; (repeat (first | ((with_reducible refine AllSt.mk ?_); (try clear hS); intro w hS) | ((with_reducible refine AllVw.mk ?_); intro V hV))))
    (with_reducible apply WpL.call); (· exact rfl); (· exact Try.call18); (· exact Vals.found)
    refine (hP.right (R := fun x => x = .returned (.tuple #[.int .i64 (takeX X d).1.1, .int .i64 (takeX X d).1.2])) fun L' h => refTakeP hnb hnd.2 _ h).mono ?_
    clear hP
    rintro x w ⟨rfl, hP⟩
    refine ⟨_, rfl, ?_⟩
    (refine Reach.walk ?_; (repeat (first | ((with_reducible refine AllSt.mk ?_); (try clear hS); intro w hS) | ((with_reducible refine AllVw.mk ?_); intro V hV))))
    exact ⟨h1, _, hok.take _, hP.less, int_eq (by omega), rfl, rfl, rfl, trivial⟩
  · (refine Reach.walk ?_; (repeat (first | ((with_reducible refine AllSt.mk ?_); (try clear hS); intro w hS) | ((with_reducible refine AllVw.mk ?_); intro V hV))))
    (with_reducible apply WpL.call); (· exact rfl); (· exact Try.call11); (· exact Vals.found)
    refine (hP.left (R := fun x => x = .returned (.tuple #[.int .i64 (takeX X d).1.1, .int .i64 (takeX X d).1.2])) fun L' h => takeP hnb hnd.2 _ h).mono ?_
    clear hP
    rintro x w ⟨rfl, hP⟩
    refine ⟨_, rfl, ?_⟩
    (refine Reach.walk ?_; (repeat (first | ((with_reducible refine AllSt.mk ?_); (try clear hS); intro w hS) | ((with_reducible refine AllVw.mk ?_); intro V hV))))
    (with_reducible apply WpL.call); (· exact rfl); (· exact Try.call18); (· exact Vals.found)
    refine (hP.right (R := fun x => x = .returned (.tuple #[.int .i64 (takeX X d).1.1, .int .i64 (takeX X d).1.2])) fun L' h => refTakeP hnb hnd.2 _ h).mono ?_
    clear hP
    rintro x w ⟨rfl, hP⟩
    refine ⟨_, rfl, ?_⟩
    (refine Reach.walk ?_; (repeat (first | ((with_reducible refine AllSt.mk ?_); (try clear hS); intro w hS) | ((with_reducible refine AllVw.mk ?_); intro V hV))))
    exact ⟨h1, _, hok.take _, hP.less, int_eq (by omega), rfl, rfl, rfl, trivial⟩
  · (refine Reach.walk ?_; (repeat (first | ((with_reducible refine AllSt.mk ?_); (try clear hS); intro w hS) | ((with_reducible refine AllVw.mk ?_); intro V hV))))
    (with_reducible apply WpL.call); (· exact rfl); (· exact Try.call19); (· exact Vals.found)
    refine (hP.left (R := fun x => x = .returned (.int .i64 (turnX X d b 3 [2]).1)) fun L' h => closeP hnb hnd.2 _ _ h).mono ?_
    clear hP
    rintro x w ⟨rfl, hP⟩
    refine ⟨_, rfl, ?_⟩
    (refine Reach.walk ?_; (repeat (first | ((with_reducible refine AllSt.mk ?_); (try clear hS); intro w hS) | ((with_reducible refine AllVw.mk ?_); intro V hV))))
    (with_reducible apply WpL.call); (· exact rfl); (· exact Try.call20); (· exact Vals.found)
    refine (hP.right (R := fun x => x = .returned (.int .i64 (turnX X d b 3 [2]).1)) fun L' h => refTurn1 hnb hnd.2 _ _ h).mono ?_
    clear hP
    rintro x w ⟨rfl, hP⟩
    refine ⟨_, rfl, ?_⟩
    (refine Reach.walk ?_; (repeat (first | ((with_reducible refine AllSt.mk ?_); (try clear hS); intro w hS) | ((with_reducible refine AllVw.mk ?_); intro V hV))))
    exact ⟨h1, _, hok.turn _ _ (by decide) _, hP.less, int_eq (by omega), rfl, rfl, rfl, trivial⟩
  · (refine Reach.walk ?_; (repeat (first | ((with_reducible refine AllSt.mk ?_); (try clear hS); intro w hS) | ((with_reducible refine AllVw.mk ?_); intro V hV))))
    (with_reducible apply WpL.call); (· exact rfl); (· exact Try.call13); (· exact Vals.found)
    refine (hP.left (R := fun x => x = .returned (.int .i64 (turnX X d b 1 [2, 3]).1)) fun L' h => freeP hnb hnd.2 _ _ h).mono ?_
    clear hP
    rintro x w ⟨rfl, hP⟩
    refine ⟨_, rfl, ?_⟩
    (refine Reach.walk ?_; (repeat (first | ((with_reducible refine AllSt.mk ?_); (try clear hS); intro w hS) | ((with_reducible refine AllVw.mk ?_); intro V hV))))
    (with_reducible apply WpL.call); (· exact rfl); (· exact Try.call20); (· exact Vals.found)
    refine (hP.right (R := fun x => x = .returned (.int .i64 (turnX X d b 1 [2, 3]).1)) fun L' h => refTurn2 hnb hnd.2 _ _ h).mono ?_
    clear hP
    rintro x w ⟨rfl, hP⟩
    refine ⟨_, rfl, ?_⟩
    (refine Reach.walk ?_; (repeat (first | ((with_reducible refine AllSt.mk ?_); (try clear hS); intro w hS) | ((with_reducible refine AllVw.mk ?_); intro V hV))))
    exact ⟨h1, _, hok.turn _ _ (by decide) _, hP.less, int_eq (by omega), rfl, rfl, rfl, trivial⟩
  · (refine Reach.walk ?_; (repeat (first | ((with_reducible refine AllSt.mk ?_); (try clear hS); intro w hS) | ((with_reducible refine AllVw.mk ?_); intro V hV))))
    (with_reducible apply WpL.call); (· exact rfl); (· exact Try.call13); (· exact Vals.found)
    refine (hP.left (R := fun x => x = .returned (.int .i64 (turnX X d b 1 [2, 3]).1)) fun L' h => freeP hnb hnd.2 _ _ h).mono ?_
    clear hP
    rintro x w ⟨rfl, hP⟩
    refine ⟨_, rfl, ?_⟩
    (refine Reach.walk ?_; (repeat (first | ((with_reducible refine AllSt.mk ?_); (try clear hS); intro w hS) | ((with_reducible refine AllVw.mk ?_); intro V hV))))
    (with_reducible apply WpL.call); (· exact rfl); (· exact Try.call20); (· exact Vals.found)
    refine (hP.right (R := fun x => x = .returned (.int .i64 (turnX X d b 1 [2, 3]).1)) fun L' h => refTurn2 hnb hnd.2 _ _ h).mono ?_
    clear hP
    rintro x w ⟨rfl, hP⟩
    refine ⟨_, rfl, ?_⟩
    (refine Reach.walk ?_; (repeat (first | ((with_reducible refine AllSt.mk ?_); (try clear hS); intro w hS) | ((with_reducible refine AllVw.mk ?_); intro V hV))))
    exact ⟨h1, _, hok.turn _ _ (by decide) _, hP.less, int_eq (by omega), rfl, rfl, rfl, trivial⟩
  · have hS := hP.less
    obtain ⟨D, cd, ps, S, cS, E, cE, hpo, hps, hVS, hVE, hX, hS⟩ := hP
    replace hS := hS.perm (List.perm_middle (l₁ := Ch.blk r _ _ :: Ch.own S _ _ _ _ _ :: Ch.own E _ _ _ _ _ :: Ch.blk g _ _ :: Ch.own D _ _ _ _ _ :: rowsC nb ps))
    (refine Reach.walk ?_; (repeat (first | ((with_reducible refine AllSt.mk ?_); (try clear hS); intro w hS) | ((with_reducible refine AllVw.mk ?_); intro V hV))))
    (with_reducible apply WpL.call); (· exact rfl); (· exact Try.call9); (· exact Vals.found)
    refine (abs_any hk0 _).mono ?_
    rintro x w1 ⟨rfl, rfl⟩
    refine ⟨_, rfl, ?_⟩
    have hP : PR W (feet []) w g r nd nb X X (.blk go 42 [.int .i64 kk, .int .i64 kd, .int .i64 kb] :: [.ro A (tv ss)]) := ⟨D, cd, ps, S, cS, E, cE, hpo, hps, hVS, hVE, hX, side_in hS⟩
    clear hS hpo hps hVS hVE hX
    by_cases h5 : absN kk % 5 = 0
    · (refine Reach.walk ?_; (repeat (first | ((with_reducible refine AllSt.mk ?_); (try clear hS); intro w hS) | ((with_reducible refine AllVw.mk ?_); intro V hV))))
      (with_reducible apply WpL.call); (· exact rfl); (· exact Try.call16); (· exact Vals.found)
      refine (hP.left (R := fun x => x = .returned (.int .i64 (turnX X d b 4 [1, 2, 3, 4]).1)) fun L' h => badP hnb hnd.2 _ _ h).mono ?_
      clear hP
      rintro x w ⟨rfl, hP⟩
      refine ⟨_, rfl, ?_⟩
      (refine Reach.walk ?_; (repeat (first | ((with_reducible refine AllSt.mk ?_); (try clear hS); intro w hS) | ((with_reducible refine AllVw.mk ?_); intro V hV))))
      (with_reducible apply WpL.call); (· exact rfl); (· exact Try.call20); (· exact Vals.found)
      refine (hP.right (R := fun x => x = .returned (.int .i64 (turnX X d b 4 [1, 2, 3, 4]).1)) fun L' h => refTurn3 hnb hnd.2 hok _ _ h).mono ?_
      clear hP
      rintro x w ⟨rfl, hP⟩
      refine ⟨_, rfl, ?_⟩
      (refine Reach.walk ?_; (repeat (first | ((with_reducible refine AllSt.mk ?_); (try clear hS); intro w hS) | ((with_reducible refine AllVw.mk ?_); intro V hV))))
      exact ⟨h1, _, hok.turn _ _ (by decide) _, hP.less, int_eq (by omega), rfl, rfl, rfl, trivial⟩
    · (refine Reach.walk ?_; (repeat (first | ((with_reducible refine AllSt.mk ?_); (try clear hS); intro w hS) | ((with_reducible refine AllVw.mk ?_); intro V hV))))
      exact ⟨h1, _, hok, hP.less, int_eq (by omega), rfl, rfl, rfl, trivial⟩
  · (refine Reach.walk ?_; (repeat (first | ((with_reducible refine AllSt.mk ?_); (try clear hS); intro w hS) | ((with_reducible refine AllVw.mk ?_); intro V hV))))
    (with_reducible apply WpL.call); (· exact rfl); (· exact Try.call12); (· exact Vals.found)
    refine (hP.left (R := fun x => x = .returned (.int .i64 (erasedX X d b).1)) fun L' h => erasedP hnb hnd.2 _ _ h).mono ?_
    clear hP
    rintro x w ⟨rfl, hP⟩
    refine ⟨_, rfl, ?_⟩
    (refine Reach.walk ?_; (repeat (first | ((with_reducible refine AllSt.mk ?_); (try clear hS); intro w hS) | ((with_reducible refine AllVw.mk ?_); intro V hV))))
    (with_reducible apply WpL.call); (· exact rfl); (· exact Try.call20); (· exact Vals.found)
    refine (hP.right (R := fun x => x = .returned (.int .i64 (erasedX X d b).1)) fun L' h => refErased hnb hnd.2 _ _ h).mono ?_
    clear hP
    rintro x w ⟨rfl, hP⟩
    refine ⟨_, rfl, ?_⟩
    (refine Reach.walk ?_; (repeat (first | ((with_reducible refine AllSt.mk ?_); (try clear hS); intro w hS) | ((with_reducible refine AllVw.mk ?_); intro V hV))))
    exact ⟨h1, _, hok.erased _ _, hP.less, int_eq (by omega), rfl, rfl, rfl, trivial⟩
  · (refine Reach.walk ?_; (repeat (first | ((with_reducible refine AllSt.mk ?_); (try clear hS); intro w hS) | ((with_reducible refine AllVw.mk ?_); intro V hV))))
    (with_reducible apply WpL.call); (· exact rfl); (· exact Try.call21); (· exact Vals.found)
    refine (hP.left (R := fun x => x = .returned (.int .i64 (turnX X d b 2 [1]).1)) fun L' h => holdP hnb hnd.2 _ _ h).mono ?_
    clear hP
    rintro x w ⟨rfl, hP⟩
    refine ⟨_, rfl, ?_⟩
    (refine Reach.walk ?_; (repeat (first | ((with_reducible refine AllSt.mk ?_); (try clear hS); intro w hS) | ((with_reducible refine AllVw.mk ?_); intro V hV))))
    (with_reducible apply WpL.call); (· exact rfl); (· exact Try.call20); (· exact Vals.found)
    refine (hP.right (R := fun x => x = .returned (.int .i64 (turnX X d b 2 [1]).1)) fun L' h => refTurn5 hnb hnd.2 _ _ h).mono ?_
    clear hP
    rintro x w ⟨rfl, hP⟩
    refine ⟨_, rfl, ?_⟩
    (refine Reach.walk ?_; (repeat (first | ((with_reducible refine AllSt.mk ?_); (try clear hS); intro w hS) | ((with_reducible refine AllVw.mk ?_); intro V hV))))
    exact ⟨h1, _, hok.turn _ _ (by decide) _, hP.less, int_eq (by omega), rfl, rfl, rfl, trivial⟩
end Go.Proofs.Ytaapnfoimcccjaa

namespace Go.Proofs.Ytaapnfoimcccjaa
open Go.Fk Go.RowKit
attribute [local irreducible] Wp WpL Det thenQ blockQ WpG thenD blockG
instance rowOp : SliceT Try.prog 37 42 := ⟨Try.underlying37⟩
instance sizeOp : SizeT Try.prog 42 3 := ⟨by kernel_rfl⟩
instance fieldOp0 : FieldT Try.prog 42 0 0 := ⟨by kernel_rfl⟩
instance fieldOp1 : FieldT Try.prog 42 1 1 := ⟨by kernel_rfl⟩
instance fieldOp2 : FieldT Try.prog 42 2 2 := ⟨by kernel_rfl⟩
theorem sealed_take' {l : List UInt8} {k : Nat} (h : l.length = k) : (Crc.sealed l).take k = l := by rw [Crc.sealed, ← h, List.take_left]
set_option maxHeartbeats 4000000 in
theorem blocksBack_any {dies many : Int} {A : Option Addr} {n c : Nat} {ss : List Tr} (hd : -9223372036854775808 ≤ dies ∧ dies ≤ 9223372036854775807) (hm : -9223372036854775808 ≤ many ∧ many ≤ 9223372036854775807) (hn : n ≤ ss.length) (hss : ∀ s ∈ ss, TrIn s) (hV : IsVw A n c A 0) (hlen : n ≤ 140737488355328) (W : World) (hr : Rd W A (tv ss)) :
    Calls Try.prog 6 #[.int .i64 dies, .int .i64 many, .slice A n c] W fun x w' => x = .returned (.bool true) ∧ Below W.heap.size W w' := by
  have hdL := absN_le hd
  have hmL := absN_le hm
  have hS := (St.start W).startRo hr
  clear hr
  (refine calls_of (P := Try.prog) _ Try.func6 rfl Try.ntmps6 (Nat.le_of_ble_eq_true rfl) ?_; dsimp only [argE, Nat.reduceAdd])
  (refine Reach.walk ?_; (repeat (first | ((with_reducible refine AllSt.mk ?_); (try clear hS); intro w hS) | ((with_reducible refine AllVw.mk ?_); intro V hV))))
  (with_reducible apply WpL.call); (· exact rfl); (· exact Try.call8); (· exact Vals.found)
  refine (awake_any hS).mono ?_
  clear hS
  rintro x w ⟨rfl, hS⟩
  refine ⟨_, rfl, ?_⟩
  (refine Reach.walk ?_; (repeat (first | ((with_reducible refine AllSt.mk ?_); (try clear hS); intro w hS) | ((with_reducible refine AllVw.mk ?_); intro V hV))))
  (with_reducible apply WpL.call); (· exact rfl); (· exact Try.call9); (· exact Vals.found)
  refine (abs_any hd _).mono ?_
  rintro x w1 ⟨rfl, rfl⟩
  refine ⟨_, rfl, ?_⟩
  (refine Reach.walk ?_; (repeat (first | ((with_reducible refine AllSt.mk ?_); (try clear hS); intro w hS) | ((with_reducible refine AllVw.mk ?_); intro V hV))))
  (with_reducible apply WpL.call); (· exact rfl); (· exact Try.call9); (· exact Vals.found)
  refine (abs_any hm _).mono ?_
  rintro x w1 ⟨rfl, rfl⟩
  refine ⟨_, rfl, ?_⟩
  (refine Reach.walk ?_; (repeat (first | ((with_reducible refine AllSt.mk ?_); (try clear hS); intro w hS) | ((with_reducible refine AllVw.mk ?_); intro V hV))))
  have hd4 : absN dies % 4 < 4 := Nat.mod_lt _ (by decide)
  have hm9 : absN many % 9 < 9 := Nat.mod_lt _ (by decide)
  generalize hnd : 1 + absN dies % 4 = nd at *
  generalize hnb : 1 + absN many % 9 = nb at *
  (with_reducible apply WpL.call); (· exact rfl); (· exact Try.call10); (· exact Vals.found)
  refine (newP hS).mono ?_
  clear hS
  rintro x w (⟨h, _⟩ | ⟨-, g, rfl, hP⟩)
  · exact absurd ⟨by omega, by omega, by omega, by omega⟩ h
  refine ⟨_, rfl, ?_⟩
  rw [Int.toNat_natCast, Int.toNat_natCast] at hP
  (refine Reach.walk ?_; (repeat (first | ((with_reducible refine AllSt.mk ?_); (try clear hS); intro w hS) | ((with_reducible refine AllVw.mk ?_); intro V hV))))
  apply Wp.loopUp n (fun i e w' => ∃ X, OkX X ∧ PSt W (feet []) w' g nd nb X [.ro A (tv ss)] ∧ e.Has [(10, .int .i64 (i : Nat)), (8, .pointer (some ⟨g, 0, none⟩)), (0, .int .i64 (nd : Nat)), (1, .int .i64 (nb : Nat)), (2, .slice A n c)]) (Nat.zero_le _)
    ⟨_, OkX.new nd nb, hP, rfl, rfl, rfl, rfl, rfl, trivial⟩
  clear hP
  rintro i e w hi ⟨X, hok, hP, he⟩
  obtain ⟨e0, rfl⟩ := he.eq
  clear he
  dsimp only [Env.sets]
  by_cases hgo : i < n ∧ i < 80
  · obtain ⟨h1, h2⟩ := hgo
    have hil : i < ss.length := by omega
    obtain ⟨hk0, hk1, hk2⟩ := tv_in hss hil
    have hS := hP.rest
    have l0 : Look [.ro A (tv ss)] ((adr A).add (0 + i * 3 + 0)) (.int .i64 (ss.getD i (0, 0, 0)).1) := Look.ro (tv_get hil (k := 0) (by decide))
    have l1 : Look [.ro A (tv ss)] ((adr A).add (0 + i * 3 + 1)) (.int .i64 (ss.getD i (0, 0, 0)).2.1) := Look.ro (tv_get hil (k := 1) (by decide))
    have l2 : Look [.ro A (tv ss)] ((adr A).add (0 + i * 3 + 2)) (.int .i64 (ss.getD i (0, 0, 0)).2.2) := Look.ro (tv_get hil (k := 2) (by decide))
    generalize ss.getD i (0, 0, 0) = s at *
    obtain ⟨kk, kd, kb⟩ := s
    dsimp only at hk0 hk1 hk2 l0 l1 l2
    have hkL := absN_le hk0
    have hdL := absN_le hk1
    have hbL := absN_le hk2
    (refine Reach.walk ?_; (repeat (first | ((with_reducible refine AllSt.mk ?_); (try clear hS); intro w hS) | ((with_reducible refine AllVw.mk ?_); intro V hV))))
    (with_reducible apply WpL.call); (· exact rfl); (· exact Try.call9); (· exact Vals.found)
    refine (abs_any hk1 _).mono ?_
    rintro x w1 ⟨rfl, rfl⟩
    refine ⟨_, rfl, ?_⟩
    (refine Reach.walk ?_; (repeat (first | ((with_reducible refine AllSt.mk ?_); (try clear hS); intro w hS) | ((with_reducible refine AllVw.mk ?_); intro V hV))))
    (with_reducible apply WpL.call); (· exact rfl); (· exact Try.call9); (· exact Vals.found)
    refine (abs_any hk2 _).mono ?_
    rintro x w1 ⟨rfl, rfl⟩
    refine ⟨_, rfl, ?_⟩
    (refine Reach.walk ?_; (repeat (first | ((with_reducible refine AllSt.mk ?_); (try clear hS); intro w hS) | ((with_reducible refine AllVw.mk ?_); intro V hV))))
    (with_reducible apply WpL.call); (· exact rfl); (· exact Try.call9); (· exact Vals.found)
    refine (abs_any hk0 _).mono ?_
    rintro x w1 ⟨rfl, rfl⟩
    refine ⟨_, rfl, ?_⟩
    clear l0 l1 l2 hS
    have hk6 : absN kk % 6 < 6 := Nat.mod_lt _ (by decide)
    (refine Reach.walk ?_; (repeat (first | ((with_reducible refine AllSt.mk ?_); (try clear hS); intro w hS) | ((with_reducible refine AllVw.mk ?_); intro V hV))))
    generalize absN kk % 6 = k6 at *
    generalize absN kd % nd = d at *
    generalize absN kb % nb = b at *
    rcases (show k6 = 0 ∨ k6 = 1 ∨ k6 = 2 ∨ k6 = 3 ∨ k6 = 4 ∨ k6 = 5 by omega) with h | h | h | h | h | h
    · (refine Reach.walk ?_; (repeat (first | ((with_reducible refine AllSt.mk ?_); (try clear hS); intro w hS) | ((with_reducible refine AllVw.mk ?_); intro V hV))))
      ((with_reducible apply WpL.call); (· exact rfl); (· exact Try.call11); (· exact Vals.found)); (refine (takeP (by omega) (by omega) _ hP).mono ?_); clear hP; rintro x w ⟨rfl, hP⟩; (refine ⟨_, rfl, ?_⟩)
      (refine Reach.walk ?_; (repeat (first | ((with_reducible refine AllSt.mk ?_); (try clear hS); intro w hS) | ((with_reducible refine AllVw.mk ?_); intro V hV))))
      exact ⟨h1, _, hok.take _, hP, int_eq (by omega), rfl, rfl, rfl, rfl, trivial⟩
    · (refine Reach.walk ?_; (repeat (first | ((with_reducible refine AllSt.mk ?_); (try clear hS); intro w hS) | ((with_reducible refine AllVw.mk ?_); intro V hV))))
      ((with_reducible apply WpL.call); (· exact rfl); (· exact Try.call11); (· exact Vals.found)); (refine (takeP (by omega) (by omega) _ hP).mono ?_); clear hP; rintro x w ⟨rfl, hP⟩; (refine ⟨_, rfl, ?_⟩)
      (refine Reach.walk ?_; (repeat (first | ((with_reducible refine AllSt.mk ?_); (try clear hS); intro w hS) | ((with_reducible refine AllVw.mk ?_); intro V hV))))
      exact ⟨h1, _, hok.take _, hP, int_eq (by omega), rfl, rfl, rfl, rfl, trivial⟩
    · (refine Reach.walk ?_; (repeat (first | ((with_reducible refine AllSt.mk ?_); (try clear hS); intro w hS) | ((with_reducible refine AllVw.mk ?_); intro V hV))))
      ((with_reducible apply WpL.call); (· exact rfl); (· exact Try.call19); (· exact Vals.found)); (refine (closeP (by omega) (by omega) _ _ hP).mono ?_); clear hP; rintro x w ⟨rfl, hP⟩; (refine ⟨_, rfl, ?_⟩)
      (refine Reach.walk ?_; (repeat (first | ((with_reducible refine AllSt.mk ?_); (try clear hS); intro w hS) | ((with_reducible refine AllVw.mk ?_); intro V hV))))
      exact ⟨h1, _, hok.turn _ _ (by decide) _, hP, int_eq (by omega), rfl, rfl, rfl, rfl, trivial⟩
    · (refine Reach.walk ?_; (repeat (first | ((with_reducible refine AllSt.mk ?_); (try clear hS); intro w hS) | ((with_reducible refine AllVw.mk ?_); intro V hV))))
      ((with_reducible apply WpL.call); (· exact rfl); (· exact Try.call13); (· exact Vals.found)); (refine (freeP (by omega) (by omega) _ _ hP).mono ?_); clear hP; rintro x w ⟨rfl, hP⟩; (refine ⟨_, rfl, ?_⟩)
      (refine Reach.walk ?_; (repeat (first | ((with_reducible refine AllSt.mk ?_); (try clear hS); intro w hS) | ((with_reducible refine AllVw.mk ?_); intro V hV))))
      exact ⟨h1, _, hok.turn _ _ (by decide) _, hP, int_eq (by omega), rfl, rfl, rfl, rfl, trivial⟩
    · (refine Reach.walk ?_; (repeat (first | ((with_reducible refine AllSt.mk ?_); (try clear hS); intro w hS) | ((with_reducible refine AllVw.mk ?_); intro V hV))))
      ((with_reducible apply WpL.call); (· exact rfl); (· exact Try.call12); (· exact Vals.found)); (refine (erasedP (by omega) (by omega) _ _ hP).mono ?_); clear hP; rintro x w ⟨rfl, hP⟩; (refine ⟨_, rfl, ?_⟩)
      (refine Reach.walk ?_; (repeat (first | ((with_reducible refine AllSt.mk ?_); (try clear hS); intro w hS) | ((with_reducible refine AllVw.mk ?_); intro V hV))))
      exact ⟨h1, _, hok.erased _ _, hP, int_eq (by omega), rfl, rfl, rfl, rfl, trivial⟩
    · (refine Reach.walk ?_; (repeat (first | ((with_reducible refine AllSt.mk ?_); (try clear hS); intro w hS) | ((with_reducible refine AllVw.mk ?_); intro V hV))))
      ((with_reducible apply WpL.call); (· exact rfl); (· exact Try.call16); (· exact Vals.found)); (refine (badP (by omega) (by omega) _ _ hP).mono ?_); clear hP; rintro x w ⟨rfl, hP⟩; (refine ⟨_, rfl, ?_⟩)
      (refine Reach.walk ?_; (repeat (first | ((with_reducible refine AllSt.mk ?_); (try clear hS); intro w hS) | ((with_reducible refine AllVw.mk ?_); intro V hV))))
      exact ⟨h1, _, hok.turn _ _ (by decide) _, hP, int_eq (by omega), rfl, rfl, rfl, rfl, trivial⟩
  by_cases hin : i < n
  · have h80 : ¬ i < 80 := fun h => hgo ⟨hin, h⟩
    (refine Reach.walk ?_; (repeat (first | ((with_reducible refine AllSt.mk ?_); (try clear hS); intro w hS) | ((with_reducible refine AllVw.mk ?_); intro V hV))))
    (with_reducible apply WpL.call); (· exact rfl); (· exact Try.call24); (· exact Vals.found)
    refine (bytesP (by omega) (by omega) hP).mono ?_
    have hXok := hP.ok
    clear hP
    rintro x w ⟨B, cB, rfl, hB, hP⟩
    refine ⟨_, rfl, ?_⟩
    obtain ⟨D, cd, ps, hpo, hps, hS⟩ := hP
    replace hS : St W (feet []) w (.own B ((poolB nb X).length + 4) cB 5 1 (bv (Crc.sealed (poolB nb X))) :: poolL g D nd cd nb ps [.ro A (tv ss)]) := hS.perm (List.perm_middle (l₁ := Ch.blk g _ _ :: Ch.own D _ _ _ _ _ :: rowsC nb ps))
    have hbl : (Crc.sealed (poolB nb X)).length = (poolB nb X).length + 4 := Crc.sealed_length _
    obtain ⟨hpb, hpa⟩ := poolB_back hXok hok (by omega) (by omega)
    have hblen : (poolB nb X).length = 2 + 5 * (nd * nb) := hpb.len
    have hmul : nd * nb ≤ 8 * 64 := Nat.mul_le_mul (by omega) (by omega)
    (refine Reach.walk ?_; (repeat (first | ((with_reducible refine AllSt.mk ?_); (try clear hS); intro w hS) | ((with_reducible refine AllVw.mk ?_); intro V hV))))
    (with_reducible apply WpL.call); (· exact rfl); (· exact Try.call23); (· exact Vals.found)
    refine (parseP hS (RdsV.whole (xs := bv (Crc.sealed (poolB nb X))) Rds.own (by rw [bv_length]; exact hbl)) hB.le (by omega)).mono ?_
    clear hS
    rw [Nat.add_sub_cancel, sealed_take' rfl]
    rintro x w (⟨h, _⟩ | ⟨⟨_, h⟩, _⟩ | ⟨_, gq, nd', nb', hpb', rfl, hP⟩)
    · exact absurd (Crc.good_sealed _) h
    · exact absurd hpb (h nd nb)
    obtain rfl : nd' = nd := hpb'.d.trans hpb.d.symm
    obtain rfl : nb' = nb := hpb'.b.trans hpb.b.symm
    rw [hpa] at hP
    refine ⟨_, rfl, ?_⟩
    have hPP : PP W (feet []) w g nd' nb' X gq nd' nb' X [.ro A (tv ss)] := ⟨D, cd, ps, hpo, hps, hP.sub (List.sublist_cons_self _ _)⟩
    clear hP
    (refine Reach.walk ?_; (repeat (first | ((with_reducible refine AllSt.mk ?_); (try clear hS); intro w hS) | ((with_reducible refine AllVw.mk ?_); intro V hV))))
    apply Wp.loopUp nd' (fun d e w' => PP W (feet []) w' g nd' nb' X gq nd' nb' X [.ro A (tv ss)] ∧ e.Has [(15, .int .i64 (d : Nat)), (0, .int .i64 (nd' : Nat)), (1, .int .i64 (nb' : Nat)), (8, .pointer (some ⟨g, 0, none⟩)), (13, .pointer (some ⟨gq, 0, none⟩))]) (Nat.zero_le _)
      ⟨hPP, rfl, rfl, rfl, rfl, rfl, trivial⟩
    clear hPP
    rintro d e w hdd ⟨hPP, he⟩
    obtain ⟨e1, rfl⟩ := he.eq
    clear he
    dsimp only [Env.sets]
    by_cases hdn : d < nd'
    rotate_left
    · (refine Reach.walk ?_; (repeat (first | ((with_reducible refine AllSt.mk ?_); (try clear hS); intro w hS) | ((with_reducible refine AllVw.mk ?_); intro V hV))))
      (with_reducible apply doneQ_one Try.results6); (· exact slotFound)
      obtain ⟨D, cd, ps, h1, h2, h3⟩ := hPP
      exact ⟨rfl, h3.rest.toBelow⟩
    (refine Reach.walk ?_; (repeat (first | ((with_reducible refine AllSt.mk ?_); (try clear hS); intro w hS) | ((with_reducible refine AllVw.mk ?_); intro V hV))))
    apply Wp.loopUp nb' (fun b e w' => PP W (feet []) w' g nd' nb' X gq nd' nb' X [.ro A (tv ss)] ∧ e.Has [(16, .int .i64 (b : Nat)), (15, .int .i64 (d : Nat)), (0, .int .i64 (nd' : Nat)), (1, .int .i64 (nb' : Nat)), (8, .pointer (some ⟨g, 0, none⟩)), (13, .pointer (some ⟨gq, 0, none⟩))]) (Nat.zero_le _)
      ⟨hPP, rfl, rfl, rfl, rfl, rfl, rfl, trivial⟩
    clear hPP
    rintro b e w hbb ⟨hPP, he⟩
    obtain ⟨e2, rfl⟩ := he.eq
    clear he
    dsimp only [Env.sets]
    by_cases hbn : b < nb'
    rotate_left
    · (refine Reach.walk ?_; (repeat (first | ((with_reducible refine AllSt.mk ?_); (try clear hS); intro w hS) | ((with_reducible refine AllVw.mk ?_); intro V hV))))
      exact ⟨hdn, hPP, int_eq (by omega), rfl, rfl, rfl, rfl, trivial⟩
    (refine Reach.walk ?_; (repeat (first | ((with_reducible refine AllSt.mk ?_); (try clear hS); intro w hS) | ((with_reducible refine AllVw.mk ?_); intro V hV))))
    (with_reducible apply WpL.call); (· exact rfl); (· exact Try.call25); (· exact Vals.found)
    refine (hPP.left (R := fun x => x = .returned (.int .i64 (stX X d b : Nat))) fun L' h => stateP (by omega) (by omega) _ _ h).mono ?_
    clear hPP
    rintro x w ⟨rfl, hPP⟩
    refine ⟨_, rfl, ?_⟩
    (refine Reach.walk ?_; (repeat (first | ((with_reducible refine AllSt.mk ?_); (try clear hS); intro w hS) | ((with_reducible refine AllVw.mk ?_); intro V hV))))
    (with_reducible apply WpL.call); (· exact rfl); (· exact Try.call25); (· exact Vals.found)
    refine (hPP.right (R := fun x => x = .returned (.int .i64 (stX X d b : Nat))) fun L' h => stateP (by omega) (by omega) _ _ h).mono ?_
    clear hPP
    rintro x w ⟨rfl, hPP⟩
    refine ⟨_, rfl, ?_⟩
    (refine Reach.walk ?_; (repeat (first | ((with_reducible refine AllSt.mk ?_); (try clear hS); intro w hS) | ((with_reducible refine AllVw.mk ?_); intro V hV))))
    (with_reducible apply WpL.call); (· exact rfl); (· exact Try.call26); (· exact Vals.found)
    refine (hPP.left (R := fun x => x = .returned (.int .i64 (erX X d b : Nat))) fun L' h => erasesP (by omega) (by omega) _ _ h).mono ?_
    clear hPP
    rintro x w ⟨rfl, hPP⟩
    refine ⟨_, rfl, ?_⟩
    (refine Reach.walk ?_; (repeat (first | ((with_reducible refine AllSt.mk ?_); (try clear hS); intro w hS) | ((with_reducible refine AllVw.mk ?_); intro V hV))))
    (with_reducible apply WpL.call); (· exact rfl); (· exact Try.call26); (· exact Vals.found)
    refine (hPP.right (R := fun x => x = .returned (.int .i64 (erX X d b : Nat))) fun L' h => erasesP (by omega) (by omega) _ _ h).mono ?_
    clear hPP
    rintro x w ⟨rfl, hPP⟩
    refine ⟨_, rfl, ?_⟩
    (refine Reach.walk ?_; (repeat (first | ((with_reducible refine AllSt.mk ?_); (try clear hS); intro w hS) | ((with_reducible refine AllVw.mk ?_); intro V hV))))
    exact ⟨hbn, hPP, int_eq (by omega), rfl, rfl, rfl, rfl, rfl, trivial⟩
  · (refine Reach.walk ?_; (repeat (first | ((with_reducible refine AllSt.mk ?_); (try clear hS); intro w hS) | ((with_reducible refine AllVw.mk ?_); intro V hV))))
    (with_reducible apply WpL.call); (· exact rfl); (· exact Try.call24); (· exact Vals.found)
    refine (bytesP (by omega) (by omega) hP).mono ?_
    have hXok := hP.ok
    clear hP
    rintro x w ⟨B, cB, rfl, hB, hP⟩
    refine ⟨_, rfl, ?_⟩
    obtain ⟨D, cd, ps, hpo, hps, hS⟩ := hP
    replace hS : St W (feet []) w (.own B ((poolB nb X).length + 4) cB 5 1 (bv (Crc.sealed (poolB nb X))) :: poolL g D nd cd nb ps [.ro A (tv ss)]) := hS.perm (List.perm_middle (l₁ := Ch.blk g _ _ :: Ch.own D _ _ _ _ _ :: rowsC nb ps))
    have hbl : (Crc.sealed (poolB nb X)).length = (poolB nb X).length + 4 := Crc.sealed_length _
    obtain ⟨hpb, hpa⟩ := poolB_back hXok hok (by omega) (by omega)
    have hblen : (poolB nb X).length = 2 + 5 * (nd * nb) := hpb.len
    have hmul : nd * nb ≤ 8 * 64 := Nat.mul_le_mul (by omega) (by omega)
    (refine Reach.walk ?_; (repeat (first | ((with_reducible refine AllSt.mk ?_); (try clear hS); intro w hS) | ((with_reducible refine AllVw.mk ?_); intro V hV))))
    (with_reducible apply WpL.call); (· exact rfl); (· exact Try.call23); (· exact Vals.found)
    refine (parseP hS (RdsV.whole (xs := bv (Crc.sealed (poolB nb X))) Rds.own (by rw [bv_length]; exact hbl)) hB.le (by omega)).mono ?_
    clear hS
    rw [Nat.add_sub_cancel, sealed_take' rfl]
    rintro x w (⟨h, _⟩ | ⟨⟨_, h⟩, _⟩ | ⟨_, gq, nd', nb', hpb', rfl, hP⟩)
    · exact absurd (Crc.good_sealed _) h
    · exact absurd hpb (h nd nb)
    obtain rfl : nd' = nd := hpb'.d.trans hpb.d.symm
    obtain rfl : nb' = nb := hpb'.b.trans hpb.b.symm
    rw [hpa] at hP
    refine ⟨_, rfl, ?_⟩
    have hPP : PP W (feet []) w g nd' nb' X gq nd' nb' X [.ro A (tv ss)] := ⟨D, cd, ps, hpo, hps, hP.sub (List.sublist_cons_self _ _)⟩
    clear hP
    (refine Reach.walk ?_; (repeat (first | ((with_reducible refine AllSt.mk ?_); (try clear hS); intro w hS) | ((with_reducible refine AllVw.mk ?_); intro V hV))))
    apply Wp.loopUp nd' (fun d e w' => PP W (feet []) w' g nd' nb' X gq nd' nb' X [.ro A (tv ss)] ∧ e.Has [(15, .int .i64 (d : Nat)), (0, .int .i64 (nd' : Nat)), (1, .int .i64 (nb' : Nat)), (8, .pointer (some ⟨g, 0, none⟩)), (13, .pointer (some ⟨gq, 0, none⟩))]) (Nat.zero_le _)
      ⟨hPP, rfl, rfl, rfl, rfl, rfl, trivial⟩
    clear hPP
    rintro d e w hdd ⟨hPP, he⟩
    obtain ⟨e1, rfl⟩ := he.eq
    clear he
    dsimp only [Env.sets]
    by_cases hdn : d < nd'
    rotate_left
    · (refine Reach.walk ?_; (repeat (first | ((with_reducible refine AllSt.mk ?_); (try clear hS); intro w hS) | ((with_reducible refine AllVw.mk ?_); intro V hV))))
      (with_reducible apply doneQ_one Try.results6); (· exact slotFound)
      obtain ⟨D, cd, ps, h1, h2, h3⟩ := hPP
      exact ⟨rfl, h3.rest.toBelow⟩
    (refine Reach.walk ?_; (repeat (first | ((with_reducible refine AllSt.mk ?_); (try clear hS); intro w hS) | ((with_reducible refine AllVw.mk ?_); intro V hV))))
    apply Wp.loopUp nb' (fun b e w' => PP W (feet []) w' g nd' nb' X gq nd' nb' X [.ro A (tv ss)] ∧ e.Has [(16, .int .i64 (b : Nat)), (15, .int .i64 (d : Nat)), (0, .int .i64 (nd' : Nat)), (1, .int .i64 (nb' : Nat)), (8, .pointer (some ⟨g, 0, none⟩)), (13, .pointer (some ⟨gq, 0, none⟩))]) (Nat.zero_le _)
      ⟨hPP, rfl, rfl, rfl, rfl, rfl, rfl, trivial⟩
    clear hPP
    rintro b e w hbb ⟨hPP, he⟩
    obtain ⟨e2, rfl⟩ := he.eq
    clear he
    dsimp only [Env.sets]
    by_cases hbn : b < nb'
    rotate_left
    · (refine Reach.walk ?_; (repeat (first | ((with_reducible refine AllSt.mk ?_); (try clear hS); intro w hS) | ((with_reducible refine AllVw.mk ?_); intro V hV))))
      exact ⟨hdn, hPP, int_eq (by omega), rfl, rfl, rfl, rfl, trivial⟩
    (refine Reach.walk ?_; (repeat (first | ((with_reducible refine AllSt.mk ?_); (try clear hS); intro w hS) | ((with_reducible refine AllVw.mk ?_); intro V hV))))
    (with_reducible apply WpL.call); (· exact rfl); (· exact Try.call25); (· exact Vals.found)
    refine (hPP.left (R := fun x => x = .returned (.int .i64 (stX X d b : Nat))) fun L' h => stateP (by omega) (by omega) _ _ h).mono ?_
    clear hPP
    rintro x w ⟨rfl, hPP⟩
    refine ⟨_, rfl, ?_⟩
    (refine Reach.walk ?_; (repeat (first | ((with_reducible refine AllSt.mk ?_); (try clear hS); intro w hS) | ((with_reducible refine AllVw.mk ?_); intro V hV))))
    (with_reducible apply WpL.call); (· exact rfl); (· exact Try.call25); (· exact Vals.found)
    refine (hPP.right (R := fun x => x = .returned (.int .i64 (stX X d b : Nat))) fun L' h => stateP (by omega) (by omega) _ _ h).mono ?_
    clear hPP
    rintro x w ⟨rfl, hPP⟩
    refine ⟨_, rfl, ?_⟩
    (refine Reach.walk ?_; (repeat (first | ((with_reducible refine AllSt.mk ?_); (try clear hS); intro w hS) | ((with_reducible refine AllVw.mk ?_); intro V hV))))
    (with_reducible apply WpL.call); (· exact rfl); (· exact Try.call26); (· exact Vals.found)
    refine (hPP.left (R := fun x => x = .returned (.int .i64 (erX X d b : Nat))) fun L' h => erasesP (by omega) (by omega) _ _ h).mono ?_
    clear hPP
    rintro x w ⟨rfl, hPP⟩
    refine ⟨_, rfl, ?_⟩
    (refine Reach.walk ?_; (repeat (first | ((with_reducible refine AllSt.mk ?_); (try clear hS); intro w hS) | ((with_reducible refine AllVw.mk ?_); intro V hV))))
    (with_reducible apply WpL.call); (· exact rfl); (· exact Try.call26); (· exact Vals.found)
    refine (hPP.right (R := fun x => x = .returned (.int .i64 (erX X d b : Nat))) fun L' h => erasesP (by omega) (by omega) _ _ h).mono ?_
    clear hPP
    rintro x w ⟨rfl, hPP⟩
    refine ⟨_, rfl, ?_⟩
    (refine Reach.walk ?_; (repeat (first | ((with_reducible refine AllSt.mk ?_); (try clear hS); intro w hS) | ((with_reducible refine AllVw.mk ?_); intro V hV))))
    exact ⟨hbn, hPP, int_eq (by omega), rfl, rfl, rfl, rfl, rfl, trivial⟩
end Go.Proofs.Ytaapnfoimcccjaa

namespace Go.Fk
open Go.RowKit Go.ChangeShapes Go.WideShapes Go.ChangeAt

/-- What a slice reads as. -/
def SliceD {H : Type} (d : DataW H) (len cap : Nat) : Prop := (d = .nil ∧ len = 0 ∧ cap = 0) ∨ ∃ elems spare : List (DataW H), d = .slice elems spare ∧ elems.length = len ∧ spare.length = cap - len

section
variable {H : Type} {enc : TypeId × Value → H} {P : Program} {W : World}
theorem argInts {t el : TypeId} {k : IntKind} (ht : P.underlying t = some (.slice el)) (he : P.underlying el = some (.int k)) (hc : P.cellsOf el = 1) {A : Option Addr} {len cap : Nat} {d : DataW H} {p : List MemPlace}
    (h : DataW.Trod enc P W 0 (fun _ => true) true t (.slice A len cap) d p) :
    ∃ zs : List Int, zs.length = cap ∧ len ≤ cap ∧ cap ≤ maxLen ∧ Rd W A (zs.map (Value.int k)) ∧ SliceD d len cap ∧ ∀ z ∈ zs, (Lit.int k z).wf = true := by
  obtain ⟨fuel, hf⟩ := h
  rcases open_ints ht he hc hf with ⟨hcs, hx⟩ | ⟨a, l, c, zs, hcs, _, hl, hm, hz, hx, hcell, hwz⟩
  · simp [Value.cells] at hcs
    obtain ⟨rfl, rfl, rfl⟩ := hcs
    simp only [Prod.mk.injEq] at hx
    exact ⟨[], rfl, Nat.le_refl _, Nat.zero_le _, .inl rfl, .inl ⟨hx.1, rfl, rfl⟩, by simp⟩
  · simp [Value.cells] at hcs
    obtain ⟨rfl, rfl, rfl⟩ := hcs
    simp only [if_true] at hz
    simp only [Prod.mk.injEq] at hx
    refine ⟨zs, hz, hl, hm, .inr ⟨a, rfl, fun j u hu => ?_⟩, .inr ⟨_, _, hx.1, by simp [lits]; omega, by simp [lits]; omega⟩, hwz⟩
    rw [List.getElem?_map] at hu
    cases hj : zs[j]? with
    | none => rw [hj] at hu; cases hu
    | some z =>
      rw [hj] at hu
      have hjl := (List.getElem?_eq_some_iff.1 hj).1
      rw [hcell j hjl, ← hu]
      simp [List.getD_eq_getElem?_getD, hj]

theorem argBytes {t el : TypeId} (ht : P.underlying t = some (.slice el)) (he : P.underlying el = some (.int .u8)) (hc : P.cellsOf el = 1) {A : Option Addr} {len cap : Nat} {d : DataW H} {p : List MemPlace}
    (h : DataW.Trod enc P W 0 (fun _ => true) true t (.slice A len cap) d p) :
    ∃ l : List UInt8, l.length = len ∧ len ≤ cap ∧ cap ≤ maxLen ∧ Rd W A (bv l) ∧ SliceD d len cap := by
  obtain ⟨zs, hz, hl, hm, hr, hd, hw⟩ := argInts ht he hc h
  refine ⟨(zs.take len).map fun z => UInt8.ofNat z.toNat, by simp; omega, hl, hm, ?_, hd⟩
  have e1 : bv ((zs.take len).map fun z => UInt8.ofNat z.toNat) = (zs.map (Value.int .u8)).take len := by
    rw [← List.map_take, bv, List.map_map]
    refine List.map_congr_left fun z hz' => ?_
    have hzw := hw z (List.mem_of_mem_take hz')
    simp [Lit.wf, IntKind.min, IntKind.max, IntKind.signed, IntKind.bits] at hzw
    simp only [Function.comp]
    refine int_eq ?_
    have : (UInt8.ofNat z.toNat).toNat = z.toNat % 256 := by simp
    rw [this]; omega
  rw [e1]
  exact hr.take _

/-- The form's own reach: a slice's capacity. -/
theorem sizedSlice {ts : List TypeId} {ds : List (DataW H)} (h : (DataW.weightsEach P ts ds).all (· ≤ reachBytes) = true) {j : Nat} {t e : TypeId} {d : DataW H} {len cap : Nat} (hs : SliceD d len cap) (hlc : len ≤ cap)
    (ht : ts[j]? = some t) (hd : ds[j]? = some d) (hu : P.underlying t = some (.slice e)) : cap * P.bytesOf e ≤ reachBytes := by
  rcases hs with ⟨_, _, rfl⟩ | ⟨elems, spare, rfl, h1, h2⟩
  · simp
  · have := sized_slice h ht hd hu
    rw [h1, h2, Nat.add_sub_cancel' hlc] at this
    exact this
end

end Go.Fk
namespace Go.Proofs.Ytaapnfoimcccjaa
open Go.Fk
theorem bulkAll_len {H : Type} : ∀ l : List (DataW H), l.length ≤ Rows.uptoBulkAll l
  | [] => Nat.zero_le _
  | d :: r => by
    have h1 : 1 ≤ Rows.uptoBulk d := by
      cases d with
      | lit l => cases l <;> simp [Rows.uptoBulk]
      | _ => simp [Rows.uptoBulk]
    have h2 := bulkAll_len r
    simp only [Rows.uptoBulkAll, List.length_cons]; omega
/-- The second form's bound: a slice's places. -/
theorem bulk_slice {H : Type} {d : DataW H} {len cap : Nat} (hs : SliceD d len cap) (hlc : len ≤ cap) : cap ≤ Rows.uptoBulk d := by
  rcases hs with ⟨_, _, rfl⟩ | ⟨elems, spare, rfl, h1, h2⟩
  · exact Nat.zero_le _
  · have h3 := bulkAll_len elems
    have h4 := bulkAll_len spare
    simp only [Rows.uptoBulk]; omega
end Go.Proofs.Ytaapnfoimcccjaa
