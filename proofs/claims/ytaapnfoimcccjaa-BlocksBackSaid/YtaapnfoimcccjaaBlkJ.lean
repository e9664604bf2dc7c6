/-
  Whether the law is awake; BlocksWear: erases differ by one at most.
-/
import Derived.Test.YtaapnfoimcccjaaBlkI
namespace Go.Proofs.Ytaapnfoimcccjaa
open Go.Fk Go.RowKit
attribute [local irreducible] Wp WpL Det thenQ blockQ WpG thenD blockG
def absN (z : Int) : Nat := if z < 0 then (-(z + 1)).toNat else z.toNat
theorem abs_any {z : Int} (hz : -9223372036854775808 ≤ z ∧ z ≤ 9223372036854775807) (w : World) : Calls Try.prog 9 #[.int .i64 z] w fun x w' => x = .returned (.int .i64 (absN z : Nat)) ∧ w = w' := by
  unfold absN
  (refine calls_of (P := Try.prog) _ Try.func9 rfl Try.ntmps9 (Nat.le_of_ble_eq_true rfl) ?_; dsimp only [argE, Nat.reduceAdd])
  by_cases h : z < 0
  · rw [if_pos h]
    (refine Reach.walk ?_; (repeat (first | ((with_reducible refine AllSt.mk ?_); (try clear hS); intro w hS) | ((with_reducible refine AllVw.mk ?_); intro V hV))))
    (with_reducible apply doneQ_one Try.results9); (· exact slotFound)
    exact ⟨by congr 1; exact int_eq (by omega), rfl⟩
  · rw [if_neg h]
    (refine Reach.walk ?_; (repeat (first | ((with_reducible refine AllSt.mk ?_); (try clear hS); intro w hS) | ((with_reducible refine AllVw.mk ?_); intro V hV))))
    (with_reducible apply doneQ_one Try.results9); (· exact slotFound)
    exact ⟨by congr 1; exact int_eq (by omega), rfl⟩
theorem absN_le {z : Int} (hz : -9223372036854775808 ≤ z ∧ z ≤ 9223372036854775807) : absN z ≤ 9223372036854775807 := by
  unfold absN
  split <;> omega
section
variable {w w0 : World} {M : Nat → Prop} {L : List Ch}
theorem awake_any (hS : St w0 M w L) : Calls Try.prog 8 #[] w fun x w' => x = .returned (.bool true) ∧ St w0 M w' L := by
  (refine calls_of (P := Try.prog) _ Try.func8 rfl Try.ntmps8 (Nat.le_of_ble_eq_true rfl) ?_; dsimp only [argE, Nat.reduceAdd])
  (refine Reach.walk ?_; (repeat (first | ((with_reducible refine AllSt.mk ?_); (try clear hS); intro w hS) | ((with_reducible refine AllVw.mk ?_); intro V hV))))
  (with_reducible apply WpL.call); (· exact rfl); (· exact Try.call10); (· exact Vals.found)
  refine (newP hS).mono ?_
  clear hS
  rintro x w (⟨h, _⟩ | ⟨-, g, rfl, hP⟩)
  · exact absurd ⟨by decide, by decide, by decide, by decide⟩ h
  refine ⟨_, rfl, ?_⟩
  have hX : List.replicate (1 : Int).toNat (newBlocks (3 : Int).toNat) = [[⟨1, 0⟩, ⟨1, 0⟩, ⟨1, 0⟩]] := rfl
  rw [hX] at hP
  replace hP : PSt w0 M w g 1 3 [[⟨1, 0⟩, ⟨1, 0⟩, ⟨1, 0⟩]] L := hP
  (refine Reach.walk ?_; (repeat (first | ((with_reducible refine AllSt.mk ?_); (try clear hS); intro w hS) | ((with_reducible refine AllVw.mk ?_); intro V hV))))
  ((with_reducible apply WpL.call); (· exact rfl); (· exact Try.call11); (· exact Vals.found)); (refine (takeP (by decide) (by decide) 0 hP).mono ?_); clear hP; rintro x w ⟨rfl, hP⟩; (refine ⟨_, rfl, ?_⟩)
  have e1 : takeX [[⟨1, 0⟩, ⟨1, 0⟩, ⟨1, 0⟩]] 0 = ((0, 0), [[⟨2, 0⟩, ⟨1, 0⟩, ⟨1, 0⟩]]) := by kernel_rfl
  rw [e1] at hP ⊢
  (refine Reach.walk ?_; (repeat (first | ((with_reducible refine AllSt.mk ?_); (try clear hS); intro w hS) | ((with_reducible refine AllVw.mk ?_); intro V hV))))
  ((with_reducible apply WpL.call); (· exact rfl); (· exact Try.call12); (· exact Vals.found)); (refine (erasedP (by decide) (by decide) 0 0 hP).mono ?_); clear hP; rintro x w ⟨rfl, hP⟩; (refine ⟨_, rfl, ?_⟩)
  have e2 : erasedX [[⟨2, 0⟩, ⟨1, 0⟩, ⟨1, 0⟩]] 0 0 = (0, [[⟨2, 1⟩, ⟨1, 0⟩, ⟨1, 0⟩]]) := by kernel_rfl
  rw [e2] at hP ⊢
  (refine Reach.walk ?_; (repeat (first | ((with_reducible refine AllSt.mk ?_); (try clear hS); intro w hS) | ((with_reducible refine AllVw.mk ?_); intro V hV))))
  ((with_reducible apply WpL.call); (· exact rfl); (· exact Try.call13); (· exact Vals.found)); (refine (freeP (by decide) (by decide) 0 0 hP).mono ?_); clear hP; rintro x w ⟨rfl, hP⟩; (refine ⟨_, rfl, ?_⟩)
  have e3 : turnX [[⟨2, 1⟩, ⟨1, 0⟩, ⟨1, 0⟩]] 0 0 1 [2, 3] = (0, [[⟨1, 1⟩, ⟨1, 0⟩, ⟨1, 0⟩]]) := by kernel_rfl
  rw [e3] at hP ⊢
  (refine Reach.walk ?_; (repeat (first | ((with_reducible refine AllSt.mk ?_); (try clear hS); intro w hS) | ((with_reducible refine AllVw.mk ?_); intro V hV))))
  ((with_reducible apply WpL.call); (· exact rfl); (· exact Try.call11); (· exact Vals.found)); (refine (takeP (by decide) (by decide) 0 hP).mono ?_); clear hP; rintro x w ⟨rfl, hP⟩; (refine ⟨_, rfl, ?_⟩)
  have e4 : takeX [[⟨1, 1⟩, ⟨1, 0⟩, ⟨1, 0⟩]] 0 = ((1, 0), [[⟨1, 1⟩, ⟨2, 0⟩, ⟨1, 0⟩]]) := by kernel_rfl
  rw [e4] at hP ⊢
  (refine Reach.walk ?_; (repeat (first | ((with_reducible refine AllSt.mk ?_); (try clear hS); intro w hS) | ((with_reducible refine AllVw.mk ?_); intro V hV))))
  ((with_reducible apply WpL.call); (· exact rfl); (· exact Try.call19); (· exact Vals.found)); (refine (closeP (by decide) (by decide) 0 2 hP).mono ?_); clear hP; rintro x w ⟨rfl, hP⟩; (refine ⟨_, rfl, ?_⟩)
  have e5 : turnX [[⟨1, 1⟩, ⟨2, 0⟩, ⟨1, 0⟩]] 0 2 3 [2] = (71, [[⟨1, 1⟩, ⟨2, 0⟩, ⟨1, 0⟩]]) := by kernel_rfl
  rw [e5] at hP ⊢
  (refine Reach.walk ?_; (repeat (first | ((with_reducible refine AllSt.mk ?_); (try clear hS); intro w hS) | ((with_reducible refine AllVw.mk ?_); intro V hV))))
  ((with_reducible apply WpL.call); (· exact rfl); (· exact Try.call25); (· exact Vals.found)); (refine (stateP (by decide) (by decide) 0 1 hP).mono ?_); clear hP; rintro x w ⟨rfl, hP⟩; (refine ⟨_, rfl, ?_⟩)
  have e6 : stX [[⟨1, 1⟩, ⟨2, 0⟩, ⟨1, 0⟩]] 0 1 = 2 := by kernel_rfl
  rw [e6]
  (refine Reach.walk ?_; (repeat (first | ((with_reducible refine AllSt.mk ?_); (try clear hS); intro w hS) | ((with_reducible refine AllVw.mk ?_); intro V hV))))
  ((with_reducible apply WpL.call); (· exact rfl); (· exact Try.call14); (· exact Vals.found)); (refine (spreadP (by decide) (by decide) 0 hP).mono ?_); clear hP; rintro x w ⟨rfl, hP⟩; (refine ⟨_, rfl, ?_⟩)
  have e7 : spreadX [[⟨1, 1⟩, ⟨2, 0⟩, ⟨1, 0⟩]] 0 = 1 := by kernel_rfl
  rw [e7]
  (refine Reach.walk ?_; (repeat (first | ((with_reducible refine AllSt.mk ?_); (try clear hS); intro w hS) | ((with_reducible refine AllVw.mk ?_); intro V hV))))
  (with_reducible apply doneQ_one Try.results8); (· exact slotFound)
  exact ⟨rfl, hP.rest⟩
end

/-! ### Wear -/
theorem bestN_min {l : List Bk} : ∀ {k b : Nat}, bestN l k = some b → ∀ i, i < k → stG l i = 1 → erG l b ≤ erG l i
  | 0, b, h, i, hi, _ => absurd hi (Nat.not_lt_zero _)
  | k + 1, b, h, i, hi, h1 => by
    rw [bestN] at h
    split at h
    · rename_i hc
      injection h with h
      subst h
      obtain ⟨_, hc2⟩ := hc
      rcases Nat.lt_or_ge i k with hik | hik
      · cases hb : bestN l k with
        | none =>
          exfalso
          have hnone : ∀ {k : Nat}, bestN l k = none → ∀ i, i < k → stG l i ≠ 1 := fun {k} => by
            induction k with
            | zero => intro _ i hi; exact absurd hi (Nat.not_lt_zero _)
            | succ k ih =>
              intro h i hi hs
              rw [bestN] at h
              split at h
              · cases h
              · rename_i hn
                rcases Nat.lt_or_ge i k with h4 | h4
                · exact ih h i h4 hs
                · obtain rfl : i = k := by omega
                  exact hn ⟨hs, by rw [h]; rfl⟩
          exact hnone hb i hik h1
        | some b' =>
          rw [hb] at hc2
          have h5 := bestN_min hb i hik h1
          have h6 : erG l k < erG l b' := of_decide_eq_true hc2
          omega
      · obtain rfl : i = k := by omega
        exact Nat.le_refl _
    · rename_i hn
      rcases Nat.lt_or_ge i k with hik | hik
      · exact bestN_min h i hik h1
      · obtain rfl : i = k := by omega
        refine Nat.not_lt.1 fun hlt => hn ⟨h1, ?_⟩
        rw [h]
        exact decide_eq_true hlt
theorem bestN_none {l : List Bk} : ∀ {k : Nat}, bestN l k = none → ∀ i, i < k → stG l i ≠ 1
  | 0, _, i, hi => absurd hi (Nat.not_lt_zero _)
  | k + 1, h, i, hi => fun hs => by
    rw [bestN] at h
    split at h
    · cases h
    · rename_i hn
      rcases Nat.lt_or_ge i k with h4 | h4
      · exact bestN_none h i h4 hs
      · obtain rfl : i = k := by omega
        exact hn ⟨hs, by rw [h]; rfl⟩
/-- All free; the erases are m or one more. -/
def Even (m : Nat) (l : List Bk) : Prop := ∀ b ∈ l, b.st = 1 ∧ (b.er = m ∨ b.er = m + 1)
theorem Even.spread {m : Nat} {l : List Bk} (h : Even m l) : spreadL l ≤ 1 := by
  have : ∀ (l : List Bk) (o : Option (Nat × Nat)), Even m l → (∀ p, o = some p → m ≤ p.1 ∧ p.2 ≤ m + 1) → ∀ p, l.foldl sprS o = some p → m ≤ p.1 ∧ p.2 ≤ m + 1 := fun l => by
    induction l with
    | nil => intro o _ h p hp; exact h p hp
    | cons b l ih =>
      intro o he ho p hp
      obtain ⟨h1, h2⟩ := he b List.mem_cons_self
      refine ih (sprS o b) (fun x hx => he x (List.mem_cons_of_mem _ hx)) (fun q hq => ?_) p hp
      unfold sprS at hq
      rw [if_neg (by omega)] at hq
      cases o with
      | none => injection hq with hq; subst hq; dsimp only; omega
      | some r =>
        obtain ⟨lo, hi⟩ := r
        obtain ⟨h3, h4⟩ := ho _ rfl
        injection hq with hq
        subst hq
        dsimp only at *
        omega
  unfold spreadL
  have h2 := this l none h (fun p hp => by cases hp)
  unfold sprN
  generalize l.foldl sprS none = o at *
  cases o with
  | none => decide
  | some p =>
    obtain ⟨lo, hi⟩ := p
    have := h2 _ rfl
    show (hi : Int) - (lo : Int) ≤ 1
    omega
theorem Even.count {m : Nat} {l : List Bk} (h : Even m l) : countL l 1 = l.length := by
  unfold countL
  rw [List.filter_eq_self.2]
  intro b hb
  have := (h b hb).1
  simp [this]
theorem Even.round {m : Nat} {l : List Bk} (h : Even m l) (h0 : 0 < l.length) (hm : m + 2 ≤ 4294967295) :
    ∃ b : Nat, b < l.length ∧ takeL l = (((b : Int), 0), l.set b ⟨2, erG l b⟩) ∧ erasedL (l.set b ⟨2, erG l b⟩) b = (0, l.set b ⟨2, erG l b + 1⟩) ∧ turnL (l.set b ⟨2, erG l b + 1⟩) b 1 [2, 3] = (0, l.set b ⟨1, erG l b + 1⟩) ∧ (Even m (l.set b ⟨1, erG l b + 1⟩) ∨ Even (m + 1) (l.set b ⟨1, erG l b + 1⟩)) := by
  have hst : ∀ i, i < l.length → stG l i = 1 := fun i hi => (h _ (getD_memB hi)).1
  cases hb : bestN l l.length with
  | none => exact absurd (hst 0 h0) (bestN_none hb 0 h0)
  | some b =>
    obtain ⟨hbl, _⟩ := bestN_lt hb
    have hmin := bestN_min hb
    have her := (h _ (getD_memB hbl)).2
    have hg : ∀ x : Bk, (l.set b x).getD b ⟨0, 0⟩ = x := fun x => by rw [List.getD_eq_getElem?_getD, List.getElem?_set_self hbl]; rfl
    refine ⟨b, hbl, by unfold takeL; rw [hb], ?_, ?_, ?_⟩
    · unfold erasedL
      rw [if_pos ⟨by omega, by rw [List.length_set]; omega⟩, Int.toNat_natCast, hg]
      dsimp only
      have : erG l b < 4294967295 := by unfold erG; omega
      rw [if_neg (by decide), if_pos this, List.set_set]
    · unfold turnL
      rw [if_pos ⟨by omega, by rw [List.length_set]; omega⟩, Int.toNat_natCast, hg]
      dsimp only
      rw [if_pos (by decide), List.set_set]
    · have hother : ∀ x ∈ l.set b ⟨1, erG l b + 1⟩, x ∈ l ∨ x = ⟨1, erG l b + 1⟩ := fun x hx => List.mem_or_eq_of_mem_set hx
      rcases her with he | he
      · left
        intro x hx
        rcases hother x hx with hx | rfl
        · exact h x hx
        · exact ⟨rfl, .inr (by show erG l b + 1 = _; unfold erG; omega)⟩
      · right
        intro x hx
        rcases hother x hx with hx | rfl
        · obtain ⟨h1, h2⟩ := h x hx
          obtain ⟨i, hi, hix⟩ := List.getElem_of_mem hx
          have h3 := hmin i hi (hst i hi)
          have h4 : erG l i = x.er := by unfold erG; rw [← getD_getB hi, hix]
          have h5 : erG l b = m + 1 := he
          exact ⟨h1, .inl (by omega)⟩
        · exact ⟨rfl, .inr (by show erG l b + 1 = _; unfold erG; omega)⟩
set_option maxHeartbeats 1000000 in
theorem blocksWear_any {many rounds : Int} (hm : -9223372036854775808 ≤ many ∧ many ≤ 9223372036854775807) (hr : -9223372036854775808 ≤ rounds ∧ rounds ≤ 9223372036854775807) (W : World) :
    Calls Try.prog 3 #[.int .i64 many, .int .i64 rounds] W fun x w' => x = .returned (.bool true) ∧ Below W.heap.size W w' := by
  have ham := absN_le hm
  have har := absN_le hr
  (refine calls_of (P := Try.prog) _ Try.func3 rfl Try.ntmps3 (Nat.le_of_ble_eq_true rfl) ?_; dsimp only [argE, Nat.reduceAdd])
  (refine Reach.walk ?_; (repeat (first | ((with_reducible refine AllSt.mk ?_); (try clear hS); intro w hS) | ((with_reducible refine AllVw.mk ?_); intro V hV))))
  (with_reducible apply WpL.call); (· exact rfl); (· exact Try.call8); (· exact Vals.found)
  refine (awake_any (St.start W)).mono ?_
  rintro x w ⟨rfl, hS⟩
  refine ⟨_, rfl, ?_⟩
  (refine Reach.walk ?_; (repeat (first | ((with_reducible refine AllSt.mk ?_); (try clear hS); intro w hS) | ((with_reducible refine AllVw.mk ?_); intro V hV))))
  (with_reducible apply WpL.call); (· exact rfl); (· exact Try.call9); (· exact Vals.found)
  refine (abs_any hm _).mono ?_
  rintro x w1 ⟨rfl, rfl⟩
  refine ⟨_, rfl, ?_⟩
  have hN : absN many % 20 < 20 := Nat.mod_lt _ (by decide)
  (refine Reach.walk ?_; (repeat (first | ((with_reducible refine AllSt.mk ?_); (try clear hS); intro w hS) | ((with_reducible refine AllVw.mk ?_); intro V hV))))
  generalize hn : 1 + absN many % 20 = n at *
  (with_reducible apply WpL.call); (· exact rfl); (· exact Try.call10); (· exact Vals.found)
  refine (newP hS).mono ?_
  clear hS
  rintro x w (⟨h, _⟩ | ⟨-, g, rfl, hP⟩)
  · exact absurd ⟨by decide, by decide, by omega, by omega⟩ h
  refine ⟨_, rfl, ?_⟩
  rw [Int.toNat_natCast] at hP
  replace hP : PSt W (feet []) w g 1 n [newBlocks n] [] := hP
  have hev : Even 0 (newBlocks n) := fun b hb => by rw [List.eq_of_mem_replicate hb]; exact ⟨rfl, .inl rfl⟩
  have hln : (newBlocks n).length = n := List.length_replicate
  (refine Reach.walk ?_; (repeat (first | ((with_reducible refine AllSt.mk ?_); (try clear hS); intro w hS) | ((with_reducible refine AllVw.mk ?_); intro V hV))))
  have hR : absN rounds % 200 < 200 := Nat.mod_lt _ (by decide)
  apply Wp.loopUp (absN rounds % 200) (fun i e w' => ∃ l m, l.length = n ∧ m ≤ i ∧ Even m l ∧ PSt W (feet []) w' g 1 n [l] [] ∧ e.Has [(8, .int .i64 (i : Nat)), (6, .pointer (some ⟨g, 0, none⟩)), (0, .int .i64 (n : Nat)), (1, .int .i64 rounds)]) (Nat.zero_le _)
    ⟨_, 0, hln, Nat.le_refl _, hev, hP, rfl, rfl, rfl, rfl, trivial⟩
  clear hP hev hln
  rintro i e w hi ⟨l, m, hl, hmi, hev, hP, he⟩
  obtain ⟨e0, rfl⟩ := he.eq
  clear he
  dsimp only [Env.sets]
  (refine Reach.walk ?_; (repeat (first | ((with_reducible refine AllSt.mk ?_); (try clear hS); intro w hS) | ((with_reducible refine AllVw.mk ?_); intro V hV))))
  (with_reducible apply WpL.call); (· exact rfl); (· exact Try.call9); (· exact Vals.found)
  refine (abs_any hr _).mono ?_
  rintro x w1 ⟨rfl, rfl⟩
  refine ⟨_, rfl, ?_⟩
  by_cases hlt : i < absN rounds % 200
  · obtain ⟨b, hb, e1, e2, e3, hev2⟩ := hev.round (by omega) (by omega)
    have hl2 : (l.set b ⟨1, erG l b + 1⟩).length = n := by rw [List.length_set, hl]
    have f1 : takeX [l] 0 = (((b : Int), 0), [l.set b ⟨2, erG l b⟩]) := by
      unfold takeX dieX
      rw [if_pos ⟨by decide, by simp⟩]
      show ((takeL l).1, [(takeL l).2]) = _
      rw [e1]
    have f2 : erasedX [l.set b ⟨2, erG l b⟩] 0 b = (0, [l.set b ⟨2, erG l b + 1⟩]) := by
      unfold erasedX dieX
      rw [if_pos ⟨by decide, by simp⟩]
      show ((erasedL (l.set b ⟨2, erG l b⟩) b).1, [(erasedL (l.set b ⟨2, erG l b⟩) b).2]) = _
      rw [e2]
    have f3 : turnX [l.set b ⟨2, erG l b + 1⟩] 0 b 1 [2, 3] = (0, [l.set b ⟨1, erG l b + 1⟩]) := by
      unfold turnX dieX
      rw [if_pos ⟨by decide, by simp⟩]
      show ((turnL (l.set b ⟨2, erG l b + 1⟩) b 1 [2, 3]).1, [(turnL (l.set b ⟨2, erG l b + 1⟩) b 1 [2, 3]).2]) = _
      rw [e3]
    have f4 : spreadX [l.set b ⟨1, erG l b + 1⟩] 0 = spreadL (l.set b ⟨1, erG l b + 1⟩) := by
      unfold spreadX dieX
      rw [if_pos ⟨by decide, by simp⟩]
      rfl
    have hsp : spreadL (l.set b ⟨1, erG l b + 1⟩) ≤ 1 := hev2.elim Even.spread Even.spread
    (refine Reach.walk ?_; (repeat (first | ((with_reducible refine AllSt.mk ?_); (try clear hS); intro w hS) | ((with_reducible refine AllVw.mk ?_); intro V hV))))
    ((with_reducible apply WpL.call); (· exact rfl); (· exact Try.call11); (· exact Vals.found)); (refine (takeP (by omega) (by decide) 0 hP).mono ?_); clear hP; rintro x w ⟨rfl, hP⟩; (refine ⟨_, rfl, ?_⟩)
    rw [f1] at hP ⊢
    (refine Reach.walk ?_; (repeat (first | ((with_reducible refine AllSt.mk ?_); (try clear hS); intro w hS) | ((with_reducible refine AllVw.mk ?_); intro V hV))))
    ((with_reducible apply WpL.call); (· exact rfl); (· exact Try.call12); (· exact Vals.found)); (refine (erasedP (by omega) (by decide) 0 b hP).mono ?_); clear hP; rintro x w ⟨rfl, hP⟩; (refine ⟨_, rfl, ?_⟩)
    rw [f2] at hP ⊢
    (refine Reach.walk ?_; (repeat (first | ((with_reducible refine AllSt.mk ?_); (try clear hS); intro w hS) | ((with_reducible refine AllVw.mk ?_); intro V hV))))
    ((with_reducible apply WpL.call); (· exact rfl); (· exact Try.call13); (· exact Vals.found)); (refine (freeP (by omega) (by decide) 0 b hP).mono ?_); clear hP; rintro x w ⟨rfl, hP⟩; (refine ⟨_, rfl, ?_⟩)
    rw [f3] at hP ⊢
    (refine Reach.walk ?_; (repeat (first | ((with_reducible refine AllSt.mk ?_); (try clear hS); intro w hS) | ((with_reducible refine AllVw.mk ?_); intro V hV))))
    ((with_reducible apply WpL.call); (· exact rfl); (· exact Try.call14); (· exact Vals.found)); (refine (spreadP (by omega) (by decide) 0 hP).mono ?_); clear hP; rintro x w ⟨rfl, hP⟩; (refine ⟨_, rfl, ?_⟩)
    rw [f4]
    generalize spreadL (l.set b ⟨1, erG l b + 1⟩) = sp at *
    (refine Reach.walk ?_; (repeat (first | ((with_reducible refine AllSt.mk ?_); (try clear hS); intro w hS) | ((with_reducible refine AllVw.mk ?_); intro V hV))))
    rcases hev2 with hev2 | hev2
    · exact ⟨hlt, _, m, hl2, by omega, hev2, hP, int_eq (by omega), rfl, rfl, rfl, trivial⟩
    · exact ⟨hlt, _, m + 1, hl2, by omega, hev2, hP, int_eq (by omega), rfl, rfl, rfl, trivial⟩
  · have f5 : countX [l] 0 1 = n := by
      unfold countX dieX
      rw [if_pos ⟨by decide, by simp⟩]
      show countL l 1 = n
      rw [hev.count, hl]
    (refine Reach.walk ?_; (repeat (first | ((with_reducible refine AllSt.mk ?_); (try clear hS); intro w hS) | ((with_reducible refine AllVw.mk ?_); intro V hV))))
    ((with_reducible apply WpL.call); (· exact rfl); (· exact Try.call15); (· exact Vals.found)); (refine (countP (by omega) (by decide) 0 1 hP).mono ?_); clear hP; rintro x w ⟨rfl, hP⟩; (refine ⟨_, rfl, ?_⟩)
    rw [f5]
    (refine Reach.walk ?_; (repeat (first | ((with_reducible refine AllSt.mk ?_); (try clear hS); intro w hS) | ((with_reducible refine AllVw.mk ?_); intro V hV))))
    (with_reducible apply doneQ_one Try.results3); (· exact slotFound)
    exact ⟨by simp, hP.rest.toBelow⟩
end Go.Proofs.Ytaapnfoimcccjaa
