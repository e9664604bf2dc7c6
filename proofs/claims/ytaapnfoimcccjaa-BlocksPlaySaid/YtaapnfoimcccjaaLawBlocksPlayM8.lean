/-
  Parts of a proof: Whether the law is awake; BlocksWear: erases differ by one at most; What is written of a pool is the pool that is read; calls as rows; states that may be; The document's pool: how it lies in memory; whether there is a block; a pool is made; The document's pool: a block is taken; its state turned; its erases counted; The document's pool: how many blocks are in a state; by how much erases differ; The document's pool: its bytes.
-/
import Derived.Test.YtaapnfoimcccjaaLawBlocksPlayM7
set_option linter.unusedVariables false
namespace Go.Proofs.Ytaapnfoimcccjaa
open Go.Fk Go.RowKit
attribute [local irreducible] Wp WpL Det thenQ blockQ WpG thenD blockG
def absN (z : Int) : Nat := if z < 0 then (-(z + 1)).toNat else z.toNat
theorem abs_any {z : Int} (hz : -9223372036854775808 ≤ z ∧ z ≤ 9223372036854775807) (w : World) : Calls Try.prog 9 #[.int .i64 z] w fun x w' => x = .returned (.int .i64 (absN z : Nat)) ∧ w = w' := by
  unfold absN
  (refine calls_of (P := Try.prog) _ Try.func9 rfl Try.ntmps9 (Nat.le_of_ble_eq_true rfl) ?_; dsimp only [argE, Nat.reduceAdd])
  by_cases h : z < 0
  · rw [if_pos h]
    (refine Reach.walk ?_; (repeat (first | ((with_reducible refine AllSt.mk ?_); (try clear hS); intro w hS) | ((with_reducible refine AllVw.mk ?_); intro V hV))))
    (with_reducible apply doneQ_one Try.results9); (· exact slotFound)
    exact ⟨by congr 1; exact int_eq (by omega), rfl⟩
  · rw [if_neg h]
    (refine Reach.walk ?_; (repeat (first | ((with_reducible refine AllSt.mk ?_); (try clear hS); intro w hS) | ((with_reducible refine AllVw.mk ?_); intro V hV))))
    (with_reducible apply doneQ_one Try.results9); (· exact slotFound)
    exact ⟨by congr 1; exact int_eq (by omega), rfl⟩
theorem absN_le {z : Int} (hz : -9223372036854775808 ≤ z ∧ z ≤ 9223372036854775807) : absN z ≤ 9223372036854775807 := by
  unfold absN
  split <;> omega
section
variable {w w0 : World} {M : Nat → Prop} {L : List Ch}
theorem awake_any (hS : St w0 M w L) : Calls Try.prog 8 #[] w fun x w' => x = .returned (.bool true) ∧ St w0 M w' L := by
  (refine calls_of (P := Try.prog) _ Try.func8 rfl Try.ntmps8 (Nat.le_of_ble_eq_true rfl) ?_; dsimp only [argE, Nat.reduceAdd])
  (refine Reach.walk ?_; (repeat (first | ((with_reducible refine AllSt.mk ?_); (try clear hS); intro w hS) | ((with_reducible refine AllVw.mk ?_); intro V hV))))
  (with_reducible apply WpL.call); (· exact rfl); (· exact Try.call10); (· exact Vals.found)
  refine (newP hS).mono ?_
  clear hS
  rintro x w (⟨h, _⟩ | ⟨-, g, rfl, hP⟩)
  · exact absurd ⟨by decide, by decide, by decide, by decide⟩ h
  refine ⟨_, rfl, ?_⟩
  have hX : List.replicate (1 : Int).toNat (newBlocks (3 : Int).toNat) = [[⟨1, 0⟩, ⟨1, 0⟩, ⟨1, 0⟩]] := rfl
  rw [hX] at hP
  replace hP : PSt w0 M w g 1 3 [[⟨1, 0⟩, ⟨1, 0⟩, ⟨1, 0⟩]] L := hP
  (refine Reach.walk ?_; (repeat (first | ((with_reducible refine AllSt.mk ?_); (try clear hS); intro w hS) | ((with_reducible refine AllVw.mk ?_); intro V hV))))
  ((with_reducible apply WpL.call); (· exact rfl); (· exact Try.call11); (· exact Vals.found)); (refine (takeP (by decide) (by decide) 0 hP).mono ?_); clear hP; rintro x w ⟨rfl, hP⟩; (refine ⟨_, rfl, ?_⟩)
  have e1 : takeX [[⟨1, 0⟩, ⟨1, 0⟩, ⟨1, 0⟩]] 0 = ((0, 0), [[⟨2, 0⟩, ⟨1, 0⟩, ⟨1, 0⟩]]) := by kernel_rfl
  rw [e1] at hP ⊢
  (refine Reach.walk ?_; (repeat (first | ((with_reducible refine AllSt.mk ?_); (try clear hS); intro w hS) | ((with_reducible refine AllVw.mk ?_); intro V hV))))
  ((with_reducible apply WpL.call); (· exact rfl); (· exact Try.call12); (· exact Vals.found)); (refine (erasedP (by decide) (by decide) 0 0 hP).mono ?_); clear hP; rintro x w ⟨rfl, hP⟩; (refine ⟨_, rfl, ?_⟩)
  have e2 : erasedX [[⟨2, 0⟩, ⟨1, 0⟩, ⟨1, 0⟩]] 0 0 = (0, [[⟨2, 1⟩, ⟨1, 0⟩, ⟨1, 0⟩]]) := by kernel_rfl
  rw [e2] at hP ⊢
  (refine Reach.walk ?_; (repeat (first | ((with_reducible refine AllSt.mk ?_); (try clear hS); intro w hS) | ((with_reducible refine AllVw.mk ?_); intro V hV))))
  ((with_reducible apply WpL.call); (· exact rfl); (· exact Try.call13); (· exact Vals.found)); (refine (freeP (by decide) (by decide) 0 0 hP).mono ?_); clear hP; rintro x w ⟨rfl, hP⟩; (refine ⟨_, rfl, ?_⟩)
  have e3 : turnX [[⟨2, 1⟩, ⟨1, 0⟩, ⟨1, 0⟩]] 0 0 1 [2, 3] = (0, [[⟨1, 1⟩, ⟨1, 0⟩, ⟨1, 0⟩]]) := by kernel_rfl
  rw [e3] at hP ⊢
  (refine Reach.walk ?_; (repeat (first | ((with_reducible refine AllSt.mk ?_); (try clear hS); intro w hS) | ((with_reducible refine AllVw.mk ?_); intro V hV))))
  ((with_reducible apply WpL.call); (· exact rfl); (· exact Try.call11); (· exact Vals.found)); (refine (takeP (by decide) (by decide) 0 hP).mono ?_); clear hP; rintro x w ⟨rfl, hP⟩; (refine ⟨_, rfl, ?_⟩)
  have e4 : takeX [[⟨1, 1⟩, ⟨1, 0⟩, ⟨1, 0⟩]] 0 = ((1, 0), [[⟨1, 1⟩, ⟨2, 0⟩, ⟨1, 0⟩]]) := by kernel_rfl
  rw [e4] at hP ⊢
  (refine Reach.walk ?_; (repeat (first | ((with_reducible refine AllSt.mk ?_); (try clear hS); intro w hS) | ((with_reducible refine AllVw.mk ?_); intro V hV))))
  ((with_reducible apply WpL.call); (· exact rfl); (· exact Try.call19); (· exact Vals.found)); (refine (closeP (by decide) (by decide) 0 2 hP).mono ?_); clear hP; rintro x w ⟨rfl, hP⟩; (refine ⟨_, rfl, ?_⟩)
  have e5 : turnX [[⟨1, 1⟩, ⟨2, 0⟩, ⟨1, 0⟩]] 0 2 3 [2] = (71, [[⟨1, 1⟩, ⟨2, 0⟩, ⟨1, 0⟩]]) := by kernel_rfl
  rw [e5] at hP ⊢
  (refine Reach.walk ?_; (repeat (first | ((with_reducible refine AllSt.mk ?_); (try clear hS); intro w hS) | ((with_reducible refine AllVw.mk ?_); intro V hV))))
  ((with_reducible apply WpL.call); (· exact rfl); (· exact Try.call25); (· exact Vals.found)); (refine (stateP (by decide) (by decide) 0 1 hP).mono ?_); clear hP; rintro x w ⟨rfl, hP⟩; (refine ⟨_, rfl, ?_⟩)
  have e6 : stX [[⟨1, 1⟩, ⟨2, 0⟩, ⟨1, 0⟩]] 0 1 = 2 := by kernel_rfl
  rw [e6]
  (refine Reach.walk ?_; (repeat (first | ((with_reducible refine AllSt.mk ?_); (try clear hS); intro w hS) | ((with_reducible refine AllVw.mk ?_); intro V hV))))
  ((with_reducible apply WpL.call); (· exact rfl); (· exact Try.call14); (· exact Vals.found)); (refine (spreadP (by decide) (by decide) 0 hP).mono ?_); clear hP; rintro x w ⟨rfl, hP⟩; (refine ⟨_, rfl, ?_⟩)
  have e7 : spreadX [[⟨1, 1⟩, ⟨2, 0⟩, ⟨1, 0⟩]] 0 = 1 := by kernel_rfl
  rw [e7]
  (refine Reach.walk ?_; (repeat (first | ((with_reducible refine AllSt.mk ?_); (try clear hS); intro w hS) | ((with_reducible refine AllVw.mk ?_); intro V hV))))
  (with_reducible apply doneQ_one Try.results8); (· exact slotFound)
  exact ⟨rfl, hP.rest⟩
end

/-! ### Wear -/
theorem bestN_min {l : List Bk} : ∀ {k b : Nat}, bestN l k = some b → ∀ i, i < k → stG l i = 1 → erG l b ≤ erG l i
  | 0, b, h, i, hi, _ => absurd hi (Nat.not_lt_zero _)
  | k + 1, b, h, i, hi, h1 => by
    rw [bestN] at h
    split at h
    · rename_i hc
      injection h with h
      subst h
      obtain ⟨_, hc2⟩ := hc
      rcases Nat.lt_or_ge i k with hik | hik
      · cases hb : bestN l k with
        | none =>
          exfalso
          have hnone : ∀ {k : Nat}, bestN l k = none → ∀ i, i < k → stG l i ≠ 1 := fun {k} => by
            induction k with
            | zero => intro _ i hi; exact absurd hi (Nat.not_lt_zero _)
            | succ k ih =>
              intro h i hi hs
              rw [bestN] at h
              split at h
              · cases h
              · rename_i hn
                rcases Nat.lt_or_ge i k with h4 | h4
                · exact ih h i h4 hs
                · obtain rfl : i = k := by omega
                  exact hn ⟨hs, by rw [h]; rfl⟩
          exact hnone hb i hik h1
        | some b' =>
          rw [hb] at hc2
          have h5 := bestN_min hb i hik h1
          have h6 : erG l k < erG l b' := of_decide_eq_true hc2
          omega
      · obtain rfl : i = k := by omega
        exact Nat.le_refl _
    · rename_i hn
      rcases Nat.lt_or_ge i k with hik | hik
      · exact bestN_min h i hik h1
      · obtain rfl : i = k := by omega
        refine Nat.not_lt.1 fun hlt => hn ⟨h1, ?_⟩
        rw [h]
        exact decide_eq_true hlt
theorem bestN_none {l : List Bk} : ∀ {k : Nat}, bestN l k = none → ∀ i, i < k → stG l i ≠ 1
  | 0, _, i, hi => absurd hi (Nat.not_lt_zero _)
  | k + 1, h, i, hi => fun hs => by
    rw [bestN] at h
    split at h
    · cases h
    · rename_i hn
      rcases Nat.lt_or_ge i k with h4 | h4
      · exact bestN_none h i h4 hs
      · obtain rfl : i = k := by omega
        exact hn ⟨hs, by rw [h]; rfl⟩
/-- All free; the erases are m or one more. -/
def Even (m : Nat) (l : List Bk) : Prop := ∀ b ∈ l, b.st = 1 ∧ (b.er = m ∨ b.er = m + 1)
theorem Even.spread {m : Nat} {l : List Bk} (h : Even m l) : spreadL l ≤ 1 := by
  have : ∀ (l : List Bk) (o : Option (Nat × Nat)), Even m l → (∀ p, o = some p → m ≤ p.1 ∧ p.2 ≤ m + 1) → ∀ p, l.foldl sprS o = some p → m ≤ p.1 ∧ p.2 ≤ m + 1 := fun l => by
    induction l with
    | nil => intro o _ h p hp; exact h p hp
    | cons b l ih =>
      intro o he ho p hp
      obtain ⟨h1, h2⟩ := he b List.mem_cons_self
      refine ih (sprS o b) (fun x hx => he x (List.mem_cons_of_mem _ hx)) (fun q hq => ?_) p hp
      unfold sprS at hq
      rw [if_neg (by omega)] at hq
      cases o with
      | none => injection hq with hq; subst hq; dsimp only; omega
      | some r =>
        obtain ⟨lo, hi⟩ := r
        obtain ⟨h3, h4⟩ := ho _ rfl
        injection hq with hq
        subst hq
        dsimp only at *
        omega
  unfold spreadL
  have h2 := this l none h (fun p hp => by cases hp)
  unfold sprN
  generalize l.foldl sprS none = o at *
  cases o with
  | none => decide
  | some p =>
    obtain ⟨lo, hi⟩ := p
    have := h2 _ rfl
    show (hi : Int) - (lo : Int) ≤ 1
    omega
theorem Even.count {m : Nat} {l : List Bk} (h : Even m l) : countL l 1 = l.length := by
  unfold countL
  rw [List.filter_eq_self.2]
  intro b hb
  have := (h b hb).1
  simp [this]
theorem Even.round {m : Nat} {l : List Bk} (h : Even m l) (h0 : 0 < l.length) (hm : m + 2 ≤ 4294967295) :
    ∃ b : Nat, b < l.length ∧ takeL l = (((b : Int), 0), l.set b ⟨2, erG l b⟩) ∧ erasedL (l.set b ⟨2, erG l b⟩) b = (0, l.set b ⟨2, erG l b + 1⟩) ∧ turnL (l.set b ⟨2, erG l b + 1⟩) b 1 [2, 3] = (0, l.set b ⟨1, erG l b + 1⟩) ∧ (Even m (l.set b ⟨1, erG l b + 1⟩) ∨ Even (m + 1) (l.set b ⟨1, erG l b + 1⟩)) := by
  have hst : ∀ i, i < l.length → stG l i = 1 := fun i hi => (h _ (getD_memB hi)).1
  cases hb : bestN l l.length with
  | none => exact absurd (hst 0 h0) (bestN_none hb 0 h0)
  | some b =>
    obtain ⟨hbl, _⟩ := bestN_lt hb
    have hmin := bestN_min hb
    have her := (h _ (getD_memB hbl)).2
    have hg : ∀ x : Bk, (l.set b x).getD b ⟨0, 0⟩ = x := fun x => by rw [List.getD_eq_getElem?_getD, List.getElem?_set_self hbl]; rfl
    refine ⟨b, hbl, by unfold takeL; rw [hb], ?_, ?_, ?_⟩
    · unfold erasedL
      rw [if_pos ⟨by omega, by rw [List.length_set]; omega⟩, Int.toNat_natCast, hg]
      dsimp only
      have : erG l b < 4294967295 := by unfold erG; omega
      rw [if_neg (by decide), if_pos this, List.set_set]
    · unfold turnL
      rw [if_pos ⟨by omega, by rw [List.length_set]; omega⟩, Int.toNat_natCast, hg]
      dsimp only
      rw [if_pos (by decide), List.set_set]
    · have hother : ∀ x ∈ l.set b ⟨1, erG l b + 1⟩, x ∈ l ∨ x = ⟨1, erG l b + 1⟩ := fun x hx => List.mem_or_eq_of_mem_set hx
      rcases her with he | he
      · left
        intro x hx
        rcases hother x hx with hx | rfl
        · exact h x hx
        · exact ⟨rfl, .inr (by show erG l b + 1 = _; unfold erG; omega)⟩
      · right
        intro x hx
        rcases hother x hx with hx | rfl
        · obtain ⟨h1, h2⟩ := h x hx
          obtain ⟨i, hi, hix⟩ := List.getElem_of_mem hx
          have h3 := hmin i hi (hst i hi)
          have h4 : erG l i = x.er := by unfold erG; rw [← getD_getB hi, hix]
          have h5 : erG l b = m + 1 := he
          exact ⟨h1, .inl (by omega)⟩
        · exact ⟨rfl, .inr (by show erG l b + 1 = _; unfold erG; omega)⟩
set_option maxHeartbeats 1000000 in
theorem blocksWear_any {many rounds : Int} (hm : -9223372036854775808 ≤ many ∧ many ≤ 9223372036854775807) (hr : -9223372036854775808 ≤ rounds ∧ rounds ≤ 9223372036854775807) (W : World) :
    Calls Try.prog 3 #[.int .i64 many, .int .i64 rounds] W fun x w' => x = .returned (.bool true) ∧ Below W.heap.size W w' := by
  have ham := absN_le hm
  have har := absN_le hr
  (refine calls_of (P := Try.prog) _ Try.func3 rfl Try.ntmps3 (Nat.le_of_ble_eq_true rfl) ?_; dsimp only [argE, Nat.reduceAdd])
  (refine Reach.walk ?_; (repeat (first | ((with_reducible refine AllSt.mk ?_); (try clear hS); intro w hS) | ((with_reducible refine AllVw.mk ?_); intro V hV))))
  (with_reducible apply WpL.call); (· exact rfl); (· exact Try.call8); (· exact Vals.found)
  refine (awake_any (St.start W)).mono ?_
  rintro x w ⟨rfl, hS⟩
  refine ⟨_, rfl, ?_⟩
  (refine Reach.walk ?_; (repeat (first | ((with_reducible refine AllSt.mk ?_); (try clear hS); intro w hS) | ((with_reducible refine AllVw.mk ?_); intro V hV))))
  (with_reducible apply WpL.call); (· exact rfl); (· exact Try.call9); (· exact Vals.found)
  refine (abs_any hm _).mono ?_
  rintro x w1 ⟨rfl, rfl⟩
  refine ⟨_, rfl, ?_⟩
  have hN : absN many % 20 < 20 := Nat.mod_lt _ (by decide)
  (refine Reach.walk ?_; (repeat (first | ((with_reducible refine AllSt.mk ?_); (try clear hS); intro w hS) | ((with_reducible refine AllVw.mk ?_); intro V hV))))
  generalize hn : 1 + absN many % 20 = n at *
  (with_reducible apply WpL.call); (· exact rfl); (· exact Try.call10); (· exact Vals.found)
  refine (newP hS).mono ?_
  clear hS
  rintro x w (⟨h, _⟩ | ⟨-, g, rfl, hP⟩)
  · exact absurd ⟨by decide, by decide, by omega, by omega⟩ h
  refine ⟨_, rfl, ?_⟩
  rw [Int.toNat_natCast] at hP
  replace hP : PSt W (feet []) w g 1 n [newBlocks n] [] := hP
  have hev : Even 0 (newBlocks n) := fun b hb => by rw [List.eq_of_mem_replicate hb]; exact ⟨rfl, .inl rfl⟩
  have hln : (newBlocks n).length = n := List.length_replicate
  (refine Reach.walk ?_; (repeat (first | ((with_reducible refine AllSt.mk ?_); (try clear hS); intro w hS) | ((with_reducible refine AllVw.mk ?_); intro V hV))))
  have hR : absN rounds % 200 < 200 := Nat.mod_lt _ (by decide)
  apply Wp.loopUp (absN rounds % 200) (fun i e w' => ∃ l m, l.length = n ∧ m ≤ i ∧ Even m l ∧ PSt W (feet []) w' g 1 n [l] [] ∧ e.Has [(8, .int .i64 (i : Nat)), (6, .pointer (some ⟨g, 0, none⟩)), (0, .int .i64 (n : Nat)), (1, .int .i64 rounds)]) (Nat.zero_le _)
    ⟨_, 0, hln, Nat.le_refl _, hev, hP, rfl, rfl, rfl, rfl, trivial⟩
  clear hP hev hln
  rintro i e w hi ⟨l, m, hl, hmi, hev, hP, he⟩
  obtain ⟨e0, rfl⟩ := he.eq
  clear he
  dsimp only [Env.sets]
  (refine Reach.walk ?_; (repeat (first | ((with_reducible refine AllSt.mk ?_); (try clear hS); intro w hS) | ((with_reducible refine AllVw.mk ?_); intro V hV))))
  (with_reducible apply WpL.call); (· exact rfl); (· exact Try.call9); (· exact Vals.found)
  refine (abs_any hr _).mono ?_
  rintro x w1 ⟨rfl, rfl⟩
  refine ⟨_, rfl, ?_⟩
  by_cases hlt : i < absN rounds % 200
  · obtain ⟨b, hb, e1, e2, e3, hev2⟩ := hev.round (by omega) (by omega)
    have hl2 : (l.set b ⟨1, erG l b + 1⟩).length = n := by rw [List.length_set, hl]
    have f1 : takeX [l] 0 = (((b : Int), 0), [l.set b ⟨2, erG l b⟩]) := by
      unfold takeX dieX
      rw [if_pos ⟨by decide, by simp⟩]
      show ((takeL l).1, [(takeL l).2]) = _
      rw [e1]
    have f2 : erasedX [l.set b ⟨2, erG l b⟩] 0 b = (0, [l.set b ⟨2, erG l b + 1⟩]) := by
      unfold erasedX dieX
      rw [if_pos ⟨by decide, by simp⟩]
      show ((erasedL (l.set b ⟨2, erG l b⟩) b).1, [(erasedL (l.set b ⟨2, erG l b⟩) b).2]) = _
      rw [e2]
    have f3 : turnX [l.set b ⟨2, erG l b + 1⟩] 0 b 1 [2, 3] = (0, [l.set b ⟨1, erG l b + 1⟩]) := by
      unfold turnX dieX
      rw [if_pos ⟨by decide, by simp⟩]
      show ((turnL (l.set b ⟨2, erG l b + 1⟩) b 1 [2, 3]).1, [(turnL (l.set b ⟨2, erG l b + 1⟩) b 1 [2, 3]).2]) = _
      rw [e3]
    have f4 : spreadX [l.set b ⟨1, erG l b + 1⟩] 0 = spreadL (l.set b ⟨1, erG l b + 1⟩) := by
      unfold spreadX dieX
      rw [if_pos ⟨by decide, by simp⟩]
      rfl
    have hsp : spreadL (l.set b ⟨1, erG l b + 1⟩) ≤ 1 := hev2.elim Even.spread Even.spread
    (refine Reach.walk ?_; (repeat (first | ((with_reducible refine AllSt.mk ?_); (try clear hS); intro w hS) | ((with_reducible refine AllVw.mk ?_); intro V hV))))
    ((with_reducible apply WpL.call); (· exact rfl); (· exact Try.call11); (· exact Vals.found)); (refine (takeP (by omega) (by decide) 0 hP).mono ?_); clear hP; rintro x w ⟨rfl, hP⟩; (refine ⟨_, rfl, ?_⟩)
    rw [f1] at hP ⊢
    (refine Reach.walk ?_; (repeat (first | ((with_reducible refine AllSt.mk ?_); (try clear hS); intro w hS) | ((with_reducible refine AllVw.mk ?_); intro V hV))))
    ((with_reducible apply WpL.call); (· exact rfl); (· exact Try.call12); (· exact Vals.found)); (refine (erasedP (by omega) (by decide) 0 b hP).mono ?_); clear hP; rintro x w ⟨rfl, hP⟩; (refine ⟨_, rfl, ?_⟩)
    rw [f2] at hP ⊢
    (refine Reach.walk ?_; (repeat (first | ((with_reducible refine AllSt.mk ?_); (try clear hS); intro w hS) | ((with_reducible refine AllVw.mk ?_); intro V hV))))
    ((with_reducible apply WpL.call); (· exact rfl); (· exact Try.call13); (· exact Vals.found)); (refine (freeP (by omega) (by decide) 0 b hP).mono ?_); clear hP; rintro x w ⟨rfl, hP⟩; (refine ⟨_, rfl, ?_⟩)
    rw [f3] at hP ⊢
    (refine Reach.walk ?_; (repeat (first | ((with_reducible refine AllSt.mk ?_); (try clear hS); intro w hS) | ((with_reducible refine AllVw.mk ?_); intro V hV))))
    ((with_reducible apply WpL.call); (· exact rfl); (· exact Try.call14); (· exact Vals.found)); (refine (spreadP (by omega) (by decide) 0 hP).mono ?_); clear hP; rintro x w ⟨rfl, hP⟩; (refine ⟨_, rfl, ?_⟩)
    rw [f4]
    generalize spreadL (l.set b ⟨1, erG l b + 1⟩) = sp at *
    (refine Reach.walk ?_; (repeat (first | ((with_reducible refine AllSt.mk ?_); (try clear hS); intro w hS) | ((with_reducible refine AllVw.mk ?_); intro V hV))))
    rcases hev2 with hev2 | hev2
    · exact ⟨hlt, _, m, hl2, by omega, hev2, hP, int_eq (by omega), rfl, rfl, rfl, trivial⟩
    · exact ⟨hlt, _, m + 1, hl2, by omega, hev2, hP, int_eq (by omega), rfl, rfl, rfl, trivial⟩
  · have f5 : countX [l] 0 1 = n := by
      unfold countX dieX
      rw [if_pos ⟨by decide, by simp⟩]
      show countL l 1 = n
      rw [hev.count, hl]
    (refine Reach.walk ?_; (repeat (first | ((with_reducible refine AllSt.mk ?_); (try clear hS); intro w hS) | ((with_reducible refine AllVw.mk ?_); intro V hV))))
    ((with_reducible apply WpL.call); (· exact rfl); (· exact Try.call15); (· exact Vals.found)); (refine (countP (by omega) (by decide) 0 1 hP).mono ?_); clear hP; rintro x w ⟨rfl, hP⟩; (refine ⟨_, rfl, ?_⟩)
    rw [f5]
    (refine Reach.walk ?_; (repeat (first | ((with_reducible refine AllSt.mk ?_); (try clear hS); intro w hS) | ((with_reducible refine AllVw.mk ?_); intro V hV))))
    (with_reducible apply doneQ_one Try.results3); (· exact slotFound)
    exact ⟨by simp, hP.rest.toBelow⟩
end Go.Proofs.Ytaapnfoimcccjaa

namespace Go.Proofs.Ytaapnfoimcccjaa
open Go.Fk Go.RowKit
attribute [local irreducible] Wp WpL Det thenQ blockQ WpG thenD blockG
/-- States that may be. -/
def OkL (l : List Bk) : Prop := ∀ b ∈ l, 1 ≤ b.st ∧ b.st ≤ 4
def OkX (X : List (List Bk)) : Prop := ∀ l ∈ X, OkL l
theorem OkL.set {l : List Bk} (h : OkL l) (i : Nat) {b : Bk} (hb : 1 ≤ b.st ∧ b.st ≤ 4) : OkL (l.set i b) := fun c hc => by
  rcases List.mem_or_eq_of_mem_set hc with hc | rfl
  · exact h c hc
  · exact hb
theorem OkL.at {l : List Bk} (h : OkL l) {i : Nat} (hi : i < l.length) : 1 ≤ (l.getD i ⟨0, 0⟩).st ∧ (l.getD i ⟨0, 0⟩).st ≤ 4 := h _ (getD_memB hi)
theorem OkL.take {l : List Bk} (h : OkL l) : OkL (takeL l).2 := by
  unfold takeL
  split
  · exact h
  · exact h.set _ ⟨by show 1 ≤ 2; decide, by show 2 ≤ 4; decide⟩
theorem OkL.turn {l : List Bk} (h : OkL l) (n : Int) {to : Nat} (ht : 1 ≤ to ∧ to ≤ 4) (fs : List Int) : OkL (turnL l n to fs).2 := by
  unfold turnL
  split
  · split
    · exact h.set _ ht
    · exact h
  · exact h
theorem OkL.erased {l : List Bk} (h : OkL l) (n : Int) : OkL (erasedL l n).2 := by
  unfold erasedL
  split
  · rename_i hin
    split
    · exact h
    · split
      · exact h.set _ (h.at (by omega))
      · exact h
  · exact h
theorem OkX.die {X : List (List Bk)} (h : OkX X) (d : Int) : OkL (dieX X d) := by
  unfold dieX
  rw [List.getD_eq_getElem?_getD]
  cases hx : X[d.toNat]? with
  | none => intro b hb; cases hb
  | some l => exact h l (List.mem_of_getElem? hx)
theorem OkX.set {X : List (List Bk)} (h : OkX X) (i : Nat) {l : List Bk} (hl : OkL l) : OkX (X.set i l) := fun c hc => by
  rcases List.mem_or_eq_of_mem_set hc with hc | rfl
  · exact h c hc
  · exact hl
theorem OkX.take {X : List (List Bk)} (h : OkX X) (d : Int) : OkX (takeX X d).2 := by
  unfold takeX; split
  · exact h.set _ (h.die d).take
  · exact h
theorem OkX.turn {X : List (List Bk)} (h : OkX X) (d n : Int) {to : Nat} (ht : 1 ≤ to ∧ to ≤ 4) (fs : List Int) : OkX (turnX X d n to fs).2 := by
  unfold turnX; split
  · exact h.set _ ((h.die d).turn n ht fs)
  · exact h
theorem OkX.erased {X : List (List Bk)} (h : OkX X) (d n : Int) : OkX (erasedX X d n).2 := by
  unfold erasedX; split
  · exact h.set _ ((h.die d).erased n)
  · exact h
theorem OkX.new (nd nb : Nat) : OkX (List.replicate nd (newBlocks nb)) := fun l hl b hb => by
  rw [List.eq_of_mem_replicate hl] at hb
  rw [List.eq_of_mem_replicate hb]
  exact ⟨by decide, by decide⟩

/-! ### Bytes and back -/
theorem flat_drop : ∀ {F : List Bk} {i : Nat}, i < F.length → ∃ r, (F.flatMap blkB).drop (5 * i) = blkB (F.getD i ⟨0, 0⟩) ++ r
  | b :: F, 0, _ => ⟨F.flatMap blkB, rfl⟩
  | b :: F, i + 1, h => by
    obtain ⟨r, hr⟩ := flat_drop (F := F) (i := i) (by simpa using h)
    refine ⟨r, ?_⟩
    have h5 : (blkB b).length = 5 := blkB_length b
    rw [List.flatMap_cons, show 5 * (i + 1) = (blkB b).length + 5 * i by omega, ← List.drop_drop, List.drop_left, hr]
    rfl
theorem bkAt_flat {F : List Bk} (hf : Fit F) (u v : UInt8) {i : Nat} (h : i < F.length) : bkAt ([u, v] ++ F.flatMap blkB) i = F.getD i ⟨0, 0⟩ := by
  obtain ⟨r, hr⟩ := flat_drop h
  have hb := hf _ (getD_memB h)
  generalize F.getD i ⟨0, 0⟩ = b at *
  have h0 : ([u, v] ++ F.flatMap blkB).drop (2 + 5 * i) = blkB b ++ r := by
    rw [← List.drop_drop]; exact hr
  refine Bk.ext' ?_ ?_
  · show (([u, v] ++ F.flatMap blkB).getD (2 + 5 * i) 0).toNat = b.st
    have h1 : ([u, v] ++ F.flatMap blkB)[2 + 5 * i]? = (blkB b ++ r)[0]? := by rw [← h0, List.getElem?_drop]; rfl
    rw [List.getD_eq_getElem?_getD, h1]
    show (UInt8.ofNat b.st).toNat = b.st
    rw [UInt8.toNat_ofNat']
    exact Nat.mod_eq_of_lt hb.2
  · show Crc.loN ((([u, v] ++ F.flatMap blkB).drop (2 + 5 * i + 1)).take 4) = b.er
    rw [← List.drop_drop, h0]
    show Crc.loN ((Crc.loB b.er 4 ++ r).take 4) = b.er
    rw [List.take_left' (Crc.loB_length _ _), Crc.loN_loB]
    exact Nat.mod_eq_of_lt hb.1
theorem flat_at {nb : Nat} : ∀ {X : List (List Bk)} {d j : Nat}, (∀ l ∈ X, l.length = nb) → d < X.length → j < nb → X.flatten.getD (d * nb + j) ⟨0, 0⟩ = (X.getD d []).getD j ⟨0, 0⟩
  | l :: X, 0, j, h, _, hj => by
    have hl := h l List.mem_cons_self
    rw [Nat.zero_mul, Nat.zero_add, List.flatten_cons, List.getD_eq_getElem?_getD, List.getElem?_append_left (by omega)]
    rfl
  | l :: X, d + 1, j, h, hd, hj => by
    have hl := h l List.mem_cons_self
    rw [List.flatten_cons, List.getD_eq_getElem?_getD, List.getElem?_append_right (by rw [hl, Nat.add_mul]; omega), hl, show (d + 1) * nb + j - nb = d * nb + j by rw [Nat.add_mul]; omega, ← List.getD_eq_getElem?_getD,
      flat_at (fun l hl => h l (List.mem_cons_of_mem _ hl)) (by simpa using hd) hj]
    rfl
theorem flat_len {nb : Nat} {X : List (List Bk)} (h : ∀ l ∈ X, l.length = nb) : X.flatten.length = X.length * nb := by
  induction X with
  | nil => simp
  | cons l X ih => rw [List.flatten_cons, List.length_append, h l List.mem_cons_self, ih fun l hl => h l (List.mem_cons_of_mem _ hl), List.length_cons, Nat.add_mul]; omega
theorem poolB_flat (nb : Nat) (X : List (List Bk)) : poolB nb X = [UInt8.ofNat X.length, UInt8.ofNat nb] ++ X.flatten.flatMap blkB := by
  have : ∀ X : List (List Bk), X.flatMap dieB = X.flatten.flatMap blkB := fun X => by
    induction X with
    | nil => rfl
    | cons l X ih => rw [List.flatMap_cons, ih, List.flatten_cons, List.flatMap_append]; rfl
  rw [poolB, this]
theorem div_bound {i nd nb : Nat} (h : i < nd * nb) : ∃ d j, d < nd ∧ j < nb ∧ i = d * nb + j := by
  have hnb : 0 < nb := Nat.pos_of_ne_zero fun h0 => by subst h0; simp at h
  exact ⟨i / nb, i % nb, Nat.div_lt_of_lt_mul (by rw [Nat.mul_comm]; exact h), Nat.mod_lt _ hnb, by rw [Nat.mul_comm]; exact (Nat.div_add_mod i nb).symm⟩
theorem idx_lt {d j nd nb : Nat} (hd : d < nd) (hj : j < nb) : d * nb + j < nd * nb := by
  have := Nat.mul_le_mul_right nb (show d + 1 ≤ nd by omega)
  rw [Nat.add_mul] at this
  omega
theorem poolB_back {nd nb : Nat} {X : List (List Bk)} (hX : XOk nd nb X) (hok : OkX X) (hnd : 1 ≤ nd ∧ nd ≤ 8) (hnb : 1 ≤ nb ∧ nb ≤ 64) : PoolBytes (poolB nb X) nd nb ∧ poolAt (poolB nb X) nd nb = X := by
  have hl := fun l hl => (hX.rows l hl).1
  have hfit : Fit X.flatten := fun b hb => by
    obtain ⟨l, hl, hb⟩ := List.mem_flatten.1 hb
    exact (hX.rows l hl).2 b hb
  have hfl := flat_len hl
  have hXl := hX.len
  have hat : ∀ d j, d < nd → j < nb → bkAt (poolB nb X) (d * nb + j) = (X.getD d []).getD j ⟨0, 0⟩ := fun d j hd hj => by
    rw [poolB_flat, bkAt_flat hfit _ _ (by rw [hfl, hXl]; exact idx_lt hd hj), flat_at hl (by omega) hj]
  have hdie : ∀ d, d < nd → X.getD d [] ∈ X := fun d hd => by
    rw [List.getD_eq_getElem?_getD, List.getElem?_eq_getElem (by omega)]
    exact List.getElem_mem _
  have hlen : (poolB nb X).length = 2 + 5 * (nd * nb) := by
    rw [poolB_length hl, hXl, ← Nat.mul_assoc]; omega
  refine ⟨⟨by omega, ?_, ?_, hnd, hnb, hlen, fun i hi => ?_⟩, ?_⟩
  · rw [poolB, hXl]; show nd = (UInt8.ofNat nd).toNat; rw [UInt8.toNat_ofNat']; exact (Nat.mod_eq_of_lt (by omega)).symm
  · rw [poolB]; show nb = (UInt8.ofNat nb).toNat; rw [UInt8.toNat_ofNat']; exact (Nat.mod_eq_of_lt (by omega)).symm
  · obtain ⟨d, j, hd, hj, rfl⟩ := div_bound hi
    rw [hat d j hd hj]
    exact (hok _ (hdie d hd)).at (by rw [hl _ (hdie d hd)]; exact hj)
  · refine List.ext_getElem (by simp [poolAt, hXl]) fun d h1 h2 => ?_
    have hd : d < nd := by omega
    simp only [poolAt, List.getElem_map, List.getElem_range]
    have hXd : X[d] = X.getD d [] := by rw [List.getD_eq_getElem?_getD, List.getElem?_eq_getElem h2]; rfl
    rw [hXd]
    refine List.ext_getElem (by rw [hl _ (hdie d hd)]; simp [dieAt]) fun j h3 h4 => ?_
    have hj : j < nb := by simpa [dieAt] using h3
    simp only [dieAt, List.getElem_map, List.getElem_range]
    rw [hat d j hd hj, List.getD_eq_getElem?_getD, List.getElem?_eq_getElem h4]
    rfl

/-! ### Calls as rows -/
abbrev Tr := Int × Int × Int
def tv (ss : List Tr) : List Value := ss.flatMap fun s => [.int .i64 s.1, .int .i64 s.2.1, .int .i64 s.2.2]
def TrIn (s : Tr) : Prop := (-9223372036854775808 ≤ s.1 ∧ s.1 ≤ 9223372036854775807) ∧ (-9223372036854775808 ≤ s.2.1 ∧ s.2.1 ≤ 9223372036854775807) ∧ (-9223372036854775808 ≤ s.2.2 ∧ s.2.2 ≤ 9223372036854775807)
theorem tv_at : ∀ {ss : List Tr} {i : Nat}, i < ss.length → ((tv ss).drop (i * 3)).take 3 = [.int .i64 (ss.getD i (0, 0, 0)).1, .int .i64 (ss.getD i (0, 0, 0)).2.1, .int .i64 (ss.getD i (0, 0, 0)).2.2]
  | [], i, h => absurd h (Nat.not_lt_zero _)
  | s :: r, 0, _ => rfl
  | s :: r, i + 1, h => by
    have ih := tv_at (ss := r) (i := i) (by simpa using h)
    rw [show (i + 1) * 3 = i * 3 + 3 by omega]
    exact ih
theorem tv_get {ss : List Tr} {i k : Nat} (h : i < ss.length) (hk : k < 3) : (tv ss)[0 + i * 3 + k]? = [Value.int .i64 (ss.getD i (0, 0, 0)).1, .int .i64 (ss.getD i (0, 0, 0)).2.1, .int .i64 (ss.getD i (0, 0, 0)).2.2][k]? := by
  rw [← tv_at h, List.getElem?_take, if_pos hk, List.getElem?_drop, Nat.zero_add]
theorem tv_in {ss : List Tr} (h : ∀ s ∈ ss, TrIn s) {i : Nat} (hi : i < ss.length) : TrIn (ss.getD i (0, 0, 0)) := by
  rw [List.getD_eq_getElem?_getD, List.getElem?_eq_getElem hi]
  exact h _ (List.getElem_mem _)

theorem tv_len : ∀ ss : List Tr, (tv ss).length = ss.length * 3
  | [] => rfl
  | s :: r => by
    have ih := tv_len r
    show (Value.int .i64 s.1 :: .int .i64 s.2.1 :: .int .i64 s.2.2 :: tv r).length = _
    simp only [List.length_cons, ih]; omega

/-! ### Two pools -/
def PP (w0 : World) (M : Nat → Prop) (w : World) (gp np bp : Nat) (Xp : List (List Bk)) (gq nq bq : Nat) (Xq : List (List Bk)) (L : List Ch) : Prop := ∃ D cd ps, PoolOk D np cd bp ps ∧ ps.map (·.2) = Xp ∧ PSt w0 M w gq nq bq Xq (poolL gp D np cd bp ps L)
section
variable {w w0 : World} {M : Nat → Prop} {L : List Ch} {gp np bp gq nq bq : Nat} {Xp Xq : List (List Bk)}
theorem PP.swap (h : PP w0 M w gp np bp Xp gq nq bq Xq L) : PP w0 M w gq nq bq Xq gp np bp Xp L := by
  obtain ⟨D, cd, ps, h1, h2, D', cd', ps', h3, h4, h5⟩ := h
  refine ⟨D', cd', ps', h3, h4, D, cd, ps, h1, h2, h5.perm ?_⟩
  show List.Perm ((Ch.blk gq _ _ :: Ch.own D' _ _ _ _ _ :: rowsC bq ps') ++ ((Ch.blk gp _ _ :: Ch.own D _ _ _ _ _ :: rowsC bp ps) ++ L)) ((Ch.blk gp _ _ :: Ch.own D _ _ _ _ _ :: rowsC bp ps) ++ ((Ch.blk gq _ _ :: Ch.own D' _ _ _ _ _ :: rowsC bq ps') ++ L))
  exact List.perm_append_comm_assoc _ _ _
theorem PP.right (h : PP w0 M w gp np bp Xp gq nq bq Xq L) {P : Program} {f : FuncId} {args : Array Value} {R : Ending → Prop}
    (hc : ∀ L', PSt w0 M w gq nq bq Xq L' → Calls P f args w fun x w' => R x ∧ PSt w0 M w' gq nq bq Xq L') : Calls P f args w fun x w' => R x ∧ PP w0 M w' gp np bp Xp gq nq bq Xq L := by
  obtain ⟨D, cd, ps, h1, h2, h3⟩ := h
  exact (hc _ h3).mono fun x w' hx => ⟨hx.1, D, cd, ps, h1, h2, hx.2⟩
theorem PP.left (h : PP w0 M w gp np bp Xp gq nq bq Xq L) {P : Program} {f : FuncId} {args : Array Value} {R : Ending → Prop}
    (hc : ∀ L', PSt w0 M w gp np bp Xp L' → Calls P f args w fun x w' => R x ∧ PSt w0 M w' gp np bp Xp L') : Calls P f args w fun x w' => R x ∧ PP w0 M w' gp np bp Xp gq nq bq Xq L :=
  (h.swap.right hc).mono fun x w' hx => ⟨hx.1, hx.2.swap⟩
end
end Go.Proofs.Ytaapnfoimcccjaa

namespace Go.Proofs.Ytaapnfoimcccjaa
open Go.Fk Go.RowKit
attribute [local irreducible] Wp WpL Det thenQ blockQ WpG thenD blockG
instance rfF0 : FieldT Try.prog 44 0 0 := ⟨by kernel_rfl⟩
instance rfF1 : FieldT Try.prog 44 1 1 := ⟨by kernel_rfl⟩
instance rfF2 : FieldT Try.prog 44 2 2 := ⟨by kernel_rfl⟩
instance rfF3 : FieldT Try.prog 44 3 3 := ⟨by kernel_rfl⟩
instance rfSz : SizeT Try.prog 44 4 := ⟨by kernel_rfl⟩
instance rfPt : PtrT Try.prog 38 := ⟨_, Try.underlying38⟩
instance rfBu : BuildT Try.prog 44 [.int .i64 0, .int .i64 0, .slice none 0 0, .slice none 0 0] [(0, 1), (1, 1), (2, 1), (3, 1)] := ⟨by kernel_rfl⟩
def sv (F : List Bk) : List Value := zv (F.map fun b => (b.st : Int))
def ev (F : List Bk) : List Value := zv (F.map fun b => (b.er : Int))
theorem sv_get {F : List Bk} {i : Nat} (h : i < F.length) : (sv F)[i]? = some (.int .i64 ((F.getD i ⟨0, 0⟩).st : Int)) := by
  simp [sv, zv, List.getElem?_eq_getElem h]
theorem ev_get {F : List Bk} {i : Nat} (h : i < F.length) : (ev F)[i]? = some (.int .i64 ((F.getD i ⟨0, 0⟩).er : Int)) := by
  simp [ev, zv, List.getElem?_eq_getElem h]
theorem sv_set {F : List Bk} (i s e : Nat) : (sv F).set i (.int .i64 (s : Int)) = sv (F.set i ⟨s, e⟩) := by
  simp [sv, zv, List.map_set]
theorem ev_set {F : List Bk} (i s e : Nat) : (ev F).set i (.int .i64 (e : Int)) = ev (F.set i ⟨s, e⟩) := by
  simp [ev, zv, List.map_set]
theorem set_getD {F : List Bk} {i : Nat} : F.set i (F.getD i ⟨0, 0⟩) = F := by
  by_cases h : i < F.length
  · rw [← getD_getB h]; exact List.set_getElem_self h
  · exact List.set_eq_of_length_le (by omega)
theorem ev_keep {F : List Bk} {i s : Nat} : ev (F.set i ⟨s, (F.getD i ⟨0, 0⟩).er⟩) = ev F := by
  have h : ev (F.set i (F.getD i ⟨0, 0⟩)) = ev F := by rw [set_getD]
  rw [← h, ← ev_set, ← ev_set (s := (F.getD i ⟨0, 0⟩).st)]
theorem sv_keep {F : List Bk} {i e : Nat} : sv (F.set i ⟨(F.getD i ⟨0, 0⟩).st, e⟩) = sv F := by
  have h : sv (F.set i (F.getD i ⟨0, 0⟩)) = sv F := by rw [set_getD]
  rw [← h, ← sv_set, ← sv_set (e := (F.getD i ⟨0, 0⟩).er)]
theorem sv_len (F : List Bk) : (sv F).length = F.length := by simp [sv, zv]
theorem ev_len (F : List Bk) : (ev F).length = F.length := by simp [ev, zv]
abbrev refC (r nd nb n : Nat) (S : Option Addr) (cS : Nat) (E : Option Addr) (cE : Nat) (F : List Bk) (L : List Ch) : List Ch :=
  .blk r 44 [.int .i64 (nd : Int), .int .i64 (nb : Int), .slice S n cS, .slice E n cE] :: .own S n cS 3 1 (sv F) :: .own E n cE 3 1 (ev F) :: L
section
variable {r nd nb n cS cE : Nat} {S E : Option Addr} {F : List Bk} {L : List Ch} {i : Nat} {b : Bk}
theorem lookS (hi : i < F.length) (hb : F.getD i ⟨0, 0⟩ = b) : Look (refC r nd nb n S cS E cE F L) ((adr S).add i) (.int .i64 (b.st : Int)) := .there (Look.own (by rw [sv_get hi, hb]))
theorem lookE (hi : i < F.length) (hb : F.getD i ⟨0, 0⟩ = b) : Look (refC r nd nb n S cS E cE F L) ((adr E).add i) (.int .i64 (b.er : Int)) := .there (.there (Look.own (by rw [ev_get hi, hb])))
theorem updS (s : Nat) (hi : i < F.length) (hb : F.getD i ⟨0, 0⟩ = b) : Upd (refC r nd nb n S cS E cE F L) ((adr S).add i) (.int .i64 (s : Int)) (refC r nd nb n S cS E cE (F.set i ⟨s, b.er⟩) L) := by
  subst hb
  unfold refC
  rw [ev_keep]
  exact .there (Upd.own (by rw [sv_len]; exact hi) (sv_set i s _))
theorem updE (e : Nat) (hi : i < F.length) (hb : F.getD i ⟨0, 0⟩ = b) : Upd (refC r nd nb n S cS E cE F L) ((adr E).add i) (.int .i64 (e : Int)) (refC r nd nb n S cS E cE (F.set i ⟨b.st, e⟩) L) := by
  subst hb
  unfold refC
  rw [sv_keep]
  exact .there (.there (Upd.own (by rw [ev_len]; exact hi) (ev_set i _ e)))
end
/-- The document's pool lies at r; X: its dies. -/
def RSt (w0 : World) (M : Nat → Prop) (w : World) (r nd nb : Nat) (X : List (List Bk)) (L : List Ch) : Prop :=
  ∃ S cS E cE, IsVw S (nd * nb) cS S 0 ∧ IsVw E (nd * nb) cE E 0 ∧ XOk nd nb X ∧ St w0 M w (refC r nd nb (nd * nb) S cS E cE X.flatten L)
section
variable {w w0 : World} {M : Nat → Prop} {L : List Ch} {r nd nb n : Nat} {S E : Option Addr} {cS cE : Nat} {F : List Bk}
theorem refIn {d b : Int} (hS : St w0 M w (refC r nd nb n S cS E cE F L)) :
    Calls Try.prog 32 #[.pointer (some ⟨r, 0, none⟩), .int .i64 d, .int .i64 b] w fun x w' => x = .returned (.bool (decide (0 ≤ d ∧ d < nd ∧ 0 ≤ b ∧ b < nb))) ∧ St w0 M w' (refC r nd nb n S cS E cE F L) := by
  (refine calls_of (P := Try.prog) _ Try.func32 rfl Try.ntmps32 (Nat.le_of_ble_eq_true rfl) ?_; dsimp only [argE, Nat.reduceAdd])
  by_cases h1 : 0 ≤ d
  rotate_left
  · rw [decide_eq_false (fun h => h1 h.1)]
    (refine Reach.walk ?_; (repeat (first | ((with_reducible refine AllSt.mk ?_); (try clear hS); intro w hS) | ((with_reducible refine AllVw.mk ?_); intro V hV))))
    (with_reducible apply doneQ_one Try.results32); (· exact slotFound)
    exact ⟨rfl, hS⟩
  by_cases h2 : d < nd
  rotate_left
  · rw [decide_eq_false (fun h => h2 h.2.1)]
    (refine Reach.walk ?_; (repeat (first | ((with_reducible refine AllSt.mk ?_); (try clear hS); intro w hS) | ((with_reducible refine AllVw.mk ?_); intro V hV))))
    (with_reducible apply doneQ_one Try.results32); (· exact slotFound)
    exact ⟨rfl, hS⟩
  by_cases h3 : 0 ≤ b
  rotate_left
  · rw [decide_eq_false (fun h => h3 h.2.2.1)]
    (refine Reach.walk ?_; (repeat (first | ((with_reducible refine AllSt.mk ?_); (try clear hS); intro w hS) | ((with_reducible refine AllVw.mk ?_); intro V hV))))
    (with_reducible apply doneQ_one Try.results32); (· exact slotFound)
    exact ⟨rfl, hS⟩
  by_cases h4 : b < nb
  rotate_left
  · rw [decide_eq_false (fun h => h4 h.2.2.2)]
    (refine Reach.walk ?_; (repeat (first | ((with_reducible refine AllSt.mk ?_); (try clear hS); intro w hS) | ((with_reducible refine AllVw.mk ?_); intro V hV))))
    (with_reducible apply doneQ_one Try.results32); (· exact slotFound)
    exact ⟨by rw [decide_eq_false h4], hS⟩
  rw [decide_eq_true ⟨h1, h2, h3, h4⟩]
  (refine Reach.walk ?_; (repeat (first | ((with_reducible refine AllSt.mk ?_); (try clear hS); intro w hS) | ((with_reducible refine AllVw.mk ?_); intro V hV))))
  (with_reducible apply doneQ_one Try.results32); (· exact slotFound)
  exact ⟨by rw [decide_eq_true h4], hS⟩
set_option maxHeartbeats 1000000 in
theorem refNewP {dies many : Int} (hS : St w0 M w L) : Calls Try.prog 17 #[.int .i64 dies, .int .i64 many] w fun x w' =>
    (¬ (1 ≤ dies ∧ dies ≤ 8 ∧ 1 ≤ many ∧ many ≤ 64) ∧ x = .returned (.tuple #[.pointer none, .int .i64 1]) ∧ St w0 M w' L) ∨
    ((1 ≤ dies ∧ dies ≤ 8 ∧ 1 ≤ many ∧ many ≤ 64) ∧ ∃ r, x = .returned (.tuple #[.pointer (some ⟨r, 0, none⟩), .int .i64 0]) ∧ RSt w0 M w' r dies.toNat many.toNat (List.replicate dies.toNat (newBlocks many.toNat)) L) := by
  (refine calls_of (P := Try.prog) _ Try.func17 rfl Try.ntmps17 (Nat.le_of_ble_eq_true rfl) ?_; dsimp only [argE, Nat.reduceAdd])
  by_cases h1 : 1 ≤ dies
  rotate_left
  · (refine Reach.walk ?_; (repeat (first | ((with_reducible refine AllSt.mk ?_); (try clear hS); intro w hS) | ((with_reducible refine AllVw.mk ?_); intro V hV))))
    (with_reducible apply doneQ_two Try.results17); (· exact slotFound); (· exact slotFound)
    exact .inl ⟨fun h => h1 h.1, rfl, hS⟩
  by_cases h2 : dies ≤ 8
  rotate_left
  · (refine Reach.walk ?_; (repeat (first | ((with_reducible refine AllSt.mk ?_); (try clear hS); intro w hS) | ((with_reducible refine AllVw.mk ?_); intro V hV))))
    (with_reducible apply doneQ_two Try.results17); (· exact slotFound); (· exact slotFound)
    exact .inl ⟨fun h => h2 h.2.1, rfl, hS⟩
  by_cases h3 : 1 ≤ many
  rotate_left
  · (refine Reach.walk ?_; (repeat (first | ((with_reducible refine AllSt.mk ?_); (try clear hS); intro w hS) | ((with_reducible refine AllVw.mk ?_); intro V hV))))
    (with_reducible apply doneQ_two Try.results17); (· exact slotFound); (· exact slotFound)
    exact .inl ⟨fun h => h3 h.2.2.1, rfl, hS⟩
  by_cases h4 : many ≤ 64
  rotate_left
  · (refine Reach.walk ?_; (repeat (first | ((with_reducible refine AllSt.mk ?_); (try clear hS); intro w hS) | ((with_reducible refine AllVw.mk ?_); intro V hV))))
    (with_reducible apply doneQ_two Try.results17); (· exact slotFound); (· exact slotFound)
    exact .inl ⟨fun h => h4 h.2.2.2, rfl, hS⟩
  obtain ⟨nd, rfl⟩ := Int.eq_ofNat_of_zero_le (show 0 ≤ dies by omega)
  obtain ⟨nb, rfl⟩ := Int.eq_ofNat_of_zero_le (show 0 ≤ many by omega)
  rw [Int.toNat_natCast, Int.toNat_natCast]
  have hmul : nd * nb ≤ 8 * 64 := Nat.mul_le_mul (by omega) (by omega)
  (refine Reach.walk ?_; (repeat (first | ((with_reducible refine AllSt.mk ?_); (try clear hS); intro w hS) | ((with_reducible refine AllVw.mk ?_); intro V hV))))
  refine WpL.det rfl (Det.build (cells := [.int .i64 (nd : Int), .int .i64 (nb : Int), .slice none 0 0, .slice none 0 0]) PVals.found rfl) ?_
  (refine Reach.walk ?_; (repeat (first | ((with_reducible refine AllSt.mk ?_); (try clear hS); intro w hS) | ((with_reducible refine AllVw.mk ?_); intro V hV))))
  ((with_reducible apply WpL.bx); (· assumption); (· exact rfl); (· exact Env.found); (· exact rfl); clear hS)
  intro r w hS
  (refine Reach.walk ?_; (repeat (first | ((with_reducible refine AllSt.mk ?_); (try clear hS); intro w hS) | ((with_reducible refine AllVw.mk ?_); intro V hV))))
  replace hS : St w0 M w (.own none 0 0 3 1 (zv (List.replicate 0 1)) :: .own none 0 0 3 1 (zv (List.replicate 0 0)) :: .blk r 44 [.int .i64 (nd : Int), .int .i64 (nb : Int), .slice none 0 0, .slice none 0 0] :: L) := hS.nil_.nil_
  replace hS := hS.take (pre := [.blk r _ _]) Take.found
  simp only [List.cons_append, List.nil_append] at hS
  apply Wp.loopUp (nd * nb) (fun k e w' => ∃ S cS E cE, IsVw S k cS S 0 ∧ IsVw E k cE E 0 ∧
      St w0 M w' (.blk r 44 [.int .i64 (nd : Int), .int .i64 (nb : Int), .slice S k cS, .slice E k cE] :: .own S k cS 3 1 (zv (List.replicate k 1)) :: .own E k cE 3 1 (zv (List.replicate k 0)) :: L) ∧
      e.Has [(7, .int .i64 (k : Nat)), (6, .pointer (some ⟨r, 0, none⟩)), (0, .int .i64 (nd : Nat)), (1, .int .i64 (nb : Nat))]) (Nat.zero_le _)
    ⟨none, 0, none, 0, IsVw.nil, IsVw.nil, hS, rfl, rfl, rfl, rfl, trivial⟩
  clear hS
  rintro k e w hk ⟨S, cS, E, cE, hVS, hVE, hS, he⟩
  obtain ⟨e0, rfl⟩ := he.eq
  clear he
  dsimp only [Env.sets]
  by_cases hlt : k < nd * nb
  · (refine Reach.walk ?_; (repeat (first | ((with_reducible refine AllSt.mk ?_); (try clear hS); intro w hS) | ((with_reducible refine AllVw.mk ?_); intro V hV))))
    ((with_reducible apply WpL.bs); (· assumption); (· exact rfl); (· exact BVals.found); (· exact oneAll_spec rfl); (· exact rfl); (· decide); (· exact listFound); clear hS)
    intro B w hB hS
    (refine Reach.walk ?_; (repeat (first | ((with_reducible refine AllSt.mk ?_); (try clear hS); intro w hS) | ((with_reducible refine AllVw.mk ?_); intro V hV))))
    ((with_reducible apply WpL.app); (· assumption); (· exact rfl); (· exact rfl); (· exact rfl); (· exact Sel.found); (· simp only [Nat.mul_one]; exact RdsV.found); (· exact onesFound); (· exact catFound); (· omega); (· omega); clear hS)
    intro S2 cS2 w hVS2 hS
    (refine Reach.walk ?_; (repeat (first | ((with_reducible refine AllSt.mk ?_); (try clear hS); intro w hS) | ((with_reducible refine AllVw.mk ?_); intro V hV))))
    ((with_reducible apply WpL.bs); (· assumption); (· exact rfl); (· exact BVals.found); (· exact oneAll_spec rfl); (· exact rfl); (· decide); (· exact listFound); clear hS)
    intro B2 w hB2 hS
    (refine Reach.walk ?_; (repeat (first | ((with_reducible refine AllSt.mk ?_); (try clear hS); intro w hS) | ((with_reducible refine AllVw.mk ?_); intro V hV))))
    ((with_reducible apply WpL.app); (· assumption); (· exact rfl); (· exact rfl); (· exact rfl); (· exact Sel.found); (· simp only [Nat.mul_one]; exact RdsV.found); (· exact onesFound); (· exact catFound); (· omega); (· omega); clear hS)
    intro E2 cE2 w hVE2 hS
    (refine Reach.walk ?_; (repeat (first | ((with_reducible refine AllSt.mk ?_); (try clear hS); intro w hS) | ((with_reducible refine AllVw.mk ?_); intro V hV))))
    (replace hS := (hS.take (pre := [.blk r _ _, .own S2 _ _ _ _ _, .own E2 _ _ _ _ _]) Take.found); (try simp only [List.cons_append, List.nil_append] at hS))
    have hS2 := hS.sub (.cons_cons _ (.cons_cons _ (.cons_cons _ ((List.sublist_cons_self _ _).trans (List.sublist_cons_self _ _)))))
    refine ⟨hlt, S2, cS2, E2, cE2, hVS2, hVE2, ?_, int_eq (by omega), rfl, rfl, rfl, trivial⟩
    rw [List.replicate_succ', List.replicate_succ']
    exact hS2
  · obtain rfl : k = nd * nb := by omega
    (refine Reach.walk ?_; (repeat (first | ((with_reducible refine AllSt.mk ?_); (try clear hS); intro w hS) | ((with_reducible refine AllVw.mk ?_); intro V hV))))
    (with_reducible apply doneQ_two Try.results17); (· exact slotFound); (· exact slotFound)
    refine .inr ⟨⟨by omega, by omega, by omega, by omega⟩, r, rfl, S, cS, E, cE, hVS, hVE, ⟨List.length_replicate, fun l hl => ?_⟩, ?_⟩
    · rw [List.eq_of_mem_replicate hl]; exact ⟨List.length_replicate, newBlocks_fit nb⟩
    · rw [newBlocks, List.flatten_replicate_replicate]
      unfold refC sv ev
      rw [List.map_replicate, List.map_replicate]
      exact hS
end
/-! ### Flat and in dies -/
theorem flat_set {nb : Nat} {b : Bk} : ∀ {X : List (List Bk)} {d j : Nat}, (∀ l ∈ X, l.length = nb) → d < X.length → j < nb → X.flatten.set (d * nb + j) b = (X.set d ((X.getD d []).set j b)).flatten
  | l :: X, 0, j, h, _, hj => by
    have hl := h l List.mem_cons_self
    rw [Nat.zero_mul, Nat.zero_add, List.flatten_cons, List.set_append_left _ _ (by omega)]
    rfl
  | l :: X, d + 1, j, h, hd, hj => by
    have hl := h l List.mem_cons_self
    have h1 : (d + 1) * nb + j = l.length + (d * nb + j) := by rw [Nat.add_mul]; omega
    rw [List.flatten_cons, List.set_append_right _ _ (by omega), h1, Nat.add_sub_cancel_left, flat_set (fun l hl => h l (List.mem_cons_of_mem _ hl)) (by simpa using hd) hj]
    rfl
theorem XOk.set {nd nb : Nat} {X : List (List Bk)} (h : XOk nd nb X) (d : Nat) {l : List Bk} (hl : l.length = nb) (hf : Fit l) : XOk nd nb (X.set d l) :=
  ⟨by rw [List.length_set, h.len], fun c hc => by
    rcases List.mem_or_eq_of_mem_set hc with hc | rfl
    · exact h.rows c hc
    · exact ⟨hl, hf⟩⟩
/-- One die of a pool, as the flat lists know it. -/
structure DieAt (nd nb : Nat) (X : List (List Bk)) (k : Nat) (l : List Bk) (F : List Bk) (n : Nat) : Prop where
  len : l.length = nb
  fit : Fit l
  flen : F.length = n
  lt : ∀ i, i < nb → k * nb + i < n
  mul : k * nb ≤ 512
  at_ : ∀ i, i < nb → F.getD (k * nb + i) ⟨0, 0⟩ = l.getD i ⟨0, 0⟩
  set : ∀ i b, i < nb → F.set (k * nb + i) b = (X.set k (l.set i b)).flatten
theorem XOk.at_ {nd nb : Nat} {X : List (List Bk)} (h : XOk nd nb X) (hnd : nd ≤ 8) (hnb : nb ≤ 64) {k : Nat} (hk : k < nd) : DieAt nd nb X k (X.getD k []) X.flatten (nd * nb) := by
  have hl := fun l hl => (h.rows l hl).1
  have hkl : k < X.length := by rw [h.len]; exact hk
  have hm : X.getD k [] ∈ X := by rw [List.getD_eq_getElem?_getD, List.getElem?_eq_getElem hkl]; exact List.getElem_mem _
  exact ⟨(h.rows _ hm).1, (h.rows _ hm).2, by rw [flat_len hl, h.len], fun i hi => idx_lt hk hi, Nat.le_trans (Nat.mul_le_mul (show k ≤ 8 by omega) hnb) (by decide), fun i hi => flat_at hl hkl hi, fun i b hi => flat_set hl hkl hi⟩
end Go.Proofs.Ytaapnfoimcccjaa

namespace Go.Proofs.Ytaapnfoimcccjaa
open Go.Fk Go.RowKit
attribute [local irreducible] Wp WpL Det thenQ blockQ WpG thenD blockG
def bestI : Option Nat → Int
  | none => -1
  | some b => b
theorem turnX_out {X : List (List Bk)} {nd nb : Nat} (hX : XOk nd nb X) {d n : Int} (h : ¬ (0 ≤ d ∧ d < nd ∧ 0 ≤ n ∧ n < nb)) (to : Nat) (fs : List Int) : turnX X d n to fs = (1, X) := by
  unfold turnX
  by_cases hin : inX X d
  · rw [if_pos hin]
    have hin' := hin
    unfold inX at hin'
    have hl : (dieX X d).length = nb := by
      have hk : d.toNat < X.length := by omega
      refine (hX.rows _ ?_).1
      unfold dieX
      rw [List.getD_eq_getElem?_getD, List.getElem?_eq_getElem hk]; exact List.getElem_mem _
    have hout : turnL (dieX X d) n to fs = (1, dieX X d) := by
      unfold turnL
      rw [if_neg (fun h2 => h ⟨hin'.1, by have := hX.len; omega, h2.1, by omega⟩)]
    rw [hout]
    have : X.set d.toNat (dieX X d) = X := by
      unfold dieX
      by_cases hd : d.toNat < X.length
      · rw [List.getD_eq_getElem?_getD, List.getElem?_eq_getElem hd]; exact List.set_getElem_self hd
      · exact List.set_eq_of_length_le (by omega)
    show ((1 : Int), X.set d.toNat (dieX X d)) = _
    rw [this]
  · rw [if_neg hin]
theorem erasedX_out {X : List (List Bk)} {nd nb : Nat} (hX : XOk nd nb X) {d n : Int} (h : ¬ (0 ≤ d ∧ d < nd ∧ 0 ≤ n ∧ n < nb)) : erasedX X d n = (1, X) := by
  unfold erasedX
  by_cases hin : inX X d
  · rw [if_pos hin]
    have hin' := hin
    unfold inX at hin'
    have hl : (dieX X d).length = nb := by
      have hk : d.toNat < X.length := by omega
      refine (hX.rows _ ?_).1
      unfold dieX
      rw [List.getD_eq_getElem?_getD, List.getElem?_eq_getElem hk]; exact List.getElem_mem _
    have hout : erasedL (dieX X d) n = (1, dieX X d) := by
      unfold erasedL
      rw [if_neg (fun h2 => h ⟨hin'.1, by have := hX.len; omega, h2.1, by omega⟩)]
    rw [hout]
    have : X.set d.toNat (dieX X d) = X := by
      unfold dieX
      by_cases hd : d.toNat < X.length
      · rw [List.getD_eq_getElem?_getD, List.getElem?_eq_getElem hd]; exact List.set_getElem_self hd
      · exact List.set_eq_of_length_le (by omega)
    show ((1 : Int), X.set d.toNat (dieX X d)) = _
    rw [this]
  · rw [if_neg hin]
theorem turnX_in {X : List (List Bk)} {nd nb : Nat} (hX : XOk nd nb X) {k j : Nat} (hk : k < nd) (hj : j < nb) (to : Nat) (fs : List Int) : turnX X (k : Int) (j : Int) to fs =
    if (stG (X.getD k []) j : Int) ∈ fs then (0, X.set k ((X.getD k []).set j ⟨to, erG (X.getD k []) j⟩)) else (71, X) := by
  have hkl : k < X.length := by rw [hX.len]; exact hk
  have hm : X.getD k [] ∈ X := by rw [List.getD_eq_getElem?_getD, List.getElem?_eq_getElem hkl]; exact List.getElem_mem _
  have hl := (hX.rows _ hm).1
  have hsame : X.set k (X.getD k []) = X := by rw [List.getD_eq_getElem?_getD, List.getElem?_eq_getElem hkl]; exact List.set_getElem_self hkl
  unfold turnX dieX turnL
  rw [if_pos ⟨by omega, by omega⟩, Int.toNat_natCast, if_pos ⟨by omega, by omega⟩, Int.toNat_natCast]
  by_cases h : (stG (X.getD k []) j : Int) ∈ fs
  · rw [if_pos h, if_pos (show (((X.getD k []).getD j ⟨0, 0⟩).st : Int) ∈ fs from h)]; rfl
  · rw [if_neg h, if_neg (show ¬ (((X.getD k []).getD j ⟨0, 0⟩).st : Int) ∈ fs from h)]
    show ((71 : Int), X.set k (X.getD k [])) = _
    rw [hsame]
theorem erasedX_in {X : List (List Bk)} {nd nb : Nat} (hX : XOk nd nb X) {k j : Nat} (hk : k < nd) (hj : j < nb) : erasedX X (k : Int) (j : Int) =
    if stG (X.getD k []) j = 4 then (71, X) else if erG (X.getD k []) j < 4294967295 then (0, X.set k ((X.getD k []).set j ⟨stG (X.getD k []) j, erG (X.getD k []) j + 1⟩)) else (0, X) := by
  have hkl : k < X.length := by rw [hX.len]; exact hk
  have hm : X.getD k [] ∈ X := by rw [List.getD_eq_getElem?_getD, List.getElem?_eq_getElem hkl]; exact List.getElem_mem _
  have hl := (hX.rows _ hm).1
  have hsame : X.set k (X.getD k []) = X := by rw [List.getD_eq_getElem?_getD, List.getElem?_eq_getElem hkl]; exact List.set_getElem_self hkl
  unfold erasedX dieX erasedL
  rw [if_pos ⟨by omega, by omega⟩, Int.toNat_natCast, if_pos ⟨by omega, by omega⟩, Int.toNat_natCast]
  by_cases h : stG (X.getD k []) j = 4
  · rw [if_pos h, if_pos (show ((X.getD k []).getD j ⟨0, 0⟩).st = 4 from h)]
    show ((71 : Int), X.set k (X.getD k [])) = _
    rw [hsame]
  · rw [if_neg h, if_neg (show ¬ ((X.getD k []).getD j ⟨0, 0⟩).st = 4 from h)]
    by_cases h2 : erG (X.getD k []) j < 4294967295
    · rw [if_pos h2, if_pos (show ((X.getD k []).getD j ⟨0, 0⟩).er < 4294967295 from h2)]; rfl
    · rw [if_neg h2, if_neg (show ¬ ((X.getD k []).getD j ⟨0, 0⟩).er < 4294967295 from h2)]
      show ((0 : Int), X.set k (X.getD k [])) = _
      rw [hsame]
section
variable {w w0 : World} {M : Nat → Prop} {L : List Ch} {r nd nb : Nat} {X : List (List Bk)}
set_option maxHeartbeats 2000000 in
theorem refTakeP (hnb : 1 ≤ nb ∧ nb ≤ 64) (hnd : nd ≤ 8) (d : Int) (h : RSt w0 M w r nd nb X L) :
    Calls Try.prog 18 #[.pointer (some ⟨r, 0, none⟩), .int .i64 d] w fun x w' => x = .returned (.tuple #[.int .i64 (takeX X d).1.1, .int .i64 (takeX X d).1.2]) ∧ RSt w0 M w' r nd nb (takeX X d).2 L := by
  obtain ⟨S, cS, E, cE, hVS, hVE, hX, hS⟩ := h
  (refine calls_of (P := Try.prog) _ Try.func18 rfl Try.ntmps18 (Nat.le_of_ble_eq_true rfl) ?_; dsimp only [argE, Nat.reduceAdd])
  (refine Reach.walk ?_; (repeat (first | ((with_reducible refine AllSt.mk ?_); (try clear hS); intro w hS) | ((with_reducible refine AllVw.mk ?_); intro V hV))))
  (with_reducible apply WpL.call); (· exact rfl); (· exact Try.call32); (· exact Vals.found)
  refine (refIn hS).mono ?_
  clear hS
  rintro x w ⟨rfl, hS⟩
  refine ⟨_, rfl, ?_⟩
  by_cases hd : 0 ≤ d ∧ d < nd
  rotate_left
  · rw [decide_eq_false (fun h => hd ⟨h.1, h.2.1⟩)]
    have ht : takeX X d = ((0, 1), X) := by unfold takeX; rw [if_neg]; unfold inX; rw [hX.len]; exact hd
    rw [ht]
    (refine Reach.walk ?_; (repeat (first | ((with_reducible refine AllSt.mk ?_); (try clear hS); intro w hS) | ((with_reducible refine AllVw.mk ?_); intro V hV))))
    (with_reducible apply doneQ_two Try.results18); (· exact slotFound); (· exact slotFound)
    exact ⟨rfl, S, cS, E, cE, hVS, hVE, hX, hS⟩
  rw [decide_eq_true ⟨hd.1, hd.2, by omega, by omega⟩]
  obtain ⟨k, rfl⟩ := Int.eq_ofNat_of_zero_le hd.1
  have hk : k < nd := by omega
  have hda := hX.at_ hnd hnb.2 hk
  have ht : takeX X (k : Int) = ((takeL (X.getD k [])).1, X.set k (takeL (X.getD k [])).2) := by
    unfold takeX dieX; rw [if_pos]; · rfl
    unfold inX; rw [hX.len]; exact hd
  have hXn := hX.set k (l := (takeL (X.getD k [])).2) (by rw [takeL_len]; exact hda.len) hda.fit.take
  rw [ht]
  clear ht hd
  unfold RSt
  dsimp only
  have hsame : X.set k (X.getD k []) = X := by rw [List.getD_eq_getElem?_getD, List.getElem?_eq_getElem (by rw [hX.len]; exact hk)]; exact List.set_getElem_self _
  generalize X.getD k [] = l at *
  have hll := hda.len
  obtain ⟨_, hfit, hflen, hlt, hmul, hat, hset⟩ := hda
  have hn0 : nd * nb ≤ 512 := Nat.le_trans (Nat.mul_le_mul hnd hnb.2) (by decide)
  generalize hFe : X.flatten = F at *
  generalize nd * nb = n at *
  (refine Reach.walk ?_; (repeat (first | ((with_reducible refine AllSt.mk ?_); (try clear hS); intro w hS) | ((with_reducible refine AllVw.mk ?_); intro V hV))))
  have hnb1 := hnb.1
  have hnb2 := hnb.2
  apply Wp.loopUp nb (fun i e w' => St w0 M w' (refC r nd nb n S cS E cE F L) ∧
      e.Has [(8, .int .i64 (i : Nat)), (7, .int .i64 (bestI (bestN l i))), (0, .pointer (some ⟨r, 0, none⟩)), (1, .int .i64 (k : Nat))]) (Nat.zero_le _)
    ⟨hS, rfl, rfl, rfl, rfl, trivial⟩
  clear hS
  rintro i e w hi ⟨hS, he⟩
  obtain ⟨e0, rfl⟩ := he.eq
  clear he
  dsimp only [Env.sets]
  by_cases hlti : i < nb
  · have hst : bestN l (i + 1) = if stG l i = 1 ∧ lessB l i (bestN l i) = true then some i else bestN l i := rfl
    have hlb := @bestN_lt l i
    have hin := hlt i hlti
    have hlk : Look (refC r nd nb n S cS E cE F L) ((adr S).add (k * nb + i)) (.int .i64 (stG l i : Int)) := lookS (by omega) (hat i hlti)
    have hlk2 : Look (refC r nd nb n S cS E cE F L) ((adr E).add (k * nb + i)) (.int .i64 (erG l i : Int)) := lookE (by omega) (hat i hlti)
    have hlk3 : ∀ b, b < i → k * nb + b < n ∧ Look (refC r nd nb n S cS E cE F L) ((adr E).add (k * nb + b)) (.int .i64 (erG l b : Int)) := fun b hb => ⟨hlt b (by omega), lookE (by have := hlt b (by omega); omega) (hat b (by omega))⟩
    generalize hcN : bestN l (i + 1) = oN at *
    generalize bestN l i = o0 at *
    by_cases h1 : stG l i = 1
    rotate_left
    · rw [if_neg (fun h => h1 h.1)] at hst
      generalize stG l i = st at *
      (refine Reach.walk ?_; (repeat (first | ((with_reducible refine AllSt.mk ?_); (try clear hS); intro w hS) | ((with_reducible refine AllVw.mk ?_); intro V hV))))
      (refine Wp.drawD 36 (by kernel_rfl) (by kernel_rfl) rfl ?_; dsimp only [List.take, List.drop])
      (refine Reach.rwalk ?_; (repeat (first | ((with_reducible refine AllSt.mk ?_); (try clear hS); intro w hS) | ((with_reducible refine AllVw.mk ?_); intro V hV))))
      (refine RgD.fin0 fun w hb => ?_; replace hS := hS.below hb; clear hb)
      (refine Reach.walk ?_; (repeat (first | ((with_reducible refine AllSt.mk ?_); (try clear hS); intro w hS) | ((with_reducible refine AllVw.mk ?_); intro V hV))))
      exact ⟨hlti, hS, int_eq (by omega), by rw [hst]; rfl, rfl, rfl, trivial⟩
    rw [h1] at hlk
    cases o0 with
    | none =>
      rw [if_pos ⟨h1, rfl⟩] at hst
      dsimp only [bestI] at *
      (refine Reach.walk ?_; (repeat (first | ((with_reducible refine AllSt.mk ?_); (try clear hS); intro w hS) | ((with_reducible refine AllVw.mk ?_); intro V hV))))
      (refine Wp.drawD 36 (by kernel_rfl) (by kernel_rfl) rfl ?_; dsimp only [List.take, List.drop])
      (refine Reach.rwalk ?_; (repeat (first | ((with_reducible refine AllSt.mk ?_); (try clear hS); intro w hS) | ((with_reducible refine AllVw.mk ?_); intro V hV))))
      (refine RgD.fin0 fun w hb => ?_; replace hS := hS.below hb; clear hb)
      (refine Reach.walk ?_; (repeat (first | ((with_reducible refine AllSt.mk ?_); (try clear hS); intro w hS) | ((with_reducible refine AllVw.mk ?_); intro V hV))))
      exact ⟨hlti, hS, int_eq (by omega), by rw [hst]; rfl, rfl, rfl, trivial⟩
    | some b =>
      obtain ⟨hbn, hlk4⟩ := hlk3 b (hlb rfl).1
      have hbi := (hlb rfl).1
      clear hlk3
      dsimp only [bestI] at *
      by_cases hless : erG l i < erG l b
      · rw [if_pos ⟨h1, decide_eq_true hless⟩] at hst
        generalize erG l i = ex at *
        generalize erG l b = eb at *
        (refine Reach.walk ?_; (repeat (first | ((with_reducible refine AllSt.mk ?_); (try clear hS); intro w hS) | ((with_reducible refine AllVw.mk ?_); intro V hV))))
        (refine Wp.drawD 36 (by kernel_rfl) (by kernel_rfl) rfl ?_; dsimp only [List.take, List.drop])
        (refine Reach.rwalk ?_; (repeat (first | ((with_reducible refine AllSt.mk ?_); (try clear hS); intro w hS) | ((with_reducible refine AllVw.mk ?_); intro V hV))))
        (refine RgD.fin0 fun w hb => ?_; replace hS := hS.below hb; clear hb)
        (refine Reach.walk ?_; (repeat (first | ((with_reducible refine AllSt.mk ?_); (try clear hS); intro w hS) | ((with_reducible refine AllVw.mk ?_); intro V hV))))
        exact ⟨hlti, hS, int_eq (by omega), by rw [hst]; rfl, rfl, rfl, trivial⟩
      · rw [if_neg (fun h => hless (of_decide_eq_true h.2))] at hst
        generalize erG l i = ex at *
        generalize erG l b = eb at *
        (refine Reach.walk ?_; (repeat (first | ((with_reducible refine AllSt.mk ?_); (try clear hS); intro w hS) | ((with_reducible refine AllVw.mk ?_); intro V hV))))
        (refine Wp.drawD 36 (by kernel_rfl) (by kernel_rfl) rfl ?_; dsimp only [List.take, List.drop])
        (refine Reach.rwalk ?_; (repeat (first | ((with_reducible refine AllSt.mk ?_); (try clear hS); intro w hS) | ((with_reducible refine AllVw.mk ?_); intro V hV))))
        (refine RgD.fin0 fun w hb => ?_; replace hS := hS.below hb; clear hb)
        (refine Reach.walk ?_; (repeat (first | ((with_reducible refine AllSt.mk ?_); (try clear hS); intro w hS) | ((with_reducible refine AllVw.mk ?_); intro V hV))))
        exact ⟨hlti, hS, int_eq (by omega), by rw [hst]; rfl, rfl, rfl, trivial⟩
  · obtain rfl : i = nb := by omega
    unfold takeL at hXn ⊢
    rw [hll] at hXn ⊢
    have hlb := @bestN_lt l i
    generalize bestN l i = o0 at *
    cases o0 with
    | none =>
      dsimp only [bestI] at *
      (refine Reach.walk ?_; (repeat (first | ((with_reducible refine AllSt.mk ?_); (try clear hS); intro w hS) | ((with_reducible refine AllVw.mk ?_); intro V hV))))
      (with_reducible apply doneQ_two Try.results18); (· exact slotFound); (· exact slotFound)
      refine ⟨rfl, S, cS, E, cE, hVS, hVE, hXn, ?_⟩
      rw [hsame, hFe]
      exact hS
    | some b =>
      have hbi := (hlb rfl).1
      have hin := hlt b hbi
      dsimp only [bestI] at *
      have hup : Upd (refC r nd i n S cS E cE F L) ((adr S).add (k * i + b)) (.int .i64 2) (refC r nd i n S cS E cE (F.set (k * i + b) ⟨2, erG l b⟩) L) := updS 2 (by omega) (hat b hbi)
      rw [hset b _ hbi] at hup
      (refine Reach.walk ?_; (repeat (first | ((with_reducible refine AllSt.mk ?_); (try clear hS); intro w hS) | ((with_reducible refine AllVw.mk ?_); intro V hV))))
      (refine Wp.drawD 13 (by kernel_rfl) (by kernel_rfl) rfl ?_; dsimp only [List.take, List.drop])
      (refine Reach.rwalk ?_; (repeat (first | ((with_reducible refine AllSt.mk ?_); (try clear hS); intro w hS) | ((with_reducible refine AllVw.mk ?_); intro V hV))))
      (refine RgD.fin0 fun w hb => ?_; replace hS := hS.below hb; clear hb)
      (refine Reach.walk ?_; (repeat (first | ((with_reducible refine AllSt.mk ?_); (try clear hS); intro w hS) | ((with_reducible refine AllVw.mk ?_); intro V hV))))
      (with_reducible apply doneQ_two Try.results18); (· exact slotFound); (· exact slotFound)
      exact ⟨rfl, S, cS, E, cE, hVS, hVE, hXn, hS⟩
theorem refTurn1 (hnb : 1 ≤ nb ∧ nb ≤ 64) (hnd : nd ≤ 8) (d n : Int) (h : RSt w0 M w r nd nb X L) :
    Calls Try.prog 20 #[.pointer (some ⟨r, 0, none⟩), .int .i64 1, .int .i64 d, .int .i64 n] w fun x w' => x = .returned (.int .i64 (turnX X d n 3 [2]).1) ∧ RSt w0 M w' r nd nb (turnX X d n 3 [2]).2 L := by
  obtain ⟨S, cS, E, cE, hVS, hVE, hX, hS⟩ := h
  (refine calls_of (P := Try.prog) _ Try.func20 rfl Try.ntmps20 (Nat.le_of_ble_eq_true rfl) ?_; dsimp only [argE, Nat.reduceAdd])
  (refine Reach.walk ?_; (repeat (first | ((with_reducible refine AllSt.mk ?_); (try clear hS); intro w hS) | ((with_reducible refine AllVw.mk ?_); intro V hV))))
  (with_reducible apply WpL.call); (· exact rfl); (· exact Try.call32); (· exact Vals.found)
  refine (refIn hS).mono ?_
  clear hS
  rintro x w ⟨rfl, hS⟩
  refine ⟨_, rfl, ?_⟩
  by_cases hd : 0 ≤ d ∧ d < nd ∧ 0 ≤ n ∧ n < nb
  rotate_left
  · rw [decide_eq_false hd, turnX_out hX hd]
    (refine Reach.walk ?_; (repeat (first | ((with_reducible refine AllSt.mk ?_); (try clear hS); intro w hS) | ((with_reducible refine AllVw.mk ?_); intro V hV))))
    (with_reducible apply doneQ_one Try.results20); (· exact slotFound)
    exact ⟨rfl, S, cS, E, cE, hVS, hVE, hX, hS⟩
  rw [decide_eq_true hd]
  obtain ⟨k, rfl⟩ := Int.eq_ofNat_of_zero_le hd.1
  obtain ⟨j, rfl⟩ := Int.eq_ofNat_of_zero_le hd.2.2.1
  have hk : k < nd := by omega
  have hj : j < nb := by omega
  rw [turnX_in hX hk hj]
  clear hd
  have hda := hX.at_ hnd hnb.2 hk
  have hXn := hX.set k (l := (X.getD k []).set j ⟨3, erG (X.getD k []) j⟩) (by rw [List.length_set]; exact hda.len) (hda.fit.set _ ⟨(hda.fit _ (getD_memB (by rw [hda.len]; exact hj))).1, (by decide : 3 < 256)⟩)
  unfold RSt
  generalize X.getD k [] = l at *
  have hll := hda.len
  obtain ⟨_, hfit, hflen, hlt, hmul, hat, hset⟩ := hda
  have hn0 : nd * nb ≤ 512 := Nat.le_trans (Nat.mul_le_mul hnd hnb.2) (by decide)
  generalize hFe : X.flatten = F at *
  generalize nd * nb = n at *
  have hin := hlt j hj
  have hlk : Look (refC r nd nb n S cS E cE F L) ((adr S).add (k * nb + j)) (.int .i64 (stG l j : Int)) := lookS (by omega) (hat j hj)
  have hup : Upd (refC r nd nb n S cS E cE F L) ((adr S).add (k * nb + j)) (.int .i64 3) (refC r nd nb n S cS E cE (F.set (k * nb + j) ⟨3, erG l j⟩) L) := updS 3 (by omega) (hat j hj)
  rw [hset j _ hj] at hup
  generalize stG l j = st at *
  by_cases h2 : st = 2
  · subst h2
    rw [if_pos (by decide)]
    (refine Reach.walk ?_; (repeat (first | ((with_reducible refine AllSt.mk ?_); (try clear hS); intro w hS) | ((with_reducible refine AllVw.mk ?_); intro V hV))))
    (with_reducible apply doneQ_one Try.results20); (· exact slotFound)
    exact ⟨rfl, S, cS, E, cE, hVS, hVE, hXn, hS⟩
  rw [if_neg (fun h => by simp only [List.mem_cons, List.not_mem_nil, or_false] at h; omega)]
  (refine Reach.walk ?_; (repeat (first | ((with_reducible refine AllSt.mk ?_); (try clear hS); intro w hS) | ((with_reducible refine AllVw.mk ?_); intro V hV))))
  (with_reducible apply doneQ_one Try.results20); (· exact slotFound)
  exact ⟨rfl, S, cS, E, cE, hVS, hVE, hX, by rw [hFe]; exact hS⟩
theorem refTurn2 (hnb : 1 ≤ nb ∧ nb ≤ 64) (hnd : nd ≤ 8) (d n : Int) (h : RSt w0 M w r nd nb X L) :
    Calls Try.prog 20 #[.pointer (some ⟨r, 0, none⟩), .int .i64 2, .int .i64 d, .int .i64 n] w fun x w' => x = .returned (.int .i64 (turnX X d n 1 [2, 3]).1) ∧ RSt w0 M w' r nd nb (turnX X d n 1 [2, 3]).2 L := by
  obtain ⟨S, cS, E, cE, hVS, hVE, hX, hS⟩ := h
  (refine calls_of (P := Try.prog) _ Try.func20 rfl Try.ntmps20 (Nat.le_of_ble_eq_true rfl) ?_; dsimp only [argE, Nat.reduceAdd])
  (refine Reach.walk ?_; (repeat (first | ((with_reducible refine AllSt.mk ?_); (try clear hS); intro w hS) | ((with_reducible refine AllVw.mk ?_); intro V hV))))
  (with_reducible apply WpL.call); (· exact rfl); (· exact Try.call32); (· exact Vals.found)
  refine (refIn hS).mono ?_
  clear hS
  rintro x w ⟨rfl, hS⟩
  refine ⟨_, rfl, ?_⟩
  by_cases hd : 0 ≤ d ∧ d < nd ∧ 0 ≤ n ∧ n < nb
  rotate_left
  · rw [decide_eq_false hd, turnX_out hX hd]
    (refine Reach.walk ?_; (repeat (first | ((with_reducible refine AllSt.mk ?_); (try clear hS); intro w hS) | ((with_reducible refine AllVw.mk ?_); intro V hV))))
    (with_reducible apply doneQ_one Try.results20); (· exact slotFound)
    exact ⟨rfl, S, cS, E, cE, hVS, hVE, hX, hS⟩
  rw [decide_eq_true hd]
  obtain ⟨k, rfl⟩ := Int.eq_ofNat_of_zero_le hd.1
  obtain ⟨j, rfl⟩ := Int.eq_ofNat_of_zero_le hd.2.2.1
  have hk : k < nd := by omega
  have hj : j < nb := by omega
  rw [turnX_in hX hk hj]
  clear hd
  have hda := hX.at_ hnd hnb.2 hk
  have hXn := hX.set k (l := (X.getD k []).set j ⟨1, erG (X.getD k []) j⟩) (by rw [List.length_set]; exact hda.len) (hda.fit.set _ ⟨(hda.fit _ (getD_memB (by rw [hda.len]; exact hj))).1, (by decide : 1 < 256)⟩)
  unfold RSt
  generalize X.getD k [] = l at *
  have hll := hda.len
  obtain ⟨_, hfit, hflen, hlt, hmul, hat, hset⟩ := hda
  have hn0 : nd * nb ≤ 512 := Nat.le_trans (Nat.mul_le_mul hnd hnb.2) (by decide)
  generalize hFe : X.flatten = F at *
  generalize nd * nb = n at *
  have hin := hlt j hj
  have hlk : Look (refC r nd nb n S cS E cE F L) ((adr S).add (k * nb + j)) (.int .i64 (stG l j : Int)) := lookS (by omega) (hat j hj)
  have hup : Upd (refC r nd nb n S cS E cE F L) ((adr S).add (k * nb + j)) (.int .i64 1) (refC r nd nb n S cS E cE (F.set (k * nb + j) ⟨1, erG l j⟩) L) := updS 1 (by omega) (hat j hj)
  rw [hset j _ hj] at hup
  generalize stG l j = st at *
  by_cases h2 : st = 2
  · subst h2
    rw [if_pos (by decide)]
    (refine Reach.walk ?_; (repeat (first | ((with_reducible refine AllSt.mk ?_); (try clear hS); intro w hS) | ((with_reducible refine AllVw.mk ?_); intro V hV))))
    (with_reducible apply doneQ_one Try.results20); (· exact slotFound)
    exact ⟨rfl, S, cS, E, cE, hVS, hVE, hXn, hS⟩
  by_cases h3 : st = 3
  · subst h3
    rw [if_pos (by decide)]
    (refine Reach.walk ?_; (repeat (first | ((with_reducible refine AllSt.mk ?_); (try clear hS); intro w hS) | ((with_reducible refine AllVw.mk ?_); intro V hV))))
    (with_reducible apply doneQ_one Try.results20); (· exact slotFound)
    exact ⟨rfl, S, cS, E, cE, hVS, hVE, hXn, hS⟩
  rw [if_neg (fun h => by simp only [List.mem_cons, List.not_mem_nil, or_false] at h; omega)]
  (refine Reach.walk ?_; (repeat (first | ((with_reducible refine AllSt.mk ?_); (try clear hS); intro w hS) | ((with_reducible refine AllVw.mk ?_); intro V hV))))
  (with_reducible apply doneQ_one Try.results20); (· exact slotFound)
  exact ⟨rfl, S, cS, E, cE, hVS, hVE, hX, by rw [hFe]; exact hS⟩
theorem refTurn5 (hnb : 1 ≤ nb ∧ nb ≤ 64) (hnd : nd ≤ 8) (d n : Int) (h : RSt w0 M w r nd nb X L) :
    Calls Try.prog 20 #[.pointer (some ⟨r, 0, none⟩), .int .i64 5, .int .i64 d, .int .i64 n] w fun x w' => x = .returned (.int .i64 (turnX X d n 2 [1]).1) ∧ RSt w0 M w' r nd nb (turnX X d n 2 [1]).2 L := by
  obtain ⟨S, cS, E, cE, hVS, hVE, hX, hS⟩ := h
  (refine calls_of (P := Try.prog) _ Try.func20 rfl Try.ntmps20 (Nat.le_of_ble_eq_true rfl) ?_; dsimp only [argE, Nat.reduceAdd])
  (refine Reach.walk ?_; (repeat (first | ((with_reducible refine AllSt.mk ?_); (try clear hS); intro w hS) | ((with_reducible refine AllVw.mk ?_); intro V hV))))
  (with_reducible apply WpL.call); (· exact rfl); (· exact Try.call32); (· exact Vals.found)
  refine (refIn hS).mono ?_
  clear hS
  rintro x w ⟨rfl, hS⟩
  refine ⟨_, rfl, ?_⟩
  by_cases hd : 0 ≤ d ∧ d < nd ∧ 0 ≤ n ∧ n < nb
  rotate_left
  · rw [decide_eq_false hd, turnX_out hX hd]
    (refine Reach.walk ?_; (repeat (first | ((with_reducible refine AllSt.mk ?_); (try clear hS); intro w hS) | ((with_reducible refine AllVw.mk ?_); intro V hV))))
    (with_reducible apply doneQ_one Try.results20); (· exact slotFound)
    exact ⟨rfl, S, cS, E, cE, hVS, hVE, hX, hS⟩
  rw [decide_eq_true hd]
  obtain ⟨k, rfl⟩ := Int.eq_ofNat_of_zero_le hd.1
  obtain ⟨j, rfl⟩ := Int.eq_ofNat_of_zero_le hd.2.2.1
  have hk : k < nd := by omega
  have hj : j < nb := by omega
  rw [turnX_in hX hk hj]
  clear hd
  have hda := hX.at_ hnd hnb.2 hk
  have hXn := hX.set k (l := (X.getD k []).set j ⟨2, erG (X.getD k []) j⟩) (by rw [List.length_set]; exact hda.len) (hda.fit.set _ ⟨(hda.fit _ (getD_memB (by rw [hda.len]; exact hj))).1, (by decide : 2 < 256)⟩)
  unfold RSt
  generalize X.getD k [] = l at *
  have hll := hda.len
  obtain ⟨_, hfit, hflen, hlt, hmul, hat, hset⟩ := hda
  have hn0 : nd * nb ≤ 512 := Nat.le_trans (Nat.mul_le_mul hnd hnb.2) (by decide)
  generalize hFe : X.flatten = F at *
  generalize nd * nb = n at *
  have hin := hlt j hj
  have hlk : Look (refC r nd nb n S cS E cE F L) ((adr S).add (k * nb + j)) (.int .i64 (stG l j : Int)) := lookS (by omega) (hat j hj)
  have hup : Upd (refC r nd nb n S cS E cE F L) ((adr S).add (k * nb + j)) (.int .i64 2) (refC r nd nb n S cS E cE (F.set (k * nb + j) ⟨2, erG l j⟩) L) := updS 2 (by omega) (hat j hj)
  rw [hset j _ hj] at hup
  generalize stG l j = st at *
  by_cases h1 : st = 1
  · subst h1
    rw [if_pos (by decide)]
    (refine Reach.walk ?_; (repeat (first | ((with_reducible refine AllSt.mk ?_); (try clear hS); intro w hS) | ((with_reducible refine AllVw.mk ?_); intro V hV))))
    (with_reducible apply doneQ_one Try.results20); (· exact slotFound)
    exact ⟨rfl, S, cS, E, cE, hVS, hVE, hXn, hS⟩
  rw [if_neg (fun h => by simp only [List.mem_cons, List.not_mem_nil, or_false] at h; omega)]
  (refine Reach.walk ?_; (repeat (first | ((with_reducible refine AllSt.mk ?_); (try clear hS); intro w hS) | ((with_reducible refine AllVw.mk ?_); intro V hV))))
  (with_reducible apply doneQ_one Try.results20); (· exact slotFound)
  exact ⟨rfl, S, cS, E, cE, hVS, hVE, hX, by rw [hFe]; exact hS⟩
theorem refTurn3 (hnb : 1 ≤ nb ∧ nb ≤ 64) (hnd : nd ≤ 8) (hok : OkX X) (d n : Int) (h : RSt w0 M w r nd nb X L) :
    Calls Try.prog 20 #[.pointer (some ⟨r, 0, none⟩), .int .i64 3, .int .i64 d, .int .i64 n] w fun x w' => x = .returned (.int .i64 (turnX X d n 4 [1, 2, 3, 4]).1) ∧ RSt w0 M w' r nd nb (turnX X d n 4 [1, 2, 3, 4]).2 L := by
  obtain ⟨S, cS, E, cE, hVS, hVE, hX, hS⟩ := h
  (refine calls_of (P := Try.prog) _ Try.func20 rfl Try.ntmps20 (Nat.le_of_ble_eq_true rfl) ?_; dsimp only [argE, Nat.reduceAdd])
  (refine Reach.walk ?_; (repeat (first | ((with_reducible refine AllSt.mk ?_); (try clear hS); intro w hS) | ((with_reducible refine AllVw.mk ?_); intro V hV))))
  (with_reducible apply WpL.call); (· exact rfl); (· exact Try.call32); (· exact Vals.found)
  refine (refIn hS).mono ?_
  clear hS
  rintro x w ⟨rfl, hS⟩
  refine ⟨_, rfl, ?_⟩
  by_cases hd : 0 ≤ d ∧ d < nd ∧ 0 ≤ n ∧ n < nb
  rotate_left
  · rw [decide_eq_false hd, turnX_out hX hd]
    (refine Reach.walk ?_; (repeat (first | ((with_reducible refine AllSt.mk ?_); (try clear hS); intro w hS) | ((with_reducible refine AllVw.mk ?_); intro V hV))))
    (with_reducible apply doneQ_one Try.results20); (· exact slotFound)
    exact ⟨rfl, S, cS, E, cE, hVS, hVE, hX, hS⟩
  rw [decide_eq_true hd]
  obtain ⟨k, rfl⟩ := Int.eq_ofNat_of_zero_le hd.1
  obtain ⟨j, rfl⟩ := Int.eq_ofNat_of_zero_le hd.2.2.1
  have hk : k < nd := by omega
  have hj : j < nb := by omega
  rw [turnX_in hX hk hj]
  clear hd
  have hda := hX.at_ hnd hnb.2 hk
  have hst4 : 1 ≤ stG (X.getD k []) j ∧ stG (X.getD k []) j ≤ 4 := by
    refine (hok _ ?_).at (by rw [hda.len]; exact hj)
    rw [List.getD_eq_getElem?_getD, List.getElem?_eq_getElem (by rw [hX.len]; exact hk)]; exact List.getElem_mem _
  have hmem : (stG (X.getD k []) j : Int) ∈ ([1, 2, 3, 4] : List Int) := by
    simp only [List.mem_cons, List.not_mem_nil, or_false]; omega
  have hXn := hX.set k (l := (X.getD k []).set j ⟨4, erG (X.getD k []) j⟩) (by rw [List.length_set]; exact hda.len) (hda.fit.set _ ⟨(hda.fit _ (getD_memB (by rw [hda.len]; exact hj))).1, (by decide : 4 < 256)⟩)
  rw [if_pos hmem]
  unfold RSt
  generalize X.getD k [] = l at *
  have hll := hda.len
  obtain ⟨_, hfit, hflen, hlt, hmul, hat, hset⟩ := hda
  have hn0 : nd * nb ≤ 512 := Nat.le_trans (Nat.mul_le_mul hnd hnb.2) (by decide)
  generalize hFe : X.flatten = F at *
  generalize nd * nb = n at *
  have hin := hlt j hj
  have hlk : Look (refC r nd nb n S cS E cE F L) ((adr S).add (k * nb + j)) (.int .i64 (stG l j : Int)) := lookS (by omega) (hat j hj)
  have hup : Upd (refC r nd nb n S cS E cE F L) ((adr S).add (k * nb + j)) (.int .i64 4) (refC r nd nb n S cS E cE (F.set (k * nb + j) ⟨4, erG l j⟩) L) := updS 4 (by omega) (hat j hj)
  rw [hset j _ hj] at hup
  generalize stG l j = st at *
  (refine Reach.walk ?_; (repeat (first | ((with_reducible refine AllSt.mk ?_); (try clear hS); intro w hS) | ((with_reducible refine AllVw.mk ?_); intro V hV))))
  (with_reducible apply doneQ_one Try.results20); (· exact slotFound)
  exact ⟨rfl, S, cS, E, cE, hVS, hVE, hXn, hS⟩
theorem refErased (hnb : 1 ≤ nb ∧ nb ≤ 64) (hnd : nd ≤ 8) (d n : Int) (h : RSt w0 M w r nd nb X L) :
    Calls Try.prog 20 #[.pointer (some ⟨r, 0, none⟩), .int .i64 4, .int .i64 d, .int .i64 n] w fun x w' => x = .returned (.int .i64 (erasedX X d n).1) ∧ RSt w0 M w' r nd nb (erasedX X d n).2 L := by
  obtain ⟨S, cS, E, cE, hVS, hVE, hX, hS⟩ := h
  (refine calls_of (P := Try.prog) _ Try.func20 rfl Try.ntmps20 (Nat.le_of_ble_eq_true rfl) ?_; dsimp only [argE, Nat.reduceAdd])
  (refine Reach.walk ?_; (repeat (first | ((with_reducible refine AllSt.mk ?_); (try clear hS); intro w hS) | ((with_reducible refine AllVw.mk ?_); intro V hV))))
  (with_reducible apply WpL.call); (· exact rfl); (· exact Try.call32); (· exact Vals.found)
  refine (refIn hS).mono ?_
  clear hS
  rintro x w ⟨rfl, hS⟩
  refine ⟨_, rfl, ?_⟩
  by_cases hd : 0 ≤ d ∧ d < nd ∧ 0 ≤ n ∧ n < nb
  rotate_left
  · rw [decide_eq_false hd, erasedX_out hX hd]
    (refine Reach.walk ?_; (repeat (first | ((with_reducible refine AllSt.mk ?_); (try clear hS); intro w hS) | ((with_reducible refine AllVw.mk ?_); intro V hV))))
    (with_reducible apply doneQ_one Try.results20); (· exact slotFound)
    exact ⟨rfl, S, cS, E, cE, hVS, hVE, hX, hS⟩
  rw [decide_eq_true hd]
  obtain ⟨k, rfl⟩ := Int.eq_ofNat_of_zero_le hd.1
  obtain ⟨j, rfl⟩ := Int.eq_ofNat_of_zero_le hd.2.2.1
  have hk : k < nd := by omega
  have hj : j < nb := by omega
  rw [erasedX_in hX hk hj]
  clear hd
  have hda := hX.at_ hnd hnb.2 hk
  have hfj := hda.fit _ (getD_memB (i := j) (by rw [hda.len]; exact hj))
  have hXn : erG (X.getD k []) j < 4294967295 → XOk nd nb (X.set k ((X.getD k []).set j ⟨stG (X.getD k []) j, erG (X.getD k []) j + 1⟩)) := fun h => hX.set k (by rw [List.length_set]; exact hda.len) (hda.fit.set _ ⟨by show _ + 1 < _; omega, hfj.2⟩)
  unfold RSt
  generalize X.getD k [] = l at *
  have hll := hda.len
  obtain ⟨_, hfit, hflen, hlt, hmul, hat, hset⟩ := hda
  have hn0 : nd * nb ≤ 512 := Nat.le_trans (Nat.mul_le_mul hnd hnb.2) (by decide)
  generalize hFe : X.flatten = F at *
  generalize nd * nb = n at *
  have hin := hlt j hj
  have hlk : Look (refC r nd nb n S cS E cE F L) ((adr S).add (k * nb + j)) (.int .i64 (stG l j : Int)) := lookS (by omega) (hat j hj)
  have hlk2 : Look (refC r nd nb n S cS E cE F L) ((adr E).add (k * nb + j)) (.int .i64 (erG l j : Int)) := lookE (by omega) (hat j hj)
  have hup : Upd (refC r nd nb n S cS E cE F L) ((adr E).add (k * nb + j)) (.int .i64 ((erG l j + 1 : Nat) : Int)) (refC r nd nb n S cS E cE (F.set (k * nb + j) ⟨stG l j, erG l j + 1⟩) L) := updE (erG l j + 1) (by omega) (hat j hj)
  rw [hset j _ hj] at hup
  have hfe : erG l j < 4294967296 := hfj.1
  clear hfj
  generalize hste : stG l j = st at *
  generalize erG l j = er at *
  by_cases h4 : st = 4
  · rw [if_pos h4]
    subst h4
    clear hup
    (refine Reach.walk ?_; (repeat (first | ((with_reducible refine AllSt.mk ?_); (try clear hS); intro w hS) | ((with_reducible refine AllVw.mk ?_); intro V hV))))
    (with_reducible apply doneQ_one Try.results20); (· exact slotFound)
    exact ⟨rfl, S, cS, E, cE, hVS, hVE, hX, by rw [hFe]; exact hS⟩
  rw [if_neg h4]
  by_cases hr : er < 4294967295
  · rw [if_pos hr]
    have hXn := hXn hr
    have hr1 : er + 1 ≤ 4294967295 := hr
    have hr2 : (er : Int) < 4294967295 := by omega
    clear hr
    generalize hK : (4294967295 : Int) = K at hr2 ⊢
    (refine Reach.walk ?_; (repeat (first | ((with_reducible refine AllSt.mk ?_); (try clear hS); intro w hS) | ((with_reducible refine AllVw.mk ?_); intro V hV))))
    (with_reducible apply doneQ_one Try.results20); (· exact slotFound)
    exact ⟨rfl, S, cS, E, cE, hVS, hVE, hXn, hS⟩
  · rw [if_neg hr]
    have hr2 : ¬ (er : Int) < 4294967295 := by omega
    clear hr hup
    generalize hK : (4294967295 : Int) = K at hr2 ⊢
    (refine Reach.walk ?_; (repeat (first | ((with_reducible refine AllSt.mk ?_); (try clear hS); intro w hS) | ((with_reducible refine AllVw.mk ?_); intro V hV))))
    (with_reducible apply doneQ_one Try.results20); (· exact slotFound)
    exact ⟨rfl, S, cS, E, cE, hVS, hVE, hX, by rw [hFe]; exact hS⟩
end
end Go.Proofs.Ytaapnfoimcccjaa

namespace Go.Proofs.Ytaapnfoimcccjaa
open Go.Fk Go.RowKit
attribute [local irreducible] Wp WpL Det thenQ blockQ WpG thenD blockG
def loR : Option (Nat × Nat) → Int
  | none => -1
  | some (lo, _) => lo
def hiR : Option (Nat × Nat) → Int
  | none => -1
  | some (_, hi) => hi
theorem loR_ok {o : Option (Nat × Nat)} (h : sprOk o) : -1 ≤ loR o ∧ loR o ≤ hiR o ∧ hiR o < 4294967296 ∧ hiR o - loR o = hiV o - loV o := by
  cases o with
  | none => exact ⟨Int.le_refl _, Int.le_refl _, by decide, by decide⟩
  | some p =>
    obtain ⟨lo, hi⟩ := p
    obtain ⟨h1, h2⟩ := h
    exact ⟨by show (-1 : Int) ≤ (lo : Int); omega, by show (lo : Int) ≤ (hi : Int); omega, by show (hi : Int) < _; omega, rfl⟩
section
variable {w w0 : World} {M : Nat → Prop} {L : List Ch} {r nd nb : Nat} {X : List (List Bk)}
set_option maxHeartbeats 2000000 in
theorem refCountP (hnb : 1 ≤ nb ∧ nb ≤ 64) (hnd : nd ≤ 8) (d s : Int) (h : RSt w0 M w r nd nb X L) :
    Calls Try.prog 33 #[.pointer (some ⟨r, 0, none⟩), .int .i64 d, .int .i64 s] w fun x w' => x = .returned (.int .i64 (countX X d s : Nat)) ∧ RSt w0 M w' r nd nb X L := by
  obtain ⟨S, cS, E, cE, hVS, hVE, hX, hS⟩ := h
  (refine calls_of (P := Try.prog) _ Try.func33 rfl Try.ntmps33 (Nat.le_of_ble_eq_true rfl) ?_; dsimp only [argE, Nat.reduceAdd])
  (refine Reach.walk ?_; (repeat (first | ((with_reducible refine AllSt.mk ?_); (try clear hS); intro w hS) | ((with_reducible refine AllVw.mk ?_); intro V hV))))
  (with_reducible apply WpL.call); (· exact rfl); (· exact Try.call32); (· exact Vals.found)
  refine (refIn hS).mono ?_
  clear hS
  rintro x w ⟨rfl, hS⟩
  refine ⟨_, rfl, ?_⟩
  have hnb1 := hnb.1
  have hnb2 := hnb.2
  by_cases hd : 0 ≤ d ∧ d < nd
  rotate_left
  · rw [decide_eq_false (fun h => hd ⟨h.1, h.2.1⟩)]
    have ht : countX X d s = 0 := by unfold countX; rw [if_neg]; unfold inX; rw [hX.len]; exact hd
    rw [ht]
    (refine Reach.walk ?_; (repeat (first | ((with_reducible refine AllSt.mk ?_); (try clear hS); intro w hS) | ((with_reducible refine AllVw.mk ?_); intro V hV))))
    apply Wp.loopUp 0 (fun i e w' => St w0 M w' (refC r nd nb (nd * nb) S cS E cE X.flatten L) ∧
      e.Has [(9, .int .i64 (i : Nat)), (7, .int .i64 0), (8, .bool false), (0, .pointer (some ⟨r, 0, none⟩))]) (Nat.zero_le _)
      ⟨hS, rfl, rfl, rfl, rfl, trivial⟩
    clear hS
    rintro i e w hi ⟨hS, he⟩
    obtain rfl : i = 0 := by omega
    obtain ⟨e0, rfl⟩ := he.eq
    clear he
    dsimp only [Env.sets]
    (refine Reach.walk ?_; (repeat (first | ((with_reducible refine AllSt.mk ?_); (try clear hS); intro w hS) | ((with_reducible refine AllVw.mk ?_); intro V hV))))
    (with_reducible apply doneQ_one Try.results33); (· exact slotFound)
    exact ⟨rfl, S, cS, E, cE, hVS, hVE, hX, hS⟩
  rw [decide_eq_true ⟨hd.1, hd.2, by omega, by omega⟩]
  obtain ⟨k, rfl⟩ := Int.eq_ofNat_of_zero_le hd.1
  have hk : k < nd := by omega
  have hda := hX.at_ hnd hnb.2 hk
  have ht : countX X (k : Int) s = countL (X.getD k []) s := by
    unfold countX dieX; rw [if_pos]; · rfl
    unfold inX; rw [hX.len]; exact hd
  rw [ht]
  clear ht hd
  unfold RSt
  generalize X.getD k [] = l at *
  have hll := hda.len
  obtain ⟨_, hfit, hflen, hlt, hmul, hat, hset⟩ := hda
  have hn0 : nd * nb ≤ 512 := Nat.le_trans (Nat.mul_le_mul hnd hnb.2) (by decide)
  generalize hFe : X.flatten = F at *
  generalize nd * nb = n at *
  (refine Reach.walk ?_; (repeat (first | ((with_reducible refine AllSt.mk ?_); (try clear hS); intro w hS) | ((with_reducible refine AllVw.mk ?_); intro V hV))))
  apply Wp.loopUp nb (fun i e w' => St w0 M w' (refC r nd nb n S cS E cE F L) ∧
      e.Has [(9, .int .i64 (i : Nat)), (7, .int .i64 (countL (l.take i) s : Nat)), (8, .bool true), (0, .pointer (some ⟨r, 0, none⟩)), (1, .int .i64 (k : Nat)), (2, .int .i64 s)]) (Nat.zero_le _)
    ⟨hS, rfl, rfl, rfl, rfl, rfl, rfl, trivial⟩
  clear hS
  rintro i e w hi ⟨hS, he⟩
  obtain ⟨e0, rfl⟩ := he.eq
  clear he
  dsimp only [Env.sets]
  by_cases hlti : i < nb
  · have hst := countL_step s (l := l) (i := i) (by omega)
    have hle := countL_le (l.take i) s
    rw [List.length_take] at hle
    have hin := hlt i hlti
    have hlk : Look (refC r nd nb n S cS E cE F L) ((adr S).add (k * nb + i)) (.int .i64 ((l.getD i ⟨0, 0⟩).st : Int)) := lookS (by omega) (hat i hlti)
    generalize hcN : countL (l.take (i + 1)) s = cN at *
    generalize countL (l.take i) s = c0 at *
    generalize (l.getD i ⟨0, 0⟩).st = st at *
    by_cases heq : (st : Int) = s
    · rw [if_pos heq] at hst
      (refine Reach.walk ?_; (repeat (first | ((with_reducible refine AllSt.mk ?_); (try clear hS); intro w hS) | ((with_reducible refine AllVw.mk ?_); intro V hV))))
      (refine Wp.drawD 16 (by kernel_rfl) (by kernel_rfl) rfl ?_; dsimp only [List.take, List.drop])
      (refine Reach.rwalk ?_; (repeat (first | ((with_reducible refine AllSt.mk ?_); (try clear hS); intro w hS) | ((with_reducible refine AllVw.mk ?_); intro V hV))))
      (refine RgD.fin0 fun w hb => ?_; replace hS := hS.below hb; clear hb)
      (refine Reach.walk ?_; (repeat (first | ((with_reducible refine AllSt.mk ?_); (try clear hS); intro w hS) | ((with_reducible refine AllVw.mk ?_); intro V hV))))
      exact ⟨hlti, hS, int_eq (by omega), by rw [hst]; exact int_eq (by omega), rfl, rfl, rfl, rfl, trivial⟩
    · rw [if_neg heq, Nat.add_zero] at hst
      (refine Reach.walk ?_; (repeat (first | ((with_reducible refine AllSt.mk ?_); (try clear hS); intro w hS) | ((with_reducible refine AllVw.mk ?_); intro V hV))))
      (refine Wp.drawD 16 (by kernel_rfl) (by kernel_rfl) rfl ?_; dsimp only [List.take, List.drop])
      (refine Reach.rwalk ?_; (repeat (first | ((with_reducible refine AllSt.mk ?_); (try clear hS); intro w hS) | ((with_reducible refine AllVw.mk ?_); intro V hV))))
      (refine RgD.fin0 fun w hb => ?_; replace hS := hS.below hb; clear hb)
      (refine Reach.walk ?_; (repeat (first | ((with_reducible refine AllSt.mk ?_); (try clear hS); intro w hS) | ((with_reducible refine AllVw.mk ?_); intro V hV))))
      exact ⟨hlti, hS, int_eq (by omega), by rw [hst]; rfl, rfl, rfl, rfl, rfl, trivial⟩
  · obtain rfl : i = nb := by omega
    rw [← hll, List.take_length]
    rw [hll]
    (refine Reach.walk ?_; (repeat (first | ((with_reducible refine AllSt.mk ?_); (try clear hS); intro w hS) | ((with_reducible refine AllVw.mk ?_); intro V hV))))
    (with_reducible apply doneQ_one Try.results33); (· exact slotFound)
    exact ⟨rfl, S, cS, E, cE, hVS, hVE, hX, hS⟩
set_option maxHeartbeats 2000000 in
theorem refSpreadP (hnb : 1 ≤ nb ∧ nb ≤ 64) (hnd : nd ≤ 8) (d : Int) (h : RSt w0 M w r nd nb X L) :
    Calls Try.prog 34 #[.pointer (some ⟨r, 0, none⟩), .int .i64 d] w fun x w' => x = .returned (.int .i64 (spreadX X d)) ∧ RSt w0 M w' r nd nb X L := by
  obtain ⟨S, cS, E, cE, hVS, hVE, hX, hS⟩ := h
  (refine calls_of (P := Try.prog) _ Try.func34 rfl Try.ntmps34 (Nat.le_of_ble_eq_true rfl) ?_; dsimp only [argE, Nat.reduceAdd])
  (refine Reach.walk ?_; (repeat (first | ((with_reducible refine AllSt.mk ?_); (try clear hS); intro w hS) | ((with_reducible refine AllVw.mk ?_); intro V hV))))
  (with_reducible apply WpL.call); (· exact rfl); (· exact Try.call32); (· exact Vals.found)
  refine (refIn hS).mono ?_
  clear hS
  rintro x w ⟨rfl, hS⟩
  refine ⟨_, rfl, ?_⟩
  have hnb1 := hnb.1
  have hnb2 := hnb.2
  by_cases hd : 0 ≤ d ∧ d < nd
  rotate_left
  · rw [decide_eq_false (fun h => hd ⟨h.1, h.2.1⟩)]
    have ht : spreadX X d = 0 := by unfold spreadX; rw [if_neg]; unfold inX; rw [hX.len]; exact hd
    rw [ht]
    (refine Reach.walk ?_; (repeat (first | ((with_reducible refine AllSt.mk ?_); (try clear hS); intro w hS) | ((with_reducible refine AllVw.mk ?_); intro V hV))))
    apply Wp.loopUp 0 (fun i e w' => St w0 M w' (refC r nd nb (nd * nb) S cS E cE X.flatten L) ∧
      e.Has [(8, .int .i64 (i : Nat)), (5, .int .i64 (-1)), (6, .int .i64 (-1)), (7, .bool false), (0, .pointer (some ⟨r, 0, none⟩))]) (Nat.zero_le _)
      ⟨hS, rfl, rfl, rfl, rfl, rfl, trivial⟩
    clear hS
    rintro i e w hi ⟨hS, he⟩
    obtain rfl : i = 0 := by omega
    obtain ⟨e0, rfl⟩ := he.eq
    clear he
    dsimp only [Env.sets]
    (refine Reach.walk ?_; (repeat (first | ((with_reducible refine AllSt.mk ?_); (try clear hS); intro w hS) | ((with_reducible refine AllVw.mk ?_); intro V hV))))
    (with_reducible apply doneQ_one Try.results34); (· exact slotFound)
    exact ⟨rfl, S, cS, E, cE, hVS, hVE, hX, hS⟩
  rw [decide_eq_true ⟨hd.1, hd.2, by omega, by omega⟩]
  obtain ⟨k, rfl⟩ := Int.eq_ofNat_of_zero_le hd.1
  have hk : k < nd := by omega
  have hda := hX.at_ hnd hnb.2 hk
  have ht : spreadX X (k : Int) = spreadL (X.getD k []) := by
    unfold spreadX dieX; rw [if_pos]; · rfl
    unfold inX; rw [hX.len]; exact hd
  rw [ht]
  clear ht hd
  unfold RSt
  generalize X.getD k [] = l at *
  have hll := hda.len
  obtain ⟨_, hfit, hflen, hlt, hmul, hat, hset⟩ := hda
  have hn0 : nd * nb ≤ 512 := Nat.le_trans (Nat.mul_le_mul hnd hnb.2) (by decide)
  generalize hFe : X.flatten = F at *
  generalize nd * nb = n at *
  (refine Reach.walk ?_; (repeat (first | ((with_reducible refine AllSt.mk ?_); (try clear hS); intro w hS) | ((with_reducible refine AllVw.mk ?_); intro V hV))))
  apply Wp.loopUp nb (fun i e w' => St w0 M w' (refC r nd nb n S cS E cE F L) ∧
      e.Has [(8, .int .i64 (i : Nat)), (5, .int .i64 (loR (sprN (l.take i)))), (6, .int .i64 (hiR (sprN (l.take i)))), (7, .bool true), (0, .pointer (some ⟨r, 0, none⟩)), (1, .int .i64 (k : Nat))]) (Nat.zero_le _)
    ⟨hS, rfl, rfl, rfl, rfl, rfl, rfl, trivial⟩
  clear hS
  rintro i e w hi ⟨hS, he⟩
  obtain ⟨e0, rfl⟩ := he.eq
  clear he
  dsimp only [Env.sets]
  by_cases hlti : i < nb
  · have hst := sprN_step (l := l) (i := i) (by omega)
    have hok := sprN_ok (l := l.take i) (fun b hb => hfit b (List.mem_of_mem_take hb))
    have hin := hlt i hlti
    have hfb := hfit _ (getD_memB (show i < l.length by omega))
    have hlk : Look (refC r nd nb n S cS E cE F L) ((adr S).add (k * nb + i)) (.int .i64 ((l.getD i ⟨0, 0⟩).st : Int)) := lookS (by omega) (hat i hlti)
    have hlk2 : Look (refC r nd nb n S cS E cE F L) ((adr E).add (k * nb + i)) (.int .i64 ((l.getD i ⟨0, 0⟩).er : Int)) := lookE (by omega) (hat i hlti)
    generalize hcN : sprN (l.take (i + 1)) = oN at *
    generalize sprN (l.take i) = o0 at *
    generalize l.getD i ⟨0, 0⟩ = b at *
    obtain ⟨st, er⟩ := b
    unfold sprS at hst
    dsimp only at *
    by_cases h4 : st = 4
    · rw [if_pos h4] at hst
      subst h4
      (refine Reach.walk ?_; (repeat (first | ((with_reducible refine AllSt.mk ?_); (try clear hS); intro w hS) | ((with_reducible refine AllVw.mk ?_); intro V hV))))
      exact ⟨hlti, hS, int_eq (by omega), by rw [hst]; rfl, by rw [hst]; rfl, rfl, rfl, rfl, trivial⟩
    rw [if_neg h4] at hst
    cases o0 with
    | none =>
      dsimp only [loR, hiR] at *
      (refine Reach.walk ?_; (repeat (first | ((with_reducible refine AllSt.mk ?_); (try clear hS); intro w hS) | ((with_reducible refine AllVw.mk ?_); intro V hV))))
      exact ⟨hlti, hS, int_eq (by omega), by rw [hst]; rfl, by rw [hst]; rfl, rfl, rfl, rfl, trivial⟩
    | some p =>
      obtain ⟨lo, hi'⟩ := p
      obtain ⟨hok1, hok2⟩ := hok
      dsimp only [loR, hiR] at *
      by_cases h5 : er < lo
      · have h6 : ¬ hi' < er := by omega
        have e1 : min lo er = er := by omega
        have e2 : max hi' er = hi' := by omega
        rw [e1, e2] at hst
        (refine Reach.walk ?_; (repeat (first | ((with_reducible refine AllSt.mk ?_); (try clear hS); intro w hS) | ((with_reducible refine AllVw.mk ?_); intro V hV))))
        exact ⟨hlti, hS, int_eq (by omega), by rw [hst]; rfl, by rw [hst]; rfl, rfl, rfl, rfl, trivial⟩
      · have e1 : min lo er = lo := by omega
        by_cases h6 : hi' < er
        · have e2 : max hi' er = er := by omega
          rw [e1, e2] at hst
          (refine Reach.walk ?_; (repeat (first | ((with_reducible refine AllSt.mk ?_); (try clear hS); intro w hS) | ((with_reducible refine AllVw.mk ?_); intro V hV))))
          exact ⟨hlti, hS, int_eq (by omega), by rw [hst]; rfl, by rw [hst]; rfl, rfl, rfl, rfl, trivial⟩
        · have e2 : max hi' er = hi' := by omega
          rw [e1, e2] at hst
          (refine Reach.walk ?_; (repeat (first | ((with_reducible refine AllSt.mk ?_); (try clear hS); intro w hS) | ((with_reducible refine AllVw.mk ?_); intro V hV))))
          exact ⟨hlti, hS, int_eq (by omega), by rw [hst]; rfl, by rw [hst]; rfl, rfl, rfl, rfl, trivial⟩
  · obtain rfl : i = nb := by omega
    have hok := loR_ok (sprN_ok hfit)
    have hsp : spreadL l = hiV (sprN l) - loV (sprN l) := rfl
    rw [← hok.2.2.2] at hsp
    have etk : l.take i = l := List.take_of_length_le (by omega)
    rw [etk]
    generalize loR (sprN l) = lo at *
    generalize hiR (sprN l) = hi at *
    (refine Reach.walk ?_; (repeat (first | ((with_reducible refine AllSt.mk ?_); (try clear hS); intro w hS) | ((with_reducible refine AllVw.mk ?_); intro V hV))))
    (with_reducible apply doneQ_one Try.results34); (· exact slotFound)
    exact ⟨by rw [hsp], S, cS, E, cE, hVS, hVE, hX, hS⟩
end
end Go.Proofs.Ytaapnfoimcccjaa

namespace Go.Proofs.Ytaapnfoimcccjaa
open Go.Fk Go.RowKit
attribute [local irreducible] Wp WpL Det thenQ blockQ WpG thenD blockG
theorem blkB_of (st er : Nat) (h : er < 4294967296) : [UInt8.ofNat st, UInt8.ofNat (er % 256), UInt8.ofNat ((er >>> 8) % 256), UInt8.ofNat ((er >>> 16) % 256), UInt8.ofNat ((er >>> 24) % 256)] = blkB ⟨st, er⟩ := by
  have e : ∀ n : Nat, UInt8.ofNat (n % 256) = UInt8.ofNat n := fun n => by
    apply UInt8.toNat_inj.1
    simp [UInt8.toNat_ofNat']
  rw [e, e, e, e]
  rfl
theorem flatB_step {F : List Bk} {i : Nat} (h : i < F.length) : (F.take (i + 1)).flatMap blkB = (F.take i).flatMap blkB ++ blkB (F.getD i ⟨0, 0⟩) := dieB_step h
section
variable {w w0 : World} {M : Nat → Prop} {L : List Ch} {r nd nb : Nat} {X : List (List Bk)} {S E : Option Addr} {cS cE : Nat}
set_option maxHeartbeats 2000000 in
theorem refBytesS (hnb : 1 ≤ nb ∧ nb ≤ 64) (hnd : 1 ≤ nd ∧ nd ≤ 8) (hVS : IsVw S (nd * nb) cS S 0) (hVE : IsVw E (nd * nb) cE E 0) (hX : XOk nd nb X) (hS : St w0 M w (refC r nd nb (nd * nb) S cS E cE X.flatten L)) :
    Calls Try.prog 35 #[.pointer (some ⟨r, 0, none⟩)] w fun x w' => ∃ A c, x = .returned (.slice A ((poolB nb X).length + 4) c) ∧ IsVw A ((poolB nb X).length + 4) c A 0 ∧
      St w0 M w' (.own A ((poolB nb X).length + 4) c 5 1 (bv (Crc.sealed (poolB nb X))) :: refC r nd nb (nd * nb) S cS E cE X.flatten L) := by
  have hl := fun l hl => (hX.rows l hl).1
  have hpl : (poolB nb X).length = 2 + 5 * (nd * nb) := by rw [poolB_length hl, hX.len, ← Nat.mul_assoc]; omega
  have hpb := poolB_flat nb X
  rw [hX.len] at hpb
  have hfit : Fit X.flatten := fun b hb => by
    obtain ⟨l, hl, hb⟩ := List.mem_flatten.1 hb
    exact (hX.rows l hl).2 b hb
  have hfl : X.flatten.length = nd * nb := by rw [flat_len hl, hX.len]
  have hnd2 := hnd.2
  have hnb2 := hnb.2
  have hn0 : nd * nb ≤ 512 := Nat.le_trans (Nat.mul_le_mul hnd2 hnb2) (by decide)
  generalize X.flatten = F at *
  generalize nd * nb = n at *
  generalize poolB nb X = PB at *
  subst hpb
  rw [hpl]
  clear hpl
  (refine calls_of (P := Try.prog) _ Try.func35 rfl Try.ntmps35 (Nat.le_of_ble_eq_true rfl) ?_; dsimp only [argE, Nat.reduceAdd])
  (refine Reach.walk ?_; (repeat (first | ((with_reducible refine AllSt.mk ?_); (try clear hS); intro w hS) | ((with_reducible refine AllVw.mk ?_); intro V hV))))
  (refine Wp.drawD 10 (by kernel_rfl) (by kernel_rfl) rfl ?_; dsimp only [List.take, List.drop])
  (refine Reach.rwalk ?_; (repeat (first | ((with_reducible refine AllSt.mk ?_); (try clear hS); intro w hS) | ((with_reducible refine AllVw.mk ?_); intro V hV))))
  (refine RgD.fin0 fun w hb => ?_; replace hS := hS.below hb; clear hb)
  (refine Reach.walk ?_; (repeat (first | ((with_reducible refine AllSt.mk ?_); (try clear hS); intro w hS) | ((with_reducible refine AllVw.mk ?_); intro V hV))))
  ((with_reducible apply WpL.bs); (· assumption); (· exact rfl); (· exact BVals.found); (· exact oneAll_spec rfl); (· exact rfl); (· decide); (· exact listFound); clear hS)
  intro A0 w hA0 hS
  (refine Reach.walk ?_; (repeat (first | ((with_reducible refine AllSt.mk ?_); (try clear hS); intro w hS) | ((with_reducible refine AllVw.mk ?_); intro V hV))))
  apply Wp.loopUp n (fun k e w' => ∃ A c, IsVw A (2 + 5 * k) c A 0 ∧ St w0 M w' (.own A (2 + 5 * k) c 5 1 (bv ([UInt8.ofNat nd, UInt8.ofNat nb] ++ (F.take k).flatMap blkB)) :: refC r nd nb n S cS E cE F L) ∧
      e.Has [(4, .int .i64 (k : Nat)), (3, .slice A (2 + 5 * k) c), (0, .pointer (some ⟨r, 0, none⟩))]) (Nat.zero_le _)
    ⟨A0, 2, hA0, hS, rfl, rfl, rfl, trivial⟩
  clear hS
  rintro k e w hk ⟨A, c, hA, hS, he⟩
  obtain ⟨e0, rfl⟩ := he.eq
  clear he
  dsimp only [Env.sets]
  by_cases hlt : k < n
  · have hst := flatB_step (F := F) (i := k) (by omega)
    have hfb := hfit _ (getD_memB (show k < F.length by omega))
    have hlk : Look (.own A (2 + 5 * k) c 5 1 (bv ([UInt8.ofNat nd, UInt8.ofNat nb] ++ (F.take k).flatMap blkB)) :: refC r nd nb n S cS E cE F L) ((adr S).add k) (.int .i64 ((F.getD k ⟨0, 0⟩).st : Int)) := .there (lookS (by omega) rfl)
    have hlk2 : Look (.own A (2 + 5 * k) c 5 1 (bv ([UInt8.ofNat nd, UInt8.ofNat nb] ++ (F.take k).flatMap blkB)) :: refC r nd nb n S cS E cE F L) ((adr E).add k) (.int .i64 ((F.getD k ⟨0, 0⟩).er : Int)) := .there (lookE (by omega) rfl)
    generalize F.getD k ⟨0, 0⟩ = b at *
    obtain ⟨st, er⟩ := b
    dsimp only at hfb hlk hlk2
    have hbl : ([UInt8.ofNat nd, UInt8.ofNat nb] ++ (F.take k).flatMap blkB).length = 2 + 5 * k := by
      have := dieB_length (F.take k)
      rw [List.length_take, Nat.min_eq_left (by omega)] at this
      rw [List.length_append, show (F.take k).flatMap blkB = dieB (F.take k) from rfl, this]
      show 2 + k * 5 = _
      omega
    generalize hB0 : [UInt8.ofNat nd, UInt8.ofNat nb] ++ (F.take k).flatMap blkB = B0 at *
    have hst2 : [UInt8.ofNat nd, UInt8.ofNat nb] ++ (F.take (k + 1)).flatMap blkB = B0 ++ [UInt8.ofNat st, UInt8.ofNat (er % 256), UInt8.ofNat ((er >>> 8) % 256), UInt8.ofNat ((er >>> 16) % 256), UInt8.ofNat ((er >>> 24) % 256)] := by
      rw [hst, ← List.append_assoc, hB0, blkB_of _ _ hfb.1]
    (refine Reach.walk ?_; (repeat (first | ((with_reducible refine AllSt.mk ?_); (try clear hS); intro w hS) | ((with_reducible refine AllVw.mk ?_); intro V hV))))
    ((with_reducible apply WpL.bs); (· assumption); (· exact rfl); (· exact BVals.found); (· exact oneAll_spec rfl); (· exact rfl); (· decide); (· exact listFound); clear hS)
    intro B w hB hS
    (refine Reach.walk ?_; (repeat (first | ((with_reducible refine AllSt.mk ?_); (try clear hS); intro w hS) | ((with_reducible refine AllVw.mk ?_); intro V hV))))
    ((with_reducible apply WpL.app); (· assumption); (· exact rfl); (· exact rfl); (· exact rfl); (· exact Sel.found); (· simp only [Nat.mul_one]; exact RdsV.found); (· exact onesFound); (· exact catFound); (· omega); (· omega); clear hS)
    intro A2 c2 w hA2 hS
    (refine Reach.walk ?_; (repeat (first | ((with_reducible refine AllSt.mk ?_); (try clear hS); intro w hS) | ((with_reducible refine AllVw.mk ?_); intro V hV))))
    have e5 : 2 + 5 * (k + 1) = 2 + 5 * k + 5 := by omega
    rw [hst2, e5]
    (replace hS := (hS.take (pre := [.own A2 _ _ _ _ _, .blk r _ _, .own S _ _ _ _ _, .own E _ _ _ _ _]) Take.found); (try simp only [List.cons_append, List.nil_append] at hS))
    exact ⟨hlt, A2, c2, hA2, hS.sub (.cons_cons _ (.cons_cons _ (.cons_cons _ (.cons_cons _ (List.sublist_cons_self _ _))))), int_eq (by omega), rfl, rfl, trivial⟩
  · obtain rfl : k = n := by omega
    have etk : F.take k = F := List.take_of_length_le (by omega)
    rw [etk] at hS
    have hbl : ([UInt8.ofNat nd, UInt8.ofNat nb] ++ F.flatMap blkB).length = 2 + 5 * k := by
      have := dieB_length F
      rw [List.length_append, show F.flatMap blkB = dieB F from rfl, this]
      show 2 + F.length * 5 = _
      omega
    generalize [UInt8.ofNat nd, UInt8.ofNat nb] ++ F.flatMap blkB = B0 at *
    (refine Reach.walk ?_; (repeat (first | ((with_reducible refine AllSt.mk ?_); (try clear hS); intro w hS) | ((with_reducible refine AllVw.mk ?_); intro V hV))))
    (with_reducible apply WpL.call); (· exact rfl); (· exact Try.call27); (· exact Vals.found)
    refine (refSealS hS RdsV.found (by omega)).mono ?_
    clear hS
    rintro x w ⟨A2, c2, rfl, hA2, hS⟩
    refine ⟨_, rfl, ?_⟩
    (refine Reach.walk ?_; (repeat (first | ((with_reducible refine AllSt.mk ?_); (try clear hS); intro w hS) | ((with_reducible refine AllVw.mk ?_); intro V hV))))
    (with_reducible apply doneQ_one Try.results35); (· exact slotFound)
    exact ⟨A2, c2, rfl, hA2, hS.sub (.cons_cons _ (List.sublist_cons_self _ _))⟩
end
end Go.Proofs.Ytaapnfoimcccjaa
