/-
  A pool of several dies: its calls, die by die.
-/
import Derived.Test.YtaapnfoimcccjaaBlkH
namespace Go.Proofs.Ytaapnfoimcccjaa
open Go.Fk Go.RowKit
attribute [local irreducible] Wp WpL Det thenQ blockQ WpG thenD blockG
theorem rowsC_mid (nb : Nat) (a : Dies) (p : Option Addr × List Bk) (b : Dies) : rowsC nb (a ++ p :: b) = rowsC nb a ++ .own p.1 nb nb 60 2 (kv p.2) :: rowsC nb b := by simp [rowsC]
theorem rowsV_mid (nb : Nat) (a : Dies) (p : Option Addr × List Bk) (b : Dies) : rowsV nb (a ++ p :: b) = rowsV nb a ++ .slice p.1 nb nb :: rowsV nb b := by simp [rowsV]
/-- A pool lies at g; X: its dies. -/
def PSt (w0 : World) (M : Nat → Prop) (w : World) (g nd nb : Nat) (X : List (List Bk)) (L : List Ch) : Prop := ∃ D cd ps, PoolOk D nd cd nb ps ∧ ps.map (·.2) = X ∧ St w0 M w (poolL g D nd cd nb ps L)
structure XOk (nd nb : Nat) (X : List (List Bk)) : Prop where
  len : X.length = nd
  rows : ∀ l ∈ X, l.length = nb ∧ Fit l
section
variable {w w0 : World} {M : Nat → Prop} {L : List Ch} {g nd nb : Nat} {X : List (List Bk)}
theorem PSt.ok (h : PSt w0 M w g nd nb X L) : XOk nd nb X := by
  obtain ⟨D, cd, ps, h1, rfl, _⟩ := h
  refine ⟨by rw [List.length_map, h1.len], fun l hl => ?_⟩
  obtain ⟨p, hp, rfl⟩ := List.mem_map.1 hl
  exact (h1.rows p hp).2
theorem PSt.below {w' : World} (h : PSt w0 M w g nd nb X L) (hb : Below w.heap.size w w') : PSt w0 M w' g nd nb X L := let ⟨D, cd, ps, h1, h2, h3⟩ := h; ⟨D, cd, ps, h1, h2, h3.below hb⟩
theorem PSt.rest (h : PSt w0 M w g nd nb X L) : St w0 M w L := by
  obtain ⟨D, cd, ps, h1, h2, h3⟩ := h
  exact h3.sub ((List.sublist_append_right _ _).trans ((List.sublist_cons_self _ _).trans (List.sublist_cons_self _ _)))
theorem PSt.sub {L' : List Ch} (h : PSt w0 M w g nd nb X L) (hs : L'.Sublist L) : PSt w0 M w g nd nb X L' := by
  obtain ⟨D, cd, ps, h1, h2, h3⟩ := h
  exact ⟨D, cd, ps, h1, h2, h3.sub (.cons_cons _ (.cons_cons _ ((List.Sublist.refl _).append hs)))⟩
theorem PSt.outR (h : PSt w0 M w g nd nb X L) {P : Program} {f : FuncId} {args : Array Value} {R : Ending → Prop}
    (hc : ∀ D cd rows L', IsVw D nd cd D 0 → St w0 M w (headsC g D nd cd rows L') → Calls P f args w fun x w' => R x ∧ St w0 M w' (headsC g D nd cd rows L')) : Calls P f args w fun x w' => R x ∧ PSt w0 M w' g nd nb X L := by
  obtain ⟨D, cd, ps, h1, h2, h3⟩ := h
  refine (hc D cd _ _ h1.vw h3).mono fun x w' hx => ?_
  exact ⟨hx.1, D, cd, ps, h1, h2, hx.2⟩
theorem PSt.inR {d : Nat} (h : PSt w0 M w g nd nb X L) (hd : d < nd) {P : Program} {f : FuncId} {args : Array Value} {R : List Bk → Ending → Prop} {fl : List Bk → List Bk} (hfl : ∀ l, l.length = nb → Fit l → (fl l).length = nb ∧ Fit (fl l))
    (hc : ∀ D cd rows A l L', IsVw D nd cd D 0 → rows[d]? = some (.slice A nb nb) → IsVw A nb nb A 0 → l.length = nb → Fit l → St w0 M w (poolC g D nd cd rows A nb nb l L') → Calls P f args w fun x w' => R l x ∧ St w0 M w' (poolC g D nd cd rows A nb nb (fl l) L')) :
    Calls P f args w fun x w' => R (X.getD d []) x ∧ PSt w0 M w' g nd nb (X.set d (fl (X.getD d []))) L := by
  obtain ⟨D, cd, ps, h1, rfl, h3⟩ := h
  have hdl : d < ps.length := by rw [h1.len]; exact hd
  have hpm : ps[d] ∈ ps := List.getElem_mem hdl
  obtain ⟨hp1, hp2, hp3⟩ := h1.rows _ hpm
  have hgd : (ps.map (·.2)).getD d [] = ps[d].2 := by rw [List.getD_eq_getElem?_getD, List.getElem?_map, List.getElem?_eq_getElem hdl]; rfl
  have hrow : (rowsV nb ps)[d]? = some (.slice ps[d].1 nb nb) := by rw [rowsV, List.getElem?_map, List.getElem?_eq_getElem hdl]; rfl
  have hsp : ps = ps.take d ++ ps[d] :: ps.drop (d + 1) := by rw [← List.drop_eq_getElem_cons hdl, List.take_append_drop]
  have hC : rowsC nb ps ++ L = rowsC nb (ps.take d) ++ (.own ps[d].1 nb nb 60 2 (kv ps[d].2) :: (rowsC nb (ps.drop (d + 1)) ++ L)) := by
    rw [(congrArg (rowsC nb) hsp).trans (rowsC_mid _ _ _ _), List.append_assoc, List.cons_append]
  have hset : ps.set d (ps[d].1, fl ps[d].2) = ps.take d ++ (ps[d].1, fl ps[d].2) :: ps.drop (d + 1) := by rw [List.set_eq_take_append_cons_drop, if_pos hdl]
  have hC2 : rowsC nb (ps.set d (ps[d].1, fl ps[d].2)) ++ L = rowsC nb (ps.take d) ++ (.own ps[d].1 nb nb 60 2 (kv (fl ps[d].2)) :: (rowsC nb (ps.drop (d + 1)) ++ L)) := by
    rw [hset, rowsC_mid, List.append_assoc, List.cons_append]
  have hV2 : rowsV nb (ps.set d (ps[d].1, fl ps[d].2)) = rowsV nb ps := by
    rw [hset, rowsV_mid]
    exact ((congrArg (rowsV nb) hsp).trans (rowsV_mid _ _ _ _)).symm
  have h4 : St w0 M w (poolC g D nd cd (rowsV nb ps) ps[d].1 nb nb ps[d].2 (rowsC nb (ps.take d) ++ (rowsC nb (ps.drop (d + 1)) ++ L))) := by
    refine h3.perm (List.Perm.cons _ (List.Perm.cons _ ?_))
    rw [hC]
    exact List.perm_middle
  refine (hc D cd _ _ _ _ h1.vw hrow hp1 hp2 hp3 h4).mono fun x w' hx => ?_
  rw [hgd]
  obtain ⟨hf1, hf2⟩ := hfl _ hp2 hp3
  refine ⟨hx.1, D, cd, ps.set d (ps[d].1, fl ps[d].2), ⟨by rw [List.length_set, h1.len], h1.vw, fun p hp => ?_⟩, by rw [List.map_set], ?_⟩
  · rcases List.mem_or_eq_of_mem_set hp with hp | rfl
    · exact h1.rows p hp
    · exact ⟨hp1, hf1, hf2⟩
  · show St w0 M w' (headsC g D nd cd (rowsV nb (ps.set d (ps[d].1, fl ps[d].2))) (rowsC nb (ps.set d (ps[d].1, fl ps[d].2)) ++ L))
    rw [hV2, hC2]
    exact hx.2.perm (List.Perm.cons _ (List.Perm.cons _ List.perm_middle.symm))
theorem PSt.same {d : Nat} (h : PSt w0 M w g nd nb (X.set d (X.getD d [])) L) : PSt w0 M w g nd nb X L := by
  have : X.set d (X.getD d []) = X := by
    by_cases hd : d < X.length
    · rw [List.getD_eq_getElem?_getD, List.getElem?_eq_getElem hd]
      exact List.set_getElem_self hd
    · exact List.set_eq_of_length_le (by omega)
  rwa [this] at h

/-! ### What the calls do to the dies -/
def inX (X : List (List Bk)) (d : Int) : Prop := 0 ≤ d ∧ d < X.length
instance (X : List (List Bk)) (d : Int) : Decidable (inX X d) := by unfold inX; infer_instance
def dieX (X : List (List Bk)) (d : Int) : List Bk := X.getD d.toNat []
def takeX (X : List (List Bk)) (d : Int) : (Int × Int) × List (List Bk) := if inX X d then ((takeL (dieX X d)).1, X.set d.toNat (takeL (dieX X d)).2) else ((0, 1), X)
def turnX (X : List (List Bk)) (d n : Int) (to : Nat) (fs : List Int) : Int × List (List Bk) := if inX X d then ((turnL (dieX X d) n to fs).1, X.set d.toNat (turnL (dieX X d) n to fs).2) else (1, X)
def erasedX (X : List (List Bk)) (d n : Int) : Int × List (List Bk) := if inX X d then ((erasedL (dieX X d) n).1, X.set d.toNat (erasedL (dieX X d) n).2) else (1, X)
def stX (X : List (List Bk)) (d n : Int) : Nat := if inX X d then stAt (dieX X d) n else 0
def erX (X : List (List Bk)) (d n : Int) : Nat := if inX X d then erAt (dieX X d) n else 0
def countX (X : List (List Bk)) (d s : Int) : Nat := if inX X d then countL (dieX X d) s else 0
def spreadX (X : List (List Bk)) (d : Int) : Int := if inX X d then spreadL (dieX X d) else 0
theorem PSt.split (h : PSt w0 M w g nd nb X L) (d : Int) : (inX X d ∧ ∃ k : Nat, k < nd ∧ d = (k : Int) ∧ dieX X d = X.getD k []) ∨ (¬ inX X d ∧ ¬ (0 ≤ d ∧ d < nd)) := by
  have hl := h.ok.len
  unfold inX dieX
  by_cases hin : 0 ≤ d ∧ d < nd
  · left
    exact ⟨⟨hin.1, by omega⟩, d.toNat, by omega, by omega, rfl⟩
  · right
    exact ⟨fun h => hin ⟨h.1, by omega⟩, hin⟩
theorem takeP (hnb : 1 ≤ nb ∧ nb ≤ 64) (hnd : nd ≤ 8) (d : Int) (h : PSt w0 M w g nd nb X L) :
    Calls Try.prog 11 #[.pointer (some ⟨g, 0, none⟩), .int .i64 d] w fun x w' => x = .returned (.tuple #[.int .i64 (takeX X d).1.1, .int .i64 (takeX X d).1.2]) ∧ PSt w0 M w' g nd nb (takeX X d).2 L := by
  unfold takeX
  rcases h.split d with ⟨hin, k, hk, rfl, e⟩ | ⟨hin, hd⟩
  · rw [if_pos hin, e, Int.toNat_natCast]
    exact h.inR hk (R := fun l x => x = .returned (.tuple #[.int .i64 (takeL l).1.1, .int .i64 (takeL l).1.2])) (fl := fun l => (takeL l).2) (fun l h1 h2 => ⟨by rw [takeL_len, h1], h2.take⟩)
      fun D cd rows A l L' hD hrow hA hl hf hS => takeI hnb.1 hl hf hD hk hrow hA (by omega) (by omega) hS
  · rw [if_neg hin]
    exact h.outR (R := fun x => x = .returned (.tuple #[.int .i64 0, .int .i64 1])) fun D cd rows L' hD hS => takeO hD hd hS
theorem erasedP (hnb : 1 ≤ nb ∧ nb ≤ 64) (hnd : nd ≤ 8) (d n : Int) (h : PSt w0 M w g nd nb X L) :
    Calls Try.prog 12 #[.pointer (some ⟨g, 0, none⟩), .int .i64 d, .int .i64 n] w fun x w' => x = .returned (.int .i64 (erasedX X d n).1) ∧ PSt w0 M w' g nd nb (erasedX X d n).2 L := by
  unfold erasedX
  rcases h.split d with ⟨hin, k, hk, rfl, e⟩ | ⟨hin, hd⟩
  · rw [if_pos hin, e, Int.toNat_natCast]
    exact h.inR hk (R := fun l x => x = .returned (.int .i64 (erasedL l n).1)) (fl := fun l => (erasedL l n).2) (fun l h1 h2 => ⟨by rw [erasedL_len, h1], h2.erased n⟩)
      fun D cd rows A l L' hD hrow hA hl hf hS => erasedI hl hf hD hk hrow hA (by omega) (by omega) hS
  · rw [if_neg hin]
    exact h.outR (R := fun x => x = .returned (.int .i64 1)) fun D cd rows L' hD hS => erasedO hD hd hS
theorem holdP (hnb : 1 ≤ nb ∧ nb ≤ 64) (hnd : nd ≤ 8) (d n : Int) (h : PSt w0 M w g nd nb X L) :
    Calls Try.prog 21 #[.pointer (some ⟨g, 0, none⟩), .int .i64 d, .int .i64 n] w fun x w' => x = .returned (.int .i64 (turnX X d n 2 [1]).1) ∧ PSt w0 M w' g nd nb (turnX X d n 2 [1]).2 L := by
  unfold turnX
  rcases h.split d with ⟨hin, k, hk, rfl, e⟩ | ⟨hin, hd⟩
  · rw [if_pos hin, e, Int.toNat_natCast]
    exact h.inR hk (R := fun l x => x = .returned (.int .i64 (turnL l n 2 [1]).1)) (fl := fun l => (turnL l n 2 [1]).2) (fun l h1 h2 => ⟨by rw [turnL_len, h1], h2.turn n (by decide) _⟩)
      fun D cd rows A l L' hD hrow hA hl hf hS => holdI hl hf hD hk hrow hA (by omega) (by omega) hS
  · rw [if_neg hin]
    exact h.outR (R := fun x => x = .returned (.int .i64 1)) fun D cd rows L' hD hS => holdO hD hd hS
theorem closeP (hnb : 1 ≤ nb ∧ nb ≤ 64) (hnd : nd ≤ 8) (d n : Int) (h : PSt w0 M w g nd nb X L) :
    Calls Try.prog 19 #[.pointer (some ⟨g, 0, none⟩), .int .i64 d, .int .i64 n] w fun x w' => x = .returned (.int .i64 (turnX X d n 3 [2]).1) ∧ PSt w0 M w' g nd nb (turnX X d n 3 [2]).2 L := by
  unfold turnX
  rcases h.split d with ⟨hin, k, hk, rfl, e⟩ | ⟨hin, hd⟩
  · rw [if_pos hin, e, Int.toNat_natCast]
    exact h.inR hk (R := fun l x => x = .returned (.int .i64 (turnL l n 3 [2]).1)) (fl := fun l => (turnL l n 3 [2]).2) (fun l h1 h2 => ⟨by rw [turnL_len, h1], h2.turn n (by decide) _⟩)
      fun D cd rows A l L' hD hrow hA hl hf hS => closeI hl hf hD hk hrow hA (by omega) (by omega) hS
  · rw [if_neg hin]
    exact h.outR (R := fun x => x = .returned (.int .i64 1)) fun D cd rows L' hD hS => closeO hD hd hS
theorem freeP (hnb : 1 ≤ nb ∧ nb ≤ 64) (hnd : nd ≤ 8) (d n : Int) (h : PSt w0 M w g nd nb X L) :
    Calls Try.prog 13 #[.pointer (some ⟨g, 0, none⟩), .int .i64 d, .int .i64 n] w fun x w' => x = .returned (.int .i64 (turnX X d n 1 [2, 3]).1) ∧ PSt w0 M w' g nd nb (turnX X d n 1 [2, 3]).2 L := by
  unfold turnX
  rcases h.split d with ⟨hin, k, hk, rfl, e⟩ | ⟨hin, hd⟩
  · rw [if_pos hin, e, Int.toNat_natCast]
    exact h.inR hk (R := fun l x => x = .returned (.int .i64 (turnL l n 1 [2, 3]).1)) (fl := fun l => (turnL l n 1 [2, 3]).2) (fun l h1 h2 => ⟨by rw [turnL_len, h1], h2.turn n (by decide) _⟩)
      fun D cd rows A l L' hD hrow hA hl hf hS => freeI hl hf hD hk hrow hA (by omega) (by omega) hS
  · rw [if_neg hin]
    exact h.outR (R := fun x => x = .returned (.int .i64 1)) fun D cd rows L' hD hS => freeO hD hd hS
theorem badP (hnb : 1 ≤ nb ∧ nb ≤ 64) (hnd : nd ≤ 8) (d n : Int) (h : PSt w0 M w g nd nb X L) :
    Calls Try.prog 16 #[.pointer (some ⟨g, 0, none⟩), .int .i64 d, .int .i64 n] w fun x w' => x = .returned (.int .i64 (turnX X d n 4 [1, 2, 3, 4]).1) ∧ PSt w0 M w' g nd nb (turnX X d n 4 [1, 2, 3, 4]).2 L := by
  unfold turnX
  rcases h.split d with ⟨hin, k, hk, rfl, e⟩ | ⟨hin, hd⟩
  · rw [if_pos hin, e, Int.toNat_natCast]
    exact h.inR hk (R := fun l x => x = .returned (.int .i64 (turnL l n 4 [1, 2, 3, 4]).1)) (fl := fun l => (turnL l n 4 [1, 2, 3, 4]).2) (fun l h1 h2 => ⟨by rw [turnL_len, h1], h2.turn n (by decide) _⟩)
      fun D cd rows A l L' hD hrow hA hl hf hS => badI hl hf hD hk hrow hA (by omega) (by omega) hS
  · rw [if_neg hin]
    exact h.outR (R := fun x => x = .returned (.int .i64 1)) fun D cd rows L' hD hS => badO hD hd hS
theorem stateP (hnb : 1 ≤ nb ∧ nb ≤ 64) (hnd : nd ≤ 8) (d n : Int) (h : PSt w0 M w g nd nb X L) :
    Calls Try.prog 25 #[.pointer (some ⟨g, 0, none⟩), .int .i64 d, .int .i64 n] w fun x w' => x = .returned (.int .i64 (stX X d n : Nat)) ∧ PSt w0 M w' g nd nb X L := by
  unfold stX
  rcases h.split d with ⟨hin, k, hk, rfl, e⟩ | ⟨hin, hd⟩
  · rw [if_pos hin, e]
    refine (h.inR hk (R := fun l x => x = .returned (.int .i64 (stAt l n : Nat))) (fl := fun l => l) (fun l h1 h2 => ⟨h1, h2⟩)
      fun D cd rows A l L' hD hrow hA hl hf hS => stateI hl hf hD hk hrow hA (by omega) (by omega) hS).mono fun x w' hx => ⟨hx.1, hx.2.same⟩
  · rw [if_neg hin]
    exact h.outR (R := fun x => x = .returned (.int .i64 ((0 : Nat) : Int))) fun D cd rows L' hD hS => stateO hD hd hS
theorem erasesP (hnb : 1 ≤ nb ∧ nb ≤ 64) (hnd : nd ≤ 8) (d n : Int) (h : PSt w0 M w g nd nb X L) :
    Calls Try.prog 26 #[.pointer (some ⟨g, 0, none⟩), .int .i64 d, .int .i64 n] w fun x w' => x = .returned (.int .i64 (erX X d n : Nat)) ∧ PSt w0 M w' g nd nb X L := by
  unfold erX
  rcases h.split d with ⟨hin, k, hk, rfl, e⟩ | ⟨hin, hd⟩
  · rw [if_pos hin, e]
    refine (h.inR hk (R := fun l x => x = .returned (.int .i64 (erAt l n : Nat))) (fl := fun l => l) (fun l h1 h2 => ⟨h1, h2⟩)
      fun D cd rows A l L' hD hrow hA hl hf hS => erasesI hl hf hD hk hrow hA (by omega) (by omega) hS).mono fun x w' hx => ⟨hx.1, hx.2.same⟩
  · rw [if_neg hin]
    exact h.outR (R := fun x => x = .returned (.int .i64 ((0 : Nat) : Int))) fun D cd rows L' hD hS => erasesO hD hd hS
theorem countP (hnb : 1 ≤ nb ∧ nb ≤ 64) (hnd : nd ≤ 8) (d s : Int) (h : PSt w0 M w g nd nb X L) :
    Calls Try.prog 15 #[.pointer (some ⟨g, 0, none⟩), .int .i64 d, .int .i64 s] w fun x w' => x = .returned (.int .i64 (countX X d s : Nat)) ∧ PSt w0 M w' g nd nb X L := by
  unfold countX
  rcases h.split d with ⟨hin, k, hk, rfl, e⟩ | ⟨hin, hd⟩
  · rw [if_pos hin, e]
    refine (h.inR hk (R := fun l x => x = .returned (.int .i64 (countL l s : Nat))) (fl := fun l => l) (fun l h1 h2 => ⟨h1, h2⟩)
      fun D cd rows A l L' hD hrow hA hl hf hS => countI hl hf hD hk hrow hA (by omega) (by omega) hS).mono fun x w' hx => ⟨hx.1, hx.2.same⟩
  · rw [if_neg hin]
    exact h.outR (R := fun x => x = .returned (.int .i64 ((0 : Nat) : Int))) fun D cd rows L' hD hS => countO hD hd hS
theorem spreadP (hnb : 1 ≤ nb ∧ nb ≤ 64) (hnd : nd ≤ 8) (d : Int) (h : PSt w0 M w g nd nb X L) :
    Calls Try.prog 14 #[.pointer (some ⟨g, 0, none⟩), .int .i64 d] w fun x w' => x = .returned (.int .i64 (spreadX X d)) ∧ PSt w0 M w' g nd nb X L := by
  unfold spreadX
  rcases h.split d with ⟨hin, k, hk, rfl, e⟩ | ⟨hin, hd⟩
  · rw [if_pos hin, e]
    refine (h.inR hk (R := fun l x => x = .returned (.int .i64 (spreadL l))) (fl := fun l => l) (fun l h1 h2 => ⟨h1, h2⟩)
      fun D cd rows A l L' hD hrow hA hl hf hS => spreadI hl hf hD hk hrow hA (by omega) (by omega) hS).mono fun x w' hx => ⟨hx.1, hx.2.same⟩
  · rw [if_neg hin]
    exact h.outR (R := fun x => x = .returned (.int .i64 0)) fun D cd rows L' hD hS => spreadO hD hd hS
theorem newP {dies n : Int} (hS : St w0 M w L) : Calls Try.prog 10 #[.int .i64 dies, .int .i64 n] w fun x w' =>
    (¬ (1 ≤ dies ∧ dies ≤ 8 ∧ 1 ≤ n ∧ n ≤ 64) ∧ x = .returned (.tuple #[.pointer none, .int .i64 1]) ∧ St w0 M w' L) ∨
    ((1 ≤ dies ∧ dies ≤ 8 ∧ 1 ≤ n ∧ n ≤ 64) ∧ ∃ g, x = .returned (.tuple #[.pointer (some ⟨g, 0, none⟩), .int .i64 0]) ∧ PSt w0 M w' g dies.toNat n.toNat (List.replicate dies.toNat (newBlocks n.toNat)) L) := by
  refine (new_any hS).mono ?_
  rintro x w' (h | ⟨h1, g, D, cd, ps, rfl, h2, h3, h4⟩)
  · exact .inl h
  · exact .inr ⟨h1, g, rfl, D, cd, ps, h2, h3, h4⟩
end
end Go.Proofs.Ytaapnfoimcccjaa
