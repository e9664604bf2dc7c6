/-
  What a call knows of memory, as a list of parts that lie apart from one another: one hypothesis that the walk carries along.
  It holds for any program; conditions stand at each theorem.
-/
import Derived.Test.YtaapnfoimcccjaaEq
namespace Go.Fk
open Go.RowKit

/-- A part of memory: a block known whole; a slice of the call's own (nil, or the head of a block); what is read and never written. -/
inductive Ch where
  | blk (g : Nat) (t : TypeId) (cs : List Value)
  | own (A : Option Addr) (n c : Nat) (el : TypeId) (sz : Nat) (xs : List Value)
  | ro (A : Option Addr) (xs : List Value)
  /-- like a slice of the call's own, or full and never to be written: it may be read, and appended to -/
  | app (A : Option Addr) (n c : Nat) (el : TypeId) (sz : Nat) (xs : List Value)
  /-- a block that holds no cells: a loop's record, .. -/
  | obj (g : Nat) (o : Obj)

def Full (w : World) (A : Option Addr) (n c sz : Nat) (xs : List Value) : Prop := c = n ∧ n ≤ maxLen ∧ xs.length = n * sz ∧ ∃ a, A = some a ∧ a.block < w.heap.size ∧ At w a xs
def Ch.foot : Ch → Option Nat
  | .blk g _ _ => some g
  | .own A _ _ _ _ _ => A.map (·.block)
  | .app A _ _ _ _ _ => A.map (·.block)
  | .obj g _ => some g
  | .ro _ _ => none
def Ch.isRo : Ch → Bool
  | .ro _ _ => true
  | _ => false
def Ch.Is (w : World) : Ch → Prop
  | .blk g t cs => Blk w g t cs.toArray
  | .own A n c el sz xs => Sl w 0 el sz (.slice A n c) n xs
  | .ro A xs => Rd w A xs
  | .app A n c el sz xs => Sl w 0 el sz (.slice A n c) n xs ∨ Full w A n c sz xs
  | .obj g o => w.heap[g]? = some o
def feet (L : List Ch) : Nat → Prop := fun g => ∃ c ∈ L, c.foot = some g
/-- Where the part may lie: the call's own or what it may write; or else old and never written. -/
def Ch.Ok (w0 : World) (M : Nat → Prop) : Ch → Prop
  | .ro A xs => xs = [] ∨ ∃ a, A = some a ∧ a.block < w0.heap.size ∧ ¬ M a.block
  | c => ∀ g, c.foot = some g → w0.heap.size ≤ g ∨ M g
def Off (a b : Ch) : Prop := ∀ g, a.foot = some g → b.foot ≠ some g

/-- Of the old blocks those of S alone have changed. -/
structure Chg (w : World) (S : Nat → Prop) (w' : World) : Prop where
  os : w'.os = w.os
  tape : w'.tape = w.tape
  output : w'.output = w.output
  size : w.heap.size ≤ w'.heap.size
  block : ∀ k, k < w.heap.size → ¬ S k → w'.heap[k]? = w.heap[k]?
theorem Chg.refl (w : World) (S : Nat → Prop) : Chg w S w := ⟨rfl, rfl, rfl, Nat.le_refl _, fun _ _ _ => rfl⟩
theorem Chg.of_grown {w w' : World} {row : Option Nat} (h : w.grownBy w' row) : Chg w (fun k => row = some k) w' :=
  ⟨h.os, h.tape, h.output, h.size, fun k hk hs => h.block k hk fun e => hs e.symm⟩
theorem Chg.of_below {w w' : World} (h : Below w.heap.size w w') (S : Nat → Prop) : Chg w S w' :=
  ⟨h.os, h.tape, h.output, h.size, fun k hk _ => h.block k hk⟩
theorem Chg.below {w w' : World} {S : Nat → Prop} (h : Chg w S w') (hs : ∀ k, ¬ S k) : Below w.heap.size w w' :=
  ⟨h.os, h.tape, h.output, h.size, fun k hk => h.block k hk (hs k)⟩

structure St (w0 : World) (M : Nat → Prop) (w : World) (L : List Ch) : Prop where
  chg : Chg w0 M w
  hold : ∀ c ∈ L, c.Is w ∧ c.Ok w0 M
  apart : L.Pairwise Off

section
variable {w0 w w' : World} {M : Nat → Prop} {L L' : List Ch} {c : Ch}

theorem Ch.Is.lt (h : c.Is w) {g : Nat} (hg : c.foot = some g) : g < w.heap.size := by
  cases c with
  | blk g' t cs => simp [Ch.foot] at hg; subst hg; exact Blk.lt h
  | obj g' o => simp [Ch.foot] at hg; subst hg; exact (Array.getElem?_eq_some_iff.1 (show w.heap[g']? = some o from h)).1
  | own A n cap el sz xs =>
    rcases (show Sl w 0 el sz (.slice A n cap) n xs from h).own with h1 | ⟨g', h1, _, h2⟩
    · cases A with
      | none => simp [Ch.foot] at hg
      | some a => simp [Value.ownBlock] at h1
    · cases A with
      | none => simp [Ch.foot] at hg
      | some a => simp [Ch.foot] at hg; simp [Value.ownBlock] at h1; omega
  | ro A xs => cases hg
  | app A n cap el sz xs =>
    cases A with
    | none => simp [Ch.foot] at hg
    | some a =>
      simp [Ch.foot] at hg
      rcases (show Sl w 0 el sz (.slice (some a) n cap) n xs ∨ Full w (some a) n cap sz xs from h) with h | ⟨_, _, _, a', h1, h2, _⟩
      · rcases h.own with h1 | ⟨g', h1, _, h2⟩
        · simp [Value.ownBlock] at h1
        · simp [Value.ownBlock] at h1; omega
      · injection h1 with h1; subst h1; omega
theorem Sl.keepC {S : Nat → Prop} {el : TypeId} {sz n cap : Nat} {A : Option Addr} {xs : List Value} (h : Sl w 0 el sz (.slice A n cap) n xs) (hc : Chg w S w') (hf : ∀ g, A.map (·.block) = some g → ¬ S g) : Sl w' 0 el sz (.slice A n cap) n xs := by
  obtain ⟨h1, h2⟩ := h
  refine ⟨h1, ?_⟩
  rcases h2 with h2 | ⟨g, cap', cur, h2, hb, hg, rest⟩
  · exact .inl h2
  · refine .inr ⟨g, cap', cur, h2, hb, ?_, rest⟩
    injection h2 with h2
    subst h2
    exact (hc.block g (Array.getElem?_eq_some_iff.1 hg).1 (hf g rfl)).trans hg
/-- A part stays where nothing of it has changed. -/
theorem Ch.Is.keep {S : Nat → Prop} (h : c.Is w) (hc : Chg w S w') (hf : ∀ g, c.foot = some g → ¬ S g) (hro : c.isRo = false) : c.Is w' := by
  cases c with
  | blk g t cs =>
    have h : Blk w g t cs.toArray := h
    exact (hc.block g h.lt (hf g rfl)).trans h
  | obj g o =>
    have h : w.heap[g]? = some o := h
    exact (hc.block g (Array.getElem?_eq_some_iff.1 h).1 (hf g rfl)).trans h
  | own A n cap el sz xs =>
    exact Sl.keepC (show Sl w 0 el sz (.slice A n cap) n xs from h) hc hf
  | app A n cap el sz xs =>
    rcases (show Sl w 0 el sz (.slice A n cap) n xs ∨ Full w A n cap sz xs from h) with h | ⟨h0, h1, h2, a, rfl, h4, h5⟩
    · exact .inl (Sl.keepC h hc hf)
    · refine .inr ⟨h0, h1, h2, a, rfl, Nat.lt_of_lt_of_le h4 hc.size, fun j u hu => ?_⟩
      rw [World.cell?_of_block (w := w) (by rw [add_block]; exact hc.block a.block h4 (hf _ rfl))]
      exact h5 j u hu
  | ro A xs => cases hro
theorem Rd.keep {S : Nat → Prop} {A : Option Addr} {xs : List Value} (h : Rd w A xs) (hc : Chg w S w') (hf : xs = [] ∨ ∃ a, A = some a ∧ ¬ S a.block) : Rd w' A xs := by
  rcases h with h | ⟨a, rfl, h⟩
  · exact .inl h
  · rcases hf with hf | ⟨a', ha', hf⟩
    · exact .inl hf
    · injection ha' with ha'
      subst ha'
      refine .inr ⟨a, rfl, fun j u hu => ?_⟩
      have h1 := h j u hu
      have h2 := cell_lt h1
      rw [add_block] at h2
      rw [World.cell?_of_block (w := w) (by rw [add_block]; exact hc.block a.block h2 hf)]
      exact h1

/-- What was known holds behind a change of some of it; new parts come in their place. -/
theorem St.step {pre post Γ : List Ch} (h : St w0 M w (pre ++ Γ)) (h' : St w (feet pre) w' post) (hro : ∀ c ∈ post, c.isRo = false) : St w0 M w' (post ++ Γ) := by
  have hp := List.pairwise_append.1 h.apart
  have hfeet : ∀ g, feet pre g → w0.heap.size ≤ g ∨ M g := fun g ⟨c, hc, hg⟩ => by
    have h1 := (h.hold c (List.mem_append_left _ hc)).2
    cases c with
    | ro A xs => cases hg
    | blk g' t cs => exact h1 g hg
    | obj g' o => exact h1 g hg
    | own A n cap el sz xs => exact h1 g hg
    | app A n cap el sz xs => exact h1 g hg
  have hoff : ∀ c ∈ Γ, ∀ g, c.foot = some g → ¬ feet pre g := fun c hc g hg ⟨d, hd, hd'⟩ => hp.2.2 d hd c hc g hd' hg
  refine ⟨⟨h'.chg.os.trans h.chg.os, h'.chg.tape.trans h.chg.tape, h'.chg.output.trans h.chg.output, Nat.le_trans h.chg.size h'.chg.size, fun k hk hM => ?_⟩, fun c hc => ?_, ?_⟩
  · refine (h'.chg.block k (Nat.lt_of_lt_of_le hk h.chg.size) fun hf => ?_).trans (h.chg.block k hk hM)
    rcases hfeet k hf with h1 | h1
    · omega
    · exact hM h1
  · rcases List.mem_append.1 hc with hc | hc
    · obtain ⟨h1, h2⟩ := h'.hold c hc
      refine ⟨h1, ?_⟩
      have h3 := hro c hc
      have h4 : ∀ g, c.foot = some g → w0.heap.size ≤ g ∨ M g := fun g hg => by
        have : w.heap.size ≤ g ∨ feet pre g := by
          cases c with
          | ro A xs => cases h3
          | blk g' t cs => exact h2 g hg
          | obj g' o => exact h2 g hg
          | own A n cap el sz xs => exact h2 g hg
          | app A n cap el sz xs => exact h2 g hg
        rcases this with h5 | h5
        · exact .inl (Nat.le_trans h.chg.size h5)
        · exact hfeet g h5
      cases c with
      | ro A xs => cases h3
      | blk g' t cs => exact h4
      | obj g' o => exact h4
      | own A n cap el sz xs => exact h4
      | app A n cap el sz xs => exact h4
    · obtain ⟨h1, h2⟩ := h.hold c (List.mem_append_right _ hc)
      refine ⟨?_, h2⟩
      cases hr : c.isRo with
      | false => exact h1.keep h'.chg (hoff c hc) hr
      | true =>
        cases c with
        | ro A xs =>
          refine Rd.keep (show Rd w A xs from h1) h'.chg ?_
          rcases h2 with h2 | ⟨a, h2, h3, h4⟩
          · exact .inl h2
          · refine .inr ⟨a, h2, fun hf => ?_⟩
            rcases hfeet _ hf with h5 | h5
            · omega
            · exact h4 h5
        | blk g' t cs => cases hr
        | obj g' o => cases hr
        | own A n cap el sz xs => cases hr
        | app A n cap el sz xs => cases hr
  · refine List.pairwise_append.2 ⟨h'.apart, hp.2.1, fun a ha b hb g hg hb' => ?_⟩
    have h3 := hro a ha
    have h2 := (h'.hold a ha).2
    have h5 : w.heap.size ≤ g ∨ feet pre g := by
      cases a with
      | ro A xs => cases h3
      | blk g' t cs => exact h2 g hg
      | obj g' o => exact h2 g hg
      | own A n cap el sz xs => exact h2 g hg
      | app A n cap el sz xs => exact h2 g hg
    rcases h5 with h5 | h5
    · have := (h.hold b (List.mem_append_right _ hb)).1.lt hb'
      omega
    · exact hoff b hb g hb' h5

/-- The parts that a call is handed. -/
theorem St.part {pre Γ : List Ch} (h : St w0 M w (pre ++ Γ)) : St w (feet pre) w pre := by
  refine ⟨Chg.refl _ _, fun c hc => ?_, (List.pairwise_append.1 h.apart).1⟩
  obtain ⟨h1, h2⟩ := h.hold c (List.mem_append_left _ hc)
  refine ⟨h1, ?_⟩
  cases c with
  | ro A xs =>
    rcases h2 with h2 | ⟨a, h2, h3, h4⟩
    · exact .inl h2
    · refine .inr ⟨a, h2, Nat.lt_of_lt_of_le h3 h.chg.size, fun ⟨d, hd, hd'⟩ => ?_⟩
      have h5 := (h.hold d (List.mem_append_left _ hd)).2
      have h6 : w0.heap.size ≤ a.block ∨ M a.block := by
        cases d with
        | ro A xs => cases hd'
        | blk g' t cs => exact h5 _ hd'
        | obj g' o => exact h5 _ hd'
        | own A n cap el sz xs => exact h5 _ hd'
        | app A n cap el sz xs => exact h5 _ hd'
      rcases h6 with h6 | h6
      · omega
      · exact h4 h6
  | blk g' t cs => exact fun g hg => .inr ⟨_, hc, hg⟩
  | obj g' o => exact fun g hg => .inr ⟨_, hc, hg⟩
  | own A n cap el sz xs => exact fun g hg => .inr ⟨_, hc, hg⟩
  | app A n cap el sz xs => exact fun g hg => .inr ⟨_, hc, hg⟩

theorem Off.symm {a b : Ch} (h : Off a b) : Off b a := fun g hb ha => h g ha hb
theorem St.perm (h : St w0 M w L) (hp : L.Perm L') : St w0 M w L' :=
  ⟨h.chg, fun c hc => h.hold c (hp.mem_iff.2 hc), hp.pairwise h.apart fun h => h.symm⟩
theorem St.sub (h : St w0 M w L) (hs : L'.Sublist L) : St w0 M w L' :=
  ⟨h.chg, fun c hc => h.hold c (hs.subset hc), h.apart.sublist hs⟩
theorem St.tail (h : St w0 M w (c :: L)) : St w0 M w L := h.sub (List.sublist_cons_self _ _)
theorem St.drop1 {a b : Ch} (h : St w0 M w (a :: b :: L)) : St w0 M w (a :: L) := h.sub (.cons_cons _ (List.sublist_cons_self _ _))
theorem St.drop2 {a b c : Ch} (h : St w0 M w (a :: b :: c :: L)) : St w0 M w (a :: b :: L) := h.sub (.cons_cons _ (.cons_cons _ (List.sublist_cons_self _ _)))
theorem St.drop3 {a b c d : Ch} (h : St w0 M w (a :: b :: c :: d :: L)) : St w0 M w (a :: b :: c :: L) := h.sub (.cons_cons _ (.cons_cons _ (.cons_cons _ (List.sublist_cons_self _ _))))
theorem St.swap1 {a b : Ch} (h : St w0 M w (a :: b :: L)) : St w0 M w (b :: a :: L) := h.perm (List.Perm.swap _ _ _)
theorem St.mono {M' : Nat → Prop} (h : St w0 M w L) (hM : ∀ g, M g ↔ M' g) : St w0 M' w L := by
  have : M = M' := funext fun g => propext (hM g)
  subst this; exact h
theorem St.below (h : St w0 M w L) (hb : Below w.heap.size w w') : St w0 M w' L := by
  have := St.step (pre := []) (post := []) (Γ := L) (by simpa using h) ⟨Chg.of_below hb _, by simp, by simp⟩ (by simp)
  simpa using this
theorem St.drew (h : St w0 M w L) : St w0 M w.drew L := h.below (Below.refl _ _).drew
theorem St.start (w : World) : St w (feet []) w [] := ⟨Chg.refl _ _, by simp, by simp⟩
theorem St.toBelow (h : St w0 (feet []) w L) : Below w0.heap.size w0 w := h.chg.below fun k ⟨_, hc, _⟩ => by cases hc
/-- A new part behind what is old. -/
theorem St.new (h : St w0 M w L) (hb : Below w.heap.size w w') (hc : c.Is w') (hro : c.isRo = false) (hn : ∀ g, c.foot = some g → w.heap.size ≤ g) : St w0 M w' (c :: L) := by
  refine St.step (pre := []) (post := [c]) (Γ := L) (by simpa using h) ⟨Chg.of_below hb _, fun d hd => ?_, by simp⟩ (by simpa using hro)
  simp only [List.mem_singleton] at hd
  subst hd
  refine ⟨hc, ?_⟩
  cases d with
  | ro A xs => cases hro
  | blk g' t cs => exact fun g hg => .inl (hn g hg)
  | obj g' o => exact fun g hg => .inl (hn g hg)
  | own A n cap el sz xs => exact fun g hg => .inl (hn g hg)
  | app A n cap el sz xs => exact fun g hg => .inl (hn g hg)
/-- The first part becomes another one: it may have moved to new memory. -/
theorem St.put {d : Ch} (h : St w0 M w (c :: L)) (hg : Chg w (fun k => c.foot = some k) w') (hd : d.Is w') (hro : d.isRo = false) (hn : ∀ g, d.foot = some g → c.foot = some g ∨ w.heap.size ≤ g) : St w0 M w' (d :: L) := by
  have hS : ∀ k, (fun k => c.foot = some k) k → feet [c] k := fun k hk => ⟨c, List.mem_singleton.2 rfl, hk⟩
  refine St.step (pre := [c]) (post := [d]) (Γ := L) h ⟨⟨hg.os, hg.tape, hg.output, hg.size, fun k hk hf => hg.block k hk fun hk' => hf (hS k hk')⟩, fun d' hd' => ?_, by simp⟩ (by simpa using hro)
  simp only [List.mem_singleton] at hd'
  subst hd'
  refine ⟨hd, ?_⟩
  have h1 : ∀ g, d'.foot = some g → w.heap.size ≤ g ∨ feet [c] g := fun g hg' => (hn g hg').elim (fun h => .inr (hS g h)) .inl
  cases d' with
  | ro A xs => cases hro
  | blk g' t cs => exact h1
  | obj g' o => exact h1
  | own A n cap el sz xs => exact h1
  | app A n cap el sz xs => exact h1
/-- What is read and never written. -/
theorem St.addRo {A : Option Addr} {xs : List Value} (h : St w0 M w L) (hr : Rd w A xs) (hf : xs = [] ∨ ∃ a, A = some a ∧ a.block < w0.heap.size ∧ ¬ M a.block) : St w0 M w (.ro A xs :: L) := by
  refine ⟨h.chg, fun c hc => ?_, ?_⟩
  · rcases List.mem_cons.1 hc with rfl | hc
    · exact ⟨hr, hf⟩
    · exact h.hold c hc
  · exact List.pairwise_cons.2 ⟨fun b _ g hg => (by cases hg), h.apart⟩
/-- At the beginning, where the call may write nothing old. -/
theorem St.startRo {A : Option Addr} {xs : List Value} {L : List Ch} (h : St w (feet []) w L) (hr : Rd w A xs) : St w (feet []) w (.ro A xs :: L) := by
  refine h.addRo hr ?_
  rcases hr with hr | ⟨a, rfl, hr⟩
  · exact .inl hr
  · cases xs with
    | nil => exact .inl rfl
    | cons x r =>
      refine .inr ⟨a, rfl, ?_, fun ⟨_, hc, _⟩ => by cases hc⟩
      have := cell_lt (hr 0 x rfl)
      rwa [add_block] at this
end

/-! ### Finding a part -/
inductive Sel : Ch → List Ch → List Ch → Prop
  | here {c : Ch} {L : List Ch} : Sel c (c :: L) L
  | there {c d : Ch} {L L' : List Ch} (h : Sel c L L') : Sel c (d :: L) (d :: L')
theorem Sel.perm {c : Ch} {L L' : List Ch} (h : Sel c L L') : L.Perm (c :: L') := by
  induction h with
  | here => exact .refl _
  | there _ ih => exact (List.Perm.cons _ ih).trans (List.Perm.swap _ _ _)
inductive Take : List Ch → List Ch → List Ch → Prop
  | nil {L : List Ch} : Take L [] L
  | cons {c : Ch} {L L1 pre Γ : List Ch} (h : Sel c L L1) (h' : Take L1 pre Γ) : Take L (c :: pre) Γ
theorem Take.perm {L pre Γ : List Ch} (h : Take L pre Γ) : L.Perm (pre ++ Γ) := by
  induction h with
  | nil => exact .refl _
  | cons h _ ih => exact h.perm.trans (List.Perm.cons _ ih)

section
variable {w0 w w' : World} {M : Nat → Prop} {L L' pre post Γ : List Ch} {c : Ch}
theorem St.call (h : St w0 M w L) (ht : Take L pre Γ) : St w (feet pre) w pre := (h.perm ht.perm).part
theorem St.take (h : St w0 M w L) (ht : Take L pre Γ) : St w0 M w (pre ++ Γ) := h.perm ht.perm
theorem St.back (h : St w0 M w L) (ht : Take L pre Γ) (h' : St w (feet pre) w' post) (hro : (post.all fun c => !c.isRo) = true) : St w0 M w' (post ++ Γ) :=
  (h.perm ht.perm).step h' fun c hc => by simpa using List.all_eq_true.1 hro c hc
theorem St.pick (h : St w0 M w L) (hs : Sel c L L') : St w0 M w (c :: L') := h.perm hs.perm
theorem St.is (h : St w0 M w L) (hs : Sel c L L') : c.Is w := ((h.pick hs).hold c List.mem_cons_self).1
/-- Only the parts that are named; in the order named. -/
theorem St.only (h : St w0 M w L) (ht : Take L pre Γ) : St w0 M w pre := (h.perm ht.perm).sub (List.sublist_append_left _ _)
end

/-! ### Slices and views of them -/
def adr (A : Option Addr) : Addr := A.getD ⟨0, 0, none⟩
/-- V, of n places and c with what is spare, begins at place o of A. -/
structure IsVw (V : Option Addr) (n c : Nat) (A : Option Addr) (o : Nat) : Prop where
  le : n ≤ c
  max : c ≤ maxLen
  at_ : c = 0 ∨ ∃ a, A = some a ∧ V = some (a.add o)
theorem IsVw.base {A : Option Addr} {n c : Nat} (h : n ≤ c) (hm : c ≤ maxLen) (h0 : A = none → c = 0) : IsVw A n c A 0 :=
  ⟨h, hm, by
    cases A with
    | none => exact .inl (h0 rfl)
    | some a => exact .inr ⟨a, rfl, by rw [add_zero]⟩⟩
theorem IsVw.cut {V A : Option Addr} {n c o lo hi : Nat} (h : IsVw V n c A o) (h1 : lo ≤ hi) (h2 : hi ≤ c) : IsVw (if c = lo then V else V.map (·.add lo)) (hi - lo) (c - lo) A (o + lo) :=
  ⟨by omega, Nat.le_trans (Nat.sub_le _ _) h.max, by
    by_cases hc : c = lo
    · exact .inl (by omega)
    · rcases h.at_ with h0 | ⟨a, h1, h2⟩
      · exact .inl (by omega)
      · refine .inr ⟨a, h1, ?_⟩
        rw [if_neg hc, h2]
        simp [add_add]⟩
theorem IsVw.addr {V A : Option Addr} {n c o i : Nat} (h : IsVw V n c A o) (hi : i < n) : ∃ a, V = some a ∧ a.add i = (adr A).add (o + i) := by
  have := h.le
  rcases h.at_ with h0 | ⟨a, h1, h2⟩
  · omega
  · exact ⟨_, h2, by rw [h1, add_add]; rfl⟩
theorem IsVw.rd {V A : Option Addr} {n c o : Nat} {xs : List Value} {w : World} (h : IsVw V n c A o) (hr : Rd w A xs) {m : Nat} (hm : m ≤ n) : Rd w V ((xs.drop o).take m) := by
  have := h.le
  rcases h.at_ with h0 | ⟨a, rfl, rfl⟩
  · exact .inl (by rw [show m = 0 by omega]; simp)
  · rcases hr with rfl | ⟨a', h1, h2⟩
    · exact .inl (by simp)
    · injection h1 with h1
      subst h1
      exact .inr ⟨_, rfl, (h2.drop o).take m⟩

/-! ### Looking up a cell -/
/-- The part tells what stands at the address. -/
def Tells (c : Ch) (a : Addr) (v : Value) : Prop :=
  match c with
  | .blk g _ cs => ∃ i, a = ⟨g, i, none⟩ ∧ cs[i]? = some v
  | .own A _ _ _ _ xs => ∃ i, a = (adr A).add i ∧ xs[i]? = some v
  | .ro A xs => ∃ i, a = (adr A).add i ∧ xs[i]? = some v
  | .app A _ _ _ _ xs => ∃ i, a = (adr A).add i ∧ xs[i]? = some v
  | .obj _ _ => False
theorem Ch.app_rd {w : World} {A : Option Addr} {n c sz : Nat} {el : TypeId} {xs : List Value} (h : (Ch.app A n c el sz xs).Is w) : Rd w A xs := by
  rcases (show Sl w 0 el sz (.slice A n c) n xs ∨ Full w A n c sz xs from h) with h | ⟨_, _, _, a, rfl, _, h5⟩
  · obtain ⟨A', cap', h1, _, _, _, hr⟩ := h.form
    injection h1 with h1
    subst h1
    exact hr
  · exact .inr ⟨a, rfl, h5⟩
theorem Tells.cell {w : World} {c : Ch} {a : Addr} {v : Value} (hc : c.Is w) (h : Tells c a v) : w.cell? a = some v := by
  cases c with
  | blk g t cs =>
    obtain ⟨i, rfl, hi⟩ := h
    rw [(show Blk w g t cs.toArray from hc).cell]; simpa using hi
  | own A n cap el sz xs =>
    obtain ⟨i, rfl, hi⟩ := h
    obtain ⟨A', cap', h1, _, _, _, hr⟩ := (show Sl w 0 el sz (.slice A n cap) n xs from hc).form
    injection h1 with h1
    subst h1
    obtain ⟨a, rfl, hat⟩ := hr.at_ (List.getElem?_eq_some_iff.1 hi).1
    exact hat i v hi
  | ro A xs =>
    obtain ⟨i, rfl, hi⟩ := h
    obtain ⟨a, rfl, hat⟩ := (show Rd w A xs from hc).at_ (List.getElem?_eq_some_iff.1 hi).1
    exact hat i v hi
  | app A n cap el sz xs =>
    obtain ⟨i, rfl, hi⟩ := h
    obtain ⟨a, rfl, hat⟩ := (Ch.app_rd hc).at_ (List.getElem?_eq_some_iff.1 hi).1
    exact hat i v hi
  | obj g o => exact h.elim
inductive Look : List Ch → Addr → Value → Prop
  | here {c : Ch} {L : List Ch} {a : Addr} {v : Value} (h : Tells c a v) : Look (c :: L) a v
  | there {c : Ch} {L : List Ch} {a : Addr} {v : Value} (h : Look L a v) : Look (c :: L) a v
theorem Look.blk {g : Nat} {t : TypeId} {cs : List Value} {L : List Ch} {i : Nat} {v : Value} (h : cs[i]? = some v) : Look (.blk g t cs :: L) ⟨g, i, none⟩ v := .here ⟨i, rfl, h⟩
theorem Look.own {A : Option Addr} {n c : Nat} {el : TypeId} {sz : Nat} {xs : List Value} {L : List Ch} {i : Nat} {v : Value} (h : xs[i]? = some v) : Look (.own A n c el sz xs :: L) ((adr A).add i) v := .here ⟨i, rfl, h⟩
theorem Look.ro {A : Option Addr} {xs : List Value} {L : List Ch} {i : Nat} {v : Value} (h : xs[i]? = some v) : Look (.ro A xs :: L) ((adr A).add i) v := .here ⟨i, rfl, h⟩
theorem Look.app {A : Option Addr} {n c : Nat} {el : TypeId} {sz : Nat} {xs : List Value} {L : List Ch} {i : Nat} {v : Value} (h : xs[i]? = some v) : Look (.app A n c el sz xs :: L) ((adr A).add i) v := .here ⟨i, rfl, h⟩
theorem Look.roB {g : Nat} {xs : List Value} {L : List Ch} {i : Nat} {v : Value} (h : xs[i]? = some v) : Look (.ro (some ⟨g, 0, none⟩) xs :: L) ⟨g, i, none⟩ v :=
  .here ⟨i, by show _ = (⟨g, 0, none⟩ : Addr).add i; rw [add_mk, Nat.zero_add], h⟩
theorem Look.mem {c : Ch} {L : List Ch} {a : Addr} {v : Value} (hc : c ∈ L) (h : Tells c a v) : Look L a v := by
  induction L with
  | nil => cases hc
  | cons d L ih =>
    rcases List.mem_cons.1 hc with rfl | hc
    · exact .here h
    · exact .there (ih hc)
theorem Look.ex {L : List Ch} {a : Addr} {v : Value} (h : Look L a v) : ∃ c ∈ L, Tells c a v := by
  induction h with
  | here h => exact ⟨_, List.mem_cons_self, h⟩
  | there _ ih => obtain ⟨c, hc, h⟩ := ih; exact ⟨c, List.mem_cons_of_mem _ hc, h⟩
theorem Look.cell {w0 w : World} {M : Nat → Prop} {L : List Ch} {a : Addr} {v : Value} (h : Look L a v) (hS : St w0 M w L) : w.cell? a = some v := by
  obtain ⟨c, hc, h⟩ := h.ex
  exact h.cell (hS.hold c hc).1
theorem bvg {l : List UInt8} {i : Nat} (h : i < l.length) : (bv l)[i]? = some (.int .u8 ((l.getD i 0).toNat : Int)) := by
  rw [bv_get h]; simp [List.getD_eq_getElem?_getD, h]
theorem zvg {l : List Int} {i : Nat} (h : i < l.length) : (zv l)[i]? = some (.int .i64 (l.getD i 0)) := by
  rw [zv_get h]; simp [List.getD_eq_getElem?_getD, h]
/-- Numbers of 64 bits. -/
def uv (l : List Nat) : List Value := l.map fun z : Nat => .int .u64 (z : Int)
@[simp] theorem uv_length (l : List Nat) : (uv l).length = l.length := by simp [uv]
theorem uvg {l : List Nat} {i : Nat} (h : i < l.length) : (uv l)[i]? = some (.int .u64 ((l.getD i 0 : Nat) : Int)) := by
  simp [uv, h, List.getD_eq_getElem?_getD]
theorem byte_lt (l : List UInt8) (i : Nat) : (l.getD i 0).toNat < 256 := UInt8.toNat_lt _

/-! ### What is read through a slice -/
inductive Rds : List Ch → Option Addr → List Value → Prop
  | own {A : Option Addr} {n c : Nat} {el : TypeId} {sz : Nat} {xs : List Value} {L : List Ch} : Rds (.own A n c el sz xs :: L) A xs
  | ro {A : Option Addr} {xs : List Value} {L : List Ch} : Rds (.ro A xs :: L) A xs
  | blk {g : Nat} {t : TypeId} {cs : List Value} {L : List Ch} : Rds (.blk g t cs :: L) (some ⟨g, 0, none⟩) cs
  | app {A : Option Addr} {n c : Nat} {el : TypeId} {sz : Nat} {xs : List Value} {L : List Ch} : Rds (.app A n c el sz xs :: L) A xs
  | there {c : Ch} {A : Option Addr} {xs : List Value} {L : List Ch} (h : Rds L A xs) : Rds (c :: L) A xs
theorem Rds.ex {L : List Ch} {A : Option Addr} {xs : List Value} (h : Rds L A xs) : ∃ c ∈ L, ∀ w, c.Is w → Rd w A xs := by
  induction h with
  | own =>
    refine ⟨_, List.mem_cons_self, fun w h => ?_⟩
    obtain ⟨A', cap', h1, _, _, _, hr⟩ := (show Sl w 0 _ _ (.slice _ _ _) _ _ from h).form
    injection h1 with h1
    subst h1
    exact hr
  | ro => exact ⟨_, List.mem_cons_self, fun w h => h⟩
  | app => exact ⟨_, List.mem_cons_self, fun w h => Ch.app_rd h⟩
  | blk => exact ⟨_, List.mem_cons_self, fun w h => .inr ⟨_, rfl, by have := (show Blk w _ _ _ from h).at_; simpa using this⟩⟩
  | there _ ih => obtain ⟨c, hc, h⟩ := ih; exact ⟨c, List.mem_cons_of_mem _ hc, h⟩
theorem Rds.rd {w0 w : World} {M : Nat → Prop} {L : List Ch} {A : Option Addr} {xs : List Value} (h : Rds L A xs) (hS : St w0 M w L) : Rd w A xs := by
  obtain ⟨c, hc, h⟩ := h.ex
  exact h w (hS.hold c hc).1
theorem Rds.look {L : List Ch} {A : Option Addr} {xs : List Value} {i : Nat} {v : Value} (h : Rds L A xs) (hi : xs[i]? = some v) : Look L ((adr A).add i) v := by
  induction h with
  | own => exact Look.own hi
  | ro => exact Look.ro hi
  | app => exact Look.app hi
  | blk => exact .here ⟨i, by show (⟨_, 0, none⟩ : Addr).add i = _; rw [add_mk, Nat.zero_add], hi⟩
  | there _ ih => exact .there (ih hi)
/-- Through a view: n places from o on. -/
def RdsV (L : List Ch) (V : Option Addr) (n : Nat) (ys : List Value) : Prop := ∀ w0 M w, St w0 M w L → Rd w V ys ∧ ys.length = n
theorem RdsV.of {L : List Ch} {V A : Option Addr} {n c o : Nat} {xs : List Value} (hv : IsVw V n c A o) (h : Rds L A xs) (hl : o + n ≤ xs.length) : RdsV L V n ((xs.drop o).take n) :=
  fun _ _ _ hS => ⟨hv.rd (h.rd hS) (Nat.le_refl _), by simp; omega⟩
theorem RdsV.whole {L : List Ch} {A : Option Addr} {n : Nat} {xs : List Value} (h : Rds L A xs) (hl : xs.length = n) : RdsV L A n xs := fun _ _ _ hS => ⟨h.rd hS, hl⟩
theorem RdsV.byte {L : List Ch} {V A : Option Addr} {n c o : Nat} {l : List UInt8} (hv : IsVw V n c A o) (h : Rds L A (bv l)) (hl : o + n ≤ l.length) : RdsV L V n (bv ((l.drop o).take n)) := by
  have := RdsV.of hv h (by simpa using hl)
  rwa [bv_take, bv_drop]
theorem RdsV.ints {L : List Ch} {V A : Option Addr} {n c o : Nat} {l : List Int} (hv : IsVw V n c A o) (h : Rds L A (zv l)) (hl : o + n ≤ l.length) : RdsV L V n (zv ((l.drop o).take n)) := by
  have := RdsV.of hv h (by simpa using hl)
  rwa [zv_take, zv_drop]

/-! ### A cell is written -/
inductive PutAt : List Value → Nat → Value → List Value → Prop
  | here {u v : Value} {r : List Value} : PutAt (u :: r) 0 v (v :: r)
  | there {u v : Value} {r r' : List Value} {i : Nat} (h : PutAt r i v r') : PutAt (u :: r) (i + 1) v (u :: r')
theorem PutAt.set {l : List Value} {i : Nat} {v : Value} {l' : List Value} (h : PutAt l i v l') : l' = l.set i v ∧ i < l.length := by
  induction h with
  | here => simp
  | there _ ih => simp [ih.1, ih.2]
/-- The part that tells of the address becomes another. -/
inductive Upd : List Ch → Addr → Value → List Ch → Prop
  | blk {g : Nat} {t : TypeId} {cs cs' : List Value} {L : List Ch} {i : Nat} {v : Value} (hi : i < cs.length) (h : cs.set i v = cs') : Upd (.blk g t cs :: L) ⟨g, i, none⟩ v (.blk g t cs' :: L)
  | own {A : Option Addr} {n c : Nat} {el : TypeId} {sz : Nat} {xs xs' : List Value} {L : List Ch} {i : Nat} {v : Value} (hi : i < xs.length) (h : xs.set i v = xs') : Upd (.own A n c el sz xs :: L) ((adr A).add i) v (.own A n c el sz xs' :: L)
  | there {c : Ch} {L L' : List Ch} {a : Addr} {v : Value} (h : Upd L a v L') : Upd (c :: L) a v (c :: L')
theorem Upd.blkP {g : Nat} {t : TypeId} {cs cs' : List Value} {L : List Ch} {i : Nat} {v : Value} (h : PutAt cs i v cs') : Upd (.blk g t cs :: L) ⟨g, i, none⟩ v (.blk g t cs' :: L) := .blk h.set.2 h.set.1.symm
theorem bv_set (l : List UInt8) (i : Nat) (k : Int) (b : UInt8) (h : k = (b.toNat : Int)) : (bv l).set i (.int .u8 k) = bv (l.set i b) := by
  subst h; simp [bv, List.map_set]
theorem zv_set (l : List Int) (i : Nat) (z : Int) : (zv l).set i (.int .i64 z) = zv (l.set i z) := by simp [zv, List.map_set]
theorem uv_set (l : List Nat) (i : Nat) (z : Nat) : (uv l).set i (.int .u64 (z : Int)) = uv (l.set i z) := by simp [uv, List.map_set]
theorem Upd.ownB {A : Option Addr} {n c : Nat} {el : TypeId} {sz : Nat} {l : List UInt8} {L : List Ch} {i k : Nat} {z : Int} (hz : z = (k : Int)) (hk : k < 256) (hi : i < l.length) : Upd (.own A n c el sz (bv l) :: L) ((adr A).add i) (.int .u8 z) (.own A n c el sz (bv (l.set i (UInt8.ofNat k))) :: L) :=
  .own (by simpa using hi) (bv_set _ _ _ _ (by rw [hz, UInt8.toNat_ofNat', Nat.mod_eq_of_lt hk]))
theorem Upd.ownZ {A : Option Addr} {n c : Nat} {el : TypeId} {sz : Nat} {l : List Int} {L : List Ch} {i : Nat} {z : Int} (hi : i < l.length) : Upd (.own A n c el sz (zv l) :: L) ((adr A).add i) (.int .i64 z) (.own A n c el sz (zv (l.set i z)) :: L) :=
  .own (by simpa using hi) (zv_set _ _ _)
theorem Upd.ownU {A : Option Addr} {n c : Nat} {el : TypeId} {sz : Nat} {l : List Nat} {L : List Ch} {i k : Nat} {z : Int} (hz : z = (k : Int)) (hi : i < l.length) : Upd (.own A n c el sz (uv l) :: L) ((adr A).add i) (.int .u64 z) (.own A n c el sz (uv (l.set i k)) :: L) :=
  .own (by simpa using hi) (by rw [hz]; exact uv_set _ _ _)
/-- What a store does to the world. -/
structure Stores (w : World) (a : Addr) (v : Value) : Prop where
  cell : ∃ u, w.cell? a = some u
  frozen : w.frozen? a = false
  spot : a.spot = none
theorem Upd.run {w0 w : World} {M : Nat → Prop} {L L' : List Ch} {a : Addr} {v : Value} (hu : Upd L a v L') (hv : v.oneCell' = true) (hS : St w0 M w L) : Stores w a v ∧ St w0 M (w.setCell a v) L' := by
  have hsel : ∃ c d Γ, L.Perm (c :: Γ) ∧ L'.Perm (d :: Γ) ∧ ((∃ g t cs i, c = .blk g t cs ∧ i < cs.length ∧ a = ⟨g, i, none⟩ ∧ d = .blk g t (cs.set i v)) ∨
      (∃ A n cap el sz xs i, c = .own A n cap el sz xs ∧ i < xs.length ∧ a = (adr A).add i ∧ d = .own A n cap el sz (xs.set i v))) := by
    clear hS
    induction hu with
    | blk hi h => subst h; exact ⟨_, _, _, .refl _, .refl _, .inl ⟨_, _, _, _, rfl, hi, rfl, rfl⟩⟩
    | own hi h => subst h; exact ⟨_, _, _, .refl _, .refl _, .inr ⟨_, _, _, _, _, _, _, rfl, hi, rfl, rfl⟩⟩
    | there _ ih =>
      obtain ⟨c', d, Γ, h1, h2, h3⟩ := ih hv
      exact ⟨c', d, _ :: Γ, (List.Perm.cons _ h1).trans (List.Perm.swap _ _ _), (List.Perm.cons _ h2).trans (List.Perm.swap _ _ _), h3⟩
  obtain ⟨c, d, Γ, h1, h2, h3⟩ := hsel
  have hS := hS.perm h1
  have hc := (hS.hold c List.mem_cons_self).1
  rcases h3 with ⟨g, t, cs, i, rfl, hi, rfl, rfl⟩ | ⟨A, n, cap, el, sz, xs, i, rfl, hi, rfl, rfl⟩
  · have hb : Blk w g t cs.toArray := hc
    refine ⟨⟨⟨cs[i], by rw [hb.cell]; simp [hi]⟩, hb.frozen i, rfl⟩, ?_⟩
    refine (hS.put (d := .blk g t (cs.set i v)) (Chg.of_grown (grown_setCell w _ v)) ?_ rfl (fun g hg => .inl hg)).perm h2.symm
    have := hb.setCell i v
    simpa [Ch.Is] using this
  · obtain ⟨hl, h4⟩ := (show Sl w 0 el sz (.slice A n cap) n xs from hc)
    rcases h4 with ⟨h4, h5⟩ | ⟨g, cap', cur, h4, hb, hg, hn, hm, hcs, htk⟩
    · subst h5; simp at hl; subst hl; simp at hi
    · injection h4 with h4 h5 h6
      subst h4 h6
      have hadr : (adr (some (⟨g, 0, none⟩ : Addr))).add i = ⟨g, i, none⟩ := by
        show (⟨g, 0, none⟩ : Addr).add i = _
        rw [add_mk, Nat.zero_add]
      rw [hadr]
      have hicur : i < cur.size := by
        have : xs.length ≤ cur.size := by rw [← htk, List.length_take]; simp; omega
        omega
      have hblk : Blk w g el cur := hg
      refine ⟨⟨⟨cur[i], by rw [hblk.cell]; simp [hicur]⟩, hblk.frozen i, rfl⟩, ?_⟩
      refine (hS.put (d := .own (some ⟨g, 0, none⟩) n cap el sz (xs.set i v)) (Chg.of_grown (grown_setCell w ⟨g, i, none⟩ v)) ?_ rfl (fun g hg => .inl hg)).perm h2.symm
      refine ⟨by simpa using hl, .inr ⟨g, cap, _, rfl, Nat.zero_le _, hblk.setCell i v, hn, hm, by simpa using hcs, ?_⟩⟩
      rw [Array.toList_setIfInBounds, List.take_set, htk]

end Go.Fk
