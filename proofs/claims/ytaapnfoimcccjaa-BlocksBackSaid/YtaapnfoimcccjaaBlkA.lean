/-
  Blocks in rows; a die's blocks as an iterator; one block of a die.
-/
import Derived.Test.YtaapnfoimcccjaaRow
import Derived.Test.YtaapnfoimcccjaaRgx
import Derived.Test.YtaapnfoimcccjaaLowA
namespace Go.Fk
open Go.RowKit
theorem WpG.loopUp {P : Program} {N : Nat} {ro : Option Nat} {ds : List Deferred} {Q : PostD} {e : Env} {w : World} {c : Code} (M : Nat) (I : Nat → Env → World → Prop) {k0 : Nat} (hk0 : k0 ≤ M) (h0 : I k0 e w)
    (round : ∀ k e w, k ≤ M → I k e w → WpG ro P N ds c (thenD (fun ds' e' w' => ds' = ds ∧ k < M ∧ I (k + 1) e' w') Q) e w) : WpG ro P N ds (.loop c) Q e w := by
  let J : Nat → Env → World → Prop := fun m e w => ∃ k, k ≤ M ∧ m = M - k ∧ I k e w
  have hex : ∀ e w, (∃ m, J m e w) → ∃ m, J m e w ∧ ∀ k, k < m → ¬ J k e w := fun e w ⟨m, hm⟩ => by
    induction m using Nat.strongRecOn with
    | _ m ih =>
      by_cases h : ∃ k, k < m ∧ J k e w
      · obtain ⟨k, hk, hi⟩ := h; exact ih k hk hi
      · exact ⟨m, hm, fun k hk hi => h ⟨k, hk, hi⟩⟩
  let μ : Env → World → Nat := fun e w => @dite Nat (∃ m, J m e w) (Classical.propDecidable _) (fun h => (hex e w h).choose) (fun _ => 0)
  have hμ : ∀ e w, (∃ m, J m e w) → J (μ e w) e w ∧ ∀ k, k < μ e w → ¬ J k e w := fun e w h => by
    have : μ e w = (hex e w h).choose := by simp only [μ]; rw [dif_pos h]
    rw [this]; exact (hex e w h).choose_spec
  refine WpG.loop (fun ds' e w => ds' = ds ∧ ∃ m, J m e w) μ ⟨rfl, _, k0, hk0, rfl, h0⟩ fun ds' e w ⟨hds, hI⟩ => ?_
  subst hds
  obtain ⟨⟨k, hk, hm, hi⟩, hmin⟩ := hμ e w hI
  refine (round k e w hk hi).mono fun x ds2 e' w' hx => ?_
  cases x with
  | normal =>
    obtain ⟨h1, h2, h3⟩ := hx
    have hJ : J (M - (k + 1)) e' w' := ⟨k + 1, h2, rfl, h3⟩
    refine ⟨⟨h1, _, hJ⟩, ?_⟩
    have h4 := hμ e' w' ⟨_, hJ⟩
    rcases Nat.lt_or_ge (μ e' w') (μ e w) with h5 | h5
    · exact h5
    · exfalso
      exact h4.2 (M - (k + 1)) (by omega) hJ
  | _ => exact hx
theorem doneQ_c1 {P : Program} {fn : Func} {R : Ending → World → Prop} {e : Env} {w w0 : World} {M : Nat → Prop} {L : List Ch} {p : Tmp} {ty : TypeId} {a : Addr} {v : Value} [h : Cell1 P ty] (hr : fn.results = #[.cell p ty]) (hp : e p = .pointer (some a)) (hS : St w0 M w L) (hl : Look L a v) (hR : R (.returned v) w) : doneQ P fn R .ret e w :=
  ⟨v, fun tmps ht => by
    obtain ⟨d, hu, hd⟩ := h.hu
    have hagg : (isAgg ty).run P w = .ok false w := by
      unfold isAgg
      rw [Sem.run_bind, run_underlying hu w]
      cases d <;> simp_all
    have hp' : tmps[p]?.getD undef = .pointer (some a) := by have := ht p; rw [hp] at this; simpa using this
    simp [results, hr, hp', asAddr, loadVar, hagg, hl.cell hS], hR⟩
end Go.Fk
namespace Go.Proofs.Ytaapnfoimcccjaa
open Go.Fk Go.RowKit
attribute [local irreducible] Wp WpL Det thenQ blockQ WpG thenD blockG
/-- A block: its state, its erases. -/
structure Bk where
  st : Nat
  er : Nat
theorem Bk.ext' {a b : Bk} (h1 : a.st = b.st) (h2 : a.er = b.er) : a = b := by cases a; cases b; simp_all
abbrev Bk.cells (b : Bk) : List Value := [.int .i64 (b.st : Int), .int .u32 (b.er : Int)]
def kv (l : List Bk) : List Value := l.flatMap fun b => b.cells
theorem kv_cons (b : Bk) (l : List Bk) : kv (b :: l) = .int .i64 (b.st : Int) :: .int .u32 (b.er : Int) :: kv l := rfl
theorem kv_length : ∀ l : List Bk, (kv l).length = l.length * 2
  | [] => rfl
  | b :: l => by rw [kv_cons, List.length_cons, List.length_cons, kv_length l, List.length_cons]; omega
theorem kv_st : ∀ {l : List Bk} {i : Nat} (h : i < l.length), (kv l)[i * 2]? = some (.int .i64 (l[i].st : Int))
  | b :: l, 0, _ => rfl
  | b :: l, i + 1, h => by
    rw [kv_cons, show (i + 1) * 2 = i * 2 + 1 + 1 by omega, List.getElem?_cons_succ, List.getElem?_cons_succ, kv_st (show i < l.length by simpa using h)]
    rfl
theorem kv_er : ∀ {l : List Bk} {i : Nat} (h : i < l.length), (kv l)[i * 2 + 1]? = some (.int .u32 (l[i].er : Int))
  | b :: l, 0, _ => rfl
  | b :: l, i + 1, h => by
    rw [kv_cons, show (i + 1) * 2 + 1 = i * 2 + 1 + 1 + 1 by omega, List.getElem?_cons_succ, List.getElem?_cons_succ, kv_er (show i < l.length by simpa using h)]
    rfl
theorem kv_set_st : ∀ {l : List Bk} {i : Nat} (s : Nat) (h : i < l.length), (kv l).set (i * 2) (.int .i64 (s : Int)) = kv (l.set i ⟨s, l[i].er⟩)
  | b :: l, 0, s, _ => rfl
  | b :: l, i + 1, s, h => by
    rw [kv_cons, show (i + 1) * 2 = i * 2 + 1 + 1 by omega, List.set_cons_succ, List.set_cons_succ, kv_set_st s (show i < l.length by simpa using h)]
    rfl
theorem kv_set_er : ∀ {l : List Bk} {i : Nat} (s : Nat) (h : i < l.length), (kv l).set (i * 2 + 1) (.int .u32 (s : Int)) = kv (l.set i ⟨l[i].st, s⟩)
  | b :: l, 0, s, _ => rfl
  | b :: l, i + 1, s, h => by
    rw [kv_cons, show (i + 1) * 2 + 1 = i * 2 + 1 + 1 + 1 by omega, List.set_cons_succ, List.set_cons_succ, kv_set_er s (show i < l.length by simpa using h)]
    rfl
end Go.Proofs.Ytaapnfoimcccjaa
