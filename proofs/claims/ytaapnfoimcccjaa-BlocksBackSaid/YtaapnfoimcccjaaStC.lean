/-
  Quiet reading of whatever parts are known; the builtin copy into a slice of the call's own. It holds for any program; conditions stand at each theorem.
-/
import Derived.Test.YtaapnfoimcccjaaStX
import Derived.Laws.CopyRow
import Derived.Laws.IdiomCopy
namespace Go.Fk
open Go.RowKit

/-- The part, only read. -/
def Ch.toRo : Ch → Ch
  | .blk g _ cs => .ro (some ⟨g, 0, none⟩) cs
  | .own A _ _ _ _ xs => .ro A xs
  | .app A _ _ _ _ xs => .ro A xs
  | .ro A xs => .ro A xs
  | .obj _ _ => .ro none []
section
variable {w0 w : World} {M : Nat → Prop} {L : List Ch} {a : Addr} {v : Value}
theorem Ch.rdOf {A : Option Addr} {xs : List Value} {c : Ch} (hc : c.Is w) (h : c.toRo = .ro A xs) : Rd w A xs := by
  cases c with
  | blk g t cs =>
    injection h with h1 h2; subst h1 h2
    exact Rds.rd (L := [.blk g t cs]) (w0 := w) (M := fun _ => True) .blk ⟨Chg.refl _ _, fun c h => by rw [List.mem_singleton.1 h]; exact ⟨hc, fun _ _ => .inr trivial⟩, by simp⟩
  | own A' n c el sz ys =>
    injection h with h1 h2; subst h1 h2
    exact Rds.rd (L := [.own A' n c el sz ys]) (w0 := w) (M := fun _ => True) .own ⟨Chg.refl _ _, fun c h => by rw [List.mem_singleton.1 h]; exact ⟨hc, fun _ _ => .inr trivial⟩, by simp⟩
  | app A' n c el sz ys =>
    injection h with h1 h2; subst h1 h2
    exact Ch.app_rd hc
  | ro A' ys =>
    injection h with h1 h2; subst h1 h2
    exact hc
  | obj g o =>
    injection h with h1 h2; subst h1 h2
    exact .inl rfl
theorem Ch.toRo_ro (c : Ch) : ∃ A xs, c.toRo = .ro A xs := by cases c <;> exact ⟨_, _, rfl⟩
/-- All that is known, only read. -/
theorem St.quiet (hS : St w0 M w L) : St w (feet []) w (L.map Ch.toRo) := by
  refine ⟨Chg.refl _ _, fun c hc => ?_, ?_⟩
  · obtain ⟨b, hb, rfl⟩ := List.mem_map.1 hc
    obtain ⟨A, xs, h⟩ := b.toRo_ro
    have hr : Rd w A xs := Ch.rdOf (hS.hold b hb).1 h
    rw [h]
    refine ⟨hr, ?_⟩
    rcases hr with hr | ⟨a, rfl, hr⟩
    · exact .inl hr
    · cases xs with
      | nil => exact .inl rfl
      | cons x r =>
        refine .inr ⟨a, rfl, ?_, fun ⟨_, hc, _⟩ => by cases hc⟩
        have := cell_lt (hr 0 x rfl)
        rwa [add_block] at this
  · refine List.pairwise_map.2 (List.Pairwise.imp ?_ (List.pairwise_of_forall (R := fun _ _ => True) fun _ _ => trivial))
    intro c d _ g hg
    obtain ⟨A, xs, h⟩ := c.toRo_ro
    rw [h] at hg
    cases hg
theorem Tells.quiet {c : Ch} (h : Tells c a v) : Tells c.toRo a v := by
  cases c with
  | blk g t cs =>
    obtain ⟨i, rfl, hi⟩ := h
    exact ⟨i, by show _ = (⟨g, 0, none⟩ : Addr).add i; rw [add_mk, Nat.zero_add], hi⟩
  | own A n c el sz xs => exact h
  | app A n c el sz xs => exact h
  | ro A xs => exact h
  | obj g o => exact h.elim
theorem RdsV.there {V : Option Addr} {n : Nat} {ys : List Value} (h : RdsV L V n ys) (c : Ch) : RdsV (c :: L) V n ys := fun w0 M w hS => h w0 M w hS.tail
theorem Look.quiet (h : Look L a v) : Look (L.map Ch.toRo) a v := by
  obtain ⟨c, hc, h⟩ := h.ex
  exact Look.mem (List.mem_map.2 ⟨c, hc, rfl⟩) h.quiet
end

section
variable {P : Program} {N : Nat} {ops : Array Oper} {K : Env → World → Prop} {rest : List Oper} {e : Env} {w : World} {ty : TypeId} {pos : String} {after : Array Edge} {x y : Operand}
variable {w0 : World} {M : Nat → Prop} {L L1 L' : List Ch} {t t' el : TypeId} {d : Option Tmp}
/-- What is written of a list from place o on. -/
def laid (xs : List Value) (o : Nat) (ys : List Value) : List Value := xs.take o ++ ys ++ xs.drop (o + ys.length)
theorem laid_length {xs ys : List Value} {o : Nat} (h : o + ys.length ≤ xs.length) : (laid xs o ys).length = xs.length := by
  simp [laid]; omega
theorem WpL.copy [ht : SliceT P t el] [hs : SizeT P el 1] {A S V : Option Addr} {n c o m n' c' cs : Nat} {xs ys zs : List Value} (hS : St w0 M w L) (hd : dOk N d = true) (hx : e.eval x = .slice V n' c') (hy : e.eval y = .slice S m cs) (hv : IsVw V n' c' A o)
    (hsw : Swap (.own A n c el 1 xs) (.own A n c el 1 zs) L L') (hr : RdsV L S m ys) (h1 : ∀ u ∈ ys, u.oneCell' = true) (hm : m ≤ n') (hfit : o + m ≤ xs.length) (hz : laid xs o ys = zs)
    (h : ∀ w', St w0 M w' L' → WpL P N ops K rest (e.setD d (.int .i64 (m : Int))) w') :
    WpL P N ops K (⟨d, .call { callee := .builtin .copy, args := #[x, y], argTypes := #[t, t'] }, ty, pos, after, none⟩ :: rest) e w := by
  subst hz
  obtain ⟨hrd, hlen⟩ := hr w0 M w hS
  obtain ⟨Γ, h2, h3⟩ := hsw.perm
  have hS1 := hS.perm h2
  by_cases h0 : m = 0
  · subst h0
    obtain rfl : ys = [] := List.eq_nil_of_length_eq_zero hlen
    have hrun := run_copy_none (P := P) w t t' ty el V S n' c' 0 cs ht.hu hs.hs (Nat.zero_min _)
    refine WpL.run hd (v := .int .i64 0) (w' := w) (by simp [execOp, resolve, invoke, builtin, hx, hy, hrun, goInt]) (h w ?_)
    have : laid xs o [] = xs := by simp [laid]
    rw [this] at h3
    exact hS1.perm h3.symm
  · have hc : Sl w 0 el 1 (.slice A n c) n xs := (hS1.hold _ List.mem_cons_self).1
    obtain ⟨hl, h4⟩ := hc
    rcases h4 with ⟨h4, h5⟩ | ⟨g, cap', cur, h4, hb, hg, hn, hmx, hcs, htk⟩
    · subst h5; simp at hl; subst hl; simp at hfit; omega
    · injection h4 with h4 h5 h6
      subst h4 h6
      rcases hv.at_ with h7 | ⟨a, h7, h8⟩
      · have := hv.le; omega
      injection h7 with h7
      subst h7
      rw [add_mk, Nat.zero_add] at h8
      subst h8
      rcases hrd with rfl | ⟨b, rfl, hat⟩
      · simp at hlen; omega
      rw [Nat.mul_one] at hcs htk
      have hxc : xs.length ≤ cur.size := by rw [← htk, List.length_take]; simp; omega
      have hrun := run_copy_row (P := P) w t t' ty el g o n' c' b m cs cur el ys ht.hu hs.hs hg (by rw [hlen]; exact (Nat.min_eq_left hm).symm) (fun j u hu => hat j u hu) (by rw [hlen]; omega) h1
      refine WpL.run hd (v := .int .i64 (m : Int)) (w' := w.setRow g (cur.toList.take o ++ ys ++ cur.toList.drop (o + ys.length)).toArray) (by simp [execOp, resolve, invoke, builtin, hx, hy, hrun, goInt, hlen]) (h _ ?_)
      refine (hS1.put (d := .own (some ⟨g, 0, none⟩) n c el 1 (laid xs o ys)) (Chg.of_grown (grown_setRow _ _ _)) ⟨?_, .inr ⟨g, c, _, rfl, Nat.zero_le _, setRow_heap w g cur _ el _ hg, hn, hmx, ?_, ?_⟩⟩ rfl fun g hg => .inl hg).perm h3.symm
      · rw [laid_length (by omega)]; exact hl
      · simp only [List.size_toArray, List.length_append, List.length_take, List.length_drop, Array.length_toList]
        omega
      · rw [Nat.mul_one]
        have hxl : xs.length = n := by omega
        have hcut : cur.toList = xs ++ cur.toList.drop n := by
          conv => lhs; rw [← List.take_append_drop n cur.toList]
          rw [htk]
        show (cur.toList.take o ++ ys ++ cur.toList.drop (o + ys.length)).take n = laid xs o ys
        rw [hcut, List.take_append_of_le_length (show o ≤ xs.length by omega), List.drop_append_of_le_length (show o + ys.length ≤ xs.length by omega), ← List.append_assoc]
        rw [show xs.take o ++ ys ++ xs.drop (o + ys.length) = laid xs o ys from rfl, show n = (laid xs o ys).length by rw [laid_length (by omega)]; omega]
        exact List.take_left
theorem OpW.mono {o : Oper} {K K' : Env → World → Prop} (h : OpW P o e w K) (hk : ∀ e w, K e w → K' e w) : OpW P o e w K' := by
  unfold OpW at h ⊢
  generalize (execOp e.eval o).run P w = r at h ⊢
  cases r with
  | halt x w' => exact h.elim
  | ok x w' =>
    cases x <;> simp only at h ⊢
    case value v => exact hk _ _ h
    case skip => exact hk _ _ h
    case enter f args => exact h.mono fun x w'' ⟨v, h1, h2⟩ => ⟨v, h1, hk _ _ h2⟩
    case row row args => exact h.mono fun v w'' hx => hk _ _ hx
theorem WpL.mono {K K' : Env → World → Prop} (hk : ∀ e w, K e w → K' e w) : ∀ {l : List Oper} {e : Env} {w : World}, WpL P N ops K l e w → WpL P N ops K' l e w
  | [], _, _, h => hk _ _ h
  | o :: rest, e, w, h => by
    obtain ⟨hd, h⟩ := h
    refine ⟨hd, ?_⟩
    by_cases hw : Region.wanted o (yieldedE ops e) = true
    · rw [if_pos hw] at h ⊢
      exact h.mono fun e w h => WpL.mono hk h
    · rw [if_neg hw] at h ⊢
      exact WpL.mono hk h
/-- What holds behind a region's last operation, in the middle of it. -/
theorem WpL.cut {K : Env → World → Prop} {Q : Exit → Env → World → Prop} (J : Env → World → Prop) (h : WpL P N ops J rest e w) (hk : ∀ e w, J e w → K e w) : WpL P N ops (thenQ K Q .normal) rest e w := WpL.mono hk h
end
end Go.Fk
