/-
  By how much a die's erases differ.
-/
import Derived.Test.YtaapnfoimcccjaaBlkE
import Derived.Test.YtaapnfoimcccjaaRgk
namespace Go.Proofs.Ytaapnfoimcccjaa
open Go.Fk Go.RowKit
attribute [local irreducible] Wp WpL Det thenQ blockQ WpG thenD blockG
instance : Elem Try.prog 4 1 1 (.bool false) := ⟨by kernel_rfl, rfl, by decide⟩
def sprS (o : Option (Nat × Nat)) (b : Bk) : Option (Nat × Nat) := if b.st = 4 then o else match o with
  | none => some (b.er, b.er)
  | some (lo, hi) => some (min lo b.er, max hi b.er)
def sprN (l : List Bk) : Option (Nat × Nat) := l.foldl sprS none
theorem sprN_step {l : List Bk} {i : Nat} (h : i < l.length) : sprN (l.take (i + 1)) = sprS (sprN (l.take i)) (l.getD i ⟨0, 0⟩) := by
  unfold sprN
  rw [take_snocB h, List.foldl_append]
  rfl
def loV : Option (Nat × Nat) → Int
  | none => 0
  | some (lo, _) => lo
def hiV : Option (Nat × Nat) → Int
  | none => 0
  | some (_, hi) => hi
def sprOk : Option (Nat × Nat) → Prop
  | none => True
  | some (lo, hi) => lo ≤ hi ∧ hi < 4294967296
theorem sprS_ok {o : Option (Nat × Nat)} {b : Bk} (h : sprOk o) (hb : b.er < 4294967296) : sprOk (sprS o b) := by
  unfold sprS
  split
  · exact h
  · cases o with
    | none => exact ⟨Nat.le_refl _, hb⟩
    | some p =>
      obtain ⟨lo, hi⟩ := p
      obtain ⟨h1, h2⟩ := h
      exact ⟨by show min lo b.er ≤ max hi b.er; omega, by show max hi b.er < _; omega⟩
theorem sprN_ok {l : List Bk} (hf : Fit l) : sprOk (sprN l) := by
  unfold sprN
  have : ∀ (l : List Bk) (o : Option (Nat × Nat)), (∀ b ∈ l, b.er < 4294967296) → sprOk o → sprOk (l.foldl sprS o) := fun l => by
    induction l with
    | nil => intro o _ h; exact h
    | cons b l ih => intro o hb h; exact ih _ (fun x hx => hb x (List.mem_cons_of_mem _ hx)) (sprS_ok h (hb b List.mem_cons_self))
  exact this l none (fun b hb => (hf b hb).1) trivial
theorem lo_ok {o : Option (Nat × Nat)} (h : sprOk o) : 0 ≤ loV o ∧ loV o ≤ hiV o ∧ hiV o < 4294967296 := by
  cases o with
  | none => exact ⟨Int.le_refl _, Int.le_refl _, by decide⟩
  | some p =>
    obtain ⟨lo, hi⟩ := p
    obtain ⟨h1, h2⟩ := h
    exact ⟨by show (0 : Int) ≤ (lo : Int); omega, by show (lo : Int) ≤ (hi : Int); omega, by show (hi : Int) < _; omega⟩
def spreadL (l : List Bk) : Int := hiV (sprN l) - loV (sprN l)
section
variable {w w0 : World} {M : Nat → Prop} {L : List Ch} {g nd cd : Nat} {D : Option Addr} {rows : List Value}
theorem spreadO {d : Int} (hD : IsVw D nd cd D 0) (hd : ¬ (0 ≤ d ∧ d < nd)) (hS : St w0 M w (headsC g D nd cd rows L)) :
    Calls Try.prog 14 #[.pointer (some ⟨g, 0, none⟩), .int .i64 d] w fun x w' => x = .returned (.int .i64 0) ∧ St w0 M w' (headsC g D nd cd rows L) := by
  (refine calls_ofG (P := Try.prog) _ Try.func14 rfl Try.ntmps14 (Nat.le_of_ble_eq_true rfl) ?_; dsimp only [argE, Nat.reduceAdd])
  (refine Reach.walkG ?_; (repeat (first | ((with_reducible refine AllSt.mk ?_); (try clear hS); intro w hS) | ((with_reducible refine AllVw.mk ?_); intro V hV))))
  ((with_reducible apply WpL.al); (· assumption); (· exact rfl); (· exact rfl); clear hS)
  intro g5 w hS
  (refine Reach.walkG ?_; (repeat (first | ((with_reducible refine AllSt.mk ?_); (try clear hS); intro w hS) | ((with_reducible refine AllVw.mk ?_); intro V hV))))
  ((with_reducible apply WpL.al); (· assumption); (· exact rfl); (· exact rfl); clear hS)
  intro g6 w hS
  (refine Reach.walkG ?_; (repeat (first | ((with_reducible refine AllSt.mk ?_); (try clear hS); intro w hS) | ((with_reducible refine AllVw.mk ?_); intro V hV))))
  ((with_reducible apply WpL.al); (· assumption); (· exact rfl); (· exact rfl); clear hS)
  intro g7 w hS
  (refine Reach.walkG ?_; (repeat (first | ((with_reducible refine AllSt.mk ?_); (try clear hS); intro w hS) | ((with_reducible refine AllVw.mk ?_); intro V hV))))
  (with_reducible apply WpL.call); (· exact rfl); (· exact Try.call30); (· exact Vals.found)
  refine (of_any hS).mono ?_
  clear hS
  rintro x w ⟨g1, g2, rfl, hS⟩
  refine ⟨_, rfl, ?_⟩
  (refine Reach.walkG ?_; (repeat (first | ((with_reducible refine AllSt.mk ?_); (try clear hS); intro w hS) | ((with_reducible refine AllVw.mk ?_); intro V hV))))
  refine WpG.rangeFunc (ps := [14, 15]) (w0 := w0) (M := M) (Γ0 := L) (Lc := [.blk g7 4 [.bool false], .blk g6 3 [.int .i64 0], .blk g5 3 [.int .i64 0]])
    (of_iter_out (g := g) (g1 := g1) (g2 := g2) (rows := rows) hD hd (fun i : Nat => [.int .i64 (i : Int), .int .i64 0])) rfl Try.call42 (fun _ => rfl) (by decide)
    (fun pre Lc => Lc = [.blk g7 4 [.bool false], .blk g6 3 [.int .i64 0], .blk g5 3 [.int .i64 0]]) (fun c pre Lc => False) ?hS rfl ?body ?done ?stop
  case hS => exact hS.perm (List.perm_append_comm_assoc [_, _] [_, _, _] _)
  case body =>
    rintro r pre x rest _ Γ' w o hx
    cases pre <;> cases hx
  case done =>
    clear hS
    rintro D' _ w rfl hS
    simp only [List.cons_append, List.nil_append] at hS
    (refine Reach.walkG ?_; (repeat (first | ((with_reducible refine AllSt.mk ?_); (try clear hS); intro w hS) | ((with_reducible refine AllVw.mk ?_); intro V hV))))
    refine leaveG_mark hS fun w hS => leaveG_nil ?_
    (with_reducible apply doneQ_one Try.results14); (· exact slotFound)
    exact ⟨rfl, hS.tail.sub (sub4 _)⟩
  case stop => rintro D' c pre Lc w h; exact h.elim
theorem spreadI {d : Nat} {A : Option Addr} {nb cb : Nat} {l : List Bk} (hl : l.length = nb) (hf : Fit l) (hD : IsVw D nd cd D 0) (hdn : d < nd) (hrow : rows[d]? = some (.slice A nb cb)) (hA : IsVw A nb cb A 0) (hnb : nb ≤ 1048576) (hnd : nd ≤ 1048576) (hS : St w0 M w (poolC g D nd cd rows A nb cb l L)) :
    Calls Try.prog 14 #[.pointer (some ⟨g, 0, none⟩), .int .i64 (d : Int)] w fun x w' => x = .returned (.int .i64 (spreadL l)) ∧ St w0 M w' (poolC g D nd cd rows A nb cb l L) := by
  subst hl
  (refine calls_ofG (P := Try.prog) _ Try.func14 rfl Try.ntmps14 (Nat.le_of_ble_eq_true rfl) ?_; dsimp only [argE, Nat.reduceAdd])
  (refine Reach.walkG ?_; (repeat (first | ((with_reducible refine AllSt.mk ?_); (try clear hS); intro w hS) | ((with_reducible refine AllVw.mk ?_); intro V hV))))
  ((with_reducible apply WpL.al); (· assumption); (· exact rfl); (· exact rfl); clear hS)
  intro g5 w hS
  (refine Reach.walkG ?_; (repeat (first | ((with_reducible refine AllSt.mk ?_); (try clear hS); intro w hS) | ((with_reducible refine AllVw.mk ?_); intro V hV))))
  ((with_reducible apply WpL.al); (· assumption); (· exact rfl); (· exact rfl); clear hS)
  intro g6 w hS
  (refine Reach.walkG ?_; (repeat (first | ((with_reducible refine AllSt.mk ?_); (try clear hS); intro w hS) | ((with_reducible refine AllVw.mk ?_); intro V hV))))
  ((with_reducible apply WpL.al); (· assumption); (· exact rfl); (· exact rfl); clear hS)
  intro g7 w hS
  (refine Reach.walkG ?_; (repeat (first | ((with_reducible refine AllSt.mk ?_); (try clear hS); intro w hS) | ((with_reducible refine AllVw.mk ?_); intro V hV))))
  (with_reducible apply WpL.call); (· exact rfl); (· exact Try.call30); (· exact Vals.found)
  refine (of_any hS).mono ?_
  clear hS
  rintro x w ⟨g1, g2, rfl, hS⟩
  refine ⟨_, rfl, ?_⟩
  (refine Reach.walkG ?_; (repeat (first | ((with_reducible refine AllSt.mk ?_); (try clear hS); intro w hS) | ((with_reducible refine AllVw.mk ?_); intro V hV))))
  refine WpG.rangeFunc (ps := [14, 15]) (w0 := w0) (M := M) (Γ0 := L) (Lc := [.blk g7 4 [.bool false], .blk g6 3 [.int .i64 0], .blk g5 3 [.int .i64 0], .own A l.length cb 60 2 (kv l)])
    (of_iter_in (g := g) (g1 := g1) (g2 := g2) (rows := rows) hD hdn hrow hA hnb hnd) rfl Try.call42 (fun _ => rfl) (by decide)
    (fun pre Lc => Lc = [.blk g7 4 [.bool (sprN (l.take pre.length)).isSome], .blk g6 3 [.int .i64 (hiV (sprN (l.take pre.length)))], .blk g5 3 [.int .i64 (loV (sprN (l.take pre.length)))], .own A l.length cb 60 2 (kv l)]) (fun c pre Lc => False) ?hS rfl ?body ?done ?stop
  case hS =>
    have h3 := hS.take (pre := [.blk g7 _ _, .blk g6 _ _, .blk g5 _ _, .own A _ _ _ _ _, .blk g1 _ _, .blk g2 _ _, .blk g _ _, .own D _ _ _ _ _]) Take.found
    exact h3
  case body =>
    clear hS
    rintro r pre x rest _ Γ' w o hx rfl hS
    obtain ⟨hpl, hxn⟩ := range_mid hx
    simp only [List.cons_append, List.nil_append] at hS
    dsimp only [Env.params]
    (refine Reach.walkG ?_; (repeat (first | ((with_reducible refine AllSt.mk ?_); (try clear hS); intro w hS) | ((with_reducible refine AllVw.mk ?_); intro V hV))))
    refine ⟨rfl, _, hS, ?_⟩
    clear hS
    intro w o' hS
    have hok := sprN_ok (l := l.take pre.length) (fun b hb => hf b (List.mem_of_mem_take hb))
    have hst := sprN_step hxn
    have hpx : (pre ++ [x]).length = pre.length + 1 := by simp
    rw [← hpl] at hst hxn
    have hfb := hf _ (getD_memB hxn)
    have hlk : Look (.obj r o' :: .blk g7 4 [.bool (sprN (l.take pre.length)).isSome] :: .blk g6 3 [.int .i64 (hiV (sprN (l.take pre.length)))] :: .blk g5 3 [.int .i64 (loV (sprN (l.take pre.length)))] :: .own A l.length cb 60 2 (kv l) :: Γ') ((adr A).add (0 + x * 2 + 0)) (.int .i64 ((l.getD pre.length ⟨0, 0⟩).st : Int)) :=
      .there (.there (.there (.there (Look.own (by rw [← hpl]; exact kv_st' hxn)))))
    have hlk2 : Look (.obj r o' :: .blk g7 4 [.bool (sprN (l.take pre.length)).isSome] :: .blk g6 3 [.int .i64 (hiV (sprN (l.take pre.length)))] :: .blk g5 3 [.int .i64 (loV (sprN (l.take pre.length)))] :: .own A l.length cb 60 2 (kv l) :: Γ') ((adr A).add (0 + x * 2 + 1)) (.int .u32 ((l.getD pre.length ⟨0, 0⟩).er : Int)) :=
      .there (.there (.there (.there (Look.own (by rw [← hpl]; exact kv_er' hxn)))))
    rw [← hpx] at hst
    generalize hcN : sprN (l.take (pre ++ [x]).length) = oN at *
    generalize sprN (l.take pre.length) = o0 at *
    generalize l.getD pre.length ⟨0, 0⟩ = b at *
    obtain ⟨st, er⟩ := b
    unfold sprS at hst
    dsimp only at *
    by_cases h4 : st = 4
    · rw [if_pos h4] at hst
      subst h4
      (refine Reach.walkG ?_; (repeat (first | ((with_reducible refine AllSt.mk ?_); (try clear hS); intro w hS) | ((with_reducible refine AllVw.mk ?_); intro V hV))))
      rw [← hst] at hS
      exact roundD.go (Lc' := [_, _, _, _]) (by rw [hcN]) hS
    rw [if_neg h4] at hst
    cases o0 with
    | none =>
      dsimp only [loV, hiV, Option.isSome] at *
      (refine Reach.walkG ?_; (repeat (first | ((with_reducible refine AllSt.mk ?_); (try clear hS); intro w hS) | ((with_reducible refine AllVw.mk ?_); intro V hV))))
      have hlt5 : g5 < w.heap.size := St.feet_lt hS (.blk g5 3 [.int .i64 (er : Int)]) (by simp) g5 rfl
      refine WpG.drawAB 7 6 32 (LB := fun _ => .obj r o' :: .blk g7 4 [.bool true] :: .blk g6 3 [.int .i64 (er : Int)] :: .blk g5 3 [.int .i64 ((min er er : Nat) : Int)] :: .own A l.length cb 60 2 (kv l) :: Γ') hS (by kernel_rfl) (by kernel_rfl) rfl (by kernel_rfl) ?_
      dsimp only [List.take, List.drop]
      refine RgS.spec (fun v _ => v = .int .i64 (er : Int) ∨ v = .int .i64 ((min er er : Nat) : Int)) rfl rfl rfl [] rfl (fun _ _ _ h _ => h) (fun w L hL _ hS => ?_) ?_
      · show WpL _ _ _ _ _ _ _
        rcases hL with rfl | ⟨x, rfl⟩
        · exact WpL.ld hS rfl rfl (.there (.there (.there (Look.blk rfl)))) (WpL.nil ⟨Below.refl _ _, .inl (Env.set_same _ _ _)⟩)
        · exact WpL.ld hS rfl rfl (.there (.there (.there (Look.blk rfl)))) (WpL.nil ⟨Below.refl _ _, .inr (Env.set_same _ _ _)⟩)
      (repeat (first | ((with_reducible apply RgS.ld); (· exact rfl); (· exact rfl); (· exact rfl); (· exact rfl); (· exact Look.found); (· exact fun _ => Look.found)) | ((with_reducible apply RgS.det); (· exact rfl); (· exact rfl); (· exact rfl); (· exact rfl); (· exact Det.found2))))
      refine RgS.known (c := .int .i64 ((min er er : Nat) : Int)) rfl rfl rfl _ rfl (fun w L hL hS => ?_) ?_
      · intro x hx
        rcases hx with rfl | rfl
        · exact WpL.det rfl (Det.min rfl rfl) (WpL.nil ⟨Below.refl _ _, (Env.set_same _ _ _).trans (int_eq (by omega))⟩)
        · exact WpL.det rfl (Det.min rfl rfl) (WpL.nil ⟨Below.refl _ _, (Env.set_same _ _ _).trans (int_eq (by omega))⟩)
      (repeat (first | ((with_reducible apply RgS.ld); (· exact rfl); (· exact rfl); (· exact rfl); (· exact rfl); (· exact Look.found); (· exact fun _ => Look.found)) | ((with_reducible apply RgS.det); (· exact rfl); (· exact rfl); (· exact rfl); (· exact rfl); (· exact Det.found2))))
      refine RgS.st rfl rfl rfl rfl (fun _ => .there (.there (.there (Upd.blkP .here)))) hlt5 ?_
      (repeat (first | ((with_reducible apply RgS.ld); (· exact rfl); (· exact rfl); (· exact rfl); (· exact rfl); (· exact Look.found); (· exact fun _ => Look.found)) | ((with_reducible apply RgS.det); (· exact rfl); (· exact rfl); (· exact rfl); (· exact rfl); (· exact Det.found2))))
      clear hS
      refine RgS.finE fun w _ hS => ?_
      intro x _
      show WpL _ _ _ _ _ _ _
      (refine Reach.walkG ?_; (repeat (first | ((with_reducible refine AllSt.mk ?_); (try clear hS); intro w hS) | ((with_reducible refine AllVw.mk ?_); intro V hV))))
      have e2 : max (er : Int) (er : Int) = ((max er er : Nat) : Int) := by omega
      rw [e2] at hS
      rw [Nat.min_self, Nat.max_self] at hS
      exact roundD.go (Lc' := [_, _, _, _]) (by rw [hcN, hst]) hS
    | some p =>
      obtain ⟨lo, hi⟩ := p
      dsimp only [loV, hiV, Option.isSome] at *
      (refine Reach.walkG ?_; (repeat (first | ((with_reducible refine AllSt.mk ?_); (try clear hS); intro w hS) | ((with_reducible refine AllVw.mk ?_); intro V hV))))
      have hlt5 : g5 < w.heap.size := St.feet_lt hS (.blk g5 3 [.int .i64 (lo : Int)]) (by simp) g5 rfl
      refine WpG.drawAB 7 6 32 (LB := fun _ => .obj r o' :: .blk g7 4 [.bool true] :: .blk g6 3 [.int .i64 (hi : Int)] :: .blk g5 3 [.int .i64 ((min lo er : Nat) : Int)] :: .own A l.length cb 60 2 (kv l) :: Γ') hS (by kernel_rfl) (by kernel_rfl) rfl (by kernel_rfl) ?_
      dsimp only [List.take, List.drop]
      refine RgS.spec (fun v _ => v = .int .i64 (lo : Int) ∨ v = .int .i64 ((min lo er : Nat) : Int)) rfl rfl rfl [] rfl (fun _ _ _ h _ => h) (fun w L hL _ hS => ?_) ?_
      · show WpL _ _ _ _ _ _ _
        rcases hL with rfl | ⟨x, rfl⟩
        · exact WpL.ld hS rfl rfl (.there (.there (.there (Look.blk rfl)))) (WpL.nil ⟨Below.refl _ _, .inl (Env.set_same _ _ _)⟩)
        · exact WpL.ld hS rfl rfl (.there (.there (.there (Look.blk rfl)))) (WpL.nil ⟨Below.refl _ _, .inr (Env.set_same _ _ _)⟩)
      (repeat (first | ((with_reducible apply RgS.ld); (· exact rfl); (· exact rfl); (· exact rfl); (· exact rfl); (· exact Look.found); (· exact fun _ => Look.found)) | ((with_reducible apply RgS.det); (· exact rfl); (· exact rfl); (· exact rfl); (· exact rfl); (· exact Det.found2))))
      refine RgS.known (c := .int .i64 ((min lo er : Nat) : Int)) rfl rfl rfl _ rfl (fun w L hL hS => ?_) ?_
      · intro x hx
        rcases hx with rfl | rfl
        · exact WpL.det rfl (Det.min rfl rfl) (WpL.nil ⟨Below.refl _ _, (Env.set_same _ _ _).trans (int_eq (by omega))⟩)
        · exact WpL.det rfl (Det.min rfl rfl) (WpL.nil ⟨Below.refl _ _, (Env.set_same _ _ _).trans (int_eq (by omega))⟩)
      (repeat (first | ((with_reducible apply RgS.ld); (· exact rfl); (· exact rfl); (· exact rfl); (· exact rfl); (· exact Look.found); (· exact fun _ => Look.found)) | ((with_reducible apply RgS.det); (· exact rfl); (· exact rfl); (· exact rfl); (· exact rfl); (· exact Det.found2))))
      refine RgS.st rfl rfl rfl rfl (fun _ => .there (.there (.there (Upd.blkP .here)))) hlt5 ?_
      (repeat (first | ((with_reducible apply RgS.ld); (· exact rfl); (· exact rfl); (· exact rfl); (· exact rfl); (· exact Look.found); (· exact fun _ => Look.found)) | ((with_reducible apply RgS.det); (· exact rfl); (· exact rfl); (· exact rfl); (· exact rfl); (· exact Det.found2))))
      clear hS
      refine RgS.finE fun w _ hS => ?_
      intro x _
      show WpL _ _ _ _ _ _ _
      (refine Reach.walkG ?_; (repeat (first | ((with_reducible refine AllSt.mk ?_); (try clear hS); intro w hS) | ((with_reducible refine AllVw.mk ?_); intro V hV))))
      have e2 : max (hi : Int) (er : Int) = ((max hi er : Nat) : Int) := by omega
      rw [e2] at hS
      exact roundD.go (Lc' := [_, _, _, _]) (by rw [hcN, hst]) hS
  case done =>
    clear hS
    rintro D' _ w rfl hS
    simp only [List.cons_append, List.nil_append] at hS
    rw [List.length_range, List.take_length] at hS
    have hok := lo_ok (sprN_ok hf)
    have hsp : spreadL l = hiV (sprN l) - loV (sprN l) := rfl
    generalize loV (sprN l) = lo at *
    generalize hiV (sprN l) = hi at *
    (refine Reach.walkG ?_; (repeat (first | ((with_reducible refine AllSt.mk ?_); (try clear hS); intro w hS) | ((with_reducible refine AllVw.mk ?_); intro V hV))))
    refine leaveG_mark hS fun w hS => leaveG_nil ?_
    (with_reducible apply doneQ_one Try.results14); (· exact slotFound)
    (replace hS := (hS.take (pre := [.blk g _ _, .own D _ _ _ _ _, .own A _ _ _ _ _]) Take.found); (try simp only [List.cons_append, List.nil_append] at hS))
    exact ⟨by rw [hsp], hS.sub (.cons_cons _ (.cons_cons _ (.cons_cons _ ((List.sublist_cons_self _ _).trans (sub4 _)))))⟩
  case stop => rintro D' c pre Lc w h; exact h.elim
end
end Go.Proofs.Ytaapnfoimcccjaa
