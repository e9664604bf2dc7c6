/-
  What is written of a pool is the pool that is read; calls as rows; states that may be.
-/
import Derived.Test.YtaapnfoimcccjaaBlkL
import Derived.Test.YtaapnfoimcccjaaBlkJ
namespace Go.Proofs.Ytaapnfoimcccjaa
open Go.Fk Go.RowKit
attribute [local irreducible] Wp WpL Det thenQ blockQ WpG thenD blockG
/-- States that may be. -/
def OkL (l : List Bk) : Prop := ∀ b ∈ l, 1 ≤ b.st ∧ b.st ≤ 4
def OkX (X : List (List Bk)) : Prop := ∀ l ∈ X, OkL l
theorem OkL.set {l : List Bk} (h : OkL l) (i : Nat) {b : Bk} (hb : 1 ≤ b.st ∧ b.st ≤ 4) : OkL (l.set i b) := fun c hc => by
  rcases List.mem_or_eq_of_mem_set hc with hc | rfl
  · exact h c hc
  · exact hb
theorem OkL.at {l : List Bk} (h : OkL l) {i : Nat} (hi : i < l.length) : 1 ≤ (l.getD i ⟨0, 0⟩).st ∧ (l.getD i ⟨0, 0⟩).st ≤ 4 := h _ (getD_memB hi)
theorem OkL.take {l : List Bk} (h : OkL l) : OkL (takeL l).2 := by
  unfold takeL
  split
  · exact h
  · exact h.set _ ⟨by show 1 ≤ 2; decide, by show 2 ≤ 4; decide⟩
theorem OkL.turn {l : List Bk} (h : OkL l) (n : Int) {to : Nat} (ht : 1 ≤ to ∧ to ≤ 4) (fs : List Int) : OkL (turnL l n to fs).2 := by
  unfold turnL
  split
  · split
    · exact h.set _ ht
    · exact h
  · exact h
theorem OkL.erased {l : List Bk} (h : OkL l) (n : Int) : OkL (erasedL l n).2 := by
  unfold erasedL
  split
  · rename_i hin
    split
    · exact h
    · split
      · exact h.set _ (h.at (by omega))
      · exact h
  · exact h
theorem OkX.die {X : List (List Bk)} (h : OkX X) (d : Int) : OkL (dieX X d) := by
  unfold dieX
  rw [List.getD_eq_getElem?_getD]
  cases hx : X[d.toNat]? with
  | none => intro b hb; cases hb
  | some l => exact h l (List.mem_of_getElem? hx)
theorem OkX.set {X : List (List Bk)} (h : OkX X) (i : Nat) {l : List Bk} (hl : OkL l) : OkX (X.set i l) := fun c hc => by
  rcases List.mem_or_eq_of_mem_set hc with hc | rfl
  · exact h c hc
  · exact hl
theorem OkX.take {X : List (List Bk)} (h : OkX X) (d : Int) : OkX (takeX X d).2 := by
  unfold takeX; split
  · exact h.set _ (h.die d).take
  · exact h
theorem OkX.turn {X : List (List Bk)} (h : OkX X) (d n : Int) {to : Nat} (ht : 1 ≤ to ∧ to ≤ 4) (fs : List Int) : OkX (turnX X d n to fs).2 := by
  unfold turnX; split
  · exact h.set _ ((h.die d).turn n ht fs)
  · exact h
theorem OkX.erased {X : List (List Bk)} (h : OkX X) (d n : Int) : OkX (erasedX X d n).2 := by
  unfold erasedX; split
  · exact h.set _ ((h.die d).erased n)
  · exact h
theorem OkX.new (nd nb : Nat) : OkX (List.replicate nd (newBlocks nb)) := fun l hl b hb => by
  rw [List.eq_of_mem_replicate hl] at hb
  rw [List.eq_of_mem_replicate hb]
  exact ⟨by decide, by decide⟩

/-! ### Bytes and back -/
theorem flat_drop : ∀ {F : List Bk} {i : Nat}, i < F.length → ∃ r, (F.flatMap blkB).drop (5 * i) = blkB (F.getD i ⟨0, 0⟩) ++ r
  | b :: F, 0, _ => ⟨F.flatMap blkB, rfl⟩
  | b :: F, i + 1, h => by
    obtain ⟨r, hr⟩ := flat_drop (F := F) (i := i) (by simpa using h)
    refine ⟨r, ?_⟩
    have h5 : (blkB b).length = 5 := blkB_length b
    rw [List.flatMap_cons, show 5 * (i + 1) = (blkB b).length + 5 * i by omega, ← List.drop_drop, List.drop_left, hr]
    rfl
theorem bkAt_flat {F : List Bk} (hf : Fit F) (u v : UInt8) {i : Nat} (h : i < F.length) : bkAt ([u, v] ++ F.flatMap blkB) i = F.getD i ⟨0, 0⟩ := by
  obtain ⟨r, hr⟩ := flat_drop h
  have hb := hf _ (getD_memB h)
  generalize F.getD i ⟨0, 0⟩ = b at *
  have h0 : ([u, v] ++ F.flatMap blkB).drop (2 + 5 * i) = blkB b ++ r := by
    rw [← List.drop_drop]; exact hr
  refine Bk.ext' ?_ ?_
  · show (([u, v] ++ F.flatMap blkB).getD (2 + 5 * i) 0).toNat = b.st
    have h1 : ([u, v] ++ F.flatMap blkB)[2 + 5 * i]? = (blkB b ++ r)[0]? := by rw [← h0, List.getElem?_drop]; rfl
    rw [List.getD_eq_getElem?_getD, h1]
    show (UInt8.ofNat b.st).toNat = b.st
    rw [UInt8.toNat_ofNat']
    exact Nat.mod_eq_of_lt hb.2
  · show Crc.loN ((([u, v] ++ F.flatMap blkB).drop (2 + 5 * i + 1)).take 4) = b.er
    rw [← List.drop_drop, h0]
    show Crc.loN ((Crc.loB b.er 4 ++ r).take 4) = b.er
    rw [List.take_left' (Crc.loB_length _ _), Crc.loN_loB]
    exact Nat.mod_eq_of_lt hb.1
theorem flat_at {nb : Nat} : ∀ {X : List (List Bk)} {d j : Nat}, (∀ l ∈ X, l.length = nb) → d < X.length → j < nb → X.flatten.getD (d * nb + j) ⟨0, 0⟩ = (X.getD d []).getD j ⟨0, 0⟩
  | l :: X, 0, j, h, _, hj => by
    have hl := h l List.mem_cons_self
    rw [Nat.zero_mul, Nat.zero_add, List.flatten_cons, List.getD_eq_getElem?_getD, List.getElem?_append_left (by omega)]
    rfl
  | l :: X, d + 1, j, h, hd, hj => by
    have hl := h l List.mem_cons_self
    rw [List.flatten_cons, List.getD_eq_getElem?_getD, List.getElem?_append_right (by rw [hl, Nat.add_mul]; omega), hl, show (d + 1) * nb + j - nb = d * nb + j by rw [Nat.add_mul]; omega, ← List.getD_eq_getElem?_getD,
      flat_at (fun l hl => h l (List.mem_cons_of_mem _ hl)) (by simpa using hd) hj]
    rfl
theorem flat_len {nb : Nat} {X : List (List Bk)} (h : ∀ l ∈ X, l.length = nb) : X.flatten.length = X.length * nb := by
  induction X with
  | nil => simp
  | cons l X ih => rw [List.flatten_cons, List.length_append, h l List.mem_cons_self, ih fun l hl => h l (List.mem_cons_of_mem _ hl), List.length_cons, Nat.add_mul]; omega
theorem poolB_flat (nb : Nat) (X : List (List Bk)) : poolB nb X = [UInt8.ofNat X.length, UInt8.ofNat nb] ++ X.flatten.flatMap blkB := by
  have : ∀ X : List (List Bk), X.flatMap dieB = X.flatten.flatMap blkB := fun X => by
    induction X with
    | nil => rfl
    | cons l X ih => rw [List.flatMap_cons, ih, List.flatten_cons, List.flatMap_append]; rfl
  rw [poolB, this]
theorem div_bound {i nd nb : Nat} (h : i < nd * nb) : ∃ d j, d < nd ∧ j < nb ∧ i = d * nb + j := by
  have hnb : 0 < nb := Nat.pos_of_ne_zero fun h0 => by subst h0; simp at h
  exact ⟨i / nb, i % nb, Nat.div_lt_of_lt_mul (by rw [Nat.mul_comm]; exact h), Nat.mod_lt _ hnb, by rw [Nat.mul_comm]; exact (Nat.div_add_mod i nb).symm⟩
theorem idx_lt {d j nd nb : Nat} (hd : d < nd) (hj : j < nb) : d * nb + j < nd * nb := by
  have := Nat.mul_le_mul_right nb (show d + 1 ≤ nd by omega)
  rw [Nat.add_mul] at this
  omega
theorem poolB_back {nd nb : Nat} {X : List (List Bk)} (hX : XOk nd nb X) (hok : OkX X) (hnd : 1 ≤ nd ∧ nd ≤ 8) (hnb : 1 ≤ nb ∧ nb ≤ 64) : PoolBytes (poolB nb X) nd nb ∧ poolAt (poolB nb X) nd nb = X := by
  have hl := fun l hl => (hX.rows l hl).1
  have hfit : Fit X.flatten := fun b hb => by
    obtain ⟨l, hl, hb⟩ := List.mem_flatten.1 hb
    exact (hX.rows l hl).2 b hb
  have hfl := flat_len hl
  have hXl := hX.len
  have hat : ∀ d j, d < nd → j < nb → bkAt (poolB nb X) (d * nb + j) = (X.getD d []).getD j ⟨0, 0⟩ := fun d j hd hj => by
    rw [poolB_flat, bkAt_flat hfit _ _ (by rw [hfl, hXl]; exact idx_lt hd hj), flat_at hl (by omega) hj]
  have hdie : ∀ d, d < nd → X.getD d [] ∈ X := fun d hd => by
    rw [List.getD_eq_getElem?_getD, List.getElem?_eq_getElem (by omega)]
    exact List.getElem_mem _
  have hlen : (poolB nb X).length = 2 + 5 * (nd * nb) := by
    rw [poolB_length hl, hXl, ← Nat.mul_assoc]; omega
  refine ⟨⟨by omega, ?_, ?_, hnd, hnb, hlen, fun i hi => ?_⟩, ?_⟩
  · rw [poolB, hXl]; show nd = (UInt8.ofNat nd).toNat; rw [UInt8.toNat_ofNat']; exact (Nat.mod_eq_of_lt (by omega)).symm
  · rw [poolB]; show nb = (UInt8.ofNat nb).toNat; rw [UInt8.toNat_ofNat']; exact (Nat.mod_eq_of_lt (by omega)).symm
  · obtain ⟨d, j, hd, hj, rfl⟩ := div_bound hi
    rw [hat d j hd hj]
    exact (hok _ (hdie d hd)).at (by rw [hl _ (hdie d hd)]; exact hj)
  · refine List.ext_getElem (by simp [poolAt, hXl]) fun d h1 h2 => ?_
    have hd : d < nd := by omega
    simp only [poolAt, List.getElem_map, List.getElem_range]
    have hXd : X[d] = X.getD d [] := by rw [List.getD_eq_getElem?_getD, List.getElem?_eq_getElem h2]; rfl
    rw [hXd]
    refine List.ext_getElem (by rw [hl _ (hdie d hd)]; simp [dieAt]) fun j h3 h4 => ?_
    have hj : j < nb := by simpa [dieAt] using h3
    simp only [dieAt, List.getElem_map, List.getElem_range]
    rw [hat d j hd hj, List.getD_eq_getElem?_getD, List.getElem?_eq_getElem h4]
    rfl

/-! ### Calls as rows -/
abbrev Tr := Int × Int × Int
def tv (ss : List Tr) : List Value := ss.flatMap fun s => [.int .i64 s.1, .int .i64 s.2.1, .int .i64 s.2.2]
def TrIn (s : Tr) : Prop := (-9223372036854775808 ≤ s.1 ∧ s.1 ≤ 9223372036854775807) ∧ (-9223372036854775808 ≤ s.2.1 ∧ s.2.1 ≤ 9223372036854775807) ∧ (-9223372036854775808 ≤ s.2.2 ∧ s.2.2 ≤ 9223372036854775807)
theorem tv_at : ∀ {ss : List Tr} {i : Nat}, i < ss.length → ((tv ss).drop (i * 3)).take 3 = [.int .i64 (ss.getD i (0, 0, 0)).1, .int .i64 (ss.getD i (0, 0, 0)).2.1, .int .i64 (ss.getD i (0, 0, 0)).2.2]
  | [], i, h => absurd h (Nat.not_lt_zero _)
  | s :: r, 0, _ => rfl
  | s :: r, i + 1, h => by
    have ih := tv_at (ss := r) (i := i) (by simpa using h)
    rw [show (i + 1) * 3 = i * 3 + 3 by omega]
    exact ih
theorem tv_get {ss : List Tr} {i k : Nat} (h : i < ss.length) (hk : k < 3) : (tv ss)[0 + i * 3 + k]? = [Value.int .i64 (ss.getD i (0, 0, 0)).1, .int .i64 (ss.getD i (0, 0, 0)).2.1, .int .i64 (ss.getD i (0, 0, 0)).2.2][k]? := by
  rw [← tv_at h, List.getElem?_take, if_pos hk, List.getElem?_drop, Nat.zero_add]
theorem tv_in {ss : List Tr} (h : ∀ s ∈ ss, TrIn s) {i : Nat} (hi : i < ss.length) : TrIn (ss.getD i (0, 0, 0)) := by
  rw [List.getD_eq_getElem?_getD, List.getElem?_eq_getElem hi]
  exact h _ (List.getElem_mem _)

theorem tv_len : ∀ ss : List Tr, (tv ss).length = ss.length * 3
  | [] => rfl
  | s :: r => by
    have ih := tv_len r
    show (Value.int .i64 s.1 :: .int .i64 s.2.1 :: .int .i64 s.2.2 :: tv r).length = _
    simp only [List.length_cons, ih]; omega

/-! ### Two pools -/
def PP (w0 : World) (M : Nat → Prop) (w : World) (gp np bp : Nat) (Xp : List (List Bk)) (gq nq bq : Nat) (Xq : List (List Bk)) (L : List Ch) : Prop := ∃ D cd ps, PoolOk D np cd bp ps ∧ ps.map (·.2) = Xp ∧ PSt w0 M w gq nq bq Xq (poolL gp D np cd bp ps L)
section
variable {w w0 : World} {M : Nat → Prop} {L : List Ch} {gp np bp gq nq bq : Nat} {Xp Xq : List (List Bk)}
theorem PP.swap (h : PP w0 M w gp np bp Xp gq nq bq Xq L) : PP w0 M w gq nq bq Xq gp np bp Xp L := by
  obtain ⟨D, cd, ps, h1, h2, D', cd', ps', h3, h4, h5⟩ := h
  refine ⟨D', cd', ps', h3, h4, D, cd, ps, h1, h2, h5.perm ?_⟩
  show List.Perm ((Ch.blk gq _ _ :: Ch.own D' _ _ _ _ _ :: rowsC bq ps') ++ ((Ch.blk gp _ _ :: Ch.own D _ _ _ _ _ :: rowsC bp ps) ++ L)) ((Ch.blk gp _ _ :: Ch.own D _ _ _ _ _ :: rowsC bp ps) ++ ((Ch.blk gq _ _ :: Ch.own D' _ _ _ _ _ :: rowsC bq ps') ++ L))
  exact List.perm_append_comm_assoc _ _ _
theorem PP.right (h : PP w0 M w gp np bp Xp gq nq bq Xq L) {P : Program} {f : FuncId} {args : Array Value} {R : Ending → Prop}
    (hc : ∀ L', PSt w0 M w gq nq bq Xq L' → Calls P f args w fun x w' => R x ∧ PSt w0 M w' gq nq bq Xq L') : Calls P f args w fun x w' => R x ∧ PP w0 M w' gp np bp Xp gq nq bq Xq L := by
  obtain ⟨D, cd, ps, h1, h2, h3⟩ := h
  exact (hc _ h3).mono fun x w' hx => ⟨hx.1, D, cd, ps, h1, h2, hx.2⟩
theorem PP.left (h : PP w0 M w gp np bp Xp gq nq bq Xq L) {P : Program} {f : FuncId} {args : Array Value} {R : Ending → Prop}
    (hc : ∀ L', PSt w0 M w gp np bp Xp L' → Calls P f args w fun x w' => R x ∧ PSt w0 M w' gp np bp Xp L') : Calls P f args w fun x w' => R x ∧ PP w0 M w' gp np bp Xp gq nq bq Xq L :=
  (h.swap.right hc).mono fun x w' hx => ⟨hx.1, hx.2.swap⟩
end
end Go.Proofs.Ytaapnfoimcccjaa
