/-
  What the statements on records call first; RecordBytes: walks. A record's bytes are read as it was.
-/
import Derived.Test.YtjdkkbbmboggpaaRecB
namespace Go.Proofs.Ytjdkkbbmboggpaa
open Go.Fk Go.RowKit
attribute [local irreducible] Wp WpL Det thenQ blockQ

theorem recOf_plain (r : Rec) (hf : r.Fits) (hok : r.ok) : recOf r.plain = r := by
  have h1 := hf.seq
  have h2 := hf.a
  have h3 := hf.b
  have h4 := hf.c
  have hk1 := hok.1
  have hk2 := hok.2
  have e : ∀ (p q : List UInt8) (m o : Nat), m < 18446744073709551616 → p.length = o → Ent.rd (p ++ (Crc.loB m 8 ++ q)) o 8 = m := fun p q m o hm hp => by
    unfold Ent.rd
    rw [List.drop_left' hp, List.take_left' (Crc.loB_length _ _), Crc.loN_loB]
    exact Nat.mod_eq_of_lt hm
  have q1 := Crc.loB_length r.seq 8
  have q2 := Crc.loB_length r.a 8
  have q3 := Crc.loB_length r.b 8
  have g1 : Ent.rd r.plain 1 8 = r.seq := by
    have := e [UInt8.ofNat r.kind.toNat] (Crc.loB r.a 8 ++ (Crc.loB r.b 8 ++ Crc.loB r.c 8)) r.seq 1 h1 rfl
    simpa only [Rec.plain, List.append_assoc] using this
  have g2 : Ent.rd r.plain 9 8 = r.a := by
    have := e ([UInt8.ofNat r.kind.toNat] ++ Crc.loB r.seq 8) (Crc.loB r.b 8 ++ Crc.loB r.c 8) r.a 9 h2 (by simp [q1])
    simpa only [Rec.plain, List.append_assoc] using this
  have g3 : Ent.rd r.plain 17 8 = r.b := by
    have := e ([UInt8.ofNat r.kind.toNat] ++ Crc.loB r.seq 8 ++ Crc.loB r.a 8) (Crc.loB r.c 8) r.b 17 h3 (by simp [q1, q2])
    simpa only [Rec.plain, List.append_assoc] using this
  have g4 : Ent.rd r.plain 25 8 = r.c := by
    have := e ([UInt8.ofNat r.kind.toNat] ++ Crc.loB r.seq 8 ++ Crc.loB r.a 8 ++ Crc.loB r.b 8) [] r.c 25 h4 (by simp [q1, q2, q3])
    simpa only [Rec.plain, List.append_assoc, List.append_nil] using this
  have g0 : ((r.plain.getD 0 0).toNat : Int) = r.kind := by
    have : r.plain.getD 0 0 = UInt8.ofNat r.kind.toNat := by simp [Rec.plain]
    rw [this, UInt8.toNat_ofNat']
    omega
  unfold recOf
  rw [g0, g1, g2, g3, g4]
/-- A record's bytes, whatever stands behind them, are read as it was. -/
theorem parseR_bytes (r : Rec) (hf : r.Fits) (hok : r.ok) (t : List UInt8) : parseR (r.bytes ++ t) = (r, 0) := by
  have hl := r.bytes_length
  have h1 : (r.bytes ++ t).take 37 = r.bytes := List.take_left' hl
  have h2 : (r.bytes ++ t).take 33 = r.plain := by
    rw [Rec.bytes, Crc.sealed, List.append_assoc]
    exact List.take_left' r.plain_length
  unfold parseR
  rw [if_neg (by rw [List.length_append]; omega), h1, if_pos (show Crc.good r.bytes from Crc.good_sealed _), h2, recOf_plain r hf hok, if_pos hok]

def recE (r : Rec) : Int := if r.ok then 0 else 1
def recN (r : Rec) : Nat := if r.ok then 37 else 0
def recL (r : Rec) : List UInt8 := if r.ok then r.bytes else []
theorem recL_length (r : Rec) : (recL r).length = recN r := by
  unfold recL recN; split
  · exact r.bytes_length
  · rfl
theorem recBytesF (r : Rec) (hf : r.Fits) {w w0 : World} {M : Nat → Prop} {L : List Ch} (hS : St w0 M w L) :
    Calls Try.prog 8 #[.agg r.cells.toArray] w fun x w' => ∃ A c, x = .returned (.tuple #[.slice A (recN r) c, .int .i64 (recE r)]) ∧ IsVw A (recN r) c A 0 ∧ St w0 M w' (.own A (recN r) c 5 1 (bv (recL r)) :: L) := by
  refine (recBytes_any r hf hS).mono ?_
  rintro x w' (⟨hok, A, c, rfl, hV, hS⟩ | ⟨hok, rfl, hS⟩)
  · rw [recN, recE, recL, if_pos hok, if_pos hok, if_pos hok]
    exact ⟨A, c, rfl, hV, hS⟩
  · rw [recN, recE, recL, if_neg hok, if_neg hok, if_neg hok]
    exact ⟨none, 0, rfl, IsVw.nil, hS.nil_⟩
theorem refBytesF (r : Rec) (hf : r.Fits) {w w0 : World} {M : Nat → Prop} {L : List Ch} (hS : St w0 M w L) :
    Calls Try.prog 9 #[.agg r.cells.toArray] w fun x w' => ∃ A c, x = .returned (.tuple #[.slice A (recN r) c, .int .i64 (recE r)]) ∧ IsVw A (recN r) c A 0 ∧ St w0 M w' (.own A (recN r) c 5 1 (bv (recL r)) :: L) := by
  refine (refBytes_any r hf hS).mono ?_
  rintro x w' (⟨hok, A, c, rfl, hV, hS⟩ | ⟨hok, rfl, hS⟩)
  · rw [recN, recE, recL, if_pos hok, if_pos hok, if_pos hok]
    exact ⟨A, c, rfl, hV, hS⟩
  · rw [recN, recE, recL, if_neg hok, if_neg hok, if_neg hok]
    exact ⟨none, 0, rfl, IsVw.nil, hS.nil_⟩

theorem fit_rec (r : Rec) : fitCells Try.prog (Try.prog.fieldsOf 24).toList r.cells = true := by kernel_rfl
theorem eq_rec (r : Rec) : eqCells r.cells r.cells = true := by simp [eqCells, eqCell]
theorem bool_eq {a b : Bool} (h : a = b) : Value.bool a = Value.bool b := by rw [h]

theorem awake_any (w : World) : Calls Try.prog 7 #[] w fun x w' => x = .returned (.bool true) ∧ Below w.heap.size w w' := by
  have hS := St.start w
  have hf : (Rec.mk 1 1 2 0 0).Fits := ⟨by decide, by decide, by decide, by decide⟩
  have hok : (Rec.mk 1 1 2 0 0).ok := ⟨by decide, by decide⟩
  have e0 : ((Rec.mk 1 1 2 0 0).bytes.getD 0 0).toNat = 1 := by kernel_rfl
  have e1 : ((Rec.mk 1 1 2 0 0).bytes.getD 1 0).toNat = 1 := by kernel_rfl
  have e9 : ((Rec.mk 1 1 2 0 0).bytes.getD 9 0).toNat = 2 := by kernel_rfl
  have hl := (Rec.mk 1 1 2 0 0).bytes_length
  have hp := parseR_bytes _ hf hok []
  rw [List.append_nil] at hp
  (refine calls_of (P := Try.prog) _ Try.func7 rfl Try.ntmps7 (Nat.le_of_ble_eq_true rfl) ?_; dsimp only [argE, Nat.reduceAdd])
  (refine Reach.walk ?_; (repeat (first | ((with_reducible refine AllSt.mk ?_); (try clear hS); intro w hS) | ((with_reducible refine AllVw.mk ?_); intro V hV))))
  refine WpL.det rfl (Det.build (cells := (Rec.mk 1 1 2 0 0).cells) PVals.found rfl) ?_
  (refine Reach.walk ?_; (repeat (first | ((with_reducible refine AllSt.mk ?_); (try clear hS); intro w hS) | ((with_reducible refine AllVw.mk ?_); intro V hV))))
  (with_reducible apply WpL.call); (· exact rfl); (· exact Try.call8); (· exact Vals.found)
  refine (recBytes_any _ hf hS).mono ?_
  clear hS
  rintro x w (⟨_, A, c, rfl, hV, hS⟩ | ⟨h, _⟩)
  rotate_left
  · exact absurd hok h
  refine ⟨_, rfl, ?_⟩
  generalize (Rec.mk 1 1 2 0 0).bytes = b at *
  (refine Reach.walk ?_; (repeat (first | ((with_reducible refine AllSt.mk ?_); (try clear hS); intro w hS) | ((with_reducible refine AllVw.mk ?_); intro V hV))))
  (with_reducible apply WpL.call); (· exact rfl); (· exact Try.call11); (· exact Vals.found)
  refine (parse_any hS RdsV.found hV (by decide)).mono ?_
  clear hS
  rintro x w ⟨rfl, hS⟩
  refine ⟨_, rfl, ?_⟩
  rw [hp]
  (refine Reach.walk ?_; (repeat (first | ((with_reducible refine AllSt.mk ?_); (try clear hS); intro w hS) | ((with_reducible refine AllVw.mk ?_); intro V hV))))
  ((with_reducible apply WpL.al); (· assumption); (· exact rfl); (· exact rfl); clear hS)
  intro gx w hS
  have q0 : decide (((b.getD 0 0).toNat : Int) = 1) = true := decide_eq_true (by omega)
  have q1 : decide (((b.getD 1 0).toNat : Int) = 1) = true := decide_eq_true (by omega)
  have q9 : decide (((b.getD 9 0).toNat : Int) = 2) = true := decide_eq_true (by omega)
  (refine Reach.walk ?_; (repeat (first | ((with_reducible refine AllSt.mk ?_); (try clear hS); intro w hS) | ((with_reducible refine AllVw.mk ?_); intro V hV))))
  refine WpL.det rfl (Det.build (cells := (Rec.mk 1 1 2 0 0).cells) PVals.found rfl) ?_
  (refine Reach.walk ?_; (repeat (first | ((with_reducible refine AllSt.mk ?_); (try clear hS); intro w hS) | ((with_reducible refine AllVw.mk ?_); intro V hV))))
  refine WpL.det rfl (Det.eqlRow rfl rfl (fit_rec _) (fit_rec _)) ?_
  rw [eq_rec]
  (refine Reach.walk ?_; (repeat (first | ((with_reducible refine AllSt.mk ?_); (try clear hS); intro w hS) | ((with_reducible refine AllVw.mk ?_); intro V hV))))
  (with_reducible apply doneQ_one Try.results7); (· exact slotFound)
  exact ⟨rfl, hS.toBelow⟩

theorem recordBytes_any (r : Rec) (hf : r.Fits) (A : Option Addr) (l : List UInt8) (n c : Nat) (sl : Bool) (hn : l.length = n) (hv : IsVw A n c A 0) (hlen : n ≤ 140737488351232) (W : World) (hr : Rd W A (bv l)) :
    Calls Try.prog 3 #[.agg r.cells.toArray, .slice A n c, .bool sl] W fun x w' => x = .returned (.bool true) ∧ Below W.heap.size W w' := by
  have hS := (St.start W).startRo hr
  clear hr
  (refine calls_of (P := Try.prog) _ Try.func3 rfl Try.ntmps3 (Nat.le_of_ble_eq_true rfl) ?_; dsimp only [argE, Nat.reduceAdd])
  (refine Reach.walk ?_; (repeat (first | ((with_reducible refine AllSt.mk ?_); (try clear hS); intro w hS) | ((with_reducible refine AllVw.mk ?_); intro V hV))))
  ((with_reducible apply WpL.bx); (· assumption); (· exact rfl); (· exact Env.found); (· exact rfl); clear hS)
  intro gr w hS
  (refine Reach.walk ?_; (repeat (first | ((with_reducible refine AllSt.mk ?_); (try clear hS); intro w hS) | ((with_reducible refine AllVw.mk ?_); intro V hV))))
  (with_reducible apply WpL.call); (· exact rfl); (· exact Try.call7); (· exact Vals.found)
  refine (awake_any w).mono ?_
  rintro x w ⟨rfl, hb⟩
  refine ⟨_, rfl, ?_⟩
  replace hS := hS.below hb
  clear hb
  (refine Reach.walk ?_; (repeat (first | ((with_reducible refine AllSt.mk ?_); (try clear hS); intro w hS) | ((with_reducible refine AllVw.mk ?_); intro V hV))))
  (with_reducible apply WpL.call); (· exact rfl); (· exact Try.call8); (· exact Vals.found)
  refine (recBytesF r hf hS).mono ?_
  clear hS
  rintro x w ⟨A1, c1, rfl, hV1, hS⟩
  refine ⟨_, rfl, ?_⟩
  (refine Reach.walk ?_; (repeat (first | ((with_reducible refine AllSt.mk ?_); (try clear hS); intro w hS) | ((with_reducible refine AllVw.mk ?_); intro V hV))))
  (with_reducible apply WpL.call); (· exact rfl); (· exact Try.call9); (· exact Vals.found)
  refine (refBytesF r hf hS).mono ?_
  clear hS
  rintro x w ⟨A2, c2, rfl, hV2, hS⟩
  refine ⟨_, rfl, ?_⟩
  have hrl := recL_length r
  (refine Reach.walk ?_; (repeat (first | ((with_reducible refine AllSt.mk ?_); (try clear hS); intro w hS) | ((with_reducible refine AllVw.mk ?_); intro V hV))))
  refine Wp.cut (fun e' w' => ∃ V m d t, IsVw V m d V 0 ∧ (∃ L, St W (feet []) w' (.own A2 (recN r) c2 5 1 (bv (recL r)) :: .own A1 (recN r) c1 5 1 (bv (recL r)) :: L) ∧ RdsV (.own A2 (recN r) c2 5 1 (bv (recL r)) :: .own A1 (recN r) c1 5 1 (bv (recL r)) :: L) V m (bv t)) ∧ m ≤ 140737488355328 ∧
      e'.Has [(1, .slice V m d), (8, .slice A1 (recN r) c1), (9, .int .i64 (recE r)), (10, .slice A2 (recN r) c2), (11, .int .i64 (recE r))]) ?_ ?_
  · cases sl with
    | false =>
      (refine Reach.walk ?_; (repeat (first | ((with_reducible refine AllSt.mk ?_); (try clear hS); intro w hS) | ((with_reducible refine AllVw.mk ?_); intro V hV))))
      exact ⟨A, n, c, l, hv, ⟨_, hS, RdsV.found⟩, by omega, rfl, rfl, rfl, rfl, rfl, trivial⟩
    | true =>
      (refine Reach.walk ?_; (repeat (first | ((with_reducible refine AllSt.mk ?_); (try clear hS); intro w hS) | ((with_reducible refine AllVw.mk ?_); intro V hV))))
      (with_reducible apply WpL.call); (· exact rfl); (· exact Try.call10); (· exact Vals.found)
      refine (refSealS hS RdsV.found (by omega)).mono ?_
      clear hS
      rintro x w ⟨V, d, rfl, hV, hS⟩
      refine ⟨_, rfl, ?_⟩
      (refine Reach.walk ?_; (repeat (first | ((with_reducible refine AllSt.mk ?_); (try clear hS); intro w hS) | ((with_reducible refine AllVw.mk ?_); intro V hV))))
      have e1 : (Crc.sealed l).length = n + 4 := by rw [Crc.sealed_length]; omega
      replace hS := (hS.take (pre := [.own A2 _ _ _ _ _, .own A1 _ _ _ _ _]) Take.found)
      simp only [List.cons_append, List.nil_append] at hS
      exact ⟨V, n + 4, d, Crc.sealed l, hV, ⟨_, hS, RdsV.whole (.there (.there .own)) (by simpa using e1)⟩, by omega, rfl, rfl, rfl, rfl, rfl, trivial⟩
  clear hS
  rintro e w ⟨V, m, d, t, hV, ⟨L, hS, hrd⟩, hml, he⟩
  obtain ⟨e0, rfl⟩ := he.eq
  clear he
  dsimp only [Env.sets]
  (refine Reach.walk ?_; (repeat (first | ((with_reducible refine AllSt.mk ?_); (try clear hS); intro w hS) | ((with_reducible refine AllVw.mk ?_); intro V hV))))
  (with_reducible apply WpL.call); (· exact rfl); (· exact Try.call11); (· exact Vals.found)
  refine (parse_any hS hrd hV hml).mono ?_
  clear hS
  rintro x w ⟨rfl, hS⟩
  refine ⟨_, rfl, ?_⟩
  (refine Reach.walk ?_; (repeat (first | ((with_reducible refine AllSt.mk ?_); (try clear hS); intro w hS) | ((with_reducible refine AllVw.mk ?_); intro V hV))))
  ((with_reducible apply WpL.al); (· assumption); (· exact rfl); (· exact rfl); clear hS)
  intro gx w hS
  (refine Reach.walk ?_; (repeat (first | ((with_reducible refine AllSt.mk ?_); (try clear hS); intro w hS) | ((with_reducible refine AllVw.mk ?_); intro V hV))))
  have hrd2 : RdsV (.blk gx 24 (parseR t).1.cells :: .own A2 (recN r) c2 5 1 (bv (recL r)) :: .own A1 (recN r) c1 5 1 (bv (recL r)) :: L) V m (bv t) := fun w0 M w h => hrd w0 M w h.tail
  (with_reducible apply WpL.call); (· exact rfl); (· exact Try.call12); (· exact Vals.found)
  refine (refParse_any hS hrd2 hV hml).mono ?_
  clear hS
  rintro x w ⟨rfl, hS⟩
  refine ⟨_, rfl, ?_⟩
  generalize (parseR t).1 = q at *
  generalize (parseR t).2 = E at *
  (refine Reach.walk ?_; (repeat (first | ((with_reducible refine AllSt.mk ?_); (try clear hS); intro w hS) | ((with_reducible refine AllVw.mk ?_); intro V hV))))
  ((with_reducible apply WpL.al); (· assumption); (· exact rfl); (· exact rfl); clear hS)
  intro gy w hS
  (refine Reach.walk ?_; (repeat (first | ((with_reducible refine AllSt.mk ?_); (try clear hS); intro w hS) | ((with_reducible refine AllVw.mk ?_); intro V hV))))
  refine WpL.det rfl (Det.eqlRow rfl rfl (fit_rec _) (fit_rec _)) ?_
  rw [eq_rec]
  (refine Reach.walk ?_; (repeat (first | ((with_reducible refine AllSt.mk ?_); (try clear hS); intro w hS) | ((with_reducible refine AllVw.mk ?_); intro V hV))))
  (with_reducible apply doneQ_one Try.results3); (· exact slotFound)
  exact ⟨rfl, hS.toBelow⟩
end Go.Proofs.Ytjdkkbbmboggpaa
