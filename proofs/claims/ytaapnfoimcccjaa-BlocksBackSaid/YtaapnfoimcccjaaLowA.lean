/-
  Numbers as bytes, what seals and what opens, over the parts of memory.
-/
import Derived.Test.YtaapnfoimcccjaaCrcF
import Derived.Test.YtaapnfoimcccjaaIns
namespace Go.Proofs.Ytaapnfoimcccjaa
open Go.Fk Go.RowKit
attribute [local irreducible] Wp WpL Det thenQ blockQ

section
variable {w w0 : World} {M : Nat → Prop} {L : List Ch}
/-- low.Append, of what may only be appended to. -/
theorem lowAppendA_any {A : Option Addr} {n c m k : Nat} {l : List UInt8} (hn : l.length = n) (hm : m < 18446744073709551616) (hk : n + k ≤ 140737488355328) (hV : IsVw A n c A 0) (hS : St w0 M w (.app A n c 5 1 (bv l) :: L)) :
    Calls Try.prog 46 #[.slice A n c, .int .u64 (m : Int), .int .i64 (k : Int)] w fun x w' => ∃ A' c', x = .returned (.slice A' (n + k) c') ∧ IsVw A' (n + k) c' A' 0 ∧ St w0 M w' (.app A' (n + k) c' 5 1 (bv (l ++ Crc.loB m k)) :: L) := by
  subst hn
  (refine calls_of (P := Try.prog) _ Try.func46 rfl Try.ntmps46 (Nat.le_of_ble_eq_true rfl) ?_; dsimp only [argE, Nat.reduceAdd])
  (refine Reach.walk ?_; (repeat (first | ((with_reducible refine AllSt.mk ?_); (try clear hS); intro w hS) | ((with_reducible refine AllVw.mk ?_); intro V hV))))
  apply Wp.loopUp k (fun i e w' => ∃ A' c', IsVw A' (l.length + i) c' A' 0 ∧ St w0 M w' (.app A' (l.length + i) c' 5 1 (bv (l ++ Crc.loB m i)) :: L) ∧ e.Has [(8, .int .i64 (i : Nat)), (7, .int .i64 k), (0, .slice A' (l.length + i) c'), (1, .int .u64 ((m >>> (8 * i) : Nat) : Int))]) (Nat.zero_le k)
    ⟨A, c, hV, by rw [Crc.loB_zero, List.append_nil]; exact hS, rfl, rfl, rfl, rfl, trivial⟩
  clear hV hS
  rintro i e w1 hi ⟨A1, c1, hV, hS, he⟩
  obtain ⟨e0, rfl⟩ := he.eq
  clear he
  dsimp only [Env.sets]
  by_cases hlt : i < k
  · have hmi : m >>> (8 * i) < 18446744073709551616 := Nat.lt_of_le_of_lt (by rw [Nat.shiftRight_eq_div_pow]; exact Nat.div_le_self _ _) hm
    have hnext : m >>> (8 * (i + 1)) = (m >>> (8 * i)) >>> 8 := by rw [← Nat.shiftRight_add]; congr 1
    have hlb := Crc.loB_length m i
    (refine Reach.walk ?_; (repeat (first | ((with_reducible refine AllSt.mk ?_); (try clear hS); intro w hS) | ((with_reducible refine AllVw.mk ?_); intro V hV))))
    ((with_reducible apply WpL.bs); (· assumption); (· exact rfl); (· exact BVals.found); (· exact oneAll_spec rfl); (· exact rfl); (· decide); (· exact listFound); clear hS)
    intro A2 w hV2 hS
    (refine Reach.walk ?_; (repeat (first | ((with_reducible refine AllSt.mk ?_); (try clear hS); intro w hS) | ((with_reducible refine AllVw.mk ?_); intro V hV))))
    replace hS := hS.perm (List.Perm.swap _ _ _)
    ((with_reducible apply WpL.appA); (· assumption); (· exact rfl); (· exact rfl); (· exact rfl); (· exact Sel.found); (· simp only [Nat.mul_one]; exact RdsV.found); (· exact onesFound); (· exact catFound); (· omega); (· omega); clear hS)
    intro A3 c3 w hV3 hS
    replace hS := hS.perm (List.Perm.swap _ _ _) |>.tail
    (refine Reach.walk ?_; (repeat (first | ((with_reducible refine AllSt.mk ?_); (try clear hS); intro w hS) | ((with_reducible refine AllVw.mk ?_); intro V hV))))
    refine ⟨hlt, A3, c3, hV3, ?_, int_eq (by omega), rfl, rfl, int_eq (by rw [hnext]), trivial⟩
    rw [Crc.loB_snoc, ← List.append_assoc]
    have e1 : UInt8.ofNat (m >>> (8 * i) % 256) = UInt8.ofNat (m >>> (8 * i)) := by
      apply UInt8.toNat_inj.1; simp
    rw [← e1]
    exact hS
  · have hik : i = k := by omega
    subst hik
    (refine Reach.walk ?_; (repeat (first | ((with_reducible refine AllSt.mk ?_); (try clear hS); intro w hS) | ((with_reducible refine AllVw.mk ?_); intro V hV))))
    (with_reducible apply doneQ_one Try.results46); (· exact slotFound)
    exact ⟨_, _, rfl, hV, hS⟩
theorem lowAppend32A_any {A : Option Addr} {n c m : Nat} {l : List UInt8} (hn : l.length = n) (hm : m < 4294967296) (hk : n + 4 ≤ 140737488355328) (hV : IsVw A n c A 0) (hS : St w0 M w (.app A n c 5 1 (bv l) :: L)) :
    Calls Try.prog 38 #[.slice A n c, .int .u32 (m : Int)] w fun x w' => ∃ A' c', x = .returned (.slice A' (n + 4) c') ∧ IsVw A' (n + 4) c' A' 0 ∧ St w0 M w' (.app A' (n + 4) c' 5 1 (bv (l ++ Crc.loB m 4)) :: L) := by
  (refine calls_of (P := Try.prog) _ Try.func38 rfl Try.ntmps38 (Nat.le_of_ble_eq_true rfl) ?_; dsimp only [argE, Nat.reduceAdd])
  (refine Reach.walk ?_; (repeat (first | ((with_reducible refine AllSt.mk ?_); (try clear hS); intro w hS) | ((with_reducible refine AllVw.mk ?_); intro V hV))))
  (with_reducible apply WpL.call); (· exact rfl); (· exact Try.call46); (· exact Vals.found)
  refine (lowAppendA_any (k := 4) hn (by omega) hk hV hS).mono ?_
  rintro x w1 ⟨A1, c1, rfl, hV, hS⟩
  refine ⟨_, rfl, ?_⟩
  (refine Reach.walk ?_; (repeat (first | ((with_reducible refine AllSt.mk ?_); (try clear hS); intro w hS) | ((with_reducible refine AllVw.mk ?_); intro V hV))))
  (with_reducible apply doneQ_one Try.results38); (· exact slotFound)
  exact ⟨_, _, rfl, hV, hS⟩

theorem sealS {V : Option Addr} {n c : Nat} {l : List UInt8} (hS : St w0 M w L) (hr : RdsV L V n (bv l)) (hlen : n + 4 ≤ 140737488355328) :
    Calls Try.prog 39 #[.slice V n c] w fun x w' => ∃ A' c', x = .returned (.slice A' (n + 4) c') ∧ IsVw A' (n + 4) c' A' 0 ∧ St w0 M w' (.own A' (n + 4) c' 5 1 (bv (Crc.sealed l)) :: L) := by
  obtain ⟨h1, h2⟩ := hr w0 M w hS
  have h2 : l.length = n := by simpa using h2
  refine (seal_any V l n c h2 hlen w h1).mono ?_
  rintro x w' ⟨v', rfl, hv, hb⟩
  obtain ⟨A', c', rfl, hV', hS'⟩ := hS.newSl hb hv
  rw [Crc.sealed_length, h2] at hV' hS' ⊢
  exact ⟨A', c', rfl, hV', hS'⟩
theorem refSealS {V : Option Addr} {n c : Nat} {l : List UInt8} (hS : St w0 M w L) (hr : RdsV L V n (bv l)) (hlen : n + 4 ≤ 140737488355328) :
    Calls Try.prog 27 #[.slice V n c] w fun x w' => ∃ A' c', x = .returned (.slice A' (n + 4) c') ∧ IsVw A' (n + 4) c' A' 0 ∧ St w0 M w' (.own A' (n + 4) c' 5 1 (bv (Crc.sealed l)) :: L) := by
  obtain ⟨h1, h2⟩ := hr w0 M w hS
  have h2 : l.length = n := by simpa using h2
  refine (refSeal_any V l n c h2 hlen w h1).mono ?_
  rintro x w' ⟨v', rfl, hv, hb⟩
  obtain ⟨A', c', rfl, hV', hS'⟩ := hS.newSl hb hv
  rw [Crc.sealed_length, h2] at hV' hS' ⊢
  exact ⟨A', c', rfl, hV', hS'⟩
theorem openS {V : Option Addr} {n c : Nat} {l : List UInt8} (hS : St w0 M w L) (hr : RdsV L V n (bv l)) (hnc : n ≤ c) (hlen : n ≤ 140737488355328) :
    Calls Try.prog 36 #[.slice V n c] w fun x w' =>
      (Crc.good l ∧ ∃ A' c', x = .returned (.tuple #[.slice A' (n - 4) c', .int .i64 0]) ∧ IsVw A' (n - 4) c' A' 0 ∧ St w0 M w' (.own A' (n - 4) c' 5 1 (bv (l.take (n - 4))) :: L)) ∨
      (¬ Crc.good l ∧ x = .returned (.tuple #[.slice none 0 0, .int .i64 30]) ∧ St w0 M w' L) := by
  obtain ⟨h1, h2⟩ := hr w0 M w hS
  have h2 : l.length = n := by simpa using h2
  refine (open_any V l n c h2 hnc hlen w h1).mono ?_
  rintro x w' ⟨hb, ⟨hg, v', rfl, hv⟩ | ⟨hg, rfl⟩⟩
  · obtain ⟨A', c', rfl, hV', hS'⟩ := hS.newSl hb hv
    have e1 : (l.take (n - 4)).length = n - 4 := by simp; omega
    rw [e1] at hV' hS' ⊢
    exact .inl ⟨hg, A', c', rfl, hV', hS'⟩
  · exact .inr ⟨hg, rfl, hS.below hb⟩
theorem refOpenS {V : Option Addr} {n c : Nat} {l : List UInt8} (hS : St w0 M w L) (hr : RdsV L V n (bv l)) (hnc : n ≤ c) (hlen : n ≤ 140737488355328) :
    Calls Try.prog 41 #[.slice V n c] w fun x w' =>
      (Crc.good l ∧ ∃ A' c', x = .returned (.tuple #[.slice A' (n - 4) c', .int .i64 0]) ∧ IsVw A' (n - 4) c' A' 0 ∧ St w0 M w' (.own A' (n - 4) c' 5 1 (bv (l.take (n - 4))) :: L)) ∨
      (¬ Crc.good l ∧ x = .returned (.tuple #[.slice none 0 0, .int .i64 30]) ∧ St w0 M w' L) := by
  obtain ⟨h1, h2⟩ := hr w0 M w hS
  have h2 : l.length = n := by simpa using h2
  refine (refOpen_any V l n c h2 hnc hlen w h1).mono ?_
  rintro x w' ⟨hb, ⟨hg, v', rfl, hv⟩ | ⟨hg, rfl⟩⟩
  · obtain ⟨A', c', rfl, hV', hS'⟩ := hS.newSl hb hv
    have e1 : (l.take (n - 4)).length = n - 4 := by simp; omega
    rw [e1] at hV' hS' ⊢
    exact .inl ⟨hg, A', c', rfl, hV', hS'⟩
  · exact .inr ⟨hg, rfl, hS.below hb⟩
/-- low.Uint64, low.Uint32 of what is seen through a slice. -/
theorem uint32S {V : Option Addr} {n c : Nat} {l : List UInt8} (hS : St w0 M w L) (hr : RdsV L V n (bv l)) (h4 : 4 ≤ n) (hlen : n ≤ 140737488355328) :
    Calls Try.prog 37 #[.slice V n c] w fun x w' => x = .returned (.int .u32 (Crc.loN (l.take 4) : Nat)) ∧ w = w' := by
  obtain ⟨h1, h2⟩ := hr w0 M w hS
  exact uint32_any V l n c (by simpa using h2) h4 hlen w h1
end
end Go.Proofs.Ytaapnfoimcccjaa
