/-
  RingPhases: each completion is found once, in order.
-/
import Derived.Test.YtaengifldfgjcaaRngM
namespace Go.Fk.Ent
theorem rd_over_in {l bs : List UInt8} {o a k : Nat} (h : o + bs.length ≤ l.length) (ha : a + k ≤ bs.length) : rd (over l o bs) (o + a) k = rd bs a k := by
  unfold rd
  congr 1
  refine List.ext_getElem? fun j => ?_
  rw [List.getElem?_take, List.getElem?_take]
  split
  · rw [List.getElem?_drop, List.getElem?_drop, over_get h, if_pos (by omega)]
    congr 1
    omega
  · rfl
theorem rd_slot {l : List UInt8} {o a k : Nat} (h : a + k ≤ 16) : rd ((l.drop o).take 16) a k = rd l (o + a) k := by
  unfold rd
  congr 1
  refine List.ext_getElem? fun j => ?_
  rw [List.getElem?_take, List.getElem?_take]
  split
  · rw [List.getElem?_drop, List.getElem?_take, if_pos (by omega), List.getElem?_drop, List.getElem?_drop]
    congr 1
    omega
  · rfl
theorem rd_zeros (n a k : Nat) : rd (List.replicate n 0) a k = 0 := by
  have h : ∀ (m : Nat), Crc.loN (List.replicate m 0) = 0 := fun m => by
    induction m with
    | zero => rfl
    | succ m ih => rw [List.replicate_succ, Crc.loN, ih]; rfl
  unfold rd
  rw [List.drop_replicate, List.take_replicate]
  exact h _
theorem rd_done (id : Nat) (ph : Bool) : rd (doneBytes 0 0 0 id 0 ph) 12 2 = id % 65536 ∧ rd (doneBytes 0 0 0 id 0 ph) 14 2 = ph.toNat := by
  have hlb : ∀ m k, (Crc.loB m k).length = k := Crc.loB_length
  unfold doneBytes
  have l0 : (List.replicate 16 (0 : UInt8)).length = 16 := by simp
  generalize List.replicate 16 (0 : UInt8) = c0 at *
  have l1 : (over c0 0 (Crc.loB 0 4)).length = 16 := by rw [over_length (by rw [hlb]; omega)]; exact l0
  generalize over c0 0 (Crc.loB 0 4) = c1 at *
  have l2 : (over c1 8 (Crc.loB 0 2)).length = 16 := by rw [over_length (by rw [hlb]; omega)]; exact l1
  generalize over c1 8 (Crc.loB 0 2) = c2 at *
  have l3 : (over c2 10 (Crc.loB 0 2)).length = 16 := by rw [over_length (by rw [hlb]; omega)]; exact l2
  generalize over c2 10 (Crc.loB 0 2) = c3 at *
  have l4 : (over c3 12 (Crc.loB id 2)).length = 16 := by rw [over_length (by rw [hlb]; omega)]; exact l3
  constructor
  · rw [rd_over_off (by rw [hlb]; omega) (by rw [hlb]; omega), rd_over (by omega)]
  · rw [rd_over (by omega)]
    cases ph <;> rfl
end Go.Fk.Ent
namespace Go.Proofs.Ytaengifldfgjcaa
open Go.Fk Go.RowKit
attribute [local irreducible] Wp WpL Det thenQ blockQ
theorem phB_next {d p : Nat} (hd : 2 ≤ d) : phB d (p + 1) = if p % d + 1 = d then !(phB d p) else phB d p := by
  unfold phB
  have h1 := Nat.div_add_mod p d
  have h2 : p % d < d := Nat.mod_lt _ (by omega)
  split
  · rename_i h
    have e : (p + 1) / d = p / d + 1 := by
      rw [show p + 1 = d * (p / d + 1) by rw [Nat.mul_add]; omega, Nat.mul_div_cancel_left _ (by omega)]
    rw [e]
    rcases Nat.mod_two_eq_zero_or_one (p / d) with h3 | h3
    · rw [h3, show (p / d + 1) % 2 = 1 by omega]; rfl
    · rw [h3, show (p / d + 1) % 2 = 0 by omega]; rfl
  · rename_i h
    have e : (p + 1) / d = p / d := by
      refine Nat.div_eq_of_lt_le ?_ ?_
      · rw [Nat.mul_comm]; omega
      · rw [Nat.add_mul, Nat.mul_comm]; omega
    rw [e]
theorem mod_next {d p : Nat} (hd : 2 ≤ d) : (p + 1) % d = if p % d + 1 = d then 0 else p % d + 1 := by
  have h2 : p % d < d := Nat.mod_lt _ (by omega)
  rw [show p + 1 = p + 1 from rfl, Nat.add_mod, Nat.mod_eq_of_lt (show 1 < d by omega)]
  split
  · rename_i h; rw [h, Nat.mod_self]
  · exact Nat.mod_eq_of_lt (by omega)

/-- The slots: those posted and not found hold their numbers and their phases; the others hold the other phase. -/
def Phased (mem : List UInt8) (d found posted : Nat) : Prop := (∀ k, found ≤ k → k < posted → Ent.rd mem (k % d * 16 + 12) 2 = k % 65536 ∧ decide (((Ent.rd mem (k % d * 16 + 14) 2 % 2 : Nat) : Int) = 1) = phB d k) ∧
  ∀ k, posted ≤ k → k < found + d → decide (((Ent.rd mem (k % d * 16 + 14) 2 % 2 : Nat) : Int) = 1) = !(phB d k)
theorem phB_round {d p : Nat} (hd : 0 < d) : phB d (p + d) = !(phB d p) := by
  unfold phB
  rw [Nat.add_div_right _ hd]
  rcases Nat.mod_two_eq_zero_or_one (p / d) with h3 | h3
  · rw [h3, show (p / d + 1) % 2 = 1 by omega]; rfl
  · rw [h3, show (p / d + 1) % 2 = 0 by omega]; rfl
theorem Phased.start {m d : Nat} (hd : 0 < d) : Phased (List.replicate m 0) d 0 0 := by
  refine ⟨fun k _ h => absurd h (by omega), fun k _ h => ?_⟩
  rw [Ent.rd_zeros, phB, Nat.div_eq_of_lt (by omega)]
  rfl
theorem Phased.find {mem : List UInt8} {d found posted : Nat} (h : Phased mem d found posted) (hd : 0 < d) (hlt : found < posted) : Phased mem d (found + 1) posted := by
  refine ⟨fun k h1 h2 => h.1 k (by omega) h2, fun k h1 h2 => ?_⟩
  by_cases hk : k < found + d
  · exact h.2 k h1 hk
  · obtain rfl : k = found + d := by omega
    rw [Nat.add_mod_right, phB_round hd, Bool.not_not]
    exact (h.1 found (Nat.le_refl _) hlt).2
theorem Phased.post {mem : List UInt8} {d found posted : Nat} (h : Phased mem d found posted) (hl : mem.length = 16 * d) (hfp : found ≤ posted) (hlt : posted < found + d) {bs : List UInt8} (hb : bs.length = 16)
    (h1 : Ent.rd bs 12 2 = posted % 65536) (h2 : Ent.rd bs 14 2 = (phB d posted).toNat) : Phased (Ent.over mem (0 + posted % d * 16) bs) d found (posted + 1) := by
  have hpm : posted % d < d := Nat.mod_lt _ (by omega)
  have off : ∀ k, k ≠ posted → found ≤ k → k < found + d → ∀ a, a + 2 ≤ 16 → Ent.rd (Ent.over mem (0 + posted % d * 16) bs) (k % d * 16 + a) 2 = Ent.rd mem (k % d * 16 + a) 2 := fun k hk hk1 hk2 a ha => by
    have hne : k % d ≠ posted % d := by
      rcases Nat.lt_or_ge k posted with h | h
      · exact slot_ne h (by omega)
      · exact Ne.symm (slot_ne (show posted < k by omega) (by omega))
    exact Ent.rd_over_off (by omega) (by omega)
  refine ⟨fun k hk1 hk2 => ?_, fun k hk1 hk2 => ?_⟩
  · by_cases hk : k = posted
    · subst hk
      have e1 : k % d * 16 + 12 = (0 + k % d * 16) + 12 := by omega
      have e2 : k % d * 16 + 14 = (0 + k % d * 16) + 14 := by omega
      rw [e1, e2, Ent.rd_over_in (by omega) (by omega), Ent.rd_over_in (by omega) (by omega), h1, h2]
      refine ⟨rfl, ?_⟩
      cases phB d k <;> rfl
    · rw [off k hk hk1 (by omega) 12 (by omega), off k hk hk1 (by omega) 14 (by omega)]
      exact h.1 k hk1 (by omega)
  · rw [off k (by omega) (by omega) hk2 14 (by omega)]
    exact h.2 k (by omega) hk2
end Go.Proofs.Ytaengifldfgjcaa
