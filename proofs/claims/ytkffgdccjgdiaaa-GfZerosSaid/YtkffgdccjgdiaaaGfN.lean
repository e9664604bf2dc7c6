/-
  Polynomials of the program: without noughts at the end; values.
-/
import Derived.Test.YtkffgdccjgdiaaaGfK
namespace Go.Fk
open Go.RowKit
theorem IsVw.same {V V' : Option Addr} {n c : Nat} (h : IsVw V' n c V 0) (hc : c ≠ 0) : V' = V := by
  rcases h.at_ with h1 | ⟨a, h1, h2⟩
  · exact absurd h1 hc
  · rw [h1, h2, add_zero]
theorem RdsV.cellAt {L : List Ch} {V : Option Addr} {n i : Nat} {ys : List Value} {v : Value} {w0 w : World} {M : Nat → Prop} (hr : RdsV L V n ys) (hS : St w0 M w L) (hi : ys[i]? = some v) : w.cell? ((adr V).add i) = some v := by
  obtain ⟨h1, h2⟩ := hr w0 M w hS
  obtain ⟨a, rfl, hat⟩ := h1.at_ (List.getElem?_eq_some_iff.1 hi).1
  exact hat i v hi
theorem WpL.ldV {P : Program} {N : Nat} {ops : Array Oper} {K : Env → World → Prop} {rest : List Oper} {e : Env} {w w0 : World} {M : Nat → Prop} {L : List Ch} {ty t : TypeId} {pos : String} {after : Array Edge} {d : Tmp} {x : Operand} {V : Option Addr} {n i : Nat} {ys : List Value} {v : Value} [Cell1 P t]
    (hr : RdsV L V n ys) (hS : St w0 M w L) (hi : ys[i]? = some v) (hd : dOk N (some d) = true) (hx : e.eval x = .pointer (some ((adr V).add i))) (h : WpL P N ops K rest (e.set d v) w) :
    WpL P N ops K (⟨some d, .load t x, ty, pos, after, none⟩ :: rest) e w := WpL.load1 hd hx (hr.cellAt hS hi) h
theorem St.shrink {w0 w : World} {M : Nat → Prop} {L : List Ch} {A : Option Addr} {n c k : Nat} {el : TypeId} {xs : List Value} (hS : St w0 M w (.own A n c el 1 xs :: L)) (hk : k ≤ n) : St w0 M w (.own A k c el 1 (xs.take k) :: L) := by
  refine hS.put (Chg.refl _ _) ?_ rfl fun g hg => .inl hg
  obtain ⟨h1, h2⟩ := (show Sl w 0 el 1 (.slice A n c) n xs from (hS.hold _ List.mem_cons_self).1)
  refine ⟨by rw [List.length_take, h1]; omega, ?_⟩
  rcases h2 with ⟨h2, h3⟩ | ⟨g, cap', cur, h2, hb, hg, hn, hmx, hcs, htk⟩
  · injection h2 with h4 h5 h6
    subst h4 h5 h6
    obtain rfl : k = 0 := by omega
    exact .inl ⟨rfl, rfl⟩
  · injection h2 with h4 h5 h6
    subst h4 h6
    exact .inr ⟨g, c, cur, rfl, hb, hg, by omega, hmx, hcs, by rw [← htk, List.take_take]; congr 1; omega⟩
end Go.Fk
namespace Go.Proofs.Ytkffgdccjgdiaaa
open Go.Fk Go.RowKit
attribute [local irreducible] Wp WpL Det thenQ blockQ
/-- Elements, as numbers. -/
def nv (l : List Nat) : List Int := l.map fun a : Nat => (a : Int)
@[simp] theorem nv_length (l : List Nat) : (nv l).length = l.length := by simp [nv]
theorem nv_get (l : List Nat) (i : Nat) : (nv l).getD i 0 = (Gf.cf l i : Int) := by
  simp only [nv, Gf.cf, List.getD_eq_getElem?_getD, List.getElem?_map]
  cases l[i]? <;> rfl
theorem nv_cell {l : List Nat} {i : Nat} (h : i < l.length) : (zv (nv l))[i]? = some (.int .i64 (Gf.cf l i : Int)) := by
  rw [zvg (by simpa using h), nv_get]
theorem nv_take (l : List Nat) (n : Nat) : (zv (nv l)).take n = zv (nv (l.take n)) := by rw [← zv_take]; simp [nv, List.map_take]
/-- Numbers, as elements. -/
def pe (m : Nat) (p : List Int) : List Nat := p.map (inE m)
@[simp] theorem pe_length (m : Nat) (p : List Int) : (pe m p).length = p.length := by simp [pe]
theorem pe_el {m : Nat} (h : Gf.Is m) (p : List Int) : Gf.El m (pe m p) := fun x hx => by
  obtain ⟨z, _, rfl⟩ := List.mem_map.1 hx
  exact inE_lt h z
theorem pe_cf {m : Nat} (p : List Int) (i : Nat) : Gf.cf (pe m p) i = if i < p.length then inE m (p.getD i 0) else 0 := by
  simp only [Gf.cf, pe, List.getD_eq_getElem?_getD, List.getElem?_map]
  by_cases h : i < p.length
  · rw [if_pos h, List.getElem?_eq_getElem h]; rfl
  · rw [if_neg h, List.getElem?_eq_none (by omega)]; rfl
theorem pe_nv {m : Nat} (h : Gf.Is m) {l : List Nat} (hl : Gf.El m l) : pe m (nv l) = l := by
  unfold pe nv
  rw [List.map_map]
  conv => rhs; rw [← List.map_id l]
  exact List.map_congr_left fun a ha => inE_nat h (hl a ha)

section
variable {w w0 : World} {M : Nat → Prop} {L : List Ch} {m g : Nat} {F : FS}
theorem trim_any {V : Option Addr} {n c : Nat} {l : List Nat} (hn : l.length = n) (hV : IsVw V n c V 0) (hm : n ≤ 1099511627776) (hr : RdsV L V n (zv (nv l))) (hS : St w0 M w L) :
    Calls Try.prog 46 #[.slice V n c] w fun x w' => x = .returned (.slice V (Gf.tl l) c) ∧ w = w' := by
  have hle := Gf.tl_le l
  (refine calls_of (P := Try.prog) _ Try.func46 rfl Try.ntmps46 (Nat.le_of_ble_eq_true rfl) ?_; dsimp only [argE, Nat.reduceAdd])
  (refine Reach.walk ?_; (repeat (first | ((with_reducible refine AllSt.mk ?_); (try clear hS); intro w hS) | ((with_reducible refine AllVw.mk ?_); intro V hV))))
  apply Wp.loopUp (n - Gf.tl l) (fun k e w' => w' = w ∧ Gf.tl l ≤ n - k ∧ e.Has [(0, .slice V (n - k) c)]) (Nat.zero_le _)
    ⟨rfl, by omega, rfl, trivial⟩
  rintro k e w1 hk ⟨rfl, hkl, he⟩
  obtain ⟨e0, rfl⟩ := he.eq
  clear he
  dsimp only [Env.sets]
  have hVk : IsVw V (n - k) c V 0 := ⟨by have := hV.le; omega, hV.max, hV.at_⟩
  have hle2 := hV.le
  by_cases h0 : n - k = 0
  · have ht : Gf.tl l = 0 := by omega
    rw [h0]
    (refine Reach.walk ?_; (repeat (first | ((with_reducible refine AllSt.mk ?_); (try clear hS); intro w hS) | ((with_reducible refine AllVw.mk ?_); intro V hV))))
    (with_reducible apply doneQ_one Try.results46); (· exact slotFound)
    exact ⟨by rw [ht], rfl⟩
  have hget : (zv (nv l))[n - k - 1]? = some (.int .i64 (Gf.cf l (n - k - 1) : Int)) := nv_cell (by omega)
  by_cases hz : Gf.cf l (n - k - 1) = 0
  · have hlt := Gf.tl_lt hkl (by omega) hz
    rw [hz] at hget
    (refine Reach.walk ?_; (repeat (first | ((with_reducible refine AllSt.mk ?_); (try clear hS); intro w hS) | ((with_reducible refine AllVw.mk ?_); intro V hV))))
    refine WpL.ldV hr hS hget rfl rfl ?_
    (refine Reach.walk ?_; (repeat (first | ((with_reducible refine AllSt.mk ?_); (try clear hS); intro w hS) | ((with_reducible refine AllVw.mk ?_); intro V hV))))
    obtain rfl := hV.same (by omega)
    exact ⟨by omega, rfl, by omega, by rw [show n - (k + 1) = n - k - 1 by omega]; rfl, trivial⟩
  · have ht : Gf.tl l = n - k := by
      refine Nat.le_antisymm hkl (Nat.not_lt.1 fun hlt => hz (Gf.tl_over (by omega)))
    have hz2 : ¬ (Gf.cf l (n - k - 1) : Int) = 0 := by omega
    (refine Reach.walk ?_; (repeat (first | ((with_reducible refine AllSt.mk ?_); (try clear hS); intro w hS) | ((with_reducible refine AllVw.mk ?_); intro V hV))))
    refine WpL.ldV hr hS hget rfl rfl ?_
    (refine Reach.walk ?_; (repeat (first | ((with_reducible refine AllSt.mk ?_); (try clear hS); intro w hS) | ((with_reducible refine AllVw.mk ?_); intro V hV))))
    (with_reducible apply doneQ_one Try.results46); (· exact slotFound)
    exact ⟨by rw [ht], rfl⟩
end
end Go.Proofs.Ytkffgdccjgdiaaa
