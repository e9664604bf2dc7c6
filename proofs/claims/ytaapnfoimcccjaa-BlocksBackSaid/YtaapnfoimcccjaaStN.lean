/-
  Noughts appended to bytes. It holds for any program; conditions stand at each theorem.
-/
import Derived.Test.YtaapnfoimcccjaaStM
namespace Go.Fk
open Go.RowKit

section
variable {P : Program} {N : Nat} {ops : Array Oper} {K : Env → World → Prop} {rest : List Oper} {e : Env} {w : World} {ty : TypeId} {pos : String} {after : Array Edge} {x y : Operand}
variable {w0 : World} {M : Nat → Prop} {L L1 : List Ch} {t el ti : TypeId} {d : Tmp}
theorem zeroCells_u8 (m : Nat) : Builtin.zeroCells #[.int .u8 0] m = (List.replicate m (Value.int .u8 0)).toArray := by
  apply Array.ext'
  refine List.ext_getElem (by simp [Builtin.zeroCells]) fun j h1 h2 => ?_
  have h3 : j % 1 = 0 := Nat.mod_one j
  simp [Builtin.zeroCells, h3]
theorem run_appendZ_none [ht : SliceT P t el] {k : IntKind} [hti : IntT P ti k] [he : Elem P el 1 1 (.int .u8 0)] {A : Option Addr} {n c : Nat} (hn : n ≤ c) : (Builtin.append_ #[t, ti] ty #[.slice A n c, .int .i64 0]).run P w = .ok (.slice A n c) w := by
  obtain ⟨inf, hinf, hz, hsize, hby⟩ := he.get
  have hw : IntKind.i64.wrap 0 = 0 := rfl
  cases A <;> simp [Builtin.append_, run_underlying ht.hu, run_underlying hti.hu, sizeOf, typeInfo, hinf, asInt, asIntOf, hw, hn, storeCells]
theorem run_appendZ_grow [ht : SliceT P t el] {k : IntKind} [hti : IntT P ti k] [he : Elem P el 1 1 (.int .u8 0)] {A : Option Addr} {n c m : Nat} {xs : List Value} (hm0 : 0 < m) (hlx : xs.length = n) (hr : Rd w A xs) (hg : c < n + m) (hm : n + m ≤ 140737488355328) :
    (Builtin.append_ #[t, ti] ty #[.slice A n c, .int .i64 (m : Int)]).run P w =
      .ok (.slice (some ⟨w.heap.size, 0, none⟩) (n + m) (grownCap w (n + m) c el)) (w.drew.alloc (.cells (xs.toArray ++ (List.replicate m (Value.int .u8 0)).toArray ++ Builtin.zeroCells #[.int .u8 0] (grownCap w (n + m) c el - (n + m))) el)) := by
  obtain ⟨inf, hinf, hz, hsize, hby⟩ := he.get
  have hw : IntKind.i64.wrap (m : Int) = m := wrap_i64 (by omega) (by omega)
  have hneg : ¬ ((m : Int) < 0) := by omega
  have hbig : ¬ (281474976710656 < (m : Int)) := by omega
  have hn : ¬ (n + m ≤ c) := by omega
  have h63 : ¬ (9223372036854775807 < ((n : Int) + (m : Int))) := by omega
  have h48 := growslice_fits (need := n + m) (old := c) (bytes := 1) (by omega) (by omega)
  have h48' : ¬ (281474976710656 < Builtin.nextslicecap (n + m) c) := by simpa using h48
  have hm00 : ¬ m = 0 := by omega
  have hfo : (Builtin.firstCells 1 n (.slice A n c)).run P w.drew = .ok xs.toArray w.drew := by
    rcases hr with rfl | ⟨a, rfl, hat⟩
    · simp only [List.length_nil] at hlx
      subst hlx
      cases A <;> simp [Builtin.firstCells, loadCells, loadCellsFrom]
    · exact run_firstCells_some (P := P) w.drew 1 n a n c xs (by omega) (fun j u hu => hat j u hu)
  simp [Builtin.append_, run_underlying ht.hu, run_underlying hti.hu, sizeOf, typeInfo, hinf, hsize, hby, asInt, asIntOf, hw, hneg, hbig, hn, h63, h48', hm00, Question.forced, hfo, zeroValue, hz, Value.cells, zeroCells_u8, newRow, grownCap]
theorem run_appendZ_room [ht : SliceT P t el] {k : IntKind} [hti : IntT P ti k] [he : Elem P el 1 1 (.int .u8 0)] {g n c m : Nat} {cur : Array Value} (hm0 : 0 < m) (hg : w.heap[g]? = some (.cells cur el (0, 0))) (hroom : n + m ≤ c) (hfit : n + m ≤ cur.size) (hm : n + m ≤ 140737488355328) :
    (Builtin.append_ #[t, ti] ty #[.slice (some ⟨g, 0, none⟩) n c, .int .i64 (m : Int)]).run P w =
      .ok (.slice (some ⟨g, 0, none⟩) (n + m) c) (w.setRow g (cur.toList.take n ++ List.replicate m (Value.int .u8 0) ++ cur.toList.drop (n + m)).toArray) := by
  obtain ⟨inf, hinf, hz, hsize, hby⟩ := he.get
  have hw : IntKind.i64.wrap (m : Int) = m := wrap_i64 (by omega) (by omega)
  have hneg : ¬ ((m : Int) < 0) := by omega
  have hbig : ¬ (281474976710656 < (m : Int)) := by omega
  have hm00 : ¬ m = 0 := by omega
  have hst := run_storeCells_at P g n el (List.replicate m (Value.int .u8 0)) 0 cur w hg (by simpa using hfit) (by simp [Value.oneCell'])
  simp only [Nat.add_zero, List.length_replicate] at hst
  simp [Builtin.append_, run_underlying ht.hu, run_underlying hti.hu, sizeOf, typeInfo, hinf, hsize, hby, asInt, asIntOf, hw, hneg, hbig, hroom, hm00, zeroValue, hz, Value.cells, zeroCells_u8, Addr.add_lit, hst]

theorem WpL.appZ [ht : SliceT P t el] {k : IntKind} [hti : IntT P ti k] [he : Elem P el 1 1 (.int .u8 0)] {A : Option Addr} {n c m : Nat} {i : Int} {l : List UInt8} (hS : St w0 M w L) (hd : dOk N (some d) = true) (hx : e.eval x = .slice A n c) (hy : e.eval y = .int .i64 i) (hi : i = (m : Int)) (hV : IsVw A n c A 0)
    (hsel : Sel (.app A n c el 1 (bv l)) L L1) (hm : n + m ≤ 140737488355328)
    (h : ∀ A' c' w', IsVw A' (n + m) c' A' 0 → St w0 M w' (.app A' (n + m) c' el 1 (bv (l ++ List.replicate m 0)) :: L1) → WpL P N ops K rest (e.set d (.slice A' (n + m) c')) w') :
    WpL P N ops K (⟨some d, .call { callee := .builtin .append, args := #[x, y], argTypes := #[t, ti] }, ty, pos, after, none⟩ :: rest) e w := by
  subst hi
  have hS1 := hS.pick hsel
  have hc := (hS1.hold _ List.mem_cons_self).1
  have hrd : Rd w A (bv l) := Ch.app_rd hc
  have hlen : l.length = n := by
    rcases (show Sl w 0 el 1 (.slice A n c) n (bv l) ∨ Full w A n c 1 (bv l) from hc) with h | h
    · have := h.1; simpa using this
    · have := h.2.2.1; simpa using this
  have hcat : bv (l ++ List.replicate m 0) = bv l ++ List.replicate m (Value.int .u8 0) := by rw [bv_append, replicate_bv]
  by_cases h0 : m = 0
  · subst h0
    have hrun := run_appendZ_none (P := P) (t := t) (ti := ti) (ty := ty) (w := w) (A := A) hV.le
    exact WpL.run hd (v := .slice A n c) (w' := w) (by simp [execOp, resolve, invoke, builtin, hx, hy, hrun]) (h A c w (by simpa using hV) (by simpa using hS1))
  · by_cases hroom : n + m ≤ c
    · rcases (show Sl w 0 el 1 (.slice A n c) n (bv l) ∨ Full w A n c 1 (bv l) from hc) with ⟨h1, h2⟩ | hfull
      · rcases h2 with ⟨h2, h3⟩ | ⟨g, cap, cur, h2, _, hg, hn, hmx, hcs, htk⟩
        · injection h2 with h2 h4 h5
          omega
        · injection h2 with h2 h4 h5
          subst h2 h5
          have hrun := run_appendZ_room (P := P) (t := t) (ti := ti) (ty := ty) (by omega : 0 < m) hg hroom (by omega) hm
          refine WpL.run hd (v := .slice (some ⟨g, 0, none⟩) (n + m) c) (w' := w.setRow g (cur.toList.take n ++ List.replicate m (Value.int .u8 0) ++ cur.toList.drop (n + m)).toArray) (by simp [execOp, resolve, invoke, builtin, hx, hy, hrun]) (h _ _ _ ⟨by omega, hV.max, hV.at_⟩ ?_)
          refine hS1.put (Chg.of_grown (grown_setRow _ _ _)) (.inl ⟨by simp [hlen], .inr ⟨g, c, _, rfl, Nat.zero_le _, setRow_heap w g cur _ el _ hg, hroom, hmx, ?_, ?_⟩⟩) rfl fun g hg => .inl hg
          · simp only [List.size_toArray, List.length_append, List.length_take, List.length_drop, List.length_replicate, Array.length_toList]
            omega
          · rw [Nat.mul_one] at htk
            rw [Nat.mul_one, htk, hcat]
            have : n + m = (bv l ++ List.replicate m (Value.int .u8 0)).length := by simp [hlen]
            rw [this]
            exact List.take_left
      · obtain ⟨h1, _⟩ := hfull
        omega
    · have hrun := run_appendZ_grow (P := P) (t := t) (el := el) (ti := ti) (ty := ty) (c := c) (by omega : 0 < m) (by simpa using hlen) hrd (by omega) hm
      have hge := grownCap_ge w (n + m) c el
      have hle := grownCap_le_maxLen w (n + m) c el (by simp only [maxLen]; omega)
      generalize hW : w.drew.alloc (.cells ((bv l).toArray ++ (List.replicate m (Value.int .u8 0)).toArray ++ Builtin.zeroCells #[.int .u8 0] (grownCap w (n + m) c el - (n + m))) el) = W' at hrun
      refine WpL.run hd (v := .slice (some ⟨w.heap.size, 0, none⟩) (n + m) (grownCap w (n + m) c el)) (w' := W') (by simp [execOp, resolve, invoke, builtin, hx, hy, hrun]) (h _ _ _ (IsVw.base hge hle (by simp)) ?_)
      subst hW
      refine hS1.tail.new ((Below.refl _ _).drew.alloc (Nat.le_refl _) _) (.inl ⟨by simp [hlen], .inr ⟨w.heap.size, _, _, rfl, Nat.zero_le _, heap_alloc_new w.drew _, hge, hle, ?_, ?_⟩⟩) rfl fun g hg => by simp [Ch.foot] at hg; omega
      · simp only [Array.size_append, List.size_toArray, size_zeroCells, bv_length, List.length_replicate, hlen]
        simp
        omega
      · have : (n + m) * 1 = (bv l ++ List.replicate m (Value.int .u8 0)).length := by simp [hlen]
        rw [hcat, this]
        simp only [Array.toList_append, List.append_assoc]
        rw [← List.append_assoc]
        exact List.take_left
end

theorem RgD.ldRow {P : Program} {n : Nat} {ops : Array Oper} {w w0 : World} {M : Nat → Prop} {L L1 : List Ch} {Fin : (Tmp → Spec) → Prop} {rest : List Oper} {e : Env} {E : Open} {ty : TypeId} {pos : String} {after : Array Edge} {d : Tmp} {x : Operand} {k g : Nat} {t ty' : TypeId} {cs : List Value}
    [RowT P ty'] [SizeT P ty' k] (hS : St w0 M w L) (hd : dOk n (some d) = true) (hk : (E.map (·.1)).contains d = false) (hE : sub ((⟨some d, .load ty' x, ty, pos, after, none⟩ : Oper).looksAt ops) E = [])
    (hx : e.eval x = .pointer (some ⟨g, 0, none⟩)) (hsel : Sel (.blk g t cs) L L1) (hn : cs.length = k) (h : RgD P n ops w Fin rest (e.set d (.agg cs.toArray)) E) : RgD P n ops w Fin (⟨some d, .load ty' x, ty, pos, after, none⟩ :: rest) e E :=
  RgD.det hd rfl hk hE (Det.loadRow (t := t) (cs := cs.toArray) hx (fun _ hw => (hS.below hw).is hsel) (by simpa using hn)) h
end Go.Fk
