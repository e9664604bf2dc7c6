/-
  Walks over package low, and the document's numbers: what they read and write.
-/
import Derived.Test.YtaengifldfgjcaaRows
import Derived.Test.YtaengifldfgjcaaStr
import Derived.Test.YtaengifldfgjcaaEntL
namespace Go.Proofs.Ytaengifldfgjcaa
open Go.Fk Go.RowKit
attribute [local irreducible] Wp WpL Det thenQ blockQ

instance : IntT Try.prog 3 .i64 := ⟨Try.underlying3⟩
instance : IntT Try.prog 5 .u8 := ⟨Try.underlying5⟩
instance : IntT Try.prog 78 .u16 := ⟨Try.underlying78⟩
instance : IntT Try.prog 43 .u32 := ⟨Try.underlying43⟩
instance : IntT Try.prog 72 .u64 := ⟨Try.underlying72⟩
instance : IntT Try.prog 30 .u64 := ⟨Try.underlying30⟩
instance : SliceT Try.prog 25 5 := ⟨Try.underlying25⟩
instance : Cell1 Try.prog 5 := ⟨_, Try.underlying5, rfl⟩
instance : Cell1 Try.prog 43 := ⟨_, Try.underlying43, rfl⟩
instance : Cell1 Try.prog 72 := ⟨_, Try.underlying72, rfl⟩
instance : Cell1 Try.prog 3 := ⟨_, Try.underlying3, rfl⟩
instance : Cell1 Try.prog 4 := ⟨_, Try.underlying4, rfl⟩
instance : SizeT Try.prog 5 1 := ⟨by kernel_rfl⟩
instance : SizeT Try.prog 4 1 := ⟨by kernel_rfl⟩
instance : Elem Try.prog 5 1 1 (.int .u8 0) := ⟨by kernel_rfl, rfl, by decide⟩
instance : StrT Try.prog 9 := ⟨Try.underlying9⟩

/-- The document's number. -/
theorem number_any (A : Option Addr) (l : List UInt8) (n c at_ k : Nat) (hn : l.length = n) (hk : at_ + k ≤ n) (hk8 : k ≤ 8) (hlen : n ≤ 140737488355328) (w : World) (hr : Rd w A (bv l)) :
    Calls Try.prog 34 #[.slice A n c, .int .i64 (at_ : Int), .int .i64 (k : Int)] w fun x w' => x = .returned (.int .u64 (Ent.rd l at_ k : Nat)) ∧ w = w' := by
  (refine calls_of (P := Try.prog) _ Try.func34 rfl Try.ntmps34 (Nat.le_of_ble_eq_true rfl) ?_; dsimp only [argE, Nat.reduceAdd])
  repeat (first | ((with_reducible apply WpL.det); (· exact rfl); (· exact Det.found)) | ((with_reducible apply WpL.nilN)) | ((with_reducible apply WpL.nil)) | ((with_reducible apply Wp.seq)) | ((with_reducible apply Wp.region)) | ((with_reducible apply thenQ_normal)) | ((with_reducible apply Wp.block)) | ((with_reducible apply Wp.skip)) | ((with_reducible apply Wp.ret)) | ((with_reducible apply Wp.exit)) | ((with_reducible apply thenQ_exit)) | ((with_reducible apply thenQ_ret)) | ((with_reducible apply blockQ_normal)) | ((with_reducible apply blockQ_ret)) | ((with_reducible apply blockQ_same)) | ((with_reducible apply blockQ_other); (· exact rfl)) | ((with_reducible apply WpL.unguard); (· exact rfl); (· exact rfl); (· exact boolFound)) | ((with_reducible apply WpL.skipG); (· exact rfl); (· exact rfl); (· exact boolFound); (· exact rfl)) | ((with_reducible apply Wp.condT); (· exact rfl); (· exact boolFound)) | ((with_reducible apply Wp.condF); (· exact rfl); (· exact boolFound)))
  have h0 : Value.int .u64 (0 : Int) = .int .u64 ((Ent.rd l at_ 0 : Nat) : Int) := by rw [Ent.rd_zero]; rfl
  apply Wp.loopUp k (fun i e w' => w = w' ∧ e.Has [(8, .int .i64 (i : Nat)), (7, .int .u64 (Ent.rd l at_ i : Nat)), (0, .slice A n c), (1, .int .i64 (at_ : Int)), (2, .int .i64 (k : Int))]) (Nat.zero_le k)
    ⟨rfl, rfl, h0, rfl, rfl, rfl, trivial⟩
  rintro i e w1 hi ⟨rfl, he⟩
  obtain ⟨e0, rfl⟩ := he.eq
  clear he
  dsimp only [Env.sets]
  by_cases hlt : i < k
  · obtain ⟨a, rfl, hat⟩ := hr.at_ (i := 0) (by simp; omega)
    have hX : Ent.rd l at_ i < 18446744073709551616 := Ent.rd_lt64 (by omega)
    have hb8 : (l[at_ + i]'(by omega)).toNat < 256 := UInt8.toNat_lt _
    have hsh : (l[at_ + i]'(by omega)).toNat <<< (8 * i) < 18446744073709551616 := by
      rw [Nat.shiftLeft_eq]
      have h1 : (2 : Nat) ^ (8 * i) ≤ 2 ^ 56 := Nat.pow_le_pow_right (by decide) (by omega)
      have h2 : (l[at_ + i]'(by omega)).toNat * 2 ^ (8 * i) ≤ (l[at_ + i]'(by omega)).toNat * 2 ^ 56 := Nat.mul_le_mul_left _ h1
      omega
    have hnext := Ent.rd_succ (l := l) (at_ := at_) (i := i) (by omega)
    generalize Ent.rd l at_ (i + 1) = Y at *
    generalize Ent.rd l at_ i = X at *
    repeat (first | ((with_reducible apply WpL.det); (· exact rfl); (· exact Det.found)) | ((with_reducible apply WpL.nilN)) | ((with_reducible apply WpL.nil)) | ((with_reducible apply Wp.seq)) | ((with_reducible apply Wp.region)) | ((with_reducible apply thenQ_normal)) | ((with_reducible apply Wp.block)) | ((with_reducible apply Wp.skip)) | ((with_reducible apply Wp.ret)) | ((with_reducible apply Wp.exit)) | ((with_reducible apply thenQ_exit)) | ((with_reducible apply thenQ_ret)) | ((with_reducible apply blockQ_normal)) | ((with_reducible apply blockQ_ret)) | ((with_reducible apply blockQ_same)) | ((with_reducible apply blockQ_other); (· exact rfl)) | ((with_reducible apply WpL.unguard); (· exact rfl); (· exact rfl); (· exact boolFound)) | ((with_reducible apply WpL.skipG); (· exact rfl); (· exact rfl); (· exact boolFound); (· exact rfl)) | ((with_reducible apply Wp.condT); (· exact rfl); (· exact boolFound)) | ((with_reducible apply Wp.condF); (· exact rfl); (· exact boolFound)))
    refine WpL.loadA rfl rfl hat (v := .int .u8 ((l[at_ + i]'(by omega)).toNat : Int)) (bv_get (by omega)) ?_
    repeat (first | ((with_reducible apply WpL.det); (· exact rfl); (· exact Det.found)) | ((with_reducible apply WpL.nilN)) | ((with_reducible apply WpL.nil)) | ((with_reducible apply Wp.seq)) | ((with_reducible apply Wp.region)) | ((with_reducible apply thenQ_normal)) | ((with_reducible apply Wp.block)) | ((with_reducible apply Wp.skip)) | ((with_reducible apply Wp.ret)) | ((with_reducible apply Wp.exit)) | ((with_reducible apply thenQ_exit)) | ((with_reducible apply thenQ_ret)) | ((with_reducible apply blockQ_normal)) | ((with_reducible apply blockQ_ret)) | ((with_reducible apply blockQ_same)) | ((with_reducible apply blockQ_other); (· exact rfl)) | ((with_reducible apply WpL.unguard); (· exact rfl); (· exact rfl); (· exact boolFound)) | ((with_reducible apply WpL.skipG); (· exact rfl); (· exact rfl); (· exact boolFound); (· exact rfl)) | ((with_reducible apply Wp.condT); (· exact rfl); (· exact boolFound)) | ((with_reducible apply Wp.condF); (· exact rfl); (· exact boolFound)))
    exact ⟨hlt, rfl, rfl, int_eq (by rw [hnext]), rfl, rfl, rfl, trivial⟩
  · have hik : i = k := by omega
    subst hik
    repeat (first | ((with_reducible apply WpL.det); (· exact rfl); (· exact Det.found)) | ((with_reducible apply WpL.nilN)) | ((with_reducible apply WpL.nil)) | ((with_reducible apply Wp.seq)) | ((with_reducible apply Wp.region)) | ((with_reducible apply thenQ_normal)) | ((with_reducible apply Wp.block)) | ((with_reducible apply Wp.skip)) | ((with_reducible apply Wp.ret)) | ((with_reducible apply Wp.exit)) | ((with_reducible apply thenQ_exit)) | ((with_reducible apply thenQ_ret)) | ((with_reducible apply blockQ_normal)) | ((with_reducible apply blockQ_ret)) | ((with_reducible apply blockQ_same)) | ((with_reducible apply blockQ_other); (· exact rfl)) | ((with_reducible apply WpL.unguard); (· exact rfl); (· exact rfl); (· exact boolFound)) | ((with_reducible apply WpL.skipG); (· exact rfl); (· exact rfl); (· exact boolFound); (· exact rfl)) | ((with_reducible apply Wp.condT); (· exact rfl); (· exact boolFound)) | ((with_reducible apply Wp.condF); (· exact rfl); (· exact boolFound)))
    (with_reducible apply doneQ_one Try.results34); (· exact slotFound)
    exact ⟨rfl, rfl⟩

/-- low.Append where there is room: in bytes of the call's own. -/
theorem lowAppendIn_any (B g c M o c1 m k : Nat) (l : List UInt8) (hm : m < 18446744073709551616) (w : World) (hv : SlB w B 5 (.slice (some ⟨g, 0, none⟩) M c) l) (hB : B ≤ w.heap.size) (hk : o + k ≤ l.length) (hc : k ≤ c1) (hk8 : k ≤ 8) :
    Calls Try.prog 40 #[.slice (some ⟨g, o, none⟩) 0 c1, .int .u64 (m : Int), .int .i64 (k : Int)] w fun x w' => x = .returned (.slice (some ⟨g, o, none⟩) k c1) ∧
      SlB w' B 5 (.slice (some ⟨g, 0, none⟩) M c) (Ent.over l o (Crc.loB m k)) ∧ Grew w (.slice (some ⟨g, 0, none⟩) M c) w' (.slice (some ⟨g, 0, none⟩) M c) := by
  (refine calls_of (P := Try.prog) _ Try.func40 rfl Try.ntmps40 (Nat.le_of_ble_eq_true rfl) ?_; dsimp only [argE, Nat.reduceAdd])
  repeat (first | ((with_reducible apply WpL.det); (· exact rfl); (· exact Det.found)) | ((with_reducible apply WpL.nilN)) | ((with_reducible apply WpL.nil)) | ((with_reducible apply Wp.seq)) | ((with_reducible apply Wp.region)) | ((with_reducible apply thenQ_normal)) | ((with_reducible apply Wp.block)) | ((with_reducible apply Wp.skip)) | ((with_reducible apply Wp.ret)) | ((with_reducible apply Wp.exit)) | ((with_reducible apply thenQ_exit)) | ((with_reducible apply thenQ_ret)) | ((with_reducible apply blockQ_normal)) | ((with_reducible apply blockQ_ret)) | ((with_reducible apply blockQ_same)) | ((with_reducible apply blockQ_other); (· exact rfl)) | ((with_reducible apply WpL.unguard); (· exact rfl); (· exact rfl); (· exact boolFound)) | ((with_reducible apply WpL.skipG); (· exact rfl); (· exact rfl); (· exact boolFound); (· exact rfl)) | ((with_reducible apply Wp.condT); (· exact rfl); (· exact boolFound)) | ((with_reducible apply Wp.condF); (· exact rfl); (· exact boolFound)))
  apply Wp.loopUp k (fun i e w' => SlB w' B 5 (.slice (some ⟨g, 0, none⟩) M c) (Ent.over l o (Crc.loB m i)) ∧ Grew w (.slice (some ⟨g, 0, none⟩) M c) w' (.slice (some ⟨g, 0, none⟩) M c) ∧
      e.Has [(8, .int .i64 (i : Nat)), (7, .int .i64 k), (0, .slice (some ⟨g, o, none⟩) i c1), (1, .int .u64 ((m >>> (8 * i) : Nat) : Int))]) (Nat.zero_le k)
    ⟨by rw [Crc.loB_zero, Ent.over_nil]; exact hv, Grew.refl _ _, rfl, rfl, rfl, rfl, trivial⟩
  rintro i e w1 hi ⟨hv1, hg1, he⟩
  obtain ⟨e0, rfl⟩ := he.eq
  clear he
  dsimp only [Env.sets]
  have hB1 : B ≤ w1.heap.size := Nat.le_trans hB hg1.by_.size
  by_cases hlt : i < k
  · have hmi : m >>> (8 * i) < 18446744073709551616 := Nat.lt_of_le_of_lt (by rw [Nat.shiftRight_eq_div_pow]; exact Nat.div_le_self _ _) hm
    have hnext : m >>> (8 * (i + 1)) = (m >>> (8 * i)) >>> 8 := by rw [← Nat.shiftRight_add]; congr 1
    have hbyte : bv [UInt8.ofNat (m >>> (8 * i))] = [Value.int .u8 ((m >>> (8 * i) % 256 : Nat) : Int)] := by simp [bv]
    repeat (first | ((with_reducible apply WpL.det); (· exact rfl); (· exact Det.found)) | ((with_reducible apply WpL.nilN)) | ((with_reducible apply WpL.nil)) | ((with_reducible apply Wp.seq)) | ((with_reducible apply Wp.region)) | ((with_reducible apply thenQ_normal)) | ((with_reducible apply Wp.block)) | ((with_reducible apply Wp.skip)) | ((with_reducible apply Wp.ret)) | ((with_reducible apply Wp.exit)) | ((with_reducible apply thenQ_exit)) | ((with_reducible apply thenQ_ret)) | ((with_reducible apply blockQ_normal)) | ((with_reducible apply blockQ_ret)) | ((with_reducible apply blockQ_same)) | ((with_reducible apply blockQ_other); (· exact rfl)) | ((with_reducible apply WpL.unguard); (· exact rfl); (· exact rfl); (· exact boolFound)) | ((with_reducible apply WpL.skipG); (· exact rfl); (· exact rfl); (· exact boolFound); (· exact rfl)) | ((with_reducible apply Wp.condT); (· exact rfl); (· exact boolFound)) | ((with_reducible apply Wp.condF); (· exact rfl); (· exact boolFound)))
    refine WpL.buildSlice (bytes := 1) rfl BVals.found (oneAll_spec rfl) rfl (by decide) ?_
    intro w2 hb2 hs2 hg2
    repeat (first | ((with_reducible apply WpL.det); (· exact rfl); (· exact Det.found)) | ((with_reducible apply WpL.nilN)) | ((with_reducible apply WpL.nil)) | ((with_reducible apply Wp.seq)) | ((with_reducible apply Wp.region)) | ((with_reducible apply thenQ_normal)) | ((with_reducible apply Wp.block)) | ((with_reducible apply Wp.skip)) | ((with_reducible apply Wp.ret)) | ((with_reducible apply Wp.exit)) | ((with_reducible apply thenQ_exit)) | ((with_reducible apply thenQ_ret)) | ((with_reducible apply blockQ_normal)) | ((with_reducible apply blockQ_ret)) | ((with_reducible apply blockQ_same)) | ((with_reducible apply blockQ_other); (· exact rfl)) | ((with_reducible apply WpL.unguard); (· exact rfl); (· exact rfl); (· exact boolFound)) | ((with_reducible apply WpL.skipG); (· exact rfl); (· exact rfl); (· exact boolFound); (· exact rfl)) | ((with_reducible apply Wp.condT); (· exact rfl); (· exact boolFound)) | ((with_reducible apply Wp.condF); (· exact rfl); (· exact boolFound)))
    refine WpL.appendIn (b := UInt8.ofNat (m >>> (8 * i))) rfl Env.found Env.found (hv1.below hb2) (.inr ⟨_, rfl, by rw [hbyte]; exact hg2.at_⟩) (by omega) (by rw [Ent.over_length (by rw [Crc.loB_length]; omega)]; omega) ?_
    intro w3 hv3 hg3 _
    repeat (first | ((with_reducible apply WpL.det); (· exact rfl); (· exact Det.found)) | ((with_reducible apply WpL.nilN)) | ((with_reducible apply WpL.nil)) | ((with_reducible apply Wp.seq)) | ((with_reducible apply Wp.region)) | ((with_reducible apply thenQ_normal)) | ((with_reducible apply Wp.block)) | ((with_reducible apply Wp.skip)) | ((with_reducible apply Wp.ret)) | ((with_reducible apply Wp.exit)) | ((with_reducible apply thenQ_exit)) | ((with_reducible apply thenQ_ret)) | ((with_reducible apply blockQ_normal)) | ((with_reducible apply blockQ_ret)) | ((with_reducible apply blockQ_same)) | ((with_reducible apply blockQ_other); (· exact rfl)) | ((with_reducible apply WpL.unguard); (· exact rfl); (· exact rfl); (· exact boolFound)) | ((with_reducible apply WpL.skipG); (· exact rfl); (· exact rfl); (· exact boolFound); (· exact rfl)) | ((with_reducible apply Wp.condT); (· exact rfl); (· exact boolFound)) | ((with_reducible apply Wp.condF); (· exact rfl); (· exact boolFound)))
    refine ⟨hlt, ?_, hg1.trans ((Grew.of_below _ hb2).trans ⟨hg3, .inl rfl⟩), rfl, rfl, rfl, int_eq (by rw [hnext]), trivial⟩
    have h := Ent.over_snoc (l := l) (bs := Crc.loB m i) (k := o) (b := UInt8.ofNat (m >>> (8 * i))) (by rw [Crc.loB_length]; omega)
    rw [Crc.loB_length] at h
    rw [Crc.loB_snoc, h]; exact hv3
  · have hik : i = k := by omega
    subst hik
    repeat (first | ((with_reducible apply WpL.det); (· exact rfl); (· exact Det.found)) | ((with_reducible apply WpL.nilN)) | ((with_reducible apply WpL.nil)) | ((with_reducible apply Wp.seq)) | ((with_reducible apply Wp.region)) | ((with_reducible apply thenQ_normal)) | ((with_reducible apply Wp.block)) | ((with_reducible apply Wp.skip)) | ((with_reducible apply Wp.ret)) | ((with_reducible apply Wp.exit)) | ((with_reducible apply thenQ_exit)) | ((with_reducible apply thenQ_ret)) | ((with_reducible apply blockQ_normal)) | ((with_reducible apply blockQ_ret)) | ((with_reducible apply blockQ_same)) | ((with_reducible apply blockQ_other); (· exact rfl)) | ((with_reducible apply WpL.unguard); (· exact rfl); (· exact rfl); (· exact boolFound)) | ((with_reducible apply WpL.skipG); (· exact rfl); (· exact rfl); (· exact boolFound); (· exact rfl)) | ((with_reducible apply Wp.condT); (· exact rfl); (· exact boolFound)) | ((with_reducible apply Wp.condF); (· exact rfl); (· exact boolFound)))
    (with_reducible apply doneQ_one Try.results40); (· exact slotFound)
    exact ⟨rfl, hv1, hg1⟩

theorem lowPut_any (B g c M o n1 c1 m k : Nat) (l : List UInt8) (hm : m < 18446744073709551616) (w : World) (hv : SlB w B 5 (.slice (some ⟨g, 0, none⟩) M c) l) (hB : B ≤ w.heap.size) (hk : o + k ≤ l.length) (hc : k ≤ c1) (hk8 : k ≤ 8) :
    Calls Try.prog 39 #[.slice (some ⟨g, o, none⟩) n1 c1, .int .u64 (m : Int), .int .i64 (k : Int)] w fun x w' => x = .returned (.tuple #[]) ∧
      SlB w' B 5 (.slice (some ⟨g, 0, none⟩) M c) (Ent.over l o (Crc.loB m k)) ∧ Grew w (.slice (some ⟨g, 0, none⟩) M c) w' (.slice (some ⟨g, 0, none⟩) M c) := by
  (refine calls_of (P := Try.prog) _ Try.func39 rfl Try.ntmps39 (Nat.le_of_ble_eq_true rfl) ?_; dsimp only [argE, Nat.reduceAdd])
  repeat (first | ((with_reducible apply WpL.det); (· exact rfl); (· exact Det.found)) | ((with_reducible apply WpL.nilN)) | ((with_reducible apply WpL.nil)) | ((with_reducible apply Wp.seq)) | ((with_reducible apply Wp.region)) | ((with_reducible apply thenQ_normal)) | ((with_reducible apply Wp.block)) | ((with_reducible apply Wp.skip)) | ((with_reducible apply Wp.ret)) | ((with_reducible apply Wp.exit)) | ((with_reducible apply thenQ_exit)) | ((with_reducible apply thenQ_ret)) | ((with_reducible apply blockQ_normal)) | ((with_reducible apply blockQ_ret)) | ((with_reducible apply blockQ_same)) | ((with_reducible apply blockQ_other); (· exact rfl)) | ((with_reducible apply WpL.unguard); (· exact rfl); (· exact rfl); (· exact boolFound)) | ((with_reducible apply WpL.skipG); (· exact rfl); (· exact rfl); (· exact boolFound); (· exact rfl)) | ((with_reducible apply Wp.condT); (· exact rfl); (· exact boolFound)) | ((with_reducible apply Wp.condF); (· exact rfl); (· exact boolFound)))
  (with_reducible apply WpL.call); (· exact rfl); (· exact Try.call40); (· exact Vals.found)
  refine (lowAppendIn_any B g c M o c1 m k l hm w hv hB hk hc hk8).mono ?_
  rintro x w1 ⟨rfl, h1, h2⟩
  refine ⟨_, rfl, ?_⟩
  repeat (first | ((with_reducible apply WpL.det); (· exact rfl); (· exact Det.found)) | ((with_reducible apply WpL.nilN)) | ((with_reducible apply WpL.nil)) | ((with_reducible apply Wp.seq)) | ((with_reducible apply Wp.region)) | ((with_reducible apply thenQ_normal)) | ((with_reducible apply Wp.block)) | ((with_reducible apply Wp.skip)) | ((with_reducible apply Wp.ret)) | ((with_reducible apply Wp.exit)) | ((with_reducible apply thenQ_exit)) | ((with_reducible apply thenQ_ret)) | ((with_reducible apply blockQ_normal)) | ((with_reducible apply blockQ_ret)) | ((with_reducible apply blockQ_same)) | ((with_reducible apply blockQ_other); (· exact rfl)) | ((with_reducible apply WpL.unguard); (· exact rfl); (· exact rfl); (· exact boolFound)) | ((with_reducible apply WpL.skipG); (· exact rfl); (· exact rfl); (· exact boolFound); (· exact rfl)) | ((with_reducible apply Wp.condT); (· exact rfl); (· exact boolFound)) | ((with_reducible apply Wp.condF); (· exact rfl); (· exact boolFound)))
  (try with_reducible apply doneQ_end); (with_reducible apply doneQ_none Try.results39)
  exact ⟨rfl, h1, h2⟩

theorem lowPut16_any (B g c M o n1 c1 m : Nat) (l : List UInt8) (hm : m < 65536) (w : World) (hv : SlB w B 5 (.slice (some ⟨g, 0, none⟩) M c) l) (hB : B ≤ w.heap.size) (hk : o + 2 ≤ l.length) (hc : 2 ≤ c1) :
    Calls Try.prog 37 #[.slice (some ⟨g, o, none⟩) n1 c1, .int .u16 (m : Int)] w fun x w' => x = .returned (.tuple #[]) ∧
      SlB w' B 5 (.slice (some ⟨g, 0, none⟩) M c) (Ent.over l o (Crc.loB m 2)) ∧ Grew w (.slice (some ⟨g, 0, none⟩) M c) w' (.slice (some ⟨g, 0, none⟩) M c) := by
  (refine calls_of (P := Try.prog) _ Try.func37 rfl Try.ntmps37 (Nat.le_of_ble_eq_true rfl) ?_; dsimp only [argE, Nat.reduceAdd])
  repeat (first | ((with_reducible apply WpL.det); (· exact rfl); (· exact Det.found)) | ((with_reducible apply WpL.nilN)) | ((with_reducible apply WpL.nil)) | ((with_reducible apply Wp.seq)) | ((with_reducible apply Wp.region)) | ((with_reducible apply thenQ_normal)) | ((with_reducible apply Wp.block)) | ((with_reducible apply Wp.skip)) | ((with_reducible apply Wp.ret)) | ((with_reducible apply Wp.exit)) | ((with_reducible apply thenQ_exit)) | ((with_reducible apply thenQ_ret)) | ((with_reducible apply blockQ_normal)) | ((with_reducible apply blockQ_ret)) | ((with_reducible apply blockQ_same)) | ((with_reducible apply blockQ_other); (· exact rfl)) | ((with_reducible apply WpL.unguard); (· exact rfl); (· exact rfl); (· exact boolFound)) | ((with_reducible apply WpL.skipG); (· exact rfl); (· exact rfl); (· exact boolFound); (· exact rfl)) | ((with_reducible apply Wp.condT); (· exact rfl); (· exact boolFound)) | ((with_reducible apply Wp.condF); (· exact rfl); (· exact boolFound)))
  (with_reducible apply WpL.call); (· exact rfl); (· exact Try.call39); (· exact Vals.found)
  refine (lowPut_any B g c M o n1 c1 m 2 l (by omega) w hv hB hk hc (by decide)).mono ?_
  rintro x w1 ⟨rfl, h1, h2⟩
  refine ⟨_, rfl, ?_⟩
  repeat (first | ((with_reducible apply WpL.det); (· exact rfl); (· exact Det.found)) | ((with_reducible apply WpL.nilN)) | ((with_reducible apply WpL.nil)) | ((with_reducible apply Wp.seq)) | ((with_reducible apply Wp.region)) | ((with_reducible apply thenQ_normal)) | ((with_reducible apply Wp.block)) | ((with_reducible apply Wp.skip)) | ((with_reducible apply Wp.ret)) | ((with_reducible apply Wp.exit)) | ((with_reducible apply thenQ_exit)) | ((with_reducible apply thenQ_ret)) | ((with_reducible apply blockQ_normal)) | ((with_reducible apply blockQ_ret)) | ((with_reducible apply blockQ_same)) | ((with_reducible apply blockQ_other); (· exact rfl)) | ((with_reducible apply WpL.unguard); (· exact rfl); (· exact rfl); (· exact boolFound)) | ((with_reducible apply WpL.skipG); (· exact rfl); (· exact rfl); (· exact boolFound); (· exact rfl)) | ((with_reducible apply Wp.condT); (· exact rfl); (· exact boolFound)) | ((with_reducible apply Wp.condF); (· exact rfl); (· exact boolFound)))
  (try with_reducible apply doneQ_end); (with_reducible apply doneQ_none Try.results37)
  exact ⟨rfl, h1, h2⟩

theorem lowPut32_any (B g c M o n1 c1 m : Nat) (l : List UInt8) (hm : m < 4294967296) (w : World) (hv : SlB w B 5 (.slice (some ⟨g, 0, none⟩) M c) l) (hB : B ≤ w.heap.size) (hk : o + 4 ≤ l.length) (hc : 4 ≤ c1) :
    Calls Try.prog 36 #[.slice (some ⟨g, o, none⟩) n1 c1, .int .u32 (m : Int)] w fun x w' => x = .returned (.tuple #[]) ∧
      SlB w' B 5 (.slice (some ⟨g, 0, none⟩) M c) (Ent.over l o (Crc.loB m 4)) ∧ Grew w (.slice (some ⟨g, 0, none⟩) M c) w' (.slice (some ⟨g, 0, none⟩) M c) := by
  (refine calls_of (P := Try.prog) _ Try.func36 rfl Try.ntmps36 (Nat.le_of_ble_eq_true rfl) ?_; dsimp only [argE, Nat.reduceAdd])
  repeat (first | ((with_reducible apply WpL.det); (· exact rfl); (· exact Det.found)) | ((with_reducible apply WpL.nilN)) | ((with_reducible apply WpL.nil)) | ((with_reducible apply Wp.seq)) | ((with_reducible apply Wp.region)) | ((with_reducible apply thenQ_normal)) | ((with_reducible apply Wp.block)) | ((with_reducible apply Wp.skip)) | ((with_reducible apply Wp.ret)) | ((with_reducible apply Wp.exit)) | ((with_reducible apply thenQ_exit)) | ((with_reducible apply thenQ_ret)) | ((with_reducible apply blockQ_normal)) | ((with_reducible apply blockQ_ret)) | ((with_reducible apply blockQ_same)) | ((with_reducible apply blockQ_other); (· exact rfl)) | ((with_reducible apply WpL.unguard); (· exact rfl); (· exact rfl); (· exact boolFound)) | ((with_reducible apply WpL.skipG); (· exact rfl); (· exact rfl); (· exact boolFound); (· exact rfl)) | ((with_reducible apply Wp.condT); (· exact rfl); (· exact boolFound)) | ((with_reducible apply Wp.condF); (· exact rfl); (· exact boolFound)))
  (with_reducible apply WpL.call); (· exact rfl); (· exact Try.call39); (· exact Vals.found)
  refine (lowPut_any B g c M o n1 c1 m 4 l (by omega) w hv hB hk hc (by decide)).mono ?_
  rintro x w1 ⟨rfl, h1, h2⟩
  refine ⟨_, rfl, ?_⟩
  repeat (first | ((with_reducible apply WpL.det); (· exact rfl); (· exact Det.found)) | ((with_reducible apply WpL.nilN)) | ((with_reducible apply WpL.nil)) | ((with_reducible apply Wp.seq)) | ((with_reducible apply Wp.region)) | ((with_reducible apply thenQ_normal)) | ((with_reducible apply Wp.block)) | ((with_reducible apply Wp.skip)) | ((with_reducible apply Wp.ret)) | ((with_reducible apply Wp.exit)) | ((with_reducible apply thenQ_exit)) | ((with_reducible apply thenQ_ret)) | ((with_reducible apply blockQ_normal)) | ((with_reducible apply blockQ_ret)) | ((with_reducible apply blockQ_same)) | ((with_reducible apply blockQ_other); (· exact rfl)) | ((with_reducible apply WpL.unguard); (· exact rfl); (· exact rfl); (· exact boolFound)) | ((with_reducible apply WpL.skipG); (· exact rfl); (· exact rfl); (· exact boolFound); (· exact rfl)) | ((with_reducible apply Wp.condT); (· exact rfl); (· exact boolFound)) | ((with_reducible apply Wp.condF); (· exact rfl); (· exact boolFound)))
  (try with_reducible apply doneQ_end); (with_reducible apply doneQ_none Try.results36)
  exact ⟨rfl, h1, h2⟩

/-- The document's way to put a number. -/
theorem put_any (B g c M at_ k m : Nat) (l : List UInt8) (hm : m < 18446744073709551616) (w : World) (hv : SlB w B 5 (.slice (some ⟨g, 0, none⟩) M c) l) (hM : M = l.length) (hl : l.length ≤ 140737488355328) (hk : at_ + k ≤ l.length) (hk8 : k ≤ 8) :
    Calls Try.prog 38 #[.slice (some ⟨g, 0, none⟩) M c, .int .i64 (at_ : Int), .int .i64 (k : Int), .int .u64 (m : Int)] w fun x w' => x = .returned (.tuple #[]) ∧
      SlB w' B 5 (.slice (some ⟨g, 0, none⟩) M c) (Ent.over l at_ (Crc.loB m k)) ∧ Grew w (.slice (some ⟨g, 0, none⟩) M c) w' (.slice (some ⟨g, 0, none⟩) M c) := by
  (refine calls_of (P := Try.prog) _ Try.func38 rfl Try.ntmps38 (Nat.le_of_ble_eq_true rfl) ?_; dsimp only [argE, Nat.reduceAdd])
  repeat (first | ((with_reducible apply WpL.det); (· exact rfl); (· exact Det.found)) | ((with_reducible apply WpL.nilN)) | ((with_reducible apply WpL.nil)) | ((with_reducible apply Wp.seq)) | ((with_reducible apply Wp.region)) | ((with_reducible apply thenQ_normal)) | ((with_reducible apply Wp.block)) | ((with_reducible apply Wp.skip)) | ((with_reducible apply Wp.ret)) | ((with_reducible apply Wp.exit)) | ((with_reducible apply thenQ_exit)) | ((with_reducible apply thenQ_ret)) | ((with_reducible apply blockQ_normal)) | ((with_reducible apply blockQ_ret)) | ((with_reducible apply blockQ_same)) | ((with_reducible apply blockQ_other); (· exact rfl)) | ((with_reducible apply WpL.unguard); (· exact rfl); (· exact rfl); (· exact boolFound)) | ((with_reducible apply WpL.skipG); (· exact rfl); (· exact rfl); (· exact boolFound); (· exact rfl)) | ((with_reducible apply Wp.condT); (· exact rfl); (· exact boolFound)) | ((with_reducible apply Wp.condF); (· exact rfl); (· exact boolFound)))
  apply Wp.loopUp k (fun i e w' => SlB w' B 5 (.slice (some ⟨g, 0, none⟩) M c) (Ent.over l at_ (Crc.loB m i)) ∧ Grew w (.slice (some ⟨g, 0, none⟩) M c) w' (.slice (some ⟨g, 0, none⟩) M c) ∧
      e.Has [(8, .int .i64 (i : Nat)), (0, .slice (some ⟨g, 0, none⟩) M c), (1, .int .i64 at_), (2, .int .i64 k), (3, .int .u64 (m : Int))]) (Nat.zero_le k)
    ⟨by rw [Crc.loB_zero, Ent.over_nil]; exact hv, Grew.refl _ _, rfl, rfl, rfl, rfl, rfl, trivial⟩
  rintro i e w1 hi ⟨hv1, hg1, he⟩
  obtain ⟨e0, rfl⟩ := he.eq
  clear he
  dsimp only [Env.sets]
  by_cases hlt : i < k
  · have hol : (Ent.over l at_ (Crc.loB m i)).length = l.length := Ent.over_length (by rw [Crc.loB_length]; omega)
    have hmi : m >>> (8 * i) < 18446744073709551616 := Nat.lt_of_le_of_lt (by rw [Nat.shiftRight_eq_div_pow]; exact Nat.div_le_self _ _) hm
    repeat (first | ((with_reducible apply WpL.det); (· exact rfl); (· exact Det.found)) | ((with_reducible apply WpL.nilN)) | ((with_reducible apply WpL.nil)) | ((with_reducible apply Wp.seq)) | ((with_reducible apply Wp.region)) | ((with_reducible apply thenQ_normal)) | ((with_reducible apply Wp.block)) | ((with_reducible apply Wp.skip)) | ((with_reducible apply Wp.ret)) | ((with_reducible apply Wp.exit)) | ((with_reducible apply thenQ_exit)) | ((with_reducible apply thenQ_ret)) | ((with_reducible apply blockQ_normal)) | ((with_reducible apply blockQ_ret)) | ((with_reducible apply blockQ_same)) | ((with_reducible apply blockQ_other); (· exact rfl)) | ((with_reducible apply WpL.unguard); (· exact rfl); (· exact rfl); (· exact boolFound)) | ((with_reducible apply WpL.skipG); (· exact rfl); (· exact rfl); (· exact boolFound); (· exact rfl)) | ((with_reducible apply Wp.condT); (· exact rfl); (· exact boolFound)) | ((with_reducible apply Wp.condF); (· exact rfl); (· exact boolFound)))
    refine WpL.storeS (b := UInt8.ofNat (m >>> (8 * i))) rfl rfl (by rw [UInt8.toNat_ofNat']) hv1 (by omega) ?_
    intro w3 hv3 hg3 _
    repeat (first | ((with_reducible apply WpL.det); (· exact rfl); (· exact Det.found)) | ((with_reducible apply WpL.nilN)) | ((with_reducible apply WpL.nil)) | ((with_reducible apply Wp.seq)) | ((with_reducible apply Wp.region)) | ((with_reducible apply thenQ_normal)) | ((with_reducible apply Wp.block)) | ((with_reducible apply Wp.skip)) | ((with_reducible apply Wp.ret)) | ((with_reducible apply Wp.exit)) | ((with_reducible apply thenQ_exit)) | ((with_reducible apply thenQ_ret)) | ((with_reducible apply blockQ_normal)) | ((with_reducible apply blockQ_ret)) | ((with_reducible apply blockQ_same)) | ((with_reducible apply blockQ_other); (· exact rfl)) | ((with_reducible apply WpL.unguard); (· exact rfl); (· exact rfl); (· exact boolFound)) | ((with_reducible apply WpL.skipG); (· exact rfl); (· exact rfl); (· exact boolFound); (· exact rfl)) | ((with_reducible apply Wp.condT); (· exact rfl); (· exact boolFound)) | ((with_reducible apply Wp.condF); (· exact rfl); (· exact boolFound)))
    refine ⟨hlt, ?_, hg1.trans ⟨hg3, .inl rfl⟩, rfl, rfl, rfl, rfl, rfl, trivial⟩
    have h := Ent.over_snoc (l := l) (bs := Crc.loB m i) (k := at_) (b := UInt8.ofNat (m >>> (8 * i))) (by rw [Crc.loB_length]; omega)
    rw [Crc.loB_length] at h
    rw [Crc.loB_snoc, h]
    simpa using hv3
  · have hik : i = k := by omega
    subst hik
    repeat (first | ((with_reducible apply WpL.det); (· exact rfl); (· exact Det.found)) | ((with_reducible apply WpL.nilN)) | ((with_reducible apply WpL.nil)) | ((with_reducible apply Wp.seq)) | ((with_reducible apply Wp.region)) | ((with_reducible apply thenQ_normal)) | ((with_reducible apply Wp.block)) | ((with_reducible apply Wp.skip)) | ((with_reducible apply Wp.ret)) | ((with_reducible apply Wp.exit)) | ((with_reducible apply thenQ_exit)) | ((with_reducible apply thenQ_ret)) | ((with_reducible apply blockQ_normal)) | ((with_reducible apply blockQ_ret)) | ((with_reducible apply blockQ_same)) | ((with_reducible apply blockQ_other); (· exact rfl)) | ((with_reducible apply WpL.unguard); (· exact rfl); (· exact rfl); (· exact boolFound)) | ((with_reducible apply WpL.skipG); (· exact rfl); (· exact rfl); (· exact boolFound); (· exact rfl)) | ((with_reducible apply Wp.condT); (· exact rfl); (· exact boolFound)) | ((with_reducible apply Wp.condF); (· exact rfl); (· exact boolFound)))
    (try with_reducible apply doneQ_end); (with_reducible apply doneQ_none Try.results38)
    exact ⟨rfl, hv1, hg1⟩
end Go.Proofs.Ytaengifldfgjcaa
