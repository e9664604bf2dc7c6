/-
  Structs of numbers and truths are compared. It holds for any program; conditions stand at each theorem.
-/
import Derived.Test.YtaapnfoimcccjaaStr
namespace Go.Fk
open Go.RowKit

def eqCell : Value → Value → Bool
  | .int _ a, .int _ b => a == b
  | .bool a, .bool b => a == b
  | _, _ => false
def eqCells : List Value → List Value → Bool
  | a :: as, b :: bs => eqCell a b && eqCells as bs
  | _, _ => true
def simpleAt (P : Program) : Nat → List Field → Bool
  | _, [] => true
  | k, f :: fs => (f.name != "_") && (f.offset == k) && (match P.underlying f.type with | some (.int _) => true | some .bool => true | _ => false) && simpleAt P (k + 1) fs
def fitCells (P : Program) : List Field → List Value → Bool
  | [], [] => true
  | f :: fs, v :: vs => (match P.underlying f.type, v with | some (.int q), .int q' _ => decide (q = q') | some .bool, .bool _ => true | _, _ => false) && fitCells P fs vs
  | _, _ => false

theorem run_eqFields_simple {P : Program} (d : Nat) (xs ys : Array Value) : ∀ (fs : List Field) (k : Nat) (vs us : List Value) (w : World), simpleAt P k fs = true → fitCells P fs vs = true → fitCells P fs us = true → xs.toList.drop k = vs → ys.toList.drop k = us →
    (Op.eqFields (d + 1) xs ys fs).run P w = .ok (eqCells vs us) w
  | [], k, [], [], w, _, _, _, _, _ => by simp [Op.eqFields, eqCells]
  | [], k, _ :: _, _, w, _, h, _, _, _ => by simp [fitCells] at h
  | [], k, [], _ :: _, w, _, _, h, _, _ => by simp [fitCells] at h
  | f :: fs, k, [], _, w, _, h, _, _, _ => by simp [fitCells] at h
  | f :: fs, k, _ :: _, [], w, _, _, h, _, _ => by simp [fitCells] at h
  | f :: fs, k, v :: vs, u :: us, w, hs, hv, hu, hx, hy => by
    simp only [simpleAt, Bool.and_eq_true, bne_iff_ne, ne_eq, beq_iff_eq] at hs
    obtain ⟨⟨⟨hname, hoff⟩, hty⟩, hrest⟩ := hs
    simp only [fitCells, Bool.and_eq_true] at hv hu
    have hxk : xs[k]? = some v := by
      have : (xs.toList.drop k)[0]? = some v := by rw [hx]; rfl
      simpa using this
    have hyk : ys[k]? = some u := by
      have : (ys.toList.drop k)[0]? = some u := by rw [hy]; rfl
      simpa using this
    have hx' : xs.toList.drop (k + 1) = vs := by rw [← List.drop_drop, hx]; rfl
    have hy' : ys.toList.drop (k + 1) = us := by rw [← List.drop_drop, hy]; rfl
    have ih := run_eqFields_simple d xs ys fs (k + 1) vs us w hrest hv.2 hu.2 hx' hy'
    cases ht : P.underlying f.type with
    | none => rw [ht] at hty; cases hty
    | some td =>
      rw [ht] at hty hv hu
      cases td
      case int q =>
        cases v <;> simp at hv
        cases u <;> simp at hu
        rename_i k1 a k2 b
        obtain ⟨hk1, hv⟩ := hv
        obtain ⟨hk2, hu⟩ := hu
        subst hk1 hk2
        have hpx : (part f.type xs f.offset).run P w = .ok (.int q a) w := by simp [part, isAgg, run_underlying ht, hoff, hxk]
        have hpy : (part f.type ys f.offset).run P w = .ok (.int q b) w := by simp [part, isAgg, run_underlying ht, hoff, hyk]
        simp only [Op.eqFields, hname, ne_eq, not_false_eq_true, if_true, Sem.run_bind, hpx, Result.andThen_ok, hpy]
        by_cases hab : a = b
        · simp [Op.equalIn, run_underlying ht, eqCells, eqCell, hab, ih]
        · simp [Op.equalIn, run_underlying ht, eqCells, eqCell, hab]
      case bool =>
        cases v <;> simp at hv
        cases u <;> simp at hu
        rename_i a b
        have hpx : (part f.type xs f.offset).run P w = .ok (.bool a) w := by simp [part, isAgg, run_underlying ht, hoff, hxk]
        have hpy : (part f.type ys f.offset).run P w = .ok (.bool b) w := by simp [part, isAgg, run_underlying ht, hoff, hyk]
        simp only [Op.eqFields, hname, ne_eq, not_false_eq_true, if_true, Sem.run_bind, hpx, Result.andThen_ok, hpy]
        by_cases hab : a = b
        · simp [Op.equalIn, run_underlying ht, eqCells, eqCell, hab, ih]
        · simp [Op.equalIn, run_underlying ht, eqCells, eqCell, hab]
      all_goals simp at hty

class BoolT (P : Program) (t : TypeId) : Prop where
  hu : P.underlying t = some .bool
class EqT (P : Program) (t : TypeId) : Prop where
  hu : P.underlying t = some (.struct (P.fieldsOf t))
  hp : P.stoodInHeld t = false
  hg : P.eqGuardType P.depth t = false
  hs : simpleAt P 0 (P.fieldsOf t).toList = true

section
variable {P : Program} {e : Env} {ty t t' : TypeId} {x y : Operand} {I : World → Prop} {xs ys : Array Value}
theorem Det.eqlRow [h : EqT P t] (hx : e.eval x = .agg xs) (hy : e.eval y = .agg ys) (h1 : fitCells P (P.fieldsOf t).toList xs.toList = true) (h2 : fitCells P (P.fieldsOf t).toList ys.toList = true) :
    Det P I (.binOp .eql t x y t') ty e (.bool (eqCells xs.toList ys.toList)) := fun _ _ _ _ w _ => by
  have hr := run_equalIn_struct (P := P) w 9999 t xs ys h.hu h.hp
  have hf := run_eqFields_simple (P := P) 9998 xs ys _ 0 xs.toList ys.toList w h.hs h1 h2 rfl rfl
  rw [hf] at hr
  simp only [execOp, hx, hy, Sem.run_bind, run_eqGuard_agg w .eql t x y xs ys h.hg, Result.andThen_ok, run_eql_struct, hr, Sem.run_pure]
theorem Det.neqRow [h : EqT P t] (hx : e.eval x = .agg xs) (hy : e.eval y = .agg ys) (h1 : fitCells P (P.fieldsOf t).toList xs.toList = true) (h2 : fitCells P (P.fieldsOf t).toList ys.toList = true) :
    Det P I (.binOp .neq t x y t') ty e (.bool (!eqCells xs.toList ys.toList)) := fun _ _ _ _ w _ => by
  have hr := run_equalIn_struct (P := P) w 9999 t xs ys h.hu h.hp
  have hf := run_eqFields_simple (P := P) 9998 xs ys _ 0 xs.toList ys.toList w h.hs h1 h2 rfl rfl
  rw [hf] at hr
  simp only [execOp, hx, hy, Sem.run_bind, run_eqGuard_agg w .neq t x y xs ys h.hg, Result.andThen_ok, run_neq_struct, hr, Sem.run_pure]
theorem Det.eqlBool {a b : Bool} [h : BoolT P t] (hx : e.eval x = .bool a) (hy : e.eval y = .bool b) : Det P I (.binOp .eql t x y t') ty e (.bool (a == b)) := fun _ _ _ _ w _ => by
  have hr := run_equalIn_bool' (P := P) w 9999 t a b h.hu
  simp [execOp, hx, hy, eqGuard, binOp, Op.equal, Op.maxDepth, hr]
theorem Det.neqBool {a b : Bool} [h : BoolT P t] (hx : e.eval x = .bool a) (hy : e.eval y = .bool b) : Det P I (.binOp .neq t x y t') ty e (.bool (a != b)) := fun _ _ _ _ w _ => by
  have hr := run_equalIn_bool' (P := P) w 9999 t a b h.hu
  simp [execOp, hx, hy, eqGuard, binOp, Op.equal, Op.maxDepth, hr, bne]
end
end Go.Fk
