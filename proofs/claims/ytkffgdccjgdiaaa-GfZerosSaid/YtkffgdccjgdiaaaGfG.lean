/-
  Generators, reckoned out: nought where they should be, and going into x to the field's size less 1.
-/
import Derived.Test.YtkffgdccjgdiaaaGfF
namespace Go.Gf
def zerosB (m : Nat) : Bool := (List.range 8).all fun i => Nat.blt (sz m) (2 * (i + 1)) || zeroB m (i + 1)
theorem zeros2 : zerosB 2 = true := by kernel_rfl
theorem zeros3 : zerosB 3 = true := by kernel_rfl
theorem zeros4 : zerosB 4 = true := by kernel_rfl
theorem zeros5 : zerosB 5 = true := by kernel_rfl
theorem zeros6 : zerosB 6 = true := by kernel_rfl
theorem zeros7 : zerosB 7 = true := by kernel_rfl
theorem zeros8 : zerosB 8 = true := by kernel_rfl
theorem zeros9 : zerosB 9 = true := by kernel_rfl
end Go.Gf
