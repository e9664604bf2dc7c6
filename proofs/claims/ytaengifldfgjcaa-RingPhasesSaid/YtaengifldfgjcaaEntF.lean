/-
  Which operations there are, and what they move: walks.
-/
import Derived.Test.YtaengifldfgjcaaEntA
import Derived.Test.YtaengifldfgjcaaEq
namespace Go.Proofs.Ytaengifldfgjcaa
open Go.Fk Go.RowKit
attribute [local irreducible] Wp WpL Det thenQ blockQ

def knownB (op : Int) : Bool := decide (op = 0 ∨ op = 1 ∨ op = 2 ∨ op = 6 ∨ op = 7 ∨ op = 8 ∨ op = 9 ∨ op = 13 ∨ op = 14)

def movesZ (op : Int) (c s : Nat) : Int := if op = 1 then -((c * s : Nat) : Int) else if op = 2 then ((c * s : Nat) : Int) else if op = 6 then 256 else if op = 7 then 89 else 0

end Go.Proofs.Ytaengifldfgjcaa
