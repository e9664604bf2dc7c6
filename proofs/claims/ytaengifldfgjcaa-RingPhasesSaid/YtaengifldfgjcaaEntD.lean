/-
  Walks over what reads commands and completions, and over which operations there are.
-/
import Derived.Test.YtaengifldfgjcaaEntB
namespace Go.Proofs.Ytaengifldfgjcaa
open Go.Fk Go.RowKit
attribute [local irreducible] Wp WpL Det thenQ blockQ
instance : SizeT Try.prog 45 6 := ⟨by kernel_rfl⟩
instance : RowT Try.prog 45 := ⟨_, Try.underlying45, rfl⟩
instance : Elem Try.prog 45 6 48 (.agg #[.int .u32 0, .int .i64 0, .int .i64 0, .int .i64 0, .bool false, .int .i64 0]) := ⟨by kernel_rfl, rfl, by decide⟩
instance : BuildT Try.prog 45 [.int .u32 0, .int .i64 0, .int .i64 0, .int .i64 0, .bool false, .int .i64 0] [(0, 1), (1, 1), (2, 1), (3, 1), (4, 1), (5, 1)] := ⟨by kernel_rfl⟩

def cmdOf (l : List UInt8) : Value := cmdV (Ent.byteAt l 0) (Ent.rd l 2 2) (Ent.rd l 4 4) (Ent.rd l 24 8) (Ent.rd l 40 8) ((Ent.rd l 48 2 + 1 : Nat) : Int) (Ent.forceOf (Ent.byteAt l 51))
def cmdR (l : List UInt8) : Value := if l.length = 64 then .tuple #[cmdOf l, .int .i64 0] else .tuple #[cmdV 0 0 0 0 0 0 false, .int .i64 1]
def doneOf (l : List UInt8) : Value := doneV (Ent.rd l 0 4) (Ent.rd l 8 2) (Ent.rd l 10 2) (Ent.rd l 12 2) (decide (((Ent.rd l 14 2 % 2 : Nat) : Int) = 1)) ((Ent.rd l 14 2 / 2 : Nat) : Int)
def doneR (l : List UInt8) : Value := if l.length = 16 then .tuple #[doneOf l, .int .i64 0] else .tuple #[doneV 0 0 0 0 false 0, .int .i64 1]


end Go.Proofs.Ytaengifldfgjcaa
