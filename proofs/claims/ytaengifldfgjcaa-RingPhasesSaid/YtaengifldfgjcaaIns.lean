/-
  The types of numbers, truths, texts and of slices of them: what the rules ask of them.
-/
import Derived.Test.YtaengifldfgjcaaRows
import Derived.Test.YtaengifldfgjcaaStX
namespace Go.Proofs.Ytaengifldfgjcaa
open Go.Fk Go.RowKit
instance ins1 : IntT Try.prog 3 .i64 := ⟨Try.underlying3⟩
instance ins2 : IntT Try.prog 5 .u8 := ⟨Try.underlying5⟩
instance ins3 : IntT Try.prog 78 .u16 := ⟨Try.underlying78⟩
instance ins4 : IntT Try.prog 43 .u32 := ⟨Try.underlying43⟩
instance ins5 : IntT Try.prog 72 .u64 := ⟨Try.underlying72⟩
instance ins6 : IntT Try.prog 30 .u64 := ⟨Try.underlying30⟩
instance ins7 : Cell1 Try.prog 3 := ⟨_, Try.underlying3, rfl⟩
instance ins8 : Cell1 Try.prog 5 := ⟨_, Try.underlying5, rfl⟩
instance ins9 : Cell1 Try.prog 78 := ⟨_, Try.underlying78, rfl⟩
instance ins10 : Cell1 Try.prog 43 := ⟨_, Try.underlying43, rfl⟩
instance ins11 : Cell1 Try.prog 72 := ⟨_, Try.underlying72, rfl⟩
instance ins12 : Cell1 Try.prog 4 := ⟨_, Try.underlying4, rfl⟩
instance ins14 : Cell1 Try.prog 25 := ⟨_, Try.underlying25, rfl⟩
instance ins15 : Cell1 Try.prog 22 := ⟨_, Try.underlying22, rfl⟩
instance ins16 : SizeT Try.prog 3 1 := ⟨by kernel_rfl⟩
instance ins17 : SizeT Try.prog 5 1 := ⟨by kernel_rfl⟩
instance ins18 : SizeT Try.prog 78 1 := ⟨by kernel_rfl⟩
instance ins19 : SizeT Try.prog 43 1 := ⟨by kernel_rfl⟩
instance ins20 : SizeT Try.prog 72 1 := ⟨by kernel_rfl⟩
instance ins21 : SizeT Try.prog 4 1 := ⟨by kernel_rfl⟩
instance ins23 : SizeT Try.prog 25 1 := ⟨by kernel_rfl⟩
instance ins24 : SizeT Try.prog 22 1 := ⟨by kernel_rfl⟩
instance ins25 : BoolT Try.prog 4 := ⟨Try.underlying4⟩
instance ins26 : StrT Try.prog 9 := ⟨Try.underlying9⟩
instance ins28 : SliceT Try.prog 25 5 := ⟨Try.underlying25⟩
instance ins29 : SliceT Try.prog 22 3 := ⟨Try.underlying22⟩
instance ins30 : Elem Try.prog 5 1 1 (.int .u8 0) := ⟨by kernel_rfl, rfl, by decide⟩
instance ins31 : Elem Try.prog 72 1 8 (.int .u64 0) := ⟨by kernel_rfl, rfl, by decide⟩
instance ins32 : Elem Try.prog 3 1 8 (.int .i64 0) := ⟨by kernel_rfl, rfl, by decide⟩
end Go.Proofs.Ytaengifldfgjcaa
