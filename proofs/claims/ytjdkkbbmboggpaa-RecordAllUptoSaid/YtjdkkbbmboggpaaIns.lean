/-
  The types of numbers, truths, texts and of slices of them: what the rules ask of them.
-/
import Derived.Test.YtjdkkbbmboggpaaRows
import Derived.Test.YtjdkkbbmboggpaaStX
namespace Go.Proofs.Ytjdkkbbmboggpaa
open Go.Fk Go.RowKit
instance ins1 : IntT Try.prog 3 .i64 := ⟨Try.underlying3⟩
instance ins2 : IntT Try.prog 5 .u8 := ⟨Try.underlying5⟩
instance ins4 : IntT Try.prog 41 .u32 := ⟨Try.underlying41⟩
instance ins5 : IntT Try.prog 22 .u64 := ⟨Try.underlying22⟩
instance ins6 : IntT Try.prog 35 .u64 := ⟨Try.underlying35⟩
instance ins7 : Cell1 Try.prog 3 := ⟨_, Try.underlying3, rfl⟩
instance ins8 : Cell1 Try.prog 5 := ⟨_, Try.underlying5, rfl⟩
instance ins10 : Cell1 Try.prog 41 := ⟨_, Try.underlying41, rfl⟩
instance ins11 : Cell1 Try.prog 22 := ⟨_, Try.underlying22, rfl⟩
instance ins12 : Cell1 Try.prog 4 := ⟨_, Try.underlying4, rfl⟩
instance ins13 : Cell1 Try.prog 44 := ⟨_, Try.underlying44, rfl⟩
instance ins14 : Cell1 Try.prog 25 := ⟨_, Try.underlying25, rfl⟩
instance ins16 : SizeT Try.prog 3 1 := ⟨by kernel_rfl⟩
instance ins17 : SizeT Try.prog 5 1 := ⟨by kernel_rfl⟩
instance ins19 : SizeT Try.prog 41 1 := ⟨by kernel_rfl⟩
instance ins20 : SizeT Try.prog 22 1 := ⟨by kernel_rfl⟩
instance ins21 : SizeT Try.prog 4 1 := ⟨by kernel_rfl⟩
instance ins22 : SizeT Try.prog 44 1 := ⟨by kernel_rfl⟩
instance ins23 : SizeT Try.prog 25 1 := ⟨by kernel_rfl⟩
instance ins25 : BoolT Try.prog 4 := ⟨Try.underlying4⟩
instance ins26 : StrT Try.prog 9 := ⟨Try.underlying9⟩
instance ins27 : SliceT Try.prog 44 22 := ⟨Try.underlying44⟩
instance ins28 : SliceT Try.prog 25 5 := ⟨Try.underlying25⟩
instance ins30 : Elem Try.prog 5 1 1 (.int .u8 0) := ⟨by kernel_rfl, rfl, by decide⟩
instance ins31 : Elem Try.prog 22 1 8 (.int .u64 0) := ⟨by kernel_rfl, rfl, by decide⟩
instance ins32 : Elem Try.prog 3 1 8 (.int .i64 0) := ⟨by kernel_rfl, rfl, by decide⟩
end Go.Proofs.Ytjdkkbbmboggpaa
