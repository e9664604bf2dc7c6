/-
  The types of numbers, truths, texts and of slices of them: what the rules ask of them.
-/
import Derived.Test.YtaapnfoimcccjaaRows
import Derived.Test.YtaapnfoimcccjaaStX
namespace Go.Proofs.Ytaapnfoimcccjaa
open Go.Fk Go.RowKit
instance ins1 : IntT Try.prog 3 .i64 := ⟨Try.underlying3⟩
instance ins2 : IntT Try.prog 5 .u8 := ⟨Try.underlying5⟩
instance ins4 : IntT Try.prog 58 .u32 := ⟨Try.underlying58⟩
instance ins5 : IntT Try.prog 73 .u64 := ⟨Try.underlying73⟩
instance ins6 : IntT Try.prog 71 .u64 := ⟨Try.underlying71⟩
instance ins7 : Cell1 Try.prog 3 := ⟨_, Try.underlying3, rfl⟩
instance ins8 : Cell1 Try.prog 5 := ⟨_, Try.underlying5, rfl⟩
instance ins10 : Cell1 Try.prog 58 := ⟨_, Try.underlying58, rfl⟩
instance ins11 : Cell1 Try.prog 73 := ⟨_, Try.underlying73, rfl⟩
instance ins12 : Cell1 Try.prog 4 := ⟨_, Try.underlying4, rfl⟩
instance ins14 : Cell1 Try.prog 49 := ⟨_, Try.underlying49, rfl⟩
instance ins15 : Cell1 Try.prog 33 := ⟨_, Try.underlying33, rfl⟩
instance ins16 : SizeT Try.prog 3 1 := ⟨by kernel_rfl⟩
instance ins17 : SizeT Try.prog 5 1 := ⟨by kernel_rfl⟩
instance ins19 : SizeT Try.prog 58 1 := ⟨by kernel_rfl⟩
instance ins20 : SizeT Try.prog 73 1 := ⟨by kernel_rfl⟩
instance ins21 : SizeT Try.prog 4 1 := ⟨by kernel_rfl⟩
instance ins23 : SizeT Try.prog 49 1 := ⟨by kernel_rfl⟩
instance ins24 : SizeT Try.prog 33 1 := ⟨by kernel_rfl⟩
instance ins25 : BoolT Try.prog 4 := ⟨Try.underlying4⟩
instance ins26 : StrT Try.prog 9 := ⟨Try.underlying9⟩
instance ins28 : SliceT Try.prog 49 5 := ⟨Try.underlying49⟩
instance ins29 : SliceT Try.prog 33 3 := ⟨Try.underlying33⟩
instance ins30 : Elem Try.prog 5 1 1 (.int .u8 0) := ⟨by kernel_rfl, rfl, by decide⟩
instance ins31 : Elem Try.prog 73 1 8 (.int .u64 0) := ⟨by kernel_rfl, rfl, by decide⟩
instance ins32 : Elem Try.prog 3 1 8 (.int .i64 0) := ⟨by kernel_rfl, rfl, by decide⟩
end Go.Proofs.Ytaapnfoimcccjaa
