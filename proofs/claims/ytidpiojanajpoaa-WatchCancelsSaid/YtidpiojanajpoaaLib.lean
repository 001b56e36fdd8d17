/-
  Contracts of the library, laid by the shelf in plain words.
-/
import Derived.Test.YtidpiojanajpoaaProg
import Derived.Ground.SlbCloneProg
import Derived.Shelf.Bytes.SlClone
namespace Go.Proofs
open Go.Shelf
def Try.laysSlK4_ren : Go.Shelf.Ren := ⟨fun | 4 => 26 | n => n, fun | 22 => 22 | 4 => 4 | 5 => 5 | n => n, fun | n => n⟩
theorem Try.laysSlK4 : Go.Proofs.SlLaysK.n4 Try.prog Try.laysSlK4_ren := {
  mixed := by kernel_rfl
  f4 := Try.func26.trans (congrArg some (by kernel_rfl))
  t4 := Try.underlying4
  a4 := Try.isAgg4
  z4 := Try.sizeOf4
  v4 := Try.zeroValue4
  t22 := Try.underlying22
  a22 := Try.isAgg22
  z22 := Try.sizeOf22
  v22 := Try.zeroValue22
  t5 := Try.underlying5
  i5 := by kernel_rfl }
end Go.Proofs
