/-
  Contracts of the library, laid by the shelf in plain words.
-/
import Derived.Test.YtpbenicglhccmaaProg
import Derived.Ground.SlbCloneProg
import Derived.Shelf.Bytes.SlClone
import Derived.Shelf.SlSortCmp.WholeK
import Derived.Ground.SlsfProg
namespace Go.Proofs
open Go.Shelf
def Try.laysSlK4_ren : Go.Shelf.Ren := ⟨fun | 4 => 22 | n => n, fun | 22 => 22 | 4 => 4 | 5 => 5 | n => n, fun | n => n⟩
theorem Try.laysSlK4 : Go.Proofs.SlLaysK.n4 Try.prog Try.laysSlK4_ren := {
  mixed := by kernel_rfl
  f4 := Try.func22.trans (congrArg some (by kernel_rfl))
  t4 := Try.underlying4
  a4 := Try.isAgg4
  z4 := Try.sizeOf4
  v4 := Try.zeroValue4
  t22 := Try.underlying22
  a22 := Try.isAgg22
  z22 := Try.sizeOf22
  v22 := Try.zeroValue22
  t5 := Try.underlying5
  i5 := by kernel_rfl }
def Try.laysSortKV_ren : Go.Shelf.Ren := ⟨fun | 6 => 17 | 15 => 24 | 14 => 23 | 28 => 36 | 29 => 37 | 20 => 28 | 21 => 29 | 22 => 30 | 23 => 31 | 24 => 32 | 25 => 33 | 26 => 34 | 27 => 35 | 46 => 40 | 47 => 41 | 48 => 42 | 49 => 43 | 50 => 44 | 57 => 45 | n => n, fun | 22 => 25 | 24 => 37 | 25 => 45 | 3 => 3 | 39 => 34 | 0 => 0 | 53 => 62 | 55 => 64 | 4 => 4 | 46 => 55 | 45 => 54 | 50 => 59 | 5 => 5 | 9 => 9 | 66 => 67 | 70 => 71 | 76 => 73 | 77 => 74 | n => n, fun | n => n⟩
theorem Try.laysSortKV : Go.Proofs.SlLaysF0.n6 Try.prog Try.laysSortKV_ren := {
  mixed := by kernel_rfl
  f6 := ⟨Try.f17.name, by decide, Try.func17.trans (congrArg some (by kernel_rfl))⟩
  f14 := ⟨Try.f23.name, by decide, Try.func23.trans (congrArg some (by kernel_rfl))⟩
  f15 := Try.func24.trans (congrArg some (by kernel_rfl))
  f20 := ⟨Try.f28.name, by decide, Try.func28.trans (congrArg some (by kernel_rfl))⟩
  f21 := ⟨Try.f29.name, by decide, Try.func29.trans (congrArg some (by kernel_rfl))⟩
  f22 := ⟨Try.f30.name, by decide, Try.func30.trans (congrArg some (by kernel_rfl))⟩
  f23 := ⟨Try.f31.name, by decide, Try.func31.trans (congrArg some (by kernel_rfl))⟩
  f24 := ⟨Try.f32.name, by decide, Try.func32.trans (congrArg some (by kernel_rfl))⟩
  f25 := ⟨Try.f33.name, by decide, Try.func33.trans (congrArg some (by kernel_rfl))⟩
  f26 := ⟨Try.f34.name, by decide, Try.func34.trans (congrArg some (by kernel_rfl))⟩
  f27 := ⟨Try.f35.name, by decide, Try.func35.trans (congrArg some (by kernel_rfl))⟩
  f28 := Try.func36.trans (congrArg some (by kernel_rfl))
  f29 := Try.func37.trans (congrArg some (by kernel_rfl))
  f46 := ⟨Try.f40.name, by decide, Try.func40.trans (congrArg some (by kernel_rfl))⟩
  f47 := Try.func41.trans (congrArg some (by kernel_rfl))
  f48 := Try.func42.trans (congrArg some (by kernel_rfl))
  f49 := ⟨Try.f43.name, by decide, Try.func43.trans (congrArg some (by kernel_rfl))⟩
  f50 := ⟨Try.f44.name, by decide, Try.func44.trans (congrArg some (by kernel_rfl))⟩
  f57 := ⟨Try.f45.name, by decide, Try.func45.trans (congrArg some (by kernel_rfl))⟩
  t0 := Try.underlying0
  a0 := Try.isAgg0
  z0 := Try.sizeOf0
  v0 := Try.zeroValue0
  t3 := Try.underlying3
  a3 := Try.isAgg3
  z3 := Try.sizeOf3
  v3 := Try.zeroValue3
  t4 := Try.underlying4
  a4 := Try.isAgg4
  z4 := Try.sizeOf4
  v4 := Try.zeroValue4
  t5 := Try.underlying5
  a5 := Try.isAgg5
  z5 := Try.sizeOf5
  v5 := Try.zeroValue5
  t9 := Try.underlying9
  a9 := Try.isAgg9
  z9 := Try.sizeOf9
  v9 := Try.zeroValue9
  t22 := Try.underlying25
  a22 := Try.isAgg25
  z22 := Try.sizeOf25
  v22 := Try.zeroValue25
  t25 := Try.underlying45
  a25 := Try.isAgg45
  z25 := Try.sizeOf45
  v25 := Try.zeroValue45
  t39 := Try.underlying34
  a39 := Try.isAgg34
  z39 := Try.sizeOf34
  v39 := Try.zeroValue34
  t45 := Try.underlying54
  a45 := Try.isAgg54
  z45 := Try.sizeOf54
  v45 := Try.zeroValue54
  t46 := Try.underlying55
  a46 := Try.isAgg55
  z46 := Try.sizeOf55
  v46 := Try.zeroValue55
  t50 := Try.underlying59
  a50 := Try.isAgg59
  z50 := Try.sizeOf59
  v50 := Try.zeroValue59
  t53 := Try.underlying62
  a53 := Try.isAgg62
  z53 := Try.sizeOf62
  v53 := Try.zeroValue62
  t55 := Try.underlying64
  a55 := Try.isAgg64
  z55 := Try.sizeOf64
  v55 := Try.zeroValue64
  t66 := Try.underlying67
  a66 := Try.isAgg67
  z66 := Try.sizeOf67
  v66 := Try.zeroValue67
  t70 := Try.underlying71
  a70 := Try.isAgg71
  z70 := Try.sizeOf71
  v70 := Try.zeroValue71
  t76 := Try.underlying73
  a76 := Try.isAgg73
  z76 := Try.sizeOf73
  v76 := Try.zeroValue73
  t77 := Try.underlying74
  a77 := Try.isAgg74
  z77 := Try.sizeOf74
  v77 := Try.zeroValue74 }
end Go.Proofs
