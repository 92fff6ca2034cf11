/- The contract of the library's sort, laid over this translation: an application of a theorem of the guide's library. Written by a tool of the kit. -/
import Derived.Shelf.SlGeneric
import Derived.Ground.SlsfProg
import Derived.Shelf.SlSortCmp.WholeK
import Derived.Test.YtmajpambfblhnaaDoorProg
namespace Go.Proofs
open Go.Shelf
def Tryd.pdqMem_ren : Go.Shelf.Ren := ⟨fun | 14 => 58 | 20 => 68 | 21 => 69 | 22 => 70 | 23 => 71 | 24 => 72 | 25 => 73 | 26 => 74 | 27 => 75 | 46 => 83 | 47 => 84 | 48 => 85 | 49 => 86 | 50 => 87 | 15 => 59 | 57 => 90 | 28 => 76 | 29 => 77 | n => n, fun | 24 => 73 | 22 => 70 | 3 => 3 | 25 => 101 | 4 => 4 | 0 => 0 | 46 => 121 | 45 => 120 | 50 => 96 | 66 => 132 | 39 => 92 | 55 => 102 | 70 => 136 | 76 => 138 | 77 => 139 | 53 => 117 | 5 => 5 | 9 => 9 | n => n, fun | n => n⟩
theorem Tryd.pdqMem : Go.Proofs.SlLaysF0.n14 Tryd.prog Tryd.pdqMem_ren := {
  mixed := by kernel_rfl
  f14 := ⟨Tryd.f58.name, by decide, Tryd.func58.trans (congrArg some (by kernel_rfl))⟩
  f15 := Tryd.func59.trans (congrArg some (by kernel_rfl))
  f20 := ⟨Tryd.f68.name, by decide, Tryd.func68.trans (congrArg some (by kernel_rfl))⟩
  f21 := ⟨Tryd.f69.name, by decide, Tryd.func69.trans (congrArg some (by kernel_rfl))⟩
  f22 := ⟨Tryd.f70.name, by decide, Tryd.func70.trans (congrArg some (by kernel_rfl))⟩
  f23 := ⟨Tryd.f71.name, by decide, Tryd.func71.trans (congrArg some (by kernel_rfl))⟩
  f24 := ⟨Tryd.f72.name, by decide, Tryd.func72.trans (congrArg some (by kernel_rfl))⟩
  f25 := ⟨Tryd.f73.name, by decide, Tryd.func73.trans (congrArg some (by kernel_rfl))⟩
  f26 := ⟨Tryd.f74.name, by decide, Tryd.func74.trans (congrArg some (by kernel_rfl))⟩
  f27 := ⟨Tryd.f75.name, by decide, Tryd.func75.trans (congrArg some (by kernel_rfl))⟩
  f28 := Tryd.func76.trans (congrArg some (by kernel_rfl))
  f29 := Tryd.func77.trans (congrArg some (by kernel_rfl))
  f46 := ⟨Tryd.f83.name, by decide, Tryd.func83.trans (congrArg some (by kernel_rfl))⟩
  f47 := Tryd.func84.trans (congrArg some (by kernel_rfl))
  f48 := Tryd.func85.trans (congrArg some (by kernel_rfl))
  f49 := ⟨Tryd.f86.name, by decide, Tryd.func86.trans (congrArg some (by kernel_rfl))⟩
  f50 := ⟨Tryd.f87.name, by decide, Tryd.func87.trans (congrArg some (by kernel_rfl))⟩
  f57 := ⟨Tryd.f90.name, by decide, Tryd.func90.trans (congrArg some (by kernel_rfl))⟩
  t0 := Tryd.underlying0
  a0 := Tryd.isAgg0
  z0 := Tryd.sizeOf0
  v0 := Tryd.zeroValue0
  t3 := Tryd.underlying3
  a3 := Tryd.isAgg3
  z3 := Tryd.sizeOf3
  v3 := Tryd.zeroValue3
  t4 := Tryd.underlying4
  a4 := Tryd.isAgg4
  z4 := Tryd.sizeOf4
  v4 := Tryd.zeroValue4
  t5 := Tryd.underlying5
  a5 := Tryd.isAgg5
  z5 := Tryd.sizeOf5
  v5 := Tryd.zeroValue5
  t9 := Tryd.underlying9
  a9 := Tryd.isAgg9
  z9 := Tryd.sizeOf9
  v9 := Tryd.zeroValue9
  t22 := Tryd.underlying70
  a22 := Tryd.isAgg70
  z22 := Tryd.sizeOf70
  v22 := Tryd.zeroValue70
  t25 := Tryd.underlying101
  a25 := Tryd.isAgg101
  z25 := Tryd.sizeOf101
  v25 := Tryd.zeroValue101
  t39 := Tryd.underlying92
  a39 := Tryd.isAgg92
  z39 := Tryd.sizeOf92
  v39 := Tryd.zeroValue92
  t45 := Tryd.underlying120
  a45 := Tryd.isAgg120
  z45 := Tryd.sizeOf120
  v45 := Tryd.zeroValue120
  t46 := Tryd.underlying121
  a46 := Tryd.isAgg121
  z46 := Tryd.sizeOf121
  v46 := Tryd.zeroValue121
  t50 := Tryd.underlying96
  a50 := Tryd.isAgg96
  z50 := Tryd.sizeOf96
  v50 := Tryd.zeroValue96
  t53 := Tryd.underlying117
  a53 := Tryd.isAgg117
  z53 := Tryd.sizeOf117
  v53 := Tryd.zeroValue117
  t55 := Tryd.underlying102
  a55 := Tryd.isAgg102
  z55 := Tryd.sizeOf102
  v55 := Tryd.zeroValue102
  t66 := Tryd.underlying132
  a66 := Tryd.isAgg132
  z66 := Tryd.sizeOf132
  v66 := Tryd.zeroValue132
  t70 := Tryd.underlying136
  a70 := Tryd.isAgg136
  z70 := Tryd.sizeOf136
  v70 := Tryd.zeroValue136
  t76 := Tryd.underlying138
  a76 := Tryd.isAgg138
  z76 := Tryd.sizeOf138
  v76 := Tryd.zeroValue138
  t77 := Tryd.underlying139
  a77 := Tryd.isAgg139
  z77 := Tryd.sizeOf139
  v77 := Tryd.zeroValue139 }
end Go.Proofs
