/- The contract of the library's sort, laid over this translation: an application of a theorem of the guide's library. Written by a tool of the kit. -/
import Derived.Shelf.SlGeneric
import Derived.Ground.SlsfProg
import Derived.Shelf.SlSortCmp.WholeK
import Derived.Test.YtmajpambfblhnaaGreatDoorProg
namespace Go.Proofs
open Go.Shelf
def Tryz.pdqMem_ren : Go.Shelf.Ren := ⟨fun | 14 => 106 | 20 => 117 | 21 => 118 | 22 => 119 | 23 => 120 | 24 => 121 | 25 => 122 | 26 => 123 | 27 => 124 | 46 => 134 | 47 => 135 | 48 => 136 | 49 => 137 | 50 => 138 | 15 => 107 | 57 => 142 | 28 => 125 | 29 => 126 | n => n, fun | 24 => 93 | 22 => 90 | 3 => 3 | 25 => 133 | 4 => 4 | 0 => 0 | 46 => 155 | 45 => 154 | 50 => 111 | 66 => 166 | 39 => 110 | 55 => 136 | 70 => 170 | 76 => 173 | 77 => 113 | 53 => 152 | 5 => 5 | 9 => 9 | n => n, fun | n => n⟩
theorem Tryz.pdqMem : Go.Proofs.SlLaysF0.n14 Tryz.prog Tryz.pdqMem_ren := {
  mixed := by kernel_rfl
  f14 := ⟨Tryz.f106.name, by decide, Tryz.func106.trans (congrArg some (by kernel_rfl))⟩
  f15 := Tryz.func107.trans (congrArg some (by kernel_rfl))
  f20 := ⟨Tryz.f117.name, by decide, Tryz.func117.trans (congrArg some (by kernel_rfl))⟩
  f21 := ⟨Tryz.f118.name, by decide, Tryz.func118.trans (congrArg some (by kernel_rfl))⟩
  f22 := ⟨Tryz.f119.name, by decide, Tryz.func119.trans (congrArg some (by kernel_rfl))⟩
  f23 := ⟨Tryz.f120.name, by decide, Tryz.func120.trans (congrArg some (by kernel_rfl))⟩
  f24 := ⟨Tryz.f121.name, by decide, Tryz.func121.trans (congrArg some (by kernel_rfl))⟩
  f25 := ⟨Tryz.f122.name, by decide, Tryz.func122.trans (congrArg some (by kernel_rfl))⟩
  f26 := ⟨Tryz.f123.name, by decide, Tryz.func123.trans (congrArg some (by kernel_rfl))⟩
  f27 := ⟨Tryz.f124.name, by decide, Tryz.func124.trans (congrArg some (by kernel_rfl))⟩
  f28 := Tryz.func125.trans (congrArg some (by kernel_rfl))
  f29 := Tryz.func126.trans (congrArg some (by kernel_rfl))
  f46 := ⟨Tryz.f134.name, by decide, Tryz.func134.trans (congrArg some (by kernel_rfl))⟩
  f47 := Tryz.func135.trans (congrArg some (by kernel_rfl))
  f48 := Tryz.func136.trans (congrArg some (by kernel_rfl))
  f49 := ⟨Tryz.f137.name, by decide, Tryz.func137.trans (congrArg some (by kernel_rfl))⟩
  f50 := ⟨Tryz.f138.name, by decide, Tryz.func138.trans (congrArg some (by kernel_rfl))⟩
  f57 := ⟨Tryz.f142.name, by decide, Tryz.func142.trans (congrArg some (by kernel_rfl))⟩
  t0 := Tryz.underlying0
  a0 := Tryz.isAgg0
  z0 := Tryz.sizeOf0
  v0 := Tryz.zeroValue0
  t3 := Tryz.underlying3
  a3 := Tryz.isAgg3
  z3 := Tryz.sizeOf3
  v3 := Tryz.zeroValue3
  t4 := Tryz.underlying4
  a4 := Tryz.isAgg4
  z4 := Tryz.sizeOf4
  v4 := Tryz.zeroValue4
  t5 := Tryz.underlying5
  a5 := Tryz.isAgg5
  z5 := Tryz.sizeOf5
  v5 := Tryz.zeroValue5
  t9 := Tryz.underlying9
  a9 := Tryz.isAgg9
  z9 := Tryz.sizeOf9
  v9 := Tryz.zeroValue9
  t22 := Tryz.underlying90
  a22 := Tryz.isAgg90
  z22 := Tryz.sizeOf90
  v22 := Tryz.zeroValue90
  t25 := Tryz.underlying133
  a25 := Tryz.isAgg133
  z25 := Tryz.sizeOf133
  v25 := Tryz.zeroValue133
  t39 := Tryz.underlying110
  a39 := Tryz.isAgg110
  z39 := Tryz.sizeOf110
  v39 := Tryz.zeroValue110
  t45 := Tryz.underlying154
  a45 := Tryz.isAgg154
  z45 := Tryz.sizeOf154
  v45 := Tryz.zeroValue154
  t46 := Tryz.underlying155
  a46 := Tryz.isAgg155
  z46 := Tryz.sizeOf155
  v46 := Tryz.zeroValue155
  t50 := Tryz.underlying111
  a50 := Tryz.isAgg111
  z50 := Tryz.sizeOf111
  v50 := Tryz.zeroValue111
  t53 := Tryz.underlying152
  a53 := Tryz.isAgg152
  z53 := Tryz.sizeOf152
  v53 := Tryz.zeroValue152
  t55 := Tryz.underlying136
  a55 := Tryz.isAgg136
  z55 := Tryz.sizeOf136
  v55 := Tryz.zeroValue136
  t66 := Tryz.underlying166
  a66 := Tryz.isAgg166
  z66 := Tryz.sizeOf166
  v66 := Tryz.zeroValue166
  t70 := Tryz.underlying170
  a70 := Tryz.isAgg170
  z70 := Tryz.sizeOf170
  v70 := Tryz.zeroValue170
  t76 := Tryz.underlying173
  a76 := Tryz.isAgg173
  z76 := Tryz.sizeOf173
  v76 := Tryz.zeroValue173
  t77 := Tryz.underlying113
  a77 := Tryz.isAgg113
  z77 := Tryz.sizeOf113
  v77 := Tryz.zeroValue113 }
end Go.Proofs
