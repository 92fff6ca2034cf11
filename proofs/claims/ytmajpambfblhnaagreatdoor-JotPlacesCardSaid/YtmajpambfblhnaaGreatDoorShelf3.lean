/- The contract of utf8.ValidString, laid over this translation: an application of a theorem of the guide's library. Written by a tool of the kit. -/
import Derived.Shelf.Unicode.ValidAny
import Derived.Test.YtmajpambfblhnaaGreatDoorProg
namespace Go.Proofs
open Go.Shelf
def Tryz.laysValid_ren : Go.Shelf.Ren := ⟨fun | 196 => 50 | 259 => 72 | n => n, fun | 9 => 9 | 4 => 4 | 3 => 3 | 5 => 5 | 12 => 12 | 119 => 118 | 0 => 0 | 46 => 110 | 139 => 121 | 138 => 120 | 53 => 136 | n => n, fun | 3 => 0 | 4 => 1 | n => n⟩
theorem Tryz.laysValid : Go.Proofs.Lays.n196 Tryz.prog Tryz.laysValid_ren := {
  mixed := by kernel_rfl
  f196 := Tryz.func50.trans (congrArg some (by kernel_rfl))
  f259 := Tryz.func72.trans (congrArg some (by kernel_rfl))
  t0 := Tryz.underlying0
  a0 := Tryz.isAgg0
  z0 := Tryz.sizeOf0
  v0 := Tryz.zeroValue0
  t3 := Tryz.underlying3
  a3 := Tryz.isAgg3
  z3 := Tryz.sizeOf3
  v3 := Tryz.zeroValue3
  t4 := Tryz.underlying4
  a4 := Tryz.isAgg4
  z4 := Tryz.sizeOf4
  v4 := Tryz.zeroValue4
  t5 := Tryz.underlying5
  a5 := Tryz.isAgg5
  z5 := Tryz.sizeOf5
  v5 := Tryz.zeroValue5
  t9 := Tryz.underlying9
  a9 := Tryz.isAgg9
  z9 := Tryz.sizeOf9
  v9 := Tryz.zeroValue9
  t12 := Tryz.underlying12
  a12 := Tryz.isAgg12
  z12 := Tryz.sizeOf12
  v12 := Tryz.zeroValue12
  t46 := Tryz.underlying110
  a46 := Tryz.isAgg110
  z46 := Tryz.sizeOf110
  v46 := Tryz.zeroValue110
  t53 := Tryz.underlying136
  a53 := Tryz.isAgg136
  z53 := Tryz.sizeOf136
  v53 := Tryz.zeroValue136
  t119 := Tryz.underlying118
  a119 := Tryz.isAgg118
  z119 := Tryz.sizeOf118
  t138 := Tryz.underlying120
  a138 := Tryz.isAgg120
  z138 := Tryz.sizeOf120
  v138 := Tryz.zeroValue120
  t139 := Tryz.underlying121
  a139 := Tryz.isAgg121
  z139 := Tryz.sizeOf121
  v139 := Tryz.zeroValue121
  g3 := by kernel_rfl
  g4 := by kernel_rfl }
end Go.Proofs
