/- The layings of library contracts that this claim takes (written by the kit's lay-plain). -/
import Derived.Shelf.SlLaysE0
import Derived.Test.YtgdhcacjeppglaaGreatProg


namespace Go.Proofs
open Go.Shelf
def Tryz.laysClone98_ren : Go.Shelf.Ren := ⟨fun | 41 => 98 | n => n, fun | 22 => 22 | 23 => 3 | 4 => 4 | n => n, fun | n => n⟩
theorem Tryz.laysClone98 : Go.Proofs.SlLaysE0.n41 Tryz.prog Tryz.laysClone98_ren := {
  mixed := by kernel_rfl
  f41 := ⟨Tryz.f98.name, by decide, Tryz.func98.trans (congrArg some (by kernel_rfl))⟩
  t4 := Tryz.underlying4
  a4 := Tryz.isAgg4
  z4 := Tryz.sizeOf4
  v4 := Tryz.zeroValue4
  t22 := Tryz.underlying22
  a22 := Tryz.isAgg22
  z22 := Tryz.sizeOf22
  v22 := Tryz.zeroValue22 }
def Tryz.laysClone71_ren : Go.Shelf.Ren := ⟨fun | 41 => 71 | n => n, fun | 22 => 73 | 23 => 116 | 4 => 4 | n => n, fun | n => n⟩
theorem Tryz.laysClone71 : Go.Proofs.SlLaysE0.n41 Tryz.prog Tryz.laysClone71_ren := {
  mixed := by kernel_rfl
  f41 := ⟨Tryz.f71.name, by decide, Tryz.func71.trans (congrArg some (by kernel_rfl))⟩
  t4 := Tryz.underlying4
  a4 := Tryz.isAgg4
  z4 := Tryz.sizeOf4
  v4 := Tryz.zeroValue4
  t22 := Tryz.underlying73
  a22 := Tryz.isAgg73
  z22 := Tryz.sizeOf73
  v22 := Tryz.zeroValue73 }
def Tryz.laysClone107_ren : Go.Shelf.Ren := ⟨fun | 41 => 107 | n => n, fun | 22 => 123 | 23 => 193 | 4 => 4 | n => n, fun | n => n⟩
theorem Tryz.laysClone107 : Go.Proofs.SlLaysE0.n41 Tryz.prog Tryz.laysClone107_ren := {
  mixed := by kernel_rfl
  f41 := ⟨Tryz.f107.name, by decide, Tryz.func107.trans (congrArg some (by kernel_rfl))⟩
  t4 := Tryz.underlying4
  a4 := Tryz.isAgg4
  z4 := Tryz.sizeOf4
  v4 := Tryz.zeroValue4
  t22 := Tryz.underlying123
  a22 := Tryz.isAgg123
  z22 := Tryz.sizeOf123
  v22 := Tryz.zeroValue123 }
def Tryz.laysClone106_ren : Go.Shelf.Ren := ⟨fun | 41 => 106 | n => n, fun | 22 => 117 | 23 => 127 | 4 => 4 | n => n, fun | n => n⟩
theorem Tryz.laysClone106 : Go.Proofs.SlLaysE0.n41 Tryz.prog Tryz.laysClone106_ren := {
  mixed := by kernel_rfl
  f41 := ⟨Tryz.f106.name, by decide, Tryz.func106.trans (congrArg some (by kernel_rfl))⟩
  t4 := Tryz.underlying4
  a4 := Tryz.isAgg4
  z4 := Tryz.sizeOf4
  v4 := Tryz.zeroValue4
  t22 := Tryz.underlying117
  a22 := Tryz.isAgg117
  z22 := Tryz.sizeOf117
  v22 := Tryz.zeroValue117 }
def Tryz.laysClone101_ren : Go.Shelf.Ren := ⟨fun | 41 => 101 | n => n, fun | 22 => 28 | 23 => 40 | 4 => 4 | n => n, fun | n => n⟩
theorem Tryz.laysClone101 : Go.Proofs.SlLaysE0.n41 Tryz.prog Tryz.laysClone101_ren := {
  mixed := by kernel_rfl
  f41 := ⟨Tryz.f101.name, by decide, Tryz.func101.trans (congrArg some (by kernel_rfl))⟩
  t4 := Tryz.underlying4
  a4 := Tryz.isAgg4
  z4 := Tryz.sizeOf4
  v4 := Tryz.zeroValue4
  t22 := Tryz.underlying28
  a22 := Tryz.isAgg28
  z22 := Tryz.sizeOf28
  v22 := Tryz.zeroValue28 }
def Tryz.laysClone109_ren : Go.Shelf.Ren := ⟨fun | 41 => 109 | n => n, fun | 22 => 25 | 23 => 52 | 4 => 4 | n => n, fun | n => n⟩
theorem Tryz.laysClone109 : Go.Proofs.SlLaysE0.n41 Tryz.prog Tryz.laysClone109_ren := {
  mixed := by kernel_rfl
  f41 := ⟨Tryz.f109.name, by decide, Tryz.func109.trans (congrArg some (by kernel_rfl))⟩
  t4 := Tryz.underlying4
  a4 := Tryz.isAgg4
  z4 := Tryz.sizeOf4
  v4 := Tryz.zeroValue4
  t22 := Tryz.underlying25
  a22 := Tryz.isAgg25
  z22 := Tryz.sizeOf25
  v22 := Tryz.zeroValue25 }
def Tryz.laysClone118_ren : Go.Shelf.Ren := ⟨fun | 41 => 118 | n => n, fun | 22 => 128 | 23 => 154 | 4 => 4 | n => n, fun | n => n⟩
theorem Tryz.laysClone118 : Go.Proofs.SlLaysE0.n41 Tryz.prog Tryz.laysClone118_ren := {
  mixed := by kernel_rfl
  f41 := ⟨Tryz.f118.name, by decide, Tryz.func118.trans (congrArg some (by kernel_rfl))⟩
  t4 := Tryz.underlying4
  a4 := Tryz.isAgg4
  z4 := Tryz.sizeOf4
  v4 := Tryz.zeroValue4
  t22 := Tryz.underlying128
  a22 := Tryz.isAgg128
  z22 := Tryz.sizeOf128
  v22 := Tryz.zeroValue128 }
def Tryz.laysClone131_ren : Go.Shelf.Ren := ⟨fun | 41 => 131 | n => n, fun | 22 => 89 | 23 => 161 | 4 => 4 | n => n, fun | n => n⟩
theorem Tryz.laysClone131 : Go.Proofs.SlLaysE0.n41 Tryz.prog Tryz.laysClone131_ren := {
  mixed := by kernel_rfl
  f41 := ⟨Tryz.f131.name, by decide, Tryz.func131.trans (congrArg some (by kernel_rfl))⟩
  t4 := Tryz.underlying4
  a4 := Tryz.isAgg4
  z4 := Tryz.sizeOf4
  v4 := Tryz.zeroValue4
  t22 := Tryz.underlying89
  a22 := Tryz.isAgg89
  z22 := Tryz.sizeOf89
  v22 := Tryz.zeroValue89 }
def Tryz.laysClone239_ren : Go.Shelf.Ren := ⟨fun | 41 => 239 | n => n, fun | 22 => 79 | 23 => 119 | 4 => 4 | n => n, fun | n => n⟩
theorem Tryz.laysClone239 : Go.Proofs.SlLaysE0.n41 Tryz.prog Tryz.laysClone239_ren := {
  mixed := by kernel_rfl
  f41 := ⟨Tryz.f239.name, by decide, Tryz.func239.trans (congrArg some (by kernel_rfl))⟩
  t4 := Tryz.underlying4
  a4 := Tryz.isAgg4
  z4 := Tryz.sizeOf4
  v4 := Tryz.zeroValue4
  t22 := Tryz.underlying79
  a22 := Tryz.isAgg79
  z22 := Tryz.sizeOf79
  v22 := Tryz.zeroValue79 }
end Go.Proofs
