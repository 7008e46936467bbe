/- The layings of library contracts that this claim takes (written by the kit's lay-shelf and lay-plain). -/
import Derived.Shelf.SlSortCmp.WholeK
import Derived.Shelf.SlLaysE0
import Derived.Test.YtjecbkklfphblaaGreatProg



namespace Go.Proofs
open Go.Shelf
def Tryz.laysSort127_ren : Go.Shelf.Ren := ⟨fun | 6 => 127 | 15 => 134 | 14 => 133 | 28 => 144 | 29 => 145 | 20 => 136 | 21 => 137 | 22 => 138 | 23 => 139 | 24 => 140 | 25 => 141 | 26 => 142 | 27 => 143 | 46 => 146 | 47 => 147 | 48 => 148 | 49 => 149 | 50 => 150 | 57 => 151 | n => n, fun | 22 => 30 | 24 => 55 | 25 => 154 | 3 => 3 | 39 => 99 | 0 => 0 | 53 => 169 | 55 => 171 | 4 => 4 | 46 => 163 | 45 => 162 | 50 => 115 | 5 => 5 | 9 => 9 | 66 => 172 | 70 => 176 | 76 => 178 | 77 => 179 | n => n, fun | n => n⟩
theorem Tryz.laysSort127 : Go.Proofs.SlLaysF0.n6 Tryz.prog Tryz.laysSort127_ren := {
  mixed := by kernel_rfl
  f6 := ⟨Tryz.f127.name, by decide, Tryz.func127.trans (congrArg some (by kernel_rfl))⟩
  f14 := ⟨Tryz.f133.name, by decide, Tryz.func133.trans (congrArg some (by kernel_rfl))⟩
  f15 := Tryz.func134.trans (congrArg some (by kernel_rfl))
  f20 := ⟨Tryz.f136.name, by decide, Tryz.func136.trans (congrArg some (by kernel_rfl))⟩
  f21 := ⟨Tryz.f137.name, by decide, Tryz.func137.trans (congrArg some (by kernel_rfl))⟩
  f22 := ⟨Tryz.f138.name, by decide, Tryz.func138.trans (congrArg some (by kernel_rfl))⟩
  f23 := ⟨Tryz.f139.name, by decide, Tryz.func139.trans (congrArg some (by kernel_rfl))⟩
  f24 := ⟨Tryz.f140.name, by decide, Tryz.func140.trans (congrArg some (by kernel_rfl))⟩
  f25 := ⟨Tryz.f141.name, by decide, Tryz.func141.trans (congrArg some (by kernel_rfl))⟩
  f26 := ⟨Tryz.f142.name, by decide, Tryz.func142.trans (congrArg some (by kernel_rfl))⟩
  f27 := ⟨Tryz.f143.name, by decide, Tryz.func143.trans (congrArg some (by kernel_rfl))⟩
  f28 := Tryz.func144.trans (congrArg some (by kernel_rfl))
  f29 := Tryz.func145.trans (congrArg some (by kernel_rfl))
  f46 := ⟨Tryz.f146.name, by decide, Tryz.func146.trans (congrArg some (by kernel_rfl))⟩
  f47 := Tryz.func147.trans (congrArg some (by kernel_rfl))
  f48 := Tryz.func148.trans (congrArg some (by kernel_rfl))
  f49 := ⟨Tryz.f149.name, by decide, Tryz.func149.trans (congrArg some (by kernel_rfl))⟩
  f50 := ⟨Tryz.f150.name, by decide, Tryz.func150.trans (congrArg some (by kernel_rfl))⟩
  f57 := ⟨Tryz.f151.name, by decide, Tryz.func151.trans (congrArg some (by kernel_rfl))⟩
  t0 := Tryz.underlying0
  a0 := Tryz.isAgg0
  z0 := Tryz.sizeOf0
  v0 := Tryz.zeroValue0
  t3 := Tryz.underlying3
  a3 := Tryz.isAgg3
  z3 := Tryz.sizeOf3
  v3 := Tryz.zeroValue3
  t4 := Tryz.underlying4
  a4 := Tryz.isAgg4
  z4 := Tryz.sizeOf4
  v4 := Tryz.zeroValue4
  t5 := Tryz.underlying5
  a5 := Tryz.isAgg5
  z5 := Tryz.sizeOf5
  v5 := Tryz.zeroValue5
  t9 := Tryz.underlying9
  a9 := Tryz.isAgg9
  z9 := Tryz.sizeOf9
  v9 := Tryz.zeroValue9
  t22 := Tryz.underlying30
  a22 := Tryz.isAgg30
  z22 := Tryz.sizeOf30
  v22 := Tryz.zeroValue30
  t25 := Tryz.underlying154
  a25 := Tryz.isAgg154
  z25 := Tryz.sizeOf154
  v25 := Tryz.zeroValue154
  t39 := Tryz.underlying99
  a39 := Tryz.isAgg99
  z39 := Tryz.sizeOf99
  v39 := Tryz.zeroValue99
  t45 := Tryz.underlying162
  a45 := Tryz.isAgg162
  z45 := Tryz.sizeOf162
  v45 := Tryz.zeroValue162
  t46 := Tryz.underlying163
  a46 := Tryz.isAgg163
  z46 := Tryz.sizeOf163
  v46 := Tryz.zeroValue163
  t50 := Tryz.underlying115
  a50 := Tryz.isAgg115
  z50 := Tryz.sizeOf115
  v50 := Tryz.zeroValue115
  t53 := Tryz.underlying169
  a53 := Tryz.isAgg169
  z53 := Tryz.sizeOf169
  v53 := Tryz.zeroValue169
  t55 := Tryz.underlying171
  a55 := Tryz.isAgg171
  z55 := Tryz.sizeOf171
  v55 := Tryz.zeroValue171
  t66 := Tryz.underlying172
  a66 := Tryz.isAgg172
  z66 := Tryz.sizeOf172
  v66 := Tryz.zeroValue172
  t70 := Tryz.underlying176
  a70 := Tryz.isAgg176
  z70 := Tryz.sizeOf176
  v70 := Tryz.zeroValue176
  t76 := Tryz.underlying178
  a76 := Tryz.isAgg178
  z76 := Tryz.sizeOf178
  v76 := Tryz.zeroValue178
  t77 := Tryz.underlying179
  a77 := Tryz.isAgg179
  z77 := Tryz.sizeOf179
  v77 := Tryz.zeroValue179 }
def Tryz.laysClone73_ren : Go.Shelf.Ren := ⟨fun | 41 => 73 | n => n, fun | 22 => 27 | 23 => 9 | 4 => 4 | n => n, fun | n => n⟩
theorem Tryz.laysClone73 : Go.Proofs.SlLaysE0.n41 Tryz.prog Tryz.laysClone73_ren := {
  mixed := by kernel_rfl
  f41 := ⟨Tryz.f73.name, by decide, Tryz.func73.trans (congrArg some (by kernel_rfl))⟩
  t4 := Tryz.underlying4
  a4 := Tryz.isAgg4
  z4 := Tryz.sizeOf4
  v4 := Tryz.zeroValue4
  t22 := Tryz.underlying27
  a22 := Tryz.isAgg27
  z22 := Tryz.sizeOf27
  v22 := Tryz.zeroValue27 }
def Tryz.laysClone74_ren : Go.Shelf.Ren := ⟨fun | 41 => 74 | n => n, fun | 22 => 30 | 23 => 55 | 4 => 4 | n => n, fun | n => n⟩
theorem Tryz.laysClone74 : Go.Proofs.SlLaysE0.n41 Tryz.prog Tryz.laysClone74_ren := {
  mixed := by kernel_rfl
  f41 := ⟨Tryz.f74.name, by decide, Tryz.func74.trans (congrArg some (by kernel_rfl))⟩
  t4 := Tryz.underlying4
  a4 := Tryz.isAgg4
  z4 := Tryz.sizeOf4
  v4 := Tryz.zeroValue4
  t22 := Tryz.underlying30
  a22 := Tryz.isAgg30
  z22 := Tryz.sizeOf30
  v22 := Tryz.zeroValue30 }
def Tryz.laysClone75_ren : Go.Shelf.Ren := ⟨fun | 41 => 75 | n => n, fun | 22 => 33 | 23 => 113 | 4 => 4 | n => n, fun | n => n⟩
theorem Tryz.laysClone75 : Go.Proofs.SlLaysE0.n41 Tryz.prog Tryz.laysClone75_ren := {
  mixed := by kernel_rfl
  f41 := ⟨Tryz.f75.name, by decide, Tryz.func75.trans (congrArg some (by kernel_rfl))⟩
  t4 := Tryz.underlying4
  a4 := Tryz.isAgg4
  z4 := Tryz.sizeOf4
  v4 := Tryz.zeroValue4
  t22 := Tryz.underlying33
  a22 := Tryz.isAgg33
  z22 := Tryz.sizeOf33
  v22 := Tryz.zeroValue33 }
def Tryz.laysClone76_ren : Go.Shelf.Ren := ⟨fun | 41 => 76 | n => n, fun | 22 => 36 | 23 => 50 | 4 => 4 | n => n, fun | n => n⟩
theorem Tryz.laysClone76 : Go.Proofs.SlLaysE0.n41 Tryz.prog Tryz.laysClone76_ren := {
  mixed := by kernel_rfl
  f41 := ⟨Tryz.f76.name, by decide, Tryz.func76.trans (congrArg some (by kernel_rfl))⟩
  t4 := Tryz.underlying4
  a4 := Tryz.isAgg4
  z4 := Tryz.sizeOf4
  v4 := Tryz.zeroValue4
  t22 := Tryz.underlying36
  a22 := Tryz.isAgg36
  z22 := Tryz.sizeOf36
  v22 := Tryz.zeroValue36 }
end Go.Proofs
