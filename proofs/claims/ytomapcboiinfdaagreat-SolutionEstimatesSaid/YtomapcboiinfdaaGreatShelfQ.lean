/- The layings of library contracts that this claim takes (written by the kit's lay-shelf and lay-plain). -/
import Derived.Shelf.SlSortCmp.WholeK
import Derived.Shelf.SlLaysE0
import Derived.Test.YtomapcboiinfdaaGreatProg



namespace Go.Proofs
open Go.Shelf
def Tryz.laysSort95_ren : Go.Shelf.Ren := ⟨fun | 6 => 95 | 15 => 142 | 14 => 141 | 28 => 183 | 29 => 184 | 20 => 175 | 21 => 176 | 22 => 177 | 23 => 178 | 24 => 179 | 25 => 180 | 26 => 181 | 27 => 182 | 46 => 222 | 47 => 223 | 48 => 224 | 49 => 225 | 50 => 226 | 57 => 246 | n => n, fun | 22 => 38 | 24 => 83 | 25 => 179 | 3 => 3 | 39 => 193 | 0 => 0 | 53 => 238 | 55 => 240 | 4 => 4 | 46 => 232 | 45 => 231 | 50 => 209 | 5 => 5 | 9 => 9 | 66 => 271 | 70 => 275 | 76 => 285 | 77 => 252 | n => n, fun | n => n⟩
theorem Tryz.laysSort95 : Go.Proofs.SlLaysF0.n6 Tryz.prog Tryz.laysSort95_ren := {
  mixed := by kernel_rfl
  f6 := ⟨Tryz.f95.name, by decide, Tryz.func95.trans (congrArg some (by kernel_rfl))⟩
  f14 := ⟨Tryz.f141.name, by decide, Tryz.func141.trans (congrArg some (by kernel_rfl))⟩
  f15 := Tryz.func142.trans (congrArg some (by kernel_rfl))
  f20 := ⟨Tryz.f175.name, by decide, Tryz.func175.trans (congrArg some (by kernel_rfl))⟩
  f21 := ⟨Tryz.f176.name, by decide, Tryz.func176.trans (congrArg some (by kernel_rfl))⟩
  f22 := ⟨Tryz.f177.name, by decide, Tryz.func177.trans (congrArg some (by kernel_rfl))⟩
  f23 := ⟨Tryz.f178.name, by decide, Tryz.func178.trans (congrArg some (by kernel_rfl))⟩
  f24 := ⟨Tryz.f179.name, by decide, Tryz.func179.trans (congrArg some (by kernel_rfl))⟩
  f25 := ⟨Tryz.f180.name, by decide, Tryz.func180.trans (congrArg some (by kernel_rfl))⟩
  f26 := ⟨Tryz.f181.name, by decide, Tryz.func181.trans (congrArg some (by kernel_rfl))⟩
  f27 := ⟨Tryz.f182.name, by decide, Tryz.func182.trans (congrArg some (by kernel_rfl))⟩
  f28 := Tryz.func183.trans (congrArg some (by kernel_rfl))
  f29 := Tryz.func184.trans (congrArg some (by kernel_rfl))
  f46 := ⟨Tryz.f222.name, by decide, Tryz.func222.trans (congrArg some (by kernel_rfl))⟩
  f47 := Tryz.func223.trans (congrArg some (by kernel_rfl))
  f48 := Tryz.func224.trans (congrArg some (by kernel_rfl))
  f49 := ⟨Tryz.f225.name, by decide, Tryz.func225.trans (congrArg some (by kernel_rfl))⟩
  f50 := ⟨Tryz.f226.name, by decide, Tryz.func226.trans (congrArg some (by kernel_rfl))⟩
  f57 := ⟨Tryz.f246.name, by decide, Tryz.func246.trans (congrArg some (by kernel_rfl))⟩
  t0 := Tryz.underlying0
  a0 := Tryz.isAgg0
  z0 := Tryz.sizeOf0
  v0 := Tryz.zeroValue0
  t3 := Tryz.underlying3
  a3 := Tryz.isAgg3
  z3 := Tryz.sizeOf3
  v3 := Tryz.zeroValue3
  t4 := Tryz.underlying4
  a4 := Tryz.isAgg4
  z4 := Tryz.sizeOf4
  v4 := Tryz.zeroValue4
  t5 := Tryz.underlying5
  a5 := Tryz.isAgg5
  z5 := Tryz.sizeOf5
  v5 := Tryz.zeroValue5
  t9 := Tryz.underlying9
  a9 := Tryz.isAgg9
  z9 := Tryz.sizeOf9
  v9 := Tryz.zeroValue9
  t22 := Tryz.underlying38
  a22 := Tryz.isAgg38
  z22 := Tryz.sizeOf38
  v22 := Tryz.zeroValue38
  t25 := Tryz.underlying179
  a25 := Tryz.isAgg179
  z25 := Tryz.sizeOf179
  v25 := Tryz.zeroValue179
  t39 := Tryz.underlying193
  a39 := Tryz.isAgg193
  z39 := Tryz.sizeOf193
  v39 := Tryz.zeroValue193
  t45 := Tryz.underlying231
  a45 := Tryz.isAgg231
  z45 := Tryz.sizeOf231
  v45 := Tryz.zeroValue231
  t46 := Tryz.underlying232
  a46 := Tryz.isAgg232
  z46 := Tryz.sizeOf232
  v46 := Tryz.zeroValue232
  t50 := Tryz.underlying209
  a50 := Tryz.isAgg209
  z50 := Tryz.sizeOf209
  v50 := Tryz.zeroValue209
  t53 := Tryz.underlying238
  a53 := Tryz.isAgg238
  z53 := Tryz.sizeOf238
  v53 := Tryz.zeroValue238
  t55 := Tryz.underlying240
  a55 := Tryz.isAgg240
  z55 := Tryz.sizeOf240
  v55 := Tryz.zeroValue240
  t66 := Tryz.underlying271
  a66 := Tryz.isAgg271
  z66 := Tryz.sizeOf271
  v66 := Tryz.zeroValue271
  t70 := Tryz.underlying275
  a70 := Tryz.isAgg275
  z70 := Tryz.sizeOf275
  v70 := Tryz.zeroValue275
  t76 := Tryz.underlying285
  a76 := Tryz.isAgg285
  z76 := Tryz.sizeOf285
  v76 := Tryz.zeroValue285
  t77 := Tryz.underlying252
  a77 := Tryz.isAgg252
  z77 := Tryz.sizeOf252
  v77 := Tryz.zeroValue252 }
def Tryz.laysClone80_ren : Go.Shelf.Ren := ⟨fun | 41 => 80 | n => n, fun | 22 => 26 | 23 => 3 | 4 => 4 | n => n, fun | n => n⟩
theorem Tryz.laysClone80 : Go.Proofs.SlLaysE0.n41 Tryz.prog Tryz.laysClone80_ren := {
  mixed := by kernel_rfl
  f41 := ⟨Tryz.f80.name, by decide, Tryz.func80.trans (congrArg some (by kernel_rfl))⟩
  t4 := Tryz.underlying4
  a4 := Tryz.isAgg4
  z4 := Tryz.sizeOf4
  v4 := Tryz.zeroValue4
  t22 := Tryz.underlying26
  a22 := Tryz.isAgg26
  z22 := Tryz.sizeOf26
  v22 := Tryz.zeroValue26 }
def Tryz.laysClone94_ren : Go.Shelf.Ren := ⟨fun | 41 => 94 | n => n, fun | 22 => 38 | 23 => 83 | 4 => 4 | n => n, fun | n => n⟩
theorem Tryz.laysClone94 : Go.Proofs.SlLaysE0.n41 Tryz.prog Tryz.laysClone94_ren := {
  mixed := by kernel_rfl
  f41 := ⟨Tryz.f94.name, by decide, Tryz.func94.trans (congrArg some (by kernel_rfl))⟩
  t4 := Tryz.underlying4
  a4 := Tryz.isAgg4
  z4 := Tryz.sizeOf4
  v4 := Tryz.zeroValue4
  t22 := Tryz.underlying38
  a22 := Tryz.isAgg38
  z22 := Tryz.sizeOf38
  v22 := Tryz.zeroValue38 }
def Tryz.laysClone227_ren : Go.Shelf.Ren := ⟨fun | 41 => 227 | n => n, fun | 22 => 64 | 23 => 74 | 4 => 4 | n => n, fun | n => n⟩
theorem Tryz.laysClone227 : Go.Proofs.SlLaysE0.n41 Tryz.prog Tryz.laysClone227_ren := {
  mixed := by kernel_rfl
  f41 := ⟨Tryz.f227.name, by decide, Tryz.func227.trans (congrArg some (by kernel_rfl))⟩
  t4 := Tryz.underlying4
  a4 := Tryz.isAgg4
  z4 := Tryz.sizeOf4
  v4 := Tryz.zeroValue4
  t22 := Tryz.underlying64
  a22 := Tryz.isAgg64
  z22 := Tryz.sizeOf64
  v22 := Tryz.zeroValue64 }
def Tryz.laysClone247_ren : Go.Shelf.Ren := ⟨fun | 41 => 247 | n => n, fun | 22 => 70 | 23 => 114 | 4 => 4 | n => n, fun | n => n⟩
theorem Tryz.laysClone247 : Go.Proofs.SlLaysE0.n41 Tryz.prog Tryz.laysClone247_ren := {
  mixed := by kernel_rfl
  f41 := ⟨Tryz.f247.name, by decide, Tryz.func247.trans (congrArg some (by kernel_rfl))⟩
  t4 := Tryz.underlying4
  a4 := Tryz.isAgg4
  z4 := Tryz.sizeOf4
  v4 := Tryz.zeroValue4
  t22 := Tryz.underlying70
  a22 := Tryz.isAgg70
  z22 := Tryz.sizeOf70
  v22 := Tryz.zeroValue70 }
end Go.Proofs
