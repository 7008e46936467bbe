/- The layings of library contracts that this claim takes (written by the kit's lay-shelf and lay-plain). -/
import Derived.Shelf.SlSortCmp.WholeK
import Derived.Shelf.SlLaysE0
import Derived.Test.YtmmgjlgoggielaaGreatProg



namespace Go.Proofs
open Go.Shelf
def Tryz.laysSort79_ren : Go.Shelf.Ren := ⟨fun | 6 => 79 | 15 => 136 | 14 => 152 | 28 => 216 | 29 => 217 | 20 => 231 | 21 => 232 | 22 => 233 | 23 => 234 | 24 => 235 | 25 => 236 | 26 => 237 | 27 => 238 | 46 => 303 | 47 => 294 | 48 => 295 | 49 => 304 | 50 => 305 | 57 => 348 | n => n, fun | 22 => 42 | 24 => 66 | 25 => 95 | 3 => 3 | 39 => 221 | 0 => 0 | 53 => 278 | 55 => 280 | 4 => 4 | 46 => 271 | 45 => 270 | 50 => 275 | 5 => 5 | 9 => 9 | 66 => 328 | 70 => 332 | 76 => 367 | 77 => 132 | n => n, fun | n => n⟩
theorem Tryz.laysSort79 : Go.Proofs.SlLaysF0.n6 Tryz.prog Tryz.laysSort79_ren := {
  mixed := by kernel_rfl
  f6 := ⟨Tryz.f79.name, by decide, Tryz.func79.trans (congrArg some (by kernel_rfl))⟩
  f14 := ⟨Tryz.f152.name, by decide, Tryz.func152.trans (congrArg some (by kernel_rfl))⟩
  f15 := Tryz.func136.trans (congrArg some (by kernel_rfl))
  f20 := ⟨Tryz.f231.name, by decide, Tryz.func231.trans (congrArg some (by kernel_rfl))⟩
  f21 := ⟨Tryz.f232.name, by decide, Tryz.func232.trans (congrArg some (by kernel_rfl))⟩
  f22 := ⟨Tryz.f233.name, by decide, Tryz.func233.trans (congrArg some (by kernel_rfl))⟩
  f23 := ⟨Tryz.f234.name, by decide, Tryz.func234.trans (congrArg some (by kernel_rfl))⟩
  f24 := ⟨Tryz.f235.name, by decide, Tryz.func235.trans (congrArg some (by kernel_rfl))⟩
  f25 := ⟨Tryz.f236.name, by decide, Tryz.func236.trans (congrArg some (by kernel_rfl))⟩
  f26 := ⟨Tryz.f237.name, by decide, Tryz.func237.trans (congrArg some (by kernel_rfl))⟩
  f27 := ⟨Tryz.f238.name, by decide, Tryz.func238.trans (congrArg some (by kernel_rfl))⟩
  f28 := Tryz.func216.trans (congrArg some (by kernel_rfl))
  f29 := Tryz.func217.trans (congrArg some (by kernel_rfl))
  f46 := ⟨Tryz.f303.name, by decide, Tryz.func303.trans (congrArg some (by kernel_rfl))⟩
  f47 := Tryz.func294.trans (congrArg some (by kernel_rfl))
  f48 := Tryz.func295.trans (congrArg some (by kernel_rfl))
  f49 := ⟨Tryz.f304.name, by decide, Tryz.func304.trans (congrArg some (by kernel_rfl))⟩
  f50 := ⟨Tryz.f305.name, by decide, Tryz.func305.trans (congrArg some (by kernel_rfl))⟩
  f57 := ⟨Tryz.f348.name, by decide, Tryz.func348.trans (congrArg some (by kernel_rfl))⟩
  t0 := Tryz.underlying0
  a0 := Tryz.isAgg0
  z0 := Tryz.sizeOf0
  v0 := Tryz.zeroValue0
  t3 := Tryz.underlying3
  a3 := Tryz.isAgg3
  z3 := Tryz.sizeOf3
  v3 := Tryz.zeroValue3
  t4 := Tryz.underlying4
  a4 := Tryz.isAgg4
  z4 := Tryz.sizeOf4
  v4 := Tryz.zeroValue4
  t5 := Tryz.underlying5
  a5 := Tryz.isAgg5
  z5 := Tryz.sizeOf5
  v5 := Tryz.zeroValue5
  t9 := Tryz.underlying9
  a9 := Tryz.isAgg9
  z9 := Tryz.sizeOf9
  v9 := Tryz.zeroValue9
  t22 := Tryz.underlying42
  a22 := Tryz.isAgg42
  z22 := Tryz.sizeOf42
  v22 := Tryz.zeroValue42
  t25 := Tryz.underlying95
  a25 := Tryz.isAgg95
  z25 := Tryz.sizeOf95
  v25 := Tryz.zeroValue95
  t39 := Tryz.underlying221
  a39 := Tryz.isAgg221
  z39 := Tryz.sizeOf221
  v39 := Tryz.zeroValue221
  t45 := Tryz.underlying270
  a45 := Tryz.isAgg270
  z45 := Tryz.sizeOf270
  v45 := Tryz.zeroValue270
  t46 := Tryz.underlying271
  a46 := Tryz.isAgg271
  z46 := Tryz.sizeOf271
  v46 := Tryz.zeroValue271
  t50 := Tryz.underlying275
  a50 := Tryz.isAgg275
  z50 := Tryz.sizeOf275
  v50 := Tryz.zeroValue275
  t53 := Tryz.underlying278
  a53 := Tryz.isAgg278
  z53 := Tryz.sizeOf278
  v53 := Tryz.zeroValue278
  t55 := Tryz.underlying280
  a55 := Tryz.isAgg280
  z55 := Tryz.sizeOf280
  v55 := Tryz.zeroValue280
  t66 := Tryz.underlying328
  a66 := Tryz.isAgg328
  z66 := Tryz.sizeOf328
  v66 := Tryz.zeroValue328
  t70 := Tryz.underlying332
  a70 := Tryz.isAgg332
  z70 := Tryz.sizeOf332
  v70 := Tryz.zeroValue332
  t76 := Tryz.underlying367
  a76 := Tryz.isAgg367
  z76 := Tryz.sizeOf367
  v76 := Tryz.zeroValue367
  t77 := Tryz.underlying132
  a77 := Tryz.isAgg132
  z77 := Tryz.sizeOf132
  v77 := Tryz.zeroValue132 }
def Tryz.laysClone107_ren : Go.Shelf.Ren := ⟨fun | 41 => 107 | n => n, fun | 22 => 22 | 23 => 3 | 4 => 4 | n => n, fun | n => n⟩
theorem Tryz.laysClone107 : Go.Proofs.SlLaysE0.n41 Tryz.prog Tryz.laysClone107_ren := {
  mixed := by kernel_rfl
  f41 := ⟨Tryz.f107.name, by decide, Tryz.func107.trans (congrArg some (by kernel_rfl))⟩
  t4 := Tryz.underlying4
  a4 := Tryz.isAgg4
  z4 := Tryz.sizeOf4
  v4 := Tryz.zeroValue4
  t22 := Tryz.underlying22
  a22 := Tryz.isAgg22
  z22 := Tryz.sizeOf22
  v22 := Tryz.zeroValue22 }
def Tryz.laysClone182_ren : Go.Shelf.Ren := ⟨fun | 41 => 182 | n => n, fun | 22 => 42 | 23 => 66 | 4 => 4 | n => n, fun | n => n⟩
theorem Tryz.laysClone182 : Go.Proofs.SlLaysE0.n41 Tryz.prog Tryz.laysClone182_ren := {
  mixed := by kernel_rfl
  f41 := ⟨Tryz.f182.name, by decide, Tryz.func182.trans (congrArg some (by kernel_rfl))⟩
  t4 := Tryz.underlying4
  a4 := Tryz.isAgg4
  z4 := Tryz.sizeOf4
  v4 := Tryz.zeroValue4
  t22 := Tryz.underlying42
  a22 := Tryz.isAgg42
  z22 := Tryz.sizeOf42
  v22 := Tryz.zeroValue42 }
def Tryz.laysClone325_ren : Go.Shelf.Ren := ⟨fun | 41 => 325 | n => n, fun | 22 => 114 | 23 => 113 | 4 => 4 | n => n, fun | n => n⟩
theorem Tryz.laysClone325 : Go.Proofs.SlLaysE0.n41 Tryz.prog Tryz.laysClone325_ren := {
  mixed := by kernel_rfl
  f41 := ⟨Tryz.f325.name, by decide, Tryz.func325.trans (congrArg some (by kernel_rfl))⟩
  t4 := Tryz.underlying4
  a4 := Tryz.isAgg4
  z4 := Tryz.sizeOf4
  v4 := Tryz.zeroValue4
  t22 := Tryz.underlying114
  a22 := Tryz.isAgg114
  z22 := Tryz.sizeOf114
  v22 := Tryz.zeroValue114 }
def Tryz.laysClone364_ren : Go.Shelf.Ren := ⟨fun | 41 => 364 | n => n, fun | 22 => 108 | 23 => 184 | 4 => 4 | n => n, fun | n => n⟩
theorem Tryz.laysClone364 : Go.Proofs.SlLaysE0.n41 Tryz.prog Tryz.laysClone364_ren := {
  mixed := by kernel_rfl
  f41 := ⟨Tryz.f364.name, by decide, Tryz.func364.trans (congrArg some (by kernel_rfl))⟩
  t4 := Tryz.underlying4
  a4 := Tryz.isAgg4
  z4 := Tryz.sizeOf4
  v4 := Tryz.zeroValue4
  t22 := Tryz.underlying108
  a22 := Tryz.isAgg108
  z22 := Tryz.sizeOf108
  v22 := Tryz.zeroValue108 }
end Go.Proofs
