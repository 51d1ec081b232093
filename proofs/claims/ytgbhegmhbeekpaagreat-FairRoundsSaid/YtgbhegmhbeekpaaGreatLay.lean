/-
  The sort's functions of this cut, laid beside the library's (written by the kit's lay-plain.mjs).
-/
import Derived.Test.YtgbhegmhbeekpaaGreatProg
import Derived.Shelf.SlSortCmp.NoneTotal
import Derived.Ground.SlsfProg
namespace Go.Proofs
open Go.Shelf
def Tryz.sortMsg_ren : Go.Shelf.Ren := ⟨fun | 6 => 97 | 15 => 127 | 14 => 126 | 28 => 173 | 29 => 174 | 20 => 165 | 21 => 166 | 22 => 167 | 23 => 168 | 24 => 169 | 25 => 170 | 26 => 171 | 27 => 172 | 46 => 227 | 47 => 228 | 48 => 229 | 49 => 230 | 50 => 231 | 57 => 269 | n => n, fun | 22 => 65 | 24 => 131 | 25 => 151 | 3 => 3 | 39 => 180 | 0 => 0 | 53 => 228 | 55 => 230 | 4 => 4 | 46 => 221 | 45 => 220 | 50 => 225 | 5 => 5 | 9 => 9 | 66 => 265 | 70 => 269 | 76 => 289 | 77 => 290 | n => n, fun | n => n⟩
theorem Tryz.sortMsg : Go.Proofs.SlLaysF0.n6 Tryz.prog Tryz.sortMsg_ren := {
  mixed := by kernel_rfl
  f6 := ⟨Tryz.f97.name, by decide, Tryz.func97.trans (congrArg some (by kernel_rfl))⟩
  f14 := ⟨Tryz.f126.name, by decide, Tryz.func126.trans (congrArg some (by kernel_rfl))⟩
  f15 := Tryz.func127.trans (congrArg some (by kernel_rfl))
  f20 := ⟨Tryz.f165.name, by decide, Tryz.func165.trans (congrArg some (by kernel_rfl))⟩
  f21 := ⟨Tryz.f166.name, by decide, Tryz.func166.trans (congrArg some (by kernel_rfl))⟩
  f22 := ⟨Tryz.f167.name, by decide, Tryz.func167.trans (congrArg some (by kernel_rfl))⟩
  f23 := ⟨Tryz.f168.name, by decide, Tryz.func168.trans (congrArg some (by kernel_rfl))⟩
  f24 := ⟨Tryz.f169.name, by decide, Tryz.func169.trans (congrArg some (by kernel_rfl))⟩
  f25 := ⟨Tryz.f170.name, by decide, Tryz.func170.trans (congrArg some (by kernel_rfl))⟩
  f26 := ⟨Tryz.f171.name, by decide, Tryz.func171.trans (congrArg some (by kernel_rfl))⟩
  f27 := ⟨Tryz.f172.name, by decide, Tryz.func172.trans (congrArg some (by kernel_rfl))⟩
  f28 := Tryz.func173.trans (congrArg some (by kernel_rfl))
  f29 := Tryz.func174.trans (congrArg some (by kernel_rfl))
  f46 := ⟨Tryz.f227.name, by decide, Tryz.func227.trans (congrArg some (by kernel_rfl))⟩
  f47 := Tryz.func228.trans (congrArg some (by kernel_rfl))
  f48 := Tryz.func229.trans (congrArg some (by kernel_rfl))
  f49 := ⟨Tryz.f230.name, by decide, Tryz.func230.trans (congrArg some (by kernel_rfl))⟩
  f50 := ⟨Tryz.f231.name, by decide, Tryz.func231.trans (congrArg some (by kernel_rfl))⟩
  f57 := ⟨Tryz.f269.name, by decide, Tryz.func269.trans (congrArg some (by kernel_rfl))⟩
  t0 := Tryz.underlying0
  a0 := Tryz.isAgg0
  z0 := Tryz.sizeOf0
  v0 := Tryz.zeroValue0
  t3 := Tryz.underlying3
  a3 := Tryz.isAgg3
  z3 := Tryz.sizeOf3
  v3 := Tryz.zeroValue3
  t4 := Tryz.underlying4
  a4 := Tryz.isAgg4
  z4 := Tryz.sizeOf4
  v4 := Tryz.zeroValue4
  t5 := Tryz.underlying5
  a5 := Tryz.isAgg5
  z5 := Tryz.sizeOf5
  v5 := Tryz.zeroValue5
  t9 := Tryz.underlying9
  a9 := Tryz.isAgg9
  z9 := Tryz.sizeOf9
  v9 := Tryz.zeroValue9
  t22 := Tryz.underlying65
  a22 := Tryz.isAgg65
  z22 := Tryz.sizeOf65
  v22 := Tryz.zeroValue65
  t25 := Tryz.underlying151
  a25 := Tryz.isAgg151
  z25 := Tryz.sizeOf151
  v25 := Tryz.zeroValue151
  t39 := Tryz.underlying180
  a39 := Tryz.isAgg180
  z39 := Tryz.sizeOf180
  v39 := Tryz.zeroValue180
  t45 := Tryz.underlying220
  a45 := Tryz.isAgg220
  z45 := Tryz.sizeOf220
  v45 := Tryz.zeroValue220
  t46 := Tryz.underlying221
  a46 := Tryz.isAgg221
  z46 := Tryz.sizeOf221
  v46 := Tryz.zeroValue221
  t50 := Tryz.underlying225
  a50 := Tryz.isAgg225
  z50 := Tryz.sizeOf225
  v50 := Tryz.zeroValue225
  t53 := Tryz.underlying228
  a53 := Tryz.isAgg228
  z53 := Tryz.sizeOf228
  v53 := Tryz.zeroValue228
  t55 := Tryz.underlying230
  a55 := Tryz.isAgg230
  z55 := Tryz.sizeOf230
  v55 := Tryz.zeroValue230
  t66 := Tryz.underlying265
  a66 := Tryz.isAgg265
  z66 := Tryz.sizeOf265
  v66 := Tryz.zeroValue265
  t70 := Tryz.underlying269
  a70 := Tryz.isAgg269
  z70 := Tryz.sizeOf269
  v70 := Tryz.zeroValue269
  t76 := Tryz.underlying289
  a76 := Tryz.isAgg289
  z76 := Tryz.sizeOf289
  v76 := Tryz.zeroValue289
  t77 := Tryz.underlying290
  a77 := Tryz.isAgg290
  z77 := Tryz.sizeOf290
  v77 := Tryz.zeroValue290 }
end Go.Proofs
