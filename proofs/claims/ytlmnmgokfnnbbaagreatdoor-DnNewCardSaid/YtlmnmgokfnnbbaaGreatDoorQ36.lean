/- The parts ShelfS of one proof, one behind the other. -/
import Derived.Ground.MpProg
import Derived.Shelf.SlSortCmp.NoneTotal
import Derived.Shelf.SlSortCmp.Whole1
import Derived.Test.YtlmnmgokfnnbbaaGreatDoorProg

/- Go's library at this seat's numbers, out of the kit's shelf (lay-shelf.mjs, lay-plain.mjs). -/
section
namespace Go.Proofs
open Go.Shelf
def Tryz.sortL_ren : Go.Shelf.Ren := ⟨fun | 6 => 101 | 15 => 137 | 14 => 136 | 28 => 177 | 29 => 178 | 20 => 169 | 21 => 170 | 22 => 171 | 23 => 172 | 24 => 173 | 25 => 174 | 26 => 175 | 27 => 176 | 46 => 206 | 47 => 207 | 48 => 208 | 49 => 209 | 50 => 210 | 57 => 232 | n => n, fun | 22 => 74 | 24 => 33 | 25 => 124 | 3 => 3 | 39 => 100 | 0 => 0 | 53 => 143 | 55 => 148 | 4 => 4 | 46 => 202 | 45 => 201 | 50 => 206 | 5 => 5 | 9 => 9 | 66 => 228 | 70 => 232 | 76 => 253 | 77 => 254 | n => n, fun | n => n⟩
theorem Tryz.sortL : Go.Proofs.SlLaysF.n6 Tryz.prog Tryz.sortL_ren := {
  mixed := by kernel_rfl
  f6 := ⟨Tryz.f101.name, by decide, Tryz.func101.trans (congrArg some (by kernel_rfl))⟩
  f14 := ⟨Tryz.f136.name, by decide, Tryz.func136.trans (congrArg some (by kernel_rfl))⟩
  f15 := Tryz.func137.trans (congrArg some (by kernel_rfl))
  f20 := ⟨Tryz.f169.name, by decide, Tryz.func169.trans (congrArg some (by kernel_rfl))⟩
  f21 := ⟨Tryz.f170.name, by decide, Tryz.func170.trans (congrArg some (by kernel_rfl))⟩
  f22 := ⟨Tryz.f171.name, by decide, Tryz.func171.trans (congrArg some (by kernel_rfl))⟩
  f23 := ⟨Tryz.f172.name, by decide, Tryz.func172.trans (congrArg some (by kernel_rfl))⟩
  f24 := ⟨Tryz.f173.name, by decide, Tryz.func173.trans (congrArg some (by kernel_rfl))⟩
  f25 := ⟨Tryz.f174.name, by decide, Tryz.func174.trans (congrArg some (by kernel_rfl))⟩
  f26 := ⟨Tryz.f175.name, by decide, Tryz.func175.trans (congrArg some (by kernel_rfl))⟩
  f27 := ⟨Tryz.f176.name, by decide, Tryz.func176.trans (congrArg some (by kernel_rfl))⟩
  f28 := Tryz.func177.trans (congrArg some (by kernel_rfl))
  f29 := Tryz.func178.trans (congrArg some (by kernel_rfl))
  f46 := ⟨Tryz.f206.name, by decide, Tryz.func206.trans (congrArg some (by kernel_rfl))⟩
  f47 := Tryz.func207.trans (congrArg some (by kernel_rfl))
  f48 := Tryz.func208.trans (congrArg some (by kernel_rfl))
  f49 := ⟨Tryz.f209.name, by decide, Tryz.func209.trans (congrArg some (by kernel_rfl))⟩
  f50 := ⟨Tryz.f210.name, by decide, Tryz.func210.trans (congrArg some (by kernel_rfl))⟩
  f57 := ⟨Tryz.f232.name, by decide, Tryz.func232.trans (congrArg some (by kernel_rfl))⟩
  t0 := Tryz.underlying0
  a0 := Tryz.isAgg0
  z0 := Tryz.sizeOf0
  v0 := Tryz.zeroValue0
  t3 := Tryz.underlying3
  a3 := Tryz.isAgg3
  z3 := Tryz.sizeOf3
  v3 := Tryz.zeroValue3
  t4 := Tryz.underlying4
  a4 := Tryz.isAgg4
  z4 := Tryz.sizeOf4
  v4 := Tryz.zeroValue4
  t5 := Tryz.underlying5
  a5 := Tryz.isAgg5
  z5 := Tryz.sizeOf5
  v5 := Tryz.zeroValue5
  t9 := Tryz.underlying9
  a9 := Tryz.isAgg9
  z9 := Tryz.sizeOf9
  v9 := Tryz.zeroValue9
  t22 := Tryz.underlying74
  a22 := Tryz.isAgg74
  z22 := Tryz.sizeOf74
  v22 := Tryz.zeroValue74
  a24 := Tryz.isAgg33
  z24 := Tryz.sizeOf33
  t25 := Tryz.underlying124
  a25 := Tryz.isAgg124
  z25 := Tryz.sizeOf124
  v25 := Tryz.zeroValue124
  t39 := Tryz.underlying100
  a39 := Tryz.isAgg100
  z39 := Tryz.sizeOf100
  v39 := Tryz.zeroValue100
  t45 := Tryz.underlying201
  a45 := Tryz.isAgg201
  z45 := Tryz.sizeOf201
  v45 := Tryz.zeroValue201
  t46 := Tryz.underlying202
  a46 := Tryz.isAgg202
  z46 := Tryz.sizeOf202
  v46 := Tryz.zeroValue202
  t50 := Tryz.underlying206
  a50 := Tryz.isAgg206
  z50 := Tryz.sizeOf206
  v50 := Tryz.zeroValue206
  t53 := Tryz.underlying143
  a53 := Tryz.isAgg143
  z53 := Tryz.sizeOf143
  v53 := Tryz.zeroValue143
  t55 := Tryz.underlying148
  a55 := Tryz.isAgg148
  z55 := Tryz.sizeOf148
  v55 := Tryz.zeroValue148
  t66 := Tryz.underlying228
  a66 := Tryz.isAgg228
  z66 := Tryz.sizeOf228
  v66 := Tryz.zeroValue228
  t70 := Tryz.underlying232
  a70 := Tryz.isAgg232
  z70 := Tryz.sizeOf232
  v70 := Tryz.zeroValue232
  t76 := Tryz.underlying253
  a76 := Tryz.isAgg253
  z76 := Tryz.sizeOf253
  v76 := Tryz.zeroValue253
  t77 := Tryz.underlying254
  a77 := Tryz.isAgg254
  z77 := Tryz.sizeOf254
  v77 := Tryz.zeroValue254 }
end Go.Proofs
end
