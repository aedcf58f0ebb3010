/-
  DERIVED: THE SHELF's CONTRACTS AT THIS DUMP, IN PLAIN WORDS (tools/lay-plain.mjs out of 'TrySort.lean', which tools/lay-shelf.mjs wrote): THE SAME DECLARATIONS UNDER THE SAME NAMES: 'import', 'namespace', 'open', 'def', 'theorem' AND NOTHING ELSE: no command of the shelf's: FOR A HAND-IN. Each laying: the table of numbers ('.._ren') and one theorem, a field a fact of the dump's own or the kernel's comparison; each contract: ONE APPLICATION.
-/
import Derived.Shelf.SlSortCmp.Whole1
import Derived.Shelf.SlSortCmp.NoneTotal
import Derived.Test.YtecbphbnacbepaaProg
namespace Go.Proofs
open Go.Shelf
def Try.sortL_ren : Go.Shelf.Ren := ⟨fun | 6 => 41 | 15 => 54 | 14 => 53 | 28 => 74 | 29 => 75 | 20 => 66 | 21 => 67 | 22 => 68 | 23 => 69 | 24 => 70 | 25 => 71 | 26 => 72 | 27 => 73 | 46 => 82 | 47 => 83 | 48 => 84 | 49 => 85 | 50 => 86 | 57 => 87 | n => n, fun | 22 => 38 | 24 => 30 | 25 => 51 | 3 => 3 | 39 => 57 | 0 => 0 | 53 => 102 | 55 => 92 | 4 => 4 | 46 => 95 | 45 => 94 | 50 => 99 | 5 => 5 | 9 => 9 | 66 => 112 | 70 => 116 | 76 => 118 | 77 => 119 | n => n, fun | n => n⟩
theorem Try.sortL : Go.Proofs.SlLaysF.n6 Try.prog Try.sortL_ren := {
  mixed := by kernel_rfl
  f6 := ⟨Try.f41.name, by decide, Try.func41.trans (congrArg some (by kernel_rfl))⟩
  f14 := ⟨Try.f53.name, by decide, Try.func53.trans (congrArg some (by kernel_rfl))⟩
  f15 := Try.func54.trans (congrArg some (by kernel_rfl))
  f20 := ⟨Try.f66.name, by decide, Try.func66.trans (congrArg some (by kernel_rfl))⟩
  f21 := ⟨Try.f67.name, by decide, Try.func67.trans (congrArg some (by kernel_rfl))⟩
  f22 := ⟨Try.f68.name, by decide, Try.func68.trans (congrArg some (by kernel_rfl))⟩
  f23 := ⟨Try.f69.name, by decide, Try.func69.trans (congrArg some (by kernel_rfl))⟩
  f24 := ⟨Try.f70.name, by decide, Try.func70.trans (congrArg some (by kernel_rfl))⟩
  f25 := ⟨Try.f71.name, by decide, Try.func71.trans (congrArg some (by kernel_rfl))⟩
  f26 := ⟨Try.f72.name, by decide, Try.func72.trans (congrArg some (by kernel_rfl))⟩
  f27 := ⟨Try.f73.name, by decide, Try.func73.trans (congrArg some (by kernel_rfl))⟩
  f28 := Try.func74.trans (congrArg some (by kernel_rfl))
  f29 := Try.func75.trans (congrArg some (by kernel_rfl))
  f46 := ⟨Try.f82.name, by decide, Try.func82.trans (congrArg some (by kernel_rfl))⟩
  f47 := Try.func83.trans (congrArg some (by kernel_rfl))
  f48 := Try.func84.trans (congrArg some (by kernel_rfl))
  f49 := ⟨Try.f85.name, by decide, Try.func85.trans (congrArg some (by kernel_rfl))⟩
  f50 := ⟨Try.f86.name, by decide, Try.func86.trans (congrArg some (by kernel_rfl))⟩
  f57 := ⟨Try.f87.name, by decide, Try.func87.trans (congrArg some (by kernel_rfl))⟩
  t0 := Try.underlying0
  a0 := Try.isAgg0
  z0 := Try.sizeOf0
  v0 := Try.zeroValue0
  t3 := Try.underlying3
  a3 := Try.isAgg3
  z3 := Try.sizeOf3
  v3 := Try.zeroValue3
  t4 := Try.underlying4
  a4 := Try.isAgg4
  z4 := Try.sizeOf4
  v4 := Try.zeroValue4
  t5 := Try.underlying5
  a5 := Try.isAgg5
  z5 := Try.sizeOf5
  v5 := Try.zeroValue5
  t9 := Try.underlying9
  a9 := Try.isAgg9
  z9 := Try.sizeOf9
  v9 := Try.zeroValue9
  t22 := Try.underlying38
  a22 := Try.isAgg38
  z22 := Try.sizeOf38
  v22 := Try.zeroValue38
  a24 := Try.isAgg30
  z24 := Try.sizeOf30
  t25 := Try.underlying51
  a25 := Try.isAgg51
  z25 := Try.sizeOf51
  v25 := Try.zeroValue51
  t39 := Try.underlying57
  a39 := Try.isAgg57
  z39 := Try.sizeOf57
  v39 := Try.zeroValue57
  t45 := Try.underlying94
  a45 := Try.isAgg94
  z45 := Try.sizeOf94
  v45 := Try.zeroValue94
  t46 := Try.underlying95
  a46 := Try.isAgg95
  z46 := Try.sizeOf95
  v46 := Try.zeroValue95
  t50 := Try.underlying99
  a50 := Try.isAgg99
  z50 := Try.sizeOf99
  v50 := Try.zeroValue99
  t53 := Try.underlying102
  a53 := Try.isAgg102
  z53 := Try.sizeOf102
  v53 := Try.zeroValue102
  t55 := Try.underlying92
  a55 := Try.isAgg92
  z55 := Try.sizeOf92
  v55 := Try.zeroValue92
  t66 := Try.underlying112
  a66 := Try.isAgg112
  z66 := Try.sizeOf112
  v66 := Try.zeroValue112
  t70 := Try.underlying116
  a70 := Try.isAgg116
  z70 := Try.sizeOf116
  v70 := Try.zeroValue116
  t76 := Try.underlying118
  a76 := Try.isAgg118
  z76 := Try.sizeOf118
  v76 := Try.zeroValue118
  t77 := Try.underlying119
  a77 := Try.isAgg119
  z77 := Try.sizeOf119
  v77 := Try.zeroValue119 }
end Go.Proofs
