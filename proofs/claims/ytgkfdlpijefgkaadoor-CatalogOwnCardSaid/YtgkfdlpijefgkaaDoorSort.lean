/-
  DERIVED: THE SHELF's CONTRACTS AT THIS DUMP, IN PLAIN WORDS (tools/lay-plain.mjs out of 'TrydSort.lean', which tools/lay-shelf.mjs wrote): THE SAME DECLARATIONS UNDER THE SAME NAMES: 'import', 'namespace', 'open', 'def', 'theorem' AND NOTHING ELSE: no command of the shelf's: FOR A HAND-IN. Each laying: the table of numbers ('.._ren') and one theorem, a field a fact of the dump's own or the kernel's comparison; each contract: ONE APPLICATION.
-/
import Derived.Shelf.SlGeneric
import Derived.Shelf.SlSortCmp.WholeK
import Derived.Shelf.SlSortCmp.NoneTotal
import Derived.Ground.SlsfProg
import Derived.Test.YtgkfdlpijefgkaaDoorProg
set_option linter.unusedVariables false
namespace Go.Proofs
open Go.Shelf
def Tryd.sortV_ren : Go.Shelf.Ren := ⟨fun | 6 => 30 | 15 => 56 | 14 => 55 | 28 => 83 | 29 => 84 | 20 => 75 | 21 => 76 | 22 => 77 | 23 => 78 | 24 => 79 | 25 => 80 | 26 => 81 | 27 => 82 | 46 => 98 | 47 => 99 | 48 => 100 | 49 => 101 | 50 => 102 | 57 => 107 | n => n, fun | 22 => 28 | 24 => 77 | 25 => 79 | 3 => 3 | 39 => 110 | 0 => 0 | 53 => 137 | 55 => 121 | 4 => 4 | 46 => 130 | 45 => 129 | 50 => 134 | 5 => 5 | 9 => 9 | 66 => 150 | 70 => 154 | 76 => 161 | 77 => 162 | n => n, fun | n => n⟩
theorem Tryd.sortV : Go.Proofs.SlLaysF0.n6 Tryd.prog Tryd.sortV_ren := {
  mixed := by kernel_rfl
  f6 := ⟨Tryd.f30.name, by decide, Tryd.func30.trans (congrArg some (by kernel_rfl))⟩
  f14 := ⟨Tryd.f55.name, by decide, Tryd.func55.trans (congrArg some (by kernel_rfl))⟩
  f15 := Tryd.func56.trans (congrArg some (by kernel_rfl))
  f20 := ⟨Tryd.f75.name, by decide, Tryd.func75.trans (congrArg some (by kernel_rfl))⟩
  f21 := ⟨Tryd.f76.name, by decide, Tryd.func76.trans (congrArg some (by kernel_rfl))⟩
  f22 := ⟨Tryd.f77.name, by decide, Tryd.func77.trans (congrArg some (by kernel_rfl))⟩
  f23 := ⟨Tryd.f78.name, by decide, Tryd.func78.trans (congrArg some (by kernel_rfl))⟩
  f24 := ⟨Tryd.f79.name, by decide, Tryd.func79.trans (congrArg some (by kernel_rfl))⟩
  f25 := ⟨Tryd.f80.name, by decide, Tryd.func80.trans (congrArg some (by kernel_rfl))⟩
  f26 := ⟨Tryd.f81.name, by decide, Tryd.func81.trans (congrArg some (by kernel_rfl))⟩
  f27 := ⟨Tryd.f82.name, by decide, Tryd.func82.trans (congrArg some (by kernel_rfl))⟩
  f28 := Tryd.func83.trans (congrArg some (by kernel_rfl))
  f29 := Tryd.func84.trans (congrArg some (by kernel_rfl))
  f46 := ⟨Tryd.f98.name, by decide, Tryd.func98.trans (congrArg some (by kernel_rfl))⟩
  f47 := Tryd.func99.trans (congrArg some (by kernel_rfl))
  f48 := Tryd.func100.trans (congrArg some (by kernel_rfl))
  f49 := ⟨Tryd.f101.name, by decide, Tryd.func101.trans (congrArg some (by kernel_rfl))⟩
  f50 := ⟨Tryd.f102.name, by decide, Tryd.func102.trans (congrArg some (by kernel_rfl))⟩
  f57 := ⟨Tryd.f107.name, by decide, Tryd.func107.trans (congrArg some (by kernel_rfl))⟩
  t0 := Tryd.underlying0
  a0 := Tryd.isAgg0
  z0 := Tryd.sizeOf0
  v0 := Tryd.zeroValue0
  t3 := Tryd.underlying3
  a3 := Tryd.isAgg3
  z3 := Tryd.sizeOf3
  v3 := Tryd.zeroValue3
  t4 := Tryd.underlying4
  a4 := Tryd.isAgg4
  z4 := Tryd.sizeOf4
  v4 := Tryd.zeroValue4
  t5 := Tryd.underlying5
  a5 := Tryd.isAgg5
  z5 := Tryd.sizeOf5
  v5 := Tryd.zeroValue5
  t9 := Tryd.underlying9
  a9 := Tryd.isAgg9
  z9 := Tryd.sizeOf9
  v9 := Tryd.zeroValue9
  t22 := Tryd.underlying28
  a22 := Tryd.isAgg28
  z22 := Tryd.sizeOf28
  v22 := Tryd.zeroValue28
  t25 := Tryd.underlying79
  a25 := Tryd.isAgg79
  z25 := Tryd.sizeOf79
  v25 := Tryd.zeroValue79
  t39 := Tryd.underlying110
  a39 := Tryd.isAgg110
  z39 := Tryd.sizeOf110
  v39 := Tryd.zeroValue110
  t45 := Tryd.underlying129
  a45 := Tryd.isAgg129
  z45 := Tryd.sizeOf129
  v45 := Tryd.zeroValue129
  t46 := Tryd.underlying130
  a46 := Tryd.isAgg130
  z46 := Tryd.sizeOf130
  v46 := Tryd.zeroValue130
  t50 := Tryd.underlying134
  a50 := Tryd.isAgg134
  z50 := Tryd.sizeOf134
  v50 := Tryd.zeroValue134
  t53 := Tryd.underlying137
  a53 := Tryd.isAgg137
  z53 := Tryd.sizeOf137
  v53 := Tryd.zeroValue137
  t55 := Tryd.underlying121
  a55 := Tryd.isAgg121
  z55 := Tryd.sizeOf121
  v55 := Tryd.zeroValue121
  t66 := Tryd.underlying150
  a66 := Tryd.isAgg150
  z66 := Tryd.sizeOf150
  v66 := Tryd.zeroValue150
  t70 := Tryd.underlying154
  a70 := Tryd.isAgg154
  z70 := Tryd.sizeOf154
  v70 := Tryd.zeroValue154
  t76 := Tryd.underlying161
  a76 := Tryd.isAgg161
  z76 := Tryd.sizeOf161
  v76 := Tryd.zeroValue161
  t77 := Tryd.underlying162
  a77 := Tryd.isAgg162
  z77 := Tryd.sizeOf162
  v77 := Tryd.zeroValue162 }
end Go.Proofs
