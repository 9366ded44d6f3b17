/-
  DERIVED: THE SHELF's CONTRACTS AT THIS DUMP, IN PLAIN WORDS (tools/lay-plain.mjs out of 'TrySort.lean', which tools/lay-shelf.mjs wrote): THE SAME DECLARATIONS UNDER THE SAME NAMES: 'import', 'namespace', 'open', 'def', 'theorem' AND NOTHING ELSE: no command of the shelf's: FOR A HAND-IN. Each laying: the table of numbers ('.._ren') and one theorem, a field a fact of the dump's own or the kernel's comparison; each contract: ONE APPLICATION.
-/
import Derived.Shelf.SlGeneric
import Derived.Shelf.SlSortCmp.WholeK
import Derived.Shelf.SlSortCmp.NoneTotal
import Derived.Ground.SlsfProg
import Derived.Test.YtiimomgbklgicaaProg
set_option linter.unusedVariables false
namespace Go.Proofs
open Go.Shelf
def Try.sortV_ren : Go.Shelf.Ren := ⟨fun | 6 => 30 | 15 => 55 | 14 => 54 | 28 => 75 | 29 => 76 | 20 => 67 | 21 => 68 | 22 => 69 | 23 => 70 | 24 => 71 | 25 => 72 | 26 => 73 | 27 => 74 | 46 => 95 | 47 => 96 | 48 => 97 | 49 => 98 | 50 => 99 | 57 => 107 | n => n, fun | 22 => 74 | 24 => 78 | 25 => 88 | 3 => 3 | 39 => 126 | 0 => 0 | 53 => 145 | 55 => 128 | 4 => 4 | 46 => 138 | 45 => 137 | 50 => 142 | 5 => 5 | 9 => 9 | 66 => 165 | 70 => 169 | 76 => 178 | 77 => 179 | n => n, fun | n => n⟩
theorem Try.sortV : Go.Proofs.SlLaysF0.n6 Try.prog Try.sortV_ren := {
  mixed := by kernel_rfl
  f6 := ⟨Try.f30.name, by decide, Try.func30.trans (congrArg some (by kernel_rfl))⟩
  f14 := ⟨Try.f54.name, by decide, Try.func54.trans (congrArg some (by kernel_rfl))⟩
  f15 := Try.func55.trans (congrArg some (by kernel_rfl))
  f20 := ⟨Try.f67.name, by decide, Try.func67.trans (congrArg some (by kernel_rfl))⟩
  f21 := ⟨Try.f68.name, by decide, Try.func68.trans (congrArg some (by kernel_rfl))⟩
  f22 := ⟨Try.f69.name, by decide, Try.func69.trans (congrArg some (by kernel_rfl))⟩
  f23 := ⟨Try.f70.name, by decide, Try.func70.trans (congrArg some (by kernel_rfl))⟩
  f24 := ⟨Try.f71.name, by decide, Try.func71.trans (congrArg some (by kernel_rfl))⟩
  f25 := ⟨Try.f72.name, by decide, Try.func72.trans (congrArg some (by kernel_rfl))⟩
  f26 := ⟨Try.f73.name, by decide, Try.func73.trans (congrArg some (by kernel_rfl))⟩
  f27 := ⟨Try.f74.name, by decide, Try.func74.trans (congrArg some (by kernel_rfl))⟩
  f28 := Try.func75.trans (congrArg some (by kernel_rfl))
  f29 := Try.func76.trans (congrArg some (by kernel_rfl))
  f46 := ⟨Try.f95.name, by decide, Try.func95.trans (congrArg some (by kernel_rfl))⟩
  f47 := Try.func96.trans (congrArg some (by kernel_rfl))
  f48 := Try.func97.trans (congrArg some (by kernel_rfl))
  f49 := ⟨Try.f98.name, by decide, Try.func98.trans (congrArg some (by kernel_rfl))⟩
  f50 := ⟨Try.f99.name, by decide, Try.func99.trans (congrArg some (by kernel_rfl))⟩
  f57 := ⟨Try.f107.name, by decide, Try.func107.trans (congrArg some (by kernel_rfl))⟩
  t0 := Try.underlying0
  a0 := Try.isAgg0
  z0 := Try.sizeOf0
  v0 := Try.zeroValue0
  t3 := Try.underlying3
  a3 := Try.isAgg3
  z3 := Try.sizeOf3
  v3 := Try.zeroValue3
  t4 := Try.underlying4
  a4 := Try.isAgg4
  z4 := Try.sizeOf4
  v4 := Try.zeroValue4
  t5 := Try.underlying5
  a5 := Try.isAgg5
  z5 := Try.sizeOf5
  v5 := Try.zeroValue5
  t9 := Try.underlying9
  a9 := Try.isAgg9
  z9 := Try.sizeOf9
  v9 := Try.zeroValue9
  t22 := Try.underlying74
  a22 := Try.isAgg74
  z22 := Try.sizeOf74
  v22 := Try.zeroValue74
  t25 := Try.underlying88
  a25 := Try.isAgg88
  z25 := Try.sizeOf88
  v25 := Try.zeroValue88
  t39 := Try.underlying126
  a39 := Try.isAgg126
  z39 := Try.sizeOf126
  v39 := Try.zeroValue126
  t45 := Try.underlying137
  a45 := Try.isAgg137
  z45 := Try.sizeOf137
  v45 := Try.zeroValue137
  t46 := Try.underlying138
  a46 := Try.isAgg138
  z46 := Try.sizeOf138
  v46 := Try.zeroValue138
  t50 := Try.underlying142
  a50 := Try.isAgg142
  z50 := Try.sizeOf142
  v50 := Try.zeroValue142
  t53 := Try.underlying145
  a53 := Try.isAgg145
  z53 := Try.sizeOf145
  v53 := Try.zeroValue145
  t55 := Try.underlying128
  a55 := Try.isAgg128
  z55 := Try.sizeOf128
  v55 := Try.zeroValue128
  t66 := Try.underlying165
  a66 := Try.isAgg165
  z66 := Try.sizeOf165
  v66 := Try.zeroValue165
  t70 := Try.underlying169
  a70 := Try.isAgg169
  z70 := Try.sizeOf169
  v70 := Try.zeroValue169
  t76 := Try.underlying178
  a76 := Try.isAgg178
  z76 := Try.sizeOf178
  v76 := Try.zeroValue178
  t77 := Try.underlying179
  a77 := Try.isAgg179
  z77 := Try.sizeOf179
  v77 := Try.zeroValue179 }
end Go.Proofs
