/-
  DERIVED: THE SHELF's CONTRACTS AT THIS DUMP, IN PLAIN WORDS (tools/lay-plain.mjs out of 'YtfkkfaociofkjaaLseTmp.lean', which tools/lay-shelf.mjs wrote): THE SAME DECLARATIONS UNDER THE SAME NAMES: 'import', 'namespace', 'open', 'def', 'theorem' AND NOTHING ELSE: no command of the shelf's: FOR A HAND-IN. Each laying: the table of numbers ('.._ren') and one theorem, a field a fact of the dump's own or the kernel's comparison; each contract: ONE APPLICATION.
-/
import Derived.Shelf.SlSortCmp.WholeK
import Derived.Test.YtfkkfaociofkjaaRows
namespace Go.Proofs
open Go.Shelf
def Try.sortE_ren : Go.Shelf.Ren := ⟨fun | 6 => 66 | 15 => 80 | 14 => 79 | 28 => 97 | 29 => 98 | 20 => 89 | 21 => 90 | 22 => 91 | 23 => 92 | 24 => 93 | 25 => 94 | 26 => 95 | 27 => 96 | 46 => 105 | 47 => 106 | 48 => 107 | 49 => 108 | 50 => 109 | 57 => 118 | n => n, fun | 22 => 46 | 24 => 40 | 25 => 86 | 3 => 3 | 39 => 102 | 0 => 0 | 53 => 117 | 55 => 119 | 4 => 4 | 46 => 111 | 45 => 110 | 50 => 107 | 5 => 5 | 9 => 9 | 66 => 123 | 70 => 127 | 76 => 134 | 77 => 135 | n => n, fun | n => n⟩
theorem Try.sortE : Go.Proofs.SlLaysF0.n6 Try.prog Try.sortE_ren := {
  mixed := by kernel_rfl
  f6 := ⟨Try.f66.name, by decide, Try.func66.trans (congrArg some (by kernel_rfl))⟩
  f14 := ⟨Try.f79.name, by decide, Try.func79.trans (congrArg some (by kernel_rfl))⟩
  f15 := Try.func80.trans (congrArg some (by kernel_rfl))
  f20 := ⟨Try.f89.name, by decide, Try.func89.trans (congrArg some (by kernel_rfl))⟩
  f21 := ⟨Try.f90.name, by decide, Try.func90.trans (congrArg some (by kernel_rfl))⟩
  f22 := ⟨Try.f91.name, by decide, Try.func91.trans (congrArg some (by kernel_rfl))⟩
  f23 := ⟨Try.f92.name, by decide, Try.func92.trans (congrArg some (by kernel_rfl))⟩
  f24 := ⟨Try.f93.name, by decide, Try.func93.trans (congrArg some (by kernel_rfl))⟩
  f25 := ⟨Try.f94.name, by decide, Try.func94.trans (congrArg some (by kernel_rfl))⟩
  f26 := ⟨Try.f95.name, by decide, Try.func95.trans (congrArg some (by kernel_rfl))⟩
  f27 := ⟨Try.f96.name, by decide, Try.func96.trans (congrArg some (by kernel_rfl))⟩
  f28 := Try.func97.trans (congrArg some (by kernel_rfl))
  f29 := Try.func98.trans (congrArg some (by kernel_rfl))
  f46 := ⟨Try.f105.name, by decide, Try.func105.trans (congrArg some (by kernel_rfl))⟩
  f47 := Try.func106.trans (congrArg some (by kernel_rfl))
  f48 := Try.func107.trans (congrArg some (by kernel_rfl))
  f49 := ⟨Try.f108.name, by decide, Try.func108.trans (congrArg some (by kernel_rfl))⟩
  f50 := ⟨Try.f109.name, by decide, Try.func109.trans (congrArg some (by kernel_rfl))⟩
  f57 := ⟨Try.f118.name, by decide, Try.func118.trans (congrArg some (by kernel_rfl))⟩
  t0 := Try.underlying0
  a0 := Try.isAgg0
  z0 := Try.sizeOf0
  v0 := Try.zeroValue0
  t3 := Try.underlying3
  a3 := Try.isAgg3
  z3 := Try.sizeOf3
  v3 := Try.zeroValue3
  t4 := Try.underlying4
  a4 := Try.isAgg4
  z4 := Try.sizeOf4
  v4 := Try.zeroValue4
  t5 := Try.underlying5
  a5 := Try.isAgg5
  z5 := Try.sizeOf5
  v5 := Try.zeroValue5
  t9 := Try.underlying9
  a9 := Try.isAgg9
  z9 := Try.sizeOf9
  v9 := Try.zeroValue9
  t22 := Try.underlying46
  a22 := Try.isAgg46
  z22 := Try.sizeOf46
  v22 := Try.zeroValue46
  t25 := Try.underlying86
  a25 := Try.isAgg86
  z25 := Try.sizeOf86
  v25 := Try.zeroValue86
  t39 := Try.underlying102
  a39 := Try.isAgg102
  z39 := Try.sizeOf102
  v39 := Try.zeroValue102
  t45 := Try.underlying110
  a45 := Try.isAgg110
  z45 := Try.sizeOf110
  v45 := Try.zeroValue110
  t46 := Try.underlying111
  a46 := Try.isAgg111
  z46 := Try.sizeOf111
  v46 := Try.zeroValue111
  t50 := Try.underlying107
  a50 := Try.isAgg107
  z50 := Try.sizeOf107
  v50 := Try.zeroValue107
  t53 := Try.underlying117
  a53 := Try.isAgg117
  z53 := Try.sizeOf117
  v53 := Try.zeroValue117
  t55 := Try.underlying119
  a55 := Try.isAgg119
  z55 := Try.sizeOf119
  v55 := Try.zeroValue119
  t66 := Try.underlying123
  a66 := Try.isAgg123
  z66 := Try.sizeOf123
  v66 := Try.zeroValue123
  t70 := Try.underlying127
  a70 := Try.isAgg127
  z70 := Try.sizeOf127
  v70 := Try.zeroValue127
  t76 := Try.underlying134
  a76 := Try.isAgg134
  z76 := Try.sizeOf134
  v76 := Try.zeroValue134
  t77 := Try.underlying135
  a77 := Try.isAgg135
  z77 := Try.sizeOf135
  v77 := Try.zeroValue135 }
end Go.Proofs
