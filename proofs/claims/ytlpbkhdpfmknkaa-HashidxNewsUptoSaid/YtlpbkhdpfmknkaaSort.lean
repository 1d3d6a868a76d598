/-
  DERIVED: THE SHELF's CONTRACTS AT THIS DUMP, IN PLAIN WORDS (tools/lay-plain.mjs out of 'TrySortA.lean', which tools/lay-shelf.mjs wrote): THE SAME DECLARATIONS UNDER THE SAME NAMES: 'import', 'namespace', 'open', 'def', 'theorem' AND NOTHING ELSE: no command of the shelf's: FOR A HAND-IN. Each laying: the table of numbers ('.._ren') and one theorem, a field a fact of the dump's own or the kernel's comparison; each contract: ONE APPLICATION.
-/
import Derived.Shelf.SlGeneric
import Derived.Ground.SlsfProg
import Derived.Shelf.SlSortCmp.NoneTotal
import Derived.Test.YtlpbkhdpfmknkaaProg
namespace Go.Proofs
open Go.Shelf
def Try.sortRows_ren : Go.Shelf.Ren := ⟨fun | 6 => 21 | 15 => 31 | 14 => 30 | 28 => 43 | 29 => 44 | 20 => 35 | 21 => 36 | 22 => 37 | 23 => 38 | 24 => 39 | 25 => 40 | 26 => 41 | 27 => 42 | 46 => 46 | 47 => 47 | 48 => 48 | 49 => 49 | 50 => 50 | 57 => 51 | n => n, fun | 22 => 36 | 24 => 30 | 25 => 59 | 3 => 3 | 39 => 69 | 0 => 0 | 53 => 79 | 55 => 63 | 4 => 4 | 46 => 73 | 45 => 72 | 50 => 32 | 5 => 5 | 9 => 9 | 66 => 82 | 70 => 86 | 76 => 88 | 77 => 52 | n => n, fun | n => n⟩
theorem Try.sortRows : Go.Proofs.SlLaysF.n6 Try.prog Try.sortRows_ren := {
  mixed := by kernel_rfl
  f6 := ⟨Try.f21.name, by decide, Try.func21.trans (congrArg some (by kernel_rfl))⟩
  f14 := ⟨Try.f30.name, by decide, Try.func30.trans (congrArg some (by kernel_rfl))⟩
  f15 := Try.func31.trans (congrArg some (by kernel_rfl))
  f20 := ⟨Try.f35.name, by decide, Try.func35.trans (congrArg some (by kernel_rfl))⟩
  f21 := ⟨Try.f36.name, by decide, Try.func36.trans (congrArg some (by kernel_rfl))⟩
  f22 := ⟨Try.f37.name, by decide, Try.func37.trans (congrArg some (by kernel_rfl))⟩
  f23 := ⟨Try.f38.name, by decide, Try.func38.trans (congrArg some (by kernel_rfl))⟩
  f24 := ⟨Try.f39.name, by decide, Try.func39.trans (congrArg some (by kernel_rfl))⟩
  f25 := ⟨Try.f40.name, by decide, Try.func40.trans (congrArg some (by kernel_rfl))⟩
  f26 := ⟨Try.f41.name, by decide, Try.func41.trans (congrArg some (by kernel_rfl))⟩
  f27 := ⟨Try.f42.name, by decide, Try.func42.trans (congrArg some (by kernel_rfl))⟩
  f28 := Try.func43.trans (congrArg some (by kernel_rfl))
  f29 := Try.func44.trans (congrArg some (by kernel_rfl))
  f46 := ⟨Try.f46.name, by decide, Try.func46.trans (congrArg some (by kernel_rfl))⟩
  f47 := Try.func47.trans (congrArg some (by kernel_rfl))
  f48 := Try.func48.trans (congrArg some (by kernel_rfl))
  f49 := ⟨Try.f49.name, by decide, Try.func49.trans (congrArg some (by kernel_rfl))⟩
  f50 := ⟨Try.f50.name, by decide, Try.func50.trans (congrArg some (by kernel_rfl))⟩
  f57 := ⟨Try.f51.name, by decide, Try.func51.trans (congrArg some (by kernel_rfl))⟩
  t0 := Try.underlying0
  a0 := Try.isAgg0
  z0 := Try.sizeOf0
  v0 := Try.zeroValue0
  t3 := Try.underlying3
  a3 := Try.isAgg3
  z3 := Try.sizeOf3
  v3 := Try.zeroValue3
  t4 := Try.underlying4
  a4 := Try.isAgg4
  z4 := Try.sizeOf4
  v4 := Try.zeroValue4
  t5 := Try.underlying5
  a5 := Try.isAgg5
  z5 := Try.sizeOf5
  v5 := Try.zeroValue5
  t9 := Try.underlying9
  a9 := Try.isAgg9
  z9 := Try.sizeOf9
  v9 := Try.zeroValue9
  t22 := Try.underlying36
  a22 := Try.isAgg36
  z22 := Try.sizeOf36
  v22 := Try.zeroValue36
  a24 := Try.isAgg30
  z24 := Try.sizeOf30
  t25 := Try.underlying59
  a25 := Try.isAgg59
  z25 := Try.sizeOf59
  v25 := Try.zeroValue59
  t39 := Try.underlying69
  a39 := Try.isAgg69
  z39 := Try.sizeOf69
  v39 := Try.zeroValue69
  t45 := Try.underlying72
  a45 := Try.isAgg72
  z45 := Try.sizeOf72
  v45 := Try.zeroValue72
  t46 := Try.underlying73
  a46 := Try.isAgg73
  z46 := Try.sizeOf73
  v46 := Try.zeroValue73
  t50 := Try.underlying32
  a50 := Try.isAgg32
  z50 := Try.sizeOf32
  v50 := Try.zeroValue32
  t53 := Try.underlying79
  a53 := Try.isAgg79
  z53 := Try.sizeOf79
  v53 := Try.zeroValue79
  t55 := Try.underlying63
  a55 := Try.isAgg63
  z55 := Try.sizeOf63
  v55 := Try.zeroValue63
  t66 := Try.underlying82
  a66 := Try.isAgg82
  z66 := Try.sizeOf82
  v66 := Try.zeroValue82
  t70 := Try.underlying86
  a70 := Try.isAgg86
  z70 := Try.sizeOf86
  v70 := Try.zeroValue86
  t76 := Try.underlying88
  a76 := Try.isAgg88
  z76 := Try.sizeOf88
  v76 := Try.zeroValue88
  t77 := Try.underlying52
  a77 := Try.isAgg52
  z77 := Try.sizeOf52
  v77 := Try.zeroValue52 }
end Go.Proofs
