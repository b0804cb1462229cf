/-
  DERIVED: THE SHELF's CONTRACTS AT THIS DUMP, IN PLAIN WORDS (tools/lay-plain.mjs out of 'YtdmhaajekmaadaaShelf.lean', which tools/lay-shelf.mjs wrote): THE SAME DECLARATIONS UNDER THE SAME NAMES: 'import', 'namespace', 'open', 'def', 'theorem' AND NOTHING ELSE: no command of the shelf's: FOR A HAND-IN. Each laying: the table of numbers ('.._ren') and one theorem, a field a fact of the dump's own or the kernel's comparison; each contract: ONE APPLICATION.
-/
import Derived.Shelf.SlSortCmp.WholeK
import Derived.Shelf.SlGeneric
import Derived.Ground.SlsfProg
import Derived.Test.YtdmhaajekmaadaaProg
namespace Go.Proofs
open Go.Shelf
def Try.sortV_ren : Go.Shelf.Ren := ⟨fun | 6 => 16 | 15 => 19 | 14 => 18 | 28 => 28 | 29 => 29 | 20 => 20 | 21 => 21 | 22 => 22 | 23 => 23 | 24 => 24 | 25 => 25 | 26 => 26 | 27 => 27 | 46 => 30 | 47 => 31 | 48 => 32 | 49 => 33 | 50 => 34 | 57 => 35 | n => n, fun | 22 => 28 | 24 => 35 | 25 => 53 | 3 => 3 | 39 => 56 | 0 => 0 | 53 => 66 | 55 => 68 | 4 => 4 | 46 => 59 | 45 => 58 | 50 => 63 | 5 => 5 | 9 => 9 | 66 => 69 | 70 => 73 | 76 => 75 | 77 => 76 | n => n, fun | n => n⟩
theorem Try.sortV : Go.Proofs.SlLaysF0.n6 Try.prog Try.sortV_ren := {
  mixed := by kernel_rfl
  f6 := ⟨Try.f16.name, by decide, Try.func16.trans (congrArg some (by kernel_rfl))⟩
  f14 := ⟨Try.f18.name, by decide, Try.func18.trans (congrArg some (by kernel_rfl))⟩
  f15 := Try.func19.trans (congrArg some (by kernel_rfl))
  f20 := ⟨Try.f20.name, by decide, Try.func20.trans (congrArg some (by kernel_rfl))⟩
  f21 := ⟨Try.f21.name, by decide, Try.func21.trans (congrArg some (by kernel_rfl))⟩
  f22 := ⟨Try.f22.name, by decide, Try.func22.trans (congrArg some (by kernel_rfl))⟩
  f23 := ⟨Try.f23.name, by decide, Try.func23.trans (congrArg some (by kernel_rfl))⟩
  f24 := ⟨Try.f24.name, by decide, Try.func24.trans (congrArg some (by kernel_rfl))⟩
  f25 := ⟨Try.f25.name, by decide, Try.func25.trans (congrArg some (by kernel_rfl))⟩
  f26 := ⟨Try.f26.name, by decide, Try.func26.trans (congrArg some (by kernel_rfl))⟩
  f27 := ⟨Try.f27.name, by decide, Try.func27.trans (congrArg some (by kernel_rfl))⟩
  f28 := Try.func28.trans (congrArg some (by kernel_rfl))
  f29 := Try.func29.trans (congrArg some (by kernel_rfl))
  f46 := ⟨Try.f30.name, by decide, Try.func30.trans (congrArg some (by kernel_rfl))⟩
  f47 := Try.func31.trans (congrArg some (by kernel_rfl))
  f48 := Try.func32.trans (congrArg some (by kernel_rfl))
  f49 := ⟨Try.f33.name, by decide, Try.func33.trans (congrArg some (by kernel_rfl))⟩
  f50 := ⟨Try.f34.name, by decide, Try.func34.trans (congrArg some (by kernel_rfl))⟩
  f57 := ⟨Try.f35.name, by decide, Try.func35.trans (congrArg some (by kernel_rfl))⟩
  t0 := Try.underlying0
  a0 := Try.isAgg0
  z0 := Try.sizeOf0
  v0 := Try.zeroValue0
  t3 := Try.underlying3
  a3 := Try.isAgg3
  z3 := Try.sizeOf3
  v3 := Try.zeroValue3
  t4 := Try.underlying4
  a4 := Try.isAgg4
  z4 := Try.sizeOf4
  v4 := Try.zeroValue4
  t5 := Try.underlying5
  a5 := Try.isAgg5
  z5 := Try.sizeOf5
  v5 := Try.zeroValue5
  t9 := Try.underlying9
  a9 := Try.isAgg9
  z9 := Try.sizeOf9
  v9 := Try.zeroValue9
  t22 := Try.underlying28
  a22 := Try.isAgg28
  z22 := Try.sizeOf28
  v22 := Try.zeroValue28
  t25 := Try.underlying53
  a25 := Try.isAgg53
  z25 := Try.sizeOf53
  v25 := Try.zeroValue53
  t39 := Try.underlying56
  a39 := Try.isAgg56
  z39 := Try.sizeOf56
  v39 := Try.zeroValue56
  t45 := Try.underlying58
  a45 := Try.isAgg58
  z45 := Try.sizeOf58
  v45 := Try.zeroValue58
  t46 := Try.underlying59
  a46 := Try.isAgg59
  z46 := Try.sizeOf59
  v46 := Try.zeroValue59
  t50 := Try.underlying63
  a50 := Try.isAgg63
  z50 := Try.sizeOf63
  v50 := Try.zeroValue63
  t53 := Try.underlying66
  a53 := Try.isAgg66
  z53 := Try.sizeOf66
  v53 := Try.zeroValue66
  t55 := Try.underlying68
  a55 := Try.isAgg68
  z55 := Try.sizeOf68
  v55 := Try.zeroValue68
  t66 := Try.underlying69
  a66 := Try.isAgg69
  z66 := Try.sizeOf69
  v66 := Try.zeroValue69
  t70 := Try.underlying73
  a70 := Try.isAgg73
  z70 := Try.sizeOf73
  v70 := Try.zeroValue73
  t76 := Try.underlying75
  a76 := Try.isAgg75
  z76 := Try.sizeOf75
  v76 := Try.zeroValue75
  t77 := Try.underlying76
  a77 := Try.isAgg76
  z77 := Try.sizeOf76
  v77 := Try.zeroValue76 }
end Go.Proofs
