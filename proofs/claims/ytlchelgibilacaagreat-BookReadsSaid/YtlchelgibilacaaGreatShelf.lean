/-
  DERIVED: THE SHELF's CONTRACTS AT THIS DUMP, IN PLAIN WORDS (tools/lay-plain.mjs out of 'TryzShelf.lean', which tools/lay-shelf.mjs wrote): THE SAME DECLARATIONS UNDER THE SAME NAMES: 'import', 'namespace', 'open', 'def', 'theorem' AND NOTHING ELSE: no command of the shelf's: FOR A HAND-IN. Each laying: the table of numbers ('.._ren') and one theorem, a field a fact of the dump's own or the kernel's comparison; each contract: ONE APPLICATION.
-/
import Derived.Shelf.SlSortCmp.WholeK
import Derived.Shelf.SlSortCmp.NoneTotal
import Derived.Ground.SlsfProg
import Derived.Test.YtlchelgibilacaaGreatProg
namespace Go.Proofs
open Go.Shelf
def Tryz.sortLn_ren : Go.Shelf.Ren := ⟨fun | 6 => 63 | 15 => 58 | 14 => 80 | 28 => 76 | 29 => 77 | 20 => 94 | 21 => 95 | 22 => 96 | 23 => 97 | 24 => 98 | 25 => 99 | 26 => 100 | 27 => 101 | 46 => 104 | 47 => 87 | 48 => 88 | 49 => 105 | 50 => 106 | 57 => 107 | n => n, fun | 22 => 32 | 24 => 43 | 25 => 84 | 3 => 3 | 39 => 82 | 0 => 0 | 53 => 96 | 55 => 98 | 4 => 4 | 46 => 88 | 45 => 87 | 50 => 93 | 5 => 5 | 9 => 9 | 66 => 104 | 70 => 108 | 76 => 115 | 77 => 116 | n => n, fun | n => n⟩
theorem Tryz.sortLn : Go.Proofs.SlLaysF0.n6 Tryz.prog Tryz.sortLn_ren := {
  mixed := by kernel_rfl
  f6 := ⟨Tryz.f63.name, by decide, Tryz.func63.trans (congrArg some (by kernel_rfl))⟩
  f14 := ⟨Tryz.f80.name, by decide, Tryz.func80.trans (congrArg some (by kernel_rfl))⟩
  f15 := Tryz.func58.trans (congrArg some (by kernel_rfl))
  f20 := ⟨Tryz.f94.name, by decide, Tryz.func94.trans (congrArg some (by kernel_rfl))⟩
  f21 := ⟨Tryz.f95.name, by decide, Tryz.func95.trans (congrArg some (by kernel_rfl))⟩
  f22 := ⟨Tryz.f96.name, by decide, Tryz.func96.trans (congrArg some (by kernel_rfl))⟩
  f23 := ⟨Tryz.f97.name, by decide, Tryz.func97.trans (congrArg some (by kernel_rfl))⟩
  f24 := ⟨Tryz.f98.name, by decide, Tryz.func98.trans (congrArg some (by kernel_rfl))⟩
  f25 := ⟨Tryz.f99.name, by decide, Tryz.func99.trans (congrArg some (by kernel_rfl))⟩
  f26 := ⟨Tryz.f100.name, by decide, Tryz.func100.trans (congrArg some (by kernel_rfl))⟩
  f27 := ⟨Tryz.f101.name, by decide, Tryz.func101.trans (congrArg some (by kernel_rfl))⟩
  f28 := Tryz.func76.trans (congrArg some (by kernel_rfl))
  f29 := Tryz.func77.trans (congrArg some (by kernel_rfl))
  f46 := ⟨Tryz.f104.name, by decide, Tryz.func104.trans (congrArg some (by kernel_rfl))⟩
  f47 := Tryz.func87.trans (congrArg some (by kernel_rfl))
  f48 := Tryz.func88.trans (congrArg some (by kernel_rfl))
  f49 := ⟨Tryz.f105.name, by decide, Tryz.func105.trans (congrArg some (by kernel_rfl))⟩
  f50 := ⟨Tryz.f106.name, by decide, Tryz.func106.trans (congrArg some (by kernel_rfl))⟩
  f57 := ⟨Tryz.f107.name, by decide, Tryz.func107.trans (congrArg some (by kernel_rfl))⟩
  t0 := Tryz.underlying0
  a0 := Tryz.isAgg0
  z0 := Tryz.sizeOf0
  v0 := Tryz.zeroValue0
  t3 := Tryz.underlying3
  a3 := Tryz.isAgg3
  z3 := Tryz.sizeOf3
  v3 := Tryz.zeroValue3
  t4 := Tryz.underlying4
  a4 := Tryz.isAgg4
  z4 := Tryz.sizeOf4
  v4 := Tryz.zeroValue4
  t5 := Tryz.underlying5
  a5 := Tryz.isAgg5
  z5 := Tryz.sizeOf5
  v5 := Tryz.zeroValue5
  t9 := Tryz.underlying9
  a9 := Tryz.isAgg9
  z9 := Tryz.sizeOf9
  v9 := Tryz.zeroValue9
  t22 := Tryz.underlying32
  a22 := Tryz.isAgg32
  z22 := Tryz.sizeOf32
  v22 := Tryz.zeroValue32
  t25 := Tryz.underlying84
  a25 := Tryz.isAgg84
  z25 := Tryz.sizeOf84
  v25 := Tryz.zeroValue84
  t39 := Tryz.underlying82
  a39 := Tryz.isAgg82
  z39 := Tryz.sizeOf82
  v39 := Tryz.zeroValue82
  t45 := Tryz.underlying87
  a45 := Tryz.isAgg87
  z45 := Tryz.sizeOf87
  v45 := Tryz.zeroValue87
  t46 := Tryz.underlying88
  a46 := Tryz.isAgg88
  z46 := Tryz.sizeOf88
  v46 := Tryz.zeroValue88
  t50 := Tryz.underlying93
  a50 := Tryz.isAgg93
  z50 := Tryz.sizeOf93
  v50 := Tryz.zeroValue93
  t53 := Tryz.underlying96
  a53 := Tryz.isAgg96
  z53 := Tryz.sizeOf96
  v53 := Tryz.zeroValue96
  t55 := Tryz.underlying98
  a55 := Tryz.isAgg98
  z55 := Tryz.sizeOf98
  v55 := Tryz.zeroValue98
  t66 := Tryz.underlying104
  a66 := Tryz.isAgg104
  z66 := Tryz.sizeOf104
  v66 := Tryz.zeroValue104
  t70 := Tryz.underlying108
  a70 := Tryz.isAgg108
  z70 := Tryz.sizeOf108
  v70 := Tryz.zeroValue108
  t76 := Tryz.underlying115
  a76 := Tryz.isAgg115
  z76 := Tryz.sizeOf115
  v76 := Tryz.zeroValue115
  t77 := Tryz.underlying116
  a77 := Tryz.isAgg116
  z77 := Tryz.sizeOf116
  v77 := Tryz.zeroValue116 }
end Go.Proofs
