/-
  DERIVED: THE SHELF's CONTRACTS AT THIS DUMP, IN PLAIN WORDS (tools/lay-plain.mjs out of 'YtnlmbmbalmkiiaaGreatShelf.lean', which tools/lay-shelf.mjs wrote): THE SAME DECLARATIONS UNDER THE SAME NAMES: 'import', 'namespace', 'open', 'def', 'theorem' AND NOTHING ELSE: no command of the shelf's: FOR A HAND-IN. Each laying: the table of numbers ('.._ren') and one theorem, a field a fact of the dump's own or the kernel's comparison; each contract: ONE APPLICATION.
-/
import Derived.Shelf.SlSortCmp.WholeK
import Derived.Test.YtnlmbmbalmkiiaaGreatProg
namespace Go.Proofs
open Go.Shelf
def Tryz.sortSlots_ren : Go.Shelf.Ren := ⟨fun | 6 => 95 | 15 => 134 | 14 => 133 | 28 => 148 | 29 => 149 | 20 => 140 | 21 => 141 | 22 => 142 | 23 => 143 | 24 => 144 | 25 => 145 | 26 => 146 | 27 => 147 | 46 => 152 | 47 => 153 | 48 => 154 | 49 => 155 | 50 => 156 | 57 => 157 | n => n, fun | 22 => 28 | 24 => 69 | 25 => 105 | 3 => 3 | 39 => 30 | 0 => 0 | 53 => 33 | 55 => 27 | 4 => 4 | 46 => 169 | 45 => 168 | 50 => 173 | 5 => 5 | 9 => 9 | 66 => 178 | 70 => 181 | 76 => 183 | 77 => 184 | n => n, fun | n => n⟩
theorem Tryz.sortSlots : Go.Proofs.SlLaysF0.n6 Tryz.prog Tryz.sortSlots_ren := {
  mixed := by kernel_rfl
  f6 := ⟨Tryz.f95.name, by decide, Tryz.func95.trans (congrArg some (by kernel_rfl))⟩
  f14 := ⟨Tryz.f133.name, by decide, Tryz.func133.trans (congrArg some (by kernel_rfl))⟩
  f15 := Tryz.func134.trans (congrArg some (by kernel_rfl))
  f20 := ⟨Tryz.f140.name, by decide, Tryz.func140.trans (congrArg some (by kernel_rfl))⟩
  f21 := ⟨Tryz.f141.name, by decide, Tryz.func141.trans (congrArg some (by kernel_rfl))⟩
  f22 := ⟨Tryz.f142.name, by decide, Tryz.func142.trans (congrArg some (by kernel_rfl))⟩
  f23 := ⟨Tryz.f143.name, by decide, Tryz.func143.trans (congrArg some (by kernel_rfl))⟩
  f24 := ⟨Tryz.f144.name, by decide, Tryz.func144.trans (congrArg some (by kernel_rfl))⟩
  f25 := ⟨Tryz.f145.name, by decide, Tryz.func145.trans (congrArg some (by kernel_rfl))⟩
  f26 := ⟨Tryz.f146.name, by decide, Tryz.func146.trans (congrArg some (by kernel_rfl))⟩
  f27 := ⟨Tryz.f147.name, by decide, Tryz.func147.trans (congrArg some (by kernel_rfl))⟩
  f28 := Tryz.func148.trans (congrArg some (by kernel_rfl))
  f29 := Tryz.func149.trans (congrArg some (by kernel_rfl))
  f46 := ⟨Tryz.f152.name, by decide, Tryz.func152.trans (congrArg some (by kernel_rfl))⟩
  f47 := Tryz.func153.trans (congrArg some (by kernel_rfl))
  f48 := Tryz.func154.trans (congrArg some (by kernel_rfl))
  f49 := ⟨Tryz.f155.name, by decide, Tryz.func155.trans (congrArg some (by kernel_rfl))⟩
  f50 := ⟨Tryz.f156.name, by decide, Tryz.func156.trans (congrArg some (by kernel_rfl))⟩
  f57 := ⟨Tryz.f157.name, by decide, Tryz.func157.trans (congrArg some (by kernel_rfl))⟩
  t0 := Tryz.underlying0
  a0 := Tryz.isAgg0
  z0 := Tryz.sizeOf0
  v0 := Tryz.zeroValue0
  t3 := Tryz.underlying3
  a3 := Tryz.isAgg3
  z3 := Tryz.sizeOf3
  v3 := Tryz.zeroValue3
  t4 := Tryz.underlying4
  a4 := Tryz.isAgg4
  z4 := Tryz.sizeOf4
  v4 := Tryz.zeroValue4
  t5 := Tryz.underlying5
  a5 := Tryz.isAgg5
  z5 := Tryz.sizeOf5
  v5 := Tryz.zeroValue5
  t9 := Tryz.underlying9
  a9 := Tryz.isAgg9
  z9 := Tryz.sizeOf9
  v9 := Tryz.zeroValue9
  t22 := Tryz.underlying28
  a22 := Tryz.isAgg28
  z22 := Tryz.sizeOf28
  v22 := Tryz.zeroValue28
  t25 := Tryz.underlying105
  a25 := Tryz.isAgg105
  z25 := Tryz.sizeOf105
  v25 := Tryz.zeroValue105
  t39 := Tryz.underlying30
  a39 := Tryz.isAgg30
  z39 := Tryz.sizeOf30
  v39 := Tryz.zeroValue30
  t45 := Tryz.underlying168
  a45 := Tryz.isAgg168
  z45 := Tryz.sizeOf168
  v45 := Tryz.zeroValue168
  t46 := Tryz.underlying169
  a46 := Tryz.isAgg169
  z46 := Tryz.sizeOf169
  v46 := Tryz.zeroValue169
  t50 := Tryz.underlying173
  a50 := Tryz.isAgg173
  z50 := Tryz.sizeOf173
  v50 := Tryz.zeroValue173
  t53 := Tryz.underlying33
  a53 := Tryz.isAgg33
  z53 := Tryz.sizeOf33
  v53 := Tryz.zeroValue33
  t55 := Tryz.underlying27
  a55 := Tryz.isAgg27
  z55 := Tryz.sizeOf27
  v55 := Tryz.zeroValue27
  t66 := Tryz.underlying178
  a66 := Tryz.isAgg178
  z66 := Tryz.sizeOf178
  v66 := Tryz.zeroValue178
  t70 := Tryz.underlying181
  a70 := Tryz.isAgg181
  z70 := Tryz.sizeOf181
  v70 := Tryz.zeroValue181
  t76 := Tryz.underlying183
  a76 := Tryz.isAgg183
  z76 := Tryz.sizeOf183
  v76 := Tryz.zeroValue183
  t77 := Tryz.underlying184
  a77 := Tryz.isAgg184
  z77 := Tryz.sizeOf184
  v77 := Tryz.zeroValue184 }
end Go.Proofs
