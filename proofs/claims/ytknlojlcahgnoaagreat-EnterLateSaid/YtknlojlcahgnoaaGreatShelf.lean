/-
  DERIVED: THE SHELF's CONTRACTS AT THIS DUMP, IN PLAIN WORDS (tools/lay-plain.mjs out of 'YtknlojlcahgnoaaGreatShelf.lean', which tools/lay-shelf.mjs wrote): THE SAME DECLARATIONS UNDER THE SAME NAMES: 'import', 'namespace', 'open', 'def', 'theorem' AND NOTHING ELSE: no command of the shelf's: FOR A HAND-IN. Each laying: the table of numbers ('.._ren') and one theorem, a field a fact of the dump's own or the kernel's comparison; each contract: ONE APPLICATION.
-/
import Derived.Shelf.SlSortCmp.WholeK
import Derived.Test.YtknlojlcahgnoaaGreatProg
namespace Go.Proofs
open Go.Shelf
def Tryz.sortSlots_ren : Go.Shelf.Ren := ⟨fun | 6 => 164 | 15 => 205 | 14 => 204 | 28 => 224 | 29 => 225 | 20 => 216 | 21 => 217 | 22 => 218 | 23 => 219 | 24 => 220 | 25 => 221 | 26 => 222 | 27 => 223 | 46 => 229 | 47 => 230 | 48 => 231 | 49 => 232 | 50 => 233 | 57 => 234 | n => n, fun | 22 => 118 | 24 => 145 | 25 => 203 | 3 => 3 | 39 => 56 | 0 => 0 | 53 => 61 | 55 => 35 | 4 => 4 | 46 => 289 | 45 => 288 | 50 => 293 | 5 => 5 | 9 => 9 | 66 => 297 | 70 => 300 | 76 => 302 | 77 => 303 | n => n, fun | n => n⟩
theorem Tryz.sortSlots : Go.Proofs.SlLaysF0.n6 Tryz.prog Tryz.sortSlots_ren := {
  mixed := by kernel_rfl
  f6 := ⟨Tryz.f164.name, by decide, Tryz.func164.trans (congrArg some (by kernel_rfl))⟩
  f14 := ⟨Tryz.f204.name, by decide, Tryz.func204.trans (congrArg some (by kernel_rfl))⟩
  f15 := Tryz.func205.trans (congrArg some (by kernel_rfl))
  f20 := ⟨Tryz.f216.name, by decide, Tryz.func216.trans (congrArg some (by kernel_rfl))⟩
  f21 := ⟨Tryz.f217.name, by decide, Tryz.func217.trans (congrArg some (by kernel_rfl))⟩
  f22 := ⟨Tryz.f218.name, by decide, Tryz.func218.trans (congrArg some (by kernel_rfl))⟩
  f23 := ⟨Tryz.f219.name, by decide, Tryz.func219.trans (congrArg some (by kernel_rfl))⟩
  f24 := ⟨Tryz.f220.name, by decide, Tryz.func220.trans (congrArg some (by kernel_rfl))⟩
  f25 := ⟨Tryz.f221.name, by decide, Tryz.func221.trans (congrArg some (by kernel_rfl))⟩
  f26 := ⟨Tryz.f222.name, by decide, Tryz.func222.trans (congrArg some (by kernel_rfl))⟩
  f27 := ⟨Tryz.f223.name, by decide, Tryz.func223.trans (congrArg some (by kernel_rfl))⟩
  f28 := Tryz.func224.trans (congrArg some (by kernel_rfl))
  f29 := Tryz.func225.trans (congrArg some (by kernel_rfl))
  f46 := ⟨Tryz.f229.name, by decide, Tryz.func229.trans (congrArg some (by kernel_rfl))⟩
  f47 := Tryz.func230.trans (congrArg some (by kernel_rfl))
  f48 := Tryz.func231.trans (congrArg some (by kernel_rfl))
  f49 := ⟨Tryz.f232.name, by decide, Tryz.func232.trans (congrArg some (by kernel_rfl))⟩
  f50 := ⟨Tryz.f233.name, by decide, Tryz.func233.trans (congrArg some (by kernel_rfl))⟩
  f57 := ⟨Tryz.f234.name, by decide, Tryz.func234.trans (congrArg some (by kernel_rfl))⟩
  t0 := Tryz.underlying0
  a0 := Tryz.isAgg0
  z0 := Tryz.sizeOf0
  v0 := Tryz.zeroValue0
  t3 := Tryz.underlying3
  a3 := Tryz.isAgg3
  z3 := Tryz.sizeOf3
  v3 := Tryz.zeroValue3
  t4 := Tryz.underlying4
  a4 := Tryz.isAgg4
  z4 := Tryz.sizeOf4
  v4 := Tryz.zeroValue4
  t5 := Tryz.underlying5
  a5 := Tryz.isAgg5
  z5 := Tryz.sizeOf5
  v5 := Tryz.zeroValue5
  t9 := Tryz.underlying9
  a9 := Tryz.isAgg9
  z9 := Tryz.sizeOf9
  v9 := Tryz.zeroValue9
  t22 := Tryz.underlying118
  a22 := Tryz.isAgg118
  z22 := Tryz.sizeOf118
  v22 := Tryz.zeroValue118
  t25 := Tryz.underlying203
  a25 := Tryz.isAgg203
  z25 := Tryz.sizeOf203
  v25 := Tryz.zeroValue203
  t39 := Tryz.underlying56
  a39 := Tryz.isAgg56
  z39 := Tryz.sizeOf56
  v39 := Tryz.zeroValue56
  t45 := Tryz.underlying288
  a45 := Tryz.isAgg288
  z45 := Tryz.sizeOf288
  v45 := Tryz.zeroValue288
  t46 := Tryz.underlying289
  a46 := Tryz.isAgg289
  z46 := Tryz.sizeOf289
  v46 := Tryz.zeroValue289
  t50 := Tryz.underlying293
  a50 := Tryz.isAgg293
  z50 := Tryz.sizeOf293
  v50 := Tryz.zeroValue293
  t53 := Tryz.underlying61
  a53 := Tryz.isAgg61
  z53 := Tryz.sizeOf61
  v53 := Tryz.zeroValue61
  t55 := Tryz.underlying35
  a55 := Tryz.isAgg35
  z55 := Tryz.sizeOf35
  v55 := Tryz.zeroValue35
  t66 := Tryz.underlying297
  a66 := Tryz.isAgg297
  z66 := Tryz.sizeOf297
  v66 := Tryz.zeroValue297
  t70 := Tryz.underlying300
  a70 := Tryz.isAgg300
  z70 := Tryz.sizeOf300
  v70 := Tryz.zeroValue300
  t76 := Tryz.underlying302
  a76 := Tryz.isAgg302
  z76 := Tryz.sizeOf302
  v76 := Tryz.zeroValue302
  t77 := Tryz.underlying303
  a77 := Tryz.isAgg303
  z77 := Tryz.sizeOf303
  v77 := Tryz.zeroValue303 }
end Go.Proofs
