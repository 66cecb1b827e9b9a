/-
  DERIVED: THE SHELF's CONTRACTS AT THIS DUMP, IN PLAIN WORDS (tools/lay-plain.mjs out of 'TryShelf.lean', which tools/lay-shelf.mjs wrote): THE SAME DECLARATIONS UNDER THE SAME NAMES: 'import', 'namespace', 'open', 'def', 'theorem' AND NOTHING ELSE: no command of the shelf's: FOR A HAND-IN. Each laying: the table of numbers ('.._ren') and one theorem, a field a fact of the dump's own or the kernel's comparison; each contract: ONE APPLICATION.
-/
import Derived.Shelf.SlGeneric
import Derived.Shelf.SlSortCmp.NoneTotal
import Derived.Ground.SlsfProg
import Derived.Test.YthhcgcaefjmekaaProg
namespace Go.Proofs
open Go.Shelf
def Try.sortOne_ren : Go.Shelf.Ren := ⟨fun | 6 => 115 | 15 => 149 | 14 => 163 | 28 => 186 | 29 => 171 | 20 => 193 | 21 => 194 | 22 => 195 | 23 => 196 | 24 => 197 | 25 => 198 | 26 => 199 | 27 => 200 | 46 => 213 | 47 => 207 | 48 => 208 | 49 => 214 | 50 => 215 | 57 => 221 | n => n, fun | 22 => 138 | 24 => 142 | 25 => 161 | 3 => 3 | 39 => 158 | 0 => 0 | 53 => 92 | 55 => 82 | 4 => 4 | 46 => 213 | 45 => 212 | 50 => 77 | 5 => 5 | 9 => 9 | 66 => 250 | 70 => 254 | 76 => 259 | 77 => 260 | n => n, fun | n => n⟩
theorem Try.sortOne : Go.Proofs.SlLaysF0.n6 Try.prog Try.sortOne_ren := {
  mixed := by kernel_rfl
  f6 := ⟨Try.f115.name, by decide, Try.func115.trans (congrArg some (by kernel_rfl))⟩
  f14 := ⟨Try.f163.name, by decide, Try.func163.trans (congrArg some (by kernel_rfl))⟩
  f15 := Try.func149.trans (congrArg some (by kernel_rfl))
  f20 := ⟨Try.f193.name, by decide, Try.func193.trans (congrArg some (by kernel_rfl))⟩
  f21 := ⟨Try.f194.name, by decide, Try.func194.trans (congrArg some (by kernel_rfl))⟩
  f22 := ⟨Try.f195.name, by decide, Try.func195.trans (congrArg some (by kernel_rfl))⟩
  f23 := ⟨Try.f196.name, by decide, Try.func196.trans (congrArg some (by kernel_rfl))⟩
  f24 := ⟨Try.f197.name, by decide, Try.func197.trans (congrArg some (by kernel_rfl))⟩
  f25 := ⟨Try.f198.name, by decide, Try.func198.trans (congrArg some (by kernel_rfl))⟩
  f26 := ⟨Try.f199.name, by decide, Try.func199.trans (congrArg some (by kernel_rfl))⟩
  f27 := ⟨Try.f200.name, by decide, Try.func200.trans (congrArg some (by kernel_rfl))⟩
  f28 := Try.func186.trans (congrArg some (by kernel_rfl))
  f29 := Try.func171.trans (congrArg some (by kernel_rfl))
  f46 := ⟨Try.f213.name, by decide, Try.func213.trans (congrArg some (by kernel_rfl))⟩
  f47 := Try.func207.trans (congrArg some (by kernel_rfl))
  f48 := Try.func208.trans (congrArg some (by kernel_rfl))
  f49 := ⟨Try.f214.name, by decide, Try.func214.trans (congrArg some (by kernel_rfl))⟩
  f50 := ⟨Try.f215.name, by decide, Try.func215.trans (congrArg some (by kernel_rfl))⟩
  f57 := ⟨Try.f221.name, by decide, Try.func221.trans (congrArg some (by kernel_rfl))⟩
  t0 := Try.underlying0
  a0 := Try.isAgg0
  z0 := Try.sizeOf0
  v0 := Try.zeroValue0
  t3 := Try.underlying3
  a3 := Try.isAgg3
  z3 := Try.sizeOf3
  v3 := Try.zeroValue3
  t4 := Try.underlying4
  a4 := Try.isAgg4
  z4 := Try.sizeOf4
  v4 := Try.zeroValue4
  t5 := Try.underlying5
  a5 := Try.isAgg5
  z5 := Try.sizeOf5
  v5 := Try.zeroValue5
  t9 := Try.underlying9
  a9 := Try.isAgg9
  z9 := Try.sizeOf9
  v9 := Try.zeroValue9
  t22 := Try.underlying138
  a22 := Try.isAgg138
  z22 := Try.sizeOf138
  v22 := Try.zeroValue138
  t25 := Try.underlying161
  a25 := Try.isAgg161
  z25 := Try.sizeOf161
  v25 := Try.zeroValue161
  t39 := Try.underlying158
  a39 := Try.isAgg158
  z39 := Try.sizeOf158
  v39 := Try.zeroValue158
  t45 := Try.underlying212
  a45 := Try.isAgg212
  z45 := Try.sizeOf212
  v45 := Try.zeroValue212
  t46 := Try.underlying213
  a46 := Try.isAgg213
  z46 := Try.sizeOf213
  v46 := Try.zeroValue213
  t50 := Try.underlying77
  a50 := Try.isAgg77
  z50 := Try.sizeOf77
  v50 := Try.zeroValue77
  t53 := Try.underlying92
  a53 := Try.isAgg92
  z53 := Try.sizeOf92
  v53 := Try.zeroValue92
  t55 := Try.underlying82
  a55 := Try.isAgg82
  z55 := Try.sizeOf82
  v55 := Try.zeroValue82
  t66 := Try.underlying250
  a66 := Try.isAgg250
  z66 := Try.sizeOf250
  v66 := Try.zeroValue250
  t70 := Try.underlying254
  a70 := Try.isAgg254
  z70 := Try.sizeOf254
  v70 := Try.zeroValue254
  t76 := Try.underlying259
  a76 := Try.isAgg259
  z76 := Try.sizeOf259
  v76 := Try.zeroValue259
  t77 := Try.underlying260
  a77 := Try.isAgg260
  z77 := Try.sizeOf260
  v77 := Try.zeroValue260 }
end Go.Proofs
