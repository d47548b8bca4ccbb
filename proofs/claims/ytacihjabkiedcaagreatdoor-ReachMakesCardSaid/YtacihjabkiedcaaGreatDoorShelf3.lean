/-
  DERIVED: THE SHELF's CONTRACTS AT THIS DUMP, IN PLAIN WORDS (tools/lay-plain.mjs out of 'YtacihjabkiedcaaGreatDoorShelf3Src.lean', which tools/lay-shelf.mjs wrote): THE SAME DECLARATIONS UNDER THE SAME NAMES: 'import', 'namespace', 'open', 'def', 'theorem' AND NOTHING ELSE: no command of the shelf's: FOR A HAND-IN. Each laying: the table of numbers ('.._ren') and one theorem, a field a fact of the dump's own or the kernel's comparison; each contract: ONE APPLICATION.
-/
import Derived.Shelf.SlSortCmp.NoneTotal
import Derived.Shelf.SlicesG.Cmp
import Derived.Ground.SlsfProg
import Derived.Ground.SlgcProg
import Derived.Test.YtacihjabkiedcaaGreatDoorProg
namespace Go.Proofs
open Go.Shelf
def Tryz.sortFL_ren : Go.Shelf.Ren := ⟨fun | 6 => 154 | 15 => 75 | 14 => 165 | 28 => 101 | 29 => 102 | 20 => 176 | 21 => 177 | 22 => 178 | 23 => 179 | 24 => 180 | 25 => 181 | 26 => 182 | 27 => 183 | 46 => 187 | 47 => 128 | 48 => 129 | 49 => 188 | 50 => 189 | 57 => 192 | n => n, fun | 22 => 44 | 24 => 3 | 25 => 202 | 3 => 3 | 39 => 115 | 0 => 0 | 53 => 147 | 55 => 149 | 4 => 4 | 46 => 140 | 45 => 139 | 50 => 107 | 5 => 5 | 9 => 9 | 66 => 169 | 70 => 173 | 76 => 197 | 77 => 198 | n => n, fun | n => n⟩
theorem Tryz.sortFL : Go.Proofs.SlLaysF.n6 Tryz.prog Tryz.sortFL_ren := {
  mixed := by kernel_rfl
  f6 := ⟨Tryz.f154.name, by decide, Tryz.func154.trans (congrArg some (by kernel_rfl))⟩
  f14 := ⟨Tryz.f165.name, by decide, Tryz.func165.trans (congrArg some (by kernel_rfl))⟩
  f15 := Tryz.func75.trans (congrArg some (by kernel_rfl))
  f20 := ⟨Tryz.f176.name, by decide, Tryz.func176.trans (congrArg some (by kernel_rfl))⟩
  f21 := ⟨Tryz.f177.name, by decide, Tryz.func177.trans (congrArg some (by kernel_rfl))⟩
  f22 := ⟨Tryz.f178.name, by decide, Tryz.func178.trans (congrArg some (by kernel_rfl))⟩
  f23 := ⟨Tryz.f179.name, by decide, Tryz.func179.trans (congrArg some (by kernel_rfl))⟩
  f24 := ⟨Tryz.f180.name, by decide, Tryz.func180.trans (congrArg some (by kernel_rfl))⟩
  f25 := ⟨Tryz.f181.name, by decide, Tryz.func181.trans (congrArg some (by kernel_rfl))⟩
  f26 := ⟨Tryz.f182.name, by decide, Tryz.func182.trans (congrArg some (by kernel_rfl))⟩
  f27 := ⟨Tryz.f183.name, by decide, Tryz.func183.trans (congrArg some (by kernel_rfl))⟩
  f28 := Tryz.func101.trans (congrArg some (by kernel_rfl))
  f29 := Tryz.func102.trans (congrArg some (by kernel_rfl))
  f46 := ⟨Tryz.f187.name, by decide, Tryz.func187.trans (congrArg some (by kernel_rfl))⟩
  f47 := Tryz.func128.trans (congrArg some (by kernel_rfl))
  f48 := Tryz.func129.trans (congrArg some (by kernel_rfl))
  f49 := ⟨Tryz.f188.name, by decide, Tryz.func188.trans (congrArg some (by kernel_rfl))⟩
  f50 := ⟨Tryz.f189.name, by decide, Tryz.func189.trans (congrArg some (by kernel_rfl))⟩
  f57 := ⟨Tryz.f192.name, by decide, Tryz.func192.trans (congrArg some (by kernel_rfl))⟩
  t0 := Tryz.underlying0
  a0 := Tryz.isAgg0
  z0 := Tryz.sizeOf0
  v0 := Tryz.zeroValue0
  t3 := Tryz.underlying3
  a3 := Tryz.isAgg3
  z3 := Tryz.sizeOf3
  v3 := Tryz.zeroValue3
  t4 := Tryz.underlying4
  a4 := Tryz.isAgg4
  z4 := Tryz.sizeOf4
  v4 := Tryz.zeroValue4
  t5 := Tryz.underlying5
  a5 := Tryz.isAgg5
  z5 := Tryz.sizeOf5
  v5 := Tryz.zeroValue5
  t9 := Tryz.underlying9
  a9 := Tryz.isAgg9
  z9 := Tryz.sizeOf9
  v9 := Tryz.zeroValue9
  t22 := Tryz.underlying44
  a22 := Tryz.isAgg44
  z22 := Tryz.sizeOf44
  v22 := Tryz.zeroValue44
  a24 := Tryz.isAgg3
  z24 := Tryz.sizeOf3
  t25 := Tryz.underlying202
  a25 := Tryz.isAgg202
  z25 := Tryz.sizeOf202
  v25 := Tryz.zeroValue202
  t39 := Tryz.underlying115
  a39 := Tryz.isAgg115
  z39 := Tryz.sizeOf115
  v39 := Tryz.zeroValue115
  t45 := Tryz.underlying139
  a45 := Tryz.isAgg139
  z45 := Tryz.sizeOf139
  v45 := Tryz.zeroValue139
  t46 := Tryz.underlying140
  a46 := Tryz.isAgg140
  z46 := Tryz.sizeOf140
  v46 := Tryz.zeroValue140
  t50 := Tryz.underlying107
  a50 := Tryz.isAgg107
  z50 := Tryz.sizeOf107
  v50 := Tryz.zeroValue107
  t53 := Tryz.underlying147
  a53 := Tryz.isAgg147
  z53 := Tryz.sizeOf147
  v53 := Tryz.zeroValue147
  t55 := Tryz.underlying149
  a55 := Tryz.isAgg149
  z55 := Tryz.sizeOf149
  v55 := Tryz.zeroValue149
  t66 := Tryz.underlying169
  a66 := Tryz.isAgg169
  z66 := Tryz.sizeOf169
  v66 := Tryz.zeroValue169
  t70 := Tryz.underlying173
  a70 := Tryz.isAgg173
  z70 := Tryz.sizeOf173
  v70 := Tryz.zeroValue173
  t76 := Tryz.underlying197
  a76 := Tryz.isAgg197
  z76 := Tryz.sizeOf197
  v76 := Tryz.zeroValue197
  t77 := Tryz.underlying198
  a77 := Tryz.isAgg198
  z77 := Tryz.sizeOf198
  v77 := Tryz.zeroValue198 }
def Tryz.cmpL_ren : Go.Shelf.Ren := ⟨fun | 5 => 155 | 7 => 132 | n => n, fun | 22 => 3 | 3 => 3 | 4 => 4 | n => n, fun | n => n⟩
theorem Tryz.cmpL : Go.Proofs.SlLaysC2.n5 Tryz.prog Tryz.cmpL_ren := {
  mixed := by kernel_rfl
  f5 := ⟨Tryz.f155.name, by decide, Tryz.func155.trans (congrArg some (by kernel_rfl))⟩
  f7 := ⟨Tryz.f132.name, by decide, Tryz.func132.trans (congrArg some (by kernel_rfl))⟩
  t3 := Tryz.underlying3
  a3 := Tryz.isAgg3
  z3 := Tryz.sizeOf3
  v3 := Tryz.zeroValue3
  t4 := Tryz.underlying4
  a4 := Tryz.isAgg4
  z4 := Tryz.sizeOf4
  v4 := Tryz.zeroValue4
  t22 := Tryz.underlying3
  a22 := Tryz.isAgg3
  z22 := Tryz.sizeOf3
  v22 := Tryz.zeroValue3 }
end Go.Proofs
