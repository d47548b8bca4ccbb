/-
  DERIVED: THE SHELF's CONTRACTS AT THIS DUMP, IN PLAIN WORDS (tools/lay-plain.mjs out of 'YtbpidoiellcccaaGreatDoorShelf2Src.lean', which tools/lay-shelf.mjs wrote): THE SAME DECLARATIONS UNDER THE SAME NAMES: 'import', 'namespace', 'open', 'def', 'theorem' AND NOTHING ELSE: no command of the shelf's: FOR A HAND-IN. Each laying: the table of numbers ('.._ren') and one theorem, a field a fact of the dump's own or the kernel's comparison; each contract: ONE APPLICATION.
-/
import Derived.Shelf.Sort.Plain
import Derived.Shelf.Slices.In.SortNone
import Derived.Shelf.Slices.CompactI
import Derived.Ground.NamesProg
import Derived.Ground.Names2Prog
import Derived.Test.YtbpidoiellcccaaGreatDoorProg
namespace Go.Proofs
open Go.Shelf
def Tryz.lays189_ren : Go.Shelf.Ren := ⟨fun | 189 => 40 | 125 => 62 | 257 => 61 | 128 => 87 | 129 => 88 | 294 => 78 | 295 => 79 | 296 => 80 | 297 => 81 | 298 => 82 | 299 => 83 | 216 => 84 | 300 => 85 | 301 => 86 | 328 => 108 | 329 => 109 | 330 => 110 | 331 => 111 | 332 => 112 | 215 => 113 | 343 => 129 | n => n, fun | 28 => 26 | 3 => 3 | 46 => 122 | 0 => 0 | 51 => 156 | 53 => 158 | 4 => 4 | 183 => 150 | 182 => 149 | 131 => 94 | 5 => 5 | 9 => 9 | 218 => 174 | 222 => 178 | 228 => 197 | 229 => 198 | n => n, fun | n => n⟩
theorem Tryz.lays189 : Go.Proofs.Lays.n189 Tryz.prog Tryz.lays189_ren := {
  mixed := by kernel_rfl
  f125 := Tryz.func62.trans (congrArg some (by kernel_rfl))
  f128 := Tryz.func87.trans (congrArg some (by kernel_rfl))
  f129 := Tryz.func88.trans (congrArg some (by kernel_rfl))
  f189 := Tryz.func40.trans (congrArg some (by kernel_rfl))
  f215 := Tryz.func113.trans (congrArg some (by kernel_rfl))
  f216 := Tryz.func84.trans (congrArg some (by kernel_rfl))
  f257 := Tryz.func61.trans (congrArg some (by kernel_rfl))
  f294 := Tryz.func78.trans (congrArg some (by kernel_rfl))
  f295 := Tryz.func79.trans (congrArg some (by kernel_rfl))
  f296 := Tryz.func80.trans (congrArg some (by kernel_rfl))
  f297 := Tryz.func81.trans (congrArg some (by kernel_rfl))
  f298 := Tryz.func82.trans (congrArg some (by kernel_rfl))
  f299 := Tryz.func83.trans (congrArg some (by kernel_rfl))
  f300 := Tryz.func85.trans (congrArg some (by kernel_rfl))
  f301 := Tryz.func86.trans (congrArg some (by kernel_rfl))
  f328 := Tryz.func108.trans (congrArg some (by kernel_rfl))
  f329 := Tryz.func109.trans (congrArg some (by kernel_rfl))
  f330 := Tryz.func110.trans (congrArg some (by kernel_rfl))
  f331 := Tryz.func111.trans (congrArg some (by kernel_rfl))
  f332 := Tryz.func112.trans (congrArg some (by kernel_rfl))
  f343 := Tryz.func129.trans (congrArg some (by kernel_rfl))
  t0 := Tryz.underlying0
  a0 := Tryz.isAgg0
  z0 := Tryz.sizeOf0
  v0 := Tryz.zeroValue0
  t3 := Tryz.underlying3
  a3 := Tryz.isAgg3
  z3 := Tryz.sizeOf3
  v3 := Tryz.zeroValue3
  t4 := Tryz.underlying4
  a4 := Tryz.isAgg4
  z4 := Tryz.sizeOf4
  v4 := Tryz.zeroValue4
  t5 := Tryz.underlying5
  a5 := Tryz.isAgg5
  z5 := Tryz.sizeOf5
  v5 := Tryz.zeroValue5
  t9 := Tryz.underlying9
  a9 := Tryz.isAgg9
  z9 := Tryz.sizeOf9
  v9 := Tryz.zeroValue9
  t28 := Tryz.underlying26
  a28 := Tryz.isAgg26
  z28 := Tryz.sizeOf26
  v28 := Tryz.zeroValue26
  t46 := Tryz.underlying122
  a46 := Tryz.isAgg122
  z46 := Tryz.sizeOf122
  v46 := Tryz.zeroValue122
  t51 := Tryz.underlying156
  a51 := Tryz.isAgg156
  z51 := Tryz.sizeOf156
  v51 := Tryz.zeroValue156
  t53 := Tryz.underlying158
  a53 := Tryz.isAgg158
  z53 := Tryz.sizeOf158
  v53 := Tryz.zeroValue158
  t131 := Tryz.underlying94
  a131 := Tryz.isAgg94
  z131 := Tryz.sizeOf94
  v131 := Tryz.zeroValue94
  t182 := Tryz.underlying149
  a182 := Tryz.isAgg149
  z182 := Tryz.sizeOf149
  v182 := Tryz.zeroValue149
  t183 := Tryz.underlying150
  a183 := Tryz.isAgg150
  z183 := Tryz.sizeOf150
  v183 := Tryz.zeroValue150
  t218 := Tryz.underlying174
  a218 := Tryz.isAgg174
  z218 := Tryz.sizeOf174
  v218 := Tryz.zeroValue174
  t222 := Tryz.underlying178
  a222 := Tryz.isAgg178
  z222 := Tryz.sizeOf178
  v222 := Tryz.zeroValue178
  t228 := Tryz.underlying197
  a228 := Tryz.isAgg197
  z228 := Tryz.sizeOf197
  v228 := Tryz.zeroValue197
  t229 := Tryz.underlying198
  a229 := Tryz.isAgg198
  z229 := Tryz.sizeOf198
  v229 := Tryz.zeroValue198 }
def Tryz.laysCompact_ren : Go.Shelf.Ren := ⟨fun | 20 => 41 | n => n, fun | 22 => 26 | 3 => 3 | 4 => 4 | 0 => 0 | n => n, fun | n => n⟩
theorem Tryz.laysCompact : Go.Proofs.Lays2.n20 Tryz.prog Tryz.laysCompact_ren := {
  mixed := by kernel_rfl
  f20 := Tryz.func41.trans (congrArg some (by kernel_rfl))
  t0 := Tryz.underlying0
  a0 := Tryz.isAgg0
  z0 := Tryz.sizeOf0
  v0 := Tryz.zeroValue0
  t3 := Tryz.underlying3
  a3 := Tryz.isAgg3
  z3 := Tryz.sizeOf3
  v3 := Tryz.zeroValue3
  t4 := Tryz.underlying4
  a4 := Tryz.isAgg4
  z4 := Tryz.sizeOf4
  v4 := Tryz.zeroValue4
  t22 := Tryz.underlying26
  a22 := Tryz.isAgg26
  z22 := Tryz.sizeOf26
  v22 := Tryz.zeroValue26
  i3 := by kernel_rfl }
end Go.Proofs
