/-
  DERIVED: THE SHELF's CONTRACTS AT THIS DUMP, IN PLAIN WORDS (tools/lay-plain.mjs out of 'YtacihjabkiedcaaGreatDoorShelfSrc.lean', which tools/lay-shelf.mjs wrote): THE SAME DECLARATIONS UNDER THE SAME NAMES: 'import', 'namespace', 'open', 'def', 'theorem' AND NOTHING ELSE: no command of the shelf's: FOR A HAND-IN. Each laying: the table of numbers ('.._ren') and one theorem, a field a fact of the dump's own or the kernel's comparison; each contract: ONE APPLICATION.
-/
import Derived.Shelf.Small.Strs
import Derived.Shelf.Strings.SlTrimAscii
import Derived.Ground.NamesProg
import Derived.Test.YtacihjabkiedcaaGreatDoorProg
namespace Go.Proofs
open Go.Shelf
def Tryz.lays137_ren : Go.Shelf.Ren := ⟨fun | 137 => 166 | 217 => 184 | 266 => 190 | n => n, fun | 9 => 9 | 5 => 5 | 3 => 3 | n => n, fun | n => n⟩
theorem Tryz.lays137 : Go.Proofs.Lays.n137 Tryz.prog Tryz.lays137_ren := {
  mixed := by kernel_rfl
  f137 := Tryz.func166.trans (congrArg some (by kernel_rfl))
  f217 := Tryz.func184.trans (congrArg some (by kernel_rfl))
  f266 := Tryz.func190.trans (congrArg some (by kernel_rfl))
  t3 := Tryz.underlying3
  a3 := Tryz.isAgg3
  z3 := Tryz.sizeOf3
  v3 := Tryz.zeroValue3
  t5 := Tryz.underlying5
  a5 := Tryz.isAgg5
  z5 := Tryz.sizeOf5
  v5 := Tryz.zeroValue5
  t9 := Tryz.underlying9
  a9 := Tryz.isAgg9
  z9 := Tryz.sizeOf9
  v9 := Tryz.zeroValue9 }
def Tryz.lays161_ren : Go.Shelf.Ren := ⟨fun | 161 => 83 | 231 => 114 | 227 => 115 | 233 => 116 | 235 => 117 | 228 => 145 | 197 => 146 | 151 => 147 | 260 => 162 | 152 => 163 | 137 => 166 | 119 => 171 | 224 => 172 | 225 => 173 | 217 => 184 | 266 => 190 | n => n, fun | 9 => 9 | 4 => 4 | 3 => 3 | 5 => 5 | 117 => 158 | 116 => 157 | 0 => 0 | 124 => 161 | 105 => 189 | 21 => 21 | 119 => 218 | 46 => 115 | 139 => 221 | 138 => 220 | n => n, fun | 3 => 0 | 4 => 1 | n => n⟩
theorem Tryz.lays161 : Go.Proofs.Lays.n161 Tryz.prog Tryz.lays161_ren := {
  mixed := by kernel_rfl
  f119 := Tryz.func171.trans (congrArg some (by kernel_rfl))
  f137 := Tryz.func166.trans (congrArg some (by kernel_rfl))
  f151 := Tryz.func147.trans (congrArg some (by kernel_rfl))
  f152 := Tryz.func163.trans (congrArg some (by kernel_rfl))
  f161 := Tryz.func83.trans (congrArg some (by kernel_rfl))
  f197 := Tryz.func146.trans (congrArg some (by kernel_rfl))
  f217 := Tryz.func184.trans (congrArg some (by kernel_rfl))
  f224 := Tryz.func172.trans (congrArg some (by kernel_rfl))
  f225 := Tryz.func173.trans (congrArg some (by kernel_rfl))
  f227 := Tryz.func115.trans (congrArg some (by kernel_rfl))
  f228 := Tryz.func145.trans (congrArg some (by kernel_rfl))
  f231 := Tryz.func114.trans (congrArg some (by kernel_rfl))
  f233 := Tryz.func116.trans (congrArg some (by kernel_rfl))
  f235 := Tryz.func117.trans (congrArg some (by kernel_rfl))
  f260 := Tryz.func162.trans (congrArg some (by kernel_rfl))
  f266 := Tryz.func190.trans (congrArg some (by kernel_rfl))
  t0 := Tryz.underlying0
  a0 := Tryz.isAgg0
  z0 := Tryz.sizeOf0
  v0 := Tryz.zeroValue0
  t3 := Tryz.underlying3
  a3 := Tryz.isAgg3
  z3 := Tryz.sizeOf3
  v3 := Tryz.zeroValue3
  t4 := Tryz.underlying4
  a4 := Tryz.isAgg4
  z4 := Tryz.sizeOf4
  v4 := Tryz.zeroValue4
  t5 := Tryz.underlying5
  a5 := Tryz.isAgg5
  z5 := Tryz.sizeOf5
  v5 := Tryz.zeroValue5
  t9 := Tryz.underlying9
  a9 := Tryz.isAgg9
  z9 := Tryz.sizeOf9
  v9 := Tryz.zeroValue9
  t21 := Tryz.underlying21
  a21 := Tryz.isAgg21
  z21 := Tryz.sizeOf21
  v21 := Tryz.zeroValue21
  t46 := Tryz.underlying115
  a46 := Tryz.isAgg115
  z46 := Tryz.sizeOf115
  v46 := Tryz.zeroValue115
  t105 := Tryz.underlying189
  a105 := Tryz.isAgg189
  z105 := Tryz.sizeOf189
  v105 := Tryz.zeroValue189
  t116 := Tryz.underlying157
  a116 := Tryz.isAgg157
  z116 := Tryz.sizeOf157
  t117 := Tryz.underlying158
  a117 := Tryz.isAgg158
  z117 := Tryz.sizeOf158
  v117 := Tryz.zeroValue158
  t119 := Tryz.underlying218
  a119 := Tryz.isAgg218
  z119 := Tryz.sizeOf218
  t124 := Tryz.underlying161
  a124 := Tryz.isAgg161
  z124 := Tryz.sizeOf161
  v124 := Tryz.zeroValue161
  t138 := Tryz.underlying220
  a138 := Tryz.isAgg220
  z138 := Tryz.sizeOf220
  v138 := Tryz.zeroValue220
  t139 := Tryz.underlying221
  a139 := Tryz.isAgg221
  z139 := Tryz.sizeOf221
  v139 := Tryz.zeroValue221
  g3 := by kernel_rfl
  g4 := by kernel_rfl }
end Go.Proofs
