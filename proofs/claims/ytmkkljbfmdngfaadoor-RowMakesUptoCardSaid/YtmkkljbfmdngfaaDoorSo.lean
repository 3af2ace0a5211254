/- Joined. -/
import Derived.Ground.Names2Prog
import Derived.Shelf.Sort.Plain
import Derived.Test.YtmkkljbfmdngfaaDoorProg
set_option linter.all false
/-
  DERIVED: THE SHELF's CONTRACTS AT THIS DUMP, IN PLAIN WORDS (tools/lay-plain.mjs out of 'TrydSoShelf.lean', which tools/lay-shelf.mjs wrote): THE SAME DECLARATIONS UNDER THE SAME NAMES: 'import', 'namespace', 'open', 'def', 'theorem' AND NOTHING ELSE: no command of the shelf's: FOR A HAND-IN. Each laying: the table of numbers ('.._ren') and one theorem, a field a fact of the dump's own or the kernel's comparison; each contract: ONE APPLICATION.
-/
namespace Go.Proofs
open Go.Shelf
def Tryd.lays189_ren : Go.Shelf.Ren := ⟨fun | 189 => 79 | 125 => 126 | 257 => 125 | 128 => 151 | 129 => 152 | 294 => 142 | 295 => 143 | 296 => 144 | 297 => 145 | 298 => 146 | 299 => 147 | 216 => 148 | 300 => 149 | 301 => 150 | 328 => 160 | 329 => 161 | 330 => 162 | 331 => 163 | 332 => 164 | 215 => 165 | 343 => 172 | n => n, fun | 28 => 40 | 3 => 3 | 46 => 90 | 0 => 0 | 51 => 148 | 53 => 45 | 4 => 4 | 183 => 140 | 182 => 139 | 131 => 145 | 5 => 5 | 9 => 9 | 218 => 161 | 222 => 165 | 228 => 171 | 229 => 172 | n => n, fun | n => n⟩
theorem Tryd.lays189 : Go.Proofs.Lays.n189 Tryd.prog Tryd.lays189_ren := {
  mixed := by kernel_rfl
  f125 := Tryd.func126.trans (congrArg some (by kernel_rfl))
  f128 := Tryd.func151.trans (congrArg some (by kernel_rfl))
  f129 := Tryd.func152.trans (congrArg some (by kernel_rfl))
  f189 := Tryd.func79.trans (congrArg some (by kernel_rfl))
  f215 := Tryd.func165.trans (congrArg some (by kernel_rfl))
  f216 := Tryd.func148.trans (congrArg some (by kernel_rfl))
  f257 := Tryd.func125.trans (congrArg some (by kernel_rfl))
  f294 := Tryd.func142.trans (congrArg some (by kernel_rfl))
  f295 := Tryd.func143.trans (congrArg some (by kernel_rfl))
  f296 := Tryd.func144.trans (congrArg some (by kernel_rfl))
  f297 := Tryd.func145.trans (congrArg some (by kernel_rfl))
  f298 := Tryd.func146.trans (congrArg some (by kernel_rfl))
  f299 := Tryd.func147.trans (congrArg some (by kernel_rfl))
  f300 := Tryd.func149.trans (congrArg some (by kernel_rfl))
  f301 := Tryd.func150.trans (congrArg some (by kernel_rfl))
  f328 := Tryd.func160.trans (congrArg some (by kernel_rfl))
  f329 := Tryd.func161.trans (congrArg some (by kernel_rfl))
  f330 := Tryd.func162.trans (congrArg some (by kernel_rfl))
  f331 := Tryd.func163.trans (congrArg some (by kernel_rfl))
  f332 := Tryd.func164.trans (congrArg some (by kernel_rfl))
  f343 := Tryd.func172.trans (congrArg some (by kernel_rfl))
  t0 := Tryd.underlying0
  a0 := Tryd.isAgg0
  z0 := Tryd.sizeOf0
  v0 := Tryd.zeroValue0
  t3 := Tryd.underlying3
  a3 := Tryd.isAgg3
  z3 := Tryd.sizeOf3
  v3 := Tryd.zeroValue3
  t4 := Tryd.underlying4
  a4 := Tryd.isAgg4
  z4 := Tryd.sizeOf4
  v4 := Tryd.zeroValue4
  t5 := Tryd.underlying5
  a5 := Tryd.isAgg5
  z5 := Tryd.sizeOf5
  v5 := Tryd.zeroValue5
  t9 := Tryd.underlying9
  a9 := Tryd.isAgg9
  z9 := Tryd.sizeOf9
  v9 := Tryd.zeroValue9
  t28 := Tryd.underlying40
  a28 := Tryd.isAgg40
  z28 := Tryd.sizeOf40
  v28 := Tryd.zeroValue40
  t46 := Tryd.underlying90
  a46 := Tryd.isAgg90
  z46 := Tryd.sizeOf90
  v46 := Tryd.zeroValue90
  t51 := Tryd.underlying148
  a51 := Tryd.isAgg148
  z51 := Tryd.sizeOf148
  v51 := Tryd.zeroValue148
  t53 := Tryd.underlying45
  a53 := Tryd.isAgg45
  z53 := Tryd.sizeOf45
  v53 := Tryd.zeroValue45
  t131 := Tryd.underlying145
  a131 := Tryd.isAgg145
  z131 := Tryd.sizeOf145
  v131 := Tryd.zeroValue145
  t182 := Tryd.underlying139
  a182 := Tryd.isAgg139
  z182 := Tryd.sizeOf139
  v182 := Tryd.zeroValue139
  t183 := Tryd.underlying140
  a183 := Tryd.isAgg140
  z183 := Tryd.sizeOf140
  v183 := Tryd.zeroValue140
  t218 := Tryd.underlying161
  a218 := Tryd.isAgg161
  z218 := Tryd.sizeOf161
  v218 := Tryd.zeroValue161
  t222 := Tryd.underlying165
  a222 := Tryd.isAgg165
  z222 := Tryd.sizeOf165
  v222 := Tryd.zeroValue165
  t228 := Tryd.underlying171
  a228 := Tryd.isAgg171
  z228 := Tryd.sizeOf171
  v228 := Tryd.zeroValue171
  t229 := Tryd.underlying172
  a229 := Tryd.isAgg172
  z229 := Tryd.sizeOf172
  v229 := Tryd.zeroValue172 }
end Go.Proofs
