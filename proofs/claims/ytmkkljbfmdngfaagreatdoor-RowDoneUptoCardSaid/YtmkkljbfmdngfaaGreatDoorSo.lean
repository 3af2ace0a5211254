/- Joined. -/
import Derived.Ground.Names2Prog
import Derived.Shelf.Sort.Plain
import Derived.Test.YtmkkljbfmdngfaaGreatDoorProg
set_option linter.all false
/-
  DERIVED: THE SHELF's CONTRACTS AT THIS DUMP, IN PLAIN WORDS (tools/lay-plain.mjs out of 'TrydSoShelf.lean', which tools/lay-shelf.mjs wrote): THE SAME DECLARATIONS UNDER THE SAME NAMES: 'import', 'namespace', 'open', 'def', 'theorem' AND NOTHING ELSE: no command of the shelf's: FOR A HAND-IN. Each laying: the table of numbers ('.._ren') and one theorem, a field a fact of the dump's own or the kernel's comparison; each contract: ONE APPLICATION.
-/
namespace Go.Proofs
open Go.Shelf
def Tryz.lays189_ren : Go.Shelf.Ren := ⟨fun | 189 => 83 | 125 => 126 | 257 => 125 | 128 => 161 | 129 => 162 | 294 => 152 | 295 => 153 | 296 => 154 | 297 => 155 | 298 => 156 | 299 => 157 | 216 => 158 | 300 => 159 | 301 => 160 | 328 => 187 | 329 => 188 | 330 => 189 | 331 => 190 | 332 => 191 | 215 => 192 | 343 => 204 | n => n, fun | 28 => 42 | 3 => 3 | 46 => 147 | 0 => 0 | 51 => 187 | 53 => 30 | 4 => 4 | 183 => 179 | 182 => 178 | 131 => 184 | 5 => 5 | 9 => 9 | 218 => 201 | 222 => 205 | 228 => 213 | 229 => 214 | n => n, fun | n => n⟩
theorem Tryz.lays189 : Go.Proofs.Lays.n189 Tryz.prog Tryz.lays189_ren := {
  mixed := by kernel_rfl
  f125 := Tryz.func126.trans (congrArg some (by kernel_rfl))
  f128 := Tryz.func161.trans (congrArg some (by kernel_rfl))
  f129 := Tryz.func162.trans (congrArg some (by kernel_rfl))
  f189 := Tryz.func83.trans (congrArg some (by kernel_rfl))
  f215 := Tryz.func192.trans (congrArg some (by kernel_rfl))
  f216 := Tryz.func158.trans (congrArg some (by kernel_rfl))
  f257 := Tryz.func125.trans (congrArg some (by kernel_rfl))
  f294 := Tryz.func152.trans (congrArg some (by kernel_rfl))
  f295 := Tryz.func153.trans (congrArg some (by kernel_rfl))
  f296 := Tryz.func154.trans (congrArg some (by kernel_rfl))
  f297 := Tryz.func155.trans (congrArg some (by kernel_rfl))
  f298 := Tryz.func156.trans (congrArg some (by kernel_rfl))
  f299 := Tryz.func157.trans (congrArg some (by kernel_rfl))
  f300 := Tryz.func159.trans (congrArg some (by kernel_rfl))
  f301 := Tryz.func160.trans (congrArg some (by kernel_rfl))
  f328 := Tryz.func187.trans (congrArg some (by kernel_rfl))
  f329 := Tryz.func188.trans (congrArg some (by kernel_rfl))
  f330 := Tryz.func189.trans (congrArg some (by kernel_rfl))
  f331 := Tryz.func190.trans (congrArg some (by kernel_rfl))
  f332 := Tryz.func191.trans (congrArg some (by kernel_rfl))
  f343 := Tryz.func204.trans (congrArg some (by kernel_rfl))
  t0 := Tryz.underlying0
  a0 := Tryz.isAgg0
  z0 := Tryz.sizeOf0
  v0 := Tryz.zeroValue0
  t3 := Tryz.underlying3
  a3 := Tryz.isAgg3
  z3 := Tryz.sizeOf3
  v3 := Tryz.zeroValue3
  t4 := Tryz.underlying4
  a4 := Tryz.isAgg4
  z4 := Tryz.sizeOf4
  v4 := Tryz.zeroValue4
  t5 := Tryz.underlying5
  a5 := Tryz.isAgg5
  z5 := Tryz.sizeOf5
  v5 := Tryz.zeroValue5
  t9 := Tryz.underlying9
  a9 := Tryz.isAgg9
  z9 := Tryz.sizeOf9
  v9 := Tryz.zeroValue9
  t28 := Tryz.underlying42
  a28 := Tryz.isAgg42
  z28 := Tryz.sizeOf42
  v28 := Tryz.zeroValue42
  t46 := Tryz.underlying147
  a46 := Tryz.isAgg147
  z46 := Tryz.sizeOf147
  v46 := Tryz.zeroValue147
  t51 := Tryz.underlying187
  a51 := Tryz.isAgg187
  z51 := Tryz.sizeOf187
  v51 := Tryz.zeroValue187
  t53 := Tryz.underlying30
  a53 := Tryz.isAgg30
  z53 := Tryz.sizeOf30
  v53 := Tryz.zeroValue30
  t131 := Tryz.underlying184
  a131 := Tryz.isAgg184
  z131 := Tryz.sizeOf184
  v131 := Tryz.zeroValue184
  t182 := Tryz.underlying178
  a182 := Tryz.isAgg178
  z182 := Tryz.sizeOf178
  v182 := Tryz.zeroValue178
  t183 := Tryz.underlying179
  a183 := Tryz.isAgg179
  z183 := Tryz.sizeOf179
  v183 := Tryz.zeroValue179
  t218 := Tryz.underlying201
  a218 := Tryz.isAgg201
  z218 := Tryz.sizeOf201
  v218 := Tryz.zeroValue201
  t222 := Tryz.underlying205
  a222 := Tryz.isAgg205
  z222 := Tryz.sizeOf205
  v222 := Tryz.zeroValue205
  t228 := Tryz.underlying213
  a228 := Tryz.isAgg213
  z228 := Tryz.sizeOf213
  v228 := Tryz.zeroValue213
  t229 := Tryz.underlying214
  a229 := Tryz.isAgg214
  z229 := Tryz.sizeOf214
  v229 := Tryz.zeroValue214 }
end Go.Proofs
