/-
  DERIVED: THE SHELF's CONTRACTS AT THIS DUMP, IN PLAIN WORDS (tools/lay-plain.mjs out of 'TrydSoShelf.lean', which tools/lay-shelf.mjs wrote): THE SAME DECLARATIONS UNDER THE SAME NAMES: 'import', 'namespace', 'open', 'def', 'theorem' AND NOTHING ELSE: no command of the shelf's: FOR A HAND-IN. Each laying: the table of numbers ('.._ren') and one theorem, a field a fact of the dump's own or the kernel's comparison; each contract: ONE APPLICATION.
-/
import Derived.Shelf.Sort.Plain
import Derived.Ground.Names2Prog
import Derived.Test.YtmiclaoelbemkaaDoorProg
namespace Go.Proofs
open Go.Shelf
def Tryd.lays189_ren : Go.Shelf.Ren := ⟨fun | 189 => 26 | 125 => 35 | 257 => 34 | 128 => 52 | 129 => 53 | 294 => 43 | 295 => 44 | 296 => 45 | 297 => 46 | 298 => 47 | 299 => 48 | 216 => 49 | 300 => 50 | 301 => 51 | 328 => 64 | 329 => 65 | 330 => 66 | 331 => 67 | 332 => 68 | 215 => 69 | 343 => 77 | n => n, fun | 28 => 33 | 3 => 3 | 46 => 65 | 0 => 0 | 51 => 77 | 53 => 36 | 4 => 4 | 183 => 71 | 182 => 70 | 131 => 47 | 5 => 5 | 9 => 9 | 218 => 88 | 222 => 92 | 228 => 100 | 229 => 101 | n => n, fun | n => n⟩
theorem Tryd.lays189 : Go.Proofs.Lays.n189 Tryd.prog Tryd.lays189_ren := {
  mixed := by kernel_rfl
  f125 := Tryd.func35.trans (congrArg some (by kernel_rfl))
  f128 := Tryd.func52.trans (congrArg some (by kernel_rfl))
  f129 := Tryd.func53.trans (congrArg some (by kernel_rfl))
  f189 := Tryd.func26.trans (congrArg some (by kernel_rfl))
  f215 := Tryd.func69.trans (congrArg some (by kernel_rfl))
  f216 := Tryd.func49.trans (congrArg some (by kernel_rfl))
  f257 := Tryd.func34.trans (congrArg some (by kernel_rfl))
  f294 := Tryd.func43.trans (congrArg some (by kernel_rfl))
  f295 := Tryd.func44.trans (congrArg some (by kernel_rfl))
  f296 := Tryd.func45.trans (congrArg some (by kernel_rfl))
  f297 := Tryd.func46.trans (congrArg some (by kernel_rfl))
  f298 := Tryd.func47.trans (congrArg some (by kernel_rfl))
  f299 := Tryd.func48.trans (congrArg some (by kernel_rfl))
  f300 := Tryd.func50.trans (congrArg some (by kernel_rfl))
  f301 := Tryd.func51.trans (congrArg some (by kernel_rfl))
  f328 := Tryd.func64.trans (congrArg some (by kernel_rfl))
  f329 := Tryd.func65.trans (congrArg some (by kernel_rfl))
  f330 := Tryd.func66.trans (congrArg some (by kernel_rfl))
  f331 := Tryd.func67.trans (congrArg some (by kernel_rfl))
  f332 := Tryd.func68.trans (congrArg some (by kernel_rfl))
  f343 := Tryd.func77.trans (congrArg some (by kernel_rfl))
  t0 := Tryd.underlying0
  a0 := Tryd.isAgg0
  z0 := Tryd.sizeOf0
  v0 := Tryd.zeroValue0
  t3 := Tryd.underlying3
  a3 := Tryd.isAgg3
  z3 := Tryd.sizeOf3
  v3 := Tryd.zeroValue3
  t4 := Tryd.underlying4
  a4 := Tryd.isAgg4
  z4 := Tryd.sizeOf4
  v4 := Tryd.zeroValue4
  t5 := Tryd.underlying5
  a5 := Tryd.isAgg5
  z5 := Tryd.sizeOf5
  v5 := Tryd.zeroValue5
  t9 := Tryd.underlying9
  a9 := Tryd.isAgg9
  z9 := Tryd.sizeOf9
  v9 := Tryd.zeroValue9
  t28 := Tryd.underlying33
  a28 := Tryd.isAgg33
  z28 := Tryd.sizeOf33
  v28 := Tryd.zeroValue33
  t46 := Tryd.underlying65
  a46 := Tryd.isAgg65
  z46 := Tryd.sizeOf65
  v46 := Tryd.zeroValue65
  t51 := Tryd.underlying77
  a51 := Tryd.isAgg77
  z51 := Tryd.sizeOf77
  v51 := Tryd.zeroValue77
  t53 := Tryd.underlying36
  a53 := Tryd.isAgg36
  z53 := Tryd.sizeOf36
  v53 := Tryd.zeroValue36
  t131 := Tryd.underlying47
  a131 := Tryd.isAgg47
  z131 := Tryd.sizeOf47
  v131 := Tryd.zeroValue47
  t182 := Tryd.underlying70
  a182 := Tryd.isAgg70
  z182 := Tryd.sizeOf70
  v182 := Tryd.zeroValue70
  t183 := Tryd.underlying71
  a183 := Tryd.isAgg71
  z183 := Tryd.sizeOf71
  v183 := Tryd.zeroValue71
  t218 := Tryd.underlying88
  a218 := Tryd.isAgg88
  z218 := Tryd.sizeOf88
  v218 := Tryd.zeroValue88
  t222 := Tryd.underlying92
  a222 := Tryd.isAgg92
  z222 := Tryd.sizeOf92
  v222 := Tryd.zeroValue92
  t228 := Tryd.underlying100
  a228 := Tryd.isAgg100
  z228 := Tryd.sizeOf100
  v228 := Tryd.zeroValue100
  t229 := Tryd.underlying101
  a229 := Tryd.isAgg101
  z229 := Tryd.sizeOf101
  v229 := Tryd.zeroValue101 }
end Go.Proofs
