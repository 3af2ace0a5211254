/- Joined. -/
import Derived.Ground.SlgnProg
import Derived.Ground.Names8Prog
import Derived.Shelf.SlLaysE0
import Derived.Shelf.Lays8
import Derived.Test.YtmkkljbfmdngfaaGreatDoorProg
set_option linter.all false
namespace Go.Proofs
open Go.Shelf
def Tryz.laysC82_ren:Go.Shelf.Ren:=⟨fun | 41=>85 | n=>n,fun | 22=>42 | 23=>3 | 4=>4 | n=>n,fun | n=>n⟩
theorem Tryz.laysC82:Go.Proofs.SlLaysE0.n41 Tryz.prog Tryz.laysC82_ren:={
 mixed:=by kernel_rfl
 f41:=⟨Tryz.f85.name,by decide,Tryz.func85.trans (congrArg some (by kernel_rfl))⟩
 t4:=Tryz.underlying4
 a4:=Tryz.isAgg4
 z4:=Tryz.sizeOf4
 v4:=Tryz.zeroValue4
 t22:=Tryz.underlying42
 a22:=Tryz.isAgg42
 z22:=Tryz.sizeOf42
 v22:=Tryz.zeroValue42}
def Tryz.laysC118_ren:Go.Shelf.Ren:=⟨fun | 41=>101 | n=>n,fun | 22=>22 | 23=>9 | 4=>4 | n=>n,fun | n=>n⟩
theorem Tryz.laysC118:Go.Proofs.SlLaysE0.n41 Tryz.prog Tryz.laysC118_ren:={
 mixed:=by kernel_rfl
 f41:=⟨Tryz.f101.name,by decide,Tryz.func101.trans (congrArg some (by kernel_rfl))⟩
 t4:=Tryz.underlying4
 a4:=Tryz.isAgg4
 z4:=Tryz.sizeOf4
 v4:=Tryz.zeroValue4
 t22:=Tryz.underlying22
 a22:=Tryz.isAgg22
 z22:=Tryz.sizeOf22
 v22:=Tryz.zeroValue22}
def Tryz.laysC119_ren:Go.Shelf.Ren:=⟨fun | 41=>102 | n=>n,fun | 22=>23 | 23=>44 | 4=>4 | n=>n,fun | n=>n⟩
theorem Tryz.laysC119:Go.Proofs.SlLaysE0.n41 Tryz.prog Tryz.laysC119_ren:={
 mixed:=by kernel_rfl
 f41:=⟨Tryz.f102.name,by decide,Tryz.func102.trans (congrArg some (by kernel_rfl))⟩
 t4:=Tryz.underlying4
 a4:=Tryz.isAgg4
 z4:=Tryz.sizeOf4
 v4:=Tryz.zeroValue4
 t22:=Tryz.underlying23
 a22:=Tryz.isAgg23
 z22:=Tryz.sizeOf23
 v22:=Tryz.zeroValue23}
end Go.Proofs
