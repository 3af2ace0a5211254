/- Readers: abstract texts and what their walks come to: printed by wip/B/gen. No condition. -/
import Derived.Test.YtmkkljbfmdngfaaGreatDoorG1
import Derived.Test.YtmkkljbfmdngfaaGreatDoorB30
import Derived.Test.YtmkkljbfmdngfaaGreatDoorProg
import Derived.Shelf.RegionOpenPlain
import Derived.Lib.Strings
import Derived.Lib.Slices
import Derived.Lib.Walk
import Derived.Lib.Builder
import Derived.Lib.AppendStr
import Derived.Lib.UnsafeStr
import Derived.Lib.MakeNoZero
import Derived.WalkKit
import Derived.Laws.Externs
import Derived.Laws.IdiomCopy
import Derived.Laws.Tables
import Derived.KernelRfl
import Derived.Lib.FrozenHead
import Derived.Lib.FrozenHead2
set_option linter.all false
namespace Go.Proofs.YtmkkljbfmdngfaaGreatDoor
namespace B
set_option maxRecDepth 100000
theorem t61:okF P HH 76 1=true:=by kernel_rfl
theorem t63:okF P HH 124 1=true:=by kernel_rfl
theorem t64:okF P HH 77 1=true:=by kernel_rfl
theorem t108:okF P HH 165 1=true:=by kernel_rfl
theorem t110:okF P HH 151 2=true:=by kernel_rfl
theorem t133:okF P HH 193 2=true:=by kernel_rfl
theorem t134:okF P HH 184 1=true:=by kernel_rfl
theorem t135:okF P HH 185 1=true:=by kernel_rfl
theorem t136:okF P HH 186 2=true:=by kernel_rfl
theorem t137:okF P HH 194 1=true:=by kernel_rfl
theorem vc61 (l0:List D) (res:CV) (objs':List (Nat×List CV)) :walkA P (tbF P [163,148,112,129,134,118] [] 76) (anOf (afOf P HH 76) []) (afOf P HH 76) [CV.d (D.slice 1 l0)] [] (fun rs=>endE rs res objs') =((∃l1:List D,((Runs P 118 [CV.d (D.slice 1 l0)] [] (CV.own 1 l1) [])∧EndR (CV.ptr (6:Nat) (0:Nat)) res [(6,[CV.d (D.slice 1 l1),CV.d (D.int .i64 0)])] objs'))):=by kernel_rfl
theorem vc134 (l:List D) (e:Int) (res:CV) (objs':List (Nat×List CV)) :walkA P (tbF P [163,148,112,129,134,118] [] 184) (anOf (afOf P HH 184) [(0,1000,0)]) (afOf P HH 184) [CV.ptr (1000:Nat) (0:Nat)] [(1000,[CV.d (D.slice 1 l),CV.d (D.int .i64 e)])] (fun rs=>endE rs res objs') =((∀b2:Bool,((false||e !=0) =b2→EndR (CV.d (D.bool b2)) res [(1000,[CV.d (D.slice 1 l),CV.d (D.int .i64 e)])] objs'))):=by kernel_rfl
theorem vc136 (l:List D) (e:Int) (n:Int) (res:CV) (objs':List (Nat×List CV)) :walkA P (tbF P [163,148,112,129,134,118] [] 186) (anOf (afOf P HH 186) [(0,1000,0)]) (afOf P HH 186) [CV.ptr 1000 0,CV.d (D.int .i64 n)] [(1000,[CV.d (D.slice 1 l),CV.d (D.int .i64 e)])] (fun rs=>endE rs res objs') =(EndR (CV.tup []) res [(1000,[CV.d (D.slice 1 l),CV.d (D.int .i64 n)])] objs'):=by kernel_rfl
theorem vc63r (l:List D) (e:Int) (res:CV) (objs':List (Nat×List CV)) :walkA P (tbF P [163,148,112,129,134,118] [] 124) (anOf (afOf P HH 124) [(0,1000,0)]) (afOf P HH 124) [CV.ptr (1000:Nat) (0:Nat)] [(1000,[CV.d (D.slice 1 l),CV.d (D.int .i64 e)])] (fun rs=>endE rs res objs') =((((false) =true→EndR (CV.d (D.int .i64 (1:Int))) res [(1000,[CV.d (D.slice 1 l),CV.d (D.int .i64 e)])] objs')∧((false) =false→EndR (CV.d (D.int .i64 e)) res [(1000,[CV.d (D.slice 1 l),CV.d (D.int .i64 e)])] objs'))):=by kernel_rfl
theorem vc64r (l:List D) (e:Int) (res:CV) (objs':List (Nat×List CV)) :walkA P (tbF P [163,148,112,129,134,118] [] 77) (anOf (afOf P HH 77) [(0,1000,0)]) (afOf P HH 77) [CV.ptr (1000:Nat) (0:Nat)] [(1000,[CV.d (D.slice 1 l),CV.d (D.int .i64 e)])] (fun rs=>endE rs res objs') =((((false) =true→EndR (CV.d (D.int .i64 (0:Int))) res [(1000,[CV.d (D.slice 1 l),CV.d (D.int .i64 e)])] objs')∧((false) =false→EndR (CV.d (D.int .i64 (nI (List.length l)))) res [(1000,[CV.d (D.slice 1 l),CV.d (D.int .i64 e)])] objs'))):=by kernel_rfl
theorem vc133 (l:List D) (e:Int) (n:Int) (res:CV) (objs':List (Nat×List CV)) :walkA P (tbF P [163,148,112,129,134,118] [] 193) (anOf (afOf P HH 193) [(0,1000,0)]) (afOf P HH 193) [CV.ptr 1000 0,CV.d (D.int .i64 n)] [(1000,[CV.d (D.slice 1 l),CV.d (D.int .i64 e)])] (fun rs=>endE rs res objs') =((∃l3:List D,(∃n4:Int,(∃b5:Bool,((Runs P 184 [CV.ptr 1000 0] [(1000,[CV.d (D.slice 1 l),CV.d (D.int .i64 e)])] (CV.d (D.bool b5)) [(1000,[CV.d (D.slice 1 l3),CV.d (D.int .i64 n4)])])∧(((b5) =true→EndR (CV.d (D.int .i64 (0:Int))) res [(1000,[CV.d (D.slice 1 l3),CV.d (D.int .i64 n4)])] objs')∧((b5) =false→(((decide (nI (List.length l3) <n)) =true→(∃l6:List D,(∃n7:Int,((Runs P 186 [CV.ptr 1000 0,CV.d (D.int .i64 2)] [(1000,[CV.d (D.slice 1 l3),CV.d (D.int .i64 n4)])] (CV.tup []) [(1000,[CV.d (D.slice 1 l6),CV.d (D.int .i64 n7)])])∧EndR (CV.d (D.int .i64 (0:Int))) res [(1000,[CV.d (D.slice 1 l6),CV.d (D.int .i64 n7)])] objs'))))∧((decide (nI (List.length l3) <n)) =false→((0≤nI 0∧nI 0≤n∧n≤nI (List.length l3))∧(∀l8:List D,(List.drop (Int.toNat (nI 0)) (List.take (Int.toNat n) l3) =l8→(∃I9:(Int→(Int→(Nat→Prop))),((∃k10:Nat,I9 0 0 k10)∧(∀n11:Int,(∀n12:Int,(∀k13:Nat,(I9 n11 n12 k13→(((decide (n12<nI (List.length l8))) =true→((0≤n12∧n12<nI (List.length l8))∧(∃n14:Int,((D.cells (List.getD l8 (Int.toNat n12) D.nilp) = [D.int .u8 n14])∧(((0:Int)≤(8:Int))∧(∀n15:Int,(Go.IntKind.wrap Go.IntKind.i64 (n11*2 ^ Min.min (Int.toNat 8) (Go.IntKind.bits .i64)) =n15→(∀n16:Int,(Go.IntKind.wrap Go.IntKind.i64 n14=n16→(∀n17:Int,(Go.IntKind.wrap Go.IntKind.i64 (nI (BitVec.toNat (BitVec.ofInt (Go.IntKind.bits .i64) n15||| BitVec.ofInt (Go.IntKind.bits .i64) n16))) =n17→(∀n18:Int,(Go.IntKind.wrap Go.IntKind.i64 (n12+1) =n18→(∃k19:Nat,((k19<k13)∧I9 n17 n18 k19)))))))))))))))∧((decide (n12<nI (List.length l8))) =false→((0≤n∧n≤nI (List.length l3)∧nI (List.length l3)≤nI (List.length l3))∧(∀l20:List D,(List.drop (Int.toNat n) (List.take (Int.toNat (nI (List.length l3))) l3) =l20→EndR (CV.d (D.int .i64 n11)) res [(1000,[CV.d (D.slice 1 l20),CV.d (D.int .i64 n4)])] objs'))))))))))))))))))))))):=by kernel_rfl
theorem vc108 (l:List D) (e:Int) (res:CV) (objs':List (Nat×List CV)) :walkA P (tbF P [163,148,112,129,134,118] [] 165) (anOf (afOf P HH 165) [(0,1000,0)]) (afOf P HH 165) [CV.ptr (1000:Nat) (0:Nat)] [(1000,[CV.d (D.slice 1 l),CV.d (D.int .i64 e)])] (fun rs=>endE rs res objs') =((∃l2:List D,(∃n3:Int,(∃n4:Int,((Runs P 193 [CV.ptr 1000 0,CV.d (D.int .i64 4)] [(1000,[CV.d (D.slice 1 l),CV.d (D.int .i64 e)])] (CV.d (D.int .i64 n4)) [(1000,[CV.d (D.slice 1 l2),CV.d (D.int .i64 n3)])])∧EndR (CV.d (D.int .i64 n4)) res [(1000,[CV.d (D.slice 1 l2),CV.d (D.int .i64 n3)])] objs'))))):=by kernel_rfl
theorem vc137 (l:List D) (e:Int) (res:CV) (objs':List (Nat×List CV)) :walkA P (tbF P [163,148,112,129,134,118] [] 194) (anOf (afOf P HH 194) [(0,1000,0)]) (afOf P HH 194) [CV.ptr (1000:Nat) (0:Nat)] [(1000,[CV.d (D.slice 1 l),CV.d (D.int .i64 e)])] (fun rs=>endE rs res objs') =((∃l2:List D,(∃n3:Int,(∃n4:Int,((Runs P 193 [CV.ptr 1000 0,CV.d (D.int .i64 1)] [(1000,[CV.d (D.slice 1 l),CV.d (D.int .i64 e)])] (CV.d (D.int .i64 n4)) [(1000,[CV.d (D.slice 1 l2),CV.d (D.int .i64 n3)])])∧EndR (CV.d (D.int .i64 n4)) res [(1000,[CV.d (D.slice 1 l2),CV.d (D.int .i64 n3)])] objs'))))):=by kernel_rfl
theorem vc135 (l0:List D) (res:CV) (objs':List (Nat×List CV)) :walkA P (tbF P [163,148,112,129,134,118] [] 185) (anOf (afOf P HH 185) []) (afOf P HH 185) [CV.d (D.slice 1 l0)] [] (fun rs=>endE rs res objs') =((∃I1:(Int→(Int→(Nat→Prop))),((∃k2:Nat,I1 0 0 k2)∧(∀n3:Int,(∀n4:Int,(∀k5:Nat,(I1 n3 n4 k5→(((decide (n3<6)) =true→(((n3==nI (List.length l0)) =true→EndR (CV.tup [CV.d (D.int .i64 (0:Int)),CV.d (D.int .i64 (0:Int)),CV.d (D.int .i64 (2:Int))]) res [] objs')∧((n3==nI (List.length l0)) =false→((0≤n3∧n3<nI (List.length l0))∧(∃n6:Int,((D.cells (List.getD l0 (Int.toNat n3) D.nilp) = [D.int .u8 n6])∧(∀n7:Int,(Go.IntKind.wrap Go.IntKind.u8 (nI (BitVec.toNat (BitVec.ofInt (Go.IntKind.bits .u8) n6&&& BitVec.ofInt (Go.IntKind.bits .u8) 127))) =n7→(∀n8:Int,(Go.IntKind.wrap Go.IntKind.i64 n7=n8→(∀n9:Int,(Go.IntKind.wrap Go.IntKind.i64 (7*n3) =n9→((0≤n9)∧(∀n10:Int,(Go.IntKind.wrap Go.IntKind.i64 (n8*2 ^ Min.min (Int.toNat n9) (Go.IntKind.bits .i64)) =n10→(∀n11:Int,(Go.IntKind.wrap Go.IntKind.i64 (nI (BitVec.toNat (BitVec.ofInt (Go.IntKind.bits .i64) n4||| BitVec.ofInt (Go.IntKind.bits .i64) n10))) =n11→((0≤n3∧n3<nI (List.length l0))∧(∃n12:Int,((D.cells (List.getD l0 (Int.toNat n3) D.nilp) = [D.int .u8 n12])∧(((decide (n12≥128)) =true→(∀n13:Int,(Go.IntKind.wrap Go.IntKind.i64 (n3+1) =n13→(∃k14:Nat,((k14<k5)∧I1 n13 n11 k14)))))∧((decide (n12≥128)) =false→((0≤n3∧n3<nI (List.length l0))∧(∃n15:Int,((D.cells (List.getD l0 (Int.toNat n3) D.nilp) = [D.int .u8 n15])∧(∀b16:Bool,((n15==0&&decide (n3>0)) =b16→(∀b17:Bool,((b16||decide (n11>1099511627776)) =b17→(((b17) =true→EndR (CV.tup [CV.d (D.int .i64 (0:Int)),CV.d (D.int .i64 (0:Int)),CV.d (D.int .i64 (3:Int))]) res [] objs')∧((b17) =false→(∀n18:Int,(Go.IntKind.wrap Go.IntKind.i64 (n3+1) =n18→EndR (CV.tup [CV.d (D.int .i64 n11),CV.d (D.int .i64 n18),CV.d (D.int .i64 0)]) res [] objs')))))))))))))))))))))))))))))))))∧((decide (n3<6)) =false→EndR (CV.tup [CV.d (D.int .i64 (0:Int)),CV.d (D.int .i64 (0:Int)),CV.d (D.int .i64 (3:Int))]) res [] objs'))))))))):=by kernel_rfl
theorem vc110 (l:List D) (e:Int) (n:Int) (res:CV) (objs':List (Nat×List CV)) :walkA P (tbF P [163,148,112,129,134,118] [] 151) (anOf (afOf P HH 151) [(0,1000,0)]) (afOf P HH 151) [CV.ptr 1000 0,CV.d (D.int .i64 n)] [(1000,[CV.d (D.slice 1 l),CV.d (D.int .i64 e)])] (fun rs=>endE rs res objs') =((∃l3:List D,(∃n4:Int,(∃b5:Bool,((Runs P 184 [CV.ptr 1000 0] [(1000,[CV.d (D.slice 1 l),CV.d (D.int .i64 e)])] (CV.d (D.bool b5)) [(1000,[CV.d (D.slice 1 l3),CV.d (D.int .i64 n4)])])∧(((b5) =true→EndR (CV.d (D.str [])) res [(1000,[CV.d (D.slice 1 l3),CV.d (D.int .i64 n4)])] objs')∧((b5) =false→(∃n6:Int,(∃n7:Int,(∃n8:Int,((Runs P 185 [CV.d (D.slice 1 l3)] [] (CV.tup [CV.d (D.int .i64 n6),CV.d (D.int .i64 n7),CV.d (D.int .i64 n8)]) [])∧(((n8 !=0) =true→(((n8 !=0) =true→(∃l9:List D,(∃n10:Int,((Runs P 186 [CV.ptr 1000 0,CV.d (D.int .i64 n8)] [(1000,[CV.d (D.slice 1 l3),CV.d (D.int .i64 n4)])] (CV.tup []) [(1000,[CV.d (D.slice 1 l9),CV.d (D.int .i64 n10)])])∧EndR (CV.d (D.str [])) res [(1000,[CV.d (D.slice 1 l9),CV.d (D.int .i64 n10)])] objs'))))∧((n8 !=0) =false→(∀n11:Int,(Go.IntKind.wrap Go.IntKind.i64 (n7+n6) =n11→((0≤n7∧n7≤n11∧n11≤nI (List.length l3))∧(∀l12:List D,(List.drop (Int.toNat n7) (List.take (Int.toNat n11) l3) =l12→(∃s13:Bytes,((l12=List.map byteD s13)∧(∀n14:Int,(Go.IntKind.wrap Go.IntKind.i64 (n7+n6) =n14→((0≤n14∧n14≤nI (List.length l3)∧nI (List.length l3)≤nI (List.length l3))∧(∀l15:List D,(List.drop (Int.toNat n14) (List.take (Int.toNat (nI (List.length l3))) l3) =l15→EndR (CV.d (D.str s13)) res [(1000,[CV.d (D.slice 1 l15),CV.d (D.int .i64 n4)])] objs')))))))))))))))∧((n8 !=0) =false→(((decide (n6>n)) =true→(((3 !=0) =true→(∃l16:List D,(∃n17:Int,((Runs P 186 [CV.ptr 1000 0,CV.d (D.int .i64 3)] [(1000,[CV.d (D.slice 1 l3),CV.d (D.int .i64 n4)])] (CV.tup []) [(1000,[CV.d (D.slice 1 l16),CV.d (D.int .i64 n17)])])∧EndR (CV.d (D.str [])) res [(1000,[CV.d (D.slice 1 l16),CV.d (D.int .i64 n17)])] objs'))))∧((3 !=0) =false→(∀n18:Int,(Go.IntKind.wrap Go.IntKind.i64 (n7+n6) =n18→((0≤n7∧n7≤n18∧n18≤nI (List.length l3))∧(∀l19:List D,(List.drop (Int.toNat n7) (List.take (Int.toNat n18) l3) =l19→(∃s20:Bytes,((l19=List.map byteD s20)∧(∀n21:Int,(Go.IntKind.wrap Go.IntKind.i64 (n7+n6) =n21→((0≤n21∧n21≤nI (List.length l3)∧nI (List.length l3)≤nI (List.length l3))∧(∀l22:List D,(List.drop (Int.toNat n21) (List.take (Int.toNat (nI (List.length l3))) l3) =l22→EndR (CV.d (D.str s20)) res [(1000,[CV.d (D.slice 1 l22),CV.d (D.int .i64 n4)])] objs')))))))))))))))∧((decide (n6>n)) =false→(∀n23:Int,(Go.IntKind.wrap Go.IntKind.i64 (nI (List.length l3) -n7) =n23→(((decide (n6>n23)) =true→(((2 !=0) =true→(∃l24:List D,(∃n25:Int,((Runs P 186 [CV.ptr 1000 0,CV.d (D.int .i64 2)] [(1000,[CV.d (D.slice 1 l3),CV.d (D.int .i64 n4)])] (CV.tup []) [(1000,[CV.d (D.slice 1 l24),CV.d (D.int .i64 n25)])])∧EndR (CV.d (D.str [])) res [(1000,[CV.d (D.slice 1 l24),CV.d (D.int .i64 n25)])] objs'))))∧((2 !=0) =false→(∀n26:Int,(Go.IntKind.wrap Go.IntKind.i64 (n7+n6) =n26→((0≤n7∧n7≤n26∧n26≤nI (List.length l3))∧(∀l27:List D,(List.drop (Int.toNat n7) (List.take (Int.toNat n26) l3) =l27→(∃s28:Bytes,((l27=List.map byteD s28)∧(∀n29:Int,(Go.IntKind.wrap Go.IntKind.i64 (n7+n6) =n29→((0≤n29∧n29≤nI (List.length l3)∧nI (List.length l3)≤nI (List.length l3))∧(∀l30:List D,(List.drop (Int.toNat n29) (List.take (Int.toNat (nI (List.length l3))) l3) =l30→EndR (CV.d (D.str s28)) res [(1000,[CV.d (D.slice 1 l30),CV.d (D.int .i64 n4)])] objs')))))))))))))))∧((decide (n6>n23)) =false→(((n8 !=0) =true→(∃l31:List D,(∃n32:Int,((Runs P 186 [CV.ptr 1000 0,CV.d (D.int .i64 n8)] [(1000,[CV.d (D.slice 1 l3),CV.d (D.int .i64 n4)])] (CV.tup []) [(1000,[CV.d (D.slice 1 l31),CV.d (D.int .i64 n32)])])∧EndR (CV.d (D.str [])) res [(1000,[CV.d (D.slice 1 l31),CV.d (D.int .i64 n32)])] objs'))))∧((n8 !=0) =false→(∀n33:Int,(Go.IntKind.wrap Go.IntKind.i64 (n7+n6) =n33→((0≤n7∧n7≤n33∧n33≤nI (List.length l3))∧(∀l34:List D,(List.drop (Int.toNat n7) (List.take (Int.toNat n33) l3) =l34→(∃s35:Bytes,((l34=List.map byteD s35)∧(∀n36:Int,(Go.IntKind.wrap Go.IntKind.i64 (n7+n6) =n36→((0≤n36∧n36≤nI (List.length l3)∧nI (List.length l3)≤nI (List.length l3))∧(∀l37:List D,(List.drop (Int.toNat n36) (List.take (Int.toNat (nI (List.length l3))) l3) =l37→EndR (CV.d (D.str s35)) res [(1000,[CV.d (D.slice 1 l37),CV.d (D.int .i64 n4)])] objs'))))))))))))))))))))))))))))))))):=by kernel_rfl
end B
end Go.Proofs.YtmkkljbfmdngfaaGreatDoor
namespace Go.Proofs.YtmkkljbfmdngfaaGreatDoor
namespace B
open Go.RowKit
theorem endO {c res:CV} {bx:List (Nat×List CV)} {cs:List CV} {b:Nat} (h:c=res) (h':bx.lookup b=some cs) (hc:(⟨[res],[(b,cs)]⟩ :St).clo=true) :EndR c res bx [(b,cs)]:=by
 subst h
 exact ⟨Wr_refl c,⟨by rw [h'];exact WcL_refl cs,trivial⟩,hc⟩
theorem range2c {X:Type} {N:Nat} {G:(Int→X→Nat→Prop)→Int→X→Nat→Prop} {E:X→Int→Prop} {x0:X} (c:Int) (hc:c=N) (J:Nat→X→Prop) (hN:N≤9223372036854775806) (h0:J 0 x0)
  (hs: ∀i,i<N→∀x,J i x→∀(I:Int→X→Nat→Prop) (k:Nat),(∀x',J (i+1) x'→∀m:Int,Go.IntKind.wrap .i64 ((i:Int) +1) =m→∃k',k'<k∧I m x' k')→G I i x k) (he: ∀x,J N x→E x N) :
  ∃I:Int→X→Nat→Prop,(∃k,I 0 x0 k)∧∀n x k,I n x k→((decide (n<c) =true→G I n x k)∧(decide (n<c) =false→E x n)):=by
 subst hc
 exact range2' J hN h0 (fun i hi _=>hs i hi) he
theorem bs_get (s:Bytes) {i:Nat} (h:i<s.length) :(bs s).getD (Int.toNat (i:Int)) .nilp=byteD s[i]:=getD_map _ s h
theorem bs_take (s:Bytes) (n:Int) :List.drop (Int.toNat (nI 0)) (List.take (Int.toNat n) (bs s)) =bs (s.take n.toNat):=by simp [nI,bs,List.map_take]
theorem bs_drop (s:Bytes) (n:Int) :List.drop (Int.toNat n) (List.take (Int.toNat (nI s.length)) (bs s)) =bs (s.drop n.toNat):=by
 simp only [nI,Int.toNat_natCast]
 rw [List.take_of_length_le (by rw [bs_len];exact Nat.le_refl _)]
 simp [bs,List.map_drop]
theorem bs_cut (s:Bytes) (a b:Nat) :List.drop (Int.toNat (a:Int)) (List.take (Int.toNat (b:Int)) (bs s)) =bs ((s.take b).drop a):=by
 simp only [Int.toNat_natCast,bs,List.map_take,List.map_drop]
abbrev Rd (α:Type):=Bytes→Except Int (α×Bytes)
def rd {α:Type} (p:Rd α) (x:α) (s:Bytes) (e:Int) :α×Bytes×Int:=if e=0 then (match p s with | .ok (a,r)=>(a,r,0) | .error k=>(x,s,k)) else (x,s,e)
abbrev rdr (s:Bytes) (e:Int) :List CV:=[.d (.slice 1 (bs s)), .d (.int .i64 e)]
def beV (s:Bytes) :Nat:=s.foldl (fun n c=>n*256+c.toNat) 0
theorem beV_lt: ∀(s:Bytes),beV s<256 ^ s.length:=by
 have: ∀(s:Bytes) (n k:Nat),n<256 ^ k→s.foldl (fun n c=>n*256+c.toNat) n<256 ^ (k+s.length):=by
  intro s
  induction s with
  | nil=>exact fun n k h=>h
  | cons c r ih=>
   intro n k h
   have:=ih (n*256+c.toNat) (k+1) (by have:=c.toNat_lt;rw [Nat.pow_succ];omega)
   simp only [List.foldl_cons,List.length_cons]
   rw [show k+(r.length+1) =k+1+r.length by omega];exact this
 intro s
 have:=this s 0 0 (by decide)
 rwa [Nat.zero_add] at this
theorem beV_take (s:Bytes) {i:Nat} (h:i<s.length) :beV (s.take (i+1)) =beV (s.take i) *256+s[i].toNat:=by
 unfold beV;rw [List.take_succ_eq_append_getElem h,List.foldl_append];rfl
def bytesP (k:Nat) :Rd Int:=fun s=>if s.length<k then .error 2 else .ok (beV (s.take k),s.drop k)
def fixedP:Rd Int:=bytesP 4
def byteP:Rd Int:=bytesP 1
theorem or_add (a b k:Nat) (h:b<2 ^ k) :a*2 ^ k||| b=a*2 ^ k+b:=by
 rw [Nat.mul_comm];exact (Nat.two_pow_add_eq_or_of_lt h a).symm
theorem r134 (s:Bytes) (e:Int) :Runs P 184 [.ptr 1000 0] [(1000,rdr s e)] (.d (.bool (e !=0))) [(1000,rdr s e)]:=by
 refine runs_walkZ t134 (vc134 _ _ _ _) rfl (by simp) ?_
 rintro _ rfl
 exact endO (by simp) rfl rfl
theorem r136 (s:Bytes) (e n:Int) :Runs P 186 [.ptr 1000 0, .d (.int .i64 n)] [(1000,rdr s e)] (.tup []) [(1000,rdr s n)]:=by
 refine runs_walkZ t136 (vc136 _ _ _ _ _) rfl (by simp) ?_
 exact endO rfl rfl rfl
theorem r63 (s:Bytes) (e:Int) :Runs P 124 [.ptr 1000 0] [(1000,rdr s e)] (.d (.int .i64 e)) [(1000,rdr s e)]:=by
 refine runs_walkZ t63 (vc63r _ _ _ _) rfl (by simp) ?_
 exact ⟨fun h=>by simp at h,fun _=>endO rfl rfl rfl⟩
theorem r64 (s:Bytes) (e:Int) :Runs P 77 [.ptr 1000 0] [(1000,rdr s e)] (.d (.int .i64 s.length)) [(1000,rdr s e)]:=by
 refine runs_walkZ t64 (vc64r _ _ _ _) rfl (by simp) ?_
 exact ⟨fun h=>by simp at h,fun _=>endO (by simp [nI,bs_len]) rfl rfl⟩
theorem r61 (s:Bytes) (h:s.length≤1099511627776) :Runs P 76 [.d (.slice 1 (bs s))] [] (.ptr 6 0) [(6,rdr s 0)]:=by
 refine runs_walkZ t61 (vc61 _ _ _) rfl (by simp) ?_
 exact ⟨_,r107 _ (by rw [bs_len];omega),endO rfl rfl rfl⟩
theorem rd_e {α:Type} (p:Rd α) (x:α) (s:Bytes) {e:Int} (h:e≠0) :rd p x s e=(x,s,e):=by unfold rd;rw [if_neg h]
theorem rd_ok {α:Type} {p:Rd α} (x:α) {s:Bytes} {a:α} {r:Bytes} (h:p s= .ok (a,r)) :rd p x s 0=(a,r,0):=by unfold rd;rw [if_pos rfl,h]
theorem rd_er {α:Type} {p:Rd α} (x:α) {s:Bytes} {k:Int} (h:p s= .error k) :rd p x s 0=(x,s,k):=by unfold rd;rw [if_pos rfl,h]
theorem r133 (k:Nat) (s:Bytes) (e:Int) (hk:k≤4) (hs:s.length≤1099511627776) :Runs P 193 [.ptr 1000 0, .d (.int .i64 k)] [(1000,rdr s e)] (.d (.int .i64 (rd (bytesP k) 0 s e).1)) [(1000,rdr (rd (bytesP k) 0 s e).2.1 (rd (bytesP k) 0 s e).2.2)]:=by
 refine runs_walkZ t133 (vc133 _ _ _ _ _) rfl (by simp) ?_
 refine ⟨_,_,_,r134 s e,fun h=> ?_,fun h=> ?_⟩
 ·have h:e≠0:=by simpa using h
  rw [rd_e _ _ _ h]
  exact endO rfl rfl rfl
 have h:e=0:=by simpa using h
 subst h
 rw [bs_len]
 refine ⟨fun h=> ?_,fun h=> ?_⟩
 ·have h:=of_decide_eq_true h
  have:bytesP k s= .error 2:=by unfold bytesP;rw [if_pos (by simp only [nI] at h;omega)]
  rw [rd_er _ this]
  exact ⟨_,_,r136 s 0 2,endO rfl rfl rfl⟩
 ·have h:=of_decide_eq_false h
  simp only [nI] at h
  have e1:bytesP k s= .ok ((beV (s.take k) :Int),s.drop k):=by unfold bytesP;rw [if_neg (by omega)]
  rw [rd_ok _ e1]
  refine ⟨⟨by simp [nI],by simp [nI],by simp only [nI];omega⟩, ?_⟩
  rintro _ rfl
  rw [bs_take,bs_len,Int.toNat_natCast]
  refine range2 (fun i n=>n=((beV ((s.take k).take i) :Nat) :Int)) (by rw [List.length_take];omega) rfl (fun i hi bd n hJ I q next=>⟨bd, ?_⟩) fun n hJ=> ?_
  ·subst hJ
   refine ⟨((s.take k)[i].toNat:Int),by rw [bs_get _ hi];rfl,by decide, ?_⟩
   have hlt:=beV_lt ((s.take k).take i)
   have hc:=(s.take k)[i].toNat_lt
   have hi4:i≤3:=by rw [List.length_take] at hi;omega
   have hp:(256:Nat) ^ ((s.take k).take i).length≤256 ^ 3:=Nat.pow_le_pow_right (by decide) (by rw [List.length_take];omega)
   have hv:=beV_take (s.take k) hi
   rw [show (2:Int) ^ Min.min (Int.toNat 8) (Go.IntKind.bits .i64) =256 by decide]
   rintro n15 h15 n16 h16 n17 h17
   rw [W64 (by omega) (by omega)] at h15 h16
   refine next _ ?_
   have e3:n15=((beV ((s.take k).take i) *2 ^ 8:Nat) :Int):=by rw [←h15];omega
   rw [←h17,e3,←h16,or64 _ _ (by omega) (by omega),or_add _ _ 8 hc,hv]
  ·rw [List.take_length] at hJ
   refine ⟨⟨by omega,by simp only [nI];omega,Int.le_refl _⟩, ?_⟩
   rintro _ rfl
   exact endO (by rw [hJ]) (by have:=bs_drop s (k:Int);rw [Int.toNat_natCast] at this;rw [this];rfl) rfl
theorem r108 (s:Bytes) (e:Int) (hs:s.length≤1099511627776) :Runs P 165 [.ptr 1000 0] [(1000,rdr s e)] (.d (.int .i64 (rd fixedP 0 s e).1)) [(1000,rdr (rd fixedP 0 s e).2.1 (rd fixedP 0 s e).2.2)]:=by
 refine runs_walkZ t108 (vc108 _ _ _ _) rfl (by simp) ?_
 exact ⟨_,_,_,r133 4 s e (by decide) hs,endO rfl rfl rfl⟩
theorem r137 (s:Bytes) (e:Int) (hs:s.length≤1099511627776) :Runs P 194 [.ptr 1000 0] [(1000,rdr s e)] (.d (.int .i64 (rd byteP 0 s e).1)) [(1000,rdr (rd byteP 0 s e).2.1 (rd byteP 0 s e).2.2)]:=by
 refine runs_walkZ t137 (vc137 _ _ _ _) rfl (by simp) ?_
 exact ⟨_,_,_,r133 1 s e (by decide) hs,endO rfl rfl rfl⟩
def numGo:Nat→Nat→Nat→Bytes→Except Int (Nat×Nat)
 | 0,_,_,_=> .error 3
 | _+1,_,_,[]=> .error 2
 | f+1,i,acc,c :: r=>
  if 128≤c.toNat then numGo f (i+1) (acc+c.toNat % 128*128 ^ i) r
  else if (c.toNat=0∧0<i)∨1099511627776<acc+c.toNat*128 ^ i then .error 3 else .ok (acc+c.toNat*128 ^ i,i+1)
def numP (s:Bytes) :Except Int (Nat×Nat):=numGo 6 0 0 s
def resN:Except Int (Nat×Nat)→CV
 | .ok (n,k)=> .tup [.d (.int .i64 n), .d (.int .i64 k), .d (.int .i64 0)]
 | .error e=> .tup [.d (.int .i64 0), .d (.int .i64 0), .d (.int .i64 e)]
theorem pow7 (i:Nat) (h:i<6) :(2:Int) ^ Min.min (Int.toNat ((7*i:Nat) :Int)) (Go.IntKind.bits .i64) =((128 ^ i:Nat) :Int):=by
 match i,h with
 | 0,_=>decide
 | 1,_=>decide
 | 2,_=>decide
 | 3,_=>decide
 | 4,_=>decide
 | 5,_=>decide
theorem p128 (i:Nat) :128 ^ i=2 ^ (7*i):=by rw [Nat.pow_mul]
theorem acc_or {acc c i:Nat} (h:acc<128 ^ i) :acc||| c*128 ^ i=acc+c*128 ^ i:=by
 rw [p128] at h⊢
 rw [Nat.or_comm,or_add _ _ _ h];omega
theorem acc_lt {acc c i:Nat} (h:acc<128 ^ i) (hc:c<128) :acc+c*128 ^ i<128 ^ (i+1):=by
 rw [Nat.pow_succ]
 have:c*128 ^ i≤127*128 ^ i:=Nat.mul_le_mul_right _ (by omega)
 omega
theorem pow_le6 {i:Nat} (h:i<6) :128 ^ (i+1)≤4398046511104:=by
 have:128 ^ (i+1)≤128 ^ 6:=Nat.pow_le_pow_right (by decide) (by omega)
 exact Nat.le_trans this (by decide)
theorem and8_fin: ∀r:Fin 256,(BitVec.ofInt 8 (r.val:Int) &&& BitVec.ofInt 8 127).toNat=r.val % 128:=by decide+kernel
theorem and8 (c:UInt8) :Go.IntKind.wrap .u8 (nI (BitVec.toNat (BitVec.ofInt (Go.IntKind.bits .u8) (c.toNat:Int) &&& BitVec.ofInt (Go.IntKind.bits .u8) 127))) =((c.toNat % 128:Nat) :Int):=by
 have:=and8_fin ⟨c.toNat,c.toNat_lt⟩
 rw [show Go.IntKind.bits .u8=8 from rfl,this,w8]
 simp only [nI];omega
theorem r135 (s:Bytes) (hs:s.length≤1099511627776) :Runs P 185 [.d (.slice 1 (bs s))] [] (resN (numP s)) []:=by
 refine runs_walkZ t135 (vc135 _ _ _) rfl (by simp) ?_
 rw [bs_len]
 refine range2c (N:=6) 6 rfl (fun i n=>∃acc:Nat,n=acc∧acc<128 ^ i∧i≤s.length∧numP s=numGo (6-i) i acc (s.drop i)) (by decide) ⟨0,rfl,by decide,by omega,rfl⟩ (fun i hi n hJ I k next=> ?_) fun n hJ=> ?_
 ·obtain ⟨acc,rfl,ha,hil,hJ⟩:=hJ
  have e6:6-i=(6-(i+1)) +1:=by omega
  rw [e6] at hJ
  refine ⟨fun h=> ?_,fun h=> ?_⟩
  ·have:i=s.length:=by simp only [nI,beq_iff_eq] at h;omega
   subst this
   rw [List.drop_length,numGo] at hJ
   rw [hJ];exact end0 rfl rfl
  have hlt:i<s.length:=by simp only [nI,beq_eq_false_iff_ne] at h;omega
  rw [drop_cons hlt,numGo] at hJ
  have hc:=s[i].toNat_lt
  have bd:0≤(i:Int)∧(i:Int) <nI s.length:=⟨by omega,by simp only [nI];omega⟩
  refine ⟨bd,(s[i].toNat:Int),by rw [bs_get _ hlt];rfl, ?_⟩
  rintro n7 h7 n8 h8 n9 h9
  rw [and8] at h7
  rw [←h7,W64 (by omega) (by omega)] at h8
  have h9:n9=((7*i:Nat) :Int):=by rw [←h9,W64 (by omega) (by omega)];omega
  subst h9
  refine ⟨by omega, ?_⟩
  rintro n10 h10 n11 h11
  have hal:=acc_lt (c:=s[i].toNat % 128) ha (by omega)
  have hpl:=pow_le6 hi
  have h10:n10=((s[i].toNat % 128*128 ^ i:Nat) :Int):=by
   rw [←h10,←h8,pow7 i hi,←Int.natCast_mul,W64 (by omega) (by omega)]
  rw [h10,or64 _ _ (by omega) (by omega),acc_or ha] at h11
  refine ⟨bd,(s[i].toNat:Int),by rw [bs_get _ hlt];rfl,fun h=> ?_,fun h=> ?_⟩
  ·have h:=of_decide_eq_true h
   rw [if_pos (by omega)] at hJ
   exact next _ ⟨_,h11.symm,hal,by omega,hJ⟩
  ·have h:=of_decide_eq_false h
   rw [if_neg (by omega)] at hJ
   refine ⟨bd,(s[i].toNat:Int),by rw [bs_get _ hlt];rfl, ?_⟩
   have hm:s[i].toNat % 128=s[i].toNat:=by omega
   rw [hm] at h11
   rintro _ rfl b17 h17
   have e17:b17=true↔((s[i].toNat=0∧0<i)∨1099511627776<acc+s[i].toNat*128 ^ i):=by
    rw [←h17,←h11]
    simp only [Bool.or_eq_true,Bool.and_eq_true,beq_iff_eq,decide_eq_true_eq]
    omega
   refine ⟨fun h=> ?_,fun h=> ?_⟩
   ·rw [if_pos (e17.1 h)] at hJ
    rw [hJ];exact end0 rfl rfl
   ·rw [if_neg (fun hh=>by rw [e17.2 hh] at h;cases h)] at hJ
    rintro _ rfl
    rw [hJ,W64 (by omega) (by omega),←h11];exact end0 rfl rfl
 ·obtain ⟨acc,rfl,ha,hil,hJ⟩:=hJ
  rw [hJ];exact end0 rfl rfl
theorem numGo_len: ∀(f i acc:Nat) (s:Bytes) (n k:Nat),numGo f i acc s= .ok (n,k)→i<k∧k≤i+s.length∧n≤1099511627776
 | 0,_,_,_,_,_,h=>by simp [numGo] at h
 | _+1,_,_,[],_,_,h=>by simp [numGo] at h
 | f+1,i,acc,c :: r,n,k,h=>by
  rw [numGo] at h
  split at h
  ·have:=numGo_len f (i+1) _ r n k h
   simp only [List.length_cons];omega
  ·split at h
   ·cases h
   ·rename_i h1
    simp only [Except.ok.injEq,Prod.mk.injEq] at h
    simp only [List.length_cons];omega
def textP (most:Int) :Rd Bytes:=fun s=>match numP s with
 | .error e=> .error e
 | .ok (n,k)=>if (n:Int) >most then .error 3 else if n>s.length-k then .error 2 else .ok ((s.drop k).take n,s.drop (k+n))
theorem numGo_er: ∀(f i acc:Nat) (s:Bytes) (e:Int),numGo f i acc s= .error e→e=2∨e=3
 | 0,_,_,_,_,h=>by simp [numGo] at h;omega
 | _+1,_,_,[],_,h=>by simp [numGo] at h;omega
 | f+1,i,acc,c :: r,e,h=>by
  rw [numGo] at h
  split at h
  ·exact numGo_er f (i+1) _ r e h
  ·split at h
   ·simp at h;omega
   ·cases h
end B
end Go.Proofs.YtmkkljbfmdngfaaGreatDoor
namespace Go.Proofs.YtmkkljbfmdngfaaGreatDoor
namespace B
open Go.RowKit
theorem Runs.at {f:Nat} {xs:List D} {s s':Bytes} {e e':Int} {res:D} (h:Runs P f (.ptr 1000 0 :: xs.map .d) [(1000,rdr s e)] (.d res) [(1000,rdr s' e')]) (b:Nat) (hm:mvF f=false:=by decide) :
  Runs P f (.ptr b 0 :: xs.map .d) [(b,rdr s e)] (.d res) [(b,rdr s' e')]:=by
 have:=h.swap 1000 b (.inr hm)
 simpa [CV.ren,CV.ren1,renB,swp,Function.comp_def] using this
theorem sub_take (s:Bytes) (k n:Nat) :(s.take (k+n)).drop k=(s.drop k).take n:=by
 rw [List.drop_take];congr 1;omega
theorem r110 (s:Bytes) (e most:Int) (hs:s.length≤1099511627776) :Runs P 151 [.ptr 1000 0, .d (.int .i64 most)] [(1000,rdr s e)] (.d (.str (rd (textP most) [] s e).1)) [(1000,rdr (rd (textP most) [] s e).2.1 (rd (textP most) [] s e).2.2)]:=by
 refine runs_walkZ t110 (vc110 _ _ _ _ _) rfl (by simp) ?_
 refine ⟨_,_,_,r134 s e,fun h=> ?_,fun h=> ?_⟩
 ·have h:e≠0:=by simpa using h
  rw [rd_e _ _ _ h]
  exact endO rfl rfl rfl
 have h:e=0:=by simpa using h
 subst h
 have h135:=r135 s hs
 rw [bs_len]
 cases hN:numP s with
 | error x=>
  rw [hN] at h135
  have hx:=numGo_er 6 0 0 s x hN
  have e1:textP most s= .error x:=by unfold textP;rw [hN]
  rw [rd_er _ e1]
  refine ⟨_,_,_,h135,fun _=>⟨fun _=>⟨_,_,r136 s 0 x,endO rfl rfl rfl⟩,fun h=> ?_⟩,fun h=> ?_⟩
  ·simp at h;omega
  ·simp at h;omega
 | ok p=>
  obtain ⟨n,k⟩:=p
  rw [hN] at h135
  obtain ⟨hk1,hk2,hn⟩:=numGo_len 6 0 0 s n k hN
  refine ⟨_,_,_,h135,fun h=>by simp at h,fun _=>⟨fun h1=> ?_,fun h1=> ?_⟩⟩
  ·have h1:=of_decide_eq_true h1
   have e1:textP most s= .error 3:=by unfold textP;rw [hN];simp only;rw [if_pos h1]
   rw [rd_er _ e1]
   exact ⟨fun _=>⟨_,_,r136 s 0 3,endO rfl rfl rfl⟩,fun h=>by simp at h⟩
  have h1:=of_decide_eq_false h1
  rintro n23 h23
  simp only [nI] at h23
  rw [W64 (by omega) (by omega)] at h23
  subst h23
  refine ⟨fun h2=> ?_,fun h2=> ?_⟩
  ·have h2:=of_decide_eq_true h2
   have e1:textP most s= .error 2:=by unfold textP;rw [hN];simp only;rw [if_neg h1,if_pos (by omega)]
   rw [rd_er _ e1]
   exact ⟨fun _=>⟨_,_,r136 s 0 2,endO rfl rfl rfl⟩,fun h=>by simp at h⟩
  have h2:=of_decide_eq_false h2
  have e1:textP most s= .ok ((s.drop k).take n,s.drop (k+n)):=by unfold textP;rw [hN];simp only;rw [if_neg h1,if_neg (by omega)]
  rw [rd_ok _ e1]
  refine ⟨fun h=>by simp at h,fun _=> ?_⟩
  rintro n33 h33
  rw [W64 (by omega) (by omega)] at h33
  have h33:n33=((k+n:Nat) :Int):=by rw [←h33];omega
  subst h33
  refine ⟨⟨by omega,by omega,by simp only [nI];omega⟩, ?_⟩
  rintro _ rfl
  refine ⟨(s.take (k+n)).drop k,by rw [bs_cut];rfl, ?_⟩
  rintro n36 h36
  rw [W64 (by omega) (by omega)] at h36
  have h36:n36=((k+n:Nat) :Int):=by rw [←h36];omega
  subst h36
  refine ⟨⟨by omega,by simp only [nI];omega,Int.le_refl _⟩, ?_⟩
  rintro _ rfl
  exact endO (by rw [sub_take]) (by rw [bs_drop,Int.toNat_natCast];rfl) rfl
end B
end Go.Proofs.YtmkkljbfmdngfaaGreatDoor
namespace Go.Proofs.YtmkkljbfmdngfaaGreatDoor
namespace NB
open Go.RowKit Go.Shelf
theorem sizeB:(Tryz.prog.info? 167).map (·.size) =some 2:=by kernel_rfl
theorem liesB:liesAt Tryz.prog Tryz.prog.depth 167 (2 / Tryz.prog.cellsOf 167) 0 167 1=true:=by kernel_rfl
theorem cellsByte:Tryz.prog.cellsOf 5=1:=by kernel_rfl
theorem sizeByte:(Tryz.prog.info? 5).map (·.size) =some 1:=by kernel_rfl
set_option maxRecDepth 100000 in
theorem check_fresh (w:World) (b:Nat) (h:w.cell? ⟨b,0,none⟩ =some (.pointer none)) (hsh:w.shape? b=some (167,2)) (hfz:w.frozen? ⟨b,0,none⟩ =false) :
  Calls Tryz.prog 177 #[.pointer (some ⟨b,0,none⟩)] w fun e w'=>e= .returned (.tuple #[])∧w'=w.setCell ⟨b,0,none⟩ (.pointer (some ⟨b,0,none⟩)):=by
 obtain ⟨j,hj,hjs⟩:=Option.map_eq_some_iff.1 sizeB
 go_enter Tryz.func177,Tryz.ntmps177
 go_wp2
 rw [Lib.run_to_unsafe w ⟨b,0,none⟩ Tryz.underlying165 Tryz.underlying207 hj (by rw [hjs];decide) hsh (Nat.zero_lt_succ 1)]
 simp only [Result.andThen]
 rw [Oper.upon_value]
 go_wp2
 rw [run_callFunc_extern Tryz.func198 (by kernel_rfl) (by kernel_rfl) (by kernel_rfl) (e:=Extern.AbiNoEscape.same) (by kernel_rfl)]
 rw [Lib.run_noEscape]
 simp only [Result.andThen]
 rw [Oper.upon_value]
 go_wp2
 rw [Lib.run_from_unsafe w ⟨b,0,none⟩ Tryz.underlying207 Tryz.underlying165 hj hsh liesB]
 simp only [Result.andThen]
 rw [Oper.upon_value]
 go_wp2
 go_end0
 exact ⟨rfl,rfl⟩
set_option maxRecDepth 100000 in
theorem check_used (w:World) (b:Nat) (h:w.cell? ⟨b,0,none⟩ =some (.pointer (some ⟨b,0,none⟩))) :
  Calls Tryz.prog 177 #[.pointer (some ⟨b,0,none⟩)] w fun e w'=>e= .returned (.tuple #[])∧w'=w:=by
 obtain ⟨j,hj,hjs⟩:=Option.map_eq_some_iff.1 sizeB
 go_enter Tryz.func177,Tryz.ntmps177
 go_wp2
 rw [Lib.run_neq_ptr_same w _ Tryz.underlying165 hj]
 go_wp2
 go_end0
 exact ⟨rfl,rfl⟩
structure Froze (w w':World) (g n:Nat) :Prop where
 os:w'.os=w.os
 tape:w'.tape=w.tape
 output:w'.output=w.output
 size:w'.heap.size=w.heap.size
 block: ∀k,k≠g→w'.heap[k]? =w.heap[k]?
 row: ∀cur e fz,w.heap[g]? =some (.cells cur e fz)→fz.2≤n→∃fz',w'.heap[g]? =some (.cells cur e fz')∧fz'.2≤n
theorem froze_freeze (w:World) (g n:Nat) :Froze w (w.drew.freeze ⟨g,0,none⟩ n) g n:=by
 have e:w.drew.heap=w.heap:=rfl
 unfold World.freeze
 split
 ·exact ⟨rfl,rfl,rfl,rfl,fun _ _=>rfl,fun cur e fz h h2=>⟨fz,h,h2⟩⟩
 ·refine ⟨rfl,rfl,rfl, ?_,fun k hk=> ?_,fun cur ty fz h h2=> ?_⟩
  ·simp only [e,Array.size_modify]
  ·simp only [e,Array.getElem?_modify]
   rw [if_neg (Ne.symm hk)]
  ·simp only [e,Array.getElem?_modify,h,if_true,Option.map_some]
   refine ⟨_,rfl, ?_⟩
   split
   ·simp
   ·simp;omega
set_option maxHeartbeats 1000000 in
set_option maxRecDepth 100000 in
theorem text (w:World) (b g cap:Nat) (p:Value) (l:List UInt8) (cur:Array Value) (hbk:w.heap[b]? =some (.cells #[p, .slice (some ⟨g,0,none⟩) l.length cap] 167 (0,0))) (h0:l≠[]) (fz:Nat×Nat) (hg:w.heap[g]? =some (.cells cur 5 fz)) (hnc:l.length≤cap) (hcm:cap≤maxLen) (hcs:cur.size=cap)
  (htake:cur.toList.take l.length=Lib.byteCells l) :
  Calls Tryz.prog 144 #[.pointer (some ⟨b,0,none⟩)] w fun e w'=>e= .returned (.string ⟨l.toArray⟩)∧Froze w w' g l.length:=by
 have hl0:l.length≠0:=by simpa using h0
 have c1:w.drew.cell? ⟨b,1,none⟩ =some (.slice (some ⟨g,0,none⟩) l.length cap):=by
  have:w.drew.heap[b]? =some (.cells #[p, .slice (some ⟨g,0,none⟩) l.length cap] 167 (0,0)):=hbk
  rw [Lib.cell_of_heap this];rfl
 have hg':w.drew.heap[g]? =some (.cells cur 5 fz):=hg
 have hSD: ∀(ts:Array TypeId) (ty:TypeId),(Builtin.unsafeSliceData_ ts ty #[.slice (some ⟨g,0,none⟩) l.length cap]).run Tryz.prog w.drew= .ok (.pointer (some ⟨g,0,none⟩)) w.drew:=fun ts ty=>
  Lib.run_unsafeSliceData_row _ _ _ _ _ _ (by omega)
 have hUS:(Builtin.unsafeString_ #[193,3] 9 #[.pointer (some ⟨g,0,none⟩), .int .i64 l.length]).run Tryz.prog w.drew= .ok (.string ⟨l.toArray⟩) (w.drew.freeze ⟨g,0,none⟩ l.length):=by
  refine Lib.run_unsafeString_row w.drew 193 3 9 5 Tryz.underlying193 cellsByte g cur.size (by simp [World.shape?,hg']) l h0 (by omega) (by unfold maxLen at hcm;omega) ?_
  intro j x hx
  have:(Lib.byteCells l)[j]? =some (.int .u8 x.toNat):=by simp [Lib.byteCells,hx]
  rw [←htake,List.getElem?_take] at this
  split at this
  ·have hadd:(⟨g,0,none⟩ :Addr).add j= ⟨g,j,none⟩:=by unfold Addr.add;split<;>simp_all
   rw [hadd,Lib.cell_of_heap hg'];simpa using this
  ·cases this
 have mixed:Tryz.prog.follows Departure.mixedOrders=true:=by kernel_rfl
 go_enter Tryz.func144,Tryz.ntmps144
 go_wp2
 go_region_o
 all_goals (go_wp2;go_ret;exact ⟨rfl,froze_freeze w g _⟩)
structure Same (w w':World) :Prop where
 os:w'.os=w.os
 tape:w'.tape=w.tape
 output:w'.output=w.output
 size:w.heap.size≤w'.heap.size
 block: ∀k,k<w.heap.size→w'.heap[k]? =w.heap[k]?
theorem Same.drew (w:World) :Same w w.drew:=⟨rfl,rfl,rfl,Nat.le_refl _,fun _ _=>rfl⟩
theorem Same.view (w:World) (o:Obj) :Same w (w.drew.alloc o):=⟨rfl,rfl,rfl,by show _≤(w.heap.push o).size;simp,fun k hk=>heap_alloc_old w.drew o hk⟩
set_option maxHeartbeats 1000000 in
set_option maxRecDepth 100000 in
theorem text_nil (w:World) (b:Nat) (p:Value) (hbk:w.heap[b]? =some (.cells #[p, .slice none 0 0] 167 (0,0))) :
  Calls Tryz.prog 144 #[.pointer (some ⟨b,0,none⟩)] w fun e w'=>e= .returned (.string .empty)∧Same w w':=by
 have c1:w.drew.cell? ⟨b,1,none⟩ =some (.slice none 0 0):=by
  have:w.drew.heap[b]? =some (.cells #[p, .slice none 0 0] 167 (0,0)):=hbk
  rw [Lib.cell_of_heap this];rfl
 have hSD: ∀(ts:Array TypeId) (ty:TypeId),(Builtin.unsafeSliceData_ ts ty #[.slice none 0 0]).run Tryz.prog w.drew= .ok (.pointer none) w.drew:=fun ts ty=>rfl
 have hUS:(Builtin.unsafeString_ #[193,3] 9 #[.pointer none, .int .i64 0]).run Tryz.prog w.drew= .ok (.string .empty) w.drew:=Lib.run_unsafeString_none _ _ _ _ _
 have mixed:Tryz.prog.follows Departure.mixedOrders=true:=by kernel_rfl
 go_enter Tryz.func144,Tryz.ntmps144
 go_wp2
 go_region_o
 all_goals (go_wp2;go_ret;exact ⟨rfl,Same.drew w⟩)
set_option maxHeartbeats 1000000 in
set_option maxRecDepth 100000 in
theorem text_none (w:World) (b g cap:Nat) (p:Value) (hbk:w.heap[b]? =some (.cells #[p, .slice (some ⟨g,0,none⟩) 0 cap] 167 (0,0))) (hc:cap≠0) :
  Calls Tryz.prog 144 #[.pointer (some ⟨b,0,none⟩)] w fun e w'=>e= .returned (.string .empty)∧Same w w':=by
 have c1:w.drew.cell? ⟨b,1,none⟩ =some (.slice (some ⟨g,0,none⟩) 0 cap):=by
  have:w.drew.heap[b]? =some (.cells #[p, .slice (some ⟨g,0,none⟩) 0 cap] 167 (0,0)):=hbk
  rw [Lib.cell_of_heap this];rfl
 have hSD: ∀(ts:Array TypeId) (ty:TypeId),(Builtin.unsafeSliceData_ ts ty #[.slice (some ⟨g,0,none⟩) 0 cap]).run Tryz.prog w.drew= .ok (.pointer (some ⟨g,0,none⟩)) w.drew:=fun ts ty=>
  Lib.run_unsafeSliceData_row _ _ _ _ _ _ hc
 have hUS:(Builtin.unsafeString_ #[193,3] 9 #[.pointer (some ⟨g,0,none⟩), .int .i64 0]).run Tryz.prog w.drew= .ok (.string .empty) w.drew:=Lib.run_unsafeString_none _ _ _ _ _
 have mixed:Tryz.prog.follows Departure.mixedOrders=true:=by kernel_rfl
 go_enter Tryz.func144,Tryz.ntmps144
 go_wp2
 go_region_o
 all_goals (go_wp2;go_ret;exact ⟨rfl,Same.drew w⟩)
set_option maxHeartbeats 1000000 in
set_option maxRecDepth 100000 in
theorem text_zero (w:World) (b g:Nat) (p:Value) (cur:Array Value) (fz:Nat×Nat) (hbk:w.heap[b]? =some (.cells #[p, .slice (some ⟨g,0,none⟩) 0 0] 167 (0,0))) (hg:w.heap[g]? =some (.cells cur 5 fz)) :
  Calls Tryz.prog 144 #[.pointer (some ⟨b,0,none⟩)] w fun e w'=>e= .returned (.string .empty)∧Same w w':=by
 have c1:w.drew.cell? ⟨b,1,none⟩ =some (.slice (some ⟨g,0,none⟩) 0 0):=by
  have:w.drew.heap[b]? =some (.cells #[p, .slice (some ⟨g,0,none⟩) 0 0] 167 (0,0)):=hbk
  rw [Lib.cell_of_heap this];rfl
 have hg':w.drew.heap[g]? =some (.cells cur 5 fz):=hg
 have hSD:(Builtin.unsafeSliceData_ #[31] 193 #[.slice (some ⟨g,0,none⟩) 0 0]).run Tryz.prog w.drew= .ok (.pointer (some ⟨w.drew.heap.size,0,none⟩)) (w.drew.alloc (.view ⟨g,0,none⟩ 5)):=
  Lib.run_unsafeSliceData_zero _ _ 193 5 Tryz.underlying193 _ 0 (5,cur.size) (by simp [World.shape?,hg'])
 have hlt:b<w.heap.size:=(Array.getElem?_eq_some_iff.1 hbk).1
 have c2:(w.drew.alloc (.view ⟨g,0,none⟩ 5)).cell? ⟨b,1,none⟩ =some (.slice (some ⟨g,0,none⟩) 0 0):=by
  rw [World.cell?_of_block (heap_alloc_old w.drew _ hlt)];exact c1
 have c3:(w.alloc (.view ⟨g,0,none⟩ 5)).drew.cell? ⟨b,1,none⟩ =some (.slice (some ⟨g,0,none⟩) 0 0):=c2
 have c4:w.cell? ⟨b,1,none⟩ =some (.slice (some ⟨g,0,none⟩) 0 0):=c1
 have hUS: ∀(q:Option Addr) (W:World),(Builtin.unsafeString_ #[193,3] 9 #[.pointer q, .int .i64 0]).run Tryz.prog W= .ok (.string .empty) W:=fun q W=>Lib.run_unsafeString_none _ _ _ _ _
 have mixed:Tryz.prog.follows Departure.mixedOrders=true:=by kernel_rfl
 go_enter Tryz.func144,Tryz.ntmps144
 go_wp2
 go_region_o
 all_goals (go_wp2;go_ret;exact ⟨rfl,Same.view w _⟩)
end NB
end Go.Proofs.YtmkkljbfmdngfaaGreatDoor
namespace Go.Proofs.YtmkkljbfmdngfaaGreatDoor
namespace NB
open Go.RowKit Go.Shelf Go.Lib
section
variable {P:Program}
theorem append_cells (w:World) (t ty e:TypeId) (i:TypeInfo) (ht:P.underlying t=some (.slice e)) (hi:P.info? e=some i) (hz:i.zero=some (.int .u8 0))
  (hsize:i.size=1) (hby:i.bytes=1) (v:Value) (n:Nat) (xs:List Value) (hown:w.ownsRowF 0 e 1 v n xs) (ad:Addr) (m c:Nat) (news:List Value) (hl:news.length=m) (hnews: ∀j u,news[j]? =some u→w.cell? (ad.add j) =some u) (h1: ∀u∈news,u.oneCell'=true) (h63:n+m≤maxLen) (hbytes:n+m≤140737488355328) :
  ∃v' w',(Builtin.append_ #[t,t] ty #[v, .slice (some ad) m c]).run P w= .ok v' w'∧w'.ownsRowF 0 e 1 v' (n+m) (xs++news)∧w.grownBy w' v.ownBlock∧∀g,v'.ownBlock=some g→v.ownBlock=some g∨w.heap.size≤g:=by
 by_cases hv:v.ownBlock=none
 ·have hown2:w.ownsRowF w.heap.size e 1 v n xs:=by
   refine ⟨hown.1, ?_⟩
   rcases hown.2 with h | ⟨g,cap,cur,fz,h,_⟩
   ·exact .inl h
   ·rw [h] at hv;simp [Value.ownBlock] at hv
  obtain ⟨v',w',h1,h2,h3,_⟩:=run_append_ownF (P:=P) w w.heap.size t ty e i (.int .u8 0) 1 1 ht hi hz hsize hby rfl (by decide) v n xs hown2 ad m c news (by simpa using hl) hnews h1 h63 (by omega) (Nat.le_refl _)
  refine ⟨v',w',h1,⟨h2.1, ?_⟩,h3,fun g hg=> .inr (h2.lt g hg).1⟩
  rcases h2.2 with h | ⟨g,cap,cur,fz,q1,_,q2⟩
  ·exact .inl h
  ·exact .inr ⟨g,cap,cur,fz,q1,Nat.zero_le _,q2⟩
 ·obtain ⟨g,hg⟩:=Option.ne_none_iff_exists'.1 hv
  obtain ⟨v',w',h2',h2,h3,h4⟩:=run_append_ownF (P:=P) w 0 t ty e i (.int .u8 0) 1 1 ht hi hz hsize hby rfl (by decide) v n xs hown ad m c news (by simpa using hl) hnews h1 h63 (by omega) (Nat.zero_le _)
  refine ⟨v',w',h2',h2,h3,fun g' hg'=> ?_⟩
  rcases hown.2 with ⟨q,_⟩ | ⟨g0,cap,cur,fz,rfl,_,hgg,hfz,hnc,hcm,hcs,htake⟩
  ·rw [q] at hg;simp [Value.ownBlock] at hg
  ·by_cases hroom:n+m≤cap
   ·have hr:=run_append_roomF (P:=P) w t ty e i ht hi g0 n cap cur fz hgg (by rw [hsize];exact hfz) ad m c news (by rw [hsize];simpa using hl) hnews h1 hroom (by rw [hsize];omega)
    rw [h2'] at hr
    injection hr with hr _
    rw [hr] at hg'
    exact .inl (by simpa [Value.ownBlock] using hg')
   ·have hxl:xs.length=n:=by simpa using hown.1
    have hr:=run_append_grow (P:=P) w t ty e i (.int .u8 0) ht hi hz ⟨g0,0,none⟩ n cap xs (by rw [hsize];simpa using hxl) (hown.cells (g:=g0) rfl) ad m c news (by rw [hsize];simpa using hl) hnews (by omega) (by simp only [maxLen] at h63;omega) (by rw [hby];exact growslice_fits (by omega) (by omega))
    rw [h2'] at hr
    injection hr with hr _
    rw [hr] at hg'
    simp [Value.ownBlock] at hg'
    exact .inr (by omega)
theorem wpList_append_cells {w:World} {ops:Array Oper} {rest:List Oper} {o:Oper} {a:Act} {Q:Exit→Act→World→Prop} (hgd:o.guard=none) (sl x:Operand) (t:TypeId)
  (ho:o.op= .call {callee:= .builtin .append,args:= #[sl,x],argTypes:= #[t,t]})
  (e:TypeId) (i:TypeInfo) (ht:P.underlying t=some (.slice e)) (hi:P.info? e=some i) (hz:i.zero=some (.int .u8 0))
  (hsize:i.size=1) (hby:i.bytes=1)
  (v:Value) (n:Nat) (xs:List Value) (hs:a.eval sl=v) (hown:w.ownsRowF 0 e 1 v n xs) (ad:Addr) (m c:Nat) (news:List Value) (hx:a.eval x= .slice (some ad) m c) (hl:news.length=m) (hnews: ∀j u,news[j]? =some u→w.cell? (ad.add j) =some u) (h1: ∀u∈news,u.oneCell'=true)
  (h63:n+m≤maxLen) (hbytes:n+m≤140737488355328)
  (h: ∀v' w',w'.ownsRowF 0 e 1 v' (n+m) (xs++news)→w.grownBy w' v.ownBlock→(∀g,v'.ownBlock=some g→v.ownBlock=some g∨w.heap.size≤g)→wpList P ops Q rest (a.put o.dst v') w') :wpList P ops Q (o :: rest) a w:=by
 refine wpList_plain hgd fun K hK=> ?_
 obtain ⟨v',w',hr,h2,h3,h4⟩:=append_cells (P:=P) w t o.type e i ht hi hz hsize hby v n xs hown ad m c news hl hnews h1 h63 hbytes
 unfold Oper.wp execOp
 simp only [ho,resolve,invoke,builtin,Sem.run_bind,Sem.run_pure,Result.andThen_ok,List.map_toArray,List.map_cons,List.map_nil,hs,hx,hr]
 exact hK _ _ (h v' w' h2 h3 h4)
end
structure Wrote (w w':World) (b:Nat) (v v':Value) (l:List UInt8) :Prop where
 os:w'.os=w.os
 tape:w'.tape=w.tape
 output:w'.output=w.output
 size:w.heap.size≤w'.heap.size
 block: ∀k,k<w.heap.size→k≠b→v.ownBlock≠some k→w'.heap[k]? =w.heap[k]?
 box:w'.heap[b]? =some (.cells #[.pointer (some ⟨b,0,none⟩),v'] 167 (0,0))
 row:w'.ownsRowF 0 5 1 v' l.length (byteCells l)
 own: ∀g,v'.ownBlock=some g→v.ownBlock=some g∨w.heap.size≤g
theorem infoByte:(Tryz.prog.info? 5).map (fun i=>(i.zero,i.size,i.bytes)) =some (some (.int .u8 0),1,1):=by kernel_rfl
set_option maxHeartbeats 1000000 in
set_option maxRecDepth 100000 in
theorem write (w:World) (b:Nat) (v0 v:Value) (l:List UInt8) (c:UInt8) (hbk:w.heap[b]? =some (.cells #[v0,v] 167 (0,0))) (h0:v0= .pointer none∨v0= .pointer (some ⟨b,0,none⟩))
  (hown:w.ownsRowF 0 5 1 v l.length (byteCells l)) (hne:v.ownBlock≠some b) (hlen:l.length+1≤140737488355328) :
  Calls Tryz.prog 205 #[.pointer (some ⟨b,0,none⟩), .int .u8 c.toNat] w fun e w'=>e= .returned .nilIface∧∃v',Wrote w w' b v v' (l++ [c]):=by
 obtain ⟨i0,hi,hz⟩:=Option.map_eq_some_iff.1 infoByte
 have hz0:i0.zero=some (.int .u8 0):=by simpa using congrArg (·.1) hz
 have hz1:i0.size=1:=by simpa using congrArg (·.2.1) hz
 have hz2:i0.bytes=1:=by simpa using congrArg (·.2.2) hz
 have hlt:b<w.heap.size:=(Array.getElem?_eq_some_iff.1 hbk).1
 have hchk:Calls Tryz.prog 177 #[.pointer (some ⟨b,0,none⟩)] w fun e w'=>e= .returned (.tuple #[])∧w'.heap[b]? =some (.cells #[.pointer (some ⟨b,0,none⟩),v] 167 (0,0))∧w.grownBy w' (some b):=by
  rcases h0 with rfl | rfl
  ·refine (check_fresh w b (by rw [Lib.cell_of_heap hbk];rfl) (by simp [World.shape?,hbk]) (Lib.frozen_of_heap hbk 0)).mono ?_
   rintro e w' ⟨rfl,rfl⟩
   refine ⟨rfl,by simp [World.setCell,Array.getElem?_modify,hbk],⟨rfl,rfl,rfl,by simp [World.setCell],fun k _ hk=> ?_⟩⟩
   simp only [World.setCell,Array.getElem?_modify]
   rw [if_neg (fun e=>hk (by simp [e]))]
  ·refine (check_used w b (by rw [Lib.cell_of_heap hbk];rfl)).mono ?_
   rintro e w' ⟨rfl,rfl⟩
   exact ⟨rfl,hbk,⟨rfl,rfl,rfl,Nat.le_refl _,fun _ _ _=>rfl⟩⟩
 have mixed:Tryz.prog.follows Departure.mixedOrders=true:=by kernel_rfl
 have e171: ∀args w,(callFunc 177 args).run Tryz.prog w= .ok (.enter 177 args) w:=enters_of Tryz.func177 (by kernel_rfl) rfl
 go_enter Tryz.func205,Tryz.ntmps205
 go_wp2_with (go_at_fn 177;refine hchk.mono ?_)
 rintro e w1 ⟨rfl,hbk1,hg1⟩
 have hown1:w1.ownsRowF 0 5 1 v l.length (byteCells l):=hown.kept hg1 (.inr hne)
 have c0:w1.cell? ⟨b,0,none⟩ =some (.pointer (some ⟨b,0,none⟩)):=by rw [Lib.cell_of_heap hbk1];rfl
 have c1:w1.cell? ⟨b,1,none⟩ =some v:=by rw [Lib.cell_of_heap hbk1];rfl
 have t30:=Tryz.underlying31
 go_wp2_with (at_builtin;refine wpList_append_cells rfl _ _ 31 rfl 5 i0 Tryz.underlying31 hi hz0 hz1 hz2 _ _ _ rfl (hown1.alloc _) ⟨w1.heap.size,0,none⟩ 1 1 [.int .u8 c.toNat] rfl rfl ?c1 ?c2 ?c3 ?c4 ?_)
 case c1=>
  intro j u hj
  match j,hj with
  | 0,hj=>simp at hj;subst hj;simp [Addr.add]
 case c2=>intro u hu;simp at hu;subst hu;rfl
 case c3=>unfold maxLen;omega
 case c4=>omega
 intro v' w2 hown' hgrow hblk
 have hsz:(w1.alloc (.cells #[.int .u8 c.toNat] 5)).heap.size=w1.heap.size+1:=by show (w1.heap.push _).size=_;simp
 have hlt1:b<w1.heap.size:=(Array.getElem?_eq_some_iff.1 hbk1).1
 have hb2:w2.heap[b]? =some (.cells #[.pointer (some ⟨b,0,none⟩),v] 167 (0,0)):=by
  rw [hgrow.block b (by omega) (fun e=>hne e.symm),heap_alloc_old w1 _ hlt1];exact hbk1
 have d0:w2.cell? ⟨b,0,none⟩ =some (.pointer (some ⟨b,0,none⟩)):=by rw [Lib.cell_of_heap hb2];rfl
 have d1:w2.cell? ⟨b,1,none⟩ =some v:=by rw [Lib.cell_of_heap hb2];rfl
 have f1:w2.frozen? ⟨b,1,none⟩ =false:=Lib.frozen_of_heap hb2 1
 obtain ⟨ao,n',cap,rfl⟩ : ∃ao n' cap,v'= .slice ao n' cap:=by
  rcases hown'.2 with ⟨hv,_⟩ | ⟨g,cap,cur,fz,hv,_⟩
  ·exact ⟨_,_,_,hv⟩
  ·exact ⟨_,_,_,hv⟩
 go_wp2
 go_ret
 refine ⟨rfl, .slice ao n' cap, ?_, ?_, ?_, ?_,fun k hk hkb hkv=> ?_, ?_, ?_,fun g hg=> ?_⟩
 ·show w2.os=_;rw [hgrow.os];exact hg1.os
 ·show w2.tape=_;rw [hgrow.tape];exact hg1.tape
 ·show w2.output=_;rw [hgrow.output];exact hg1.output
 ·have:=hgrow.size;have:=hg1.size;simp [World.setCell];omega
 ·have q:(w2.setCell ⟨b,1,none⟩ (.slice ao n' cap)).heap[k]? =w2.heap[k]? :=by
   simp only [World.setCell,Array.getElem?_modify]
   rw [if_neg (fun e=>hkb e.symm)]
  have hk1:k<w1.heap.size:=by have:=hg1.size;omega
  rw [q,hgrow.block k (by omega) (fun e=>hkv e.symm),heap_alloc_old w1 _ hk1,hg1.block k hk (by simpa using hkb)]
 ·simp [World.setCell,Array.getElem?_modify,hb2]
 ·have h2:w2.ownsRowF 0 5 1 (.slice ao n' cap) (l++ [c]).length (byteCells (l++ [c])):=by
   rw [List.length_append,byteCells_append];exact hown'
  refine h2.kept (row:=some b) ⟨rfl,rfl,rfl,by simp [World.setCell],fun k _ hk=>by
   simp only [World.setCell,Array.getElem?_modify]
   rw [if_neg (fun e=>hk (by simp [e]))]⟩ (.inr fun e=> ?_)
  rcases hblk b e with h3 | h3
  ·exact hne h3
  ·omega
 ·rcases hblk g hg with h3 | h3
  ·exact .inl h3
  ·exact .inr (by have:=hg1.size;omega)
end NB
end Go.Proofs.YtmkkljbfmdngfaaGreatDoor
namespace Go.Proofs.YtmkkljbfmdngfaaGreatDoor
namespace B
set_option maxRecDepth 100000
theorem t60:okF P HH 132 2=true:=by kernel_rfl
theorem t62:okF P HH 133 2=true:=by kernel_rfl
theorem t70:okF P HH 137 2=true:=by kernel_rfl
theorem t106:okF P HH 164 2=true:=by kernel_rfl
theorem t109:okF P HH 166 2=true:=by kernel_rfl
theorem t111:okF P HH 167 1=true:=by kernel_rfl
theorem t112:okF P HH 168 2=true:=by kernel_rfl
theorem t114:okF P HH 169 2=true:=by kernel_rfl
theorem t115:okF P HH 170 1=true:=by kernel_rfl
theorem t116:okF P HH 171 2=true:=by kernel_rfl
theorem t132:okF P HH 100 2=true:=by kernel_rfl
theorem t138:okF P HH 195 2=true:=by kernel_rfl
theorem t139:okF P HH 196 2=true:=by kernel_rfl
theorem vc60 (s0:Bytes) (s1:Bytes) (res:CV) (objs':List (Nat×List CV)) :walkA P (tbF P [163,148,112,129,134,118] [] 132) (anOf (afOf P HH 132) []) (afOf P HH 132) [CV.d (D.str s0),CV.d (D.str s1)] [] (fun rs=>endE rs res objs') =((∃s2:Bytes,(∃b3:Bool,((Runs P 164 [CV.d (D.str s0),CV.d (D.str s1)] [] (CV.tup [CV.d (D.str s2),CV.d (D.bool b3)]) [])∧EndR (CV.tup [CV.d (D.str s2),CV.d (D.bool b3)]) res [] objs')))):=by kernel_rfl
theorem vc106 (s0:Bytes) (s1:Bytes) (res:CV) (objs':List (Nat×List CV)) :walkA P (tbF P [163,148,112,129,134,118] [] 164) (anOf (afOf P HH 164) []) (afOf P HH 164) [CV.d (D.str s0),CV.d (D.str s1)] [] (fun rs=>endE rs res objs') =((∃b2:Bool,((Runs P 100 [CV.d (D.str s0),CV.d (D.str s1)] [] (CV.d (D.bool b2)) [])∧(((!b2) =true→EndR (CV.tup [CV.d (D.str s0),CV.d (D.bool false)]) res [] objs')∧((!b2) =false→((0≤nI (List.length s1)∧nI (List.length s1)≤nI (List.length s0)∧nI (List.length s0)≤nI (List.length s0))∧(∀s3:Bytes,(List.drop (Int.toNat (nI (List.length s1))) (List.take (Int.toNat (nI (List.length s0))) s0) =s3→EndR (CV.tup [CV.d (D.str s3),CV.d (D.bool true)]) res [] objs')))))))):=by kernel_rfl
theorem vc132 (s0:Bytes) (s1:Bytes) (res:CV) (objs':List (Nat×List CV)) :walkA P (tbF P [163,148,112,129,134,118] [] 100) (anOf (afOf P HH 100) []) (afOf P HH 100) [CV.d (D.str s0),CV.d (D.str s1)] [] (fun rs=>endE rs res objs') =(((decide (nI (List.length s0)≥nI (List.length s1)) =true→0≤nI (0:Nat)∧nI (0:Nat)≤nI (List.length s1)∧nI (List.length s1)≤nI (List.length s0))∧(∀s2:Bytes,(List.drop (Int.toNat (nI (0:Nat))) (List.take (Int.toNat (nI (List.length s1))) s0) =s2→(∀b3:Bool,((decide (nI (List.length s0)≥nI (List.length s1)) &&s2==s1) =b3→EndR (CV.d (D.bool b3)) res [] objs')))))):=by kernel_rfl
theorem vc109 (l:List D) (e:Int) (off:Bool) (n:Int) (res:CV) (objs':List (Nat×List CV)) :walkA P (tbF P [163,148,112,129,134,118] [] 166) (anOf (afOf P HH 166) [(0,1000,0),(200000,1100,0)]) (afOf P HH 166) [CV.ptr 1000 0,CV.d (D.int .i64 n)] [(1000,[CV.ptr 1100 0,CV.d (D.bool off)]),(1100,[CV.d (D.slice 1 l),CV.d (D.int .i64 e)])] (fun rs=>endE rs res objs') =((∃l4:List D,(∃n5:Int,(∃n6:Int,((Runs P 165 [CV.ptr 1100 0] [(1100,[CV.d (D.slice 1 l),CV.d (D.int .i64 e)])] (CV.d (D.int .i64 n6)) [(1100,[CV.d (D.slice 1 l4),CV.d (D.int .i64 n5)])])∧(((decide (n6>n)) =true→EndR (CV.d (D.int .i64 (0:Int))) res [(1000,[CV.ptr 1100 0,CV.d (D.bool true)]),(1100,[CV.d (D.slice 1 l4),CV.d (D.int .i64 n5)])] objs')∧((decide (n6>n)) =false→EndR (CV.d (D.int .i64 n6)) res [(1000,[CV.ptr 1100 0,CV.d (D.bool off)]),(1100,[CV.d (D.slice 1 l4),CV.d (D.int .i64 n5)])] objs'))))))):=by kernel_rfl
theorem vc114 (l:List D) (e:Int) (off:Bool) (n:Int) (res:CV) (objs':List (Nat×List CV)) :walkA P (tbF P [163,148,112,129,134,118] [] 169) (anOf (afOf P HH 169) [(0,1000,0),(200000,1100,0)]) (afOf P HH 169) [CV.ptr 1000 0,CV.d (D.int .i64 n)] [(1000,[CV.ptr 1100 0,CV.d (D.bool off)]),(1100,[CV.d (D.slice 1 l),CV.d (D.int .i64 e)])] (fun rs=>endE rs res objs') =((∃l4:List D,(∃n5:Int,(∃n6:Int,((Runs P 165 [CV.ptr 1100 0] [(1100,[CV.d (D.slice 1 l),CV.d (D.int .i64 e)])] (CV.d (D.int .i64 n6)) [(1100,[CV.d (D.slice 1 l4),CV.d (D.int .i64 n5)])])∧(((decide (n6>n)) =true→EndR (CV.d (D.int .i64 (0:Int))) res [(1000,[CV.ptr 1100 0,CV.d (D.bool true)]),(1100,[CV.d (D.slice 1 l4),CV.d (D.int .i64 n5)])] objs')∧((decide (n6>n)) =false→EndR (CV.d (D.int .i64 n6)) res [(1000,[CV.ptr 1100 0,CV.d (D.bool off)]),(1100,[CV.d (D.slice 1 l4),CV.d (D.int .i64 n5)])] objs'))))))):=by kernel_rfl
theorem vc111 (l:List D) (e:Int) (off:Bool) (res:CV) (objs':List (Nat×List CV)) :walkA P (tbF P [163,148,112,129,134,118] [] 167) (anOf (afOf P HH 167) [(0,1000,0),(200000,1100,0)]) (afOf P HH 167) [CV.ptr (1000:Nat) (0:Nat)] [(1000,[CV.ptr 1100 0,CV.d (D.bool off)]),(1100,[CV.d (D.slice 1 l),CV.d (D.int .i64 e)])] (fun rs=>endE rs res objs') =((∃n3:Int,(((!off) =true→Runs P 124 [CV.ptr 1100 0] [(1100,[CV.d (D.slice 1 l),CV.d (D.int .i64 e)])] (CV.d (D.int .i64 n3)) [(1100,[CV.d (D.slice 1 l),CV.d (D.int .i64 e)])])∧(∀b4:Bool,((!off&&n3==0) =b4→EndR (CV.d (D.bool b4)) res [(1000,[CV.ptr 1100 0,CV.d (D.bool off)]),(1100,[CV.d (D.slice 1 l),CV.d (D.int .i64 e)])] objs'))))):=by kernel_rfl
theorem vc115 (l:List D) (e:Int) (off:Bool) (res:CV) (objs':List (Nat×List CV)) :walkA P (tbF P [163,148,112,129,134,118] [] 170) (anOf (afOf P HH 170) [(0,1000,0),(200000,1100,0)]) (afOf P HH 170) [CV.ptr (1000:Nat) (0:Nat)] [(1000,[CV.ptr 1100 0,CV.d (D.bool off)]),(1100,[CV.d (D.slice 1 l),CV.d (D.int .i64 e)])] (fun rs=>endE rs res objs') =((∃n3:Int,(((!off) =true→Runs P 124 [CV.ptr 1100 0] [(1100,[CV.d (D.slice 1 l),CV.d (D.int .i64 e)])] (CV.d (D.int .i64 n3)) [(1100,[CV.d (D.slice 1 l),CV.d (D.int .i64 e)])])∧(∀b4:Bool,((!off&&n3==0) =b4→EndR (CV.d (D.bool b4)) res [(1000,[CV.ptr 1100 0,CV.d (D.bool off)]),(1100,[CV.d (D.slice 1 l),CV.d (D.int .i64 e)])] objs'))))):=by kernel_rfl
theorem vc138 (l:List D) (e:Int) (off:Bool) (n:Int) (res:CV) (objs':List (Nat×List CV)) :walkA P (tbF P [163,148,112,129,134,118] [] 195) (anOf (afOf P HH 195) [(0,1000,0),(200000,1100,0)]) (afOf P HH 195) [CV.ptr 1000 0,CV.d (D.int .i64 n)] [(1000,[CV.ptr 1100 0,CV.d (D.bool off)]),(1100,[CV.d (D.slice 1 l),CV.d (D.int .i64 e)])] (fun rs=>endE rs res objs') =((∃I4:(Int→(List D→(Int→(Bytes→(Nat→Prop))))),(((CV.sp (5:Nat) (167:Nat) =CV.sp (5:Nat) (167:Nat))∧(∃k5:Nat,I4 0 l e [] k5))∧(∀n6:Int,(∀l7:List D,(∀n8:Int,(∀s9:Bytes,(∀k10:Nat,(I4 n6 l7 n8 s9 k10→(((decide (n6<n)) =true→(∃l11:List D,(∃n12:Int,(∃n13:Int,((Runs P 194 [CV.ptr 1100 0] [(1100,[CV.d (D.slice 1 l7),CV.d (D.int .i64 n8)])] (CV.d (D.int .i64 n13)) [(1100,[CV.d (D.slice 1 l11),CV.d (D.int .i64 n12)])])∧(∃l14:List D,(∃n15:Int,(∃n16:Int,((Runs P 124 [CV.ptr 1100 0] [(1100,[CV.d (D.slice 1 l11),CV.d (D.int .i64 n12)])] (CV.d (D.int .i64 n16)) [(1100,[CV.d (D.slice 1 l14),CV.d (D.int .i64 n15)])])∧(((n16==0) =true→(∀n17:Int,(Go.IntKind.wrap Go.IntKind.u8 n13=n17→(∃s18:Bytes,((Runs P 205 [CV.ptr 5 0,CV.d (D.int .u8 n17)] [(5,[CV.sp 5 167,CV.bld 5 false s9])] CV.junk [(5,[CV.sp 5 167,CV.bld 5 false s18])])∧(∀n19:Int,(Go.IntKind.wrap Go.IntKind.i64 (n6+1) =n19→((CV.sp (5:Nat) (167:Nat) =CV.sp (5:Nat) (167:Nat))∧(∃k20:Nat,((k20<k10)∧I4 n19 l14 n15 s18 k20))))))))))∧((n16==0) =false→(∀n21:Int,(Go.IntKind.wrap Go.IntKind.i64 (n6+1) =n21→((CV.sp (5:Nat) (167:Nat) =CV.sp (5:Nat) (167:Nat))∧(∃k22:Nat,((k22<k10)∧I4 n21 l14 n15 s9 k22))))))))))))))))∧((decide (n6<n)) =false→(∃s23:Bytes,(∃s24:Bytes,((Runs P 144 [CV.ptr 5 0] [(5,[CV.sp 5 167,CV.bld 5 false s9])] (CV.d (D.str s24)) [(5,[CV.sp 5 167,CV.bld 5 false s23])])∧EndR (CV.d (D.str s24)) res [(1000,[CV.ptr 1100 0,CV.d (D.bool off)]),(1100,[CV.d (D.slice 1 l7),CV.d (D.int .i64 n8)]),(5,[CV.sp 5 167,CV.bld 5 false s23])] objs')))))))))))))):=by kernel_rfl
theorem vc139 (l:List D) (e:Int) (off:Bool) (n:Int) (res:CV) (objs':List (Nat×List CV)) :walkA P (tbF P [163,148,112,129,134,118] [] 196) (anOf (afOf P HH 196) [(0,1000,0),(200000,1100,0)]) (afOf P HH 196) [CV.ptr 1000 0,CV.d (D.int .i64 n)] [(1000,[CV.ptr 1100 0,CV.d (D.bool off)]),(1100,[CV.d (D.slice 1 l),CV.d (D.int .i64 e)])] (fun rs=>endE rs res objs') =((∃I4:(Int→(List D→(Int→(Bytes→(Nat→Prop))))),(((CV.sp (5:Nat) (167:Nat) =CV.sp (5:Nat) (167:Nat))∧(∃k5:Nat,I4 0 l e [] k5))∧(∀n6:Int,(∀l7:List D,(∀n8:Int,(∀s9:Bytes,(∀k10:Nat,(I4 n6 l7 n8 s9 k10→(((decide (n6<n)) =true→(∃l11:List D,(∃n12:Int,(∃n13:Int,((Runs P 194 [CV.ptr 1100 0] [(1100,[CV.d (D.slice 1 l7),CV.d (D.int .i64 n8)])] (CV.d (D.int .i64 n13)) [(1100,[CV.d (D.slice 1 l11),CV.d (D.int .i64 n12)])])∧(∃l14:List D,(∃n15:Int,(∃n16:Int,((Runs P 124 [CV.ptr 1100 0] [(1100,[CV.d (D.slice 1 l11),CV.d (D.int .i64 n12)])] (CV.d (D.int .i64 n16)) [(1100,[CV.d (D.slice 1 l14),CV.d (D.int .i64 n15)])])∧(((n16==0) =true→(∀n17:Int,(Go.IntKind.wrap Go.IntKind.u8 n13=n17→(∃s18:Bytes,((Runs P 205 [CV.ptr 5 0,CV.d (D.int .u8 n17)] [(5,[CV.sp 5 167,CV.bld 5 false s9])] CV.junk [(5,[CV.sp 5 167,CV.bld 5 false s18])])∧(∀n19:Int,(Go.IntKind.wrap Go.IntKind.i64 (n6+1) =n19→((CV.sp (5:Nat) (167:Nat) =CV.sp (5:Nat) (167:Nat))∧(∃k20:Nat,((k20<k10)∧I4 n19 l14 n15 s18 k20))))))))))∧((n16==0) =false→(∀n21:Int,(Go.IntKind.wrap Go.IntKind.i64 (n6+1) =n21→((CV.sp (5:Nat) (167:Nat) =CV.sp (5:Nat) (167:Nat))∧(∃k22:Nat,((k22<k10)∧I4 n21 l14 n15 s9 k22))))))))))))))))∧((decide (n6<n)) =false→(∃s23:Bytes,(∃s24:Bytes,((Runs P 144 [CV.ptr 5 0] [(5,[CV.sp 5 167,CV.bld 5 false s9])] (CV.d (D.str s24)) [(5,[CV.sp 5 167,CV.bld 5 false s23])])∧EndR (CV.d (D.str s24)) res [(1000,[CV.ptr 1100 0,CV.d (D.bool off)]),(1100,[CV.d (D.slice 1 l7),CV.d (D.int .i64 n8)]),(5,[CV.sp 5 167,CV.bld 5 false s23])] objs')))))))))))))):=by kernel_rfl
theorem vc112 (l:List D) (e:Int) (off:Bool) (s:Bytes) (res:CV) (objs':List (Nat×List CV)) :walkA P (tbF P [163,148,112,129,134,118] [] 168) (anOf (afOf P HH 168) [(0,1000,0),(200000,1100,0)]) (afOf P HH 168) [CV.ptr 1000 0,CV.d (D.str s)] [(1000,[CV.ptr 1100 0,CV.d (D.bool off)]),(1100,[CV.d (D.slice 1 l),CV.d (D.int .i64 e)])] (fun rs=>endE rs res objs') =((∃l4:List D,(∃n5:Int,(∃n6:Int,((Runs P 165 [CV.ptr 1100 0] [(1100,[CV.d (D.slice 1 l),CV.d (D.int .i64 e)])] (CV.d (D.int .i64 n6)) [(1100,[CV.d (D.slice 1 l4),CV.d (D.int .i64 n5)])])∧(∃l7:List D,(∃n8:Int,(∃n9:Int,((Runs P 165 [CV.ptr 1100 0] [(1100,[CV.d (D.slice 1 l4),CV.d (D.int .i64 n5)])] (CV.d (D.int .i64 n9)) [(1100,[CV.d (D.slice 1 l7),CV.d (D.int .i64 n8)])])∧(∃l10:List D,(∃n11:Int,(∃n12:Int,((Runs P 194 [CV.ptr 1100 0] [(1100,[CV.d (D.slice 1 l7),CV.d (D.int .i64 n8)])] (CV.d (D.int .i64 n12)) [(1100,[CV.d (D.slice 1 l10),CV.d (D.int .i64 n11)])])∧(∃l13:List D,(∃n14:Int,(∃n15:Int,((Runs P 165 [CV.ptr 1100 0] [(1100,[CV.d (D.slice 1 l10),CV.d (D.int .i64 n11)])] (CV.d (D.int .i64 n15)) [(1100,[CV.d (D.slice 1 l13),CV.d (D.int .i64 n14)])])∧(∃I16:(Int→(List D→(Nat→Prop))),(((CV.d (D.int .i64 n6) =CV.d (D.int .i64 n6))∧((CV.d (D.int .i64 (1:Int)) =CV.d (D.int .i64 (1:Int)))∧((CV.d (D.int .i64 n9) =CV.d (D.int .i64 n9))∧((CV.d (D.str []) =CV.d (D.str []))∧((CV.d (D.int .i64 n12) =CV.d (D.int .i64 n12))∧((CV.d (D.str []) =CV.d (D.str []))∧(∃k17:Nat,I16 0 [] k17)))))))∧(∀n18:Int,(∀l19:List D,(∀k20:Nat,(I16 n18 l19 k20→(((decide (n18<32)) =true→((0≤n18)∧(∀n21:Int,(Int.fdiv n15 (2 ^ Min.min (Int.toNat n18) (Go.IntKind.bits .i64)) =n21→(∀n22:Int,(Go.IntKind.wrap Go.IntKind.i64 (nI (BitVec.toNat (BitVec.ofInt (Go.IntKind.bits .i64) n21&&& BitVec.ofInt (Go.IntKind.bits .i64) 1))) =n22→(((n22==1) =true→(((List.length l19+List.length [D.int .i64 n18]) *8≤140737488355328)∧(∀n23:Int,(Go.IntKind.wrap Go.IntKind.i64 (n18+1) =n23→((CV.d (D.int .i64 n6) =CV.d (D.int .i64 n6))∧((CV.d (D.int .i64 (1:Int)) =CV.d (D.int .i64 (1:Int)))∧((CV.d (D.int .i64 n9) =CV.d (D.int .i64 n9))∧((CV.d (D.str []) =CV.d (D.str []))∧((CV.d (D.int .i64 n12) =CV.d (D.int .i64 n12))∧((CV.d (D.str []) =CV.d (D.str []))∧(∃k24:Nat,((k24<k20)∧I16 n23 (l19++ [D.int .i64 n18]) k24))))))))))))∧((n22==1) =false→(∀n25:Int,(Go.IntKind.wrap Go.IntKind.i64 (n18+1) =n25→((CV.d (D.int .i64 n6) =CV.d (D.int .i64 n6))∧((CV.d (D.int .i64 (1:Int)) =CV.d (D.int .i64 (1:Int)))∧((CV.d (D.int .i64 n9) =CV.d (D.int .i64 n9))∧((CV.d (D.str []) =CV.d (D.str []))∧((CV.d (D.int .i64 n12) =CV.d (D.int .i64 n12))∧((CV.d (D.str []) =CV.d (D.str []))∧(∃k26:Nat,((k26<k20)∧I16 n25 l19 k26))))))))))))))))))∧((decide (n18<32)) =false→(∃s27:Bytes,((Runs P 57 [CV.d (D.str s),CV.d (D.int .i64 n6)] [] (CV.d (D.str s27)) [])∧(∃b28:Bool,(∃l29:List D,(∃n30:Int,(∃n31:Int,((Runs P 166 [CV.ptr 1000 0,CV.d (D.int .i64 300)] [(1000,[CV.ptr 1100 0,CV.d (D.bool off)]),(1100,[CV.d (D.slice 1 l13),CV.d (D.int .i64 n14)])] (CV.d (D.int .i64 n31)) [(1000,[CV.ptr 1100 0,CV.d (D.bool b28)]),(1100,[CV.d (D.slice 1 l29),CV.d (D.int .i64 n30)])])∧(∃b32:Bool,(∃l33:List D,(∃n34:Int,(∃s35:Bytes,((Runs P 195 [CV.ptr 1000 0,CV.d (D.int .i64 n31)] [(1000,[CV.ptr 1100 0,CV.d (D.bool b28)]),(1100,[CV.d (D.slice 1 l29),CV.d (D.int .i64 n30)])] (CV.d (D.str s35)) [(1000,[CV.ptr 1100 0,CV.d (D.bool b32)]),(1100,[CV.d (D.slice 1 l33),CV.d (D.int .i64 n34)])])∧EndR (CV.d (D.agg [D.int .i64 n6,D.int .i64 1,D.int .i64 n9,D.str s27,D.int .i64 n12,D.slice 1 l19,D.str s35])) res [(1000,[CV.ptr 1100 0,CV.d (D.bool b32)]),(1100,[CV.d (D.slice 1 l33),CV.d (D.int .i64 n34)]),(4,[CV.d (D.int .i64 n6),CV.d (D.int .i64 1),CV.d (D.int .i64 n9),CV.d (D.str s27),CV.d (D.int .i64 n12),CV.d (D.slice 1 l19),CV.d (D.str s35)]),(5,[CV.d (D.int .i64 n6),CV.d (D.int .i64 1),CV.d (D.int .i64 n9),CV.d (D.str s27),CV.d (D.int .i64 n12),CV.own 1 l19,CV.d (D.str s35)])] objs'))))))))))))))))))))))))))))))))))))):=by kernel_rfl
theorem vc116 (l:List D) (e:Int) (off:Bool) (s:Bytes) (res:CV) (objs':List (Nat×List CV)) :walkA P (tbF P [163,148,112,129,134,118] [] 171) (anOf (afOf P HH 171) [(0,1000,0),(200000,1100,0)]) (afOf P HH 171) [CV.ptr 1000 0,CV.d (D.str s)] [(1000,[CV.ptr 1100 0,CV.d (D.bool off)]),(1100,[CV.d (D.slice 1 l),CV.d (D.int .i64 e)])] (fun rs=>endE rs res objs') =((∃l4:List D,(∃n5:Int,(∃n6:Int,((Runs P 165 [CV.ptr 1100 0] [(1100,[CV.d (D.slice 1 l),CV.d (D.int .i64 e)])] (CV.d (D.int .i64 n6)) [(1100,[CV.d (D.slice 1 l4),CV.d (D.int .i64 n5)])])∧(∃l7:List D,(∃n8:Int,(∃n9:Int,((Runs P 165 [CV.ptr 1100 0] [(1100,[CV.d (D.slice 1 l4),CV.d (D.int .i64 n5)])] (CV.d (D.int .i64 n9)) [(1100,[CV.d (D.slice 1 l7),CV.d (D.int .i64 n8)])])∧(∃l10:List D,(∃n11:Int,(∃n12:Int,((Runs P 165 [CV.ptr 1100 0] [(1100,[CV.d (D.slice 1 l7),CV.d (D.int .i64 n8)])] (CV.d (D.int .i64 n12)) [(1100,[CV.d (D.slice 1 l10),CV.d (D.int .i64 n11)])])∧(∃l13:List D,(∃n14:Int,(∃n15:Int,((Runs P 194 [CV.ptr 1100 0] [(1100,[CV.d (D.slice 1 l10),CV.d (D.int .i64 n11)])] (CV.d (D.int .i64 n15)) [(1100,[CV.d (D.slice 1 l13),CV.d (D.int .i64 n14)])])∧(∃l16:List D,(∃n17:Int,(∃n18:Int,((Runs P 165 [CV.ptr 1100 0] [(1100,[CV.d (D.slice 1 l13),CV.d (D.int .i64 n14)])] (CV.d (D.int .i64 n18)) [(1100,[CV.d (D.slice 1 l16),CV.d (D.int .i64 n17)])])∧(∃I19:(Int→(List D→(Nat→Prop))),(((CV.d (D.int .i64 n6) =CV.d (D.int .i64 n6))∧((CV.d (D.int .i64 n9) =CV.d (D.int .i64 n9))∧((CV.d (D.int .i64 n12) =CV.d (D.int .i64 n12))∧((CV.d (D.str []) =CV.d (D.str []))∧((CV.d (D.int .i64 n15) =CV.d (D.int .i64 n15))∧((CV.d (D.str []) =CV.d (D.str []))∧(∃k20:Nat,I19 0 [] k20)))))))∧(∀n21:Int,(∀l22:List D,(∀k23:Nat,(I19 n21 l22 k23→(((decide (n21<32)) =true→((0≤n21)∧(∀n24:Int,(Int.fdiv n18 (2 ^ Min.min (Int.toNat n21) (Go.IntKind.bits .i64)) =n24→(∀n25:Int,(Go.IntKind.wrap Go.IntKind.i64 (nI (BitVec.toNat (BitVec.ofInt (Go.IntKind.bits .i64) n24&&& BitVec.ofInt (Go.IntKind.bits .i64) 1))) =n25→(((n25==1) =true→(((List.length l22+List.length [D.int .i64 n21]) *8≤140737488355328)∧(∀n26:Int,(Go.IntKind.wrap Go.IntKind.i64 (n21+1) =n26→((CV.d (D.int .i64 n6) =CV.d (D.int .i64 n6))∧((CV.d (D.int .i64 n9) =CV.d (D.int .i64 n9))∧((CV.d (D.int .i64 n12) =CV.d (D.int .i64 n12))∧((CV.d (D.str []) =CV.d (D.str []))∧((CV.d (D.int .i64 n15) =CV.d (D.int .i64 n15))∧((CV.d (D.str []) =CV.d (D.str []))∧(∃k27:Nat,((k27<k23)∧I19 n26 (l22++ [D.int .i64 n21]) k27))))))))))))∧((n25==1) =false→(∀n28:Int,(Go.IntKind.wrap Go.IntKind.i64 (n21+1) =n28→((CV.d (D.int .i64 n6) =CV.d (D.int .i64 n6))∧((CV.d (D.int .i64 n9) =CV.d (D.int .i64 n9))∧((CV.d (D.int .i64 n12) =CV.d (D.int .i64 n12))∧((CV.d (D.str []) =CV.d (D.str []))∧((CV.d (D.int .i64 n15) =CV.d (D.int .i64 n15))∧((CV.d (D.str []) =CV.d (D.str []))∧(∃k29:Nat,((k29<k23)∧I19 n28 l22 k29))))))))))))))))))∧((decide (n21<32)) =false→(∃s30:Bytes,((Runs P 57 [CV.d (D.str s),CV.d (D.int .i64 n6)] [] (CV.d (D.str s30)) [])∧(∃b31:Bool,(∃l32:List D,(∃n33:Int,(∃n34:Int,((Runs P 169 [CV.ptr 1000 0,CV.d (D.int .i64 300)] [(1000,[CV.ptr 1100 0,CV.d (D.bool off)]),(1100,[CV.d (D.slice 1 l16),CV.d (D.int .i64 n17)])] (CV.d (D.int .i64 n34)) [(1000,[CV.ptr 1100 0,CV.d (D.bool b31)]),(1100,[CV.d (D.slice 1 l32),CV.d (D.int .i64 n33)])])∧(∃b35:Bool,(∃l36:List D,(∃n37:Int,(∃s38:Bytes,((Runs P 196 [CV.ptr 1000 0,CV.d (D.int .i64 n34)] [(1000,[CV.ptr 1100 0,CV.d (D.bool b31)]),(1100,[CV.d (D.slice 1 l32),CV.d (D.int .i64 n33)])] (CV.d (D.str s38)) [(1000,[CV.ptr 1100 0,CV.d (D.bool b35)]),(1100,[CV.d (D.slice 1 l36),CV.d (D.int .i64 n37)])])∧EndR (CV.d (D.agg [D.int .i64 n6,D.int .i64 n9,D.int .i64 n12,D.str s30,D.int .i64 n15,D.slice 1 l22,D.str s38])) res [(1000,[CV.ptr 1100 0,CV.d (D.bool b35)]),(1100,[CV.d (D.slice 1 l36),CV.d (D.int .i64 n37)]),(4,[CV.d (D.int .i64 n6),CV.d (D.int .i64 n9),CV.d (D.int .i64 n12),CV.d (D.str s30),CV.d (D.int .i64 n15),CV.d (D.slice 1 l22),CV.d (D.str s38)]),(5,[CV.d (D.int .i64 n6),CV.d (D.int .i64 n9),CV.d (D.int .i64 n12),CV.d (D.str s30),CV.d (D.int .i64 n15),CV.own 1 l22,CV.d (D.str s38)])] objs'))))))))))))))))))))))))))))))))))))))))):=by kernel_rfl
theorem vc62 (l:List D) (e:Int) (off:Bool) (s:Bytes) (res:CV) (objs':List (Nat×List CV)) :walkA P (tbF P [163,148,112,129,134,118] [] 133) (anOf (afOf P HH 133) [(0,1000,0),(200000,1100,0)]) (afOf P HH 133) [CV.ptr 1000 0,CV.d (D.str s)] [(1000,[CV.ptr 1100 0,CV.d (D.bool off)]),(1100,[CV.d (D.slice 1 l),CV.d (D.int .i64 e)])] (fun rs=>endE rs res objs') =((∃l4:List D,(∃n5:Int,(∃n6:Int,((Runs P 165 [CV.ptr 1100 0] [(1100,[CV.d (D.slice 1 l),CV.d (D.int .i64 e)])] (CV.d (D.int .i64 n6)) [(1100,[CV.d (D.slice 1 l4),CV.d (D.int .i64 n5)])])∧(∃l7:List D,(∃n8:Int,(∃n9:Int,((Runs P 165 [CV.ptr 1100 0] [(1100,[CV.d (D.slice 1 l4),CV.d (D.int .i64 n5)])] (CV.d (D.int .i64 n9)) [(1100,[CV.d (D.slice 1 l7),CV.d (D.int .i64 n8)])])∧(∃b10:Bool,(∃l11:List D,(∃n12:Int,(∃n13:Int,((Runs P 166 [CV.ptr 1000 0,CV.d (D.int .i64 32)] [(1000,[CV.ptr 1100 0,CV.d (D.bool off)]),(1100,[CV.d (D.slice 1 l7),CV.d (D.int .i64 n8)])] (CV.d (D.int .i64 n13)) [(1000,[CV.ptr 1100 0,CV.d (D.bool b10)]),(1100,[CV.d (D.slice 1 l11),CV.d (D.int .i64 n12)])])∧(∃I14:(Int→(List D→(Int→(Bool→(List D→(Nat→Prop)))))),(((CV.ptr (1100:Nat) (0:Nat) =CV.ptr (1100:Nat) (0:Nat))∧((CV.d (D.str s) =CV.d (D.str s))∧((CV.d (D.int .i64 n6) =CV.d (D.int .i64 n6))∧((CV.d (D.int .i64 n9) =CV.d (D.int .i64 n9))∧((CV.d (D.int .i64 (1:Int)) =CV.d (D.int .i64 (1:Int)))∧((CV.own (7:Nat) []=CV.own (7:Nat) [])∧(∃k15:Nat,I14 0 l11 n12 b10 [] k15)))))))∧(∀n16:Int,(∀l17:List D,(∀n18:Int,(∀b19:Bool,(∀l20:List D,(∀k21:Nat,(I14 n16 l17 n18 b19 l20 k21→(((decide (n16<n13)) =true→(∃l22:List D,(∃n23:Int,(∃s24:Bytes,((Runs P 151 [CV.ptr 1100 0,CV.d (D.int .i64 24)] [(1100,[CV.d (D.slice 1 l17),CV.d (D.int .i64 n18)])] (CV.d (D.str s24)) [(1100,[CV.d (D.slice 1 l22),CV.d (D.int .i64 n23)])])∧(∃b25:Bool,(∃l26:List D,(∃n27:Int,(∃b28:Bool,((Runs P 167 [CV.ptr 1000 0] [(1000,[CV.ptr 1100 0,CV.d (D.bool b19)]),(1100,[CV.d (D.slice 1 l22),CV.d (D.int .i64 n23)])] (CV.d (D.bool b28)) [(1000,[CV.ptr 1100 0,CV.d (D.bool b25)]),(1100,[CV.d (D.slice 1 l26),CV.d (D.int .i64 n27)])])∧(((b28) =true→(((List.length l20+List.length [D.str s24]) *16≤140737488355328)∧(∀n29:Int,(Go.IntKind.wrap Go.IntKind.i64 (n16+1) =n29→((CV.ptr (1100:Nat) (0:Nat) =CV.ptr (1100:Nat) (0:Nat))∧((CV.d (D.str s) =CV.d (D.str s))∧((CV.d (D.int .i64 n6) =CV.d (D.int .i64 n6))∧((CV.d (D.int .i64 n9) =CV.d (D.int .i64 n9))∧((CV.d (D.int .i64 (1:Int)) =CV.d (D.int .i64 (1:Int)))∧((CV.own (7:Nat) []=CV.own (7:Nat) [])∧(∃k30:Nat,((k30<k21)∧I14 n29 l26 n27 b25 (l20++ [D.str s24]) k30))))))))))))∧((b28) =false→(∀n31:Int,(Go.IntKind.wrap Go.IntKind.i64 (n16+1) =n31→((CV.ptr (1100:Nat) (0:Nat) =CV.ptr (1100:Nat) (0:Nat))∧((CV.d (D.str s) =CV.d (D.str s))∧((CV.d (D.int .i64 n6) =CV.d (D.int .i64 n6))∧((CV.d (D.int .i64 n9) =CV.d (D.int .i64 n9))∧((CV.d (D.int .i64 (1:Int)) =CV.d (D.int .i64 (1:Int)))∧((CV.own (7:Nat) []=CV.own (7:Nat) [])∧(∃k32:Nat,((k32<k21)∧I14 n31 l26 n27 b25 l20 k32))))))))))))))))))))))∧((decide (n16<n13)) =false→(∃b33:Bool,(∃l34:List D,(∃n35:Int,(∃b36:Bool,((Runs P 167 [CV.ptr 1000 0] [(1000,[CV.ptr 1100 0,CV.d (D.bool b19)]),(1100,[CV.d (D.slice 1 l17),CV.d (D.int .i64 n18)])] (CV.d (D.bool b36)) [(1000,[CV.ptr 1100 0,CV.d (D.bool b33)]),(1100,[CV.d (D.slice 1 l34),CV.d (D.int .i64 n35)])])∧(((!b36) =true→EndR (CV.d (D.agg [D.str s,D.int .i64 n6,D.int .i64 n9,D.int .i64 1,D.slice 1 l20,D.slice 7 []])) res [(1000,[CV.ptr 1100 0,CV.d (D.bool b33)]),(1100,[CV.d (D.slice 1 l34),CV.d (D.int .i64 n35)]),(4,[CV.d (D.str s),CV.d (D.int .i64 n6),CV.d (D.int .i64 n9),CV.d (D.int .i64 1),CV.d (D.slice 1 l20),CV.d (D.slice 7 [])]),(5,[CV.d (D.str s),CV.d (D.int .i64 n6),CV.d (D.int .i64 n9),CV.d (D.int .i64 1),CV.own 1 l20,CV.own 7 []])] objs')∧((!b36) =false→(∃b37:Bool,(∃l38:List D,(∃n39:Int,(∃n40:Int,((Runs P 166 [CV.ptr 1000 0,CV.d (D.int .i64 60)] [(1000,[CV.ptr 1100 0,CV.d (D.bool b33)]),(1100,[CV.d (D.slice 1 l34),CV.d (D.int .i64 n35)])] (CV.d (D.int .i64 n40)) [(1000,[CV.ptr 1100 0,CV.d (D.bool b37)]),(1100,[CV.d (D.slice 1 l38),CV.d (D.int .i64 n39)])])∧(∃I41:(Int→(Bool→(List D→(Int→(List D→(Nat→Prop)))))),(((CV.ptr (1100:Nat) (0:Nat) =CV.ptr (1100:Nat) (0:Nat))∧((CV.d (D.str s) =CV.d (D.str s))∧((CV.d (D.int .i64 n6) =CV.d (D.int .i64 n6))∧((CV.d (D.int .i64 n9) =CV.d (D.int .i64 n9))∧((CV.d (D.int .i64 (1:Int)) =CV.d (D.int .i64 (1:Int)))∧((CV.own 1 l20=CV.own 1 l20)∧(∃k42:Nat,I41 0 b37 l38 n39 [] k42)))))))∧(∀n43:Int,(∀b44:Bool,(∀l45:List D,(∀n46:Int,(∀l47:List D,(∀k48:Nat,(I41 n43 b44 l45 n46 l47 k48→(((decide (n43<n40)) =true→(∃b49:Bool,(∃l50:List D,(∃n51:Int,(∃n52:Int,(∃n53:Int,(∃n54:Int,(∃s55:Bytes,(∃n56:Int,(∃l57:List D,(∃s58:Bytes,((Runs P 168 [CV.ptr 1000 0,CV.d (D.str s)] [(1000,[CV.ptr 1100 0,CV.d (D.bool b44)]),(1100,[CV.d (D.slice 1 l45),CV.d (D.int .i64 n46)])] (CV.d (D.agg [D.int .i64 n52,D.int .i64 n53,D.int .i64 n54,D.str s55,D.int .i64 n56,D.slice 1 l57,D.str s58])) [(1000,[CV.ptr 1100 0,CV.d (D.bool b49)]),(1100,[CV.d (D.slice 1 l50),CV.d (D.int .i64 n51)])])∧(∃b59:Bool,(∃l60:List D,(∃n61:Int,(∃b62:Bool,((Runs P 167 [CV.ptr 1000 0] [(1000,[CV.ptr 1100 0,CV.d (D.bool b49)]),(1100,[CV.d (D.slice 1 l50),CV.d (D.int .i64 n51)])] (CV.d (D.bool b62)) [(1000,[CV.ptr 1100 0,CV.d (D.bool b59)]),(1100,[CV.d (D.slice 1 l60),CV.d (D.int .i64 n61)])])∧(((b62) =true→(((List.length l47+List.length [D.agg [D.int .i64 n52,D.int .i64 n53,D.int .i64 n54,D.str s55,D.int .i64 n56,D.slice 1 l57,D.str s58]]) *88≤140737488355328)∧(∀n63:Int,(Go.IntKind.wrap Go.IntKind.i64 (n43+1) =n63→((CV.ptr (1100:Nat) (0:Nat) =CV.ptr (1100:Nat) (0:Nat))∧((CV.d (D.str s) =CV.d (D.str s))∧((CV.d (D.int .i64 n6) =CV.d (D.int .i64 n6))∧((CV.d (D.int .i64 n9) =CV.d (D.int .i64 n9))∧((CV.d (D.int .i64 (1:Int)) =CV.d (D.int .i64 (1:Int)))∧((CV.own 1 l20=CV.own 1 l20)∧(∃k64:Nat,((k64<k48)∧I41 n63 b59 l60 n61 (l47++ [D.agg [D.int .i64 n52,D.int .i64 n53,D.int .i64 n54,D.str s55,D.int .i64 n56,D.slice 1 l57,D.str s58]]) k64))))))))))))∧((b62) =false→(∀n65:Int,(Go.IntKind.wrap Go.IntKind.i64 (n43+1) =n65→((CV.ptr (1100:Nat) (0:Nat) =CV.ptr (1100:Nat) (0:Nat))∧((CV.d (D.str s) =CV.d (D.str s))∧((CV.d (D.int .i64 n6) =CV.d (D.int .i64 n6))∧((CV.d (D.int .i64 n9) =CV.d (D.int .i64 n9))∧((CV.d (D.int .i64 (1:Int)) =CV.d (D.int .i64 (1:Int)))∧((CV.own 1 l20=CV.own 1 l20)∧(∃k66:Nat,((k66<k48)∧I41 n65 b59 l60 n61 l47 k66)))))))))))))))))))))))))))))∧((decide (n43<n40)) =false→EndR (CV.d (D.agg [D.str s,D.int .i64 n6,D.int .i64 n9,D.int .i64 1,D.slice 1 l20,D.slice 7 l47])) res [(1000,[CV.ptr 1100 0,CV.d (D.bool b44)]),(1100,[CV.d (D.slice 1 l45),CV.d (D.int .i64 n46)]),(4,[CV.d (D.str s),CV.d (D.int .i64 n6),CV.d (D.int .i64 n9),CV.d (D.int .i64 1),CV.d (D.slice 1 l20),CV.d (D.slice 7 l47)]),(5,[CV.d (D.str s),CV.d (D.int .i64 n6),CV.d (D.int .i64 n9),CV.d (D.int .i64 1),CV.own 1 l20,CV.own 7 l47])] objs')))))))))))))))))))))))))))))))))))))))))))))))):=by kernel_rfl
theorem vc70 (l:List D) (e:Int) (off:Bool) (s:Bytes) (res:CV) (objs':List (Nat×List CV)) :walkA P (tbF P [163,148,112,129,134,118] [] 137) (anOf (afOf P HH 137) [(0,1000,0),(200000,1100,0)]) (afOf P HH 137) [CV.ptr 1000 0,CV.d (D.str s)] [(1000,[CV.ptr 1100 0,CV.d (D.bool off)]),(1100,[CV.d (D.slice 1 l),CV.d (D.int .i64 e)])] (fun rs=>endE rs res objs') =((∃l4:List D,(∃n5:Int,(∃n6:Int,((Runs P 165 [CV.ptr 1100 0] [(1100,[CV.d (D.slice 1 l),CV.d (D.int .i64 e)])] (CV.d (D.int .i64 n6)) [(1100,[CV.d (D.slice 1 l4),CV.d (D.int .i64 n5)])])∧(∃l7:List D,(∃n8:Int,(∃n9:Int,((Runs P 165 [CV.ptr 1100 0] [(1100,[CV.d (D.slice 1 l4),CV.d (D.int .i64 n5)])] (CV.d (D.int .i64 n9)) [(1100,[CV.d (D.slice 1 l7),CV.d (D.int .i64 n8)])])∧(∃l10:List D,(∃n11:Int,(∃n12:Int,((Runs P 165 [CV.ptr 1100 0] [(1100,[CV.d (D.slice 1 l7),CV.d (D.int .i64 n8)])] (CV.d (D.int .i64 n12)) [(1100,[CV.d (D.slice 1 l10),CV.d (D.int .i64 n11)])])∧(∃b13:Bool,(∃l14:List D,(∃n15:Int,(∃n16:Int,((Runs P 169 [CV.ptr 1000 0,CV.d (D.int .i64 32)] [(1000,[CV.ptr 1100 0,CV.d (D.bool off)]),(1100,[CV.d (D.slice 1 l10),CV.d (D.int .i64 n11)])] (CV.d (D.int .i64 n16)) [(1000,[CV.ptr 1100 0,CV.d (D.bool b13)]),(1100,[CV.d (D.slice 1 l14),CV.d (D.int .i64 n15)])])∧(∃I17:(Int→(List D→(Int→(Bool→(List D→(Nat→Prop)))))),(((CV.ptr (1100:Nat) (0:Nat) =CV.ptr (1100:Nat) (0:Nat))∧((CV.d (D.str s) =CV.d (D.str s))∧((CV.d (D.int .i64 n6) =CV.d (D.int .i64 n6))∧((CV.d (D.int .i64 n9) =CV.d (D.int .i64 n9))∧((CV.d (D.int .i64 n12) =CV.d (D.int .i64 n12))∧((CV.own (7:Nat) []=CV.own (7:Nat) [])∧(∃k18:Nat,I17 0 l14 n15 b13 [] k18)))))))∧(∀n19:Int,(∀l20:List D,(∀n21:Int,(∀b22:Bool,(∀l23:List D,(∀k24:Nat,(I17 n19 l20 n21 b22 l23 k24→(((decide (n19<n16)) =true→(∃l25:List D,(∃n26:Int,(∃s27:Bytes,((Runs P 151 [CV.ptr 1100 0,CV.d (D.int .i64 24)] [(1100,[CV.d (D.slice 1 l20),CV.d (D.int .i64 n21)])] (CV.d (D.str s27)) [(1100,[CV.d (D.slice 1 l25),CV.d (D.int .i64 n26)])])∧(∃b28:Bool,(∃l29:List D,(∃n30:Int,(∃b31:Bool,((Runs P 170 [CV.ptr 1000 0] [(1000,[CV.ptr 1100 0,CV.d (D.bool b22)]),(1100,[CV.d (D.slice 1 l25),CV.d (D.int .i64 n26)])] (CV.d (D.bool b31)) [(1000,[CV.ptr 1100 0,CV.d (D.bool b28)]),(1100,[CV.d (D.slice 1 l29),CV.d (D.int .i64 n30)])])∧(((b31) =true→(((List.length l23+List.length [D.str s27]) *16≤140737488355328)∧(∀n32:Int,(Go.IntKind.wrap Go.IntKind.i64 (n19+1) =n32→((CV.ptr (1100:Nat) (0:Nat) =CV.ptr (1100:Nat) (0:Nat))∧((CV.d (D.str s) =CV.d (D.str s))∧((CV.d (D.int .i64 n6) =CV.d (D.int .i64 n6))∧((CV.d (D.int .i64 n9) =CV.d (D.int .i64 n9))∧((CV.d (D.int .i64 n12) =CV.d (D.int .i64 n12))∧((CV.own (7:Nat) []=CV.own (7:Nat) [])∧(∃k33:Nat,((k33<k24)∧I17 n32 l29 n30 b28 (l23++ [D.str s27]) k33))))))))))))∧((b31) =false→(∀n34:Int,(Go.IntKind.wrap Go.IntKind.i64 (n19+1) =n34→((CV.ptr (1100:Nat) (0:Nat) =CV.ptr (1100:Nat) (0:Nat))∧((CV.d (D.str s) =CV.d (D.str s))∧((CV.d (D.int .i64 n6) =CV.d (D.int .i64 n6))∧((CV.d (D.int .i64 n9) =CV.d (D.int .i64 n9))∧((CV.d (D.int .i64 n12) =CV.d (D.int .i64 n12))∧((CV.own (7:Nat) []=CV.own (7:Nat) [])∧(∃k35:Nat,((k35<k24)∧I17 n34 l29 n30 b28 l23 k35))))))))))))))))))))))∧((decide (n19<n16)) =false→(∃b36:Bool,(∃l37:List D,(∃n38:Int,(∃b39:Bool,((Runs P 170 [CV.ptr 1000 0] [(1000,[CV.ptr 1100 0,CV.d (D.bool b22)]),(1100,[CV.d (D.slice 1 l20),CV.d (D.int .i64 n21)])] (CV.d (D.bool b39)) [(1000,[CV.ptr 1100 0,CV.d (D.bool b36)]),(1100,[CV.d (D.slice 1 l37),CV.d (D.int .i64 n38)])])∧(((!b39) =true→EndR (CV.d (D.agg [D.str s,D.int .i64 n6,D.int .i64 n9,D.int .i64 n12,D.slice 1 l23,D.slice 7 []])) res [(1000,[CV.ptr 1100 0,CV.d (D.bool b36)]),(1100,[CV.d (D.slice 1 l37),CV.d (D.int .i64 n38)]),(4,[CV.d (D.str s),CV.d (D.int .i64 n6),CV.d (D.int .i64 n9),CV.d (D.int .i64 n12),CV.d (D.slice 1 l23),CV.d (D.slice 7 [])]),(5,[CV.d (D.str s),CV.d (D.int .i64 n6),CV.d (D.int .i64 n9),CV.d (D.int .i64 n12),CV.own 1 l23,CV.own 7 []])] objs')∧((!b39) =false→(∃b40:Bool,(∃l41:List D,(∃n42:Int,(∃n43:Int,((Runs P 169 [CV.ptr 1000 0,CV.d (D.int .i64 60)] [(1000,[CV.ptr 1100 0,CV.d (D.bool b36)]),(1100,[CV.d (D.slice 1 l37),CV.d (D.int .i64 n38)])] (CV.d (D.int .i64 n43)) [(1000,[CV.ptr 1100 0,CV.d (D.bool b40)]),(1100,[CV.d (D.slice 1 l41),CV.d (D.int .i64 n42)])])∧(∃I44:(Int→(Bool→(List D→(Int→(List D→(Nat→Prop)))))),(((CV.ptr (1100:Nat) (0:Nat) =CV.ptr (1100:Nat) (0:Nat))∧((CV.d (D.str s) =CV.d (D.str s))∧((CV.d (D.int .i64 n6) =CV.d (D.int .i64 n6))∧((CV.d (D.int .i64 n9) =CV.d (D.int .i64 n9))∧((CV.d (D.int .i64 n12) =CV.d (D.int .i64 n12))∧((CV.own 1 l23=CV.own 1 l23)∧(∃k45:Nat,I44 0 b40 l41 n42 [] k45)))))))∧(∀n46:Int,(∀b47:Bool,(∀l48:List D,(∀n49:Int,(∀l50:List D,(∀k51:Nat,(I44 n46 b47 l48 n49 l50 k51→(((decide (n46<n43)) =true→(∃b52:Bool,(∃l53:List D,(∃n54:Int,(∃n55:Int,(∃n56:Int,(∃n57:Int,(∃s58:Bytes,(∃n59:Int,(∃l60:List D,(∃s61:Bytes,((Runs P 171 [CV.ptr 1000 0,CV.d (D.str s)] [(1000,[CV.ptr 1100 0,CV.d (D.bool b47)]),(1100,[CV.d (D.slice 1 l48),CV.d (D.int .i64 n49)])] (CV.d (D.agg [D.int .i64 n55,D.int .i64 n56,D.int .i64 n57,D.str s58,D.int .i64 n59,D.slice 1 l60,D.str s61])) [(1000,[CV.ptr 1100 0,CV.d (D.bool b52)]),(1100,[CV.d (D.slice 1 l53),CV.d (D.int .i64 n54)])])∧(∃b62:Bool,(∃l63:List D,(∃n64:Int,(∃b65:Bool,((Runs P 170 [CV.ptr 1000 0] [(1000,[CV.ptr 1100 0,CV.d (D.bool b52)]),(1100,[CV.d (D.slice 1 l53),CV.d (D.int .i64 n54)])] (CV.d (D.bool b65)) [(1000,[CV.ptr 1100 0,CV.d (D.bool b62)]),(1100,[CV.d (D.slice 1 l63),CV.d (D.int .i64 n64)])])∧(((b65) =true→(((List.length l50+List.length [D.agg [D.int .i64 n55,D.int .i64 n56,D.int .i64 n57,D.str s58,D.int .i64 n59,D.slice 1 l60,D.str s61]]) *88≤140737488355328)∧(∀n66:Int,(Go.IntKind.wrap Go.IntKind.i64 (n46+1) =n66→((CV.ptr (1100:Nat) (0:Nat) =CV.ptr (1100:Nat) (0:Nat))∧((CV.d (D.str s) =CV.d (D.str s))∧((CV.d (D.int .i64 n6) =CV.d (D.int .i64 n6))∧((CV.d (D.int .i64 n9) =CV.d (D.int .i64 n9))∧((CV.d (D.int .i64 n12) =CV.d (D.int .i64 n12))∧((CV.own 1 l23=CV.own 1 l23)∧(∃k67:Nat,((k67<k51)∧I44 n66 b62 l63 n64 (l50++ [D.agg [D.int .i64 n55,D.int .i64 n56,D.int .i64 n57,D.str s58,D.int .i64 n59,D.slice 1 l60,D.str s61]]) k67))))))))))))∧((b65) =false→(∀n68:Int,(Go.IntKind.wrap Go.IntKind.i64 (n46+1) =n68→((CV.ptr (1100:Nat) (0:Nat) =CV.ptr (1100:Nat) (0:Nat))∧((CV.d (D.str s) =CV.d (D.str s))∧((CV.d (D.int .i64 n6) =CV.d (D.int .i64 n6))∧((CV.d (D.int .i64 n9) =CV.d (D.int .i64 n9))∧((CV.d (D.int .i64 n12) =CV.d (D.int .i64 n12))∧((CV.own 1 l23=CV.own 1 l23)∧(∃k69:Nat,((k69<k51)∧I44 n68 b62 l63 n64 l50 k69)))))))))))))))))))))))))))))∧((decide (n46<n43)) =false→EndR (CV.d (D.agg [D.str s,D.int .i64 n6,D.int .i64 n9,D.int .i64 n12,D.slice 1 l23,D.slice 7 l50])) res [(1000,[CV.ptr 1100 0,CV.d (D.bool b47)]),(1100,[CV.d (D.slice 1 l48),CV.d (D.int .i64 n49)]),(4,[CV.d (D.str s),CV.d (D.int .i64 n6),CV.d (D.int .i64 n9),CV.d (D.int .i64 n12),CV.d (D.slice 1 l23),CV.d (D.slice 7 l50)]),(5,[CV.d (D.str s),CV.d (D.int .i64 n6),CV.d (D.int .i64 n9),CV.d (D.int .i64 n12),CV.own 1 l23,CV.own 7 l50])] objs')))))))))))))))))))))))))))))))))))))))))))))))))))):=by kernel_rfl
end B
end Go.Proofs.YtmkkljbfmdngfaaGreatDoor
namespace Go.Proofs.YtmkkljbfmdngfaaGreatDoor
namespace B
open Go.RowKit
theorem bk_bx (args:List CV) (b:Nat) (cs:List CV) :(⟨args,[(b,cs)]⟩ :St).bx b=some cs:=by simp [St.bx]
theorem ownF_ne {w:World} {v:Value} {n:Nat} {xs:List Value} {b:Nat} {cs:Array Value} (h:w.ownsRowF 0 5 1 v n xs) (hb:w.heap[b]? =some (.cells cs 167 (0,0))) :v.ownBlock≠some b:=by
 rcases h.2 with ⟨rfl,_⟩ | ⟨g,cap,cur,fz,rfl,_,hg,_⟩
 ·simp [Value.ownBlock]
 ·intro e
  simp [Value.ownBlock] at e;subst e
  rw [hb] at hg;injection hg with hg;injection hg with _ hg _
  exact absurd hg (by decide)
theorem r158 (b:Nat) (f:Bool) (l:Bytes) (c:UInt8) (hlen:l.length+1≤140737488355328) :
  Runs P 205 [.ptr b 0, .d (.int .u8 c.toNat)] [(b,[.sp b 167, .bld 5 f l])] .junk [(b,[.sp b 167, .bld 5 false (l++ [c])])]:=by
 refine ⟨⟨Tryz.f205,Tryz.func205,by kernel_rfl,by kernel_rfl⟩,fun Γ ρ bl vals w h hz=> ?_⟩
 obtain ⟨v,u,rfl,hv,hu⟩:=vals2 h
 have hv:v= .pointer (some ⟨bl b,0,none⟩):=hv
 subst hv
 obtain rfl:=rep_int hu
 obtain ⟨v0,v1,k1,k2,k3⟩:=h.bld (bk_bx _ b _)
 refine (NB.write w (bl b) v0 v1 l c k1 k2 k3.2.1 (ownF_ne k3.2.1 k1) hlen).mono ?_
 rintro e w' ⟨rfl,v',hw⟩
 obtain ⟨ρ',h2,f2⟩:=h.bldSet (f':=false) (l':=l++ [c]) k1 k3 hw.size hw.os hw.tape hw.output (fun k q1 q2 q3=>hw.block k q1 q2 q3) hw.box (.inr rfl) (fun e=>by cases e) (by simpa using hw.row) hw.own
 exact ⟨_,_,_,_,rfl,h2.result (res:= .junk) trivial (fun _ h=>h.elim),f2.to0,h.rkb rfl _⟩
theorem r159 (b:Nat) (f:Bool) (s:Bytes) :Runs P 144 [.ptr b 0] [(b,[.sp b 167, .bld 5 f s])] (.d (.str s)) [(b,[.sp b 167, .bld 5 false s])]:=by
 refine ⟨⟨Tryz.f144,Tryz.func144,by kernel_rfl,by kernel_rfl⟩,fun Γ ρ bl vals w h hz=> ?_⟩
 obtain ⟨v,rfl,hv⟩:=vals1 h
 have hv:v= .pointer (some ⟨bl b,0,none⟩):=hv
 subst hv
 obtain ⟨v0,v1,k1,k2,k3⟩:=h.bld (bk_bx _ b _)
 have hlt:bl b<w.heap.size:=(Array.getElem?_eq_some_iff.1 k1).1
 have same: ∀e w',s= []→e=Ending.returned (.string .empty)∧NB.Same w w'→∃v Γ' ρ' bl',e= .returned v∧SR Γ' ρ' bl' ⟨[.d (.str s)],[(b,[.sp b 167, .bld 5 false s])]⟩ #[v] w'∧Fr0 w Γ ρ w' Γ' ρ'∧∀b',(([(b,[CV.sp b 167, .bld 5 f s])]:List (Nat×List CV)).lookup b').isSome=true→lowB 144 b'=true→RK ρ ρ' bl bl' b':=by
  rintro e w' rfl ⟨rfl,hS⟩
  have hrow:w'.ownsRowF 0 5 1 v1 0 (Lib.byteCells []):=by
   refine ⟨k3.2.1.1, ?_⟩
   rcases k3.2.1.2 with q | ⟨g,cap,cur,fz,q1,q2,q3,q4⟩
   ·exact .inl q
   ·exact .inr ⟨g,cap,cur,fz,q1,q2,by rw [hS.block g (Array.getElem?_eq_some_iff.1 q3).1];exact q3,q4⟩
  obtain ⟨ρ',h2,f2⟩:=h.bldSet (f':=false) (l':=[]) (w':=w') (v0':=v0) (v1':=v1) k1 k3 hS.size hS.os hS.tape hS.output (fun k q1 _ _=>hS.block k q1) (by rw [hS.block _ hlt];exact k1) k2 (fun e=>by cases e) hrow (fun g hg=> .inl hg)
  exact ⟨_,_,_,_,rfl,h2.result (Rep.str []) (fun _ h=>h.elim),f2.to0,h.rkb rfl _⟩
 rcases k3.2.1.2 with ⟨q,hn⟩ | ⟨g,cap,cur,fz,q,_,hg,hfz,hnc,hcm,hcs,ht⟩
 ·have hs:s= []:=by simpa using hn
  have k1':=k1
  rw [q] at k1'
  exact (NB.text_nil w (bl b) v0 k1').mono fun e w' he=>same e w' hs he
 ·have k1':=k1
  rw [q] at k1'
  by_cases hs:s= []
  ·subst hs
   by_cases hc:cap=0
   ·subst hc
    exact (NB.text_zero w (bl b) g v0 cur fz k1' hg).mono fun e w' he=>same e w' rfl he
   ·exact (NB.text_none w (bl b) g cap v0 k1' hc).mono fun e w' he=>same e w' rfl he
  ·refine (NB.text w (bl b) g cap v0 s cur k1' hs fz hg (by simpa using hnc) hcm (by simpa using hcs) (by simpa using ht)).mono ?_
   rintro e w' ⟨rfl,hF⟩
   have hbg:bl b≠g:=by
    intro e
    rw [e,hg] at k1;injection k1 with k1;injection k1 with _ k1 _
    exact absurd k1 (by decide)
   obtain ⟨fz',hg',hfz'⟩:=hF.row cur 5 fz hg (by simpa using hfz)
   have hv1:v1.ownBlock=some g:=by rw [q];rfl
   obtain ⟨ρ',h2,f2⟩:=h.bldSet (f':=false) (l':=s) (w':=w') (v0':=v0) (v1':=v1) k1 k3 (by rw [hF.size];exact Nat.le_refl _) hF.os hF.tape hF.output (fun k _ _ q3=>hF.block k (fun e=>q3 (by rw [hv1,e])))
    (by rw [hF.block _ hbg];exact k1) k2 (fun e=>by cases e) ⟨k3.2.1.1, .inr ⟨g,cap,cur,fz',q,Nat.zero_le _,hg',by simpa using hfz',hnc,hcm,hcs,ht⟩⟩ (fun g hg=> .inl hg)
   exact ⟨_,_,_,_,rfl,h2.result (Rep.str s) (fun _ h=>h.elim),f2.to0,h.rkb rfl _⟩
end B
end Go.Proofs.YtmkkljbfmdngfaaGreatDoor
namespace Go.Proofs.YtmkkljbfmdngfaaGreatDoor
namespace B
open Go.RowKit
def LI (N:Nat) (J:Nat→Prop) (n:Int) (k:Nat) :Prop:=∃i:Nat,n=i∧i≤N∧k=N-i∧J i
theorem LI.start {N:Nat} {J:Nat→Prop} (h:J 0) :LI N J 0 N:=⟨0,rfl,Nat.zero_le _,rfl,h⟩
theorem LI.next {N i:Nat} {J:Nat→Prop} {n:Int} (hN:N≤9223372036854775806) (hi:i<N) (hn:Go.IntKind.wrap .i64 ((i:Int) +1) =n) (h:J (i+1)) :N-(i+1) <N-i∧LI N J n (N-(i+1)):=
 ⟨by omega,i+1,by rw [←hn,W64 (by omega) (by omega)];omega,hi,rfl,h⟩
def Rd.bind {α β:Type} (p:Rd α) (f:α→Rd β) :Rd β:=fun s=>match p s with
 | .ok (a,r)=>f a r
 | .error e=> .error e
def Rd.pure {α:Type} (a:α) :Rd α:=fun s=> .ok (a,s)
def Dead (x e:Int) (off:Bool) :Prop:=if off=true then x=3 else e=x∧x≠0
theorem live_or (e:Int) (off:Bool) :(e=0∧off=false)∨∃x,Dead x e off:=by
 cases off with
 | true=>exact .inr ⟨3,rfl⟩
 | false=>
  by_cases h:e=0
  ·exact .inl ⟨h,rfl⟩
  ·exact .inr ⟨e,rfl,h⟩
theorem Dead.no {x:Int} (h:Dead x 0 false) :False:=h.2 h.1.symm
theorem Dead.good {x e:Int} {off:Bool} (h:Dead x e off) :(!off&&e==0) =false:=by
 cases off with
 | true=>rfl
 | false=>
  obtain ⟨rfl,h⟩:=h
  simp [h]
structure Step {α:Type} (p:Rd α) (s:Bytes) (e:Int) (off:Bool) (a:α) (s':Bytes) (e':Int) (off':Bool) :Prop where
 live:e=0→off=false→(∃a0 r,p s= .ok (a0,r)∧a=a0∧s'=r∧e'=0∧off'=false)∨∃x,p s= .error x∧Dead x e' off'
 dead: ∀x,Dead x e off→Dead x e' off'
 len:s'.length≤s.length
theorem Step.ok {α:Type} {p:Rd α} {s:Bytes} {e:Int} {off:Bool} {a:α} {s':Bytes} {e':Int} {off':Bool} (h:Step p s e off a s' e' off') (g:e'=0) (g':off'=false) :e=0∧off=false∧p s= .ok (a,s'):=by
 subst g g'
 rcases live_or e off with ⟨h1,h2⟩ | ⟨x,hx⟩
 ·refine ⟨h1,h2, ?_⟩
  rcases h.live h1 h2 with ⟨a0,r,q1,rfl,rfl,_,_⟩ | ⟨x,_,q⟩
  ·exact q1
  ·exact q.no.elim
 ·exact (h.dead x hx).no.elim
theorem Step.er {α:Type} {p:Rd α} {s:Bytes} {a:α} {s':Bytes} {e':Int} {off':Bool} {x:Int} (h:Step p s 0 false a s' e' off') (g:Dead x e' off') :p s= .error x:=by
 rcases h.live rfl rfl with ⟨a0,r,q1,rfl,rfl,rfl,rfl⟩ | ⟨y,q1,q2⟩
 ·exact g.no.elim
 ·rw [q1]
  unfold Dead at g q2
  cases off' with
  | true=>rw [if_pos rfl] at g q2;rw [g,q2]
  | false=>rw [if_neg (by decide)] at g q2;rw [←g.1,←q2.1]
theorem Step.bind {α β:Type} {p:Rd α} {f:α→Rd β} {s:Bytes} {e:Int} {off:Bool} {a:α} {s1:Bytes} {e1:Int} {o1:Bool} {b:β} {s2:Bytes} {e2:Int} {o2:Bool} (h1:Step p s e off a s1 e1 o1) (h2:Step (f a) s1 e1 o1 b s2 e2 o2) :Step (p.bind f) s e off b s2 e2 o2:=by
 refine ⟨fun he ho=> ?_,fun x hx=>h2.dead x (h1.dead x hx),Nat.le_trans h2.len h1.len⟩
 unfold Rd.bind
 rcases h1.live he ho with ⟨a0,r,q1,rfl,rfl,q2,q3⟩ | ⟨x,q1,q2⟩
 ·rw [q1];exact h2.live q2 q3
 ·rw [q1];exact .inr ⟨x,rfl,h2.dead x q2⟩
theorem Step.pure {α:Type} (a:α) (s:Bytes) (e:Int) (off:Bool) :Step (Rd.pure a) s e off a s e off:=
 ⟨fun h1 h2=> .inl ⟨a,s,rfl,rfl,rfl,h1,h2⟩,fun _ h=>h,Nat.le_refl _⟩
theorem Step.any {α:Type} (p:Rd α) (a:α) (s:Bytes) {e:Int} {off:Bool} (h:(!off&&e==0) =false) :Step p s e off a s e off:=by
 refine ⟨fun h1 h2=> ?_,fun _ h=>h,Nat.le_refl _⟩
 subst h1 h2;cases h
theorem step_rd {α:Type} (p:Rd α) (x0:α) (hp: ∀s x,p s= .error x→x≠0) (hl: ∀s a r,p s= .ok (a,r)→r.length≤s.length) (s:Bytes) (e:Int) (off:Bool) :
  Step p s e off (rd p x0 s e).1 (rd p x0 s e).2.1 (rd p x0 s e).2.2 off:=by
 refine ⟨fun he ho=> ?_,fun x hx=> ?_, ?_⟩
 ·subst he ho
  cases h:p s with
  | ok q=>obtain ⟨a,r⟩:=q;rw [rd_ok x0 h];exact .inl ⟨a,r,rfl,rfl,rfl,rfl,rfl⟩
  | error x=>rw [rd_er x0 h];exact .inr ⟨x,rfl,rfl,hp s x h⟩
 ·cases off with
  | true=>exact hx
  | false=>
   obtain ⟨rfl,h⟩:=hx
   rw [rd_e p x0 s h];exact ⟨rfl,h⟩
 ·by_cases he:e=0
  ·subst he
   cases h:p s with
   | ok q=>obtain ⟨a,r⟩:=q;rw [rd_ok x0 h];exact hl s a r h
   | error x=>rw [rd_er x0 h];exact Nat.le_refl _
  ·rw [rd_e p x0 s he];exact Nat.le_refl _
theorem bytesP_er {k:Nat} (s:Bytes) (x:Int) (h:bytesP k s= .error x) :x≠0:=by
 unfold bytesP at h;split at h
 ·cases h;decide
 ·cases h
theorem bytesP_len {k:Nat} (s:Bytes) (a:Int) (r:Bytes) (h:bytesP k s= .ok (a,r)) :r.length≤s.length:=by
 unfold bytesP at h;split at h
 ·cases h
 ·cases h;simp
theorem textP_er {m:Int} (s:Bytes) (x:Int) (h:textP m s= .error x) :x≠0:=by
 unfold textP at h;split at h
 ·rename_i e hN
  have:=numGo_er 6 0 0 s e hN
  cases h;omega
 ·split at h
  ·cases h;decide
  ·split at h
   ·cases h;decide
   ·cases h
theorem textP_len {m:Int} (s:Bytes) (a:Bytes) (r:Bytes) (h:textP m s= .ok (a,r)) :r.length≤s.length∧(a.length:Int)≤max m 0:=by
 unfold textP at h;split at h
 ·cases h
 ·split at h
  ·cases h
  ·split at h
   ·cases h
   ·cases h
    simp only [List.length_drop,List.length_take]
    omega
theorem rd_nat {k:Nat} (s:Bytes) (e:Int) : ∃v:Nat,(rd (bytesP k) 0 s e).1=v∧v<256 ^ k:=by
 by_cases he:e=0
 ·subst he
  by_cases hs:s.length<k
  ·refine ⟨0, ?_,Nat.pow_pos (by decide)⟩
   rw [rd_er (p:=bytesP k) (k:=2) 0 (by unfold bytesP;rw [if_pos hs])];rfl
  ·refine ⟨beV (s.take k), ?_, ?_⟩
   ·rw [rd_ok (p:=bytesP k) (a:=(beV (s.take k) :Int)) (r:=s.drop k) 0 (by unfold bytesP;rw [if_neg hs])]
   ·have:=beV_lt (s.take k)
    rwa [show (s.take k).length=k by rw [List.length_take];omega] at this
 ·exact ⟨0,by rw [rd_e _ _ _ he];rfl,Nat.pow_pos (by decide)⟩
theorem rd_text {m:Int} (s:Bytes) (e:Int) :((rd (textP m) [] s e).1.length:Int)≤max m 0:=by
 by_cases he:e=0
 ·subst he
  cases h:textP m s with
  | ok q=>obtain ⟨a,r⟩:=q;rw [rd_ok _ h];exact (textP_len s a r h).2
  | error x=>rw [rd_er _ h];simp only [List.length_nil];omega
 ·rw [rd_e _ _ _ he];simp only [List.length_nil];omega
abbrev rdrs (s:Bytes) (e:Int) (off:Bool) :List (Nat×List CV):=[(1000,[CV.ptr 1100 0,CV.d (.bool off)]),(1100,rdr s e)]
theorem endO2 {c res:CV} {bx:List (Nat×List CV)} {s:Bytes} {e:Int} {off:Bool} (h:c=res) (h1:bx.lookup 1000=some [CV.ptr 1100 0,CV.d (.bool off)]) (h2:bx.lookup 1100=some (rdr s e)) (hc:(⟨[res],rdrs s e off⟩ :St).clo=true) :EndR c res bx (rdrs s e off):=by
 subst h
 exact ⟨Wr_refl c,⟨by rw [h1];exact WcL_refl _,by rw [h2];exact WcL_refl _,trivial⟩,hc⟩
theorem c108 (s:Bytes) (e:Int) (off:Bool) (hs:s.length≤1099511627776) : ∃(v:Nat) (s':Bytes) (e':Int),v<4294967296∧(e'≠0→v=0)∧Step fixedP s e off (v:Int) s' e' off∧Runs P 165 [.ptr 1100 0] [(1100,rdr s e)] (.d (.int .i64 v)) [(1100,rdr s' e')]:=by
 obtain ⟨v,hv,hl⟩:=rd_nat (k:=4) s e
 refine ⟨v,(rd fixedP 0 s e).2.1,(rd fixedP 0 s e).2.2,hl,fun he=> ?_, ?_, ?_⟩
 ·by_cases h0:e=0
  ·subst h0
   cases h:fixedP s with
   | ok q=>obtain ⟨a,r⟩:=q;rw [rd_ok 0 h] at he;exact absurd rfl he
   | error x=>rw [show bytesP 4=fixedP from rfl,rd_er 0 h] at hv;simp only at hv;omega
  ·rw [rd_e _ _ _ h0] at hv;simp only at hv;omega
 ·rw [←hv];exact step_rd fixedP 0 bytesP_er bytesP_len s e off
 ·rw [←hv];exact Runs.at (xs:=[]) (r108 s e hs) 1100
theorem c137 (s:Bytes) (e:Int) (off:Bool) (hs:s.length≤1099511627776) : ∃(v:Nat) (s':Bytes) (e':Int),v<256∧Step byteP s e off (v:Int) s' e' off∧Runs P 194 [.ptr 1100 0] [(1100,rdr s e)] (.d (.int .i64 v)) [(1100,rdr s' e')]:=by
 obtain ⟨v,hv,hl⟩:=rd_nat (k:=1) s e
 refine ⟨v,(rd byteP 0 s e).2.1,(rd byteP 0 s e).2.2,hl, ?_, ?_⟩
 ·rw [←hv];exact step_rd byteP 0 bytesP_er bytesP_len s e off
 ·rw [←hv];exact Runs.at (xs:=[]) (r137 s e hs) 1100
theorem c110 (s:Bytes) (e:Int) (off:Bool) (m:Int) (hs:s.length≤1099511627776) : ∃(a:Bytes) (s':Bytes) (e':Int),(a.length:Int)≤max m 0∧Step (textP m) s e off a s' e' off∧Runs P 151 [.ptr 1100 0, .d (.int .i64 m)] [(1100,rdr s e)] (.d (.str a)) [(1100,rdr s' e')]:=
 ⟨_,_,_,rd_text s e,step_rd (textP m) [] textP_er (fun s a r h=>(textP_len s a r h).1) s e off,Runs.at (xs:=[.int .i64 m]) (r110 s e m hs) 1100⟩
theorem c63 (s:Bytes) (e:Int) :Runs P 124 [.ptr 1100 0] [(1100,rdr s e)] (.d (.int .i64 e)) [(1100,rdr s e)]:=Runs.at (xs:=[]) (r63 s e) 1100
def cntP (n:Int) :Rd Int:=fun s=>match fixedP s with
 | .ok (a,r)=>if a>n then .error 3 else .ok (a,r)
 | .error e=> .error e
theorem cnt_step {n:Int} (hn:0≤n) {s:Bytes} {e:Int} {off:Bool} {v:Nat} {s':Bytes} {e':Int} (hz:e'≠0→v=0) (h:Step fixedP s e off (v:Int) s' e' off) :
  ((v:Int) >n→Step (cntP n) s e off 0 s' e' true)∧(¬(v:Int) >n→Step (cntP n) s e off v s' e' off):=by
 refine ⟨fun hv=>⟨fun he ho=> ?_,fun x hx=> ?_,h.len⟩,fun hv=>⟨fun he ho=> ?_,h.dead,h.len⟩⟩
 ·rcases h.live he ho with ⟨a0,r,q1,rfl,rfl,rfl,rfl⟩ | ⟨x,q1,q2⟩
  ·refine .inr ⟨3, ?_,rfl⟩
   unfold cntP;rw [q1];simp only;rw [if_pos hv]
  ·exfalso
   subst ho
   obtain ⟨rfl,q3⟩:=q2
   have:=hz q3;omega
 ·have hx':=h.dead x hx
  cases off with
  | true=>exact hx
  | false=>obtain ⟨rfl,hx'⟩:=hx';have:=hz hx';omega
 ·rcases h.live he ho with ⟨a0,r,q1,rfl,rfl,rfl,rfl⟩ | ⟨x,q1,q2⟩
  ·refine .inl ⟨_,_, ?_,rfl,rfl,rfl,rfl⟩
   unfold cntP;rw [q1];simp only;rw [if_neg hv]
  ·refine .inr ⟨x, ?_,q2⟩
   unfold cntP;rw [q1]
end B
end Go.Proofs.YtmkkljbfmdngfaaGreatDoor
