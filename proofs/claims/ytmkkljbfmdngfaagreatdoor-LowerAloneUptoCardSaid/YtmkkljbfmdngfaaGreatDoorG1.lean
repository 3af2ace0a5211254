/- Data of mailboxes; laws of loops. No condition. -/
import Derived.Test.YtmkkljbfmdngfaaGreatDoorProg
import Derived.Test.YtmkkljbfmdngfaaGreatDoorSh
import Derived.Test.YtmkkljbfmdngfaaGreatDoorB30
import Derived.Lib.AppendIntMem
import Derived.Lib.ItoaLen
set_option linter.all false
namespace Go.Proofs.YtmkkljbfmdngfaaGreatDoor
namespace B
open Go.RowKit
noncomputable abbrev P:Program:=Tryz.prog
theorem W64 {n:Int} (h: -9223372036854775808≤n) (h':n≤9223372036854775807) :Go.IntKind.wrap .i64 n=n:=by
 unfold Go.IntKind.wrap Go.IntKind.bits Go.IntKind.signed
 simp
 omega
theorem endB {c:Bool} {bs:List (Nat×List CV)} {b:Bool} (h:c=b) :EndR (.d (.bool c)) (.d (.bool b)) bs []:=end0 (by rw [h]) rfl
theorem endI {c:Int} {bs:List (Nat×List CV)} {b:Int} (h:c=b) :EndR (.d (.int .i64 c)) (.d (.int .i64 b)) bs []:=end0 (by rw [h]) rfl
theorem endS {c:Bytes} {bs:List (Nat×List CV)} {b:Bytes} (h:c=b) :EndR (.d (.str c)) (.d (.str b)) bs []:=end0 (by rw [h]) rfl
theorem maxI64:Go.IntKind.max Go.IntKind.i64=9223372036854775807:=by decide
theorem range1 {N:Nat} {G:(Int→Nat→Prop)→Int→Nat→Prop} {E:Int→Prop} (J:Nat→Prop) (hN:N≤9223372036854775806) (h0:J 0)
  (hs: ∀i,i<N→(0≤(i:Int)∧(i:Int) <nI N)→J i→∀(I:Int→Nat→Prop) (k:Nat),(J (i+1)→∀m:Int,Go.IntKind.wrap .i64 ((i:Int) +1) =m→∃k',k'<k∧I m k')→G I i k) (he:J N→E N) :
  ∃I:Int→Nat→Prop,(∃k,I 0 k)∧∀n k,I n k→((decide (n<nI N) =true→G I n k)∧(decide (n<nI N) =false→E n)):=by
 refine ⟨fun n k=>∃i:Nat,n=i∧i≤N∧J i∧k=N-i,⟨_,0,rfl,by omega,h0,rfl⟩, ?_⟩
 rintro _ _ ⟨i,rfl,hi,hj,rfl⟩
 refine ⟨fun h=> ?_,fun h=> ?_⟩
 ·have h:=of_decide_eq_true h
  refine hs i (by simp only [nI] at h;omega) ⟨by omega,h⟩ hj _ _ fun hj' m hm=> ?_
  simp only [nI] at h
  subst hm
  exact ⟨N-(i+1),by omega,i+1,by rw [W64 (by omega) (by omega)];rfl,by omega,hj',rfl⟩
 ·have h:=of_decide_eq_false h
  simp only [nI] at h
  obtain rfl:i=N:=by omega
  exact he hj
theorem range2 {X:Type} {N:Nat} {G:(X→Int→Nat→Prop)→X→Int→Nat→Prop} {E:X→Int→Prop} {x0:X} (J:Nat→X→Prop) (hN:N≤9223372036854775806) (h0:J 0 x0)
  (hs: ∀i,i<N→(0≤(i:Int)∧(i:Int) <nI N)→∀x,J i x→∀(I:X→Int→Nat→Prop) (k:Nat),(∀x',J (i+1) x'→∀m:Int,Go.IntKind.wrap .i64 ((i:Int) +1) =m→∃k',k'<k∧I x' m k')→G I x i k) (he: ∀x,J N x→E x N) :
  ∃I:X→Int→Nat→Prop,(∃k,I x0 0 k)∧∀x n k,I x n k→((decide (n<nI N) =true→G I x n k)∧(decide (n<nI N) =false→E x n)):=by
 refine ⟨fun x n k=>∃i:Nat,n=i∧i≤N∧J i x∧k=N-i,⟨_,0,rfl,by omega,h0,rfl⟩, ?_⟩
 rintro x _ _ ⟨i,rfl,hi,hj,rfl⟩
 refine ⟨fun h=> ?_,fun h=> ?_⟩
 ·have h:=of_decide_eq_true h
  refine hs i (by simp only [nI] at h;omega) ⟨by omega,h⟩ x hj _ _ fun x' hj' m hm=> ?_
  simp only [nI] at h
  subst hm
  exact ⟨N-(i+1),by omega,i+1,by rw [W64 (by omega) (by omega)];rfl,by omega,hj',rfl⟩
 ·have h:=of_decide_eq_false h
  simp only [nI] at h
  obtain rfl:i=N:=by omega
  exact he x hj
theorem range2' {X:Type} {N:Nat} {G:(Int→X→Nat→Prop)→Int→X→Nat→Prop} {E:X→Int→Prop} {x0:X} (J:Nat→X→Prop) (hN:N≤9223372036854775806) (h0:J 0 x0)
  (hs: ∀i,i<N→(0≤(i:Int)∧(i:Int) <nI N)→∀x,J i x→∀(I:Int→X→Nat→Prop) (k:Nat),(∀x',J (i+1) x'→∀m:Int,Go.IntKind.wrap .i64 ((i:Int) +1) =m→∃k',k'<k∧I m x' k')→G I i x k) (he: ∀x,J N x→E x N) :
  ∃I:Int→X→Nat→Prop,(∃k,I 0 x0 k)∧∀n x k,I n x k→((decide (n<nI N) =true→G I n x k)∧(decide (n<nI N) =false→E x n)):=by
 refine ⟨fun n x k=>∃i:Nat,n=i∧i≤N∧J i x∧k=N-i,⟨_,0,rfl,by omega,h0,rfl⟩, ?_⟩
 rintro _ x _ ⟨i,rfl,hi,hj,rfl⟩
 refine ⟨fun h=> ?_,fun h=> ?_⟩
 ·have h:=of_decide_eq_true h
  refine hs i (by simp only [nI] at h;omega) ⟨by omega,h⟩ x hj _ _ fun x' hj' m hm=> ?_
  simp only [nI] at h
  subst hm
  exact ⟨N-(i+1),by omega,i+1,by rw [W64 (by omega) (by omega)];rfl,by omega,hj',rfl⟩
 ·have h:=of_decide_eq_false h
  simp only [nI] at h
  obtain rfl:i=N:=by omega
  exact he x hj
theorem drop_cons {α:Type} {l:List α} {i:Nat} (h:i<l.length) :l.drop i=l[i] :: l.drop (i+1):=(List.getElem_cons_drop h).symm
theorem getD_map {α:Type} (f:α→D) (l:List α) {i:Nat} (h:i<l.length) :(l.map f).getD (Int.toNat (i:Int)) .nilp=f l[i]:=by
 simp [List.getD_eq_getElem?_getD,h]
theorem getD_byte (s:Bytes) {i:Nat} (h:i<s.length) :s.getD (Int.toNat (i:Int)) 0=s[i]:=by
 simp [List.getD_eq_getElem?_getD,h]
theorem nI_map {α β:Type} (f:α→β) (l:List α) :nI (List.length (l.map f)) =nI l.length:=by simp
structure Msg where
 uid:Int
 mod:Int
 date:Int
 id:Bytes
 flags:Int
 keys:List Int
 text:Bytes
structure Box where
 id:Bytes
 valid:Int
 next:Int
 high:Int
 words:List Bytes
 msgs:List Msg
abbrev iD (n:Int) :D:= .int .i64 n
def ints (l:List Int) :List D:=l.map iD
def strs (l:List Bytes) :List D:=l.map .str
def bs (s:Bytes) :List D:=s.map byteD
def Msg.cs (m:Msg) :List D:=[iD m.uid,iD m.mod,iD m.date, .str m.id,iD m.flags, .slice 1 (ints m.keys), .str m.text]
def Msg.d (m:Msg) :D:= .agg m.cs
def Box.cs (b:Box) :List D:=[.str b.id,iD b.valid,iD b.next,iD b.high, .slice 1 (strs b.words), .slice 7 (b.msgs.map Msg.d)]
def Box.d (b:Box) :D:= .agg b.cs
def errB (b:Bool) :Int:=if b=true then 0 else 1
theorem ints_len (l:List Int) :(ints l).length=l.length:=by simp [ints]
theorem strs_len (l:List Bytes) :(strs l).length=l.length:=by simp [strs]
theorem ints_get (l:List Int) {i:Nat} (h:i<l.length) :(ints l).getD (Int.toNat (i:Int)) .nilp=iD l[i]:=getD_map _ l h
theorem strs_get (l:List Bytes) {i:Nat} (h:i<l.length) :(strs l).getD (Int.toNat (i:Int)) .nilp= .str l[i]:=getD_map _ l h
theorem msgs_get (l:List Msg) {i:Nat} (h:i<l.length) :(l.map Msg.d).getD (Int.toNat (i:Int)) .nilp=l[i].d:=getD_map _ l h
end B
end Go.Proofs.YtmkkljbfmdngfaaGreatDoor
namespace Go.Proofs.YtmkkljbfmdngfaaGreatDoor
namespace B
def HH:Hint:=⟨fun f _=>if f==168||f==171||f==133||f==137 then [1100] else [],fun f=>if f==999999||f==999999||f==999999||f==129||f==134 then some 0 else none⟩
set_option maxRecDepth 100000
theorem t15:okF P HH 13 1=true:=by kernel_rfl
theorem t16:okF P HH 14 1=true:=by kernel_rfl
theorem t36:okF P HH 44 2=true:=by kernel_rfl
theorem t45:okF P HH 43 1=true:=by kernel_rfl
theorem t46:okF P HH 45 2=true:=by kernel_rfl
theorem t47:okF P HH 35 1=true:=by kernel_rfl
theorem t84:okF P HH 69 2=true:=by kernel_rfl
theorem t89:okF P HH 70 2=true:=by kernel_rfl
theorem t98:okF P HH 91 2=true:=by kernel_rfl
theorem t99:okF P HH 66 1=true:=by kernel_rfl
theorem t100:okF P HH 67 3=true:=by kernel_rfl
theorem t101:okF P HH 68 1=true:=by kernel_rfl
theorem t124:okF P HH 115 2=true:=by kernel_rfl
theorem t128:okF P HH 116 2=true:=by kernel_rfl
theorem vc101 (s0:Bytes) (res:CV) (objs':List (Nat×List CV)) :walkA P (tbF P [163,148,112,129,134,118] [] 68) (anOf (afOf P HH 68) []) (afOf P HH 68) [CV.d (D.str s0)] [] (fun rs=>endE rs res objs') =((∃b1:Bool,((Runs P 66 [CV.d (D.str s0)] [] (CV.d (D.bool b1)) [])∧EndR (CV.d (D.bool b1)) res [] objs'))):=by kernel_rfl
theorem vc100 (n0:Int) (n1:Int) (n2:Int) (res:CV) (objs':List (Nat×List CV)) :walkA P (tbF P [163,148,112,129,134,118] [] 67) (anOf (afOf P HH 67) []) (afOf P HH 67) [CV.d (D.int .i64 n0),CV.d (D.int .i64 n1),CV.d (D.int .i64 n2)] [] (fun rs=>endE rs res objs') =((∀b3:Bool,((decide (n0≥n1) &&decide (n0≤n2)) =b3→EndR (CV.d (D.bool b3)) res [] objs'))):=by kernel_rfl
theorem vc99 (s0:Bytes) (res:CV) (objs':List (Nat×List CV)) :walkA P (tbF P [163,148,112,129,134,118] [] 66) (anOf (afOf P HH 66) []) (afOf P HH 66) [CV.d (D.str s0)] [] (fun rs=>endE rs res objs') =((∃I1:(Int→(Nat→Prop)),((∃k2:Nat,I1 0 k2)∧(∀n3:Int,(∀k4:Nat,(I1 n3 k4→(((decide (n3<nI (List.length s0))) =true→((0≤n3∧n3<nI (List.length s0))∧(∀b5:Bool,((decide (nI (UInt8.toNat (List.getD s0 (Int.toNat n3) 0))≥97) &&decide (nI (UInt8.toNat (List.getD s0 (Int.toNat n3) 0))≤122)) =b5→(∀b6:Bool,((decide (nI (UInt8.toNat (List.getD s0 (Int.toNat n3) 0))≥65) &&decide (nI (UInt8.toNat (List.getD s0 (Int.toNat n3) 0))≤90)) =b6→(∀b7:Bool,((b5||b6) =b7→(∀b8:Bool,((decide (nI (UInt8.toNat (List.getD s0 (Int.toNat n3) 0))≥48) &&decide (nI (UInt8.toNat (List.getD s0 (Int.toNat n3) 0))≤57)) =b8→(∀b9:Bool,((b7||b8) =b9→(∃n10:Int,(((!b9) =true→Runs P 114 [CV.d (D.str [46,95,45,36,47]),CV.d (D.int .u8 (nI (UInt8.toNat (List.getD s0 (Int.toNat n3) 0))))] [] (CV.d (D.int .i64 n10)) [])∧(∀b11:Bool,((b9||decide (n10≥0)) =b11→(((!b11) =true→EndR (CV.d (D.bool false)) res [] objs')∧((!b11) =false→(∀n12:Int,(Go.IntKind.wrap Go.IntKind.i64 (n3+1) =n12→(∃k13:Nat,((k13<k4)∧I1 n12 k13))))))))))))))))))))))∧((decide (n3<nI (List.length s0))) =false→(∀b14:Bool,((decide (nI (List.length s0)≥1) &&decide (nI (List.length s0)≤24)) =b14→EndR (CV.d (D.bool b14)) res [] objs')))))))))):=by kernel_rfl
theorem vc45 (s0:Bytes) (res:CV) (objs':List (Nat×List CV)) :walkA P (tbF P [163,148,112,129,134,118] [] 43) (anOf (afOf P HH 43) []) (afOf P HH 43) [CV.d (D.str s0)] [] (fun rs=>endE rs res objs') =((∀b1:Bool,((decide (nI (List.length s0) <1) ||decide (nI (List.length s0) >24)) =b1→(((b1) =true→EndR (CV.d (D.bool false)) res [] objs')∧((b1) =false→(∃I2:(Int→(Nat→Prop)),((∃k3:Nat,I2 0 k3)∧(∀n4:Int,(∀k5:Nat,(I2 n4 k5→(((decide (n4<nI (List.length s0))) =true→((0≤n4∧n4<nI (List.length s0))∧(∀b6:Bool,((decide (nI (UInt8.toNat (List.getD s0 (Int.toNat n4) 0)) <97) ||decide (nI (UInt8.toNat (List.getD s0 (Int.toNat n4) 0)) >122)) =b6→(∀b7:Bool,((decide (nI (UInt8.toNat (List.getD s0 (Int.toNat n4) 0)) <65) ||decide (nI (UInt8.toNat (List.getD s0 (Int.toNat n4) 0)) >90)) =b7→(∀b8:Bool,((b6&&b7) =b8→(∀b9:Bool,((decide (nI (UInt8.toNat (List.getD s0 (Int.toNat n4) 0)) <48) ||decide (nI (UInt8.toNat (List.getD s0 (Int.toNat n4) 0)) >57)) =b9→(∀b10:Bool,((b8&&b9) =b10→(∀b11:Bool,((b10&&nI (UInt8.toNat (List.getD s0 (Int.toNat n4) 0)) !=46) =b11→(∀b12:Bool,((b11&&nI (UInt8.toNat (List.getD s0 (Int.toNat n4) 0)) !=95) =b12→(∀b13:Bool,((b12&&nI (UInt8.toNat (List.getD s0 (Int.toNat n4) 0)) !=45) =b13→(∀b14:Bool,((b13&&nI (UInt8.toNat (List.getD s0 (Int.toNat n4) 0)) !=36) =b14→(∀b15:Bool,((b14&&nI (UInt8.toNat (List.getD s0 (Int.toNat n4) 0)) !=47) =b15→(((b15) =true→EndR (CV.d (D.bool false)) res [] objs')∧((b15) =false→(∀n16:Int,(Go.IntKind.wrap Go.IntKind.i64 (n4+1) =n16→(∃k17:Nat,((k17<k5)∧I2 n16 k17))))))))))))))))))))))))))))∧((decide (n4<nI (List.length s0))) =false→EndR (CV.d (D.bool true)) res [] objs')))))))))))):=by kernel_rfl
theorem vc98 (l0:List D) (n1:Int) (res:CV) (objs':List (Nat×List CV)) :walkA P (tbF P [163,148,112,129,134,118] [] 91) (anOf (afOf P HH 91) []) (afOf P HH 91) [CV.d (D.slice 1 l0),CV.d (D.int .i64 n1)] [] (fun rs=>endE rs res objs') =((∃I2:(Int→(Int→(Nat→Prop))),((∃k3:Nat,I2 (-1) 0 k3)∧(∀n4:Int,(∀n5:Int,(∀k6:Nat,(I2 n4 n5 k6→(((decide (n5<nI (List.length l0))) =true→((0≤n5∧n5<nI (List.length l0))∧(∃n7:Int,((D.cells (List.getD l0 (Int.toNat n5) D.nilp) = [D.int .i64 n7])∧(∀b8:Bool,((decide (n7≤n4) ||decide (n7≥n1)) =b8→(((b8) =true→EndR (CV.d (D.bool false)) res [] objs')∧((b8) =false→(∀n9:Int,(Go.IntKind.wrap Go.IntKind.i64 (n5+1) =n9→(∃k10:Nat,((k10<k6)∧I2 n7 n9 k10))))))))))))∧((decide (n5<nI (List.length l0))) =false→EndR (CV.d (D.bool true)) res [] objs'))))))))):=by kernel_rfl
theorem vc128 (l0:List D) (n1:Int) (res:CV) (objs':List (Nat×List CV)) :walkA P (tbF P [163,148,112,129,134,118] [] 116) (anOf (afOf P HH 116) []) (afOf P HH 116) [CV.d (D.slice 1 l0),CV.d (D.int .i64 n1)] [] (fun rs=>endE rs res objs') =((∃I2:(Int→(Int→(Nat→Prop))),((∃k3:Nat,I2 (-1) 0 k3)∧(∀n4:Int,(∀n5:Int,(∀k6:Nat,(I2 n4 n5 k6→(((decide (n5<nI (List.length l0))) =true→((0≤n5∧n5<nI (List.length l0))∧(∃n7:Int,((D.cells (List.getD l0 (Int.toNat n5) D.nilp) = [D.int .i64 n7])∧(∀b8:Bool,((decide (n7≤n4) ||decide (n7≥n1)) =b8→(((b8) =true→EndR (CV.d (D.bool false)) res [] objs')∧((b8) =false→(∀n9:Int,(Go.IntKind.wrap Go.IntKind.i64 (n5+1) =n9→(∃k10:Nat,((k10<k6)∧I2 n7 n9 k10))))))))))))∧((decide (n5<nI (List.length l0))) =false→EndR (CV.d (D.bool true)) res [] objs'))))))))):=by kernel_rfl
theorem vc36 (l0:List D) (s1:Bytes) (res:CV) (objs':List (Nat×List CV)) :walkA P (tbF P [163,148,112,129,134,118] [] 44) (anOf (afOf P HH 44) []) (afOf P HH 44) [CV.d (D.slice 1 l0),CV.d (D.str s1)] [] (fun rs=>endE rs res objs') =((∃I2:(Int→(Nat→Prop)),((∃k3:Nat,I2 0 k3)∧(∀n4:Int,(∀k5:Nat,(I2 n4 k5→(((decide (n4<nI (List.length l0))) =true→((0≤n4∧n4<nI (List.length l0))∧(∃s6:Bytes,((D.cells (List.getD l0 (Int.toNat n4) D.nilp) = [D.str s6])∧(((s6==s1) =true→EndR (CV.d (D.bool true)) res [] objs')∧((s6==s1) =false→(∀n7:Int,(Go.IntKind.wrap Go.IntKind.i64 (n4+1) =n7→(∃k8:Nat,((k8<k5)∧I2 n7 k8))))))))))∧((decide (n4<nI (List.length l0))) =false→EndR (CV.d (D.bool false)) res [] objs')))))))):=by kernel_rfl
theorem vc84 (l0:List D) (s1:Bytes) (res:CV) (objs':List (Nat×List CV)) :walkA P (tbF P [163,148,112,129,134,118] [] 69) (anOf (afOf P HH 69) []) (afOf P HH 69) [CV.d (D.slice 1 l0),CV.d (D.str s1)] [] (fun rs=>endE rs res objs') =((∃n2:Int,((Runs P 115 [CV.d (D.slice 1 l0),CV.d (D.str s1)] [] (CV.d (D.int .i64 n2)) [])∧EndR (CV.d (D.bool (decide (n2≥0)))) res [] objs'))):=by kernel_rfl
theorem vc124 (l0:List D) (s1:Bytes) (res:CV) (objs':List (Nat×List CV)) :walkA P (tbF P [163,148,112,129,134,118] [] 115) (anOf (afOf P HH 115) []) (afOf P HH 115) [CV.d (D.slice 1 l0),CV.d (D.str s1)] [] (fun rs=>endE rs res objs') =((∃I2:(Int→(Nat→Prop)),((∃k3:Nat,I2 0 k3)∧(∀n4:Int,(∀k5:Nat,(I2 n4 k5→(((decide (n4<nI (List.length l0))) =true→((0≤n4∧n4<nI (List.length l0))∧(∃s6:Bytes,((D.cells (List.getD l0 (Int.toNat n4) D.nilp) = [D.str s6])∧(((s1==s6) =true→EndR (CV.d (D.int .i64 n4)) res [] objs')∧((s1==s6) =false→(∀n7:Int,(Go.IntKind.wrap Go.IntKind.i64 (n4+1) =n7→(∃k8:Nat,((k8<k5)∧I2 n7 k8))))))))))∧((decide (n4<nI (List.length l0))) =false→EndR (CV.d (D.int .i64 (-1:Int))) res [] objs')))))))):=by kernel_rfl
theorem vc89 (s0:Bytes) (n1:Int) (n2:Int) (n3:Int) (l4:List D) (l5:List D) (n6:Int) (n7:Int) (n8:Int) (s9:Bytes) (n10:Int) (l11:List D) (s12:Bytes) (res:CV) (objs':List (Nat×List CV)) :walkA P (tbF P [163,148,112,129,134,118] [] 70) (anOf (afOf P HH 70) []) (afOf P HH 70) [CV.d (D.agg [D.str s0,D.int .i64 n1,D.int .i64 n2,D.int .i64 n3,D.slice 1 l4,D.slice 7 l5]),CV.d (D.agg [D.int .i64 n6,D.int .i64 n7,D.int .i64 n8,D.str s9,D.int .i64 n10,D.slice 1 l11,D.str s12])] [] (fun rs=>endE rs res objs') =((∃b13:Bool,((Runs P 67 [CV.d (D.int .i64 n6),CV.d (D.int .i64 1),CV.d (D.int .i64 999999)] [] (CV.d (D.bool b13)) [])∧(∃b14:Bool,(((!!b13) =true→Runs P 67 [CV.d (D.int .i64 n7),CV.d (D.int .i64 1),CV.d (D.int .i64 1000000)] [] (CV.d (D.bool b14)) [])∧(∀b15:Bool,((!b13|| !b14) =b15→(∃b16:Bool,(((!b15) =true→Runs P 67 [CV.d (D.int .i64 n8),CV.d (D.int .i64 0),CV.d (D.int .i64 1000000)] [] (CV.d (D.bool b16)) [])∧(∀b17:Bool,((b15|| !b16) =b17→(∃b18:Bool,(((!b17) =true→Runs P 66 [CV.d (D.str s9)] [] (CV.d (D.bool b18)) [])∧(∀b19:Bool,((b17|| !b18) =b19→(∃b20:Bool,(((!b19) =true→Runs P 67 [CV.d (D.int .i64 n10),CV.d (D.int .i64 0),CV.d (D.int .i64 31)] [] (CV.d (D.bool b20)) [])∧(∀b21:Bool,((b19|| !b20) =b21→(∃b22:Bool,(((!b21) =true→Runs P 116 [CV.d (D.slice 1 l11),CV.d (D.int .i64 (nI (List.length l4)))] [] (CV.d (D.bool b22)) [])∧(∀b23:Bool,((b21|| !b22) =b23→(∀b24:Bool,((b23||decide (nI (List.length s12) >300)) =b24→(((b24) =true→EndR (CV.d (D.int .i64 (1:Int))) res [(2,[CV.d (D.str s0),CV.d (D.int .i64 n1),CV.d (D.int .i64 n2),CV.d (D.int .i64 n3),CV.d (D.slice 1 l4),CV.d (D.slice 7 l5)]),(3,[CV.d (D.int .i64 n6),CV.d (D.int .i64 n7),CV.d (D.int .i64 n8),CV.d (D.str s9),CV.d (D.int .i64 n10),CV.d (D.slice 1 l11),CV.d (D.str s12)])] objs')∧((b24) =false→EndR (CV.d (D.int .i64 (0:Int))) res [(2,[CV.d (D.str s0),CV.d (D.int .i64 n1),CV.d (D.int .i64 n2),CV.d (D.int .i64 n3),CV.d (D.slice 1 l4),CV.d (D.slice 7 l5)]),(3,[CV.d (D.int .i64 n6),CV.d (D.int .i64 n7),CV.d (D.int .i64 n8),CV.d (D.str s9),CV.d (D.int .i64 n10),CV.d (D.slice 1 l11),CV.d (D.str s12)])] objs'))))))))))))))))))))))))))):=by kernel_rfl
theorem vc46 (s0:Bytes) (n1:Int) (n2:Int) (n3:Int) (l4:List D) (l5:List D) (n6:Int) (n7:Int) (n8:Int) (s9:Bytes) (n10:Int) (l11:List D) (s12:Bytes) (res:CV) (objs':List (Nat×List CV)) :walkA P (tbF P [163,148,112,129,134,118] [] 45) (anOf (afOf P HH 45) []) (afOf P HH 45) [CV.d (D.agg [D.str s0,D.int .i64 n1,D.int .i64 n2,D.int .i64 n3,D.slice 1 l4,D.slice 7 l5]),CV.d (D.agg [D.int .i64 n6,D.int .i64 n7,D.int .i64 n8,D.str s9,D.int .i64 n10,D.slice 1 l11,D.str s12])] [] (fun rs=>endE rs res objs') =((∀b13:Bool,((decide (n6<1) ||decide (n6≥1000000)) =b13→(∀b14:Bool,((b13||decide (n7<1)) =b14→(∀b15:Bool,((b14||decide (n7>1000000)) =b15→(∀b16:Bool,((b15||decide (n8<0)) =b16→(∀b17:Bool,((b16||decide (n8>1000000)) =b17→(∃b18:Bool,(((!b17) =true→Runs P 43 [CV.d (D.str s9)] [] (CV.d (D.bool b18)) [])∧(∀b19:Bool,((b17|| !b18) =b19→(∀b20:Bool,((b19||decide (n10<0)) =b20→(∀b21:Bool,((b20||decide (n10>31)) =b21→(∃b22:Bool,(((!b21) =true→Runs P 91 [CV.d (D.slice 1 l11),CV.d (D.int .i64 (nI (List.length l4)))] [] (CV.d (D.bool b22)) [])∧(∀b23:Bool,((b21|| !b22) =b23→(∀b24:Bool,((b23||decide (nI (List.length s12) >300)) =b24→(((b24) =true→EndR (CV.d (D.int .i64 (1:Int))) res [(2,[CV.d (D.str s0),CV.d (D.int .i64 n1),CV.d (D.int .i64 n2),CV.d (D.int .i64 n3),CV.d (D.slice 1 l4),CV.d (D.slice 7 l5)]),(3,[CV.d (D.int .i64 n6),CV.d (D.int .i64 n7),CV.d (D.int .i64 n8),CV.d (D.str s9),CV.d (D.int .i64 n10),CV.d (D.slice 1 l11),CV.d (D.str s12)])] objs')∧((b24) =false→EndR (CV.d (D.int .i64 (0:Int))) res [(2,[CV.d (D.str s0),CV.d (D.int .i64 n1),CV.d (D.int .i64 n2),CV.d (D.int .i64 n3),CV.d (D.slice 1 l4),CV.d (D.slice 7 l5)]),(3,[CV.d (D.int .i64 n6),CV.d (D.int .i64 n7),CV.d (D.int .i64 n8),CV.d (D.str s9),CV.d (D.int .i64 n10),CV.d (D.slice 1 l11),CV.d (D.str s12)])] objs'))))))))))))))))))))))))))):=by kernel_rfl
theorem vc47 (s0:Bytes) (n1:Int) (n2:Int) (n3:Int) (l4:List D) (l5:List D) (res:CV) (objs':List (Nat×List CV)) :walkA P (tbF P [163,148,112,129,134,118] [] 35) (anOf (afOf P HH 35) []) (afOf P HH 35) [CV.d (D.agg [D.str s0,D.int .i64 n1,D.int .i64 n2,D.int .i64 n3,D.slice 1 l4,D.slice 7 l5])] [] (fun rs=>endE rs res objs') =((∃b6:Bool,((Runs P 66 [CV.d (D.str s0)] [] (CV.d (D.bool b6)) [])∧(∀b7:Bool,((!b6||decide (nI (List.length s0) >12)) =b7→(∃b8:Bool,(((!b7) =true→Runs P 67 [CV.d (D.int .i64 n1),CV.d (D.int .i64 1),CV.d (D.int .i64 1000000)] [] (CV.d (D.bool b8)) [])∧(∀b9:Bool,((b7|| !b8) =b9→(∃b10:Bool,(((!b9) =true→Runs P 67 [CV.d (D.int .i64 n3),CV.d (D.int .i64 1),CV.d (D.int .i64 1000000)] [] (CV.d (D.bool b10)) [])∧(∀b11:Bool,((b9|| !b10) =b11→(∃b12:Bool,(((!b11) =true→Runs P 67 [CV.d (D.int .i64 n2),CV.d (D.int .i64 1),CV.d (D.int .i64 1000000)] [] (CV.d (D.bool b12)) [])∧(∀b13:Bool,((b11|| !b12) =b13→(((b13) =true→EndR (CV.d (D.int .i64 (1:Int))) res [(1,[CV.d (D.str s0),CV.d (D.int .i64 n1),CV.d (D.int .i64 n2),CV.d (D.int .i64 n3),CV.d (D.slice 1 l4),CV.d (D.slice 7 l5)])] objs')∧((b13) =false→(∀b14:Bool,((decide (nI (List.length l4) >64) ||decide (nI (List.length l5) >60)) =b14→(((b14) =true→EndR (CV.d (D.int .i64 (4:Int))) res [(1,[CV.d (D.str s0),CV.d (D.int .i64 n1),CV.d (D.int .i64 n2),CV.d (D.int .i64 n3),CV.d (D.slice 1 l4),CV.d (D.slice 7 l5)])] objs')∧((b14) =false→(∃I15:(Int→(Nat→Prop)),((∃k16:Nat,I15 0 k16)∧(∀n17:Int,(∀k18:Nat,(I15 n17 k18→(((decide (n17<nI (List.length l4))) =true→((0≤n17∧n17<nI (List.length l4))∧(∃s19:Bytes,((D.cells (List.getD l4 (Int.toNat n17) D.nilp) = [D.str s19])∧(∃b20:Bool,((Runs P 68 [CV.d (D.str s19)] [] (CV.d (D.bool b20)) [])∧(((!!b20) =true→0≤nI 0∧nI 0≤n17∧n17≤nI (List.length l4))∧(∀l21:List D,(List.drop (Int.toNat (nI 0)) (List.take (Int.toNat n17) l4) =l21→(∃b22:Bool,(((!!b20) =true→Runs P 69 [CV.d (D.slice 1 l21),CV.d (D.str s19)] [] (CV.d (D.bool b22)) [])∧(∀b23:Bool,((!b20||b22) =b23→(((b23) =true→EndR (CV.d (D.int .i64 (1:Int))) res [(1,[CV.d (D.str s0),CV.d (D.int .i64 n1),CV.d (D.int .i64 n2),CV.d (D.int .i64 n3),CV.d (D.slice 1 l4),CV.d (D.slice 7 l5)])] objs')∧((b23) =false→(∀n24:Int,(Go.IntKind.wrap Go.IntKind.i64 (n17+1) =n24→(∃k25:Nat,((k25<k18)∧I15 n24 k25)))))))))))))))))))∧((decide (n17<nI (List.length l4))) =false→(∃I26:(Int→(Int→(Nat→Prop))),((∃k27:Nat,I26 0 0 k27)∧(∀n28:Int,(∀n29:Int,(∀k30:Nat,(I26 n28 n29 k30→(((decide (n29<nI (List.length l5))) =true→((0≤n29∧n29<nI (List.length l5))∧(∃n31:Int,(∃n32:Int,(∃n33:Int,(∃s34:Bytes,(∃n35:Int,(∃l36:List D,(∃s37:Bytes,((D.cells (List.getD l5 (Int.toNat n29) D.nilp) = [D.int .i64 n31,D.int .i64 n32,D.int .i64 n33,D.str s34,D.int .i64 n35,D.slice 1 l36,D.str s37])∧(∃n38:Int,((Runs P 70 [CV.d (D.agg [D.str s0,D.int .i64 n1,D.int .i64 n2,D.int .i64 n3,D.slice 1 l4,D.slice 7 l5]),CV.d (D.agg [D.int .i64 n31,D.int .i64 n32,D.int .i64 n33,D.str s34,D.int .i64 n35,D.slice 1 l36,D.str s37])] [] (CV.d (D.int .i64 n38)) [])∧(∀b39:Bool,((n38 !=0||decide (n31≤n28)) =b39→(∀b40:Bool,((b39||decide (n31≥n2)) =b40→(∀b41:Bool,((b40||decide (n32>n3)) =b41→(((b41) =true→EndR (CV.d (D.int .i64 (1:Int))) res [(1,[CV.d (D.str s0),CV.d (D.int .i64 n1),CV.d (D.int .i64 n2),CV.d (D.int .i64 n3),CV.d (D.slice 1 l4),CV.d (D.slice 7 l5)]),(7,[CV.d (D.int .i64 n31),CV.d (D.int .i64 n32),CV.d (D.int .i64 n33),CV.d (D.str s34),CV.d (D.int .i64 n35),CV.d (D.slice 1 l36),CV.d (D.str s37)])] objs')∧((b41) =false→(∀n42:Int,(Go.IntKind.wrap Go.IntKind.i64 (n29+1) =n42→(∃k43:Nat,((k43<k30)∧I26 n31 n42 k43))))))))))))))))))))))))∧((decide (n29<nI (List.length l5))) =false→EndR (CV.d (D.int .i64 (0:Int))) res [(1,[CV.d (D.str s0),CV.d (D.int .i64 n1),CV.d (D.int .i64 n2),CV.d (D.int .i64 n3),CV.d (D.slice 1 l4),CV.d (D.slice 7 l5)])] objs')))))))))))))))))))))))))))))))))))))):=by kernel_rfl
theorem vc16 (s0:Bytes) (n1:Int) (n2:Int) (n3:Int) (l4:List D) (l5:List D) (res:CV) (objs':List (Nat×List CV)) :walkA P (tbF P [163,148,112,129,134,118] [] 14) (anOf (afOf P HH 14) []) (afOf P HH 14) [CV.d (D.agg [D.str s0,D.int .i64 n1,D.int .i64 n2,D.int .i64 n3,D.slice 1 l4,D.slice 7 l5])] [] (fun rs=>endE rs res objs') =((∃b6:Bool,((Runs P 43 [CV.d (D.str s0)] [] (CV.d (D.bool b6)) [])∧(∀b7:Bool,((!b6||decide (nI (List.length s0) >12)) =b7→(∀b8:Bool,((b7||decide (n1<1)) =b8→(∀b9:Bool,((b8||decide (n1>1000000)) =b9→(∀b10:Bool,((b9||decide (n3<1)) =b10→(∀b11:Bool,((b10||decide (n3>1000000)) =b11→(∀b12:Bool,((b11||decide (n2<1)) =b12→(∀b13:Bool,((b12||decide (n2>1000000)) =b13→(((b13) =true→EndR (CV.d (D.int .i64 (1:Int))) res [(1,[CV.d (D.str s0),CV.d (D.int .i64 n1),CV.d (D.int .i64 n2),CV.d (D.int .i64 n3),CV.d (D.slice 1 l4),CV.d (D.slice 7 l5)])] objs')∧((b13) =false→(∀b14:Bool,((decide (nI (List.length l4) >64) ||decide (nI (List.length l5) >60)) =b14→(((b14) =true→EndR (CV.d (D.int .i64 (4:Int))) res [(1,[CV.d (D.str s0),CV.d (D.int .i64 n1),CV.d (D.int .i64 n2),CV.d (D.int .i64 n3),CV.d (D.slice 1 l4),CV.d (D.slice 7 l5)])] objs')∧((b14) =false→(∃I15:(Int→(Nat→Prop)),((∃k16:Nat,I15 0 k16)∧(∀n17:Int,(∀k18:Nat,(I15 n17 k18→(((decide (n17<nI (List.length l4))) =true→((0≤n17∧n17<nI (List.length l4))∧(∃s19:Bytes,((D.cells (List.getD l4 (Int.toNat n17) D.nilp) = [D.str s19])∧(∃b20:Bool,((Runs P 43 [CV.d (D.str s19)] [] (CV.d (D.bool b20)) [])∧(((!!b20) =true→0≤nI 0∧nI 0≤n17∧n17≤nI (List.length l4))∧(∀l21:List D,(List.drop (Int.toNat (nI 0)) (List.take (Int.toNat n17) l4) =l21→(∃b22:Bool,(((!!b20) =true→Runs P 44 [CV.d (D.slice 1 l21),CV.d (D.str s19)] [] (CV.d (D.bool b22)) [])∧(∀b23:Bool,((!b20||b22) =b23→(((b23) =true→EndR (CV.d (D.int .i64 (1:Int))) res [(1,[CV.d (D.str s0),CV.d (D.int .i64 n1),CV.d (D.int .i64 n2),CV.d (D.int .i64 n3),CV.d (D.slice 1 l4),CV.d (D.slice 7 l5)])] objs')∧((b23) =false→(∀n24:Int,(Go.IntKind.wrap Go.IntKind.i64 (n17+1) =n24→(∃k25:Nat,((k25<k18)∧I15 n24 k25)))))))))))))))))))∧((decide (n17<nI (List.length l4))) =false→(∃I26:(Int→(Int→(Nat→Prop))),((∃k27:Nat,I26 0 0 k27)∧(∀n28:Int,(∀n29:Int,(∀k30:Nat,(I26 n28 n29 k30→(((decide (n29<nI (List.length l5))) =true→((0≤n29∧n29<nI (List.length l5))∧(∃n31:Int,(∃n32:Int,(∃n33:Int,(∃s34:Bytes,(∃n35:Int,(∃l36:List D,(∃s37:Bytes,((D.cells (List.getD l5 (Int.toNat n29) D.nilp) = [D.int .i64 n31,D.int .i64 n32,D.int .i64 n33,D.str s34,D.int .i64 n35,D.slice 1 l36,D.str s37])∧(∃n38:Int,((Runs P 45 [CV.d (D.agg [D.str s0,D.int .i64 n1,D.int .i64 n2,D.int .i64 n3,D.slice 1 l4,D.slice 7 l5]),CV.d (D.agg [D.int .i64 n31,D.int .i64 n32,D.int .i64 n33,D.str s34,D.int .i64 n35,D.slice 1 l36,D.str s37])] [] (CV.d (D.int .i64 n38)) [])∧(((n38 !=0) =true→EndR (CV.d (D.int .i64 n38)) res [(1,[CV.d (D.str s0),CV.d (D.int .i64 n1),CV.d (D.int .i64 n2),CV.d (D.int .i64 n3),CV.d (D.slice 1 l4),CV.d (D.slice 7 l5)]),(7,[CV.d (D.int .i64 n31),CV.d (D.int .i64 n32),CV.d (D.int .i64 n33),CV.d (D.str s34),CV.d (D.int .i64 n35),CV.d (D.slice 1 l36),CV.d (D.str s37)])] objs')∧((n38 !=0) =false→(∀b39:Bool,((decide (n31≤n28) ||decide (n31≥n2)) =b39→(∀b40:Bool,((b39||decide (n32>n3)) =b40→(((b40) =true→EndR (CV.d (D.int .i64 (1:Int))) res [(1,[CV.d (D.str s0),CV.d (D.int .i64 n1),CV.d (D.int .i64 n2),CV.d (D.int .i64 n3),CV.d (D.slice 1 l4),CV.d (D.slice 7 l5)]),(7,[CV.d (D.int .i64 n31),CV.d (D.int .i64 n32),CV.d (D.int .i64 n33),CV.d (D.str s34),CV.d (D.int .i64 n35),CV.d (D.slice 1 l36),CV.d (D.str s37)])] objs')∧((b40) =false→(∀n41:Int,(Go.IntKind.wrap Go.IntKind.i64 (n29+1) =n41→(∃k42:Nat,((k42<k30)∧I26 n31 n41 k42))))))))))))))))))))))))∧((decide (n29<nI (List.length l5))) =false→EndR (CV.d (D.int .i64 (0:Int))) res [(1,[CV.d (D.str s0),CV.d (D.int .i64 n1),CV.d (D.int .i64 n2),CV.d (D.int .i64 n3),CV.d (D.slice 1 l4),CV.d (D.slice 7 l5)])] objs')))))))))))))))))))))))))))))))))))))):=by kernel_rfl
theorem vc15 (s0:Bytes) (n1:Int) (n2:Int) (n3:Int) (l4:List D) (l5:List D) (res:CV) (objs':List (Nat×List CV)) :walkA P (tbF P [163,148,112,129,134,118] [] 13) (anOf (afOf P HH 13) []) (afOf P HH 13) [CV.d (D.agg [D.str s0,D.int .i64 n1,D.int .i64 n2,D.int .i64 n3,D.slice 1 l4,D.slice 7 l5])] [] (fun rs=>endE rs res objs') =((∀n6:Int,(Go.IntKind.wrap Go.IntKind.i64 (nI (List.length s0) +nI (List.length l4)) =n6→(∀n7:Int,(Go.IntKind.wrap Go.IntKind.i64 (n6+nI (List.length l5)) =n7→(∃I8:(Int→(Int→(Nat→Prop))),((∃k9:Nat,I8 n7 0 k9)∧(∀n10:Int,(∀n11:Int,(∀k12:Nat,(I8 n10 n11 k12→(((decide (n11<nI (List.length l4))) =true→((0≤n11∧n11<nI (List.length l4))∧(∃s13:Bytes,((D.cells (List.getD l4 (Int.toNat n11) D.nilp) = [D.str s13])∧(∀n14:Int,(Go.IntKind.wrap Go.IntKind.i64 (n10+nI (List.length s13)) =n14→(∀n15:Int,(Go.IntKind.wrap Go.IntKind.i64 (n11+1) =n15→(∃k16:Nat,((k16<k12)∧I8 n14 n15 k16))))))))))∧((decide (n11<nI (List.length l4))) =false→(∃I17:(Int→(Int→(Nat→Prop))),((∃k18:Nat,I17 n10 0 k18)∧(∀n19:Int,(∀n20:Int,(∀k21:Nat,(I17 n19 n20 k21→(((decide (n20<nI (List.length l5))) =true→((0≤n20∧n20<nI (List.length l5))∧(∃n22:Int,(∃n23:Int,(∃n24:Int,(∃s25:Bytes,(∃n26:Int,(∃l27:List D,(∃s28:Bytes,((D.cells (List.getD l5 (Int.toNat n20) D.nilp) = [D.int .i64 n22,D.int .i64 n23,D.int .i64 n24,D.str s25,D.int .i64 n26,D.slice 1 l27,D.str s28])∧(∀n29:Int,(Go.IntKind.wrap Go.IntKind.i64 (nI (List.length l27) +nI (List.length s28)) =n29→(∀n30:Int,(Go.IntKind.wrap Go.IntKind.i64 (n29+nI (List.length s25)) =n30→(∀n31:Int,(Go.IntKind.wrap Go.IntKind.i64 (n19+n30) =n31→(∀n32:Int,(Go.IntKind.wrap Go.IntKind.i64 (n20+1) =n32→(∃k33:Nat,((k33<k21)∧I17 n31 n32 k33))))))))))))))))))))∧((decide (n20<nI (List.length l5))) =false→(∀b34:Bool,((decide (n19>60000) ||decide (nI (List.length l4) >100)) =b34→(∀b35:Bool,((b34||decide (nI (List.length l5) >100)) =b35→(((b35) =true→EndR (CV.d (D.int .i64 (1:Int))) res [(1,[CV.d (D.str s0),CV.d (D.int .i64 n1),CV.d (D.int .i64 n2),CV.d (D.int .i64 n3),CV.d (D.slice 1 l4),CV.d (D.slice 7 l5)])] objs')∧((b35) =false→EndR (CV.d (D.int .i64 (0:Int))) res [(1,[CV.d (D.str s0),CV.d (D.int .i64 n1),CV.d (D.int .i64 n2),CV.d (D.int .i64 n3),CV.d (D.slice 1 l4),CV.d (D.slice 7 l5)])] objs'))))))))))))))))))))))))))):=by kernel_rfl
end B
end Go.Proofs.YtmkkljbfmdngfaaGreatDoor
namespace Go.Proofs.YtmkkljbfmdngfaaGreatDoor
namespace B
open Go.RowKit
theorem gzTab {ρ:Nat→Role} {w:World} (h:GzOk ρ w) :Lib.TabIs P w "internal/strconv.uint64pow10" .u64 Lib.pow10Tab:=by
 obtain ⟨m,h⟩:=h
 obtain ⟨_,t,fz,k⟩:=h 0 _ rfl
 unfold Lib.TabIs World.var?
 rw [show P.globalNamed "internal/strconv.uint64pow10"=some 0 by kernel_rfl]
 simp only [Option.bind_some]
 rw [k]
theorem r57 (n:Int) (h0: -9223372036854775808≤n) (h1:n≤9223372036854775807) :Runs P 61 [.d (.int .i64 n)] [] (.d (.str (Lib.itoa n))) []:=by
 refine ⟨⟨Tryz.f61,Tryz.func61,by kernel_rfl,by kernel_rfl⟩,fun Γ ρ bl vals w h hz=> ?_⟩
 obtain ⟨v,rfl,hv⟩:=vals1 h
 obtain rfl:=rep_int hv
 refine (Tryz.strconv_Itoa n h0 h1 w (gzTab hz)).mono ?_
 rintro e w' ⟨rfl,k,os,rfl⟩
 exact done_below h (Go.Lib.below_grow _ _ (Nat.le_refl _) k os) (Rep.str _) (fun _ h=>h)
theorem r130 (s:Bytes) (c:Int) :Runs P 114 [.d (.str s), .d (.int .u8 c)] [] (.d (.int .i64 (Lib.indexByte s c.toNat.toUInt8))) []:=by
 refine ⟨⟨Tryz.f114,Tryz.func114,by kernel_rfl,by kernel_rfl⟩,fun Γ ρ bl vals w h hz=> ?_⟩
 obtain ⟨v,u,rfl,hv,hu⟩:=vals2 h
 obtain rfl:=rep_str hv
 obtain rfl:=rep_int hu
 refine (Tryz.strings_IndexByte ⟨s.toArray⟩ c w).mono ?_
 rintro e w' ⟨rfl,rfl⟩
 exact done_below h ⟨rfl,rfl,rfl,Nat.le_refl _,fun _ _=>rfl⟩ (Rep.int _ _) (fun _ h=>h)
def atomC (c:UInt8) :Bool:=(decide (97≤c.toNat) &&decide (c.toNat≤122)) ||(decide (65≤c.toNat) &&decide (c.toNat≤90)) ||(decide (48≤c.toNat) &&decide (c.toNat≤57)) ||c.toNat==46||c.toNat==95||c.toNat==45||c.toNat==36||c.toNat==47
def atomB (s:Bytes) :Bool:=decide (1≤s.length) &&decide (s.length≤24) &&s.all atomC
theorem idx_cons (b:UInt8) (l:Bytes) (c:UInt8) :decide (Lib.indexByte (b :: l) c≥0) =(c.toNat==b.toNat||decide (Lib.indexByte l c≥0)):=by
 have e:(b==c) =(c.toNat==b.toNat):=by
  rw [Bool.eq_iff_iff,beq_iff_eq,beq_iff_eq]
  constructor
  ·rintro rfl;rfl
  ·intro h;exact (UInt8.toNat_inj.1 h).symm
 rw [Lib.indexByte,←e]
 have:=Lib.indexByte_ge l c
 cases b==c
 ·by_cases h:Lib.indexByte l c= -1
  ·simp [h]
  ·simp [h];omega
 ·simp
theorem index5 (c:UInt8) :decide (Lib.indexByte [46,95,45,36,47] c≥0) =(c.toNat==46||(c.toNat==95||(c.toNat==45||(c.toNat==36||c.toNat==47)))):=by
 simp only [idx_cons]
 have:decide (Lib.indexByte [] c≥0) =false:=by simp [Lib.indexByte]
 rw [this,Bool.or_false]
 rfl
theorem r99 (s:Bytes) (hl:s.length≤9223372036854775806) :Runs P 66 [.d (.str s)] [] (.d (.bool (atomB s))) []:=by
 refine runs_walkZ t99 (vc99 _ _ _) rfl (by simp) ?_
 refine range1 (fun i=>s.all atomC=(s.drop i).all atomC) hl (by simp) (fun i hi bd hJ I k next=>⟨bd, ?_⟩) fun hJ=> ?_
 ·rw [getD_byte s hi]
  rintro _ rfl _ rfl _ rfl _ rfl _ rfl
  refine ⟨_,fun _=>r130 _ _, ?_⟩
  rintro b11 h11
  have e0:(nI s[i].toNat).toNat.toUInt8=s[i]:=by
   show (Int.toNat ((s[i].toNat:Nat) :Int)).toUInt8=s[i]
   rw [Int.toNat_natCast];simp
  rw [e0,index5] at h11
  have e:atomC s[i]=b11:=by
   rw [←h11];unfold atomC;simp only [nI,Bool.or_assoc,ge_iff_le]
   congr 1<;>first | (congr 1<;>exact decide_eq_decide.2 (by omega)) | skip
   congr 1<;>first | (congr 1<;>exact decide_eq_decide.2 (by omega)) | skip
   congr 1
   congr 1<;>exact decide_eq_decide.2 (by omega)
  rw [drop_cons hi,List.all_cons,e] at hJ
  refine ⟨fun h=>endB ?_,fun h=>next ?_⟩
  ·have:b11=false:=by simpa using h
   rw [this] at hJ
   unfold atomB;rw [hJ];simp
  ·have:b11=true:=by simpa using h
   rw [this] at hJ
   rw [hJ];simp
 ·rw [List.drop_length] at hJ
  rintro _ rfl
  refine endB ?_
  unfold atomB;rw [hJ]
  simp only [nI,ge_iff_le,List.all_nil,Bool.and_true]
  congr 1<;>exact decide_eq_decide.2 (by omega)
theorem r45 (s:Bytes) (hl:s.length≤9223372036854775806) :Runs P 43 [.d (.str s)] [] (.d (.bool (atomB s))) []:=by
 refine runs_walkZ t45 (vc45 _ _ _) rfl (by simp) ?_
 rintro b1 h1
 have e1:(decide (1≤s.length) &&decide (s.length≤24)) = !b1:=by
  rw [←h1];simp only [nI,Bool.not_or,←decide_not]
  congr 1<;>exact decide_eq_decide.2 (by omega)
 refine ⟨fun h=>endB (by unfold atomB;rw [e1,h];rfl),fun h=> ?_⟩
 subst h
 refine range1 (fun i=>s.all atomC=(s.drop i).all atomC) hl (by simp) (fun i hi bd hJ I k next=>⟨bd, ?_⟩) fun hJ=> ?_
 ·rw [getD_byte s hi]
  rintro _ rfl _ rfl _ rfl _ rfl _ rfl _ rfl _ rfl _ rfl _ rfl b15 h15
  have e:atomC s[i]= !b15:=by
   have q: ∀n:Nat,(nI s[i].toNat !=(n:Int)) = !(s[i].toNat==n):=fun n=>by
    simp only [nI,bne,Bool.not_not];congr 1
    rw [Bool.eq_iff_iff,beq_iff_eq,beq_iff_eq];omega
   rw [←h15]
   rw [show (46:Int) =((46:Nat) :Int) from rfl,show (95:Int) =((95:Nat) :Int) from rfl,show (45:Int) =((45:Nat) :Int) from rfl,show (36:Int) =((36:Nat) :Int) from rfl,show (47:Int) =((47:Nat) :Int) from rfl]
   simp only [q,Bool.not_and,Bool.not_or,Bool.not_not,←decide_not]
   unfold atomC
   simp only [nI]
   congr 1;congr 1;congr 1;congr 1;congr 1;congr 1
   ·congr 1<;>(congr 1<;>exact decide_eq_decide.2 (by omega))
   ·congr 1<;>exact decide_eq_decide.2 (by omega)
  rw [drop_cons hi,List.all_cons,e] at hJ
  refine ⟨fun h=>endB ?_,fun h=>next ?_⟩
  ·rw [h] at hJ;unfold atomB;rw [hJ];simp
  ·rw [h] at hJ;rw [hJ];simp
 ·rw [List.drop_length] at hJ
  refine endB ?_
  unfold atomB;rw [e1,hJ];rfl
theorem r101 (s:Bytes) (hl:s.length≤9223372036854775806) :Runs P 68 [.d (.str s)] [] (.d (.bool (atomB s))) []:=by
 refine runs_walkZ t101 (vc101 _ _ _) rfl (by simp) ?_
 exact ⟨_,r99 s hl,endB rfl⟩
def withinB (n a b:Int) :Bool:=decide (a≤n) &&decide (n≤b)
theorem r100 (n a b:Int) :Runs P 67 [.d (.int .i64 n), .d (.int .i64 a), .d (.int .i64 b)] [] (.d (.bool (withinB n a b))) []:=by
 refine runs_walkZ t100 (vc100 _ _ _ _ _) rfl (by simp) ?_
 rintro _ rfl
 exact endB rfl
def keysB (n:Int) :Int→List Int→Bool
 | _,[]=>true
 | was,k :: r=>decide (was<k) &&decide (k<n) &&keysB n k r
theorem keys_step {n was k:Int} {r:List Int} {b:Bool} (h:(decide (k≤was) ||decide (k≥n)) =b) :keysB n was (k :: r) =(!b&&keysB n k r):=by
 simp only [keysB]
 congr 1
 rw [←h,Bool.not_or,←decide_not,←decide_not]
 congr 1<;>exact decide_eq_decide.2 (by omega)
theorem r98 (l:List Int) (n:Int) (hl:l.length≤9223372036854775806) :Runs P 91 [.d (.slice 1 (ints l)), .d (.int .i64 n)] [] (.d (.bool (keysB n (-1) l))) []:=by
 refine runs_walkZ t98 (vc98 _ _ _ _) rfl (by simp) ?_
 rw [ints_len]
 refine range2 (fun i was=>keysB n (-1) l=keysB n was (l.drop i)) hl rfl (fun i hi bd was hJ I k next=>⟨bd, ?_⟩) fun was hJ=> ?_
 ·refine ⟨l[i],by rw [ints_get l hi];rfl,fun b hb=> ?_⟩
  rw [drop_cons hi,keys_step hb] at hJ
  exact ⟨fun h=>endB (by rw [hJ,h];rfl),fun h=>next _ (by rw [hJ,h];rfl)⟩
 ·rw [List.drop_length] at hJ
  exact endB hJ.symm
theorem r128 (l:List Int) (n:Int) (hl:l.length≤9223372036854775806) :Runs P 116 [.d (.slice 1 (ints l)), .d (.int .i64 n)] [] (.d (.bool (keysB n (-1) l))) []:=by
 refine runs_walkZ t128 (vc128 _ _ _ _) rfl (by simp) ?_
 rw [ints_len]
 refine range2 (fun i was=>keysB n (-1) l=keysB n was (l.drop i)) hl rfl (fun i hi bd was hJ I k next=>⟨bd, ?_⟩) fun was hJ=> ?_
 ·refine ⟨l[i],by rw [ints_get l hi];rfl,fun b hb=> ?_⟩
  rw [drop_cons hi,keys_step hb] at hJ
  exact ⟨fun h=>endB (by rw [hJ,h];rfl),fun h=>next _ (by rw [hJ,h];rfl)⟩
 ·rw [List.drop_length] at hJ
  exact endB hJ.symm
theorem r36 (l:List Bytes) (s:Bytes) (hl:l.length≤9223372036854775806) :Runs P 44 [.d (.slice 1 (strs l)), .d (.str s)] [] (.d (.bool (l.contains s))) []:=by
 refine runs_walkZ t36 (vc36 _ _ _ _) rfl (by simp) ?_
 rw [strs_len]
 refine range1 (fun i=>l.contains s=(l.drop i).contains s) hl rfl (fun i hi bd hJ I k next=>⟨bd, ?_⟩) fun hJ=> ?_
 ·refine ⟨l[i],by rw [strs_get l hi];rfl, ?_⟩
  rw [drop_cons hi,List.contains_cons] at hJ
  refine ⟨fun h=>endB ?_,fun h=>next ?_⟩
  ·rw [hJ,BEq.comm,h];rfl
  ·rw [hJ,BEq.comm,h];rfl
 ·rw [List.drop_length] at hJ
  exact endB hJ.symm
def idxOf (l:List Bytes) (s:Bytes) :Int:=if l.contains s then (l.idxOf s:Int) else-1
theorem r124 (l:List Bytes) (s:Bytes) (hl:l.length≤9223372036854775806) :Runs P 115 [.d (.slice 1 (strs l)), .d (.str s)] [] (.d (.int .i64 (idxOf l s))) []:=by
 refine runs_walkZ t124 (vc124 _ _ _ _) rfl (by simp) ?_
 rw [strs_len]
 refine range1 (fun i=>l.contains s=(l.drop i).contains s∧l.idxOf s=i+(l.drop i).idxOf s) hl ⟨rfl,by simp⟩ (fun i hi bd hJ I k next=>⟨bd, ?_⟩) fun hJ=> ?_
 ·refine ⟨l[i],by rw [strs_get l hi];rfl, ?_⟩
  rw [drop_cons hi,List.contains_cons,List.idxOf_cons] at hJ
  refine ⟨fun h=>endI ?_,fun h=>next ?_⟩
  ·rw [BEq.comm] at h
   rw [BEq.comm,h] at hJ
   unfold idxOf;rw [hJ.1,hJ.2];simp [h]
  ·rw [BEq.comm] at h
   rw [BEq.comm,h] at hJ
   refine ⟨by rw [hJ.1];rfl, ?_⟩
   rw [hJ.2];simp only [h,cond_false];omega
 ·rw [List.drop_length] at hJ
  refine endI ?_
  unfold idxOf;rw [hJ.1];rfl
theorem idxOf_ge (l:List Bytes) (s:Bytes) :decide (idxOf l s≥0) =l.contains s:=by
 unfold idxOf
 cases l.contains s<;>simp<;>omega
theorem r84 (l:List Bytes) (s:Bytes) (hl:l.length≤9223372036854775806) :Runs P 69 [.d (.slice 1 (strs l)), .d (.str s)] [] (.d (.bool (l.contains s))) []:=by
 refine runs_walkZ t84 (vc84 _ _ _ _) rfl (by simp) ?_
 exact ⟨_,r124 l s hl,endB (idxOf_ge l s)⟩
def mayMsg (nw:Nat) (m:Msg) :Bool:=withinB m.uid 1 999999&&(withinB m.mod 1 1000000&&(withinB m.date 0 1000000&&(atomB m.id&&(withinB m.flags 0 31&&(keysB nw (-1) m.keys&&decide (m.text.length≤300))))))
structure MsgOk (m:Msg) :Prop where
 id:m.id.length≤9223372036854775806
 keys:m.keys.length≤9223372036854775806
structure BoxOk (b:Box) :Prop where
 id:b.id.length≤9223372036854775806
 nw:b.words.length≤9223372036854775806
 nm:b.msgs.length≤9223372036854775806
 words: ∀w∈b.words,w.length≤9223372036854775806
 msgs: ∀m∈b.msgs,MsgOk m
theorem r89 (b:Box) (m:Msg) (hm:MsgOk m) :Runs P 70 [.d b.d, .d m.d] [] (.d (.int .i64 (errB (mayMsg b.words.length m)))) []:=by
 refine runs_walkZ t89 (vc89 _ _ _ _ _ _ _ _ _ _ _ _ _ _ _) rfl (by simp) ?_
 rw [strs_len]
 refine ⟨_,r100 _ _ _,_,fun _=>r100 _ _ _, ?_⟩
 rintro _ rfl
 refine ⟨_,fun _=>r100 _ _ _, ?_⟩
 rintro _ rfl
 refine ⟨_,fun _=>r99 _ hm.id, ?_⟩
 rintro _ rfl
 refine ⟨_,fun _=>r100 _ _ _, ?_⟩
 rintro _ rfl
 refine ⟨_,fun _=>r128 _ _ hm.keys, ?_⟩
 rintro _ rfl b24 h24
 have e:mayMsg b.words.length m= !b24:=by
  rw [←h24];unfold mayMsg;simp only [Bool.not_or,Bool.not_not,←decide_not,Bool.and_assoc]
  congr 6;exact decide_eq_decide.2 (by simp only [nI];omega)
 rw [e]
 exact ⟨fun h=>endI (by rw [h];rfl),fun h=>endI (by rw [h];rfl)⟩
theorem r46 (b:Box) (m:Msg) (hm:MsgOk m) :Runs P 45 [.d b.d, .d m.d] [] (.d (.int .i64 (errB (mayMsg b.words.length m)))) []:=by
 refine runs_walkZ t46 (vc46 _ _ _ _ _ _ _ _ _ _ _ _ _ _ _) rfl (by simp) ?_
 rw [strs_len]
 rintro _ rfl _ rfl _ rfl _ rfl _ rfl
 refine ⟨_,fun _=>r45 _ hm.id, ?_⟩
 rintro _ rfl _ rfl _ rfl
 refine ⟨_,fun _=>r98 _ _ hm.keys, ?_⟩
 rintro _ rfl b24 h24
 have e:mayMsg b.words.length m= !b24:=by
  rw [←h24];unfold mayMsg withinB;simp only [Bool.not_or,Bool.not_not,←decide_not,Bool.and_assoc]
  congr 1
  ·exact decide_eq_decide.2 (by omega)
  congr 1
  ·exact decide_eq_decide.2 (by omega)
  congr 1
  ·exact decide_eq_decide.2 (by omega)
  congr 1
  ·exact decide_eq_decide.2 (by omega)
  congr 1
  ·exact decide_eq_decide.2 (by omega)
  congr 1
  ·exact decide_eq_decide.2 (by omega)
  congr 1
  congr 1
  ·exact decide_eq_decide.2 (by omega)
  congr 1
  ·exact decide_eq_decide.2 (by omega)
  congr 1
  exact decide_eq_decide.2 (by simp only [nI];omega)
 rw [e]
 exact ⟨fun h=>endI (by rw [h];rfl),fun h=>endI (by rw [h];rfl)⟩
def wordsB:List Bytes→List Bytes→Bool
 | _,[]=>true
 | pre,w :: r=>atomB w&& !pre.contains w&&wordsB (pre++ [w]) r
def msgsB (nw:Nat) (next high:Int) :Int→List Msg→Bool
 | _,[]=>true
 | was,m :: r=>mayMsg nw m&&(decide (was<m.uid) &&(decide (m.uid<next) &&(decide (m.mod≤high) &&msgsB nw next high m.uid r)))
def headB (b:Box) :Bool:=atomB b.id&&(decide (b.id.length≤12) &&(withinB b.valid 1 1000000&&(withinB b.high 1 1000000&&withinB b.next 1 1000000)))
def sizeB (b:Box) :Bool:=decide (b.words.length≤64) &&decide (b.msgs.length≤60)
def mayBox (b:Box) :Int:=if headB b=true then (if sizeB b=true then errB (wordsB [] b.words&&msgsB b.words.length b.next b.high 0 b.msgs) else 4) else 1
theorem take_strs (l:List Bytes) (i:Nat) :List.drop (Int.toNat (nI 0)) (List.take (Int.toNat (i:Int)) (strs l)) =strs (l.take i):=by
 simp [nI,strs,List.map_take]
theorem r47 (b:Box) (hb:BoxOk b) :Runs P 35 [.d b.d] [] (.d (.int .i64 (mayBox b))) []:=by
 refine runs_walkZ t47 (vc47 _ _ _ _ _ _ _ _) rfl (by simp) ?_
 rw [strs_len,nI_map]
 refine ⟨_,r99 _ hb.id, ?_⟩
 rintro _ rfl
 refine ⟨_,fun _=>r100 _ _ _, ?_⟩
 rintro _ rfl
 refine ⟨_,fun _=>r100 _ _ _, ?_⟩
 rintro _ rfl
 refine ⟨_,fun _=>r100 _ _ _, ?_⟩
 rintro b13 h13
 have e:headB b= !b13:=by
  rw [←h13];unfold headB;simp only [Bool.not_or,Bool.not_not,←decide_not,Bool.and_assoc]
  congr 2;exact decide_eq_decide.2 (by simp only [nI];omega)
 refine ⟨fun h=>endI (by unfold mayBox;rw [e,h];rfl),fun h=> ?_⟩
 subst h
 rintro b14 h14
 have e2:sizeB b= !b14:=by
  rw [←h14];unfold sizeB;simp only [Bool.not_or,←decide_not]
  congr 1<;>exact decide_eq_decide.2 (by simp only [nI];omega)
 refine ⟨fun h=>endI (by unfold mayBox;rw [e,e2,h];rfl),fun h=> ?_⟩
 subst h
 have e3:mayBox b=errB (wordsB [] b.words&&msgsB b.words.length b.next b.high 0 b.msgs):=by unfold mayBox;rw [e,e2];rfl
 rw [e3]
 refine range1 (fun i=>wordsB [] b.words=wordsB (b.words.take i) (b.words.drop i)) hb.nw rfl (fun i hi bd hJ I k next=>⟨bd, ?_⟩) fun hJ=> ?_
 ·have hw:=hb.words _ (List.getElem_mem hi)
  refine ⟨b.words[i],by rw [strs_get _ hi];rfl,_,r101 _ hw,fun _=>⟨by simp [nI],bd.1,Int.le_of_lt bd.2⟩, ?_⟩
  rintro _ rfl
  rw [take_strs]
  refine ⟨_,fun _=>r84 _ _ (by have:=hb.nw;rw [List.length_take];omega), ?_⟩
  rintro b23 h23
  rw [drop_cons hi,wordsB,←List.take_succ_eq_append_getElem hi,show (atomB b.words[i]&& !(b.words.take i).contains b.words[i]) = !b23 by rw [←h23];simp] at hJ
  exact ⟨fun h=>endI (by rw [hJ,h];rfl),fun h=>next (by rw [hJ,h];rfl)⟩
 ·rw [List.drop_length,wordsB] at hJ
  rw [hJ,Bool.true_and]
  refine range2 (fun i was=>msgsB b.words.length b.next b.high 0 b.msgs=msgsB b.words.length b.next b.high was (b.msgs.drop i)) hb.nm rfl (fun i hi bd was hJ I k next=>⟨bd, ?_⟩) fun was hJ=> ?_
  ·have hm:=hb.msgs _ (List.getElem_mem hi)
   refine ⟨_,_,_,_,_,_,_,by rw [msgs_get _ hi];rfl,_,r89 b b.msgs[i] hm, ?_⟩
   rintro _ rfl _ rfl b41 h41
   rw [drop_cons hi,msgsB,←Bool.and_assoc,←Bool.and_assoc,←Bool.and_assoc,show (mayMsg b.words.length b.msgs[i]&&decide (was<b.msgs[i].uid) &&decide (b.msgs[i].uid<b.next) &&decide (b.msgs[i].mod≤b.high)) = !b41 by
    rw [←h41];simp only [Bool.not_or,←decide_not]
    congr 1
    congr 1
    congr 1
    ·cases mayMsg b.words.length b.msgs[i]<;>rfl
    ·exact decide_eq_decide.2 (by omega)
    ·exact decide_eq_decide.2 (by omega)
    ·exact decide_eq_decide.2 (by omega)] at hJ
   exact ⟨fun h=>endI (by rw [hJ,h];rfl),fun h=>next _ (by rw [hJ,h];rfl)⟩
  ·rw [List.drop_length,msgsB] at hJ
   exact endI (by rw [hJ];rfl)
theorem r16 (b:Box) (hb:BoxOk b) :Runs P 14 [.d b.d] [] (.d (.int .i64 (mayBox b))) []:=by
 refine runs_walkZ t16 (vc16 _ _ _ _ _ _ _ _) rfl (by simp) ?_
 rw [strs_len,nI_map]
 refine ⟨_,r45 _ hb.id, ?_⟩
 rintro _ rfl _ rfl _ rfl _ rfl _ rfl _ rfl b13 h13
 have e:headB b= !b13:=by
  rw [←h13];unfold headB withinB;simp only [Bool.not_or,Bool.not_not,←decide_not,Bool.and_assoc]
  congr 1
  congr 1
  ·exact decide_eq_decide.2 (by simp only [nI];omega)
  congr 1
  ·exact decide_eq_decide.2 (by omega)
  congr 1
  ·exact decide_eq_decide.2 (by omega)
  congr 1
  ·exact decide_eq_decide.2 (by omega)
  congr 1
  ·exact decide_eq_decide.2 (by omega)
  congr 1
  ·exact decide_eq_decide.2 (by omega)
  ·exact decide_eq_decide.2 (by omega)
 refine ⟨fun h=>endI (by unfold mayBox;rw [e,h];rfl),fun h=> ?_⟩
 subst h
 rintro b14 h14
 have e2:sizeB b= !b14:=by
  rw [←h14];unfold sizeB;simp only [Bool.not_or,←decide_not]
  congr 1<;>exact decide_eq_decide.2 (by simp only [nI];omega)
 refine ⟨fun h=>endI (by unfold mayBox;rw [e,e2,h];rfl),fun h=> ?_⟩
 subst h
 have e3:mayBox b=errB (wordsB [] b.words&&msgsB b.words.length b.next b.high 0 b.msgs):=by unfold mayBox;rw [e,e2];rfl
 rw [e3]
 refine range1 (fun i=>wordsB [] b.words=wordsB (b.words.take i) (b.words.drop i)) hb.nw rfl (fun i hi bd hJ I k next=>⟨bd, ?_⟩) fun hJ=> ?_
 ·have hw:=hb.words _ (List.getElem_mem hi)
  refine ⟨b.words[i],by rw [strs_get _ hi];rfl,_,r45 _ hw,fun _=>⟨by simp [nI],bd.1,Int.le_of_lt bd.2⟩, ?_⟩
  rintro _ rfl
  rw [take_strs]
  refine ⟨_,fun _=>r36 _ _ (by have:=hb.nw;rw [List.length_take];omega), ?_⟩
  rintro b23 h23
  rw [drop_cons hi,wordsB,←List.take_succ_eq_append_getElem hi,show (atomB b.words[i]&& !(b.words.take i).contains b.words[i]) = !b23 by rw [←h23];simp] at hJ
  exact ⟨fun h=>endI (by rw [hJ,h];rfl),fun h=>next (by rw [hJ,h];rfl)⟩
 ·rw [List.drop_length,wordsB] at hJ
  rw [hJ,Bool.true_and]
  refine range2 (fun i was=>msgsB b.words.length b.next b.high 0 b.msgs=msgsB b.words.length b.next b.high was (b.msgs.drop i)) hb.nm rfl (fun i hi bd was hJ I k next=>⟨bd, ?_⟩) fun was hJ=> ?_
  ·have hm:=hb.msgs _ (List.getElem_mem hi)
   rw [drop_cons hi,msgsB] at hJ
   refine ⟨_,_,_,_,_,_,_,by rw [msgs_get _ hi];rfl,_,r46 b b.msgs[i] hm,fun h=>endI ?_,fun h=> ?_⟩
   ·cases hc:mayMsg b.words.length b.msgs[i] with
    | true=>rw [hc] at h;simp [errB] at h
    | false=>rw [hJ,hc];rfl
   have hc:mayMsg b.words.length b.msgs[i]=true:=by
    cases hc:mayMsg b.words.length b.msgs[i] with
    | true=>rfl
    | false=>rw [hc] at h;simp [errB] at h
   rintro _ rfl b40 h40
   rw [hc,Bool.true_and,←Bool.and_assoc,←Bool.and_assoc,show (decide (was<b.msgs[i].uid) &&decide (b.msgs[i].uid<b.next) &&decide (b.msgs[i].mod≤b.high)) = !b40 by
    rw [←h40];simp only [Bool.not_or,←decide_not]
    congr 1
    congr 1
    ·exact decide_eq_decide.2 (by omega)
    ·exact decide_eq_decide.2 (by omega)
    ·exact decide_eq_decide.2 (by omega)] at hJ
   exact ⟨fun h=>endI (by rw [hJ,h];rfl),fun h=>next _ (by rw [hJ,h];rfl)⟩
  ·rw [List.drop_length,msgsB] at hJ
   exact endI (by rw [hJ];rfl)
def szM (m:Msg) :Nat:=m.keys.length+m.text.length+m.id.length
def szW (l:List Bytes) :Nat:=(l.map List.length).sum
def szMs (l:List Msg) :Nat:=(l.map szM).sum
def szBox (b:Box) :Nat:=b.id.length+b.words.length+b.msgs.length+szW b.words+szMs b.msgs
def heavy (b:Box) :Bool:=decide (60000<szBox b) ||decide (100<b.words.length) ||decide (100<b.msgs.length)
theorem sum_take {α:Type} (f:α→Nat) (l:List α) {i:Nat} (h:i<l.length) :((l.take (i+1)).map f).sum=((l.take i).map f).sum+f l[i]:=by
 rw [List.take_succ_eq_append_getElem h,List.map_append,List.sum_append];simp
theorem sum_take_le {α:Type} (f:α→Nat) (l:List α) (i:Nat) :((l.take i).map f).sum≤(l.map f).sum:=by
 conv=>rhs;rw [←List.take_append_drop i l,List.map_append,List.sum_append]
 omega
theorem r15 (b:Box) (hs:szBox b≤1099511627776) :Runs P 13 [.d b.d] [] (.d (.int .i64 (if heavy b=true then 1 else 0))) []:=by
 refine runs_walkZ t15 (vc15 _ _ _ _ _ _ _ _) rfl (by simp) ?_
 have h1:b.id.length≤1099511627776:=by unfold szBox at hs;omega
 have h2:b.words.length≤1099511627776:=by unfold szBox at hs;omega
 have h3:b.msgs.length≤1099511627776:=by unfold szBox at hs;omega
 have h4:szW b.words≤1099511627776:=by unfold szBox at hs;omega
 have h5:szMs b.msgs≤1099511627776:=by unfold szBox at hs;omega
 rw [strs_len,nI_map]
 simp only [nI]
 rintro _ rfl _ rfl
 rw [W64 (n:=(b.id.length:Int) +b.words.length) (by omega) (by omega),W64 (by omega) (by omega)]
 refine range2 (fun i n=>n=((b.id.length+b.words.length+b.msgs.length+szW (b.words.take i) :Nat) :Int)) (by omega) (by simp [szW]) (fun i hi bd n hJ I k next=>⟨bd, ?_⟩) fun n hJ=> ?_
 ·refine ⟨b.words[i],by rw [strs_get _ hi];rfl, ?_⟩
  rintro _ rfl
  refine next _ ?_
  have e:=sum_take List.length b.words hi
  have e2:=sum_take_le List.length b.words (i+1)
  unfold szW at h4⊢hJ
  rw [hJ,W64 (by omega) (by omega),e];omega
 ·rw [List.take_length] at hJ
  refine range2 (fun i n=>n=((b.id.length+b.words.length+b.msgs.length+szW b.words+szMs (b.msgs.take i) :Nat) :Int)) (by omega) (by rw [hJ];simp [szMs]) (fun i hi bd n hJ I k next=>⟨bd, ?_⟩) fun n hJ=> ?_
  ·refine ⟨_,_,_,_,_,_,_,by rw [msgs_get _ hi];rfl, ?_⟩
   rw [ints_len]
   rintro _ rfl _ rfl _ rfl
   refine next _ ?_
   have e:=sum_take szM b.msgs hi
   have e2:=sum_take_le szM b.msgs (i+1)
   unfold szMs at h5⊢hJ
   have e3:szM b.msgs[i]=b.msgs[i].keys.length+b.msgs[i].text.length+b.msgs[i].id.length:=rfl
   rw [W64 (n:=(b.msgs[i].keys.length:Int) +b.msgs[i].text.length) (by omega) (by omega),W64 (n:=(b.msgs[i].keys.length:Int) +b.msgs[i].text.length+b.msgs[i].id.length) (by omega) (by omega),hJ,W64 (by omega) (by omega),e];omega
  ·rw [List.take_length] at hJ
   rintro _ rfl b35 h35
   have e:heavy b=b35:=by
    rw [←h35];unfold heavy szBox;rw [hJ]
    congr 1
    congr 1
    ·exact decide_eq_decide.2 (by omega)
    ·exact decide_eq_decide.2 (by omega)
    ·exact decide_eq_decide.2 (by omega)
   rw [e]
   exact ⟨fun h=>endI (by rw [h];rfl),fun h=>endI (by rw [h];rfl)⟩
end B
end Go.Proofs.YtmkkljbfmdngfaaGreatDoor
namespace Go.Proofs.YtmkkljbfmdngfaaGreatDoor
namespace B
set_option maxRecDepth 100000
theorem t48:okF P HH 129 2=true:=by kernel_rfl
theorem t49:okF P HH 130 1=true:=by kernel_rfl
theorem t50:okF P HH 112 2=true:=by kernel_rfl
theorem t51:okF P HH 131 1=true:=by kernel_rfl
theorem t53:okF P HH 134 2=true:=by kernel_rfl
theorem t54:okF P HH 135 1=true:=by kernel_rfl
theorem t55:okF P HH 136 1=true:=by kernel_rfl
theorem t88:okF P HH 57 2=true:=by kernel_rfl
theorem t102:okF P HH 163 2=true:=by kernel_rfl
theorem t103:okF P HH 148 2=true:=by kernel_rfl
theorem t107:okF P HH 118 1=true:=by kernel_rfl
theorem t18:okF P HH 93 1=true:=by kernel_rfl
theorem t22:okF P HH 95 1=true:=by kernel_rfl
theorem vc102 (l0:List D) (n1:Int) (res:CV) (objs':List (Nat×List CV)) :walkA P (tbF P [163,148,112,129,134,118] [] 163) (anOf (afOf P HH 163) []) (afOf P HH 163) [CV.d (D.slice 1 l0),CV.d (D.int .i64 n1)] [] (fun rs=>endE rs res objs') =((∀n2:Int,(mmI true n1 0=n2→(∃l3:List D,((Runs P 118 [CV.d (D.slice 1 l0)] [] (CV.own 1 l3) [])∧(((0:Int)≤(24:Int))∧(∀n4:Int,(Int.fdiv n2 (2 ^ Min.min (Int.toNat 24) (Go.IntKind.bits .i64)) =n4→(∀n5:Int,(Go.IntKind.wrap Go.IntKind.u8 n4=n5→(((0:Int)≤(16:Int))∧(∀n6:Int,(Int.fdiv n2 (2 ^ Min.min (Int.toNat 16) (Go.IntKind.bits .i64)) =n6→(∀n7:Int,(Go.IntKind.wrap Go.IntKind.u8 n6=n7→(((0:Int)≤(8:Int))∧(∀n8:Int,(Int.fdiv n2 (2 ^ Min.min (Int.toNat 8) (Go.IntKind.bits .i64)) =n8→(∀n9:Int,(Go.IntKind.wrap Go.IntKind.u8 n8=n9→(∀n10:Int,(Go.IntKind.wrap Go.IntKind.u8 n2=n10→(((List.length l3+List.length [D.int .u8 n5,D.int .u8 n7,D.int .u8 n9,D.int .u8 n10]) *1≤140737488355328)∧EndR (CV.own 1 (l3++ [D.int .u8 n5,D.int .u8 n7,D.int .u8 n9,D.int .u8 n10])) res [] objs'))))))))))))))))))))))):=by kernel_rfl
theorem vc103 (l0:List D) (n1:Int) (res:CV) (objs':List (Nat×List CV)) :walkA P (tbF P [163,148,112,129,134,118] [] 148) (anOf (afOf P HH 148) []) (afOf P HH 148) [CV.d (D.slice 1 l0),CV.d (D.int .i64 n1)] [] (fun rs=>endE rs res objs') =((∃l2:List D,((Runs P 118 [CV.d (D.slice 1 l0)] [] (CV.own 1 l2) [])∧(∀n3:Int,(mmI true n1 0=n3→(∀n4:Int,(mmI false n3 1099511627776=n4→(∃I5:(List D→(Int→(Nat→Prop))),((∃k6:Nat,I5 l2 n4 k6)∧(∀l7:List D,(∀n8:Int,(∀k9:Nat,(I5 l7 n8 k9→(((decide (n8≥128)) =true→(∀n10:Int,(Go.IntKind.wrap Go.IntKind.u8 n8=n10→(∀n11:Int,(Go.IntKind.wrap Go.IntKind.u8 (nI (BitVec.toNat (BitVec.ofInt (Go.IntKind.bits .u8) n10||| BitVec.ofInt (Go.IntKind.bits .u8) 128))) =n11→(((List.length l7+List.length [D.int .u8 n11]) *1≤140737488355328)∧(((0:Int)≤(7:Int))∧(∀n12:Int,(Int.fdiv n8 (2 ^ Min.min (Int.toNat 7) (Go.IntKind.bits .i64)) =n12→(∃k13:Nat,((k13<k9)∧I5 (l7++ [D.int .u8 n11]) n12 k13)))))))))))∧((decide (n8≥128)) =false→(∀n14:Int,(Go.IntKind.wrap Go.IntKind.u8 n8=n14→(((List.length l7+List.length [D.int .u8 n14]) *1≤140737488355328)∧EndR (CV.own 1 (l7++ [D.int .u8 n14])) res [] objs')))))))))))))))))):=by kernel_rfl
theorem vc50 (l0:List D) (s1:Bytes) (res:CV) (objs':List (Nat×List CV)) :walkA P (tbF P [163,148,112,129,134,118] [] 112) (anOf (afOf P HH 112) []) (afOf P HH 112) [CV.d (D.slice 1 l0),CV.d (D.str s1)] [] (fun rs=>endE rs res objs') =((∃l2:List D,((Runs P 148 [CV.d (D.slice 1 l0),CV.d (D.int .i64 (nI (List.length s1)))] [] (CV.own 1 l2) [])∧(((List.length l2+List.length (List.map byteD s1)) *1≤140737488355328)∧EndR (CV.own 1 (l2++List.map byteD s1)) res [] objs')))):=by kernel_rfl
theorem vc107 (l0:List D) (res:CV) (objs':List (Nat×List CV)) :walkA P (tbF P [163,148,112,129,134,118] [] 118) (anOf (afOf P HH 118) []) (afOf P HH 118) [CV.d (D.slice 1 l0)] [] (fun rs=>endE rs res objs') =((∀b1:Bool,((((b1&&List.isEmpty l0) !=false) =true→EndR (CV.own (1:Nat) []) res [] objs')∧(((b1&&List.isEmpty l0) !=false) =false→(((0+List.length l0) *1≤140737488355328)∧EndR (CV.own 1 l0) res [] objs'))))):=by kernel_rfl
theorem vc49 (s0:Bytes) (n1:Int) (n2:Int) (n3:Int) (l4:List D) (l5:List D) (res:CV) (objs':List (Nat×List CV)) :walkA P (tbF P [163,148,112,129,134,118] [] 130) (anOf (afOf P HH 130) []) (afOf P HH 130) [CV.d (D.agg [D.str s0,D.int .i64 n1,D.int .i64 n2,D.int .i64 n3,D.slice 1 l4,D.slice 7 l5])] [] (fun rs=>endE rs res objs') =((∀n6:Int,(mmI false (nI (List.length l4)) 32=n6→EndR (CV.d (D.int .i64 n6)) res [(1,[CV.d (D.str s0),CV.d (D.int .i64 n1),CV.d (D.int .i64 n2),CV.d (D.int .i64 n3),CV.d (D.slice 1 l4),CV.d (D.slice 7 l5)])] objs'))):=by kernel_rfl
theorem vc51 (l0:List D) (res:CV) (objs':List (Nat×List CV)) :walkA P (tbF P [163,148,112,129,134,118] [] 131) (anOf (afOf P HH 131) []) (afOf P HH 131) [CV.d (D.slice 1 l0)] [] (fun rs=>endE rs res objs') =((∃I1:(Int→(Int→(Nat→Prop))),((∃k2:Nat,I1 0 0 k2)∧(∀n3:Int,(∀n4:Int,(∀k5:Nat,(I1 n3 n4 k5→(((decide (n4<nI (List.length l0))) =true→((0≤n4∧n4<nI (List.length l0))∧(∃n6:Int,((D.cells (List.getD l0 (Int.toNat n4) D.nilp) = [D.int .i64 n6])∧(((decide (n6<32)) =true→((0≤n6)∧(∀n7:Int,(Go.IntKind.wrap Go.IntKind.i64 (1*2 ^ Min.min (Int.toNat n6) (Go.IntKind.bits .i64)) =n7→(∀n8:Int,(Go.IntKind.wrap Go.IntKind.i64 (nI (BitVec.toNat (BitVec.ofInt (Go.IntKind.bits .i64) n3||| BitVec.ofInt (Go.IntKind.bits .i64) n7))) =n8→(∀n9:Int,(Go.IntKind.wrap Go.IntKind.i64 (n4+1) =n9→(∃k10:Nat,((k10<k5)∧I1 n8 n9 k10))))))))))∧((decide (n6<32)) =false→(∀n11:Int,(Go.IntKind.wrap Go.IntKind.i64 (n4+1) =n11→(∃k12:Nat,((k12<k5)∧I1 n3 n11 k12))))))))))∧((decide (n4<nI (List.length l0))) =false→EndR (CV.d (D.int .i64 n3)) res [] objs'))))))))):=by kernel_rfl
theorem vc54 (s0:Bytes) (n1:Int) (n2:Int) (n3:Int) (l4:List D) (l5:List D) (res:CV) (objs':List (Nat×List CV)) :walkA P (tbF P [163,148,112,129,134,118] [] 135) (anOf (afOf P HH 135) []) (afOf P HH 135) [CV.d (D.agg [D.str s0,D.int .i64 n1,D.int .i64 n2,D.int .i64 n3,D.slice 1 l4,D.slice 7 l5])] [] (fun rs=>endE rs res objs') =((∀n6:Int,(mmI false (nI (List.length l4)) 32=n6→EndR (CV.d (D.int .i64 n6)) res [(1,[CV.d (D.str s0),CV.d (D.int .i64 n1),CV.d (D.int .i64 n2),CV.d (D.int .i64 n3),CV.d (D.slice 1 l4),CV.d (D.slice 7 l5)])] objs'))):=by kernel_rfl
theorem vc55 (l0:List D) (res:CV) (objs':List (Nat×List CV)) :walkA P (tbF P [163,148,112,129,134,118] [] 136) (anOf (afOf P HH 136) []) (afOf P HH 136) [CV.d (D.slice 1 l0)] [] (fun rs=>endE rs res objs') =((∃I1:(Int→(Int→(Nat→Prop))),((∃k2:Nat,I1 0 0 k2)∧(∀n3:Int,(∀n4:Int,(∀k5:Nat,(I1 n3 n4 k5→(((decide (n4<nI (List.length l0))) =true→((0≤n4∧n4<nI (List.length l0))∧(∃n6:Int,((D.cells (List.getD l0 (Int.toNat n4) D.nilp) = [D.int .i64 n6])∧(((decide (n6<32)) =true→((0≤n6)∧(∀n7:Int,(Go.IntKind.wrap Go.IntKind.i64 (1*2 ^ Min.min (Int.toNat n6) (Go.IntKind.bits .i64)) =n7→(∀n8:Int,(Go.IntKind.wrap Go.IntKind.i64 (nI (BitVec.toNat (BitVec.ofInt (Go.IntKind.bits .i64) n3||| BitVec.ofInt (Go.IntKind.bits .i64) n7))) =n8→(∀n9:Int,(Go.IntKind.wrap Go.IntKind.i64 (n4+1) =n9→(∃k10:Nat,((k10<k5)∧I1 n8 n9 k10))))))))))∧((decide (n6<32)) =false→(∀n11:Int,(Go.IntKind.wrap Go.IntKind.i64 (n4+1) =n11→(∃k12:Nat,((k12<k5)∧I1 n3 n11 k12))))))))))∧((decide (n4<nI (List.length l0))) =false→EndR (CV.d (D.int .i64 n3)) res [] objs'))))))))):=by kernel_rfl
theorem vc88 (s0:Bytes) (n1:Int) (res:CV) (objs':List (Nat×List CV)) :walkA P (tbF P [163,148,112,129,134,118] [] 57) (anOf (afOf P HH 57) []) (afOf P HH 57) [CV.d (D.str s0),CV.d (D.int .i64 n1)] [] (fun rs=>endE rs res objs') =((∀n2:Int,(mmI true n1 0=n2→(∃s3:Bytes,((Runs P 61 [CV.d (D.int .i64 n2)] [] (CV.d (D.str s3)) [])∧((nI (List.length [101]+List.length s3)≤Go.IntKind.max Go.IntKind.i64)∧(∀s4:Bytes,([101]++s3=s4→((nI (List.length s4+List.length [45])≤Go.IntKind.max Go.IntKind.i64)∧(∀s5:Bytes,(s4++ [45]=s5→((nI (List.length s5+List.length s0)≤Go.IntKind.max Go.IntKind.i64)∧(∀s6:Bytes,(s5++s0=s6→EndR (CV.d (D.str s6)) res [] objs')))))))))))))):=by kernel_rfl
theorem vc48 (l:List D) (m:List D) (res:CV) (objs':List (Nat×List CV)) :walkA P (tbF P [163,148,112,129,134,118] [] 129) (anOf (afOf P HH 129) []) (afOf P HH 129) [CV.own 1 l,CV.d (D.slice 1 m)] [] (fun rs=>endE rs res objs') =((∃I2:(List D→(Int→(Nat→Prop))),((∃k3:Nat,I2 l 0 k3)∧(∀l4:List D,(∀n5:Int,(∀k6:Nat,(I2 l4 n5 k6→(((decide (n5<nI (List.length m))) =true→((0≤n5∧n5<nI (List.length m))∧(∃n7:Int,((D.cells (List.getD m (Int.toNat n5) D.nilp) = [D.int .i64 n7])∧(∃l8:List D,((Runs P 163 [CV.d (D.slice 1 l4),CV.d (D.int .i64 n7)] [] (CV.own 1 l8) [])∧(∀n9:Int,(Go.IntKind.wrap Go.IntKind.i64 (n5+1) =n9→(∃k10:Nat,((k10<k6)∧I2 l8 n9 k10))))))))))∧((decide (n5<nI (List.length m))) =false→EndR (CV.own 1 l4) res [] objs'))))))))):=by kernel_rfl
theorem vc53 (l:List D) (m:List D) (res:CV) (objs':List (Nat×List CV)) :walkA P (tbF P [163,148,112,129,134,118] [] 134) (anOf (afOf P HH 134) []) (afOf P HH 134) [CV.own 1 l,CV.d (D.slice 1 m)] [] (fun rs=>endE rs res objs') =((∃I2:(List D→(Int→(Nat→Prop))),((∃k3:Nat,I2 l 0 k3)∧(∀l4:List D,(∀n5:Int,(∀k6:Nat,(I2 l4 n5 k6→(((decide (n5<nI (List.length m))) =true→((0≤n5∧n5<nI (List.length m))∧(∃n7:Int,((D.cells (List.getD m (Int.toNat n5) D.nilp) = [D.int .i64 n7])∧(∃l8:List D,((Runs P 163 [CV.d (D.slice 1 l4),CV.d (D.int .i64 n7)] [] (CV.own 1 l8) [])∧(∀n9:Int,(Go.IntKind.wrap Go.IntKind.i64 (n5+1) =n9→(∃k10:Nat,((k10<k6)∧I2 l8 n9 k10))))))))))∧((decide (n5<nI (List.length m))) =false→EndR (CV.own 1 l4) res [] objs'))))))))):=by kernel_rfl
theorem vc18 (s0:Bytes) (n1:Int) (n2:Int) (n3:Int) (l4:List D) (l5:List D) (res:CV) (objs':List (Nat×List CV)) :walkA P (tbF P [163,148,112,129,134,118] [] 93) (anOf (afOf P HH 93) []) (afOf P HH 93) [CV.d (D.agg [D.str s0,D.int .i64 n1,D.int .i64 n2,D.int .i64 n3,D.slice 1 l4,D.slice 7 l5])] [] (fun rs=>endE rs res objs') =((∃n6:Int,((Runs P 35 [CV.d (D.agg [D.str s0,D.int .i64 n1,D.int .i64 n2,D.int .i64 n3,D.slice 1 l4,D.slice 7 l5])] [] (CV.d (D.int .i64 n6)) [])∧(((n6 !=0) =true→EndR (CV.tup [CV.own (1:Nat) [],CV.d (D.int .i64 (1:Int))]) res [(1,[CV.d (D.str s0),CV.d (D.int .i64 n1),CV.d (D.int .i64 n2),CV.d (D.int .i64 n3),CV.d (D.slice 1 l4),CV.d (D.slice 7 l5)])] objs')∧((n6 !=0) =false→(([D.int .u8 (77:Int),D.int .u8 (66:Int),D.int .u8 (49:Int)]≠[])∧(∃n7:Int,((Runs P 130 [CV.d (D.agg [D.str s0,D.int .i64 n1,D.int .i64 n2,D.int .i64 n3,D.slice 1 l4,D.slice 7 l5])] [] (CV.d (D.int .i64 n7)) [])∧(∃l8:List D,((Runs P 129 [CV.own 1 [D.int .u8 77,D.int .u8 66,D.int .u8 49],CV.d (D.slice 1 [D.int .i64 n1,D.int .i64 n2,D.int .i64 n7])] [] (CV.own 1 l8) [])∧(∃n9:Int,((Runs P 130 [CV.d (D.agg [D.str s0,D.int .i64 n1,D.int .i64 n2,D.int .i64 n3,D.slice 1 l4,D.slice 7 l5])] [] (CV.d (D.int .i64 n9)) [])∧((0≤nI 0∧nI 0≤n9∧n9≤nI (List.length l4))∧(∀l10:List D,(List.drop (Int.toNat (nI 0)) (List.take (Int.toNat n9) l4) =l10→(∃I11:(List D→(Int→(Nat→Prop))),((∃k12:Nat,I11 l8 0 k12)∧(∀l13:List D,(∀n14:Int,(∀k15:Nat,(I11 l13 n14 k15→(((decide (n14<nI (List.length l10))) =true→((0≤n14∧n14<nI (List.length l10))∧(∃s16:Bytes,((D.cells (List.getD l10 (Int.toNat n14) D.nilp) = [D.str s16])∧(∃l17:List D,((Runs P 112 [CV.d (D.slice 1 l13),CV.d (D.str s16)] [] (CV.own 1 l17) [])∧(∀n18:Int,(Go.IntKind.wrap Go.IntKind.i64 (n14+1) =n18→(∃k19:Nat,((k19<k15)∧I11 l17 n18 k19))))))))))∧((decide (n14<nI (List.length l10))) =false→(∃l20:List D,((Runs P 129 [CV.own 1 l13,CV.d (D.slice 1 [D.int .i64 (nI (List.length l5))])] [] (CV.own 1 l20) [])∧(∃I21:(List D→(Int→(Nat→Prop))),((∃k22:Nat,I21 l20 0 k22)∧(∀l23:List D,(∀n24:Int,(∀k25:Nat,(I21 l23 n24 k25→(((decide (n24<nI (List.length l5))) =true→((0≤n24∧n24<nI (List.length l5))∧(∃n26:Int,(∃n27:Int,(∃n28:Int,(∃s29:Bytes,(∃n30:Int,(∃l31:List D,(∃s32:Bytes,((D.cells (List.getD l5 (Int.toNat n24) D.nilp) = [D.int .i64 n26,D.int .i64 n27,D.int .i64 n28,D.str s29,D.int .i64 n30,D.slice 1 l31,D.str s32])∧(∃l33:List D,((Runs P 129 [CV.own 1 l23,CV.d (D.slice 1 [D.int .i64 n26,D.int .i64 n28])] [] (CV.own 1 l33) [])∧(∀n34:Int,(Go.IntKind.wrap Go.IntKind.u8 n30=n34→(((List.length l33+List.length [D.int .u8 n34]) *1≤140737488355328)∧(∃n35:Int,((Runs P 131 [CV.d (D.slice 1 l31)] [] (CV.d (D.int .i64 n35)) [])∧(∃l36:List D,((Runs P 129 [CV.own 1 (l33++ [D.int .u8 n34]),CV.d (D.slice 1 [D.int .i64 n35,D.int .i64 (nI (List.length s32))])] [] (CV.own 1 l36) [])∧(((List.length l36+List.length (List.map byteD s32)) *1≤140737488355328)∧(∀n37:Int,(Go.IntKind.wrap Go.IntKind.i64 (n24+1) =n37→(∃k38:Nat,((k38<k25)∧I21 (l36++List.map byteD s32) n37 k38))))))))))))))))))))))))∧((decide (n24<nI (List.length l5))) =false→EndR (CV.tup [CV.own 1 l23,CV.d (D.int .i64 0)]) res [(1,[CV.d (D.str s0),CV.d (D.int .i64 n1),CV.d (D.int .i64 n2),CV.d (D.int .i64 n3),CV.d (D.slice 1 l4),CV.d (D.slice 7 l5)])] objs'))))))))))))))))))))))))))))))))):=by kernel_rfl
theorem vc22 (s0:Bytes) (n1:Int) (n2:Int) (n3:Int) (l4:List D) (l5:List D) (res:CV) (objs':List (Nat×List CV)) :walkA P (tbF P [163,148,112,129,134,118] [] 95) (anOf (afOf P HH 95) []) (afOf P HH 95) [CV.d (D.agg [D.str s0,D.int .i64 n1,D.int .i64 n2,D.int .i64 n3,D.slice 1 l4,D.slice 7 l5])] [] (fun rs=>endE rs res objs') =((∃n6:Int,((Runs P 35 [CV.d (D.agg [D.str s0,D.int .i64 n1,D.int .i64 n2,D.int .i64 n3,D.slice 1 l4,D.slice 7 l5])] [] (CV.d (D.int .i64 n6)) [])∧(((n6 !=0) =true→EndR (CV.tup [CV.own (1:Nat) [],CV.d (D.int .i64 (1:Int))]) res [(1,[CV.d (D.str s0),CV.d (D.int .i64 n1),CV.d (D.int .i64 n2),CV.d (D.int .i64 n3),CV.d (D.slice 1 l4),CV.d (D.slice 7 l5)])] objs')∧((n6 !=0) =false→(([D.int .u8 (77:Int),D.int .u8 (66:Int),D.int .u8 (50:Int)]≠[])∧(∃n7:Int,((Runs P 135 [CV.d (D.agg [D.str s0,D.int .i64 n1,D.int .i64 n2,D.int .i64 n3,D.slice 1 l4,D.slice 7 l5])] [] (CV.d (D.int .i64 n7)) [])∧(∃l8:List D,((Runs P 134 [CV.own 1 [D.int .u8 77,D.int .u8 66,D.int .u8 50],CV.d (D.slice 1 [D.int .i64 n1,D.int .i64 n2,D.int .i64 n3,D.int .i64 n7])] [] (CV.own 1 l8) [])∧(∃n9:Int,((Runs P 135 [CV.d (D.agg [D.str s0,D.int .i64 n1,D.int .i64 n2,D.int .i64 n3,D.slice 1 l4,D.slice 7 l5])] [] (CV.d (D.int .i64 n9)) [])∧((0≤nI 0∧nI 0≤n9∧n9≤nI (List.length l4))∧(∀l10:List D,(List.drop (Int.toNat (nI 0)) (List.take (Int.toNat n9) l4) =l10→(∃I11:(List D→(Int→(Nat→Prop))),((∃k12:Nat,I11 l8 0 k12)∧(∀l13:List D,(∀n14:Int,(∀k15:Nat,(I11 l13 n14 k15→(((decide (n14<nI (List.length l10))) =true→((0≤n14∧n14<nI (List.length l10))∧(∃s16:Bytes,((D.cells (List.getD l10 (Int.toNat n14) D.nilp) = [D.str s16])∧(∃l17:List D,((Runs P 112 [CV.d (D.slice 1 l13),CV.d (D.str s16)] [] (CV.own 1 l17) [])∧(∀n18:Int,(Go.IntKind.wrap Go.IntKind.i64 (n14+1) =n18→(∃k19:Nat,((k19<k15)∧I11 l17 n18 k19))))))))))∧((decide (n14<nI (List.length l10))) =false→(∃l20:List D,((Runs P 134 [CV.own 1 l13,CV.d (D.slice 1 [D.int .i64 (nI (List.length l5))])] [] (CV.own 1 l20) [])∧(∃I21:(List D→(Int→(Nat→Prop))),((∃k22:Nat,I21 l20 0 k22)∧(∀l23:List D,(∀n24:Int,(∀k25:Nat,(I21 l23 n24 k25→(((decide (n24<nI (List.length l5))) =true→((0≤n24∧n24<nI (List.length l5))∧(∃n26:Int,(∃n27:Int,(∃n28:Int,(∃s29:Bytes,(∃n30:Int,(∃l31:List D,(∃s32:Bytes,((D.cells (List.getD l5 (Int.toNat n24) D.nilp) = [D.int .i64 n26,D.int .i64 n27,D.int .i64 n28,D.str s29,D.int .i64 n30,D.slice 1 l31,D.str s32])∧(∃l33:List D,((Runs P 134 [CV.own 1 l23,CV.d (D.slice 1 [D.int .i64 n26,D.int .i64 n27,D.int .i64 n28])] [] (CV.own 1 l33) [])∧(∀n34:Int,(Go.IntKind.wrap Go.IntKind.u8 n30=n34→(((List.length l33+List.length [D.int .u8 n34]) *1≤140737488355328)∧(∃n35:Int,((Runs P 136 [CV.d (D.slice 1 l31)] [] (CV.d (D.int .i64 n35)) [])∧(∃l36:List D,((Runs P 134 [CV.own 1 (l33++ [D.int .u8 n34]),CV.d (D.slice 1 [D.int .i64 n35,D.int .i64 (nI (List.length s32))])] [] (CV.own 1 l36) [])∧(((List.length l36+List.length (List.map byteD s32)) *1≤140737488355328)∧(∀n37:Int,(Go.IntKind.wrap Go.IntKind.i64 (n24+1) =n37→(∃k38:Nat,((k38<k25)∧I21 (l36++List.map byteD s32) n37 k38))))))))))))))))))))))))∧((decide (n24<nI (List.length l5))) =false→EndR (CV.tup [CV.own 1 l23,CV.d (D.int .i64 0)]) res [(1,[CV.d (D.str s0),CV.d (D.int .i64 n1),CV.d (D.int .i64 n2),CV.d (D.int .i64 n3),CV.d (D.slice 1 l4),CV.d (D.slice 7 l5)])] objs'))))))))))))))))))))))))))))))))):=by kernel_rfl
end B
end Go.Proofs.YtmkkljbfmdngfaaGreatDoor
namespace Go.Proofs.YtmkkljbfmdngfaaGreatDoor
namespace B
open Go.RowKit
def by8 (x:Int) :UInt8:=UInt8.ofNat (x % 256).toNat
theorem by8_nat (x:Int) :((by8 x).toNat:Int) =x % 256:=by
 unfold by8;simp [UInt8.toNat_ofNat'];omega
theorem w8 (x:Int) :Go.IntKind.wrap .u8 x=x % 256:=by
 unfold Go.IntKind.wrap Go.IntKind.bits Go.IntKind.signed;simp
theorem u8D (x:Int) :D.int .u8 (Go.IntKind.wrap .u8 x) =byteD (by8 x):=by unfold byteD;rw [w8,by8_nat]
theorem mmI_t (a b:Int) :mmI true a b=max a b:=by unfold mmI;simp
theorem mmI_f (a b:Int) :mmI false a b=min a b:=by unfold mmI;simp
theorem sh24 (n:Int) :Int.fdiv n (2 ^ Min.min (Int.toNat 24) (Go.IntKind.bits .i64)) =n / 16777216:=by
 rw [show (2:Int) ^ Min.min (Int.toNat 24) (Go.IntKind.bits .i64) =16777216 by decide,Int.fdiv_eq_ediv_of_nonneg _ (by decide)]
theorem sh16 (n:Int) :Int.fdiv n (2 ^ Min.min (Int.toNat 16) (Go.IntKind.bits .i64)) =n / 65536:=by
 rw [show (2:Int) ^ Min.min (Int.toNat 16) (Go.IntKind.bits .i64) =65536 by decide,Int.fdiv_eq_ediv_of_nonneg _ (by decide)]
theorem sh8 (n:Int) :Int.fdiv n (2 ^ Min.min (Int.toNat 8) (Go.IntKind.bits .i64)) =n / 256:=by
 rw [show (2:Int) ^ Min.min (Int.toNat 8) (Go.IntKind.bits .i64) =256 by decide,Int.fdiv_eq_ediv_of_nonneg _ (by decide)]
theorem sh7 (n:Int) :Int.fdiv n (2 ^ Min.min (Int.toNat 7) (Go.IntKind.bits .i64)) =n / 128:=by
 rw [show (2:Int) ^ Min.min (Int.toNat 7) (Go.IntKind.bits .i64) =128 by decide,Int.fdiv_eq_ediv_of_nonneg _ (by decide)]
theorem ofInt64 (a:Nat) (h:a<2 ^ 63) :(BitVec.ofInt (Go.IntKind.bits .i64) (a:Int)).toNat=a:=by
 show (BitVec.ofInt 64 (a:Int)).toNat=a
 rw [BitVec.ofInt_natCast,BitVec.toNat_ofNat];omega
theorem or64 (a b:Nat) (ha:a<2 ^ 63) (hb:b<2 ^ 63) :Go.IntKind.wrap .i64 (nI (BitVec.toNat (BitVec.ofInt (Go.IntKind.bits .i64) (a:Int) ||| BitVec.ofInt (Go.IntKind.bits .i64) (b:Int)))) =((a||| b:Nat) :Int):=by
 have h:=Nat.or_lt_two_pow ha hb
 rw [BitVec.toNat_or,ofInt64 a ha,ofInt64 b hb,W64 (by simp only [nI];omega) (by simp only [nI];omega)]
theorem and64 (a b:Nat) (ha:a<2 ^ 63) (hb:b<2 ^ 63) :Go.IntKind.wrap .i64 (nI (BitVec.toNat (BitVec.ofInt (Go.IntKind.bits .i64) (a:Int) &&& BitVec.ofInt (Go.IntKind.bits .i64) (b:Int)))) =((a&&& b:Nat) :Int):=by
 have h:a&&& b<2 ^ 63:=Nat.and_lt_two_pow _ hb
 rw [BitVec.toNat_and,ofInt64 a ha,ofInt64 b hb,W64 (by simp only [nI];omega) (by simp only [nI];omega)]
theorem or8_fin: ∀r:Fin 256,(BitVec.ofInt 8 (r.val:Int) ||| BitVec.ofInt 8 128).toNat=r.val % 128+128:=by decide+kernel
theorem or8 (v:Nat) :Go.IntKind.wrap .u8 (nI (BitVec.toNat (BitVec.ofInt (Go.IntKind.bits .u8) (Go.IntKind.wrap .u8 (v:Int)) ||| BitVec.ofInt (Go.IntKind.bits .u8) 128))) =((v % 128+128:Nat) :Int):=by
 rw [w8 (v:Int),show ((v:Int) % 256) =(((⟨v % 256,by omega⟩ :Fin 256).val:Nat) :Int) by simp,show Go.IntKind.bits .u8=8 from rfl,or8_fin,w8]
 simp only [nI];omega
def fixB (n:Int) :Bytes:=[by8 (max n 0 / 16777216),by8 (max n 0 / 65536),by8 (max n 0 / 256),by8 (max n 0)]
def varB (v:Nat) :Bytes:=if h:v<128 then [UInt8.ofNat v] else UInt8.ofNat (v % 128+128) :: varB (v / 128)
termination_by v
decreasing_by omega
def numB (n:Int) :Bytes:=varB (min (max n 0) 1099511627776).toNat
def txtB (s:Bytes) :Bytes:=numB s.length++s
theorem bs_app (s t:Bytes) :bs (s++t) =bs s++bs t:=by simp [bs]
theorem bs_len (s:Bytes) :(bs s).length=s.length:=by simp [bs]
theorem fix_len (n:Int) :(fixB n).length=4:=rfl
theorem var_len: ∀(k v:Nat),v<128 ^ (k+1)→(varB v).length≤k+1
 | 0,v,h=>by rw [varB,dif_pos (by simpa using h)];simp
 | k+1,v,h=>by
  rw [varB]
  split
  ·simp
  ·have:=var_len k (v / 128) (by rw [Nat.pow_succ] at h;omega)
   simp;omega
theorem num_len (n:Int) :(numB n).length≤6:=var_len 5 _ (by
 have:(min (max n 0) 1099511627776).toNat≤1099511627776:=by omega
 exact Nat.lt_of_le_of_lt this (by decide))
theorem r107 (l:List D) (h:l.length≤140737488355328) :Runs P 118 [.d (.slice 1 l)] [] (.own 1 l) []:=by
 refine runs_walkZ t107 (vc107 _ _ _) rfl (by simp) ?_
 intro b1
 refine ⟨fun h1=> ?_,fun _=>⟨by omega,end0 rfl rfl⟩⟩
 have:l= []:=by
  cases l with
  | nil=>rfl
  | cons _ _=>cases b1<;>simp at h1
 subst this;exact end0 rfl rfl
theorem r102 (s:Bytes) (n:Int) (h:s.length≤1099511627776) :Runs P 163 [.d (.slice 1 (bs s)), .d (.int .i64 n)] [] (.own 1 (bs (s++fixB n))) []:=by
 refine runs_walkZ t102 (vc102 _ _ _ _) rfl (by simp) ?_
 rintro _ rfl
 refine ⟨_,r107 _ (by rw [bs_len];omega),by decide, ?_⟩
 rintro _ rfl _ rfl
 refine ⟨by decide, ?_⟩
 rintro _ rfl _ rfl
 refine ⟨by decide, ?_⟩
 rintro _ rfl _ rfl _ rfl
 refine ⟨by rw [bs_len];simp;omega,end0 ?_ rfl⟩
 rw [sh24,sh16,sh8,u8D,u8D,u8D,u8D,bs_app,mmI_t];rfl
theorem varB_small {v:Nat} (h:v<128) :varB v= [by8 v]:=by
 rw [varB,dif_pos h];unfold by8;congr 2;omega
theorem r103 (s:Bytes) (n:Int) (h:s.length≤1099511627776) :Runs P 148 [.d (.slice 1 (bs s)), .d (.int .i64 n)] [] (.own 1 (bs (s++numB n))) []:=by
 refine runs_walkZ t103 (vc103 _ _ _ _) rfl (by simp) ?_
 refine ⟨_,r107 _ (by rw [bs_len];omega), ?_⟩
 rintro _ rfl _ rfl
 rw [mmI_t,mmI_f]
 have hv:min (max n 0) 1099511627776=((min (max n 0) 1099511627776).toNat:Int):=by omega
 have hl:=num_len n
 refine ⟨fun l m k=>∃(t:Bytes) (v:Nat),l=bs t∧m=v∧v=k∧v≤1099511627776∧s++numB n=t++varB v,⟨_,s,(min (max n 0) 1099511627776).toNat,rfl,hv,rfl,by omega,rfl⟩, ?_⟩
 rintro _ _ _ ⟨t,v,rfl,rfl,rfl,hv2,ht⟩
 have ht2:=congrArg List.length ht
 simp only [List.length_append] at ht2
 refine ⟨fun hge=> ?_,fun hlt=> ?_⟩
 ·have hge:=of_decide_eq_true hge
  rintro _ rfl _ rfl
  refine ⟨by rw [bs_len];simp;omega,by decide, ?_⟩
  rintro _ rfl
  refine ⟨v / 128,by omega,t++ [UInt8.ofNat (v % 128+128)],v / 128, ?_, ?_,rfl,by omega, ?_⟩
  ·rw [or8,bs_app]
   congr 1
   simp only [bs,List.map_cons,List.map_nil,byteD]
   congr 2
   simp [UInt8.toNat_ofNat'];omega
  ·rw [sh7];omega
  ·rw [ht,varB,dif_neg (by omega)];simp
 ·have hlt:=of_decide_eq_false hlt
  rintro _ rfl
  refine ⟨by rw [bs_len];simp;omega,end0 ?_ rfl⟩
  rw [ht,varB_small (by omega),bs_app,u8D];rfl
theorem txt_len (s:Bytes) :(txtB s).length≤s.length+6:=by
 have:=num_len s.length
 unfold txtB;simp;omega
theorem r50 (s t:Bytes) (h:s.length+t.length≤1099511627776) :Runs P 112 [.d (.slice 1 (bs s)), .d (.str t)] [] (.own 1 (bs (s++txtB t))) []:=by
 refine runs_walkZ t50 (vc50 _ _ _ _) rfl (by simp) ?_
 have:=num_len t.length
 refine ⟨_,r103 s _ (by omega),by rw [bs_len];simp [nI];omega,end0 ?_ rfl⟩
 unfold txtB;rw [←List.append_assoc,bs_app (s++numB t.length)];rfl
theorem flat_le {α:Type} (f:α→Bytes) (c:Nat) (l:List α) (h: ∀x∈l,(f x).length≤c) :(l.flatMap f).length≤c*l.length:=by
 induction l with
 | nil=>simp
 | cons x r ih=>
  have h1:=h x (by simp)
  have h2:=ih fun y hy=>h y (by simp [hy])
  simp only [List.flatMap_cons,List.length_append,List.length_cons,Nat.mul_add] at*
  omega
theorem flat_take {α:Type} (f:α→Bytes) (l:List α) {i:Nat} (h:i<l.length) :(l.take (i+1)).flatMap f=(l.take i).flatMap f++f l[i]:=by
 rw [List.take_succ_eq_append_getElem h,List.flatMap_append];simp
theorem r48 (s:Bytes) (m:List Int) (h:s.length+4*m.length≤1099511627776) :Runs P 129 [.own 1 (bs s), .d (.slice 1 (ints m))] [] (.own 1 (bs (s++m.flatMap fixB))) []:=by
 refine runs_walkZ t48 (vc48 _ _ _ _) rfl (by simp) ?_
 rw [ints_len]
 refine range2 (fun i l=>l=bs (s++(m.take i).flatMap fixB)) (by omega) (by simp) (fun i hi bd l hJ I k next=>⟨bd, ?_⟩) fun l hJ=> ?_
 ·subst hJ
  have hl:=flat_le fixB 4 (m.take i) (fun x _=>Nat.le_of_eq (fix_len x))
  refine ⟨m[i],by rw [ints_get m hi];rfl,_,r102 _ _ (by rw [List.length_append,List.length_take] at*;omega),next _ ?_⟩
  rw [flat_take fixB m hi,List.append_assoc]
 ·rw [List.take_length] at hJ
  exact end0 (by rw [hJ]) rfl
theorem r53 (s:Bytes) (m:List Int) (h:s.length+4*m.length≤1099511627776) :Runs P 134 [.own 1 (bs s), .d (.slice 1 (ints m))] [] (.own 1 (bs (s++m.flatMap fixB))) []:=by
 refine runs_walkZ t53 (vc53 _ _ _ _) rfl (by simp) ?_
 rw [ints_len]
 refine range2 (fun i l=>l=bs (s++(m.take i).flatMap fixB)) (by omega) (by simp) (fun i hi bd l hJ I k next=>⟨bd, ?_⟩) fun l hJ=> ?_
 ·subst hJ
  have hl:=flat_le fixB 4 (m.take i) (fun x _=>Nat.le_of_eq (fix_len x))
  refine ⟨m[i],by rw [ints_get m hi];rfl,_,r102 _ _ (by rw [List.length_append,List.length_take] at*;omega),next _ ?_⟩
  rw [flat_take fixB m hi,List.append_assoc]
 ·rw [List.take_length] at hJ
  exact end0 (by rw [hJ]) rfl
def kept (b:Box) :Nat:=min b.words.length 32
theorem r49 (b:Box) :Runs P 130 [.d b.d] [] (.d (.int .i64 (kept b))) []:=by
 refine runs_walkZ t49 (vc49 _ _ _ _ _ _ _ _) rfl (by simp) ?_
 rw [strs_len]
 rintro _ rfl
 exact endI (by rw [mmI_f];unfold kept;simp only [nI];omega)
theorem r54 (b:Box) :Runs P 135 [.d b.d] [] (.d (.int .i64 (kept b))) []:=by
 refine runs_walkZ t54 (vc54 _ _ _ _ _ _ _ _) rfl (by simp) ?_
 rw [strs_len]
 rintro _ rfl
 exact endI (by rw [mmI_f];unfold kept;simp only [nI];omega)
def mask1 (n:Nat) (k:Int) :Nat:=if k<32 then n||| 2 ^ k.toNat else n
def maskN (l:List Int) :Nat:=l.foldl mask1 0
theorem mask1_lt {n:Nat} {k:Int} (h:n<2 ^ 32) :mask1 n k<2 ^ 32:=by
 unfold mask1
 split
 ·exact Nat.or_lt_two_pow h (Nat.pow_lt_pow_right (by decide) (by omega))
 ·exact h
theorem mask_lt (l:List Int) :maskN l<2 ^ 32:=by
 have: ∀(l:List Int) (n:Nat),n<2 ^ 32→l.foldl mask1 n<2 ^ 32:=by
  intro l
  induction l with
  | nil=>exact fun n h=>h
  | cons k r ih=>exact fun n h=>ih _ (mask1_lt h)
 exact this l 0 (by decide)
theorem mask_take (l:List Int) {i:Nat} (h:i<l.length) :maskN (l.take (i+1)) =mask1 (maskN (l.take i)) l[i]:=by
 unfold maskN;rw [List.take_succ_eq_append_getElem h,List.foldl_append];rfl
theorem pow_k {q:Nat} (h:q<32) :Go.IntKind.wrap .i64 (1*2 ^ Min.min (Int.toNat (q:Int)) (Go.IntKind.bits .i64)) =((2 ^ q:Nat) :Int):=by
 have e:Min.min (Int.toNat (q:Int)) (Go.IntKind.bits .i64) =q:=by
  show min (Int.toNat (q:Int)) 64=q
  rw [Int.toNat_natCast];omega
 have:(2:Nat) ^ q<2 ^ 32:=Nat.pow_lt_pow_right (by decide) h
 have e2:(2:Int) ^ q=((2 ^ q:Nat) :Int):=by simp
 rw [e,Int.one_mul,e2]
 generalize (2:Nat) ^ q=p at this⊢
 rw [W64 (by omega) (by omega)]
theorem r51 (l:List Int) (h0: ∀k∈l,0≤k) (hl:l.length≤1099511627776) :Runs P 131 [.d (.slice 1 (ints l))] [] (.d (.int .i64 (maskN l))) []:=by
 refine runs_walkZ t51 (vc51 _ _ _) rfl (by simp) ?_
 rw [ints_len]
 refine range2 (fun i n=>n=(maskN (l.take i) :Int)) (by omega) rfl (fun i hi bd n hJ I k next=>⟨bd, ?_⟩) fun n hJ=> ?_
 ·subst hJ
  have hm:=mask_lt (l.take i)
  have h1:=h0 _ (List.getElem_mem hi)
  refine ⟨l[i],by rw [ints_get l hi];rfl,fun hk=>⟨h1, ?_⟩,fun hk=>next _ ?_⟩
  ·have hk:=of_decide_eq_true hk
   obtain ⟨q,hq⟩:=Int.eq_ofNat_of_zero_le h1
   rintro n7 h7 n8 h8
   rw [hq,pow_k (by omega)] at h7
   have hp:(2:Nat) ^ q<2 ^ 32:=Nat.pow_lt_pow_right (by decide) (by omega)
   subst h7
   rw [or64 _ _ (by omega) (by omega)] at h8
   refine next _ ?_
   rw [←h8,mask_take l hi];unfold mask1;rw [if_pos hk,hq];rfl
  ·have hk:=of_decide_eq_false hk
   rw [mask_take l hi];unfold mask1;rw [if_neg hk]
 ·rw [List.take_length] at hJ
  exact endI hJ
theorem r55 (l:List Int) (h0: ∀k∈l,0≤k) (hl:l.length≤1099511627776) :Runs P 136 [.d (.slice 1 (ints l))] [] (.d (.int .i64 (maskN l))) []:=by
 refine runs_walkZ t55 (vc55 _ _ _) rfl (by simp) ?_
 rw [ints_len]
 refine range2 (fun i n=>n=(maskN (l.take i) :Int)) (by omega) rfl (fun i hi bd n hJ I k next=>⟨bd, ?_⟩) fun n hJ=> ?_
 ·subst hJ
  have hm:=mask_lt (l.take i)
  have h1:=h0 _ (List.getElem_mem hi)
  refine ⟨l[i],by rw [ints_get l hi];rfl,fun hk=>⟨h1, ?_⟩,fun hk=>next _ ?_⟩
  ·have hk:=of_decide_eq_true hk
   obtain ⟨q,hq⟩:=Int.eq_ofNat_of_zero_le h1
   rintro n7 h7 n8 h8
   rw [hq,pow_k (by omega)] at h7
   have hp:(2:Nat) ^ q<2 ^ 32:=Nat.pow_lt_pow_right (by decide) (by omega)
   subst h7
   rw [or64 _ _ (by omega) (by omega)] at h8
   refine next _ ?_
   rw [←h8,mask_take l hi];unfold mask1;rw [if_pos hk,hq];rfl
  ·have hk:=of_decide_eq_false hk
   rw [mask_take l hi];unfold mask1;rw [if_neg hk]
 ·rw [List.take_length] at hJ
  exact endI hJ
def ownB (id:Bytes) (n:Int) :Bytes:=[101]++Lib.itoa (max n 0) ++ [45]++id
theorem r88 (id:Bytes) (n:Int) (h1:n≤9223372036854775807) (h:id.length≤1099511627776) :Runs P 57 [.d (.str id), .d (.int .i64 n)] [] (.d (.str (ownB id n))) []:=by
 refine runs_walkZ t88 (vc88 _ _ _ _) rfl (by simp) ?_
 rintro _ rfl
 rw [mmI_t]
 have hl:=Lib.itoa_length_le (max n 0) (by omega) (by omega)
 refine ⟨_,r57 _ (by omega) (by omega),by simp only [nI,maxI64];simp;omega, ?_⟩
 rintro _ rfl
 refine ⟨by simp only [nI,maxI64];simp;omega, ?_⟩
 rintro _ rfl
 refine ⟨by simp only [nI,maxI64];simp;omega, ?_⟩
 rintro _ rfl
 exact endS rfl
end B
end Go.Proofs.YtmkkljbfmdngfaaGreatDoor
namespace Go.Proofs.YtmkkljbfmdngfaaGreatDoor
namespace B
open Go.RowKit
theorem keys_all {n:Int}: ∀{l:List Int} {was:Int},keysB n was l=true→(∀k∈l,was<k∧k<n)∧was+l.length<max n (was+1)
 | [],was,_=>⟨by simp,by simp;omega⟩
 | k :: r,was,h=>by
  simp only [keysB,Bool.and_eq_true,decide_eq_true_eq] at h
  obtain ⟨h1,h2⟩:=keys_all h.2
  refine ⟨fun x hx=> ?_,by simp only [List.length_cons];omega⟩
  rcases List.mem_cons.1 hx with rfl | hx
  ·exact h.1
  ·have:=h1 x hx;omega
structure MsgMay (nw:Nat) (m:Msg) :Prop where
 uid:1≤m.uid∧m.uid≤999999
 mod:1≤m.mod∧m.mod≤1000000
 date:0≤m.date∧m.date≤1000000
 id:atomB m.id=true
 flags:0≤m.flags∧m.flags≤31
 keys:keysB nw (-1) m.keys=true
 text:m.text.length≤300
theorem msgMay {nw:Nat} {m:Msg}:mayMsg nw m=true↔MsgMay nw m:=by
 unfold mayMsg withinB
 simp only [Bool.and_eq_true,decide_eq_true_eq]
 constructor
 ·rintro ⟨h1,h2,h3,h4,h5,h6,h7⟩;exact ⟨h1,h2,h3,h4,h5,h6,h7⟩
 ·rintro ⟨h1,h2,h3,h4,h5,h6,h7⟩;exact ⟨h1,h2,h3,h4,h5,h6,h7⟩
theorem MsgMay.key0 {nw:Nat} {m:Msg} (h:MsgMay nw m) : ∀k∈m.keys,0≤k∧k<nw:=fun k hk=>by
 have:=(keys_all h.keys).1 k hk;omega
theorem MsgMay.keyLen {nw:Nat} {m:Msg} (h:MsgMay nw m) :m.keys.length≤nw:=by
 have:=(keys_all h.keys).2;omega
structure BoxMay (b:Box) :Prop where
 id:atomB b.id=true∧b.id.length≤12
 valid:1≤b.valid∧b.valid≤1000000
 high:1≤b.high∧b.high≤1000000
 next:1≤b.next∧b.next≤1000000
 nw:b.words.length≤64
 nm:b.msgs.length≤60
 words:wordsB [] b.words=true
 msgs:msgsB b.words.length b.next b.high 0 b.msgs=true
theorem boxMay {b:Box}:mayBox b=0↔BoxMay b:=by
 unfold mayBox
 constructor
 ·intro h
  split at h
  ·rename_i h1
   split at h
   ·rename_i h2
    unfold errB at h
    split at h
    ·rename_i h3
     unfold headB withinB at h1;unfold sizeB at h2
     simp only [Bool.and_eq_true,decide_eq_true_eq] at h1 h2 h3
     exact ⟨⟨h1.1,h1.2.1⟩,h1.2.2.1,h1.2.2.2.1,h1.2.2.2.2,h2.1,h2.2,h3.1,h3.2⟩
    ·cases h
   ·cases h
  ·cases h
 ·rintro ⟨h1,h2,h3,h4,h5,h6,h7,h8⟩
  have e1:headB b=true:=by
   unfold headB withinB;simp only [Bool.and_eq_true,decide_eq_true_eq];exact ⟨h1.1,h1.2,h2,h3,h4⟩
  have e2:sizeB b=true:=by unfold sizeB;simp only [Bool.and_eq_true,decide_eq_true_eq];exact ⟨h5,h6⟩
  rw [if_pos e1,if_pos e2,h7,h8];rfl
theorem words_all: ∀{l pre:List Bytes},wordsB pre l=true→∀w∈l,atomB w=true
 | [],_,_=>by simp
 | x :: r,pre,h=>fun w hw=>by
  simp only [wordsB,Bool.and_eq_true] at h
  rcases List.mem_cons.1 hw with rfl | hw
  ·exact h.1.1
  ·exact words_all h.2 w hw
theorem msgs_all {nw:Nat} {next high:Int}: ∀{l:List Msg} {was:Int},msgsB nw next high was l=true→∀m∈l,MsgMay nw m∧was<m.uid∧m.uid<next∧m.mod≤high
 | [],_,_=>by simp
 | x :: r,was,h=>fun m hm=>by
  simp only [msgsB,Bool.and_eq_true,decide_eq_true_eq] at h
  rcases List.mem_cons.1 hm with rfl | hm
  ·exact ⟨msgMay.1 h.1,h.2.1,h.2.2.1,h.2.2.2.1⟩
  ·have:=msgs_all h.2.2.2.2 m hm
   exact ⟨this.1,by omega,this.2.2⟩
theorem atom_len {s:Bytes} (h:atomB s=true) :1≤s.length∧s.length≤24:=by
 unfold atomB at h;simp only [Bool.and_eq_true,decide_eq_true_eq] at h;exact h.1
def msgF (form:Nat) (m:Msg) :Bytes:=fixB m.uid++(if form=2 then fixB m.mod else []) ++fixB m.date++ [by8 m.flags]++fixB (maskN m.keys) ++fixB m.text.length++m.text
def headF (form:Nat) (b:Box) :Bytes:=[77,66,UInt8.ofNat (48+form)]++fixB b.valid++fixB b.next++(if form=2 then fixB b.high else []) ++fixB (kept b)
def wordsF (b:Box) :Bytes:=(b.words.take (kept b)).flatMap txtB
def formB (form:Nat) (b:Box) :Bytes:=headF form b++wordsF b++fixB b.msgs.length++b.msgs.flatMap (msgF form)
theorem msgF_len (form:Nat) (m:Msg) (h:m.text.length≤300) :(msgF form m).length≤400:=by
 unfold msgF;split<;>simp [fix_len]<;>omega
theorem headF_len (form:Nat) (b:Box) :(headF form b).length≤20:=by
 unfold headF;split<;>simp [fix_len]
theorem wordsF_len {b:Box} (h:BoxMay b) (i:Nat) :(((b.words.take (kept b)).take i).flatMap txtB).length≤2000:=by
 have h1:=flat_le txtB 30 ((b.words.take (kept b)).take i) fun w hw=>by
  have:=txt_len w
  have:=atom_len (words_all h.words w (List.mem_of_mem_take (List.mem_of_mem_take hw)))
  omega
 have h2:((b.words.take (kept b)).take i).length≤64:=by
  rw [List.length_take,List.length_take];have:=h.nw;omega
 omega
theorem msgsF_len {b:Box} (h:BoxMay b) (form i:Nat) :((b.msgs.take i).flatMap (msgF form)).length≤24000:=by
 have h1:=flat_le (msgF form) 400 (b.msgs.take i) fun m hm=>msgF_len form m (msgs_all h.msgs m (List.mem_of_mem_take hm)).1.text
 have h2:(b.msgs.take i).length≤60:=by rw [List.length_take];have:=h.nm;omega
 omega
def resB (form:Nat) (b:Box) :CV:= .tup [.d (.slice 1 (bs (if mayBox b=0 then formB form b else []))), .d (.int .i64 (if mayBox b=0 then 0 else 1))]
theorem endT {l:List D} {n:Int} {z:Nat} {x:List (Nat×List CV)}:EndR (.tup [.own z l, .d (.int .i64 n)]) (.tup [.d (.slice z l), .d (.int .i64 n)]) x []:=⟨⟨rfl,rfl,trivial⟩,trivial,rfl⟩
theorem take_kept (b:Box) :List.drop (Int.toNat (nI 0)) (List.take (Int.toNat (kept b:Int)) (strs b.words)) =strs (b.words.take (kept b)):=take_strs _ _
theorem fl2 (a b:Int) :([a,b].flatMap fixB).length=8:=rfl
theorem fl3 (a b c:Int) :([a,b,c].flatMap fixB).length=12:=rfl
theorem r18 (b:Box) (hb:BoxOk b) :Runs P 93 [.d b.d] [] (resB 1 b) []:=by
 refine runs_walkZ t18 (vc18 _ _ _ _ _ _ _ _) rfl (by simp) ?_
 rw [nI_map]
 refine ⟨_,r47 b hb,fun h=> ?_,fun h=> ?_⟩
 ·have h: ¬mayBox b=0:=by simpa using h
  unfold resB;rw [if_neg h,if_neg h]
  exact endT
 have h:mayBox b=0:=by simpa using h
 have hm:=boxMay.1 h
 have e:=resB 1 b
 have er:resB 1 b= .tup [.d (.slice 1 (bs (formB 1 b))), .d (.int .i64 0)]:=by unfold resB;rw [if_pos h,if_pos h]
 rw [er]
 have hk:kept b≤b.words.length:=Nat.min_le_left _ _
 have hnw:=hm.nw
 have hnm:=hm.nm
 refine ⟨by simp,_,r49 b,_,r48 [77,66,49] [b.valid,b.next,kept b] (by simp),_,r49 b,⟨by simp [nI],by simp [nI],by rw [strs_len];simp only [nI];omega⟩, ?_⟩
 rintro _ rfl
 rw [take_kept,strs_len]
 have e1: [77,66,49]++ [b.valid,b.next,(kept b:Int)].flatMap fixB=headF 1 b:=by unfold headF;simp
 rw [e1]
 have l1:=headF_len 1 b
 refine range2 (fun i l=>l=bs (headF 1 b++((b.words.take (kept b)).take i).flatMap txtB)) (by rw [List.length_take];omega) (by simp) (fun i hi bd l hJ I k next=>⟨bd, ?_⟩) fun l hJ=> ?_
 ·subst hJ
  have l2:=wordsF_len hm i
  have l3:=atom_len (words_all hm.words _ (List.mem_of_mem_take (List.getElem_mem hi)))
  refine ⟨(b.words.take (kept b))[i],by rw [strs_get _ hi];rfl,_,r50 _ _ (by rw [List.length_append];omega),next _ ?_⟩
  rw [flat_take txtB _ hi,List.append_assoc]
 ·rw [List.take_length] at hJ
  subst hJ
  have l2:=wordsF_len hm (b.words.take (kept b)).length
  rw [List.take_length] at l2
  have l2:(wordsF b).length≤2000:=l2
  refine ⟨_,r48 (headF 1 b++wordsF b) [(b.msgs.length:Int)] (by rw [List.length_append];simp;omega), ?_⟩
  have e2:headF 1 b++wordsF b++ [(b.msgs.length:Int)].flatMap fixB=headF 1 b++wordsF b++fixB b.msgs.length:=by simp
  rw [e2]
  have l3:(headF 1 b++wordsF b++fixB b.msgs.length).length≤2100:=by rw [List.length_append,List.length_append,fix_len];omega
  refine range2 (fun i l=>l=bs (headF 1 b++wordsF b++fixB b.msgs.length++(b.msgs.take i).flatMap (msgF 1))) (by omega) (by simp) (fun i hi bd l hJ I k next=>⟨bd, ?_⟩) fun l hJ=> ?_
  ·subst hJ
   have l4:=msgsF_len hm 1 i
   have mm:=(msgs_all hm.msgs _ (List.getElem_mem hi)).1
   have mt:=mm.text
   have mk:=mm.keyLen
   generalize headF 1 b++wordsF b++fixB b.msgs.length=pre at*
   obtain ⟨q,hq⟩ : ∃q,q=(b.msgs.take i).flatMap (msgF 1):=⟨_,rfl⟩
   rw [←hq] at l4⊢
   refine ⟨_,_,_,_,_,_,_,by rw [msgs_get _ hi];rfl,_,r48 _ [b.msgs[i].uid,b.msgs[i].date] (by rw [List.length_append];simp only [List.length_cons,List.length_nil];omega), ?_⟩
   rintro _ rfl
   rw [u8D]
   refine ⟨by rw [bs_len];simp only [List.length_append,List.length_cons,List.length_nil,fl2,fl3];omega,_,r51 _ (fun k hk=>(mm.key0 k hk).1) (by omega), ?_⟩
   have h48:=r48 (pre++q++ [b.msgs[i].uid,b.msgs[i].date].flatMap fixB++ [by8 b.msgs[i].flags]) [(maskN b.msgs[i].keys:Int),(b.msgs[i].text.length:Int)] (by simp only [List.length_append,List.length_cons,List.length_nil,fl2,fl3];omega)
   rw [bs_app _ [by8 b.msgs[i].flags]] at h48
   refine ⟨_,h48,by rw [bs_len,List.length_map];simp only [List.length_append,List.length_cons,List.length_nil,fl2,fl3];omega,next _ ?_⟩
   rw [flat_take (msgF 1) _ hi,←hq]
   rw [show List.map byteD b.msgs[i].text=bs b.msgs[i].text from rfl,←bs_app]
   congr 1
   unfold msgF
   simp
  ·rw [List.take_length] at hJ
   subst hJ
   exact endT
theorem r22 (b:Box) (hb:BoxOk b) :Runs P 95 [.d b.d] [] (resB 2 b) []:=by
 refine runs_walkZ t22 (vc22 _ _ _ _ _ _ _ _) rfl (by simp) ?_
 rw [nI_map]
 refine ⟨_,r47 b hb,fun h=> ?_,fun h=> ?_⟩
 ·have h: ¬mayBox b=0:=by simpa using h
  unfold resB;rw [if_neg h,if_neg h]
  exact endT
 have h:mayBox b=0:=by simpa using h
 have hm:=boxMay.1 h
 have er:resB 2 b= .tup [.d (.slice 1 (bs (formB 2 b))), .d (.int .i64 0)]:=by unfold resB;rw [if_pos h,if_pos h]
 rw [er]
 have hk:kept b≤b.words.length:=Nat.min_le_left _ _
 have hnw:=hm.nw
 have hnm:=hm.nm
 refine ⟨by simp,_,r54 b,_,r53 [77,66,50] [b.valid,b.next,b.high,kept b] (by simp),_,r54 b,⟨by simp [nI],by simp [nI],by rw [strs_len];simp only [nI];omega⟩, ?_⟩
 rintro _ rfl
 rw [take_kept,strs_len]
 have e1: [77,66,50]++ [b.valid,b.next,b.high,(kept b:Int)].flatMap fixB=headF 2 b:=by unfold headF;simp
 rw [e1]
 have l1:=headF_len 2 b
 refine range2 (fun i l=>l=bs (headF 2 b++((b.words.take (kept b)).take i).flatMap txtB)) (by rw [List.length_take];omega) (by simp) (fun i hi bd l hJ I k next=>⟨bd, ?_⟩) fun l hJ=> ?_
 ·subst hJ
  have l2:=wordsF_len hm i
  have l3:=atom_len (words_all hm.words _ (List.mem_of_mem_take (List.getElem_mem hi)))
  refine ⟨(b.words.take (kept b))[i],by rw [strs_get _ hi];rfl,_,r50 _ _ (by rw [List.length_append];omega),next _ ?_⟩
  rw [flat_take txtB _ hi,List.append_assoc]
 ·rw [List.take_length] at hJ
  subst hJ
  have l2:=wordsF_len hm (b.words.take (kept b)).length
  rw [List.take_length] at l2
  have l2:(wordsF b).length≤2000:=l2
  refine ⟨_,r53 (headF 2 b++wordsF b) [(b.msgs.length:Int)] (by rw [List.length_append];simp;omega), ?_⟩
  have e2:headF 2 b++wordsF b++ [(b.msgs.length:Int)].flatMap fixB=headF 2 b++wordsF b++fixB b.msgs.length:=by simp
  rw [e2]
  have l3:(headF 2 b++wordsF b++fixB b.msgs.length).length≤2100:=by rw [List.length_append,List.length_append,fix_len];omega
  refine range2 (fun i l=>l=bs (headF 2 b++wordsF b++fixB b.msgs.length++(b.msgs.take i).flatMap (msgF 2))) (by omega) (by simp) (fun i hi bd l hJ I k next=>⟨bd, ?_⟩) fun l hJ=> ?_
  ·subst hJ
   have l4:=msgsF_len hm 2 i
   have mm:=(msgs_all hm.msgs _ (List.getElem_mem hi)).1
   have mt:=mm.text
   have mk:=mm.keyLen
   generalize headF 2 b++wordsF b++fixB b.msgs.length=pre at*
   obtain ⟨q,hq⟩ : ∃q,q=(b.msgs.take i).flatMap (msgF 2):=⟨_,rfl⟩
   rw [←hq] at l4⊢
   refine ⟨_,_,_,_,_,_,_,by rw [msgs_get _ hi];rfl,_,r53 _ [b.msgs[i].uid,b.msgs[i].mod,b.msgs[i].date] (by rw [List.length_append];simp only [List.length_cons,List.length_nil];omega), ?_⟩
   rintro _ rfl
   rw [u8D]
   refine ⟨by rw [bs_len];simp only [List.length_append,List.length_cons,List.length_nil,fl2,fl3];omega,_,r55 _ (fun k hk=>(mm.key0 k hk).1) (by omega), ?_⟩
   have h48:=r53 (pre++q++ [b.msgs[i].uid,b.msgs[i].mod,b.msgs[i].date].flatMap fixB++ [by8 b.msgs[i].flags]) [(maskN b.msgs[i].keys:Int),(b.msgs[i].text.length:Int)] (by simp only [List.length_append,List.length_cons,List.length_nil,fl2,fl3];omega)
   rw [bs_app _ [by8 b.msgs[i].flags]] at h48
   refine ⟨_,h48,by rw [bs_len,List.length_map];simp only [List.length_append,List.length_cons,List.length_nil,fl2,fl3];omega,next _ ?_⟩
   rw [flat_take (msgF 2) _ hi,←hq]
   rw [show List.map byteD b.msgs[i].text=bs b.msgs[i].text from rfl,←bs_app]
   congr 1
   unfold msgF
   simp
  ·rw [List.take_length] at hJ
   subst hJ
   exact endT
end B
end Go.Proofs.YtmkkljbfmdngfaaGreatDoor
