/- Laws of images: what walks come to: printed by wip/B/gen. No condition. -/
import Derived.Test.YtmkkljbfmdngfaaGreatDoorIB
set_option linter.all false
namespace Go.Proofs.YtmkkljbfmdngfaaGreatDoor
namespace B
def HZ5:Hint:=⟨fun f r=>if r==1000000 then (if f==58 then [12,27] else if f==108 then [30] else if f==107 then [38] else if f==73 then [6,27] else if f==40 then [66] else []) else if r==1000001 then (if f==40 then [3000070,3000081] else if f==999999 then [4000032] else if f==999999 then [4000061] else if f==23 then [28,79] else if f==32 then [28] else if f==74 then [2000117] else if f==139 then [2000172] else if f==33 then [7000003] else []) else if f==141 then (if r==6 then [3,1000,1100,1010075,1030400] else []) else if f==11 then (if r==5 then [10,99999] else if r==8 then [12,99999] else []) else if f==6 then (if r==8 then [15,99999] else if r==9 then [17,99999] else []) else if f==107 then (if r==10 then [1000,1080074,1140075] else []) else if f==146 then (if r==2 then [7,1100075,1120075] else []) else if f==999999 then (if r==13 then [23,9,1010140,1030075] else if r==37||r==44 then [6] else []) else if f==168||f==171||f==133||f==137 then [1100] else if f==999999||f==999999 then (if r==6 then [9,99999] else if r==7 then [11,99999] else []) else [],fun f=>if f==999999||f==999999||f==999999||f==129||f==134 then some 0 else none⟩
set_option maxRecDepth 100000
theorem zt3:okF P HZ5 3 2=true:=by kernel_rfl
theorem zvc3 (n0:Int) (s1:Bytes) (n2:Int) (n3:Int) (n4:Int) (l5:List D) (l6:List D) (res:CV) (objs':List (Nat×List CV)) :walkA P (tbF P [118,148,112,163,1000101,7000102,107500054,1072002147,75,117,139,172,138,2000035093,2000020094] [] 3) (anOf (afOf P HZ5 3) []) (afOf P HZ5 3) [CV.d (D.int .i64 n0),CV.d (D.agg [D.str s1,D.int .i64 n2,D.int .i64 n3,D.int .i64 n4,D.slice 1 l5,D.slice 7 l6])] [] (fun rs=>endE rs res objs') =((∃n7:Int,((Runs P 13 [CV.d (D.agg [D.str s1,D.int .i64 n2,D.int .i64 n3,D.int .i64 n4,D.slice 1 l5,D.slice 7 l6])] [] (CV.d (D.int .i64 n7)) [])∧(∃n8:Int,(((!decide (n7>0)) =true→Runs P 14 [CV.d (D.agg [D.str s1,D.int .i64 n2,D.int .i64 n3,D.int .i64 n4,D.slice 1 l5,D.slice 7 l6])] [] (CV.d (D.int .i64 n8)) [])∧(∀b9:Bool,((decide (n7>0) ||n8 !=0) =b9→(((b9) =true→(∃b10:Bool,((Runs P 15 [] [] (CV.d (D.bool b10)) [])∧EndR (CV.d (D.bool b10)) res [(3,[CV.d (D.str s1),CV.d (D.int .i64 n2),CV.d (D.int .i64 n3),CV.d (D.int .i64 n4),CV.d (D.slice 1 l5),CV.d (D.slice 7 l6)])] objs')))∧((b9) =false→(∀n11:Int,(Go.IntKind.wrap Go.IntKind.u64 n0=n11→(((3:Int)≠(0:Int))∧(∀n12:Int,(Int.tmod n11 3=n12→(∀n13:Int,(Go.IntKind.wrap Go.IntKind.i64 n12=n13→(∀n14:Int,(Go.IntKind.wrap Go.IntKind.i64 (1+n13) =n14→(∃l15:List D,(∃l16:List D,(∃n17:Int,((Runs P 16 [CV.d (D.int .i64 n14),CV.d (D.agg [D.str s1,D.int .i64 n2,D.int .i64 n3,D.int .i64 n4,D.slice 1 l5,D.slice 7 l6])] [] (CV.tup [CV.d (D.slice 1 l15),CV.d (D.slice 11 l16),CV.d (D.int .i64 n17)]) [])∧(((n17==4) =true→(∃b18:Bool,((decide (n14<3) =true→Runs P 15 [] [] (CV.d (D.bool b18)) [])∧(∀b19:Bool,((decide (n14<3) &&b18) =b19→EndR (CV.d (D.bool b19)) res [(3,[CV.d (D.str s1),CV.d (D.int .i64 n2),CV.d (D.int .i64 n3),CV.d (D.int .i64 n4),CV.d (D.slice 1 l5),CV.d (D.slice 7 l6)])] objs')))))∧((n17==4) =false→(∃s20:Bytes,(∃n21:Int,(∃n22:Int,(∃n23:Int,(∃l24:List D,(∃l25:List D,(∃n26:Int,((Runs P 17 [CV.d (D.slice 1 l15),CV.d (D.str s1),CV.d (D.slice 11 l16)] [] (CV.tup [CV.d (D.agg [D.str s20,D.int .i64 n21,D.int .i64 n22,D.int .i64 n23,D.slice 1 l24,D.slice 7 l25]),CV.d (D.int .i64 n26)]) [])∧(∀b27:Bool,((n17==0&&n26==0) =b27→(∃b28:Bool,((b27=true→Runs P 18 [CV.d (D.agg [D.str s1,D.int .i64 n2,D.int .i64 n3,D.int .i64 n4,D.slice 1 l5,D.slice 7 l6]),CV.d (D.agg [D.str s20,D.int .i64 n21,D.int .i64 n22,D.int .i64 n23,D.slice 1 l24,D.slice 7 l25])] [] (CV.d (D.bool b28)) [])∧(∀b29:Bool,((b27&&b28) =b29→(∃n30:Int,((b29=true→Runs P 19 [CV.d (D.slice 1 l15)] [] (CV.d (D.int .i64 n30)) [])∧(∀b31:Bool,((b29&&n30==n14) =b31→(∀b32:Bool,((decide (n14<3) ||nI (List.length l16) ==0) =b32→(∀b33:Bool,((b31&&b32) =b33→(∃b34:Bool,((b33=true→Runs P 15 [] [] (CV.d (D.bool b34)) [])∧(∀b35:Bool,((b33&&b34) =b35→EndR (CV.d (D.bool b35)) res [(3,[CV.d (D.str s1),CV.d (D.int .i64 n2),CV.d (D.int .i64 n3),CV.d (D.int .i64 n4),CV.d (D.slice 1 l5),CV.d (D.slice 7 l6)]),(8,[CV.d (D.str s20),CV.d (D.int .i64 n21),CV.d (D.int .i64 n22),CV.d (D.int .i64 n23),CV.d (D.slice 1 l24),CV.d (D.slice 7 l25)])] objs')))))))))))))))))))))))))))))))))))))))))))))))))):=by kernel_rfl
theorem zt4:okF P HZ5 4 3=true:=by kernel_rfl
theorem zvc4 (n0:Int) (n1:Int) (s2:Bytes) (n3:Int) (n4:Int) (n5:Int) (l6:List D) (l7:List D) (res:CV) (objs':List (Nat×List CV)) :walkA P (tbF P [118,148,112,163,1000101,7000102,107500054,1072002147,75,117,139,172,138,2000035093,2000020094] [] 4) (anOf (afOf P HZ5 4) []) (afOf P HZ5 4) [CV.d (D.int .i64 n0),CV.d (D.int .i64 n1),CV.d (D.agg [D.str s2,D.int .i64 n3,D.int .i64 n4,D.int .i64 n5,D.slice 1 l6,D.slice 7 l7])] [] (fun rs=>endE rs res objs') =((∃n8:Int,((Runs P 13 [CV.d (D.agg [D.str s2,D.int .i64 n3,D.int .i64 n4,D.int .i64 n5,D.slice 1 l6,D.slice 7 l7])] [] (CV.d (D.int .i64 n8)) [])∧(∃n9:Int,(((!decide (n8>0)) =true→Runs P 14 [CV.d (D.agg [D.str s2,D.int .i64 n3,D.int .i64 n4,D.int .i64 n5,D.slice 1 l6,D.slice 7 l7])] [] (CV.d (D.int .i64 n9)) [])∧(∀b10:Bool,((decide (n8>0) ||n9 !=0) =b10→(((b10) =true→(∃b11:Bool,((Runs P 15 [] [] (CV.d (D.bool b11)) [])∧EndR (CV.d (D.bool b11)) res [(5,[CV.d (D.str s2),CV.d (D.int .i64 n3),CV.d (D.int .i64 n4),CV.d (D.int .i64 n5),CV.d (D.slice 1 l6),CV.d (D.slice 7 l7)])] objs')))∧((b10) =false→(∀n12:Int,(Go.IntKind.wrap Go.IntKind.u64 n0=n12→(((3:Int)≠(0:Int))∧(∀n13:Int,(Int.tmod n12 3=n13→(∀n14:Int,(Go.IntKind.wrap Go.IntKind.i64 n13=n14→(∀n15:Int,(Go.IntKind.wrap Go.IntKind.i64 (1+n14) =n15→(∀n16:Int,(Go.IntKind.wrap Go.IntKind.u64 n1=n16→(((3:Int)≠(0:Int))∧(∀n17:Int,(Int.tmod n16 3=n17→(∀n18:Int,(Go.IntKind.wrap Go.IntKind.i64 n17=n18→(∀n19:Int,(Go.IntKind.wrap Go.IntKind.i64 (1+n18) =n19→(∃l20:List D,(∃l21:List D,(∃n22:Int,((Runs P 16 [CV.d (D.int .i64 n15),CV.d (D.agg [D.str s2,D.int .i64 n3,D.int .i64 n4,D.int .i64 n5,D.slice 1 l6,D.slice 7 l7])] [] (CV.tup [CV.d (D.slice 1 l20),CV.d (D.slice 11 l21),CV.d (D.int .i64 n22)]) [])∧(((n22 !=0) =true→(∃b23:Bool,(((n22==4) =true→Runs P 15 [] [] (CV.d (D.bool b23)) [])∧(∀b24:Bool,((n22==4&&b23) =b24→EndR (CV.d (D.bool b24)) res [(5,[CV.d (D.str s2),CV.d (D.int .i64 n3),CV.d (D.int .i64 n4),CV.d (D.int .i64 n5),CV.d (D.slice 1 l6),CV.d (D.slice 7 l7)])] objs')))))∧((n22 !=0) =false→(∃s25:Bytes,(∃n26:Int,(∃n27:Int,(∃n28:Int,(∃l29:List D,(∃l30:List D,(∃n31:Int,((Runs P 17 [CV.d (D.slice 1 l20),CV.d (D.str s2),CV.d (D.slice 11 l21)] [] (CV.tup [CV.d (D.agg [D.str s25,D.int .i64 n26,D.int .i64 n27,D.int .i64 n28,D.slice 1 l29,D.slice 7 l30]),CV.d (D.int .i64 n31)]) [])∧(∃l32:List D,(∃l33:List D,(∃n34:Int,((Runs P 16 [CV.d (D.int .i64 n19),CV.d (D.agg [D.str s25,D.int .i64 n26,D.int .i64 n27,D.int .i64 n28,D.slice 1 l29,D.slice 7 l30])] [] (CV.tup [CV.d (D.slice 1 l32),CV.d (D.slice 11 l33),CV.d (D.int .i64 n34)]) [])∧(((n34 !=0) =true→(∃b35:Bool,(((n34==4) =true→Runs P 15 [] [] (CV.d (D.bool b35)) [])∧(∀b36:Bool,((n34==4&&b35) =b36→EndR (CV.d (D.bool b36)) res [(5,[CV.d (D.str s2),CV.d (D.int .i64 n3),CV.d (D.int .i64 n4),CV.d (D.int .i64 n5),CV.d (D.slice 1 l6),CV.d (D.slice 7 l7)]),(10,[CV.d (D.str s25),CV.d (D.int .i64 n26),CV.d (D.int .i64 n27),CV.d (D.int .i64 n28),CV.d (D.slice 1 l29),CV.d (D.slice 7 l30)])] objs')))))∧((n34 !=0) =false→(∃s37:Bytes,(∃n38:Int,(∃n39:Int,(∃n40:Int,(∃l41:List D,(∃l42:List D,(∃n43:Int,((Runs P 17 [CV.d (D.slice 1 l32),CV.d (D.str s2),CV.d (D.slice 11 l33)] [] (CV.tup [CV.d (D.agg [D.str s37,D.int .i64 n38,D.int .i64 n39,D.int .i64 n40,D.slice 1 l41,D.slice 7 l42]),CV.d (D.int .i64 n43)]) [])∧(∃l44:List D,(∃l45:List D,(∃n46:Int,((Runs P 16 [CV.d (D.int .i64 n15),CV.d (D.agg [D.str s37,D.int .i64 n38,D.int .i64 n39,D.int .i64 n40,D.slice 1 l41,D.slice 7 l42])] [] (CV.tup [CV.d (D.slice 1 l44),CV.d (D.slice 11 l45),CV.d (D.int .i64 n46)]) [])∧(∃s47:Bytes,(((n46==0) =true→l44=List.map byteD s47)∧(∃s48:Bytes,(((n46==0) =true→l20=List.map byteD s48)∧(∀b49:Bool,((n46==0&&s47==s48) =b49→(∃b50:Bool,((b49=true→Runs P 20 [CV.d (D.slice 11 l45),CV.d (D.slice 11 l21)] [] (CV.d (D.bool b50)) [])∧(∀b51:Bool,((b49&&b50) =b51→(∃b52:Bool,((b51=true→Runs P 18 [CV.d (D.agg [D.str s37,D.int .i64 n38,D.int .i64 n39,D.int .i64 n40,D.slice 1 l41,D.slice 7 l42]),CV.d (D.agg [D.str s2,D.int .i64 n3,D.int .i64 n4,D.int .i64 n5,D.slice 1 l6,D.slice 7 l7])] [] (CV.d (D.bool b52)) [])∧(∀b53:Bool,((b51&&b52) =b53→(∃b54:Bool,((b53=true→Runs P 15 [] [] (CV.d (D.bool b54)) [])∧(∀b55:Bool,((b53&&b54) =b55→EndR (CV.d (D.bool b55)) res [(5,[CV.d (D.str s2),CV.d (D.int .i64 n3),CV.d (D.int .i64 n4),CV.d (D.int .i64 n5),CV.d (D.slice 1 l6),CV.d (D.slice 7 l7)]),(10,[CV.d (D.str s25),CV.d (D.int .i64 n26),CV.d (D.int .i64 n27),CV.d (D.int .i64 n28),CV.d (D.slice 1 l29),CV.d (D.slice 7 l30)]),(15,[CV.d (D.str s37),CV.d (D.int .i64 n38),CV.d (D.int .i64 n39),CV.d (D.int .i64 n40),CV.d (D.slice 1 l41),CV.d (D.slice 7 l42)])] objs'))))))))))))))))))))))))))))))))))))))))))))))))))))))))))))))))))))))))))))):=by kernel_rfl
end B
end Go.Proofs.YtmkkljbfmdngfaaGreatDoor
namespace Go.Proofs.YtmkkljbfmdngfaaGreatDoor
namespace B
open Go.RowKit
theorem form_of (n:Int) :Go.IntKind.wrap .i64 (1+Go.IntKind.wrap .i64 (Int.tmod (Go.IntKind.wrap .u64 n) 3)) =1+(n % 18446744073709551616) % 3:=by
 rw [WU64,Int.tmod_eq_emod_of_nonneg (by omega),W64 (n:=(n % 18446744073709551616) % 3) (by omega) (by omega),W64 (by omega) (by omega)]
def formN (n:Int) :Int:=1+(n % 18446744073709551616) % 3
theorem formN_or (n:Int) :formN n=1∨formN n=2∨formN n=3:=by unfold formN;omega
theorem z3 (n:Int) (b:Box) (hb:BoxIn b) :Runs P 3 [.d (iD n), .d b.d] [] (.d (.bool true)) []:=by
 refine runs_walkZ zt3 (zvc3 _ _ _ _ _ _ _ _ _) rfl (by simp) ?_
 refine ⟨_,r15 b hb.sz,_,fun _=>r16 b hb.ok, ?_⟩
 rintro b9 h9
 refine ⟨fun _=>⟨_,z15,endB rfl⟩,fun h=> ?_⟩
 rw [h] at h9
 have h0:mayBox b=0:=by
  simp only [Bool.or_eq_false_iff,bne_eq_false_iff_eq] at h9
  exact h9.2
 have hM:=boxMay.1 h0
 rintro _ rfl
 refine ⟨by decide, ?_⟩
 rintro _ rfl _ rfl _ rfl
 rw [form_of,show 1+n % 18446744073709551616 % 3=formN n from rfl]
 have hv:=formN_or n
 generalize formN n=v at hv⊢
 have h17:=z17m hv hM (restR v b) (by have:=restR_len (v:=v) hM;omega) (restR_ok v hM)
 rw [all_img hv hM] at h17
 have h19:=z19 (imgB v b)
 rw [ver_img hv] at h19
 have h18:=r20 b b hb.ok
 rw [sameB_refl] at h18
 refine ⟨_,_,_,z16m hv hM,fun q=>by simp at q,fun _=>⟨_,_,_,_,_,_,_,h17, ?_⟩⟩
 rintro _ rfl
 refine ⟨true,fun _=>h18, ?_⟩
 rintro _ rfl
 refine ⟨v,fun _=>h19, ?_⟩
 rintro _ rfl _ rfl
 have e:(decide (v<3) ||nI (List.length ((restR v b).map Row.d)) ==0) =true:=by
  rcases hv with rfl | rfl | rfl
  ·rfl
  ·rfl
  ·rfl
 rw [e]
 rintro _ rfl
 refine ⟨true,fun _=>z15, ?_⟩
 rintro _ rfl
 exact endB (by simp)
theorem z4 (n k:Int) (b:Box) (hb:BoxIn b) :Runs P 4 [.d (iD n), .d (iD k), .d b.d] [] (.d (.bool true)) []:=by
 refine runs_walkZ zt4 (zvc4 _ _ _ _ _ _ _ _ _ _) rfl (by simp) ?_
 refine ⟨_,r15 b hb.sz,_,fun _=>r16 b hb.ok, ?_⟩
 rintro b9 h9
 refine ⟨fun _=>⟨_,z15,endB rfl⟩,fun h=> ?_⟩
 rw [h] at h9
 have h0:mayBox b=0:=by
  simp only [Bool.or_eq_false_iff,bne_eq_false_iff_eq] at h9
  exact h9.2
 have hM:=boxMay.1 h0
 rintro _ rfl
 refine ⟨by decide, ?_⟩
 rintro _ rfl _ rfl _ rfl _ rfl
 refine ⟨by decide, ?_⟩
 rintro _ rfl _ rfl _ rfl
 rw [form_of,form_of,show 1+n % 18446744073709551616 % 3=formN n from rfl,show 1+k % 18446744073709551616 % 3=formN k from rfl]
 have hv:=formN_or n
 have hu:=formN_or k
 generalize formN n=v at hv⊢
 generalize formN k=u at hu⊢
 have h17:=z17m hv hM (restR v b) (by have:=restR_len (v:=v) hM;omega) (restR_ok v hM)
 rw [all_img hv hM] at h17
 have h17u:=z17m hu hM (restR u b) (by have:=restR_len (v:=u) hM;omega) (restR_ok u hM)
 rw [all_img hu hM] at h17u
 have h18:=r20 b b hb.ok
 rw [sameB_refl] at h18
 have h20:=r44 (restR v b) (restR v b) (by have:=restR_len (v:=v) hM;omega) fun r hr=>by have:=(restR_ok v hM r hr).keys;omega
 rw [sameRs_iff.2 rfl] at h20
 refine ⟨_,_,_,z16m hv hM,fun q=>by simp at q,fun _=>⟨_,_,_,_,_,_,_,h17,_,_,_,z16m hu hM,fun q=>by simp at q,fun _=>⟨_,_,_,_,_,_,_,h17u,_,_,_,z16m hv hM,imgB v b,fun _=>rfl,imgB v b,fun _=>rfl, ?_⟩⟩⟩
 rintro _ rfl
 refine ⟨true,fun _=>h20, ?_⟩
 rintro _ rfl
 refine ⟨true,fun _=>h18, ?_⟩
 rintro _ rfl
 refine ⟨true,fun _=>z15, ?_⟩
 rintro _ rfl
 exact endB (by simp)
end B
end Go.Proofs.YtmkkljbfmdngfaaGreatDoor
