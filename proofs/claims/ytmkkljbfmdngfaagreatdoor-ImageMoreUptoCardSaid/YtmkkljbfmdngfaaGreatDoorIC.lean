/- Laws of images: what walks come to: printed by wip/B/gen. No condition. -/
import Derived.Test.YtmkkljbfmdngfaaGreatDoorIB
set_option linter.all false
namespace Go.Proofs.YtmkkljbfmdngfaaGreatDoor
namespace B
def HZ5:Hint:=⟨fun f r=>if r==1000000 then (if f==58 then [12,27] else if f==108 then [30] else if f==107 then [38] else if f==73 then [6,27] else if f==40 then [66] else []) else if r==1000001 then (if f==40 then [3000070,3000081] else if f==999999 then [4000032] else if f==999999 then [4000061] else if f==23 then [28,79] else if f==32 then [28] else if f==74 then [2000117] else if f==139 then [2000172] else if f==33 then [7000003] else []) else if f==141 then (if r==6 then [3,1000,1100,1010075,1030400] else []) else if f==11 then (if r==5 then [10,99999] else if r==8 then [12,99999] else []) else if f==6 then (if r==8 then [15,99999] else if r==9 then [17,99999] else []) else if f==107 then (if r==10 then [1000,1080074,1140075] else []) else if f==146 then (if r==2 then [7,1100075,1120075] else []) else if f==999999 then (if r==13 then [23,9,1010140,1030075] else if r==37||r==44 then [6] else []) else if f==168||f==171||f==133||f==137 then [1100] else if f==999999||f==999999 then (if r==6 then [9,99999] else if r==7 then [11,99999] else []) else [],fun f=>if f==999999||f==999999||f==999999||f==129||f==134 then some 0 else none⟩
set_option maxRecDepth 100000
theorem zt3:okF P HZ5 3 2=true:=by kernel_rfl
theorem zvc3 (n0:Int) (s1:Bytes) (n2:Int) (n3:Int) (n4:Int) (l5:List D) (l6:List D) (res:CV) (objs':List (Nat×List CV)) :walkA P (tbF P [118,148,112,163,1000101,7000102,107500054,1072002147,75,117,139,172,138,2000035093,2000020094] [] 3) (anOf (afOf P HZ5 3) []) (afOf P HZ5 3) [CV.d (D.int .i64 n0),CV.d (D.agg [D.str s1,D.int .i64 n2,D.int .i64 n3,D.int .i64 n4,D.slice 1 l5,D.slice 7 l6])] [] (fun rs=>endE rs res objs') =((∃n7:Int,((Runs P 13 [CV.d (D.agg [D.str s1,D.int .i64 n2,D.int .i64 n3,D.int .i64 n4,D.slice 1 l5,D.slice 7 l6])] [] (CV.d (D.int .i64 n7)) [])∧(∃n8:Int,(((!decide (n7>0)) =true→Runs P 14 [CV.d (D.agg [D.str s1,D.int .i64 n2,D.int .i64 n3,D.int .i64 n4,D.slice 1 l5,D.slice 7 l6])] [] (CV.d (D.int .i64 n8)) [])∧(∀b9:Bool,((decide (n7>0) ||n8 !=0) =b9→(((b9) =true→(∃b10:Bool,((Runs P 15 [] [] (CV.d (D.bool b10)) [])∧EndR (CV.d (D.bool b10)) res [(3,[CV.d (D.str s1),CV.d (D.int .i64 n2),CV.d (D.int .i64 n3),CV.d (D.int .i64 n4),CV.d (D.slice 1 l5),CV.d (D.slice 7 l6)])] objs')))∧((b9) =false→(∀n11:Int,(Go.IntKind.wrap Go.IntKind.u64 n0=n11→(((3:Int)≠(0:Int))∧(∀n12:Int,(Int.tmod n11 3=n12→(∀n13:Int,(Go.IntKind.wrap Go.IntKind.i64 n12=n13→(∀n14:Int,(Go.IntKind.wrap Go.IntKind.i64 (1+n13) =n14→(∃l15:List D,(∃l16:List D,(∃n17:Int,((Runs P 16 [CV.d (D.int .i64 n14),CV.d (D.agg [D.str s1,D.int .i64 n2,D.int .i64 n3,D.int .i64 n4,D.slice 1 l5,D.slice 7 l6])] [] (CV.tup [CV.d (D.slice 1 l15),CV.d (D.slice 11 l16),CV.d (D.int .i64 n17)]) [])∧(((n17==4) =true→(∃b18:Bool,((decide (n14<3) =true→Runs P 15 [] [] (CV.d (D.bool b18)) [])∧(∀b19:Bool,((decide (n14<3) &&b18) =b19→EndR (CV.d (D.bool b19)) res [(3,[CV.d (D.str s1),CV.d (D.int .i64 n2),CV.d (D.int .i64 n3),CV.d (D.int .i64 n4),CV.d (D.slice 1 l5),CV.d (D.slice 7 l6)])] objs')))))∧((n17==4) =false→(∃s20:Bytes,(∃n21:Int,(∃n22:Int,(∃n23:Int,(∃l24:List D,(∃l25:List D,(∃n26:Int,((Runs P 17 [CV.d (D.slice 1 l15),CV.d (D.str s1),CV.d (D.slice 11 l16)] [] (CV.tup [CV.d (D.agg [D.str s20,D.int .i64 n21,D.int .i64 n22,D.int .i64 n23,D.slice 1 l24,D.slice 7 l25]),CV.d (D.int .i64 n26)]) [])∧(∀b27:Bool,((n17==0&&n26==0) =b27→(∃b28:Bool,((b27=true→Runs P 18 [CV.d (D.agg [D.str s1,D.int .i64 n2,D.int .i64 n3,D.int .i64 n4,D.slice 1 l5,D.slice 7 l6]),CV.d (D.agg [D.str s20,D.int .i64 n21,D.int .i64 n22,D.int .i64 n23,D.slice 1 l24,D.slice 7 l25])] [] (CV.d (D.bool b28)) [])∧(∀b29:Bool,((b27&&b28) =b29→(∃n30:Int,((b29=true→Runs P 19 [CV.d (D.slice 1 l15)] [] (CV.d (D.int .i64 n30)) [])∧(∀b31:Bool,((b29&&n30==n14) =b31→(∀b32:Bool,((decide (n14<3) ||nI (List.length l16) ==0) =b32→(∀b33:Bool,((b31&&b32) =b33→(∃b34:Bool,((b33=true→Runs P 15 [] [] (CV.d (D.bool b34)) [])∧(∀b35:Bool,((b33&&b34) =b35→EndR (CV.d (D.bool b35)) res [(3,[CV.d (D.str s1),CV.d (D.int .i64 n2),CV.d (D.int .i64 n3),CV.d (D.int .i64 n4),CV.d (D.slice 1 l5),CV.d (D.slice 7 l6)]),(8,[CV.d (D.str s20),CV.d (D.int .i64 n21),CV.d (D.int .i64 n22),CV.d (D.int .i64 n23),CV.d (D.slice 1 l24),CV.d (D.slice 7 l25)])] objs')))))))))))))))))))))))))))))))))))))))))))))))))):=by kernel_rfl
theorem zt4:okF P HZ5 4 3=true:=by kernel_rfl
theorem zvc4 (n0:Int) (n1:Int) (s2:Bytes) (n3:Int) (n4:Int) (n5:Int) (l6:List D) (l7:List D) (res:CV) (objs':List (Nat×List CV)) :walkA P (tbF P [118,148,112,163,1000101,7000102,107500054,1072002147,75,117,139,172,138,2000035093,2000020094] [] 4) (anOf (afOf P HZ5 4) []) (afOf P HZ5 4) [CV.d (D.int .i64 n0),CV.d (D.int .i64 n1),CV.d (D.agg [D.str s2,D.int .i64 n3,D.int .i64 n4,D.int .i64 n5,D.slice 1 l6,D.slice 7 l7])] [] (fun rs=>endE rs res objs') =((∃n8:Int,((Runs P 13 [CV.d (D.agg [D.str s2,D.int .i64 n3,D.int .i64 n4,D.int .i64 n5,D.slice 1 l6,D.slice 7 l7])] [] (CV.d (D.int .i64 n8)) [])∧(∃n9:Int,(((!decide (n8>0)) =true→Runs P 14 [CV.d (D.agg [D.str s2,D.int .i64 n3,D.int .i64 n4,D.int .i64 n5,D.slice 1 l6,D.slice 7 l7])] [] (CV.d (D.int .i64 n9)) [])∧(∀b10:Bool,((decide (n8>0) ||n9 !=0) =b10→(((b10) =true→(∃b11:Bool,((Runs P 15 [] [] (CV.d (D.bool b11)) [])∧EndR (CV.d (D.bool b11)) res [(5,[CV.d (D.str s2),CV.d (D.int .i64 n3),CV.d (D.int .i64 n4),CV.d (D.int .i64 n5),CV.d (D.slice 1 l6),CV.d (D.slice 7 l7)])] objs')))∧((b10) =false→(∀n12:Int,(Go.IntKind.wrap Go.IntKind.u64 n0=n12→(((3:Int)≠(0:Int))∧(∀n13:Int,(Int.tmod n12 3=n13→(∀n14:Int,(Go.IntKind.wrap Go.IntKind.i64 n13=n14→(∀n15:Int,(Go.IntKind.wrap Go.IntKind.i64 (1+n14) =n15→(∀n16:Int,(Go.IntKind.wrap Go.IntKind.u64 n1=n16→(((3:Int)≠(0:Int))∧(∀n17:Int,(Int.tmod n16 3=n17→(∀n18:Int,(Go.IntKind.wrap Go.IntKind.i64 n17=n18→(∀n19:Int,(Go.IntKind.wrap Go.IntKind.i64 (1+n18) =n19→(∃l20:List D,(∃l21:List D,(∃n22:Int,((Runs P 16 [CV.d (D.int .i64 n15),CV.d (D.agg [D.str s2,D.int .i64 n3,D.int .i64 n4,D.int .i64 n5,D.slice 1 l6,D.slice 7 l7])] [] (CV.tup [CV.d (D.slice 1 l20),CV.d (D.slice 11 l21),CV.d (D.int .i64 n22)]) [])∧(((n22 !=0) =true→(∃b23:Bool,(((n22==4) =true→Runs P 15 [] [] (CV.d (D.bool b23)) [])∧(∀b24:Bool,((n22==4&&b23) =b24→EndR (CV.d (D.bool b24)) res [(5,[CV.d (D.str s2),CV.d (D.int .i64 n3),CV.d (D.int .i64 n4),CV.d (D.int .i64 n5),CV.d (D.slice 1 l6),CV.d (D.slice 7 l7)])] objs')))))∧((n22 !=0) =false→(∃s25:Bytes,(∃n26:Int,(∃n27:Int,(∃n28:Int,(∃l29:List D,(∃l30:List D,(∃n31:Int,((Runs P 17 [CV.d (D.slice 1 l20),CV.d (D.str s2),CV.d (D.slice 11 l21)] [] (CV.tup [CV.d (D.agg [D.str s25,D.int .i64 n26,D.int .i64 n27,D.int .i64 n28,D.slice 1 l29,D.slice 7 l30]),CV.d (D.int .i64 n31)]) [])∧(∃l32:List D,(∃l33:List D,(∃n34:Int,((Runs P 16 [CV.d (D.int .i64 n19),CV.d (D.agg [D.str s25,D.int .i64 n26,D.int .i64 n27,D.int .i64 n28,D.slice 1 l29,D.slice 7 l30])] [] (CV.tup [CV.d (D.slice 1 l32),CV.d (D.slice 11 l33),CV.d (D.int .i64 n34)]) [])∧(((n34 !=0) =true→(∃b35:Bool,(((n34==4) =true→Runs P 15 [] [] (CV.d (D.bool b35)) [])∧(∀b36:Bool,((n34==4&&b35) =b36→EndR (CV.d (D.bool b36)) res [(5,[CV.d (D.str s2),CV.d (D.int .i64 n3),CV.d (D.int .i64 n4),CV.d (D.int .i64 n5),CV.d (D.slice 1 l6),CV.d (D.slice 7 l7)]),(10,[CV.d (D.str s25),CV.d (D.int .i64 n26),CV.d (D.int .i64 n27),CV.d (D.int .i64 n28),CV.d (D.slice 1 l29),CV.d (D.slice 7 l30)])] objs')))))∧((n34 !=0) =false→(∃s37:Bytes,(∃n38:Int,(∃n39:Int,(∃n40:Int,(∃l41:List D,(∃l42:List D,(∃n43:Int,((Runs P 17 [CV.d (D.slice 1 l32),CV.d (D.str s2),CV.d (D.slice 11 l33)] [] (CV.tup [CV.d (D.agg [D.str s37,D.int .i64 n38,D.int .i64 n39,D.int .i64 n40,D.slice 1 l41,D.slice 7 l42]),CV.d (D.int .i64 n43)]) [])∧(∃l44:List D,(∃l45:List D,(∃n46:Int,((Runs P 16 [CV.d (D.int .i64 n15),CV.d (D.agg [D.str s37,D.int .i64 n38,D.int .i64 n39,D.int .i64 n40,D.slice 1 l41,D.slice 7 l42])] [] (CV.tup [CV.d (D.slice 1 l44),CV.d (D.slice 11 l45),CV.d (D.int .i64 n46)]) [])∧(∃s47:Bytes,(((n46==0) =true→l44=List.map byteD s47)∧(∃s48:Bytes,(((n46==0) =true→l20=List.map byteD s48)∧(∀b49:Bool,((n46==0&&s47==s48) =b49→(∃b50:Bool,((b49=true→Runs P 20 [CV.d (D.slice 11 l45),CV.d (D.slice 11 l21)] [] (CV.d (D.bool b50)) [])∧(∀b51:Bool,((b49&&b50) =b51→(∃b52:Bool,((b51=true→Runs P 18 [CV.d (D.agg [D.str s37,D.int .i64 n38,D.int .i64 n39,D.int .i64 n40,D.slice 1 l41,D.slice 7 l42]),CV.d (D.agg [D.str s2,D.int .i64 n3,D.int .i64 n4,D.int .i64 n5,D.slice 1 l6,D.slice 7 l7])] [] (CV.d (D.bool b52)) [])∧(∀b53:Bool,((b51&&b52) =b53→(∃b54:Bool,((b53=true→Runs P 15 [] [] (CV.d (D.bool b54)) [])∧(∀b55:Bool,((b53&&b54) =b55→EndR (CV.d (D.bool b55)) res [(5,[CV.d (D.str s2),CV.d (D.int .i64 n3),CV.d (D.int .i64 n4),CV.d (D.int .i64 n5),CV.d (D.slice 1 l6),CV.d (D.slice 7 l7)]),(10,[CV.d (D.str s25),CV.d (D.int .i64 n26),CV.d (D.int .i64 n27),CV.d (D.int .i64 n28),CV.d (D.slice 1 l29),CV.d (D.slice 7 l30)]),(15,[CV.d (D.str s37),CV.d (D.int .i64 n38),CV.d (D.int .i64 n39),CV.d (D.int .i64 n40),CV.d (D.slice 1 l41),CV.d (D.slice 7 l42)])] objs'))))))))))))))))))))))))))))))))))))))))))))))))))))))))))))))))))))))))))))):=by kernel_rfl
theorem zt5:okF P HZ5 5 3=true:=by kernel_rfl
theorem zvc5 (n0:Int) (s1:Bytes) (n2:Int) (n3:Int) (n4:Int) (l5:List D) (l6:List D) (n7:Int) (res:CV) (objs':List (Nat×List CV)) :walkA P (tbF P [118,148,112,163,1000101,7000102,107500054,1072002147,75,117,139,172,138,2000035093,2000020094] [] 5) (anOf (afOf P HZ5 5) []) (afOf P HZ5 5) [CV.d (D.int .i64 n0),CV.d (D.agg [D.str s1,D.int .i64 n2,D.int .i64 n3,D.int .i64 n4,D.slice 1 l5,D.slice 7 l6]),CV.d (D.int .i64 n7)] [] (fun rs=>endE rs res objs') =((∃n8:Int,((Runs P 13 [CV.d (D.agg [D.str s1,D.int .i64 n2,D.int .i64 n3,D.int .i64 n4,D.slice 1 l5,D.slice 7 l6])] [] (CV.d (D.int .i64 n8)) [])∧(∃n9:Int,(((!decide (n8>0)) =true→Runs P 14 [CV.d (D.agg [D.str s1,D.int .i64 n2,D.int .i64 n3,D.int .i64 n4,D.slice 1 l5,D.slice 7 l6])] [] (CV.d (D.int .i64 n9)) [])∧(∀b10:Bool,((decide (n8>0) ||n9 !=0) =b10→(((b10) =true→(∃b11:Bool,((Runs P 15 [] [] (CV.d (D.bool b11)) [])∧EndR (CV.d (D.bool b11)) res [(4,[CV.d (D.str s1),CV.d (D.int .i64 n2),CV.d (D.int .i64 n3),CV.d (D.int .i64 n4),CV.d (D.slice 1 l5),CV.d (D.slice 7 l6)])] objs')))∧((b10) =false→(∀n12:Int,(Go.IntKind.wrap Go.IntKind.u64 n0=n12→(((3:Int)≠(0:Int))∧(∀n13:Int,(Int.tmod n12 3=n13→(∀n14:Int,(Go.IntKind.wrap Go.IntKind.i64 n13=n14→(∀n15:Int,(Go.IntKind.wrap Go.IntKind.i64 (1+n14) =n15→(∃l16:List D,(∃l17:List D,(∃n18:Int,((Runs P 16 [CV.d (D.int .i64 n15),CV.d (D.agg [D.str s1,D.int .i64 n2,D.int .i64 n3,D.int .i64 n4,D.slice 1 l5,D.slice 7 l6])] [] (CV.tup [CV.d (D.slice 1 l16),CV.d (D.slice 11 l17),CV.d (D.int .i64 n18)]) [])∧(∀b19:Bool,((n18 !=0||nI (List.length l17) ==0) =b19→(((b19) =true→(∀b20:Bool,((n18==0||n18==4) =b20→(∃b21:Bool,((b20=true→Runs P 15 [] [] (CV.d (D.bool b21)) [])∧(∀b22:Bool,((b20&&b21) =b22→EndR (CV.d (D.bool b22)) res [(4,[CV.d (D.str s1),CV.d (D.int .i64 n2),CV.d (D.int .i64 n3),CV.d (D.int .i64 n4),CV.d (D.slice 1 l5),CV.d (D.slice 7 l6)])] objs')))))))∧((b19) =false→(∀n23:Int,(Go.IntKind.wrap Go.IntKind.u64 n7=n23→(∀n24:Int,(Go.IntKind.wrap Go.IntKind.u64 (nI (List.length l17)) =n24→((n24≠0)∧(∀n25:Int,(Int.tmod n23 n24=n25→(∀n26:Int,(Go.IntKind.wrap Go.IntKind.i64 n25=n26→((0≤nI (0:Nat)∧nI (0:Nat)≤n26∧n26≤nI (List.length l17))∧(∀l27:List D,(List.drop (Int.toNat (nI (0:Nat))) (List.take (Int.toNat n26) l17) =l27→(((0+List.length l27) *128≤140737488355328)∧(∀n28:Int,(Go.IntKind.wrap Go.IntKind.i64 (n26+1) =n28→((0≤n28∧n28≤nI (List.length l17)∧nI (List.length l17)≤nI (List.length l17))∧(∀l29:List D,(List.drop (Int.toNat n28) (List.take (Int.toNat (nI (List.length l17))) l17) =l29→(((List.length l27+List.length l29) *128≤140737488355328)∧(∃s30:Bytes,(∃n31:Int,(∃n32:Int,(∃n33:Int,(∃l34:List D,(∃l35:List D,(∃n36:Int,((Runs P 17 [CV.d (D.slice 1 l16),CV.d (D.str s1),CV.d (D.slice 11 (l27++l29))] [] (CV.tup [CV.d (D.agg [D.str s30,D.int .i64 n31,D.int .i64 n32,D.int .i64 n33,D.slice 1 l34,D.slice 7 l35]),CV.d (D.int .i64 n36)]) [])∧((0≤n26∧n26<nI (List.length l17))∧(∃n37:Int,(∃n38:Int,(∃n39:Int,(∃n40:Int,(∃n41:Int,(∃n42:Int,(∃s43:Bytes,(∃n44:Int,(∃l45:List D,(∃s46:Bytes,(∃s47:Bytes,((D.cells (List.getD l17 (Int.toNat n26) D.nilp) = [D.int .i64 n37,D.int .i64 n38,D.int .i64 n39,D.int .i64 n40,D.int .i64 n41,D.int .i64 n42,D.str s43,D.int .i64 n44,D.slice 1 l45,D.str s46,D.str s47])∧(∀b48:Bool,((n37==7&&n36==0) =b48→(((b48) =true→(∃b49:Bool,((Runs P 15 [] [] (CV.d (D.bool b49)) [])∧EndR (CV.d (D.bool b49)) res [(4,[CV.d (D.str s1),CV.d (D.int .i64 n2),CV.d (D.int .i64 n3),CV.d (D.int .i64 n4),CV.d (D.slice 1 l5),CV.d (D.slice 7 l6)]),(11,[CV.d (D.str s30),CV.d (D.int .i64 n31),CV.d (D.int .i64 n32),CV.d (D.int .i64 n33),CV.d (D.slice 1 l34),CV.d (D.slice 7 l35)])] objs')))∧((b48) =false→(∃b50:Bool,(((!n36 !=0) =true→Runs P 18 [CV.d (D.agg [D.str s30,D.int .i64 n31,D.int .i64 n32,D.int .i64 n33,D.slice 1 l34,D.slice 7 l35]),CV.d (D.agg [D.str s1,D.int .i64 n2,D.int .i64 n3,D.int .i64 n4,D.slice 1 l5,D.slice 7 l6])] [] (CV.d (D.bool b50)) [])∧(∀b51:Bool,((n36 !=0|| !b50) =b51→(∃b52:Bool,((b51=true→Runs P 15 [] [] (CV.d (D.bool b52)) [])∧(∀b53:Bool,((b51&&b52) =b53→EndR (CV.d (D.bool b53)) res [(4,[CV.d (D.str s1),CV.d (D.int .i64 n2),CV.d (D.int .i64 n3),CV.d (D.int .i64 n4),CV.d (D.slice 1 l5),CV.d (D.slice 7 l6)]),(11,[CV.d (D.str s30),CV.d (D.int .i64 n31),CV.d (D.int .i64 n32),CV.d (D.int .i64 n33),CV.d (D.slice 1 l34),CV.d (D.slice 7 l35)])] objs')))))))))))))))))))))))))))))))))))))))))))))))))))))))))))))))))))))))))))))):=by kernel_rfl
theorem zt6:okF P HZ5 6 4=true:=by kernel_rfl
theorem zvc6 (n0:Int) (n1:Int) (s2:Bytes) (n3:Int) (n4:Int) (n5:Int) (l6:List D) (l7:List D) (l8:List D) (res:CV) (objs':List (Nat×List CV)) :walkA P (tbF P [118,148,112,163,1000101,7000102,107500054,1072002147,75,117,139,172,138,2000035093,2000020094] [] 6) (anOf (afOf P HZ5 6) []) (afOf P HZ5 6) [CV.d (D.int .i64 n0),CV.d (D.int .i64 n1),CV.d (D.agg [D.str s2,D.int .i64 n3,D.int .i64 n4,D.int .i64 n5,D.slice 1 l6,D.slice 7 l7]),CV.d (D.slice 11 l8)] [] (fun rs=>endE rs res objs') =((∃n9:Int,((Runs P 13 [CV.d (D.agg [D.str s2,D.int .i64 n3,D.int .i64 n4,D.int .i64 n5,D.slice 1 l6,D.slice 7 l7])] [] (CV.d (D.int .i64 n9)) [])∧(∀b10:Bool,((decide (n9>0) ||decide (nI (List.length l8) >20)) =b10→(∃n11:Int,(((!b10) =true→Runs P 14 [CV.d (D.agg [D.str s2,D.int .i64 n3,D.int .i64 n4,D.int .i64 n5,D.slice 1 l6,D.slice 7 l7])] [] (CV.d (D.int .i64 n11)) [])∧(∀b12:Bool,((b10||n11 !=0) =b12→(((b12) =true→(∃b13:Bool,((Runs P 15 [] [] (CV.d (D.bool b13)) [])∧EndR (CV.d (D.bool b13)) res [(6,[CV.d (D.str s2),CV.d (D.int .i64 n3),CV.d (D.int .i64 n4),CV.d (D.int .i64 n5),CV.d (D.slice 1 l6),CV.d (D.slice 7 l7)])] objs')))∧((b12) =false→(∀n14:Int,(Go.IntKind.wrap Go.IntKind.u64 n0=n14→(((3:Int)≠(0:Int))∧(∀n15:Int,(Int.tmod n14 3=n15→(∀n16:Int,(Go.IntKind.wrap Go.IntKind.i64 n15=n16→(∀n17:Int,(Go.IntKind.wrap Go.IntKind.i64 (1+n16) =n17→(∀n18:Int,(Go.IntKind.wrap Go.IntKind.u64 n1=n18→(((3:Int)≠(0:Int))∧(∀n19:Int,(Int.tmod n18 3=n19→(∀n20:Int,(Go.IntKind.wrap Go.IntKind.i64 n19=n20→(∀n21:Int,(Go.IntKind.wrap Go.IntKind.i64 (1+n20) =n21→(∃l22:List D,(∃l23:List D,(∃n24:Int,((Runs P 16 [CV.d (D.int .i64 n17),CV.d (D.agg [D.str s2,D.int .i64 n3,D.int .i64 n4,D.int .i64 n5,D.slice 1 l6,D.slice 7 l7])] [] (CV.tup [CV.d (D.slice 1 l22),CV.d (D.slice 11 l23),CV.d (D.int .i64 n24)]) [])∧(∃l25:List D,(∃l26:List D,(∃n27:Int,((Runs P 16 [CV.d (D.int .i64 n21),CV.d (D.agg [D.str s2,D.int .i64 n3,D.int .i64 n4,D.int .i64 n5,D.slice 1 l6,D.slice 7 l7])] [] (CV.tup [CV.d (D.slice 1 l25),CV.d (D.slice 11 l26),CV.d (D.int .i64 n27)]) [])∧(∀b28:Bool,((n24 !=0||n27 !=0) =b28→(((b28) =true→(∀b29:Bool,((n24==4||n27==4) =b29→(∃b30:Bool,((b29=true→Runs P 15 [] [] (CV.d (D.bool b30)) [])∧(∀b31:Bool,((b29&&b30) =b31→EndR (CV.d (D.bool b31)) res [(6,[CV.d (D.str s2),CV.d (D.int .i64 n3),CV.d (D.int .i64 n4),CV.d (D.int .i64 n5),CV.d (D.slice 1 l6),CV.d (D.slice 7 l7)])] objs')))))))∧((b28) =false→(((0+List.length l23) *128≤140737488355328)∧(((List.length l23+List.length l8) *128≤140737488355328)∧(∃s32:Bytes,(∃n33:Int,(∃n34:Int,(∃n35:Int,(∃l36:List D,(∃l37:List D,(∃n38:Int,((Runs P 17 [CV.d (D.slice 1 l22),CV.d (D.str s2),CV.d (D.slice 11 (l23++l8))] [] (CV.tup [CV.d (D.agg [D.str s32,D.int .i64 n33,D.int .i64 n34,D.int .i64 n35,D.slice 1 l36,D.slice 7 l37]),CV.d (D.int .i64 n38)]) [])∧(((0+List.length l26) *128≤140737488355328)∧(((List.length l26+List.length l8) *128≤140737488355328)∧(∃s39:Bytes,(∃n40:Int,(∃n41:Int,(∃n42:Int,(∃l43:List D,(∃l44:List D,(∃n45:Int,((Runs P 17 [CV.d (D.slice 1 l25),CV.d (D.str s2),CV.d (D.slice 11 (l26++l8))] [] (CV.tup [CV.d (D.agg [D.str s39,D.int .i64 n40,D.int .i64 n41,D.int .i64 n42,D.slice 1 l43,D.slice 7 l44]),CV.d (D.int .i64 n45)]) [])∧(∃b46:Bool,(((n38==n45) =true→Runs P 18 [CV.d (D.agg [D.str s32,D.int .i64 n33,D.int .i64 n34,D.int .i64 n35,D.slice 1 l36,D.slice 7 l37]),CV.d (D.agg [D.str s39,D.int .i64 n40,D.int .i64 n41,D.int .i64 n42,D.slice 1 l43,D.slice 7 l44])] [] (CV.d (D.bool b46)) [])∧(∀b47:Bool,((n38==n45&&b46) =b47→(∃b48:Bool,((b47=true→Runs P 15 [] [] (CV.d (D.bool b48)) [])∧(∀b49:Bool,((b47&&b48) =b49→EndR (CV.d (D.bool b49)) res [(6,[CV.d (D.str s2),CV.d (D.int .i64 n3),CV.d (D.int .i64 n4),CV.d (D.int .i64 n5),CV.d (D.slice 1 l6),CV.d (D.slice 7 l7)]),(15,[CV.d (D.str s32),CV.d (D.int .i64 n33),CV.d (D.int .i64 n34),CV.d (D.int .i64 n35),CV.d (D.slice 1 l36),CV.d (D.slice 7 l37)]),(17,[CV.d (D.str s39),CV.d (D.int .i64 n40),CV.d (D.int .i64 n41),CV.d (D.int .i64 n42),CV.d (D.slice 1 l43),CV.d (D.slice 7 l44)])] objs'))))))))))))))))))))))))))))))))))))))))))))))))))))))))))))))))))))):=by kernel_rfl
end B
end Go.Proofs.YtmkkljbfmdngfaaGreatDoor
namespace Go.Proofs.YtmkkljbfmdngfaaGreatDoor
namespace B
open Go.RowKit
theorem form_of (n:Int) :Go.IntKind.wrap .i64 (1+Go.IntKind.wrap .i64 (Int.tmod (Go.IntKind.wrap .u64 n) 3)) =1+(n % 18446744073709551616) % 3:=by
 rw [WU64,Int.tmod_eq_emod_of_nonneg (by omega),W64 (n:=(n % 18446744073709551616) % 3) (by omega) (by omega),W64 (by omega) (by omega)]
def formN (n:Int) :Int:=1+(n % 18446744073709551616) % 3
theorem formN_or (n:Int) :formN n=1∨formN n=2∨formN n=3:=by unfold formN;omega
theorem z3 (n:Int) (b:Box) (hb:BoxIn b) :Runs P 3 [.d (iD n), .d b.d] [] (.d (.bool true)) []:=by
 refine runs_walkZ zt3 (zvc3 _ _ _ _ _ _ _ _ _) rfl (by simp) ?_
 refine ⟨_,r15 b hb.sz,_,fun _=>r16 b hb.ok, ?_⟩
 rintro b9 h9
 refine ⟨fun _=>⟨_,z15,endB rfl⟩,fun h=> ?_⟩
 rw [h] at h9
 have h0:mayBox b=0:=by
  simp only [Bool.or_eq_false_iff,bne_eq_false_iff_eq] at h9
  exact h9.2
 have hM:=boxMay.1 h0
 rintro _ rfl
 refine ⟨by decide, ?_⟩
 rintro _ rfl _ rfl _ rfl
 rw [form_of,show 1+n % 18446744073709551616 % 3=formN n from rfl]
 have hv:=formN_or n
 generalize formN n=v at hv⊢
 have h17:=z17m hv hM (restR v b) (by have:=restR_len (v:=v) hM;omega) (restR_ok v hM)
 rw [all_img hv hM] at h17
 have h19:=z19 (imgB v b)
 rw [ver_img hv] at h19
 have h18:=r20 b b hb.ok
 rw [sameB_refl] at h18
 refine ⟨_,_,_,z16m hv hM,fun q=>by simp at q,fun _=>⟨_,_,_,_,_,_,_,h17, ?_⟩⟩
 rintro _ rfl
 refine ⟨true,fun _=>h18, ?_⟩
 rintro _ rfl
 refine ⟨v,fun _=>h19, ?_⟩
 rintro _ rfl _ rfl
 have e:(decide (v<3) ||nI (List.length ((restR v b).map Row.d)) ==0) =true:=by
  rcases hv with rfl | rfl | rfl
  ·rfl
  ·rfl
  ·rfl
 rw [e]
 rintro _ rfl
 refine ⟨true,fun _=>z15, ?_⟩
 rintro _ rfl
 exact endB (by simp)
theorem z4 (n k:Int) (b:Box) (hb:BoxIn b) :Runs P 4 [.d (iD n), .d (iD k), .d b.d] [] (.d (.bool true)) []:=by
 refine runs_walkZ zt4 (zvc4 _ _ _ _ _ _ _ _ _ _) rfl (by simp) ?_
 refine ⟨_,r15 b hb.sz,_,fun _=>r16 b hb.ok, ?_⟩
 rintro b9 h9
 refine ⟨fun _=>⟨_,z15,endB rfl⟩,fun h=> ?_⟩
 rw [h] at h9
 have h0:mayBox b=0:=by
  simp only [Bool.or_eq_false_iff,bne_eq_false_iff_eq] at h9
  exact h9.2
 have hM:=boxMay.1 h0
 rintro _ rfl
 refine ⟨by decide, ?_⟩
 rintro _ rfl _ rfl _ rfl _ rfl
 refine ⟨by decide, ?_⟩
 rintro _ rfl _ rfl _ rfl
 rw [form_of,form_of,show 1+n % 18446744073709551616 % 3=formN n from rfl,show 1+k % 18446744073709551616 % 3=formN k from rfl]
 have hv:=formN_or n
 have hu:=formN_or k
 generalize formN n=v at hv⊢
 generalize formN k=u at hu⊢
 have h17:=z17m hv hM (restR v b) (by have:=restR_len (v:=v) hM;omega) (restR_ok v hM)
 rw [all_img hv hM] at h17
 have h17u:=z17m hu hM (restR u b) (by have:=restR_len (v:=u) hM;omega) (restR_ok u hM)
 rw [all_img hu hM] at h17u
 have h18:=r20 b b hb.ok
 rw [sameB_refl] at h18
 have h20:=r44 (restR v b) (restR v b) (by have:=restR_len (v:=v) hM;omega) fun r hr=>by have:=(restR_ok v hM r hr).keys;omega
 rw [sameRs_iff.2 rfl] at h20
 refine ⟨_,_,_,z16m hv hM,fun q=>by simp at q,fun _=>⟨_,_,_,_,_,_,_,h17,_,_,_,z16m hu hM,fun q=>by simp at q,fun _=>⟨_,_,_,_,_,_,_,h17u,_,_,_,z16m hv hM,imgB v b,fun _=>rfl,imgB v b,fun _=>rfl, ?_⟩⟩⟩
 rintro _ rfl
 refine ⟨true,fun _=>h20, ?_⟩
 rintro _ rfl
 refine ⟨true,fun _=>h18, ?_⟩
 rintro _ rfl
 refine ⟨true,fun _=>z15, ?_⟩
 rintro _ rfl
 exact endB (by simp)
theorem z6 (n k:Int) (b:Box) (l:List Row) (hb:BoxIn b) (hl:RowIn l) :Runs P 6 [.d (iD n), .d (iD k), .d b.d, .d (.slice 11 (l.map Row.d))] [] (.d (.bool true)) []:=by
 refine runs_walkZ zt6 (zvc6 _ _ _ _ _ _ _ _ _ _ _) rfl (by simp) ?_
 refine ⟨_,r15 b hb.sz, ?_⟩
 rintro b10 h10
 refine ⟨_,fun _=>r16 b hb.ok, ?_⟩
 rintro b12 h12
 refine ⟨fun _=>⟨_,z15,endB rfl⟩,fun h=> ?_⟩
 rw [h] at h12
 simp only [Bool.or_eq_false_iff,bne_eq_false_iff_eq] at h12
 rw [h12.1] at h10
 simp only [Bool.or_eq_false_iff,decide_eq_false_iff_not] at h10
 have hn:l.length≤20:=by
  have:=h10.2;rw [nI_map] at this;simp only [nI] at this;omega
 have hM:=boxMay.1 h12.2
 rintro _ rfl
 refine ⟨by decide, ?_⟩
 rintro _ rfl _ rfl _ rfl _ rfl
 refine ⟨by decide, ?_⟩
 rintro _ rfl _ rfl _ rfl
 rw [form_of,form_of,show 1+n % 18446744073709551616 % 3=formN n from rfl,show 1+k % 18446744073709551616 % 3=formN k from rfl]
 have hv:=formN_or n
 have hu:=formN_or k
 generalize formN n=v at hv⊢
 generalize formN k=u at hu⊢
 have hlv:=restR_len (v:=v) hM
 have hlu:=restR_len (v:=u) hM
 have ok: ∀w,∀r∈restR w b++l,RowOk r:=fun w r hr=>by
  rcases List.mem_append.1 hr with hr | hr
  ·exact restR_ok w hM r hr
  ·exact RowOk.of (hl.sz r hr)
 have h17:=z17m hv hM (restR v b++l) (by rw [List.length_append];omega) (ok v)
 have h17u:=z17m hu hM (restR u b++l) (by rw [List.length_append];omega) (ok u)
 have e1:allB (sayB v b) (restR v b++l) =runB b l:=by rw [←whole_eq hv hM,whole_more hv hM]
 have e2:allB (sayB u b) (restR u b++l) =runB b l:=by rw [←whole_eq hu hM,whole_more hu hM]
 rw [e1,List.map_append] at h17
 rw [e2,List.map_append] at h17u
 have h18:=r20 (runB b l).2 (runB b l).2 (by
  have:runB b l=allB b l:=by unfold allB;rw [if_pos h12.2]
  rw [this];exact allB_ok)
 rw [sameB_refl] at h18
 refine ⟨_,_,_,z16m hv hM,_,_,_,z16m hu hM, ?_⟩
 rintro _ rfl
 refine ⟨fun q=>by simp at q,fun _=>⟨by rw [List.length_map];omega,by rw [List.length_map,List.length_map];omega,_,_,_,_,_,_,_,h17,by rw [List.length_map];omega,by rw [List.length_map,List.length_map];omega,_,_,_,_,_,_,_,h17u,_,fun _=>h18, ?_⟩⟩
 rintro _ rfl
 refine ⟨true,fun _=>z15, ?_⟩
 rintro _ rfl
 exact endB (by simp)
end B
end Go.Proofs.YtmkkljbfmdngfaaGreatDoor
namespace Go.Proofs.YtmkkljbfmdngfaaGreatDoor
namespace B
open Go.RowKit
def effM (m:Msg) (r:Row) :Msg:=if r.uid=m.uid then (if r.kind=2 then flagM m r else if r.kind=5 then {m with id:=r.text} else if r.kind=6 then {m with mod:=r.mod} else m) else m
theorem effM_uid (m:Msg) (r:Row) :(effM m r).uid=m.uid:=by
 unfold effM flagM
 repeat' split
 all_goals rfl
theorem effM_ne {m:Msg} {r:Row} (h:r.uid≠m.uid) :effM m r=m:=by unfold effM;rw [if_neg h]
def Kin (r:Row) :Prop:=r.kind=2∨r.kind=4∨r.kind=5∨r.kind=6∨r.kind=7
theorem effM_no {m:Msg} {r:Row} (h2:r.kind≠2) (h5:r.kind≠5) (h6:r.kind≠6) :effM m r=m:=by
 unfold effM;rw [if_neg h2,if_neg h5,if_neg h6];split<;>rfl
theorem map_set_eff {l:List Msg} (h:(l.map Msg.uid).Pairwise (· < ·)) {i:Nat} (hi:i<l.length) (r:Row) (hu:l[i].uid=r.uid) :l.map (fun m=>effM m r) =l.set i (effM l[i] r):=by
 refine List.ext_getElem (by simp) fun j h1 h2=> ?_
 rw [List.getElem_map,List.getElem_set]
 split
 ·rename_i e;subst e;rfl
 ·rename_i e
  have hj:j<l.length:=by simpa using h1
  refine effM_ne ?_
  rw [←hu]
  intro q
  have hp:=List.pairwise_iff_getElem.1 h
  rcases Nat.lt_or_gt_of_ne e with q1 | q1
  ·have:=hp i j (by simpa using hi) (by simpa using hj) q1
   simp only [List.getElem_map] at this;omega
  ·have:=hp j i (by simpa using hj) (by simpa using hi) q1
   simp only [List.getElem_map] at this;omega
theorem applyB_eff {c d:Box} {r:Row} (hc:BoxMay c) (hk:Kin r) (h:applyB c r=(0,d)) :d.msgs=c.msgs.map (fun m=>effM m r)∧d.words.length=c.words.length+(if r.kind=4 then 1 else 0):=by
 have hp:=(msgsMay.1 hc.msgs).rise
 by_cases h4:r.kind=4
 ·unfold applyB at h
  rw [if_neg (by omega),if_pos h4] at h
  unfold wordB at h
  split at h
  ·cases h
  split at h
  ·cases h
  split at h
  ·cases h
  simp only [Prod.mk.injEq,true_and] at h
  subst h
  have:(fun m=>effM m r) =id:=by funext m;exact effM_no (by omega) (by omega) (by omega)
  rw [this,if_pos h4]
  exact ⟨by simp,by simp⟩
 rw [if_neg h4]
 by_cases h7:r.kind=7
 ·unfold applyB at h
  rw [if_neg (by omega),if_neg (by omega),if_pos h7] at h
  split at h
  ·simp only [Prod.mk.injEq,true_and] at h
   subst h
   have:(fun m=>effM m r) =id:=by funext m;exact effM_no (by omega) (by omega) (by omega)
   rw [this]
   exact ⟨by simp,rfl⟩
  ·cases h
 have hk':r.kind=2∨r.kind=3∨r.kind=5∨r.kind=6:=by unfold Kin at hk;omega
 cases hf:findM c.msgs r.uid with
 | none=>rw [applyB_none _ _ hk' hf] at h;cases h
 | some i=>
  obtain ⟨hi,hu⟩:=findM_some hf
  rw [applyB_some c r hk' hf hi] at h
  rw [map_set_eff hp hi r hu]
  obtain ⟨o,ho,e1,e2⟩ : ∃o,oneB c i c.msgs[i] r=(0,o)∧d.msgs=o.msgs∧d.words=o.words:=by
   split at h
   ·exact ⟨d,h,rfl,rfl⟩
   ·rename_i q
    have q0:(oneB c i c.msgs[i] r).1=0:=Classical.not_not.1 fun k=>q (.inl k)
    refine ⟨(oneB c i c.msgs[i] r).2,Prod.ext q0 rfl, ?_, ?_⟩
    ·exact (congrArg (fun x:Int×Box=>x.2.msgs) h).symm
    ·exact (congrArg (fun x:Int×Box=>x.2.words) h).symm
  have he:effM c.msgs[i] r=(if r.kind=2 then flagM c.msgs[i] r else if r.kind=5 then {c.msgs[i] with id:=r.text} else if r.kind=6 then {c.msgs[i] with mod:=r.mod} else c.msgs[i]):=by
   unfold effM;rw [if_pos hu.symm]
  rw [e1,e2,he]
  unfold oneB at ho
  by_cases k2:r.kind=2
  ·rw [if_pos k2] at ho⊢
   split at ho
   ·simp only [Prod.mk.injEq,true_and] at ho
    subst ho;exact ⟨rfl,rfl⟩
   ·cases ho
  rw [if_neg k2] at ho⊢
  by_cases k5:r.kind=5
  ·rw [if_pos k5] at ho⊢
   split at ho
   ·simp only [Prod.mk.injEq,true_and] at ho
    subst ho;exact ⟨rfl,rfl⟩
   ·cases ho
  rw [if_neg k5] at ho⊢
  have k6:r.kind=6:=by unfold Kin at hk;omega
  rw [if_pos k6]
  split at ho
  ·cases ho
  rw [if_neg (by omega)] at ho
  simp only [Prod.mk.injEq,true_and] at ho
  subst ho;exact ⟨rfl,rfl⟩
theorem runB_eff: ∀(l:List Row) (c d:Box),BoxMay c→(∀r∈l,Kin r)→runB c l=(0,d)→d.msgs=c.msgs.map (fun m=>l.foldl effM m)∧d.words.length=c.words.length+(l.filter fun r=>decide (r.kind=4)).length
 | [],c,d,_,_,h=>by
  rw [runB] at h;cases h
  exact ⟨by simp,by simp⟩
 | r :: l,c,d,hc,hk,h=>by
  rw [runB] at h
  split at h
  ·rename_i q
   have ha:applyB c r=(0,(applyB c r).2):=Prod.ext q rfl
   obtain ⟨h1,h2⟩:=applyB_eff hc (hk r (by simp)) ha
   obtain ⟨h3,h4⟩:=runB_eff l _ d (applyB_may hc ha).1 (fun x hx=>hk x (by simp [hx])) h
   refine ⟨?_, ?_⟩
   ·rw [h3,h1,List.map_map];rfl
   ·rw [h4,h2]
    by_cases k:r.kind=4
    ·rw [if_pos k,List.filter_cons_of_pos (by simpa using k),List.length_cons];omega
    ·rw [if_neg k,List.filter_cons_of_neg (by simpa using k)];omega
  ·rename_i q
   exact absurd (congrArg Prod.fst h) q
theorem fold_keep {α:Type} (g:Msg→α) (u:Int) : ∀(l:List Row) (m:Msg),m.uid=u→(∀r∈l,r.uid=u→∀m:Msg,m.uid=u→g (effM m r) =g m)→g (l.foldl effM m) =g m
 | [],_,_,_=>rfl
 | r :: l,m,hu,h=>by
  rw [List.foldl_cons,fold_keep g u l (effM m r) (by rw [effM_uid,hu]) fun x hx=>h x (by simp [hx])]
  by_cases k:r.uid=u
  ·exact h r (by simp) k m hu
  ·rw [effM_ne (by rw [hu];exact k)]
theorem mem_left {v:Int} {b:Box} {m:Msg} {r:Row} (h:r∈leftR v b m) :(r=flagRow m.uid m.mod m.flags m.keys∧lateB m=true)∨(r=nameRow m.uid m.id∧m.id≠ownB b.id m.uid)∨(r=modRow m.uid m.mod∧v=1∧lateB m=false∧m.mod≠1):=by
 unfold leftR at h
 rcases List.mem_append.1 h with h | h
 ·split at h
  ·exact .inl ⟨List.mem_singleton.1 h,by assumption⟩
  ·cases h
 rcases List.mem_append.1 h with h | h
 ·split at h
  ·cases h
  ·exact .inr (.inl ⟨List.mem_singleton.1 h,by assumption⟩)
 ·split at h
  ·exact .inr (.inr ⟨List.mem_singleton.1 h,by assumption⟩)
  ·cases h
theorem mem_rest {v:Int} {b:Box} {r:Row} (h:r∈restR v b) :r.kind=7∨r.kind=4∨∃m∈b.msgs,r∈leftR v b m:=by
 unfold restR at h
 split at h
 ·cases h
 rcases List.mem_append.1 h with h | h
 ·split at h
  ·rw [List.mem_singleton] at h;subst h;exact .inl rfl
  ·cases h
 rcases List.mem_append.1 h with h | h
 ·obtain ⟨w,_,rfl⟩:=List.mem_map.1 h
  exact .inr (.inl rfl)
 ·obtain ⟨m,hm,h⟩:=List.mem_flatMap.1 h
  exact .inr (.inr ⟨m,hm,h⟩)
theorem rest_kin {v:Int} {b:Box} {r:Row} (h:r∈restR v b) :Kin r:=by
 rcases mem_rest h with h | h | ⟨m,_,h⟩
 ·exact .inr (.inr (.inr (.inr h)))
 ·exact .inr (.inl h)
 ·rcases mem_left h with ⟨rfl,_⟩ | ⟨rfl,_⟩ | ⟨rfl,_⟩
  ·exact .inl rfl
  ·exact .inr (.inr (.inl rfl))
  ·exact .inr (.inr (.inr (.inl rfl)))
theorem leftR_one (v:Int) (b:Box) (m:Msg) (q:Int) :(((leftR v b m).filter fun r=>decide (r.kind=q)).map Row.uid).Sublist [m.uid]:=by
 have k2:(flagRow m.uid m.mod m.flags m.keys).kind=2:=rfl
 have k5:(nameRow m.uid m.id).kind=5:=rfl
 have k6:(modRow m.uid m.mod).kind=6:=rfl
 have u2:(flagRow m.uid m.mod m.flags m.keys).uid=m.uid:=rfl
 have u5:(nameRow m.uid m.id).uid=m.uid:=rfl
 have u6:(modRow m.uid m.mod).uid=m.uid:=rfl
 unfold leftR
 by_cases h2:(2:Int) =q
 ·subst h2
  repeat' split
  all_goals simp [List.filter_cons,k2,k5,k6,u2,u5,u6]
 ·by_cases h5:(5:Int) =q
  ·subst h5
   repeat' split
   all_goals simp [List.filter_cons,k2,k5,k6,u2,u5,u6]
  ·by_cases h6:(6:Int) =q
   ·subst h6
    repeat' split
    all_goals simp [List.filter_cons,k2,k5,k6,u2,u5,u6]
   ·repeat' split
    all_goals simp [List.filter_cons,k2,k5,k6,u2,u5,u6,h2,h5,h6]
theorem lefts_one (v:Int) (b:Box) (q:Int) : ∀l:List Msg,(((l.flatMap (leftR v b)).filter fun r=>decide (r.kind=q)).map Row.uid).Sublist (l.map Msg.uid)
 | []=>by simp
 | m :: l=>by
  rw [List.flatMap_cons,List.filter_append,List.map_append,List.map_cons]
  exact (leftR_one v b m q).append (lefts_one v b q l)
theorem rest_uniq (v:Int) {b:Box} (hb:BoxMay b) {q:Int} (hq:q=2∨q=5∨q=6) :(((restR v b).filter fun r=>decide (r.kind=q)).map Row.uid).Nodup:=by
 have hp:(b.msgs.map Msg.uid).Nodup:=(msgsMay.1 hb.msgs).rise.imp fun h=>by omega
 unfold restR
 split
 ·simp
 rw [List.filter_append,List.filter_append]
 have e1:(if v=1∧b.high≠1 then [highRow b.high] else []).filter (fun r=>decide (r.kind=q)) = []:=by
  split
  ·have:(highRow b.high).kind=7:=rfl
   rw [List.filter_cons_of_neg (by rw [this];simp;omega),List.filter_nil]
  ·rfl
 have e2:((b.words.drop 32).map wordRow).filter (fun r=>decide (r.kind=q)) = []:=by
  rw [List.filter_eq_nil_iff]
  intro r hr
  obtain ⟨w,_,rfl⟩:=List.mem_map.1 hr
  have:(wordRow w).kind=4:=rfl
  rw [this];simp;omega
 rw [e1,e2,List.nil_append,List.nil_append]
 exact hp.sublist (lefts_one v b q b.msgs)
theorem not_others {l:List Row} {k:Nat} (hk:k<l.length) {q:Int} (h:((l.filter fun r=>decide (r.kind=q)).map Row.uid).Nodup) (hq:l[k].kind=q) : ∀r∈l.take k++l.drop (k+1),r.kind=q→r.uid≠l[k].uid:=by
 have e:l=l.take k++l[k] :: l.drop (k+1):=by
  conv=>lhs;rw [←List.take_append_drop k l]
  rw [List.drop_eq_getElem_cons hk]
 have h':(((l.take k++l[k] :: l.drop (k+1)).filter fun r=>decide (r.kind=q)).map Row.uid).Nodup:=by rw [←e];exact h
 rw [List.filter_append,List.filter_cons_of_pos (by simpa using hq),List.map_append,List.map_cons,List.nodup_append] at h'
 obtain ⟨_,h2,h3⟩:=h'
 rw [List.nodup_cons] at h2
 intro r hr hrq he
 rcases List.mem_append.1 hr with hr | hr
 ·exact h3 r.uid (List.mem_map.2 ⟨r,List.mem_filter.2 ⟨hr,by simpa using hrq⟩,rfl⟩) _ (by simp) he
 ·exact h2.1 (List.mem_map.2 ⟨r,List.mem_filter.2 ⟨hr,by simpa using hrq⟩,he⟩)
theorem map_fix {f:Msg→Msg}: ∀{l:List Msg},l=l.map f→∀m∈l,m=f m
 | [],_,m,hm=>by cases hm
 | a :: l,h,m,hm=>by
  rw [List.map_cons,List.cons.injEq] at h
  rcases List.mem_cons.1 hm with rfl | hm
  ·exact h.1
  ·exact map_fix h.2 m hm
theorem uid_inj: ∀{l:List Msg},(l.map Msg.uid).Nodup→∀{a c:Msg},a∈l→c∈l→a.uid=c.uid→a=c
 | [],_,_,_,ha,_,_=>by cases ha
 | x :: l,h,a,c,ha,hc,e=>by
  rw [List.map_cons,List.nodup_cons] at h
  rcases List.mem_cons.1 ha with ha | ha
  ·rcases List.mem_cons.1 hc with hc | hc
   ·rw [ha,hc]
   ·exact absurd (List.mem_map.2 ⟨c,hc,by rw [←e,ha]⟩) h.1
  ·rcases List.mem_cons.1 hc with hc | hc
   ·exact absurd (List.mem_map.2 ⟨a,ha,by rw [e,hc]⟩) h.1
   ·exact uid_inj h.2 ha hc e
theorem rest_need {v:Int} (hv:v=1∨v=2∨v=3) {b:Box} (hb:BoxMay b) {k:Nat} (hk:k<(restR v b).length) (h7:(restR v b)[k].kind≠7) :allB (sayB v b) ((restR v b).take k++(restR v b).drop (k+1))≠(0,b):=by
 intro h
 have hfull:=all_img hv hb
 have hsm:=say_may v hb
 unfold allB at h hfull
 rw [if_pos (boxMay.2 hsm)] at h hfull
 have hsub: ∀r∈(restR v b).take k++(restR v b).drop (k+1),r∈restR v b:=fun r hr=>by
  rcases List.mem_append.1 hr with hr | hr
  ·exact List.mem_of_mem_take hr
  ·exact List.mem_of_mem_drop hr
 obtain ⟨hm,hw⟩:=runB_eff _ _ _ hsm (fun r hr=>rest_kin (hsub r hr)) h
 obtain ⟨_,hw'⟩:=runB_eff _ _ _ hsm (fun r hr=>rest_kin hr) hfull
 rcases mem_rest (List.getElem_mem hk) with h | h | ⟨m,hmm,hl⟩
 ·exact h7 h
 ·have e:restR v b=(restR v b).take k++(restR v b)[k] :: (restR v b).drop (k+1):=by
   conv=>lhs;rw [←List.take_append_drop k (restR v b)]
   rw [List.drop_eq_getElem_cons hk]
  have e2:((restR v b).filter fun r=>decide (r.kind=4)).length=(((restR v b).take k++(restR v b).drop (k+1)).filter fun r=>decide (r.kind=4)).length+1:=by
   have:((restR v b).filter fun r=>decide (r.kind=4)).length=(((restR v b).take k++(restR v b)[k] :: (restR v b).drop (k+1)).filter fun r=>decide (r.kind=4)).length:=congrArg (fun l:List Row=>(l.filter fun r=>decide (r.kind=4)).length) e
   rw [this,List.filter_append,List.filter_append,List.filter_cons_of_pos (by simpa using h)]
   simp only [List.length_append,List.length_cons];omega
  omega
 obtain ⟨f,hf,hsay⟩ : ∃f:Nat,(f=1∧v=1∨f=2∧v=2)∧(sayB v b).msgs=b.msgs.map (projM f b.id):=by
  rcases hv with rfl | rfl | rfl
  ·exact ⟨1, .inl ⟨rfl,rfl⟩,rfl⟩
  ·exact ⟨2, .inr ⟨rfl,rfl⟩,rfl⟩
  ·exact absurd hk (by unfold restR;rw [if_pos rfl];simp)
 rw [hsay,List.map_map] at hm
 have hfix:=map_fix hm m hmm
 simp only [Function.comp_apply] at hfix
 have hM:=msgsMay.1 hb.msgs
 have hnd:(b.msgs.map Msg.uid).Nodup:=hM.rise.imp fun h=>by omega
 have hmay:=(hM.all m hmm).2.1
 have pu:(projM f b.id m).uid=m.uid:=rfl
 rcases mem_left hl with ⟨e,hlate⟩ | ⟨e,hid⟩ | ⟨e,hv1,hlate,hmod⟩
 ·have hno:=not_others hk (rest_uniq v hb (.inl rfl)) (show (restR v b)[k].kind=2 by rw [e];rfl)
  rw [e] at hno
  have:=fold_keep Msg.keys m.uid ((restR v b).take k++(restR v b).drop (k+1)) (projM f b.id m) pu fun r hr hu x hx=>by
   have h2:r.kind≠2:=fun q=>hno r hr q hu
   unfold effM;rw [if_neg h2];repeat' split
   all_goals rfl
  rw [←hfix] at this
  have ek:(projM f b.id m).keys=m.keys.filter fun k=>decide (k<32):=keyBits_eq hmay hb.nw
  exact late_some hmay hlate (by rw [←ek,←this])
 ·have hno:=not_others hk (rest_uniq v hb (.inr (.inl rfl))) (show (restR v b)[k].kind=5 by rw [e];rfl)
  rw [e] at hno
  have:=fold_keep Msg.id m.uid ((restR v b).take k++(restR v b).drop (k+1)) (projM f b.id m) pu fun r hr hu x hx=>by
   have h5:r.kind≠5:=fun q=>hno r hr q hu
   unfold effM flagM;rw [if_neg h5];repeat' split
   all_goals rfl
  rw [←hfix] at this
  exact hid this
 ·have hno:=not_others hk (rest_uniq v hb (.inr (.inr rfl))) (show (restR v b)[k].kind=6 by rw [e];rfl)
  rw [e] at hno
  have:=fold_keep Msg.mod m.uid ((restR v b).take k++(restR v b).drop (k+1)) (projM f b.id m) pu fun r hr hu x hx=>by
   have h6:r.kind≠6:=fun q=>hno r hr q hu
   have h2:r.kind≠2:=fun q=>by
    rcases mem_rest (hsub r hr) with q7 | q4 | ⟨m',hm',hl'⟩
    ·omega
    ·omega
    ·rcases mem_left hl' with ⟨rfl,hlate'⟩ | ⟨rfl,_⟩ | ⟨rfl,_⟩
     ·have:m'=m:=uid_inj hnd hm' hmm hu
      rw [this,hlate] at hlate';cases hlate'
     ·exact absurd (show (5:Int) =2 from q) (by decide)
     ·exact absurd (show (6:Int) =2 from q) (by decide)
   unfold effM;rw [if_neg h2,if_neg h6];repeat' split
   all_goals rfl
  rw [←hfix] at this
  rcases hf with ⟨rfl,_⟩ | ⟨_,q⟩
  ·exact hmod this
  ·omega
end B
end Go.Proofs.YtmkkljbfmdngfaaGreatDoor
namespace Go.Proofs.YtmkkljbfmdngfaaGreatDoor
namespace B
open Go.RowKit
theorem z5 (n:Int) (b:Box) (k:Int) (hb:BoxIn b) :Runs P 5 [.d (iD n), .d b.d, .d (iD k)] [] (.d (.bool true)) []:=by
 refine runs_walkZ zt5 (zvc5 _ _ _ _ _ _ _ _ _ _) rfl (by simp) ?_
 refine ⟨_,r15 b hb.sz,_,fun _=>r16 b hb.ok, ?_⟩
 rintro b10 h10
 refine ⟨fun _=>⟨_,z15,endB rfl⟩,fun h=> ?_⟩
 rw [h] at h10
 have h0:mayBox b=0:=by
  simp only [Bool.or_eq_false_iff,bne_eq_false_iff_eq] at h10
  exact h10.2
 have hM:=boxMay.1 h0
 rintro _ rfl
 refine ⟨by decide, ?_⟩
 rintro _ rfl _ rfl _ rfl
 rw [form_of,show 1+n % 18446744073709551616 % 3=formN n from rfl]
 have hv:=formN_or n
 generalize formN n=v at hv⊢
 have hlv:=restR_len (v:=v) hM
 refine ⟨_,_,_,z16m hv hM, ?_⟩
 rw [nI_map]
 rintro b19 h19
 refine ⟨fun _=> ?_,fun h=> ?_⟩
 ·rintro _ rfl
  refine ⟨true,fun _=>z15, ?_⟩
  rintro _ rfl
  exact endB rfl
 rw [h] at h19
 have hne:0<(restR v b).length:=by
  simp only [Bool.or_eq_false_iff,beq_eq_false_iff_ne] at h19
  have:=h19.2;simp only [nI] at this;omega
 have e64:Go.IntKind.wrap .u64 (nI (restR v b).length) =((restR v b).length:Int):=by simp only [nI];rw [WU64];omega
 rw [e64]
 rintro _ rfl _ rfl
 refine ⟨by omega, ?_⟩
 obtain ⟨i,hi,hil⟩ : ∃i:Nat,(Go.IntKind.wrap .u64 k).tmod ((restR v b).length:Int) =(i:Int)∧i<(restR v b).length:=by
  rw [WU64,Int.tmod_eq_emod_of_nonneg (by omega)]
  have h1:=Int.emod_nonneg (k % 18446744073709551616) (show ((restR v b).length:Int)≠0 by omega)
  have h2:=Int.emod_lt_of_pos (k % 18446744073709551616) (show (0:Int) <((restR v b).length:Int) by omega)
  exact ⟨(k % 18446744073709551616 % ((restR v b).length:Int)).toNat,by omega,by omega⟩
 rw [hi]
 rintro _ rfl
 rw [W64 (by omega) (by omega)]
 rintro _ rfl
 refine ⟨⟨by simp only [nI];omega,by simp only [nI];omega,by simp only [nI];omega⟩, ?_⟩
 have e27:List.drop (Int.toNat (nI 0)) (List.take (Int.toNat (i:Int)) ((restR v b).map Row.d)) =((restR v b).take i).map Row.d:=by simp [nI,List.map_take]
 have e29:List.drop (Int.toNat ((i:Int) +1)) (List.take (Int.toNat (nI (restR v b).length)) ((restR v b).map Row.d)) =((restR v b).drop (i+1)).map Row.d:=by
  have:Int.toNat ((i:Int) +1) =i+1:=by omega
  rw [this,List.take_of_length_le (by simp [nI]),List.map_drop]
 rw [e27,W64 (by omega) (by omega)]
 rintro _ rfl
 refine ⟨by simp only [List.length_map,List.length_take];omega, ?_⟩
 rintro _ rfl
 refine ⟨⟨by omega,by simp only [nI];omega,Int.le_refl _⟩, ?_⟩
 rw [e29]
 rintro _ rfl
 refine ⟨by simp only [List.length_map,List.length_take,List.length_drop];omega, ?_⟩
 rw [←List.map_append]
 have hsub: ∀r∈(restR v b).take i++(restR v b).drop (i+1),r∈restR v b:=fun r hr=>by
  rcases List.mem_append.1 hr with hr | hr
  ·exact List.mem_of_mem_take hr
  ·exact List.mem_of_mem_drop hr
 have h17:=z17m hv hM ((restR v b).take i++(restR v b).drop (i+1)) (by simp only [List.length_append,List.length_take,List.length_drop];omega) (fun r hr=>restR_ok v hM r (hsub r hr))
 have hneed:=rest_need hv hM hil
 have hok:=allB_ok (b:=sayB v b) (l:=(restR v b).take i++(restR v b).drop (i+1))
 generalize allB (sayB v b) ((restR v b).take i++(restR v b).drop (i+1)) =x at h17 hneed hok
 obtain ⟨e,c⟩:=x
 simp only at h17 hneed hok
 refine ⟨_,_,_,_,_,_,_,h17,⟨by omega,by simp only [nI];omega⟩,_,_,_,_,_,_,_,_,_,_,_,by rw [rows_get _ hil];rfl, ?_⟩
 rintro b48 h48
 refine ⟨fun _=>⟨_,z15,endB rfl⟩,fun q=> ?_⟩
 rw [q] at h48
 refine ⟨_,fun _=>r20 c b hok, ?_⟩
 rintro b51 h51
 have e51:b51=true:=by
  rw [←h51]
  by_cases he:e=0
  ·subst he
   have h7:(restR v b)[i].kind≠7:=fun q7=>by rw [q7] at h48;simp at h48
   have hcb:sameB c b=false:=by
    cases hs:sameB c b with
    | false=>rfl
    | true=>exact absurd (by rw [sameB_iff.1 hs]) (hneed h7)
   rw [hcb];rfl
  ·simp [he]
 subst e51
 refine ⟨true,fun _=>z15, ?_⟩
 rintro _ rfl
 exact endB rfl
end B
end Go.Proofs.YtmkkljbfmdngfaaGreatDoor
