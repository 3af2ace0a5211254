/- What a form can't say of a box, as rows; these done to what it says. Plain law. No condition. -/
import Derived.Test.YtmkkljbfmdngfaaGreatDoorSA
import Derived.Test.YtmkkljbfmdngfaaGreatDoorGF
import Derived.Test.YtmkkljbfmdngfaaGreatDoorRt
import Derived.Test.YtmkkljbfmdngfaaGreatDoorQC
set_option linter.all false
namespace Go.Proofs.YtmkkljbfmdngfaaGreatDoor
namespace B
open Go.RowKit
def nameRow (u:Int) (s:Bytes) :Row:=⟨5,u,0,noMsg,s⟩
def modRow (u m:Int) :Row:=⟨6,u,m,noMsg,[]⟩
def highRow (m:Int) :Row:=⟨7,0,m,noMsg,[]⟩
def lateB (m:Msg) :Bool:=match m.keys.getLast? with
 | some k=>decide (32≤k)
 | none=>false
def leftR (v:Int) (b:Box) (m:Msg) :List Row:=
 (if lateB m=true then [flagRow m.uid m.mod m.flags m.keys] else []) ++((if m.id=ownB b.id m.uid then [] else [nameRow m.uid m.id]) ++(if v=1∧lateB m=false∧m.mod≠1 then [modRow m.uid m.mod] else []))
def restR (v:Int) (b:Box) :List Row:=if v=3 then [] else (if v=1∧b.high≠1 then [highRow b.high] else []) ++((b.words.drop 32).map wordRow++b.msgs.flatMap (leftR v b))
theorem leftR_len (v:Int) (b:Box) (m:Msg) :(leftR v b m).length≤2:=by
 unfold leftR
 simp only [List.length_append]
 cases h:lateB m
 ·simp only [Bool.false_eq_true,if_false,List.length_nil]
  split<;>split<;>simp
 ·rw [if_neg (show ¬(v=1∧true=false∧m.mod≠1) from fun q=>by simp at q),if_pos rfl]
  split<;>simp
theorem lefts_len (v:Int) (b:Box) : ∀l:List Msg,(l.flatMap (leftR v b)).length≤2*l.length
 | []=>by simp
 | m :: r=>by
  have h1:=leftR_len v b m
  have h2:=lefts_len v b r
  rw [List.flatMap_cons,List.length_append,List.length_cons];omega
theorem restR_len {v:Int} {b:Box} (hb:BoxMay b) :(restR v b).length≤153:=by
 have h1:=lefts_len v b b.msgs
 have h2:=hb.nm
 have h3:=hb.nw
 unfold restR
 split
 ·simp
 ·have h4:(if v=1∧b.high≠1 then [highRow b.high] else []).length≤1:=by split<;>simp
  rw [List.length_append,List.length_append,List.length_map,List.length_drop]
  omega
theorem keyBits_eq {nw:Nat} {m:Msg} (h:MsgMay nw m) (hn:nw≤64) :keyBits (maskN m.keys) 32=m.keys.filter fun k=>decide (k<32):=by
 have hk:=h.key0
 have rise:=(keysB_iff.1 h.keys).1
 have hp:(keyBits (maskN m.keys) 32).Pairwise (· < ·):=(keysB_iff (n:=4294967296)).1 (keysB_bits fun j hj _=>by omega) |>.1
 refine rise_eq hp (rise.sublist List.filter_sublist) fun x=> ?_
 rw [keyBits_mem,List.mem_filter]
 constructor
 ·rintro ⟨j,rfl,h1,h2⟩
  have:=(mask_bit m.keys (fun k hk'=>(hk k hk').1) j).1 h2
  exact ⟨this.2,by simp;omega⟩
 ·rintro ⟨h1,h2⟩
  have h2:=of_decide_eq_true h2
  have h3:=hk x h1
  refine ⟨x.toNat,by omega,by omega,(mask_bit m.keys (fun k hk'=>(hk k hk').1) _).2 ⟨by omega, ?_⟩⟩
  rwa [show ((x.toNat:Nat) :Int) =x by omega]
theorem take_set {l:List Msg} {i:Nat} (hi:i<l.length) (f:Msg→Msg) :(l.take i++(l.drop i).map f).set i l[i]=l.take (i+1) ++(l.drop (i+1)).map f:=by
 rw [List.set_append_right _ _ (by rw [List.length_take];omega),show i-(l.take i).length=0 by rw [List.length_take];omega,List.take_succ_eq_append_getElem hi,drop_cons hi,List.map_cons,List.set_cons_zero,List.append_assoc]
 rfl
end B
end Go.Proofs.YtmkkljbfmdngfaaGreatDoor
namespace Go.Proofs.YtmkkljbfmdngfaaGreatDoor
namespace B
open Go.RowKit
def keys3:Int→List Int→Bytes
 | _,[]=>[]
 | was,k :: r=>numB (k-was) ++keys3 k r
def msg3 (last:Int) (m:Msg) :Bytes:=numB (m.uid-last) ++(numB m.mod++(numB m.date++(numB m.flags++(numB m.keys.length++(keys3 (-1) m.keys++(txtB m.id++txtB m.text))))))
def msgs3:Int→List Msg→Bytes
 | _,[]=>[]
 | last,m :: r=>msg3 last m++msgs3 m.uid r
def body3 (b:Box) :Bytes:=numB b.valid++(numB b.next++(numB b.high++(txtB b.id++(numB b.words.length++(b.words.flatMap txtB++(numB b.msgs.length++msgs3 0 b.msgs))))))
def form3B (b:Box) :Bytes:=[77,66,51]++body3 b
def keysP3:Nat→Int→Rd (List Int)
 | 0,_=>Rd.pure []
 | n+1,was=>(numM Mx).bind fun d=>(keysP3 n (was+d)).bind fun l=>Rd.pure ((was+d) :: l)
def msgP3 (last:Int) :Rd Msg:=(numM Mx).bind fun u=>(numM Mx).bind fun m=>(numM Mx).bind fun d=>(numM Mx).bind fun f=>(numM 64).bind fun n=>(keysP3 n.toNat (-1)).bind fun k=>(textP 24).bind fun i=>(textP 300).bind fun t=>Rd.pure ⟨last+u,m,d,i,f,k,t⟩
def textsP3:Nat→Rd (List Bytes)
 | 0=>Rd.pure []
 | n+1=>(textP 24).bind fun w=>(textsP3 n).bind fun l=>Rd.pure (w :: l)
def msgsP3:Nat→Int→Rd (List Msg)
 | 0,_=>Rd.pure []
 | n+1,last=>(msgP3 last).bind fun m=>(msgsP3 n m.uid).bind fun l=>Rd.pure (m :: l)
def boxP3:Rd Box:=(numM Mx).bind fun v=>(numM Mx).bind fun n=>(numM Mx).bind fun h=>(textP 24).bind fun i=>(numM 64).bind fun w=>(textsP3 w.toNat).bind fun ws=>(numM 60).bind fun k=>(msgsP3 k.toNat 0).bind fun ms=>Rd.pure ⟨i,v,n,h,ws,ms⟩
def parse3 (s id:Bytes) :Except Int Box:=if preB s [77,66,51]=true then (match boxP3 (s.drop 3) with
 | .error e=> .error e
 | .ok (b,r)=>if r= []∧b.id=id∧mayBox b=0 then .ok b else .error 3) else .error 3
theorem keys3_rds: ∀(l:List Int) (was:Int),l.Pairwise (· < ·)→(∀k∈l,was<k∧k<1000000)→ -1≤was→Rds (keysP3 l.length was) (keys3 was l) l
 | [],_,_,_,_=>Rds.pure _
 | k :: r,was,hp,hk,hw=>by
  obtain ⟨h1,h2⟩:=hk k (by simp)
  rw [List.pairwise_cons] at hp
  have ih:=keys3_rds r k hp.2 (fun x hx=>⟨hp.1 x hx,(hk x (by simp [hx])).2⟩) (by omega)
  rw [keys3]
  refine Rds.bind (num_rds Mx (k-was) (by omega) (by show _≤(1000000:Int);omega) (by decide)) ?_
  have e:was+(k-was) =k:=by omega
  rw [e]
  exact ih.end fun l=>k :: l
theorem texts3_rds: ∀l:List Bytes,(∀w∈l,w.length≤24)→Rds (textsP3 l.length) (l.flatMap txtB) l
 | [],_=>Rds.pure _
 | w :: r,h=>by
  rw [List.flatMap_cons]
  exact Rds.bind (text_rds 24 w (by have:=h w (by simp);omega) (by decide)) ((texts3_rds r fun x hx=>h x (by simp [hx])).end fun l=>w :: l)
theorem msg3_rds {nw:Nat} {m:Msg} (hm:MsgMay nw m) (hn:nw≤64) {last:Int} (h0:0≤last) (hl:last<m.uid) :Rds (msgP3 last) (msg3 last m) m:=by
 have h1:=hm.uid;have h2:=hm.mod;have h3:=hm.date;have h4:=(atom_len hm.id).2;have h5:=hm.flags;have h6:=hm.text
 have hk:=hm.keyLen
 have hk0:=keysB_iff.1 hm.keys
 have M:(Mx:Int)≤1099511627776:=by decide
 unfold msgP3 msg3
 refine Rds.bind (num_rds Mx (m.uid-last) (by omega) (by show _≤(1000000:Int);omega) M) (Rds.bind (num_rds Mx m.mod (by omega) (by show _≤(1000000:Int);omega) M) (Rds.bind (num_rds Mx m.date (by omega) (by show _≤(1000000:Int);omega) M)
  (Rds.bind (num_rds Mx m.flags (by omega) (by show _≤(1000000:Int);omega) M) (Rds.bind (num_rds 64 m.keys.length (by omega) (by omega) (by decide)) ?_))))
 rw [Int.toNat_natCast]
 refine Rds.bind (keys3_rds m.keys (-1) hk0.1 (fun k hk=>by have:=hk0.2 k hk;omega) (by decide)) (Rds.bind (text_rds 24 m.id (by omega) (by decide)) ?_)
 have e:last+(m.uid-last) =m.uid:=by omega
 rw [e]
 exact (text_rds 300 m.text (by omega) (by decide)).end fun t=>(⟨m.uid,m.mod,m.date,m.id,m.flags,m.keys,t⟩ :Msg)
theorem msgs3_rds {nw:Nat} (hn:nw≤64) {next high:Int}: ∀(l:List Msg) (last:Int),0≤last→msgsB nw next high last l=true→Rds (msgsP3 l.length last) (msgs3 last l) l
 | [],_,_,_=>Rds.pure _
 | m :: r,last,h0,h=>by
  simp only [msgsB,Bool.and_eq_true,decide_eq_true_eq] at h
  obtain ⟨h1,h2,_,_,h5⟩:=h
  rw [msgs3]
  exact Rds.bind (msg3_rds (msgMay.1 h1) hn h0 h2) ((msgs3_rds hn r m.uid (by omega) h5).end fun l=>m :: l)
theorem box3_rds {b:Box} (h:BoxMay b) :Rds boxP3 (body3 b) b:=by
 have h1:=h.valid;have h2:=h.next;have h3:=h.high;have h4:=h.id.2;have h5:=h.nw;have h6:=h.nm
 have M:(Mx:Int)≤1099511627776:=by decide
 unfold boxP3 body3
 refine Rds.bind (num_rds Mx b.valid (by omega) (by show _≤(1000000:Int);omega) M) (Rds.bind (num_rds Mx b.next (by omega) (by show _≤(1000000:Int);omega) M) (Rds.bind (num_rds Mx b.high (by omega) (by show _≤(1000000:Int);omega) M)
  (Rds.bind (text_rds 24 b.id (by omega) (by decide)) (Rds.bind (num_rds 64 b.words.length (by omega) (by omega) (by decide)) ?_))))
 rw [Int.toNat_natCast]
 refine Rds.bind (texts3_rds b.words fun w hw=> ?_) (Rds.bind (num_rds 60 b.msgs.length (by omega) (by omega) (by decide)) ?_)
 ·have:=((wordsB_iff.1 h.words).1 w hw).1
  exact (atom_len this).2
 rw [Int.toNat_natCast]
 exact (msgs3_rds h5 b.msgs 0 (by decide) h.msgs).end fun l=>(⟨b.id,b.valid,b.next,b.high,b.words,l⟩ :Box)
theorem parse_form3 {b:Box} (h:BoxMay b) :parse3 (form3B b) b.id= .ok b:=by
 have e:=box3_rds h []
 rw [List.append_nil] at e
 unfold parse3 form3B
 rw [if_pos (pre_app _ _),List.drop_left' (by rfl),e]
 dsimp only
 rw [if_pos ⟨rfl,rfl,boxMay.2 h⟩]
end B
end Go.Proofs.YtmkkljbfmdngfaaGreatDoor
namespace Go.Proofs.YtmkkljbfmdngfaaGreatDoor
namespace B
def HZ4:Hint:=⟨fun f r=>if r==1000000 then (if f==58 then [12,27] else if f==108 then [30] else if f==107 then [38] else if f==73 then [6,27] else if f==40 then [66] else []) else if r==1000001 then (if f==40 then [3000070,3000081] else if f==999999 then [4000032] else if f==999999 then [4000061] else if f==23 then [28,79] else if f==32 then [28] else if f==74 then [2000117] else if f==139 then [2000172] else if f==33 then [7000003] else []) else if f==141 then (if r==6 then [3,1000,1100,1010075,1030400] else []) else if f==11 then (if r==5 then [10,99999] else if r==8 then [12,99999] else []) else if f==107 then (if r==10 then [1000,1080074,1140075] else []) else if f==146 then (if r==2 then [7,1100075,1120075] else []) else if f==999999 then (if r==13 then [23,9,1010140,1030075] else if r==37||r==44 then [6] else []) else if f==168||f==171||f==133||f==137 then [1100] else if f==999999||f==999999 then (if r==6 then [9,99999] else if r==7 then [11,99999] else []) else [],fun f=>if f==999999||f==999999||f==999999||f==129||f==134 then some 0 else none⟩
set_option maxRecDepth 100000
theorem zt46:okF P HZ4 46 2=true:=by kernel_rfl
theorem zt47:okF P HZ4 47 0=true:=by kernel_rfl
theorem zt52:okF P HZ4 52 2=true:=by kernel_rfl
theorem zt92:okF P HZ4 92 3=true:=by kernel_rfl
theorem zt97:okF P HZ4 97 1=true:=by kernel_rfl
theorem zt128:okF P HZ4 128 1=true:=by kernel_rfl
theorem zt138:okF P HZ4 138 2=true:=by kernel_rfl
theorem zt140:okF P HZ4 140 3=true:=by kernel_rfl
theorem zt173:okF P HZ4 173 2=true:=by kernel_rfl
theorem zvc47 (res:CV) (objs':List (Nat×List CV)) :walkA P (tbF P [118,148,112,163,1000101,7000102,107500054,1072002147,75,117,139,172,2000035093,2000020094] [] 47) (anOf (afOf P HZ4 47) []) (afOf P HZ4 47) [] [] (fun rs=>endE rs res objs') =(EndR (CV.own (3:Nat) [D.agg [D.str [(77:UInt8),(66:UInt8),(49:UInt8)],D.fn (Option.some (93:Nat)),D.fn (Option.some (94:Nat))],D.agg [D.str [(77:UInt8),(66:UInt8),(50:UInt8)],D.fn (Option.some (95:Nat)),D.fn (Option.some (96:Nat))],D.agg [D.str [(77:UInt8),(66:UInt8),(51:UInt8)],D.fn (Option.some (97:Nat)),D.fn (Option.some (98:Nat))]]) res [] objs'):=by kernel_rfl
theorem zvc52 (s0:Bytes) (s1:Bytes) (res:CV) (objs':List (Nat×List CV)) :walkA P (tbF P [118,148,112,163,1000101,7000102,107500054,1072002147,75,117,139,172,2000035093,2000020094] [] 52) (anOf (afOf P HZ4 52) []) (afOf P HZ4 52) [CV.d (D.str s0),CV.d (D.str s1)] [] (fun rs=>endE rs res objs') =((∃b2:Bool,((Runs P 100 [CV.d (D.str s0),CV.d (D.str s1)] [] (CV.d (D.bool b2)) [])∧EndR (CV.d (D.bool b2)) res [] objs'))):=by kernel_rfl
theorem zvc128 (n0:Int) (n1:Int) (n2:Int) (s3:Bytes) (n4:Int) (l5:List D) (s6:Bytes) (res:CV) (objs':List (Nat×List CV)) :walkA P (tbF P [118,148,112,163,1000101,7000102,107500054,1072002147,75,117,139,172,2000035093,2000020094] [] 128) (anOf (afOf P HZ4 128) []) (afOf P HZ4 128) [CV.d (D.agg [D.int .i64 n0,D.int .i64 n1,D.int .i64 n2,D.str s3,D.int .i64 n4,D.slice 1 l5,D.str s6])] [] (fun rs=>endE rs res objs') =((∀n7:Int,(Go.IntKind.wrap Go.IntKind.i64 (nI (List.length l5) - 1) =n7→((decide (nI (List.length l5) >0) =true→0≤n7∧n7<nI (List.length l5))∧(∃n8:Int,((decide (nI (List.length l5) >0) =true→D.cells (List.getD l5 (Int.toNat n7) D.nilp) = [D.int .i64 n8])∧(∀b9:Bool,((decide (nI (List.length l5) >0) &&decide (n8≥32)) =b9→EndR (CV.d (D.bool b9)) res [(1,[CV.d (D.int .i64 n0),CV.d (D.int .i64 n1),CV.d (D.int .i64 n2),CV.d (D.str s3),CV.d (D.int .i64 n4),CV.d (D.slice 1 l5),CV.d (D.str s6)])] objs')))))))):=by kernel_rfl
theorem zvc92 (n0:Int) (s1:Bytes) (n2:Int) (n3:Int) (n4:Int) (l5:List D) (l6:List D) (n7:Int) (n8:Int) (n9:Int) (s10:Bytes) (n11:Int) (l12:List D) (s13:Bytes) (res:CV) (objs':List (Nat×List CV)) :walkA P (tbF P [118,148,112,163,1000101,7000102,107500054,1072002147,75,117,139,172,2000035093,2000020094] [] 92) (anOf (afOf P HZ4 92) []) (afOf P HZ4 92) [CV.d (D.int .i64 n0),CV.d (D.agg [D.str s1,D.int .i64 n2,D.int .i64 n3,D.int .i64 n4,D.slice 1 l5,D.slice 7 l6]),CV.d (D.agg [D.int .i64 n7,D.int .i64 n8,D.int .i64 n9,D.str s10,D.int .i64 n11,D.slice 1 l12,D.str s13])] [] (fun rs=>endE rs res objs') =((∃b14:Bool,((Runs P 128 [CV.d (D.agg [D.int .i64 n7,D.int .i64 n8,D.int .i64 n9,D.str s10,D.int .i64 n11,D.slice 1 l12,D.str s13])] [] (CV.d (D.bool b14)) [])∧(((b14) =true→(∃l15:List D,((Runs P 85 [CV.d (D.slice 1 l12)] [] (CV.d (D.slice 1 l15)) [])∧(((0+List.length [D.agg [D.int .i64 2,D.int .i64 n7,D.int .i64 n8,D.int .i64 0,D.int .i64 0,D.int .i64 0,D.str [],D.int .i64 n11,D.slice 1 l15,D.str [],D.str []]]) *128≤140737488355328)∧(∃s16:Bytes,((Runs P 57 [CV.d (D.str s1),CV.d (D.int .i64 n7)] [] (CV.d (D.str s16)) [])∧(((!s10==s16) =true→(((List.length [D.agg [D.int .i64 2,D.int .i64 n7,D.int .i64 n8,D.int .i64 0,D.int .i64 0,D.int .i64 0,D.str [],D.int .i64 n11,D.slice 1 l15,D.str [],D.str []]]+List.length [D.agg [D.int .i64 5,D.int .i64 n7,D.int .i64 0,D.int .i64 0,D.int .i64 0,D.int .i64 0,D.str [],D.int .i64 0,D.slice 1 [],D.str [],D.str s10]]) *128≤140737488355328)∧(∃b17:Bool,(((n0==1) =true→Runs P 128 [CV.d (D.agg [D.int .i64 n7,D.int .i64 n8,D.int .i64 n9,D.str s10,D.int .i64 n11,D.slice 1 l12,D.str s13])] [] (CV.d (D.bool b17)) [])∧(∀b18:Bool,((n0==1&& !b17) =b18→(∀b19:Bool,((b18&&n8 !=1) =b19→(((b19) =true→(((List.length [D.agg [D.int .i64 2,D.int .i64 n7,D.int .i64 n8,D.int .i64 0,D.int .i64 0,D.int .i64 0,D.str [],D.int .i64 n11,D.slice 1 l15,D.str [],D.str []],D.agg [D.int .i64 5,D.int .i64 n7,D.int .i64 0,D.int .i64 0,D.int .i64 0,D.int .i64 0,D.str [],D.int .i64 0,D.slice 1 [],D.str [],D.str s10]]+List.length [D.agg [D.int .i64 6,D.int .i64 n7,D.int .i64 n8,D.int .i64 0,D.int .i64 0,D.int .i64 0,D.str [],D.int .i64 0,D.slice 1 [],D.str [],D.str []]]) *128≤140737488355328)∧EndR (CV.own 11 [D.agg [D.int .i64 2,D.int .i64 n7,D.int .i64 n8,D.int .i64 0,D.int .i64 0,D.int .i64 0,D.str [],D.int .i64 n11,D.slice 1 l15,D.str [],D.str []],D.agg [D.int .i64 5,D.int .i64 n7,D.int .i64 0,D.int .i64 0,D.int .i64 0,D.int .i64 0,D.str [],D.int .i64 0,D.slice 1 [],D.str [],D.str s10],D.agg [D.int .i64 6,D.int .i64 n7,D.int .i64 n8,D.int .i64 0,D.int .i64 0,D.int .i64 0,D.str [],D.int .i64 0,D.slice 1 [],D.str [],D.str []]]) res [(4,[CV.d (D.str s1),CV.d (D.int .i64 n2),CV.d (D.int .i64 n3),CV.d (D.int .i64 n4),CV.d (D.slice 1 l5),CV.d (D.slice 7 l6)]),(5,[CV.d (D.int .i64 n7),CV.d (D.int .i64 n8),CV.d (D.int .i64 n9),CV.d (D.str s10),CV.d (D.int .i64 n11),CV.d (D.slice 1 l12),CV.d (D.str s13)])] objs'))∧((b19) =false→EndR (CV.own 11 [D.agg [D.int .i64 2,D.int .i64 n7,D.int .i64 n8,D.int .i64 0,D.int .i64 0,D.int .i64 0,D.str [],D.int .i64 n11,D.slice 1 l15,D.str [],D.str []],D.agg [D.int .i64 5,D.int .i64 n7,D.int .i64 0,D.int .i64 0,D.int .i64 0,D.int .i64 0,D.str [],D.int .i64 0,D.slice 1 [],D.str [],D.str s10]]) res [(4,[CV.d (D.str s1),CV.d (D.int .i64 n2),CV.d (D.int .i64 n3),CV.d (D.int .i64 n4),CV.d (D.slice 1 l5),CV.d (D.slice 7 l6)]),(5,[CV.d (D.int .i64 n7),CV.d (D.int .i64 n8),CV.d (D.int .i64 n9),CV.d (D.str s10),CV.d (D.int .i64 n11),CV.d (D.slice 1 l12),CV.d (D.str s13)])] objs'))))))))))∧((!s10==s16) =false→(∃b20:Bool,(((n0==1) =true→Runs P 128 [CV.d (D.agg [D.int .i64 n7,D.int .i64 n8,D.int .i64 n9,D.str s10,D.int .i64 n11,D.slice 1 l12,D.str s13])] [] (CV.d (D.bool b20)) [])∧(∀b21:Bool,((n0==1&& !b20) =b21→(∀b22:Bool,((b21&&n8 !=1) =b22→(((b22) =true→(((List.length [D.agg [D.int .i64 2,D.int .i64 n7,D.int .i64 n8,D.int .i64 0,D.int .i64 0,D.int .i64 0,D.str [],D.int .i64 n11,D.slice 1 l15,D.str [],D.str []]]+List.length [D.agg [D.int .i64 6,D.int .i64 n7,D.int .i64 n8,D.int .i64 0,D.int .i64 0,D.int .i64 0,D.str [],D.int .i64 0,D.slice 1 [],D.str [],D.str []]]) *128≤140737488355328)∧EndR (CV.own 11 [D.agg [D.int .i64 2,D.int .i64 n7,D.int .i64 n8,D.int .i64 0,D.int .i64 0,D.int .i64 0,D.str [],D.int .i64 n11,D.slice 1 l15,D.str [],D.str []],D.agg [D.int .i64 6,D.int .i64 n7,D.int .i64 n8,D.int .i64 0,D.int .i64 0,D.int .i64 0,D.str [],D.int .i64 0,D.slice 1 [],D.str [],D.str []]]) res [(4,[CV.d (D.str s1),CV.d (D.int .i64 n2),CV.d (D.int .i64 n3),CV.d (D.int .i64 n4),CV.d (D.slice 1 l5),CV.d (D.slice 7 l6)]),(5,[CV.d (D.int .i64 n7),CV.d (D.int .i64 n8),CV.d (D.int .i64 n9),CV.d (D.str s10),CV.d (D.int .i64 n11),CV.d (D.slice 1 l12),CV.d (D.str s13)])] objs'))∧((b22) =false→EndR (CV.own 11 [D.agg [D.int .i64 2,D.int .i64 n7,D.int .i64 n8,D.int .i64 0,D.int .i64 0,D.int .i64 0,D.str [],D.int .i64 n11,D.slice 1 l15,D.str [],D.str []]]) res [(4,[CV.d (D.str s1),CV.d (D.int .i64 n2),CV.d (D.int .i64 n3),CV.d (D.int .i64 n4),CV.d (D.slice 1 l5),CV.d (D.slice 7 l6)]),(5,[CV.d (D.int .i64 n7),CV.d (D.int .i64 n8),CV.d (D.int .i64 n9),CV.d (D.str s10),CV.d (D.int .i64 n11),CV.d (D.slice 1 l12),CV.d (D.str s13)])] objs'))))))))))))))))∧((b14) =false→(∃s23:Bytes,((Runs P 57 [CV.d (D.str s1),CV.d (D.int .i64 n7)] [] (CV.d (D.str s23)) [])∧(((!s10==s23) =true→(((0+List.length [D.agg [D.int .i64 5,D.int .i64 n7,D.int .i64 0,D.int .i64 0,D.int .i64 0,D.int .i64 0,D.str [],D.int .i64 0,D.slice 1 [],D.str [],D.str s10]]) *128≤140737488355328)∧(∃b24:Bool,(((n0==1) =true→Runs P 128 [CV.d (D.agg [D.int .i64 n7,D.int .i64 n8,D.int .i64 n9,D.str s10,D.int .i64 n11,D.slice 1 l12,D.str s13])] [] (CV.d (D.bool b24)) [])∧(∀b25:Bool,((n0==1&& !b24) =b25→(∀b26:Bool,((b25&&n8 !=1) =b26→(((b26) =true→(((List.length [D.agg [D.int .i64 5,D.int .i64 n7,D.int .i64 0,D.int .i64 0,D.int .i64 0,D.int .i64 0,D.str [],D.int .i64 0,D.slice 1 [],D.str [],D.str s10]]+List.length [D.agg [D.int .i64 6,D.int .i64 n7,D.int .i64 n8,D.int .i64 0,D.int .i64 0,D.int .i64 0,D.str [],D.int .i64 0,D.slice 1 [],D.str [],D.str []]]) *128≤140737488355328)∧EndR (CV.own 11 [D.agg [D.int .i64 5,D.int .i64 n7,D.int .i64 0,D.int .i64 0,D.int .i64 0,D.int .i64 0,D.str [],D.int .i64 0,D.slice 1 [],D.str [],D.str s10],D.agg [D.int .i64 6,D.int .i64 n7,D.int .i64 n8,D.int .i64 0,D.int .i64 0,D.int .i64 0,D.str [],D.int .i64 0,D.slice 1 [],D.str [],D.str []]]) res [(4,[CV.d (D.str s1),CV.d (D.int .i64 n2),CV.d (D.int .i64 n3),CV.d (D.int .i64 n4),CV.d (D.slice 1 l5),CV.d (D.slice 7 l6)]),(5,[CV.d (D.int .i64 n7),CV.d (D.int .i64 n8),CV.d (D.int .i64 n9),CV.d (D.str s10),CV.d (D.int .i64 n11),CV.d (D.slice 1 l12),CV.d (D.str s13)])] objs'))∧((b26) =false→EndR (CV.own 11 [D.agg [D.int .i64 5,D.int .i64 n7,D.int .i64 0,D.int .i64 0,D.int .i64 0,D.int .i64 0,D.str [],D.int .i64 0,D.slice 1 [],D.str [],D.str s10]]) res [(4,[CV.d (D.str s1),CV.d (D.int .i64 n2),CV.d (D.int .i64 n3),CV.d (D.int .i64 n4),CV.d (D.slice 1 l5),CV.d (D.slice 7 l6)]),(5,[CV.d (D.int .i64 n7),CV.d (D.int .i64 n8),CV.d (D.int .i64 n9),CV.d (D.str s10),CV.d (D.int .i64 n11),CV.d (D.slice 1 l12),CV.d (D.str s13)])] objs'))))))))))∧((!s10==s23) =false→(∃b27:Bool,(((n0==1) =true→Runs P 128 [CV.d (D.agg [D.int .i64 n7,D.int .i64 n8,D.int .i64 n9,D.str s10,D.int .i64 n11,D.slice 1 l12,D.str s13])] [] (CV.d (D.bool b27)) [])∧(∀b28:Bool,((n0==1&& !b27) =b28→(∀b29:Bool,((b28&&n8 !=1) =b29→(((b29) =true→(((0+List.length [D.agg [D.int .i64 6,D.int .i64 n7,D.int .i64 n8,D.int .i64 0,D.int .i64 0,D.int .i64 0,D.str [],D.int .i64 0,D.slice 1 [],D.str [],D.str []]]) *128≤140737488355328)∧EndR (CV.own 11 [D.agg [D.int .i64 6,D.int .i64 n7,D.int .i64 n8,D.int .i64 0,D.int .i64 0,D.int .i64 0,D.str [],D.int .i64 0,D.slice 1 [],D.str [],D.str []]]) res [(4,[CV.d (D.str s1),CV.d (D.int .i64 n2),CV.d (D.int .i64 n3),CV.d (D.int .i64 n4),CV.d (D.slice 1 l5),CV.d (D.slice 7 l6)]),(5,[CV.d (D.int .i64 n7),CV.d (D.int .i64 n8),CV.d (D.int .i64 n9),CV.d (D.str s10),CV.d (D.int .i64 n11),CV.d (D.slice 1 l12),CV.d (D.str s13)])] objs'))∧((b29) =false→EndR (CV.own (11:Nat) []) res [(4,[CV.d (D.str s1),CV.d (D.int .i64 n2),CV.d (D.int .i64 n3),CV.d (D.int .i64 n4),CV.d (D.slice 1 l5),CV.d (D.slice 7 l6)]),(5,[CV.d (D.int .i64 n7),CV.d (D.int .i64 n8),CV.d (D.int .i64 n9),CV.d (D.str s10),CV.d (D.int .i64 n11),CV.d (D.slice 1 l12),CV.d (D.str s13)])] objs'))))))))))))))))):=by kernel_rfl
theorem zvc46 (n0:Int) (s1:Bytes) (n2:Int) (n3:Int) (n4:Int) (l5:List D) (l6:List D) (res:CV) (objs':List (Nat×List CV)) :walkA P (tbF P [118,148,112,163,1000101,7000102,107500054,1072002147,75,117,139,172,2000035093,2000020094] [] 46) (anOf (afOf P HZ4 46) []) (afOf P HZ4 46) [CV.d (D.int .i64 n0),CV.d (D.agg [D.str s1,D.int .i64 n2,D.int .i64 n3,D.int .i64 n4,D.slice 1 l5,D.slice 7 l6])] [] (fun rs=>endE rs res objs') =((∀b7:Bool,((n0==1&&n4 !=1) =b7→(((b7) =true→(((0+List.length [D.agg [D.int .i64 7,D.int .i64 0,D.int .i64 n4,D.int .i64 0,D.int .i64 0,D.int .i64 0,D.str [],D.int .i64 0,D.slice 1 [],D.str [],D.str []]]) *128≤140737488355328)∧(((n0==3) =true→EndR (CV.own (11:Nat) []) res [(3,[CV.d (D.str s1),CV.d (D.int .i64 n2),CV.d (D.int .i64 n3),CV.d (D.int .i64 n4),CV.d (D.slice 1 l5),CV.d (D.slice 7 l6)])] objs')∧((n0==3) =false→(∀n8:Int,(mmI false (nI (List.length l5)) 32=n8→((0≤n8∧n8≤nI (List.length l5)∧nI (List.length l5)≤nI (List.length l5))∧(∀l9:List D,(List.drop (Int.toNat n8) (List.take (Int.toNat (nI (List.length l5))) l5) =l9→(∃I10:(List D→(Int→(Nat→Prop))),((∃k11:Nat,I10 [D.agg [D.int .i64 7,D.int .i64 0,D.int .i64 n4,D.int .i64 0,D.int .i64 0,D.int .i64 0,D.str [],D.int .i64 0,D.slice 1 [],D.str [],D.str []]] 0 k11)∧(∀l12:List D,(∀n13:Int,(∀k14:Nat,(I10 l12 n13 k14→(((decide (n13<nI (List.length l9))) =true→((0≤n13∧n13<nI (List.length l9))∧(∃s15:Bytes,((D.cells (List.getD l9 (Int.toNat n13) D.nilp) = [D.str s15])∧(((List.length l12+List.length [D.agg [D.int .i64 4,D.int .i64 0,D.int .i64 0,D.int .i64 0,D.int .i64 0,D.int .i64 0,D.str [],D.int .i64 0,D.slice 1 [],D.str [],D.str s15]]) *128≤140737488355328)∧(∀n16:Int,(Go.IntKind.wrap Go.IntKind.i64 (n13+1) =n16→(∃k17:Nat,((k17<k14)∧I10 (l12++ [D.agg [D.int .i64 4,D.int .i64 0,D.int .i64 0,D.int .i64 0,D.int .i64 0,D.int .i64 0,D.str [],D.int .i64 0,D.slice 1 [],D.str [],D.str s15]]) n16 k17)))))))))∧((decide (n13<nI (List.length l9))) =false→(∃I18:(List D→(Int→(Nat→Prop))),((∃k19:Nat,I18 l12 0 k19)∧(∀l20:List D,(∀n21:Int,(∀k22:Nat,(I18 l20 n21 k22→(((decide (n21<nI (List.length l6))) =true→((0≤n21∧n21<nI (List.length l6))∧(∃n23:Int,(∃n24:Int,(∃n25:Int,(∃s26:Bytes,(∃n27:Int,(∃l28:List D,(∃s29:Bytes,((D.cells (List.getD l6 (Int.toNat n21) D.nilp) = [D.int .i64 n23,D.int .i64 n24,D.int .i64 n25,D.str s26,D.int .i64 n27,D.slice 1 l28,D.str s29])∧(∃l30:List D,((Runs P 92 [CV.d (D.int .i64 n0),CV.d (D.agg [D.str s1,D.int .i64 n2,D.int .i64 n3,D.int .i64 n4,D.slice 1 l5,D.slice 7 l6]),CV.d (D.agg [D.int .i64 n23,D.int .i64 n24,D.int .i64 n25,D.str s26,D.int .i64 n27,D.slice 1 l28,D.str s29])] [] (CV.d (D.slice 11 l30)) [])∧(((List.length l20+List.length l30) *128≤140737488355328)∧(∀n31:Int,(Go.IntKind.wrap Go.IntKind.i64 (n21+1) =n31→(∃k32:Nat,((k32<k22)∧I18 (l20++l30) n31 k32)))))))))))))))))∧((decide (n21<nI (List.length l6))) =false→EndR (CV.own 11 l20) res [(3,[CV.d (D.str s1),CV.d (D.int .i64 n2),CV.d (D.int .i64 n3),CV.d (D.int .i64 n4),CV.d (D.slice 1 l5),CV.d (D.slice 7 l6)])] objs')))))))))))))))))))))))))∧((b7) =false→(((n0==3) =true→EndR (CV.own (11:Nat) []) res [(3,[CV.d (D.str s1),CV.d (D.int .i64 n2),CV.d (D.int .i64 n3),CV.d (D.int .i64 n4),CV.d (D.slice 1 l5),CV.d (D.slice 7 l6)])] objs')∧((n0==3) =false→(∀n33:Int,(mmI false (nI (List.length l5)) 32=n33→((0≤n33∧n33≤nI (List.length l5)∧nI (List.length l5)≤nI (List.length l5))∧(∀l34:List D,(List.drop (Int.toNat n33) (List.take (Int.toNat (nI (List.length l5))) l5) =l34→(∃I35:(List D→(Int→(Nat→Prop))),((∃k36:Nat,I35 [] 0 k36)∧(∀l37:List D,(∀n38:Int,(∀k39:Nat,(I35 l37 n38 k39→(((decide (n38<nI (List.length l34))) =true→((0≤n38∧n38<nI (List.length l34))∧(∃s40:Bytes,((D.cells (List.getD l34 (Int.toNat n38) D.nilp) = [D.str s40])∧(((List.length l37+List.length [D.agg [D.int .i64 4,D.int .i64 0,D.int .i64 0,D.int .i64 0,D.int .i64 0,D.int .i64 0,D.str [],D.int .i64 0,D.slice 1 [],D.str [],D.str s40]]) *128≤140737488355328)∧(∀n41:Int,(Go.IntKind.wrap Go.IntKind.i64 (n38+1) =n41→(∃k42:Nat,((k42<k39)∧I35 (l37++ [D.agg [D.int .i64 4,D.int .i64 0,D.int .i64 0,D.int .i64 0,D.int .i64 0,D.int .i64 0,D.str [],D.int .i64 0,D.slice 1 [],D.str [],D.str s40]]) n41 k42)))))))))∧((decide (n38<nI (List.length l34))) =false→(∃I43:(List D→(Int→(Nat→Prop))),((∃k44:Nat,I43 l37 0 k44)∧(∀l45:List D,(∀n46:Int,(∀k47:Nat,(I43 l45 n46 k47→(((decide (n46<nI (List.length l6))) =true→((0≤n46∧n46<nI (List.length l6))∧(∃n48:Int,(∃n49:Int,(∃n50:Int,(∃s51:Bytes,(∃n52:Int,(∃l53:List D,(∃s54:Bytes,((D.cells (List.getD l6 (Int.toNat n46) D.nilp) = [D.int .i64 n48,D.int .i64 n49,D.int .i64 n50,D.str s51,D.int .i64 n52,D.slice 1 l53,D.str s54])∧(∃l55:List D,((Runs P 92 [CV.d (D.int .i64 n0),CV.d (D.agg [D.str s1,D.int .i64 n2,D.int .i64 n3,D.int .i64 n4,D.slice 1 l5,D.slice 7 l6]),CV.d (D.agg [D.int .i64 n48,D.int .i64 n49,D.int .i64 n50,D.str s51,D.int .i64 n52,D.slice 1 l53,D.str s54])] [] (CV.d (D.slice 11 l55)) [])∧(((List.length l45+List.length l55) *128≤140737488355328)∧(∀n56:Int,(Go.IntKind.wrap Go.IntKind.i64 (n46+1) =n56→(∃k57:Nat,((k57<k47)∧I43 (l45++l55) n56 k57)))))))))))))))))∧((decide (n46<nI (List.length l6))) =false→EndR (CV.own 11 l45) res [(3,[CV.d (D.str s1),CV.d (D.int .i64 n2),CV.d (D.int .i64 n3),CV.d (D.int .i64 n4),CV.d (D.slice 1 l5),CV.d (D.slice 7 l6)])] objs')))))))))))))))))))))))))))):=by kernel_rfl
theorem zvc173 (n0:Int) (n1:Int) (res:CV) (objs':List (Nat×List CV)) :walkA P (tbF P [118,148,112,163,1000101,7000102,107500054,1072002147,75,117,139,172,2000035093,2000020094] [] 173) (anOf (afOf P HZ4 173) []) (afOf P HZ4 173) [CV.d (D.int .i64 n0),CV.d (D.int .i64 n1)] [] (fun rs=>endE rs res objs') =((((decide (n0≤n1)) =true→EndR (CV.d (D.int .i64 (0:Int))) res [] objs')∧((decide (n0≤n1)) =false→(∀n2:Int,(Go.IntKind.wrap Go.IntKind.i64 (n0-n1) =n2→(((decide (n2<0)) =true→EndR (CV.d (D.int .i64 (1099511627776:Int))) res [] objs')∧((decide (n2<0)) =false→(∀n3:Int,(Go.IntKind.wrap Go.IntKind.i64 (n0-n1) =n3→EndR (CV.d (D.int .i64 n3)) res [] objs'))))))))):=by kernel_rfl
theorem zvc138 (l0:List D) (l1:List D) (res:CV) (objs':List (Nat×List CV)) :walkA P (tbF P [118,148,112,163,1000101,7000102,107500054,1072002147,75,117,139,172,2000035093,2000020094] [] 138) (anOf (afOf P HZ4 138) []) (afOf P HZ4 138) [CV.d (D.slice 1 l0),CV.d (D.slice 1 l1)] [] (fun rs=>endE rs res objs') =((∃I2:(List D→(Int→(Nat→Prop))),((∃k3:Nat,I2 l0 0 k3)∧(∀l4:List D,(∀n5:Int,(∀k6:Nat,(I2 l4 n5 k6→(((decide (n5<nI (List.length l1))) =true→((0≤n5∧n5<nI (List.length l1))∧(∃n7:Int,((D.cells (List.getD l1 (Int.toNat n5) D.nilp) = [D.int .i64 n7])∧(∃l8:List D,((Runs P 148 [CV.d (D.slice 1 l4),CV.d (D.int .i64 n7)] [] (CV.own 1 l8) [])∧(∀n9:Int,(Go.IntKind.wrap Go.IntKind.i64 (n5+1) =n9→(∃k10:Nat,((k10<k6)∧I2 l8 n9 k10))))))))))∧((decide (n5<nI (List.length l1))) =false→EndR (CV.d (D.slice 1 l4)) res [] objs'))))))))):=by kernel_rfl
theorem zvc140 (l0:List D) (n1:Int) (n2:Int) (n3:Int) (s4:Bytes) (n5:Int) (l6:List D) (s7:Bytes) (n8:Int) (res:CV) (objs':List (Nat×List CV)) :walkA P (tbF P [118,148,112,163,1000101,7000102,107500054,1072002147,75,117,139,172,2000035093,2000020094] [] 140) (anOf (afOf P HZ4 140) []) (afOf P HZ4 140) [CV.d (D.slice 1 l0),CV.d (D.agg [D.int .i64 n1,D.int .i64 n2,D.int .i64 n3,D.str s4,D.int .i64 n5,D.slice 1 l6,D.str s7]),CV.d (D.int .i64 n8)] [] (fun rs=>endE rs res objs') =((∃n9:Int,((Runs P 173 [CV.d (D.int .i64 n1),CV.d (D.int .i64 n8)] [] (CV.d (D.int .i64 n9)) [])∧(∃l10:List D,((Runs P 138 [CV.d (D.slice 1 l0),CV.d (D.slice 1 [D.int .i64 n9,D.int .i64 n2,D.int .i64 n3,D.int .i64 n5,D.int .i64 (nI (List.length l6))])] [] (CV.d (D.slice 1 l10)) [])∧(∃I11:(List D→(Int→(Int→(Nat→Prop)))),((∃k12:Nat,I11 l10 (-1) 0 k12)∧(∀l13:List D,(∀n14:Int,(∀n15:Int,(∀k16:Nat,(I11 l13 n14 n15 k16→(((decide (n15<nI (List.length l6))) =true→((0≤n15∧n15<nI (List.length l6))∧(∃n17:Int,((D.cells (List.getD l6 (Int.toNat n15) D.nilp) = [D.int .i64 n17])∧(∃n18:Int,((Runs P 173 [CV.d (D.int .i64 n17),CV.d (D.int .i64 n14)] [] (CV.d (D.int .i64 n18)) [])∧(∃l19:List D,((Runs P 138 [CV.d (D.slice 1 l13),CV.d (D.slice 1 [D.int .i64 n18])] [] (CV.d (D.slice 1 l19)) [])∧(∀n20:Int,(Go.IntKind.wrap Go.IntKind.i64 (n15+1) =n20→(∃k21:Nat,((k21<k16)∧I11 l19 n17 n20 k21))))))))))))∧((decide (n15<nI (List.length l6))) =false→(∃l22:List D,((Runs P 112 [CV.d (D.slice 1 l13),CV.d (D.str s4)] [] (CV.own 1 l22) [])∧(∃l23:List D,((Runs P 112 [CV.d (D.slice 1 l22),CV.d (D.str s7)] [] (CV.own 1 l23) [])∧EndR (CV.own 1 l23) res [(4,[CV.d (D.int .i64 n1),CV.d (D.int .i64 n2),CV.d (D.int .i64 n3),CV.d (D.str s4),CV.d (D.int .i64 n5),CV.d (D.slice 1 l6),CV.d (D.str s7)])] objs')))))))))))))))))):=by kernel_rfl
theorem zvc97 (s0:Bytes) (n1:Int) (n2:Int) (n3:Int) (l4:List D) (l5:List D) (res:CV) (objs':List (Nat×List CV)) :walkA P (tbF P [118,148,112,163,1000101,7000102,107500054,1072002147,75,117,139,172,2000035093,2000020094] [] 97) (anOf (afOf P HZ4 97) []) (afOf P HZ4 97) [CV.d (D.agg [D.str s0,D.int .i64 n1,D.int .i64 n2,D.int .i64 n3,D.slice 1 l4,D.slice 7 l5])] [] (fun rs=>endE rs res objs') =((∃n6:Int,((Runs P 35 [CV.d (D.agg [D.str s0,D.int .i64 n1,D.int .i64 n2,D.int .i64 n3,D.slice 1 l4,D.slice 7 l5])] [] (CV.d (D.int .i64 n6)) [])∧(((n6 !=0) =true→EndR (CV.tup [CV.own (1:Nat) [],CV.d (D.int .i64 (1:Int))]) res [(1,[CV.d (D.str s0),CV.d (D.int .i64 n1),CV.d (D.int .i64 n2),CV.d (D.int .i64 n3),CV.d (D.slice 1 l4),CV.d (D.slice 7 l5)])] objs')∧((n6 !=0) =false→(([D.int .u8 (77:Int),D.int .u8 (66:Int),D.int .u8 (51:Int)]≠[])∧(∃l7:List D,((Runs P 138 [CV.d (D.slice 1 [D.int .u8 77,D.int .u8 66,D.int .u8 51]),CV.d (D.slice 1 [D.int .i64 n1,D.int .i64 n2,D.int .i64 n3])] [] (CV.d (D.slice 1 l7)) [])∧(∃l8:List D,((Runs P 112 [CV.d (D.slice 1 l7),CV.d (D.str s0)] [] (CV.own 1 l8) [])∧(∃l9:List D,((Runs P 138 [CV.d (D.slice 1 l8),CV.d (D.slice 1 [D.int .i64 (nI (List.length l4))])] [] (CV.d (D.slice 1 l9)) [])∧(∃I10:(List D→(Int→(Nat→Prop))),((∃k11:Nat,I10 l9 0 k11)∧(∀l12:List D,(∀n13:Int,(∀k14:Nat,(I10 l12 n13 k14→(((decide (n13<nI (List.length l4))) =true→((0≤n13∧n13<nI (List.length l4))∧(∃s15:Bytes,((D.cells (List.getD l4 (Int.toNat n13) D.nilp) = [D.str s15])∧(∃l16:List D,((Runs P 112 [CV.d (D.slice 1 l12),CV.d (D.str s15)] [] (CV.own 1 l16) [])∧(∀n17:Int,(Go.IntKind.wrap Go.IntKind.i64 (n13+1) =n17→(∃k18:Nat,((k18<k14)∧I10 l16 n17 k18))))))))))∧((decide (n13<nI (List.length l4))) =false→(∃l19:List D,((Runs P 138 [CV.d (D.slice 1 l12),CV.d (D.slice 1 [D.int .i64 (nI (List.length l5))])] [] (CV.d (D.slice 1 l19)) [])∧(∃I20:(List D→(Int→(Int→(Nat→Prop)))),((∃k21:Nat,I20 l19 0 0 k21)∧(∀l22:List D,(∀n23:Int,(∀n24:Int,(∀k25:Nat,(I20 l22 n23 n24 k25→(((decide (n24<nI (List.length l5))) =true→((0≤n24∧n24<nI (List.length l5))∧(∃n26:Int,(∃n27:Int,(∃n28:Int,(∃s29:Bytes,(∃n30:Int,(∃l31:List D,(∃s32:Bytes,((D.cells (List.getD l5 (Int.toNat n24) D.nilp) = [D.int .i64 n26,D.int .i64 n27,D.int .i64 n28,D.str s29,D.int .i64 n30,D.slice 1 l31,D.str s32])∧(∃l33:List D,((Runs P 140 [CV.d (D.slice 1 []),CV.d (D.agg [D.int .i64 n26,D.int .i64 n27,D.int .i64 n28,D.str s29,D.int .i64 n30,D.slice 1 l31,D.str s32]),CV.d (D.int .i64 n23)] [] (CV.d (D.slice 1 l33)) [])∧(∃l34:List D,((Runs P 139 [CV.d (D.slice 1 [D.slice 1 l22,D.slice 1 l33])] [] (CV.own 1 l34) [])∧(∀n35:Int,(Go.IntKind.wrap Go.IntKind.i64 (n24+1) =n35→(∃k36:Nat,((k36<k25)∧I20 l34 n26 n35 k36))))))))))))))))))∧((decide (n24<nI (List.length l5))) =false→EndR (CV.tup [CV.d (D.slice 1 l22),CV.d (D.int .i64 0)]) res [(1,[CV.d (D.str s0),CV.d (D.int .i64 n1),CV.d (D.int .i64 n2),CV.d (D.int .i64 n3),CV.d (D.slice 1 l4),CV.d (D.slice 7 l5)])] objs'))))))))))))))))))))))))))))))):=by kernel_rfl
theorem zt139:okF P HZ4 139 1=true:=by kernel_rfl
theorem zvc139 (l0:List D) (res:CV) (objs':List (Nat×List CV)) :walkA P (tbF P [118,148,112,163,1000101,7000102,107500054,1072002147,75,117,139,172,2000035093,2000020094] [] 139) (anOf (afOf P HZ4 139) []) (afOf P HZ4 139) [CV.d (D.slice 1 l0)] [] (fun rs=>endE rs res objs') =((∃I1:(Int→(Int→(Nat→Prop))),((∃k2:Nat,I1 0 0 k2)∧(∀n3:Int,(∀n4:Int,(∀k5:Nat,(I1 n3 n4 k5→(((decide (n4<nI (List.length l0))) =true→((0≤n4∧n4<nI (List.length l0))∧(∃l6:List D,((D.cells (List.getD l0 (Int.toNat n4) D.nilp) = [D.slice 1 l6])∧(∀n7:Int,(Go.IntKind.wrap Go.IntKind.i64 (n3+nI (List.length l6)) =n7→(((decide (n7<0)) =true→False)∧((decide (n7<0)) =false→(∀n8:Int,(Go.IntKind.wrap Go.IntKind.i64 (n4+1) =n8→(∃k9:Nat,((k9<k5)∧I1 n7 n8 k9))))))))))))∧((decide (n4<nI (List.length l0))) =false→(∃l10:List D,((Runs P 172 [CV.nils,CV.d (D.int .i64 n3)] [] (CV.own 1 l10) [])∧(∃I11:(List D→(Int→(Nat→Prop))),((∃k12:Nat,I11 l10 0 k12)∧(∀l13:List D,(∀n14:Int,(∀k15:Nat,(I11 l13 n14 k15→(((decide (n14<nI (List.length l0))) =true→((0≤n14∧n14<nI (List.length l0))∧(∃l16:List D,((D.cells (List.getD l0 (Int.toNat n14) D.nilp) = [D.slice 1 l16])∧(((List.length l13+List.length l16) *1≤140737488355328)∧(∀n17:Int,(Go.IntKind.wrap Go.IntKind.i64 (n14+1) =n17→(∃k18:Nat,((k18<k15)∧I11 (l13++l16) n17 k18)))))))))∧((decide (n14<nI (List.length l0))) =false→EndR (CV.own 1 l13) res [] objs'))))))))))))))))))):=by kernel_rfl
theorem zt50:okF P HZ4 50 2=true:=by kernel_rfl
theorem zt51:okF P HZ4 51 2=true:=by kernel_rfl
theorem zt98:okF P HZ4 98 2=true:=by kernel_rfl
theorem zt174:okF P HZ4 174 2=true:=by kernel_rfl
theorem zt175:okF P HZ4 175 2=true:=by kernel_rfl
theorem zt176:okF P HZ4 176 2=true:=by kernel_rfl
theorem zt197:okF P HZ4 197 1=true:=by kernel_rfl
theorem zvc51 (m:Bytes) (f:Option Nat) (g:Option Nat) (s:List D) (res:CV) (objs':List (Nat×List CV)) :walkA P (tbF P [118,148,112,163,1000101,7000102,107500054,1072002147,75,117,139,172,138,2000035093,2000020094] [] 51) (anOf (afOf P HZ4 51) [(1,1000,0)]) (afOf P HZ4 51) [CV.d (D.agg [D.str m,D.fn f,D.fn g]),CV.ptr 1000 0] [(1000,[CV.d (D.slice 1 s)])] (fun rs=>endE rs res objs') =((∃s4:Bytes,((s=List.map byteD s4)∧(∃b5:Bool,((Runs P 52 [CV.d (D.str s4),CV.d (D.str m)] [] (CV.d (D.bool b5)) [])∧EndR (CV.d (D.bool b5)) res [(1000,[CV.d (D.slice 1 s)]),(2,[CV.d (D.str m),CV.d (D.fn f),CV.d (D.fn g)])] objs'))))):=by kernel_rfl
theorem zvc50 (l:List D) (s:List D) (res:CV) (objs':List (Nat×List CV)) :walkA P (tbF P [118,148,112,163,1000101,7000102,107500054,1072002147,75,117,139,172,138,2000035093,2000020094] [] 50) (anOf (afOf P HZ4 50) [(1,1000,0)]) (afOf P HZ4 50) [CV.d (D.slice 3 l),CV.fn 51 [1000]] [(1000,[CV.d (D.slice 1 s)])] (fun rs=>endE rs res objs') =((∃I2:(Int→(List D→(Nat→Prop))),((∃k3:Nat,I2 0 s k3)∧(∀n4:Int,(∀l5:List D,(∀k6:Nat,(I2 n4 l5 k6→(((decide (n4<nI (List.length l))) =true→((0≤n4∧n4<nI (List.length l))∧(∃s7:Bytes,(∃v8:Option Nat,(∃v9:Option Nat,((D.cells (List.getD l (Int.toNat n4) D.nilp) = [D.str s7,D.fn v8,D.fn v9])∧(∃l10:List D,(∃b11:Bool,((Runs P 51 [CV.d (D.agg [D.str s7,D.fn v8,D.fn v9]),CV.ptr 1000 0] [(1000,[CV.d (D.slice 1 l5)])] (CV.d (D.bool b11)) [(1000,[CV.d (D.slice 1 l10)])])∧(((b11) =true→EndR (CV.d (D.int .i64 n4)) res [(1000,[CV.d (D.slice 1 l10)])] objs')∧((b11) =false→(∀n12:Int,(Go.IntKind.wrap Go.IntKind.i64 (n4+1) =n12→(∃k13:Nat,((k13<k6)∧I2 n12 l10 k13)))))))))))))))∧((decide (n4<nI (List.length l))) =false→EndR (CV.d (D.int .i64 (-1:Int))) res [(1000,[CV.d (D.slice 1 l5)])] objs'))))))))):=by kernel_rfl
theorem zvc174 (l:List D) (e:Int) (off:Bool) (n:Int) (res:CV) (objs':List (Nat×List CV)) :walkA P (tbF P [118,148,112,163,1000101,7000102,107500054,1072002147,75,117,139,172,138,2000035093,2000020094] [] 174) (anOf (afOf P HZ4 174) [(0,1000,0),(200000,1100,0)]) (afOf P HZ4 174) [CV.ptr 1000 0,CV.d (D.int .i64 n)] [(1000,[CV.ptr 1100 0,CV.d (D.bool off)]),(1100,[CV.d (D.slice 1 l),CV.d (D.int .i64 e)])] (fun rs=>endE rs res objs') =((∃b4:Bool,(∃l5:List D,(∃n6:Int,(∃b7:Bool,((Runs P 197 [CV.ptr 1000 0] [(1000,[CV.ptr 1100 0,CV.d (D.bool off)]),(1100,[CV.d (D.slice 1 l),CV.d (D.int .i64 e)])] (CV.d (D.bool b7)) [(1000,[CV.ptr 1100 0,CV.d (D.bool b4)]),(1100,[CV.d (D.slice 1 l5),CV.d (D.int .i64 n6)])])∧(((!b7) =true→EndR (CV.d (D.int .i64 (0:Int))) res [(1000,[CV.ptr 1100 0,CV.d (D.bool b4)]),(1100,[CV.d (D.slice 1 l5),CV.d (D.int .i64 n6)])] objs')∧((!b7) =false→(∃l8:List D,(∃n9:Int,(∃n10:Int,((Runs P 150 [CV.ptr 1100 0] [(1100,[CV.d (D.slice 1 l5),CV.d (D.int .i64 n6)])] (CV.d (D.int .i64 n10)) [(1100,[CV.d (D.slice 1 l8),CV.d (D.int .i64 n9)])])∧(((decide (n10>n)) =true→EndR (CV.d (D.int .i64 (0:Int))) res [(1000,[CV.ptr 1100 0,CV.d (D.bool true)]),(1100,[CV.d (D.slice 1 l8),CV.d (D.int .i64 n9)])] objs')∧((decide (n10>n)) =false→EndR (CV.d (D.int .i64 n10)) res [(1000,[CV.ptr 1100 0,CV.d (D.bool b4)]),(1100,[CV.d (D.slice 1 l8),CV.d (D.int .i64 n9)])] objs')))))))))))))):=by kernel_rfl
theorem zvc175 (l:List D) (e:Int) (off:Bool) (n:Int) (res:CV) (objs':List (Nat×List CV)) :walkA P (tbF P [118,148,112,163,1000101,7000102,107500054,1072002147,75,117,139,172,138,2000035093,2000020094] [] 175) (anOf (afOf P HZ4 175) [(0,1000,0),(200000,1100,0)]) (afOf P HZ4 175) [CV.ptr 1000 0,CV.d (D.int .i64 n)] [(1000,[CV.ptr 1100 0,CV.d (D.bool off)]),(1100,[CV.d (D.slice 1 l),CV.d (D.int .i64 e)])] (fun rs=>endE rs res objs') =((∃b4:Bool,(∃l5:List D,(∃n6:Int,(∃b7:Bool,((Runs P 197 [CV.ptr 1000 0] [(1000,[CV.ptr 1100 0,CV.d (D.bool off)]),(1100,[CV.d (D.slice 1 l),CV.d (D.int .i64 e)])] (CV.d (D.bool b7)) [(1000,[CV.ptr 1100 0,CV.d (D.bool b4)]),(1100,[CV.d (D.slice 1 l5),CV.d (D.int .i64 n6)])])∧(((!b7) =true→EndR (CV.d (D.str [])) res [(1000,[CV.ptr 1100 0,CV.d (D.bool b4)]),(1100,[CV.d (D.slice 1 l5),CV.d (D.int .i64 n6)])] objs')∧((!b7) =false→(∃l8:List D,(∃n9:Int,(∃s10:Bytes,((Runs P 151 [CV.ptr 1100 0,CV.d (D.int .i64 n)] [(1100,[CV.d (D.slice 1 l5),CV.d (D.int .i64 n6)])] (CV.d (D.str s10)) [(1100,[CV.d (D.slice 1 l8),CV.d (D.int .i64 n9)])])∧EndR (CV.d (D.str s10)) res [(1000,[CV.ptr 1100 0,CV.d (D.bool b4)]),(1100,[CV.d (D.slice 1 l8),CV.d (D.int .i64 n9)])] objs')))))))))))):=by kernel_rfl
theorem zvc197 (l:List D) (e:Int) (off:Bool) (res:CV) (objs':List (Nat×List CV)) :walkA P (tbF P [118,148,112,163,1000101,7000102,107500054,1072002147,75,117,139,172,138,2000035093,2000020094] [] 197) (anOf (afOf P HZ4 197) [(0,1000,0),(200000,1100,0)]) (afOf P HZ4 197) [CV.ptr (1000:Nat) (0:Nat)] [(1000,[CV.ptr 1100 0,CV.d (D.bool off)]),(1100,[CV.d (D.slice 1 l),CV.d (D.int .i64 e)])] (fun rs=>endE rs res objs') =((∃n3:Int,(((!off) =true→Runs P 124 [CV.ptr 1100 0] [(1100,[CV.d (D.slice 1 l),CV.d (D.int .i64 e)])] (CV.d (D.int .i64 n3)) [(1100,[CV.d (D.slice 1 l),CV.d (D.int .i64 e)])])∧(∀b4:Bool,((!off&&n3==0) =b4→EndR (CV.d (D.bool b4)) res [(1000,[CV.ptr 1100 0,CV.d (D.bool off)]),(1100,[CV.d (D.slice 1 l),CV.d (D.int .i64 e)])] objs'))))):=by kernel_rfl
theorem zvc176 (l:List D) (e:Int) (off:Bool) (n:Int) (res:CV) (objs':List (Nat×List CV)) :walkA P (tbF P [118,148,112,163,1000101,7000102,107500054,1072002147,75,117,139,172,138,2000035093,2000020094] [] 176) (anOf (afOf P HZ4 176) [(0,1000,0),(200000,1100,0)]) (afOf P HZ4 176) [CV.ptr 1000 0,CV.d (D.int .i64 n)] [(1000,[CV.ptr 1100 0,CV.d (D.bool off)]),(1100,[CV.d (D.slice 1 l),CV.d (D.int .i64 e)])] (fun rs=>endE rs res objs') =((∃b4:Bool,(∃l5:List D,(∃n6:Int,(∃n7:Int,((Runs P 174 [CV.ptr 1000 0,CV.d (D.int .i64 1000000)] [(1000,[CV.ptr 1100 0,CV.d (D.bool off)]),(1100,[CV.d (D.slice 1 l),CV.d (D.int .i64 e)])] (CV.d (D.int .i64 n7)) [(1000,[CV.ptr 1100 0,CV.d (D.bool b4)]),(1100,[CV.d (D.slice 1 l5),CV.d (D.int .i64 n6)])])∧(∀n8:Int,(Go.IntKind.wrap Go.IntKind.i64 (n+n7) =n8→(∃b9:Bool,(∃l10:List D,(∃n11:Int,(∃n12:Int,((Runs P 174 [CV.ptr 1000 0,CV.d (D.int .i64 1000000)] [(1000,[CV.ptr 1100 0,CV.d (D.bool b4)]),(1100,[CV.d (D.slice 1 l5),CV.d (D.int .i64 n6)])] (CV.d (D.int .i64 n12)) [(1000,[CV.ptr 1100 0,CV.d (D.bool b9)]),(1100,[CV.d (D.slice 1 l10),CV.d (D.int .i64 n11)])])∧(∃b13:Bool,(∃l14:List D,(∃n15:Int,(∃n16:Int,((Runs P 174 [CV.ptr 1000 0,CV.d (D.int .i64 1000000)] [(1000,[CV.ptr 1100 0,CV.d (D.bool b9)]),(1100,[CV.d (D.slice 1 l10),CV.d (D.int .i64 n11)])] (CV.d (D.int .i64 n16)) [(1000,[CV.ptr 1100 0,CV.d (D.bool b13)]),(1100,[CV.d (D.slice 1 l14),CV.d (D.int .i64 n15)])])∧(∃b17:Bool,(∃l18:List D,(∃n19:Int,(∃n20:Int,((Runs P 174 [CV.ptr 1000 0,CV.d (D.int .i64 1000000)] [(1000,[CV.ptr 1100 0,CV.d (D.bool b13)]),(1100,[CV.d (D.slice 1 l14),CV.d (D.int .i64 n15)])] (CV.d (D.int .i64 n20)) [(1000,[CV.ptr 1100 0,CV.d (D.bool b17)]),(1100,[CV.d (D.slice 1 l18),CV.d (D.int .i64 n19)])])∧(∃b21:Bool,(∃l22:List D,(∃n23:Int,(∃n24:Int,((Runs P 174 [CV.ptr 1000 0,CV.d (D.int .i64 64)] [(1000,[CV.ptr 1100 0,CV.d (D.bool b17)]),(1100,[CV.d (D.slice 1 l18),CV.d (D.int .i64 n19)])] (CV.d (D.int .i64 n24)) [(1000,[CV.ptr 1100 0,CV.d (D.bool b21)]),(1100,[CV.d (D.slice 1 l22),CV.d (D.int .i64 n23)])])∧(∃I25:(Int→(Int→(Bool→(List D→(Int→(List D→(Nat→Prop))))))),(((CV.ptr (1100:Nat) (0:Nat) =CV.ptr (1100:Nat) (0:Nat))∧((CV.d (D.int .i64 n8) =CV.d (D.int .i64 n8))∧((CV.d (D.int .i64 n12) =CV.d (D.int .i64 n12))∧((CV.d (D.int .i64 n16) =CV.d (D.int .i64 n16))∧((CV.d (D.str []) =CV.d (D.str []))∧((CV.d (D.int .i64 n20) =CV.d (D.int .i64 n20))∧((CV.d (D.str []) =CV.d (D.str []))∧(∃k26:Nat,I25 (-1) 0 b21 l22 n23 [] k26))))))))∧(∀n27:Int,(∀n28:Int,(∀b29:Bool,(∀l30:List D,(∀n31:Int,(∀l32:List D,(∀k33:Nat,(I25 n27 n28 b29 l30 n31 l32 k33→(((decide (n28<n24)) =true→(∃b34:Bool,(∃l35:List D,(∃n36:Int,(∃n37:Int,((Runs P 174 [CV.ptr 1000 0,CV.d (D.int .i64 1000000)] [(1000,[CV.ptr 1100 0,CV.d (D.bool b29)]),(1100,[CV.d (D.slice 1 l30),CV.d (D.int .i64 n31)])] (CV.d (D.int .i64 n37)) [(1000,[CV.ptr 1100 0,CV.d (D.bool b34)]),(1100,[CV.d (D.slice 1 l35),CV.d (D.int .i64 n36)])])∧(∀n38:Int,(Go.IntKind.wrap Go.IntKind.i64 (n27+n37) =n38→(((List.length l32+List.length [D.int .i64 n38]) *8≤140737488355328)∧(∀n39:Int,(Go.IntKind.wrap Go.IntKind.i64 (n28+1) =n39→((CV.ptr (1100:Nat) (0:Nat) =CV.ptr (1100:Nat) (0:Nat))∧((CV.d (D.int .i64 n8) =CV.d (D.int .i64 n8))∧((CV.d (D.int .i64 n12) =CV.d (D.int .i64 n12))∧((CV.d (D.int .i64 n16) =CV.d (D.int .i64 n16))∧((CV.d (D.str []) =CV.d (D.str []))∧((CV.d (D.int .i64 n20) =CV.d (D.int .i64 n20))∧((CV.d (D.str []) =CV.d (D.str []))∧(∃k40:Nat,((k40<k33)∧I25 n38 n39 b34 l35 n36 (l32++ [D.int .i64 n38]) k40))))))))))))))))))))∧((decide (n28<n24)) =false→(∃b41:Bool,(∃l42:List D,(∃n43:Int,(∃s44:Bytes,((Runs P 175 [CV.ptr 1000 0,CV.d (D.int .i64 24)] [(1000,[CV.ptr 1100 0,CV.d (D.bool b29)]),(1100,[CV.d (D.slice 1 l30),CV.d (D.int .i64 n31)])] (CV.d (D.str s44)) [(1000,[CV.ptr 1100 0,CV.d (D.bool b41)]),(1100,[CV.d (D.slice 1 l42),CV.d (D.int .i64 n43)])])∧(∃b45:Bool,(∃l46:List D,(∃n47:Int,(∃s48:Bytes,((Runs P 175 [CV.ptr 1000 0,CV.d (D.int .i64 300)] [(1000,[CV.ptr 1100 0,CV.d (D.bool b41)]),(1100,[CV.d (D.slice 1 l42),CV.d (D.int .i64 n43)])] (CV.d (D.str s48)) [(1000,[CV.ptr 1100 0,CV.d (D.bool b45)]),(1100,[CV.d (D.slice 1 l46),CV.d (D.int .i64 n47)])])∧EndR (CV.d (D.agg [D.int .i64 n8,D.int .i64 n12,D.int .i64 n16,D.str s44,D.int .i64 n20,D.slice 1 l32,D.str s48])) res [(1000,[CV.ptr 1100 0,CV.d (D.bool b45)]),(1100,[CV.d (D.slice 1 l46),CV.d (D.int .i64 n47)]),(4,[CV.d (D.int .i64 n8),CV.d (D.int .i64 n12),CV.d (D.int .i64 n16),CV.d (D.str s44),CV.d (D.int .i64 n20),CV.d (D.slice 1 l32),CV.d (D.str s48)]),(5,[CV.d (D.int .i64 n8),CV.d (D.int .i64 n12),CV.d (D.int .i64 n16),CV.d (D.str s44),CV.d (D.int .i64 n20),CV.own 1 l32,CV.d (D.str s48)])] objs')))))))))))))))))))))))))))))))))))))))))))))))))):=by kernel_rfl
theorem zvc98 (l0:List D) (s1:Bytes) (res:CV) (objs':List (Nat×List CV)) :walkA P (tbF P [118,148,112,163,1000101,7000102,107500054,1072002147,75,117,139,172,138,2000035093,2000020094] [] 98) (anOf (afOf P HZ4 98) []) (afOf P HZ4 98) [CV.d (D.slice 1 l0),CV.d (D.str s1)] [] (fun rs=>endE rs res objs') =((∃s2:Bytes,((l0=List.map byteD s2)∧(∃s3:Bytes,(∃b4:Bool,((Runs P 132 [CV.d (D.str s2),CV.d (D.str [77,66,51])] [] (CV.tup [CV.d (D.str s3),CV.d (D.bool b4)]) [])∧(((!b4) =true→EndR (CV.tup [CV.d (D.agg [D.str [],D.int .i64 (0:Int),D.int .i64 (0:Int),D.int .i64 (0:Int),D.slice (1:Nat) [],D.slice (7:Nat) []]),CV.d (D.int .i64 (3:Int))]) res [((4:Nat),[CV.d (D.str []),CV.d (D.int .i64 (0:Int)),CV.d (D.int .i64 (0:Int)),CV.d (D.int .i64 (0:Int)),CV.own (1:Nat) [],CV.own (7:Nat) []])] objs')∧((!b4) =false→((List.length s3≤140737488355328)∧(∃l5:List D,(∃n6:Int,((Runs P 76 [CV.d (D.slice 1 (List.map byteD s3))] [] (CV.ptr 21 0) [(21,[CV.d (D.slice 1 l5),CV.d (D.int .i64 n6)])])∧(∃b7:Bool,(∃l8:List D,(∃n9:Int,(∃s10:Bytes,(∃n11:Int,(∃n12:Int,(∃n13:Int,(∃l14:List D,(∃l15:List D,((Runs P 141 [CV.ptr 23 0] [(23,[CV.ptr 21 0,CV.d (D.bool false)]),(21,[CV.d (D.slice 1 l5),CV.d (D.int .i64 n6)])] (CV.d (D.agg [D.str s10,D.int .i64 n11,D.int .i64 n12,D.int .i64 n13,D.slice 1 l14,D.slice 7 l15])) [(23,[CV.ptr 21 0,CV.d (D.bool b7)]),(21,[CV.d (D.slice 1 l8),CV.d (D.int .i64 n9)])])∧(∃l16:List D,(∃n17:Int,(∃n18:Int,((Runs P 124 [CV.ptr 21 0] [(21,[CV.d (D.slice 1 l8),CV.d (D.int .i64 n9)])] (CV.d (D.int .i64 n18)) [(21,[CV.d (D.slice 1 l16),CV.d (D.int .i64 n17)])])∧(((n18 !=0) =true→(∃l19:List D,(∃n20:Int,(∃n21:Int,((Runs P 124 [CV.ptr 21 0] [(21,[CV.d (D.slice 1 l16),CV.d (D.int .i64 n17)])] (CV.d (D.int .i64 n21)) [(21,[CV.d (D.slice 1 l19),CV.d (D.int .i64 n20)])])∧EndR (CV.tup [CV.d (D.agg [D.str [],D.int .i64 0,D.int .i64 0,D.int .i64 0,D.slice 1 [],D.slice 7 []]),CV.d (D.int .i64 n21)]) res [(4,[CV.d (D.str []),CV.d (D.int .i64 0),CV.d (D.int .i64 0),CV.d (D.int .i64 0),CV.own 1 [],CV.own 7 []]),(21,[CV.d (D.slice 1 l19),CV.d (D.int .i64 n20)]),(23,[CV.ptr 21 0,CV.d (D.bool b7)]),(9,[CV.d (D.str s10),CV.d (D.int .i64 n11),CV.d (D.int .i64 n12),CV.d (D.int .i64 n13),CV.d (D.slice 1 l14),CV.d (D.slice 7 l15)])] objs')))))∧((n18 !=0) =false→(∃n22:Int,(((!b7) =true→Runs P 77 [CV.ptr 21 0] [(21,[CV.d (D.slice 1 l16),CV.d (D.int .i64 n17)])] (CV.d (D.int .i64 n22)) [(21,[CV.d (D.slice 1 l16),CV.d (D.int .i64 n17)])])∧(∀b23:Bool,((b7||decide (n22>0)) =b23→(∀b24:Bool,((b23|| !s10==s1) =b24→(∃n25:Int,(((!b24) =true→Runs P 35 [CV.d (D.agg [D.str s10,D.int .i64 n11,D.int .i64 n12,D.int .i64 n13,D.slice 1 l14,D.slice 7 l15])] [] (CV.d (D.int .i64 n25)) [])∧(∀b26:Bool,((b24||n25 !=0) =b26→(((b26) =true→EndR (CV.tup [CV.d (D.agg [D.str [],D.int .i64 (0:Int),D.int .i64 (0:Int),D.int .i64 (0:Int),D.slice (1:Nat) [],D.slice (7:Nat) []]),CV.d (D.int .i64 (3:Int))]) res [(4,[CV.d (D.str []),CV.d (D.int .i64 0),CV.d (D.int .i64 0),CV.d (D.int .i64 0),CV.own 1 [],CV.own 7 []]),(21,[CV.d (D.slice 1 l16),CV.d (D.int .i64 n17)]),(23,[CV.ptr 21 0,CV.d (D.bool b7)]),(9,[CV.d (D.str s10),CV.d (D.int .i64 n11),CV.d (D.int .i64 n12),CV.d (D.int .i64 n13),CV.d (D.slice 1 l14),CV.d (D.slice 7 l15)])] objs')∧((b26) =false→EndR (CV.tup [CV.d (D.agg [D.str s10,D.int .i64 n11,D.int .i64 n12,D.int .i64 n13,D.slice 1 l14,D.slice 7 l15]),CV.d (D.int .i64 0)]) res [(4,[CV.d (D.str s10),CV.d (D.int .i64 n11),CV.d (D.int .i64 n12),CV.d (D.int .i64 n13),CV.d (D.slice 1 l14),CV.d (D.slice 7 l15)]),(21,[CV.d (D.slice 1 l16),CV.d (D.int .i64 n17)]),(23,[CV.ptr 21 0,CV.d (D.bool b7)]),(9,[CV.d (D.str s10),CV.d (D.int .i64 n11),CV.d (D.int .i64 n12),CV.d (D.int .i64 n13),CV.d (D.slice 1 l14),CV.d (D.slice 7 l15)])] objs')))))))))))))))))))))))))))))))))))))))):=by kernel_rfl
theorem zt141:okF P HZ4 141 1=true:=by kernel_rfl
theorem zvc141 (l:List D) (e:Int) (off:Bool) (res:CV) (objs':List (Nat×List CV)) :walkA P (tbF P [118,148,112,163,1000101,7000102,107500054,1072002147,75,117,139,172,138,2000035093,2000020094] [] 141) (anOf (afOf P HZ4 141) [(0,1000,0),(200000,1100,0)]) (afOf P HZ4 141) [CV.ptr (1000:Nat) (0:Nat)] [(1000,[CV.ptr 1100 0,CV.d (D.bool off)]),(1100,[CV.d (D.slice 1 l),CV.d (D.int .i64 e)])] (fun rs=>endE rs res objs') =((∃b3:Bool,(∃l4:List D,(∃n5:Int,(∃n6:Int,((Runs P 174 [CV.ptr 1000 0,CV.d (D.int .i64 1000000)] [(1000,[CV.ptr 1100 0,CV.d (D.bool off)]),(1100,[CV.d (D.slice 1 l),CV.d (D.int .i64 e)])] (CV.d (D.int .i64 n6)) [(1000,[CV.ptr 1100 0,CV.d (D.bool b3)]),(1100,[CV.d (D.slice 1 l4),CV.d (D.int .i64 n5)])])∧(∃b7:Bool,(∃l8:List D,(∃n9:Int,(∃n10:Int,((Runs P 174 [CV.ptr 1000 0,CV.d (D.int .i64 1000000)] [(1000,[CV.ptr 1100 0,CV.d (D.bool b3)]),(1100,[CV.d (D.slice 1 l4),CV.d (D.int .i64 n5)])] (CV.d (D.int .i64 n10)) [(1000,[CV.ptr 1100 0,CV.d (D.bool b7)]),(1100,[CV.d (D.slice 1 l8),CV.d (D.int .i64 n9)])])∧(∃b11:Bool,(∃l12:List D,(∃n13:Int,(∃n14:Int,((Runs P 174 [CV.ptr 1000 0,CV.d (D.int .i64 1000000)] [(1000,[CV.ptr 1100 0,CV.d (D.bool b7)]),(1100,[CV.d (D.slice 1 l8),CV.d (D.int .i64 n9)])] (CV.d (D.int .i64 n14)) [(1000,[CV.ptr 1100 0,CV.d (D.bool b11)]),(1100,[CV.d (D.slice 1 l12),CV.d (D.int .i64 n13)])])∧(∃b15:Bool,(∃l16:List D,(∃n17:Int,(∃s18:Bytes,((Runs P 175 [CV.ptr 1000 0,CV.d (D.int .i64 24)] [(1000,[CV.ptr 1100 0,CV.d (D.bool b11)]),(1100,[CV.d (D.slice 1 l12),CV.d (D.int .i64 n13)])] (CV.d (D.str s18)) [(1000,[CV.ptr 1100 0,CV.d (D.bool b15)]),(1100,[CV.d (D.slice 1 l16),CV.d (D.int .i64 n17)])])∧(∃b19:Bool,(∃l20:List D,(∃n21:Int,(∃n22:Int,((Runs P 174 [CV.ptr 1000 0,CV.d (D.int .i64 64)] [(1000,[CV.ptr 1100 0,CV.d (D.bool b15)]),(1100,[CV.d (D.slice 1 l16),CV.d (D.int .i64 n17)])] (CV.d (D.int .i64 n22)) [(1000,[CV.ptr 1100 0,CV.d (D.bool b19)]),(1100,[CV.d (D.slice 1 l20),CV.d (D.int .i64 n21)])])∧(∃I23:(Int→(List D→(Bool→(List D→(Int→(Nat→Prop)))))),(((CV.d (D.str s18) =CV.d (D.str s18))∧((CV.d (D.int .i64 n6) =CV.d (D.int .i64 n6))∧((CV.d (D.int .i64 n10) =CV.d (D.int .i64 n10))∧((CV.d (D.int .i64 n14) =CV.d (D.int .i64 n14))∧((CV.own (7:Nat) []=CV.own (7:Nat) [])∧((CV.ptr (1100:Nat) (0:Nat) =CV.ptr (1100:Nat) (0:Nat))∧(∃k24:Nat,I23 0 [] b19 l20 n21 k24)))))))∧(∀n25:Int,(∀l26:List D,(∀b27:Bool,(∀l28:List D,(∀n29:Int,(∀k30:Nat,(I23 n25 l26 b27 l28 n29 k30→(((decide (n25<n22)) =true→(∃b31:Bool,(∃l32:List D,(∃n33:Int,(∃s34:Bytes,((Runs P 175 [CV.ptr 1000 0,CV.d (D.int .i64 24)] [(1000,[CV.ptr 1100 0,CV.d (D.bool b27)]),(1100,[CV.d (D.slice 1 l28),CV.d (D.int .i64 n29)])] (CV.d (D.str s34)) [(1000,[CV.ptr 1100 0,CV.d (D.bool b31)]),(1100,[CV.d (D.slice 1 l32),CV.d (D.int .i64 n33)])])∧(((List.length l26+List.length [D.str s34]) *16≤140737488355328)∧(∀n35:Int,(Go.IntKind.wrap Go.IntKind.i64 (n25+1) =n35→((CV.d (D.str s18) =CV.d (D.str s18))∧((CV.d (D.int .i64 n6) =CV.d (D.int .i64 n6))∧((CV.d (D.int .i64 n10) =CV.d (D.int .i64 n10))∧((CV.d (D.int .i64 n14) =CV.d (D.int .i64 n14))∧((CV.own (7:Nat) []=CV.own (7:Nat) [])∧((CV.ptr (1100:Nat) (0:Nat) =CV.ptr (1100:Nat) (0:Nat))∧(∃k36:Nat,((k36<k30)∧I23 n35 (l26++ [D.str s34]) b31 l32 n33 k36)))))))))))))))))∧((decide (n25<n22)) =false→(∃b37:Bool,(∃l38:List D,(∃n39:Int,(∃n40:Int,((Runs P 174 [CV.ptr 1000 0,CV.d (D.int .i64 60)] [(1000,[CV.ptr 1100 0,CV.d (D.bool b27)]),(1100,[CV.d (D.slice 1 l28),CV.d (D.int .i64 n29)])] (CV.d (D.int .i64 n40)) [(1000,[CV.ptr 1100 0,CV.d (D.bool b37)]),(1100,[CV.d (D.slice 1 l38),CV.d (D.int .i64 n39)])])∧(∃I41:(Int→(Int→(Bool→(List D→(Int→(List D→(Nat→Prop))))))),(((CV.ptr (1100:Nat) (0:Nat) =CV.ptr (1100:Nat) (0:Nat))∧((CV.d (D.str s18) =CV.d (D.str s18))∧((CV.d (D.int .i64 n6) =CV.d (D.int .i64 n6))∧((CV.d (D.int .i64 n10) =CV.d (D.int .i64 n10))∧((CV.d (D.int .i64 n14) =CV.d (D.int .i64 n14))∧((CV.own 1 l26=CV.own 1 l26)∧(∃k42:Nat,I41 0 0 b37 l38 n39 [] k42)))))))∧(∀n43:Int,(∀n44:Int,(∀b45:Bool,(∀l46:List D,(∀n47:Int,(∀l48:List D,(∀k49:Nat,(I41 n43 n44 b45 l46 n47 l48 k49→(((decide (n44<n40)) =true→(∃b50:Bool,(∃l51:List D,(∃n52:Int,(∃n53:Int,(∃n54:Int,(∃n55:Int,(∃s56:Bytes,(∃n57:Int,(∃l58:List D,(∃s59:Bytes,((Runs P 176 [CV.ptr 1000 0,CV.d (D.int .i64 n43)] [(1000,[CV.ptr 1100 0,CV.d (D.bool b45)]),(1100,[CV.d (D.slice 1 l46),CV.d (D.int .i64 n47)])] (CV.d (D.agg [D.int .i64 n53,D.int .i64 n54,D.int .i64 n55,D.str s56,D.int .i64 n57,D.slice 1 l58,D.str s59])) [(1000,[CV.ptr 1100 0,CV.d (D.bool b50)]),(1100,[CV.d (D.slice 1 l51),CV.d (D.int .i64 n52)])])∧(((List.length l48+List.length [D.agg [D.int .i64 n53,D.int .i64 n54,D.int .i64 n55,D.str s56,D.int .i64 n57,D.slice 1 l58,D.str s59]]) *88≤140737488355328)∧(∀n60:Int,(Go.IntKind.wrap Go.IntKind.i64 (n44+1) =n60→((CV.ptr (1100:Nat) (0:Nat) =CV.ptr (1100:Nat) (0:Nat))∧((CV.d (D.str s18) =CV.d (D.str s18))∧((CV.d (D.int .i64 n6) =CV.d (D.int .i64 n6))∧((CV.d (D.int .i64 n10) =CV.d (D.int .i64 n10))∧((CV.d (D.int .i64 n14) =CV.d (D.int .i64 n14))∧((CV.own 1 l26=CV.own 1 l26)∧(∃k61:Nat,((k61<k49)∧I41 n53 n60 b50 l51 n52 (l48++ [D.agg [D.int .i64 n53,D.int .i64 n54,D.int .i64 n55,D.str s56,D.int .i64 n57,D.slice 1 l58,D.str s59]]) k61)))))))))))))))))))))))∧((decide (n44<n40)) =false→EndR (CV.d (D.agg [D.str s18,D.int .i64 n6,D.int .i64 n10,D.int .i64 n14,D.slice 1 l26,D.slice 7 l48])) res [(1000,[CV.ptr 1100 0,CV.d (D.bool b45)]),(1100,[CV.d (D.slice 1 l46),CV.d (D.int .i64 n47)]),(2,[CV.d (D.str s18),CV.d (D.int .i64 n6),CV.d (D.int .i64 n10),CV.d (D.int .i64 n14),CV.d (D.slice 1 l26),CV.d (D.slice 7 l48)]),(3,[CV.d (D.str s18),CV.d (D.int .i64 n6),CV.d (D.int .i64 n10),CV.d (D.int .i64 n14),CV.own 1 l26,CV.own 7 l48])] objs')))))))))))))))))))))))))))))))))))))))))))))))))))))):=by kernel_rfl
theorem zt16:okF P HZ4 16 2=true:=by kernel_rfl
theorem zt19:okF P HZ4 19 1=true:=by kernel_rfl
theorem zt29:okF P HZ4 29 2=true:=by kernel_rfl
theorem zvc19 (l0:List D) (res:CV) (objs':List (Nat×List CV)) :walkA P (tbF P [118,148,112,163,1000101,7000102,107500054,1072002147,75,117,139,172,138,2000035093,2000020094] [] 19) (anOf (afOf P HZ4 19) []) (afOf P HZ4 19) [CV.d (D.slice 1 l0)] [] (fun rs=>endE rs res objs') =((∃l1:List D,((Runs P 47 [] [] (CV.d (D.slice 3 l1)) [])∧(∃l2:List D,(∃n3:Int,((Runs P 50 [CV.d (D.slice 3 l1),CV.fn 51 [1]] [(1,[CV.d (D.slice 1 l0)])] (CV.d (D.int .i64 n3)) [(1,[CV.d (D.slice 1 l2)])])∧(∀n4:Int,(Go.IntKind.wrap Go.IntKind.i64 (1+n3) =n4→EndR (CV.d (D.int .i64 n4)) res [(1,[CV.d (D.slice 1 l2)])] objs')))))))):=by kernel_rfl
theorem zvc29 (l0:List D) (s1:Bytes) (res:CV) (objs':List (Nat×List CV)) :walkA P (tbF P [118,148,112,163,1000101,7000102,107500054,1072002147,75,117,139,172,138,2000035093,2000020094] [] 29) (anOf (afOf P HZ4 29) []) (afOf P HZ4 29) [CV.d (D.slice 1 l0),CV.d (D.str s1)] [] (fun rs=>endE rs res objs') =((∃n2:Int,((Runs P 19 [CV.d (D.slice 1 l0)] [] (CV.d (D.int .i64 n2)) [])∧(((n2==0) =true→EndR (CV.tup [CV.d (D.agg [D.str [],D.int .i64 (0:Int),D.int .i64 (0:Int),D.int .i64 (0:Int),D.slice (1:Nat) [],D.slice (7:Nat) []]),CV.d (D.int .i64 (3:Int))]) res [((4:Nat),[CV.d (D.str []),CV.d (D.int .i64 (0:Int)),CV.d (D.int .i64 (0:Int)),CV.d (D.int .i64 (0:Int)),CV.own (1:Nat) [],CV.own (7:Nat) []])] objs')∧((n2==0) =false→(∃l3:List D,((Runs P 47 [] [] (CV.d (D.slice 3 l3)) [])∧(∀n4:Int,(Go.IntKind.wrap Go.IntKind.i64 (n2- 1) =n4→((0≤n4∧n4<nI (List.length l3))∧(∃s5:Bytes,(∃v6:Option Nat,(∃v7:Option Nat,((D.cells (List.getD l3 (Int.toNat n4) D.nilp) = [D.str s5,D.fn v6,D.fn v7])∧(∃k8:Nat,((D.fn v7=D.fn (Option.some k8))∧(∃s9:Bytes,(∃n10:Int,(∃n11:Int,(∃n12:Int,(∃l13:List D,(∃l14:List D,(∃n15:Int,((Runs P k8 [CV.d (D.slice 1 l0),CV.d (D.str s1)] [] (CV.tup [CV.d (D.agg [D.str s9,D.int .i64 n10,D.int .i64 n11,D.int .i64 n12,D.slice 1 l13,D.slice 7 l14]),CV.d (D.int .i64 n15)]) [])∧EndR (CV.tup [CV.d (D.agg [D.str s9,D.int .i64 n10,D.int .i64 n11,D.int .i64 n12,D.slice 1 l13,D.slice 7 l14]),CV.d (D.int .i64 n15)]) res [(4,[CV.d (D.str s9),CV.d (D.int .i64 n10),CV.d (D.int .i64 n11),CV.d (D.int .i64 n12),CV.d (D.slice 1 l13),CV.d (D.slice 7 l14)])] objs')))))))))))))))))))))))):=by kernel_rfl
theorem zvc16 (n0:Int) (s1:Bytes) (n2:Int) (n3:Int) (n4:Int) (l5:List D) (l6:List D) (res:CV) (objs':List (Nat×List CV)) :walkA P (tbF P [118,148,112,163,1000101,7000102,107500054,1072002147,75,117,139,172,138,2000035093,2000020094] [] 16) (anOf (afOf P HZ4 16) []) (afOf P HZ4 16) [CV.d (D.int .i64 n0),CV.d (D.agg [D.str s1,D.int .i64 n2,D.int .i64 n3,D.int .i64 n4,D.slice 1 l5,D.slice 7 l6])] [] (fun rs=>endE rs res objs') =((∀b7:Bool,((decide (n0<1) ||decide (n0>3)) =b7→(∃n8:Int,(((!b7) =true→Runs P 35 [CV.d (D.agg [D.str s1,D.int .i64 n2,D.int .i64 n3,D.int .i64 n4,D.slice 1 l5,D.slice 7 l6])] [] (CV.d (D.int .i64 n8)) [])∧(∀b9:Bool,((b7||n8 !=0) =b9→(((b9) =true→EndR (CV.tup [CV.own (1:Nat) [],CV.own (11:Nat) [],CV.d (D.int .i64 (1:Int))]) res [(3,[CV.d (D.str s1),CV.d (D.int .i64 n2),CV.d (D.int .i64 n3),CV.d (D.int .i64 n4),CV.d (D.slice 1 l5),CV.d (D.slice 7 l6)])] objs')∧((b9) =false→(∃l10:List D,((Runs P 46 [CV.d (D.int .i64 n0),CV.d (D.agg [D.str s1,D.int .i64 n2,D.int .i64 n3,D.int .i64 n4,D.slice 1 l5,D.slice 7 l6])] [] (CV.d (D.slice 11 l10)) [])∧(((decide (nI (List.length l10) >200)) =true→EndR (CV.tup [CV.own (1:Nat) [],CV.own (11:Nat) [],CV.d (D.int .i64 (4:Int))]) res [(3,[CV.d (D.str s1),CV.d (D.int .i64 n2),CV.d (D.int .i64 n3),CV.d (D.int .i64 n4),CV.d (D.slice 1 l5),CV.d (D.slice 7 l6)])] objs')∧((decide (nI (List.length l10) >200)) =false→(∃l11:List D,((Runs P 47 [] [] (CV.d (D.slice 3 l11)) [])∧(∀n12:Int,(Go.IntKind.wrap Go.IntKind.i64 (n0- 1) =n12→((0≤n12∧n12<nI (List.length l11))∧(∃s13:Bytes,(∃v14:Option Nat,(∃v15:Option Nat,((D.cells (List.getD l11 (Int.toNat n12) D.nilp) = [D.str s13,D.fn v14,D.fn v15])∧(∃k16:Nat,((D.fn v14=D.fn (Option.some k16))∧(∃l17:List D,(∃n18:Int,((Runs P k16 [CV.d (D.agg [D.str s1,D.int .i64 n2,D.int .i64 n3,D.int .i64 n4,D.slice 1 l5,D.slice 7 l6])] [] (CV.tup [CV.d (D.slice 1 l17),CV.d (D.int .i64 n18)]) [])∧(((n18 !=0) =true→EndR (CV.tup [CV.own 1 [],CV.own 11 [],CV.d (D.int .i64 n18)]) res [(3,[CV.d (D.str s1),CV.d (D.int .i64 n2),CV.d (D.int .i64 n3),CV.d (D.int .i64 n4),CV.d (D.slice 1 l5),CV.d (D.slice 7 l6)])] objs')∧((n18 !=0) =false→EndR (CV.tup [CV.d (D.slice 1 l17),CV.d (D.slice 11 l10),CV.d (D.int .i64 0)]) res [(3,[CV.d (D.str s1),CV.d (D.int .i64 n2),CV.d (D.int .i64 n3),CV.d (D.int .i64 n4),CV.d (D.slice 1 l5),CV.d (D.slice 7 l6)])] objs'))))))))))))))))))))))))))))):=by kernel_rfl
end B
end Go.Proofs.YtmkkljbfmdngfaaGreatDoor
namespace Go.Proofs.YtmkkljbfmdngfaaGreatDoor
namespace B
open Go.RowKit Go.Sort
theorem info5: ∃i0,Tryz.prog.info? 5=some i0∧i0.zero=some (.int .u8 0)∧i0.size=1∧i0.bytes=1:=info_of (by kernel_rfl) (by kernel_rfl)
theorem z172 (n:Nat) (hn:n≤1099511627776) :Runs P 172 [.nils, .d (.int .i64 n)] [] (.own 1 []) []:=by
 refine ⟨⟨Tryz.f172,Tryz.func172,by kernel_rfl,by kernel_rfl⟩,fun Γ ρ bl vals w h hz=> ?_⟩
 obtain ⟨v,u,rfl,hv,hu⟩:=vals2 h
 have hv:v= .slice none 0 0:=hv
 subst hv
 cases hu
 have rk: ∀ρ' bl',∀b,(([]:List (Nat×List CV)).lookup b).isSome=true→lowB 172 b=true→RK ρ ρ' bl bl' b:=fun _ _ b hb _=>by simp at hb
 have rf: ∀Γ,RepF Γ 1 [] []:=fun _=>⟨by simp,by simp [flatten],by simp [flatten],by simp [flatten]⟩
 by_cases h0:n=0
 ·subst h0
  refine (Any8.slices_Grow_room Tryz.laysG172 none 0 0 0 w (by omega) (by omega) (by omega) (by omega)).mono ?_
  rintro e w' ⟨rfl,rfl⟩
  exact ⟨_,Γ,ρ,bl,rfl,h.result (res:= .own 1 []) (.inl ⟨5,[],rowS_nil _ _ _,rf _,fun g hg=>by simp [Value.ownBlock] at hg⟩) (fun b hb=>hb.elim),(Fr.refl _ _ _).to0,rk _ _⟩
 ·obtain ⟨i0,h1,h2,h3,h4⟩:=info5
  refine (Any8.slices_Grow_grow Tryz.laysG172 i0 _ h1 h2 (by rw [h3];decide) none 0 0 n [] w (by omega) (by omega) (by rw [h4];omega) (by omega) (by simp) (fun _=>rfl) (fun a ha=>by cases ha)).mono ?_
  rintro e w' ⟨he,hw⟩
  rw [show Tryz.laysG172_ren.t 25=5 from rfl] at he hw
  subst he;subst hw
  have hd:SR Γ ρ bl ⟨[.nils, .d (.int .i64 n)],[]⟩ #[.slice none 0 0, .int .i64 n] w.drew:=h.world (w':=w.drew) (Nat.le_refl _) (fun _ _=>rfl)
  have hge:=grownCap_ge w (0+n) 0 5
  have hle:=grownCap_le_maxLen w (0+n) 0 5 (by unfold Go.maxLen;omega)
  generalize grownCap w (0+n) 0 5=cap at hge hle⊢
  obtain ⟨g1,f1⟩:=hd.newOwn ((([]:List Value).toArray++Builtin.zeroCells (Value.int .u8 0).cells (0+n- 0) ++Builtin.zeroCells (Value.int .u8 0).cells (cap-(0+n)))) 5 [] (by simp) (.own (.s 0) 0)
  refine ⟨_,_,_,bl,rfl,g1.result (res:= .own 1 []) (.inl ⟨5,[],⟨by simp,Or.inr ⟨w.heap.size,cap,_,rfl,⟨(0,0), .inl rfl,heap_alloc_new w.drew _⟩,Nat.zero_le _,hle, ?_,by simp⟩⟩,rf _,fun g hg=> ?_⟩) (fun b hb=>hb.elim),⟨f1.le,f1.size,f1.os,f1.tape,f1.output,f1.block,f1.new⟩,rk _ _⟩
  ·have e1:(Value.int IntKind.u8 0).cells.size=1:=rfl
   simp [Builtin.zeroCells,e1]
   omega
  ·simp [Value.ownBlock] at hg
   subst hg
   exact ⟨upd_same _ _ _,fun o=>freezeRow_at _ _ _ _⟩
def bss (ls:List Bytes) :List D:=ls.map fun l=> .slice 1 (bs l)
theorem bss_get (ls:List Bytes) {i:Nat} (h:i<ls.length) :(bss ls).getD (Int.toNat (i:Int)) .nilp= .slice 1 (bs ls[i]):=getD_map _ ls h
def lenB (ls:List Bytes) :Nat:=(ls.map List.length).sum
theorem lenB_take (ls:List Bytes) {i:Nat} (h:i<ls.length) :lenB (ls.take (i+1)) =lenB (ls.take i) +ls[i].length:=by
 unfold lenB;rw [List.take_succ_eq_append_getElem h,List.map_append,List.sum_append]
 show _+(ls[i].length+0) =_
 rw [Nat.add_zero]
theorem lenB_le (ls:List Bytes) (i:Nat) :lenB (ls.take i)≤lenB ls:=by
 unfold lenB
 conv=>rhs;rw [←List.take_append_drop i ls]
 rw [List.map_append,List.sum_append]
 exact Nat.le_add_right _ _
theorem z139 (ls:List Bytes) (h1:ls.length≤1099511627776) (h2:lenB ls≤1099511627776) :Runs P 139 [.d (.slice 1 (bss ls))] [] (.own 1 (bs ls.flatten)) []:=by
 refine runs_walkZ zt139 (zvc139 _ _ _) rfl (by simp) ?_
 have hn:nI (List.length (bss ls)) =nI ls.length:=by simp [nI,bss]
 rw [hn]
 refine range2 (fun i n=>n=(lenB (ls.take i) :Int)) (by omega) rfl (fun i hi bd n hJ I k next=>⟨bd,_,by rw [bss_get ls hi];rfl, ?_⟩) fun n hJ=> ?_
 ·subst hJ
  rintro _ rfl
  have hle:=lenB_le ls (i+1)
  rw [lenB_take ls hi] at hle
  rw [bs_len,W64 (by simp only [nI];omega) (by simp only [nI];omega)]
  refine ⟨fun h=>absurd (of_decide_eq_true h) (by simp only [nI];omega),fun _=>next _ ?_⟩
  rw [lenB_take ls hi];simp [nI]
 ·subst hJ
  rw [List.take_length]
  refine ⟨_,z172 _ h2,range2 (fun i l=>l=bs (ls.take i).flatten) (by omega) rfl (fun i hi bd l hJ I k next=>⟨bd,_,by rw [bss_get ls hi];rfl, ?_⟩) fun l hJ=> ?_⟩
  ·subst hJ
   have hl:(ls.take i).flatten.length=lenB (ls.take i):=by simp [lenB,List.length_flatten]
   have hle:=lenB_le ls (i+1)
   rw [lenB_take ls hi] at hle
   refine ⟨by rw [bs_len,bs_len,hl];omega,next _ ?_⟩
   rw [List.take_succ_eq_append_getElem hi,List.flatten_append,bs_app]
   simp
  ·subst hJ
   rw [List.take_length];exact end0 rfl rfl
theorem z139b (s t:Bytes) (h:s.length+t.length≤1099511627776) :Runs P 139 [.d (.slice 1 [.slice 1 (bs s), .slice 1 (bs t)])] [] (.own 1 (bs (s++t))) []:=by
 have:=z139 [s,t] (by simp) (by simp [lenB];omega)
 simpa [bss] using this
def less3 (a b:Int) :Int:=if a≤b then 0 else if Go.IntKind.wrap .i64 (a-b) <0 then 1099511627776 else Go.IntKind.wrap .i64 (a-b)
theorem less3_num {a b:Int} (ha: -4000000000000000000≤a∧a≤4000000000000000000) (hb: -4000000000000000000≤b∧b≤4000000000000000000) :numB (less3 a b) =numB (a-b):=by
 unfold less3
 split
 ·unfold numB;congr 1;congr 1;omega
 ·rw [W64 (by omega) (by omega),if_neg (by omega)]
theorem z173 (a b:Int) :Runs P 173 [.d (iD a), .d (iD b)] [] (.d (iD (less3 a b))) []:=by
 refine runs_walkZ zt173 (zvc173 _ _ _ _) rfl (by simp) ?_
 unfold less3
 refine ⟨fun h=> ?_,fun h=> ?_⟩
 ·rw [if_pos (of_decide_eq_true h)];exact endI rfl
 ·rw [if_neg (of_decide_eq_false h)]
  rintro _ rfl
  refine ⟨fun h=> ?_,fun h=> ?_⟩
  ·rw [if_pos (of_decide_eq_true h)];exact endI rfl
  ·rw [if_neg (of_decide_eq_false h)]
   rintro _ rfl
   exact endI rfl
theorem z138 (s:Bytes) (l:List Int) (h:s.length+6*l.length≤1099511627776) :Runs P 138 [.d (.slice 1 (bs s)), .d (.slice 1 (ints l))] [] (.d (.slice 1 (bs (s++l.flatMap numB)))) []:=by
 refine runs_walkZ zt138 (zvc138 _ _ _ _) rfl (by simp) ?_
 rw [ints_len]
 refine range2 (fun i x=>x=bs (s++(l.take i).flatMap numB)) (by omega) (by simp) (fun i hi bd x hJ I k next=>⟨bd,l[i],by rw [ints_get l hi];rfl, ?_⟩) fun x hJ=> ?_
 ·subst hJ
  have hl:=nums_len (l.take i)
  rw [List.length_take] at hl
  refine ⟨_,r103 _ _ (by rw [List.length_append];omega),next _ ?_⟩
  rw [List.take_succ_eq_append_getElem hi,List.flatMap_append,List.append_assoc];simp
 ·subst hJ
  rw [List.take_length]
  exact endD rfl
theorem z138' (s:Bytes) (l:List D) (m:List Int) (e:l=ints m) (h:s.length+6*m.length≤1099511627776) :Runs P 138 [.d (.slice 1 (bs s)), .d (.slice 1 l)] [] (.d (.slice 1 (bs (s++m.flatMap numB)))) []:=by
 subst e;exact z138 s m h
theorem keys3_snoc: ∀(l:List Int) (was k:Int),keys3 was (l++ [k]) =keys3 was l++numB (k-l.getLastD was)
 | [],was,k=>by simp [keys3]
 | x :: l,was,k=>by
  rw [List.cons_append,keys3,keys3,keys3_snoc l x k,List.append_assoc]
  rw [List.getLastD_cons]
theorem keys3_len: ∀(l:List Int) (was:Int),(keys3 was l).length≤6*l.length
 | [],_=>by simp [keys3]
 | k :: r,was=>by
  have h1:=num_len (k-was)
  have h2:=keys3_len r k
  rw [keys3,List.length_append,List.length_cons];omega
theorem msg3_len (last:Int) (m:Msg) :(msg3 last m).length≤6*m.keys.length+m.id.length+m.text.length+60:=by
 have h1:=num_len (m.uid-last);have h2:=num_len m.mod;have h3:=num_len m.date;have h4:=num_len m.flags;have h5:=num_len m.keys.length
 have h6:=keys3_len m.keys (-1);have h7:=txt_len m.id;have h8:=txt_len m.text
 simp only [msg3,List.length_append];omega
theorem getLastD_take {l:List Int} {i:Nat} (hi:i<l.length) (a:Int) :(l.take (i+1)).getLastD a=l[i]:=by
 rw [List.take_succ_eq_append_getElem hi,List.getLastD_eq_getLast?,List.getLast?_append];rfl
theorem z140 (s:Bytes) {nw:Nat} (m:Msg) (last:Int) (hm:MsgMay nw m) (hn:nw≤64) (hl:0≤last∧last≤1000000) (h:s.length≤1099511000000) :Runs P 140 [.d (.slice 1 (bs s)), .d m.d, .d (iD last)] [] (.d (.slice 1 (bs (s++msg3 last m)))) []:=by
 refine runs_walkZ zt140 (zvc140 (bs s) m.uid m.mod m.date m.id m.flags (ints m.keys) m.text last _ _) rfl (by simp) ?_
 have h1:=hm.uid;have h4:=(atom_len hm.id).2;have h6:=hm.text
 have hkl:=hm.keyLen
 have hk0:=hm.key0
 rw [ints_len]
 have hb:(s++ [less3 m.uid last,m.mod,m.date,m.flags,(m.keys.length:Int)].flatMap numB).length≤s.length+30:=by
  have:=nums_len [less3 m.uid last,m.mod,m.date,m.flags,(m.keys.length:Int)]
  rw [List.length_append]
  simp only [List.length_cons,List.length_nil] at this;omega
 refine ⟨_,z173 _ _,_,z138' s _ [less3 m.uid last,m.mod,m.date,m.flags,(m.keys.length:Int)] rfl (by simp;omega), ?_⟩
 refine ⟨fun l w n k=>∃i:Nat,n=i∧i≤m.keys.length∧k=m.keys.length-i∧l=bs ((s++ [less3 m.uid last,m.mod,m.date,m.flags,(m.keys.length:Int)].flatMap numB) ++keys3 (-1) (m.keys.take i))∧w=(m.keys.take i).getLastD (-1),
  ⟨_,0,rfl,by omega,rfl,by simp [keys3],rfl⟩, ?_⟩
 rintro _ _ _ _ ⟨i,rfl,hi,rfl,rfl,rfl⟩
 refine ⟨fun h=> ?_,fun h=> ?_⟩
 ·have h:=of_decide_eq_true h
  have hlt:i<m.keys.length:=by simp only [nI] at h;omega
  have hkk:=hk0 _ (List.getElem_mem hlt)
  have hw: -1≤(m.keys.take i).getLastD (-1)∧(m.keys.take i).getLastD (-1)≤1000000:=by
   cases i with
   | zero=>simp
   | succ j=>
    rw [getLastD_take (by omega)]
    have:=hk0 _ (List.getElem_mem (show j<m.keys.length by omega));omega
  have hlen:=keys3_len (m.keys.take i) (-1)
  rw [List.length_take] at hlen
  refine ⟨⟨by omega,h⟩,m.keys[i],by rw [ints_get _ hlt];rfl,_,z173 _ _,_,z138' _ _ [less3 m.keys[i] ((m.keys.take i).getLastD (-1))] rfl (by rw [List.length_append];simp only [List.length_cons,List.length_nil];omega), ?_⟩
  rintro _ rfl
  refine ⟨m.keys.length-(i+1),by omega,i+1,W64 (by omega) (by omega),by omega,rfl, ?_,(getLastD_take hlt _).symm⟩
  rw [List.take_succ_eq_append_getElem hlt,keys3_snoc,←List.append_assoc]
  simp only [List.flatMap_cons,List.flatMap_nil,List.append_nil]
  rw [less3_num (a:=m.keys[i]) (by omega) (by omega)]
 ·have h:=of_decide_eq_false h
  obtain rfl:i=m.keys.length:=by simp only [nI] at h;omega
  have hlen:=keys3_len m.keys (-1)
  have ht:=txt_len m.id
  rw [List.take_length]
  refine ⟨_,r50 _ _ (by rw [List.length_append];omega),_,r50 _ _ (by simp only [List.length_append] at hb⊢;omega),endOD ?_⟩
  congr 1
  unfold msg3
  simp only [List.flatMap_cons,List.flatMap_nil,List.append_nil,List.append_assoc]
  rw [less3_num (by omega) (by omega)]
theorem msgs3_snoc: ∀(l:List Msg) (last:Int) (m:Msg),msgs3 last (l++ [m]) =msgs3 last l++msg3 ((l.map Msg.uid).getLastD last) m
 | [],last,m=>by simp [msgs3]
 | x :: l,last,m=>by
  rw [List.cons_append,msgs3,msgs3,msgs3_snoc l x.uid m,List.append_assoc,List.map_cons,List.getLastD_cons]
theorem msgs3_len {nw:Nat} (hn:nw≤64) : ∀(l:List Msg) (last:Int),(∀m∈l,MsgMay nw m)→(msgs3 last l).length≤800*l.length
 | [],_,_=>by simp [msgs3]
 | m :: r,last,h=>by
  have h1:=msg3_len last m
  have h2:=msgs3_len hn r m.uid fun x hx=>h x (by simp [hx])
  have hm:=h m (by simp)
  have:=hm.keyLen;have:=(atom_len hm.id).2;have:=hm.text
  rw [msgs3,List.length_append,List.length_cons];omega
theorem texts_len: ∀l:List Bytes,(∀w∈l,w.length≤24)→(l.flatMap txtB).length≤30*l.length
 | [],_=>by simp
 | w :: r,h=>by
  have h1:=txt_len w
  have h2:=h w (by simp)
  have h3:=texts_len r fun x hx=>h x (by simp [hx])
  rw [List.flatMap_cons,List.length_append,List.length_cons];omega
theorem z97 (b:Box) (hb:BoxOk b) :Runs P 97 [.d b.d] [] (if mayBox b=0 then .tup [.d (.slice 1 (bs (form3B b))), .d (iD 0)] else .tup [.d (.slice 1 []), .d (iD 1)]) []:=by
 refine runs_walkZ zt97 (zvc97 b.id b.valid b.next b.high (strs b.words) (b.msgs.map Msg.d) _ _) rfl (by simp) ?_
 refine ⟨_,r47 b hb,fun h=> ?_,fun h=>⟨by simp, ?_⟩⟩
 ·have h:mayBox b≠0:=by simpa using h
  rw [if_neg h]
  exact ⟨⟨rfl,rfl,trivial⟩,trivial,rfl⟩
 have h:mayBox b=0:=by simpa using h
 rw [if_pos h]
 have hM:=boxMay.1 h
 have hnw:=hM.nw
 have hnm:=hM.nm
 have hid:=hM.id.2
 have hMs:=msgsMay.1 hM.msgs
 have e0: [D.int .u8 77,D.int .u8 66,D.int .u8 51]=bs [77,66,51]:=rfl
 rw [e0,strs_len,nI_map]
 have n1:=num_len b.valid;have n2:=num_len b.next;have n3:=num_len b.high;have n4:=num_len b.words.length;have n5:=num_len b.msgs.length;have n6:=txt_len b.id
 have hwt:=texts_len b.words fun w hw=>(atom_len ((wordsB_iff.1 hM.words).1 w hw).1).2
 have hwl: ∀w∈b.words,w.length≤24:=fun w hw=>(atom_len ((wordsB_iff.1 hM.words).1 w hw).1).2
 obtain ⟨H,hH⟩ : ∃H,H=(([77,66,51]++ [b.valid,b.next,b.high].flatMap numB) ++txtB b.id) ++ [(b.words.length:Int)].flatMap numB:=⟨_,rfl⟩
 have hHl:H.length≤3+18+18+6:=by
  rw [hH];simp only [List.flatMap_cons,List.flatMap_nil,List.append_nil,List.length_append,List.length_cons,List.length_nil];omega
 refine ⟨_,z138' [77,66,51] _ [b.valid,b.next,b.high] rfl (by simp),_,r50 _ _ (by simp only [List.flatMap_cons,List.flatMap_nil,List.append_nil,List.length_append,List.length_cons,List.length_nil];omega),_,z138' _ _ [(b.words.length:Int)] rfl (by simp only [List.flatMap_cons,List.flatMap_nil,List.append_nil,List.length_append,List.length_cons,List.length_nil];omega), ?_⟩
 rw [←hH]
 refine range2 (fun i x=>x=bs (H++(b.words.take i).flatMap txtB)) (by omega) (by simp) (fun i hi bd x hJ I k next=>⟨bd,b.words[i],by rw [strs_get _ hi];rfl, ?_⟩) fun x hJ=> ?_
 ·subst hJ
  have h1:=texts_len (b.words.take i) fun w hw=>hwl w (List.mem_of_mem_take hw)
  rw [List.length_take] at h1
  have h2:=hwl _ (List.getElem_mem hi)
  refine ⟨_,r50 _ _ (by rw [List.length_append];omega),next _ ?_⟩
  rw [List.take_succ_eq_append_getElem hi,List.flatMap_append,List.append_assoc];simp
 ·subst hJ
  rw [List.take_length]
  obtain ⟨G,hG⟩ : ∃G,G=(H++b.words.flatMap txtB) ++ [(b.msgs.length:Int)].flatMap numB:=⟨_,rfl⟩
  have hGl:G.length≤2100:=by
   rw [hG];simp only [List.flatMap_cons,List.flatMap_nil,List.append_nil,List.length_append];omega
  refine ⟨_,z138' _ _ [(b.msgs.length:Int)] rfl (by simp only [List.length_append,List.length_cons,List.length_nil];omega), ?_⟩
  rw [←hG]
  refine ⟨fun l w n k=>∃i:Nat,n=i∧i≤b.msgs.length∧k=b.msgs.length-i∧l=bs (G++msgs3 0 (b.msgs.take i))∧w=((b.msgs.take i).map Msg.uid).getLastD 0,⟨_,0,rfl,by omega,rfl,by simp [msgs3],rfl⟩, ?_⟩
  rintro _ _ _ _ ⟨i,rfl,hi,rfl,rfl,rfl⟩
  refine ⟨fun h=> ?_,fun h=> ?_⟩
  ·have h:=of_decide_eq_true h
   have hlt:i<b.msgs.length:=by simp only [nI] at h;omega
   have hm:=(hMs.all _ (List.getElem_mem hlt)).2.1
   have hw:0≤((b.msgs.take i).map Msg.uid).getLastD 0∧((b.msgs.take i).map Msg.uid).getLastD 0≤1000000:=by
    cases i with
    | zero=>simp
    | succ j=>
     have hj:j<b.msgs.length:=by omega
     have:=(hMs.all _ (List.getElem_mem hj)).2.1.uid
     rw [List.take_succ_eq_append_getElem hj,List.map_append,List.getLastD_eq_getLast?,List.getLast?_append]
     show 0≤b.msgs[j].uid∧b.msgs[j].uid≤1000000
     omega
   have hl1:=msgs3_len hnw (b.msgs.take i) 0 fun m hm=>(hMs.all m (List.mem_of_mem_take hm)).2.1
   rw [List.length_take] at hl1
   have hl2:=msg3_len (((b.msgs.take i).map Msg.uid).getLastD 0) b.msgs[i]
   have:=hm.keyLen;have:=(atom_len hm.id).2;have:=hm.text
   have hz:=z140 [] b.msgs[i] (((b.msgs.take i).map Msg.uid).getLastD 0) hm hnw hw (by simp)
   rw [List.nil_append] at hz
   refine ⟨⟨by omega,h⟩,_,_,_,_,_,_,_,by rw [msgs_get _ hlt];rfl,_,hz,_,z139b _ _ (by rw [List.length_append];omega), ?_⟩
   rintro _ rfl
   refine ⟨b.msgs.length-(i+1),by omega,i+1,W64 (by omega) (by omega),by omega,rfl, ?_, ?_⟩
   ·rw [List.take_succ_eq_append_getElem hlt,msgs3_snoc,List.append_assoc]
   ·rw [List.take_succ_eq_append_getElem hlt,List.map_append,List.getLastD_eq_getLast?,List.getLast?_append];rfl
  ·have h:=of_decide_eq_false h
   obtain rfl:i=b.msgs.length:=by simp only [nI] at h;omega
   rw [List.take_length]
   refine ⟨⟨?_,rfl,trivial⟩,trivial,rfl⟩
   have:G++msgs3 0 b.msgs=form3B b:=by
    rw [hG,hH]
    unfold form3B body3
    simp only [List.flatMap_cons,List.flatMap_nil,List.append_nil,List.append_assoc]
   rw [this];rfl
end B
end Go.Proofs.YtmkkljbfmdngfaaGreatDoor
