/- What a change does, over mailboxes whose words and messages are rows: contracts. Conditions: sizes. -/
import Derived.Test.YtmkkljbfmdngfaaGreatDoorQB
set_option linter.all false
namespace Go.Proofs.YtmkkljbfmdngfaaGreatDoor
namespace B
open Go.RowKit
def lks (bs:List (Nat×List CV)) :List (Nat×List CV)→Prop
 | []=>True
 | (b,cs) :: r=>bs.lookup b=some cs∧lks bs r
theorem WcB_lks {bs:List (Nat×List CV)}: ∀{l:List (Nat×List CV)},lks bs l→WcB bs l
 | [],_=>trivial
 | (b,cs) :: r,h=>⟨by rw [h.1];exact WcL_refl cs,WcB_lks h.2⟩
theorem endL {c res:CV} {bs objs':List (Nat×List CV)} (h:c=res) (hl:lks bs objs') (hc:(⟨[res],objs'⟩ :St).clo=true) :EndR c res bs objs':=by
 subst h
 exact ⟨Wr_refl c,WcB_lks hl,hc⟩
def ws (b:Box) :List D:=strs b.words
def ms (b:Box) :List D:=b.msgs.map Msg.d
def boxC (k1 k2:Nat) (b:Box) :List CV:=[.d (.str b.id), .d (iD b.valid), .d (iD b.next), .d (iD b.high), .rs 1 k1 0 (strs b.words).length, .rs 7 k2 0 (b.msgs.map Msg.d).length]
def boxR (k1 k2:Nat) (b:Box) :List (Nat×List CV):=[(k1,[.arr 1 (strs b.words)]),(k2,[.arr 7 (b.msgs.map Msg.d)])]
def objsB (q k1 k2:Nat) (b:Box) :List (Nat×List CV):=(q,boxC k1 k2 b) :: boxR k1 k2 b
theorem add0 (i:Nat) :addO 0 (Int.toNat (i:Int)) =i:=by simp [addO]
theorem el_str (l:List Bytes) {i:Nat} (h:i<l.length) :List.take 1 (List.drop 0 (D.cells (List.getD (strs l) (addO 0 (Int.toNat (i:Int))) D.nilp))) = [D.str l[i]]:=by
 have:=strs_get l h
 rw [add0]
 rw [show List.getD (strs l) i D.nilp= .str l[i] from by simpa using this];rfl
theorem el_msg (l:List Msg) {i:Nat} (h:i<l.length) :List.getD (l.map Msg.d) (addO 0 (Int.toNat (i:Int))) D.nilp=l[i].d:=by
 have:=msgs_get l h
 rw [add0]
 simpa using this
theorem addO_lt {i n:Nat} (h:i<n) :addO 0 (Int.toNat (i:Int)) <n:=by rw [add0];exact h
theorem r124r (l:List Bytes) (s:Bytes) (hl:l.length≤9223372036854775806) :Runs P 115 [.rs 1 2001 0 (strs l).length, .d (.str s)] [(2001,[.arr 1 (strs l)])] (.d (.int .i64 (idxOf l s))) [(2001,[.arr 1 (strs l)])]:=by
 refine runs_walkZ t124 (vc124r _ _ _ _) rfl (by simp) ?_
 have hn:nI (List.length (strs l)) =nI l.length:=by rw [strs_len]
 rw [hn]
 refine range1 (fun i=>l.contains s=(l.drop i).contains s∧l.idxOf s=i+(l.drop i).idxOf s) hl ⟨rfl,by simp⟩ (fun i hi bd hJ I k next=>⟨bd,addO_lt (by rw [strs_len];exact hi), ?_⟩) fun hJ=> ?_
 ·refine ⟨l[i],el_str l hi, ?_⟩
  rw [drop_cons hi,List.contains_cons,List.idxOf_cons] at hJ
  refine ⟨fun h=>endL ?_ ⟨rfl,trivial⟩ rfl,fun h=>next ?_⟩
  ·have hq:(l[i]==s) =true:=by rw [BEq.comm];exact h
   rw [hq,h] at hJ
   unfold idxOf
   rw [hJ.1,hJ.2]
   rfl
  ·have hq:(l[i]==s) =false:=by rw [BEq.comm];exact h
   rw [hq] at hJ
   rw [h] at hJ
   refine ⟨by rw [hJ.1];rfl, ?_⟩
   rw [hJ.2]
   simp only [cond_false];omega
 ·rw [List.drop_length] at hJ
  refine endL ?_ ⟨rfl,trivial⟩ rfl
  unfold idxOf;rw [hJ.1];rfl
theorem r84r (l:List Bytes) (s:Bytes) (hl:l.length≤9223372036854775806) :Runs P 69 [.rs 1 2001 0 (strs l).length, .d (.str s)] [(2001,[.arr 1 (strs l)])] (.d (.bool (l.contains s))) [(2001,[.arr 1 (strs l)])]:=by
 refine runs_walkZ t84 (vc84r _ _ _ _) rfl (by simp) ?_
 exact ⟨_,_,r124r l s hl,endL (by rw [idxOf_ge]) ⟨rfl,trivial⟩ rfl⟩
theorem r84h (l:List Bytes) (s:Bytes) (hl:l.length≤9223372036854775806) :Runs P 69 [.rs 1 5001 0 (strs l).length, .d (.str s)] [(5001,[.arr 1 (strs l)])] (.d (.bool (l.contains s))) [(5001,[.arr 1 (strs l)])]:=by
 have:=(r84r l s hl).swap 2001 5001
 simpa [CV.ren,CV.ren1,renB,swp] using this
theorem r122 (n:Int) :Runs P 109 [.d (.int .i64 n)] [] (.d (.bool (modB n))) []:=by
 refine runs_walkZ t122 (vc122 _ _ _) rfl (by simp) ?_
 rintro _ rfl
 refine endB ?_
 unfold modB
 congr 1
theorem r89r (b:Box) (m:Msg) (hm:MsgOk m) :Runs P 70 [.agg (boxC 2001 2002 b), .d m.d] (boxR 2001 2002 b) (.d (.int .i64 (errB (mayMsg b.words.length m)))) (boxR 2001 2002 b):=by
 refine runs_walkZ t89 (vc89r b.id b.valid b.next b.high (strs b.words) (b.msgs.map Msg.d) m.uid m.mod m.date m.id m.flags (ints m.keys) m.text _ _) rfl (by simp [boxR]) ?_
 have hn:nI (List.length (strs b.words)) =nI b.words.length:=by rw [strs_len]
 rw [hn]
 refine ⟨_,r100 _ _ _,_,fun _=>r100 _ _ _, ?_⟩
 rintro _ rfl
 refine ⟨_,fun _=>r100 _ _ _, ?_⟩
 rintro _ rfl
 refine ⟨_,fun _=>r99 _ hm.id, ?_⟩
 rintro _ rfl
 refine ⟨_,fun _=>r100 _ _ _, ?_⟩
 rintro _ rfl
 refine ⟨_,fun _=>r128 _ _ hm.keys, ?_⟩
 rintro _ rfl b24 h24
 have e:mayMsg b.words.length m= !b24:=by
  rw [←h24];unfold mayMsg;simp only [Bool.not_or,Bool.not_not,←decide_not,Bool.and_assoc]
  congr 6;exact decide_eq_decide.2 (by simp only [nI];omega)
 rw [e]
 exact ⟨fun h=>endL (by rw [h];rfl) ⟨rfl,rfl,trivial⟩ rfl,fun h=>endL (by rw [h];rfl) ⟨rfl,rfl,trivial⟩ rfl⟩
theorem r89h (b:Box) (m:Msg) (hm:MsgOk m) :Runs P 70 [.agg (boxC 5001 5002 b), .d m.d] (boxR 5001 5002 b) (.d (.int .i64 (errB (mayMsg b.words.length m)))) (boxR 5001 5002 b):=by
 have:=((r89r b m hm).swap 2001 5001).swap 2002 5002
 simpa [CV.ren,CV.ren1,renB,swp,boxC,boxR] using this
def findI (l:List Msg) (uid:Int) :Int:=match findM l uid with | some i=>(i:Int) | none=> -1
theorem r75r (m:Msg) (u:Int) :Runs P 89 [.d m.d, .ptr 1000 0] [(1000,[.d (iD u)])] (.d (.bool (m.uid==u))) [(1000,[.d (iD u)])]:=by
 refine runs_walkZ t75 (vc75r m.uid m.mod m.date m.id m.flags (ints m.keys) m.text u _ _) rfl (by simp) ?_
 exact endL rfl ⟨rfl,trivial⟩ rfl
theorem findM_cons (m:Msg) (r:List Msg) (u:Int) :findM (m :: r) u=if (m.uid==u) =true then some 0 else (findM r u).map (· +1):=by
 simp only [findM,List.findIdx?_cons]
theorem r74r (l:List Msg) (u:Int) (hl:l.length≤9223372036854775806) :Runs P 88 [.rs 7 2002 0 (l.map Msg.d).length, .fn 89 [1000]] [(2002,[.arr 7 (l.map Msg.d)]),(1000,[.d (iD u)])] (.d (iD (findI l u))) [(2002,[.arr 7 (l.map Msg.d)]),(1000,[.d (iD u)])]:=by
 refine runs_walkZ t74 (vc74r (l.map Msg.d) u _ _) rfl (by simp) ?_
 rw [nI_map]
 refine range2' (fun i x=>x=u∧findI l u=match findM (l.drop i) u with | some j=>((i+j:Nat) :Int) | none=> -1) hl ⟨rfl,by simp [findI]⟩ (fun i hi bd x hJ I k next=>⟨bd,addO_lt (by simpa using hi), ?_⟩) fun x hJ=> ?_
 ·obtain ⟨rfl,hJ⟩:=hJ
  refine ⟨_,_,_,_,_,_,_,by rw [el_msg l hi];rfl,_,_,r75r l[i] x,fun h=> ?_,fun h=> ?_⟩
  ·rw [drop_cons hi,findM_cons,h,if_pos rfl] at hJ
   exact endL (by rw [hJ];rfl) ⟨rfl,rfl,trivial⟩ rfl
  ·rw [drop_cons hi,findM_cons,h] at hJ
   refine next _ ⟨rfl, ?_⟩
   rw [hJ]
   cases findM (l.drop (i+1)) x with
   | none=>rfl
   | some j=>show ((i+(j+1) :Nat) :Int) =((i+1+j:Nat) :Int);congr 1;omega
 ·obtain ⟨rfl,hJ⟩:=hJ
  rw [List.drop_length] at hJ
  exact endL (by rw [hJ];rfl) ⟨rfl,rfl,trivial⟩ rfl
theorem r33r (b:Box) (u:Int) (hl:b.msgs.length≤9223372036854775806) :Runs P 41 [.agg (boxC 2001 2002 b), .d (iD u)] (boxR 2001 2002 b) (.d (iD (findI b.msgs u))) (boxR 2001 2002 b):=by
 refine runs_walkZ t33 (vc33r b.id b.valid b.next b.high (strs b.words) (b.msgs.map Msg.d) u _ _) rfl (by simp [boxR]) ?_
 have h:=(r74r b.msgs u hl).swap 1000 3
 exact ⟨_,_,_,by simpa [CV.ren,CV.ren1,renB,swp] using h,endL rfl ⟨rfl,rfl,trivial⟩ rfl⟩
theorem r33h (b:Box) (u:Int) (hl:b.msgs.length≤9223372036854775806) :Runs P 41 [.agg (boxC 5001 5002 b), .d (iD u)] (boxR 5001 5002 b) (.d (iD (findI b.msgs u))) (boxR 5001 5002 b):=by
 have:=((r33r b u hl).swap 2001 5001).swap 2002 5002
 simpa [CV.ren,CV.ren1,renB,swp,boxC,boxR] using this
theorem r141h (k i:Nat) (l:List Msg) (hi:i<l.length) :Runs P 147 [.rs 7 k 0 (l.map Msg.d).length, .d (.int .i64 i), .d (.int .i64 (i+1:Nat))] [(k,[.arr 7 (l.map Msg.d)])] (.rs 7 k 0 ((l.eraseIdx i).map Msg.d).length) [(k,[.arr 7 ((l.eraseIdx i).map Msg.d)])]:=by
 have:=r141 k i (l.map Msg.d) (by simpa using hi)
 have e:(l.eraseIdx i).map Msg.d=(l.map Msg.d).eraseIdx i:=by
  rw [List.eraseIdx_eq_take_drop_succ,List.eraseIdx_eq_take_drop_succ,List.map_append,List.map_take,List.map_drop]
 rw [e,List.length_eraseIdx_of_lt (by simpa using hi)]
 exact this
theorem r121 (b:Box) (x:Bytes) (hx:x.length≤9223372036854775806) (hw:b.words.length≤9223372036854775806) :Runs P 108 [.ptr 1000 0, .d (.str x)] (objsB 1000 5001 5002 b) (.d (iD (wordB b x).1)) (objsB 1000 5001 5002 (wordB b x).2):=by
 refine runs_walkZ t121 (vc121 b.id b.valid b.next b.high (strs b.words) (b.msgs.map Msg.d) x _ _) rfl (by simp [objsB,boxR,mvF]) ?_
 refine ⟨_,r101 x hx,fun h=> ?_,fun h=>⟨_,_,r84h b.words x hw,fun h2=> ?_,fun h2=>⟨fun h3=> ?_,fun h3=> ?_⟩⟩⟩
 ·have e:wordB b x=(1,b):=by unfold wordB;rw [if_pos (by simpa using h)]
  rw [e]
  exact endL rfl ⟨rfl,rfl,rfl,trivial⟩ rfl
 ·have e:wordB b x=(7,b):=by unfold wordB;rw [if_neg (by simpa using h),if_pos h2]
  rw [e]
  exact endL rfl ⟨rfl,rfl,rfl,trivial⟩ rfl
 ·rw [strs_len] at h3
  have h3:=of_decide_eq_true h3
  have e:wordB b x=(4,b):=by unfold wordB;rw [if_neg (by simpa using h),if_neg (by simpa using h2),if_pos (by simp only [nI] at h3;omega)]
  rw [e]
  exact endL rfl ⟨rfl,rfl,rfl,trivial⟩ rfl
 ·rw [strs_len] at h3
  have h3:=of_decide_eq_false h3
  have e:wordB b x=(0,{b with words:=b.words++ [x]}):=by unfold wordB;rw [if_neg (by simpa using h),if_neg (by simpa using h2),if_neg (by simp only [nI] at h3;omega)]
  rw [e]
  refine ⟨rfl,by rw [strs_len];simp only [nI] at h3;simp;omega, ?_⟩
  rintro _ rfl
  have e2:strs b.words++ [D.str x]=strs (b.words++ [x]):=by simp [strs]
  have e3:(strs b.words).length+ [D.str x].length=(strs (b.words++ [x])).length:=by simp [strs]
  rw [e2,e3]
  exact endL rfl ⟨rfl,rfl,rfl,trivial⟩ rfl
theorem r120 (b:Box) (m:Msg) (hm:MsgOk m) (hk:m.keys.length≤1099511627776) :Runs P 107 [.ptr 1000 0, .d m.d] (objsB 1000 5001 5002 b) (.d (iD (addB b m).1)) (objsB 1000 5001 5002 (addB b m).2):=by
 refine runs_walkZ t120 (vc120 b.id b.valid b.next b.high (strs b.words) (b.msgs.map Msg.d) m.uid m.mod m.date m.id m.flags (ints m.keys) m.text _ _) rfl (by simp [objsB,boxR,mvF]) ?_
 rw [nI_map]
 refine ⟨fun h=> ?_,fun h=>⟨_,_,_,r89h b m hm,fun h2=> ?_,fun h2=>⟨fun h3=> ?_,fun h3=>⟨_,r82D _ (by rw [ints_len];exact hk),rfl, ?_, ?_⟩⟩⟩⟩
 ·have h:=of_decide_eq_true h
  have e:addB b m=(4,b):=by unfold addB;rw [if_pos (by simp only [nI] at h;omega)]
  rw [e]
  exact endL rfl ⟨rfl,rfl,rfl,trivial⟩ rfl
 ·have h:=of_decide_eq_false h
  have h2:mayMsg b.words.length m=false:=by
   cases e:mayMsg b.words.length m with
   | false=>rfl
   | true=>rw [e] at h2;simp [errB] at h2
  have e:addB b m=(1,b):=by unfold addB;rw [if_neg (by simp only [nI] at h;omega),if_pos h2]
  rw [e,h2]
  exact endL rfl ⟨rfl,rfl,rfl,trivial⟩ rfl
 ·have h:=of_decide_eq_false h
  have h3:=of_decide_eq_true h3
  have h2:mayMsg b.words.length m=true:=by
   cases e:mayMsg b.words.length m with
   | true=>rfl
   | false=>rw [e] at h2;simp [errB] at h2
  have e:addB b m=(1,b):=by unfold addB;rw [if_neg (by simp only [nI] at h;omega),if_neg (by simp [h2]),if_pos h3]
  rw [e]
  exact endL rfl ⟨rfl,rfl,rfl,trivial⟩ rfl
 ·have h:=of_decide_eq_false h
  simp only [nI] at h
  simp;omega
 ·have h:=of_decide_eq_false h
  have h3:=of_decide_eq_false h3
  have h2:mayMsg b.words.length m=true:=by
   cases e:mayMsg b.words.length m with
   | true=>rfl
   | false=>rw [e] at h2;simp [errB] at h2
  have e:addB b m=(0,{b with msgs:=b.msgs++ [m],next:=m.uid+1,high:=max b.high m.mod}):=by unfold addB;rw [if_neg (by simp only [nI] at h;omega),if_neg (by simp [h2]),if_neg h3]
  rw [e]
  rintro _ rfl _ rfl _ rfl
  have hu:=(msgMay.1 h2).uid
  rw [W64 (by omega) (by omega)]
  have e2:b.msgs.map Msg.d++ [D.agg [D.int .i64 m.uid,D.int .i64 m.mod,D.int .i64 m.date,D.str m.id,D.int .i64 m.flags,D.slice 1 (ints m.keys),D.str m.text]]=(b.msgs++ [m]).map Msg.d:=by simp;rfl
  have e3:(b.msgs.map Msg.d).length+ [D.agg [D.int .i64 m.uid,D.int .i64 m.mod,D.int .i64 m.date,D.str m.id,D.int .i64 m.flags,D.slice 1 (ints m.keys),D.str m.text]].length=((b.msgs++ [m]).map Msg.d).length:=by simp
  rw [e2,e3]
  exact endL rfl ⟨rfl,rfl,rfl,trivial⟩ rfl
end B
end Go.Proofs.YtmkkljbfmdngfaaGreatDoor
namespace Go.Proofs.YtmkkljbfmdngfaaGreatDoor
namespace B
open Go.RowKit
theorem setEl_msg (l:List Msg) {i:Nat} (hi:i<l.length) (off:Nat) (ds:List D) (m':Msg) (h:spliceD off ds l[i].d=m'.d) :setEl (l.map Msg.d) (addO 0 (Int.toNat (i:Int))) off ds=(l.set i m').map Msg.d:=by
 unfold setEl
 rw [el_msg l hi,h,add0,List.map_set]
theorem len_set (l:List Msg) (i:Nat) (m:Msg) :(l.map Msg.d).length=((l.set i m).map Msg.d).length:=by simp
def flagsB (b:Box) (i:Nat) (m:Msg) (r:Row) :Int×Box:=if mayMsg b.words.length (flagM m r) =true then (0,{b with msgs:=b.msgs.set i (flagM m r) }) else (1,b)
structure RowOk (r:Row) :Prop where
 text:r.text.length≤9223372036854775806
 keys:r.msg.keys.length≤1099511627776
 id:r.msg.id.length≤9223372036854775806
theorem RowOk.msg {r:Row} (h:RowOk r) :MsgOk r.msg:=⟨h.id,by have:=h.keys;omega⟩
theorem r140 (b:Box) (i:Nat) (hi:i<b.msgs.length) (r:Row) (hm:MsgOk b.msgs[i]) (hr:RowOk r) :Runs P 146 [.ptr 1000 0, .d (iD i), .d r.d] (objsB 1000 2001 2002 b) (.d (iD (flagsB b i b.msgs[i] r).1)) (objsB 1000 2001 2002 (flagsB b i b.msgs[i] r).2):=by
 refine runs_walkZ t140 (vc140 b.id b.valid b.next b.high (strs b.words) (b.msgs.map Msg.d) i r.kind r.uid r.mod r.msg.uid r.msg.mod r.msg.date r.msg.id r.msg.flags (ints r.msg.keys) r.msg.text r.text _ _) rfl (by simp [objsB,boxR]) ?_
 have hl:nI (List.length (b.msgs.map Msg.d)) =nI b.msgs.length:=nI_map _ _
 have bd:0≤(i:Int)∧(i:Int) <nI (List.length (b.msgs.map Msg.d)):=by rw [hl];simp only [nI];omega
 have hlt:addO 0 (Int.toNat (i:Int)) <List.length (b.msgs.map Msg.d):=addO_lt (by simpa using hi)
 refine ⟨bd,hlt,_,_,_,_,_,_,_,by rw [el_msg b.msgs hi];rfl,_,r82D _ (by rw [ints_len];exact hr.keys),_,_,_,r89r b (flagM b.msgs[i] r) ⟨hm.id,hr.msg.keys⟩,fun h=> ?_,fun h=>⟨bd,hlt, ?_⟩⟩
 ·have h2:mayMsg b.words.length (flagM b.msgs[i] r) =false:=by
   cases e:mayMsg b.words.length (flagM b.msgs[i] r) with
   | false=>rfl
   | true=>rw [e] at h;simp [errB] at h
  have e:flagsB b i b.msgs[i] r=(1,b):=by unfold flagsB;rw [h2];rfl
  rw [e]
  exact endL rfl ⟨rfl,rfl,rfl,trivial⟩ rfl
 ·have h2:mayMsg b.words.length (flagM b.msgs[i] r) =true:=by
   cases e:mayMsg b.words.length (flagM b.msgs[i] r) with
   | true=>rfl
   | false=>rw [e] at h;simp [errB] at h
  have e:flagsB b i b.msgs[i] r=(0,{b with msgs:=b.msgs.set i (flagM b.msgs[i] r) }):=by unfold flagsB;rw [h2];rfl
  rw [e]
  rintro _ rfl
  rw [setEl_msg b.msgs hi 0 _ (flagM b.msgs[i] r) rfl,len_set b.msgs i (flagM b.msgs[i] r)]
  exact endL rfl ⟨rfl,rfl,rfl,trivial⟩ rfl
theorem flagsB_words (b:Box) (i:Nat) (m:Msg) (r:Row) :(strs (flagsB b i m r).2.words).length=(strs b.words).length:=by unfold flagsB;split<;>rfl
theorem flagsB_msgs (b:Box) (i:Nat) (m:Msg) (r:Row) :((flagsB b i m r).2.msgs.map Msg.d).length=(b.msgs.map Msg.d).length:=by unfold flagsB;split<;>simp
theorem r123 (b:Box) (i:Nat) (hi:i<b.msgs.length) (r:Row) (hm:MsgOk b.msgs[i]) (hr:RowOk r) (hn:b.msgs.length≤9223372036854775806) :Runs P 110 [.ptr 1000 0, .d (iD i), .d r.d] (objsB 1000 2001 2002 b) (.d (iD (oneB b i b.msgs[i] r).1)) (objsB 1000 2001 2002 (oneB b i b.msgs[i] r).2):=by
 refine runs_walkZ t123 (vc123 b.id b.valid b.next b.high (strs b.words) (b.msgs.map Msg.d) i r.kind r.uid r.mod r.msg.uid r.msg.mod r.msg.date r.msg.id r.msg.flags (ints r.msg.keys) r.msg.text r.text _ _) rfl (by simp [objsB,boxR]) ?_
 have hl:nI (List.length (b.msgs.map Msg.d)) =nI b.msgs.length:=nI_map _ _
 have bd:0≤(i:Int)∧(i:Int) <nI (List.length (b.msgs.map Msg.d)):=by rw [hl];simp only [nI];omega
 have hlt:addO 0 (Int.toNat (i:Int)) <List.length (b.msgs.map Msg.d):=addO_lt (by simpa using hi)
 refine ⟨fun h=> ?_,fun k2=>⟨fun k5=>⟨_,r99 _ hr.text,fun h2=> ?_,fun h2=>⟨bd,hlt, ?_⟩⟩,fun k5=>⟨_,r122 _,fun h2=> ?_,fun h2=>⟨fun h3=> ?_,fun h3=>⟨bd,hlt, ?_⟩⟩⟩⟩⟩
 ·have h:r.kind=2:=by simpa using h
  have e:oneB b i b.msgs[i] r=flagsB b i b.msgs[i] r:=by unfold oneB;rw [if_pos h];rfl
  rw [e]
  have e1:=flagsB_words b i b.msgs[i] r
  have e2:=flagsB_msgs b i b.msgs[i] r
  have hq:=r140 b i hi r hm hr
  unfold objsB boxC boxR at hq
  rw [e1,e2] at hq
  refine ⟨_,_,_,_,_,_,_,hq, ?_⟩
  rw [←e1,←e2]
  exact endL rfl ⟨rfl,rfl,rfl,trivial⟩ rfl
 ·have k2: ¬r.kind=2:=by simpa using k2
  have k5:r.kind=5:=by simpa using k5
  have e:oneB b i b.msgs[i] r=(1,b):=by unfold oneB;rw [if_neg k2,if_pos k5,if_neg (by simpa using h2)]
  rw [e]
  exact endL rfl ⟨rfl,rfl,rfl,trivial⟩ rfl
 ·have k2: ¬r.kind=2:=by simpa using k2
  have k5:r.kind=5:=by simpa using k5
  have e:oneB b i b.msgs[i] r=(0,{b with msgs:=b.msgs.set i {b.msgs[i] with id:=r.text} }):=by unfold oneB;rw [if_neg k2,if_pos k5,if_pos (by simpa using h2)]
  rw [e]
  rintro _ rfl
  rw [setEl_msg b.msgs hi (0+3) _ {b.msgs[i] with id:=r.text} rfl,len_set b.msgs i {b.msgs[i] with id:=r.text}]
  exact endL rfl ⟨rfl,rfl,rfl,trivial⟩ rfl
 ·have k2: ¬r.kind=2:=by simpa using k2
  have k5: ¬r.kind=5:=by simpa using k5
  have e:oneB b i b.msgs[i] r=(1,b):=by unfold oneB;rw [if_neg k2,if_neg k5,if_pos (by simpa using h2)]
  rw [e]
  exact endL rfl ⟨rfl,rfl,rfl,trivial⟩ rfl
 ·have k2: ¬r.kind=2:=by simpa using k2
  have k5: ¬r.kind=5:=by simpa using k5
  have k3:r.kind=3:=by simpa using h3
  have e:oneB b i b.msgs[i] r=(0,{b with msgs:=b.msgs.eraseIdx i}):=by unfold oneB;rw [if_neg k2,if_neg k5,if_neg (by simpa using h2),if_pos k3]
  rw [e]
  rintro _ rfl
  rw [W64 (by omega) (by omega)]
  exact ⟨_,_,r141h 2002 i b.msgs hi,endL rfl ⟨rfl,rfl,rfl,trivial⟩ rfl⟩
 ·have k2: ¬r.kind=2:=by simpa using k2
  have k5: ¬r.kind=5:=by simpa using k5
  have k3: ¬r.kind=3:=by simpa using h3
  have e:oneB b i b.msgs[i] r=(0,{b with msgs:=b.msgs.set i {b.msgs[i] with mod:=r.mod} }):=by unfold oneB;rw [if_neg k2,if_neg k5,if_neg (by simpa using h2),if_neg k3]
  rw [e]
  rintro _ rfl
  rw [setEl_msg b.msgs hi (0+1) _ {b.msgs[i] with mod:=r.mod} rfl,len_set b.msgs i {b.msgs[i] with mod:=r.mod}]
  exact endL rfl ⟨rfl,rfl,rfl,trivial⟩ rfl
theorem r123h (b:Box) (i:Nat) (hi:i<b.msgs.length) (r:Row) (hm:MsgOk b.msgs[i]) (hr:RowOk r) (hn:b.msgs.length≤9223372036854775806) :Runs P 110 [.ptr 1000 0, .d (iD i), .d r.d] (objsB 1000 5001 5002 b) (.d (iD (oneB b i b.msgs[i] r).1)) (objsB 1000 5001 5002 (oneB b i b.msgs[i] r).2):=by
 have:=((r123 b i hi r hm hr hn).swap 2001 5001).swap 2002 5002
 simpa [CV.ren,CV.ren1,renB,swp,objsB,boxC,boxR] using this
theorem findI_none {l:List Msg} {u:Int} (h:findI l u<0) :findM l u=none:=by
 unfold findI at h
 split at h
 ·omega
 ·assumption
theorem findI_some {l:List Msg} {u:Int} (h: ¬findI l u<0) : ∃i,findM l u=some i∧i<l.length∧findI l u=(i:Int):=by
 unfold findI at h⊢
 split at h
 ·rename_i i e
  rw [e]
  exact ⟨i,rfl,(findM_some e).1,rfl⟩
 ·omega
theorem applyB_none (b:Box) (r:Row) (hk:r.kind=2∨r.kind=3∨r.kind=5∨r.kind=6) (h:findM b.msgs r.uid=none) :applyB b r=(6,b):=by
 unfold applyB
 rw [if_neg (by omega),if_neg (by omega),if_neg (by omega),if_pos hk,h]
theorem applyB_some (b:Box) (r:Row) (hk:r.kind=2∨r.kind=3∨r.kind=5∨r.kind=6) {i:Nat} (h:findM b.msgs r.uid=some i) (hi:i<b.msgs.length) :
  applyB b r=if (oneB b i b.msgs[i] r).1≠0∨r.kind=5 then oneB b i b.msgs[i] r else (0,{(oneB b i b.msgs[i] r).2 with high:=max b.high r.mod}):=by
 unfold applyB
 rw [if_neg (by omega),if_neg (by omega),if_neg (by omega),if_pos hk,h]
 dsimp only
 rw [List.getElem?_eq_getElem hi]
theorem oneB_high (b:Box) (i:Nat) (m:Msg) (r:Row) :(oneB b i m r).2.high=b.high:=by
 unfold oneB
 split
 ·split<;>rfl
 split
 ·split<;>rfl
 split
 ·rfl
 split<;>rfl
theorem r73 (b:Box) (r:Row) (hb: ∀m∈b.msgs,MsgOk m) (hn:b.msgs.length≤9223372036854775806) (hw:b.words.length≤9223372036854775806) (ho:RowOk r) :Runs P 63 [.ptr 1000 0, .d r.d] (objsB 1000 5001 5002 b) (.d (iD (applyB b r).1)) (objsB 1000 5001 5002 (applyB b r).2):=by
 refine runs_walkZ t73 (vc73 b.id b.valid b.next b.high (strs b.words) (b.msgs.map Msg.d) r.kind r.uid r.mod r.msg.uid r.msg.mod r.msg.date r.msg.id r.msg.flags (ints r.msg.keys) r.msg.text r.text _ _) rfl (by simp [objsB,boxR,mvF]) ?_
 refine ⟨fun k1=> ?_,fun k1=>⟨fun k4=> ?_,fun k4=>⟨fun k7=>⟨_,r122 _,fun h=> ?_,fun h=> ?_⟩,fun k7=>⟨fun k2=>⟨fun _=> ?_,fun q=> ?_⟩,fun k2=>⟨fun k3=>⟨fun _=> ?_,fun q=> ?_⟩,fun k3=>⟨fun k5=>⟨fun _=> ?_,fun q=> ?_⟩,fun k5=>⟨fun k6=> ?_,fun k6=> ?_⟩⟩⟩⟩⟩⟩⟩
 ·have k1:r.kind=1:=by simpa using k1
  have e:applyB b r=addB b r.msg:=by unfold applyB;rw [if_pos k1]
  rw [e]
  exact ⟨_,_,_,_,_,_,_,_,_,r120 b r.msg ho.msg ho.keys,endL rfl ⟨rfl,rfl,rfl,trivial⟩ rfl⟩
 ·have k1: ¬r.kind=1:=by simpa using k1
  have k4:r.kind=4:=by simpa using k4
  have e:applyB b r=wordB b r.text:=by unfold applyB;rw [if_neg k1,if_pos k4]
  rw [e]
  exact ⟨_,_,_,_,_,_,_,_,_,r121 b r.text ho.text hw,endL rfl ⟨rfl,rfl,rfl,trivial⟩ rfl⟩
 ·have k7:r.kind=7:=by simpa using k7
  have e:applyB b r=(1,b):=by unfold applyB;rw [if_neg (by omega),if_neg (by omega),if_pos k7,if_neg (by simpa using h)]
  rw [e]
  exact endL rfl ⟨rfl,rfl,rfl,trivial⟩ rfl
 ·have k7:r.kind=7:=by simpa using k7
  have e:applyB b r=(0,{b with high:=max b.high r.mod}):=by unfold applyB;rw [if_neg (by omega),if_neg (by omega),if_pos k7,if_pos (by simpa using h)]
  rw [e]
  rintro _ rfl
  exact endL rfl ⟨rfl,rfl,rfl,trivial⟩ rfl
 ·have KK:r.kind=2∨r.kind=3∨r.kind=5∨r.kind=6:=by simp at k2;omega
  refine ⟨_,_,_,r33h b r.uid hn,fun h=> ?_,fun h=> ?_⟩
  ·have h:=of_decide_eq_true h
   rw [applyB_none b r KK (findI_none h)]
   exact endL rfl ⟨rfl,rfl,rfl,trivial⟩ rfl
  ·obtain ⟨i,hf,hi,e⟩:=findI_some (of_decide_eq_false h)
   rw [e]
   have hq:=r123h b i hi r (hb _ (List.getElem_mem hi)) ho hn
   have ha:=applyB_some b r KK hf hi
   refine ⟨_,_,_,_,_,_,_,_,_,hq, ?_⟩
   rintro _ rfl
   refine ⟨fun h=> ?_,fun h=> ?_⟩
   ·rw [ha,if_pos (by simpa using h)]
    exact endL rfl ⟨rfl,rfl,rfl,trivial⟩ rfl
   ·rintro _ rfl
    have h': ¬((oneB b i b.msgs[i] r).1≠0∨r.kind=5):=by simpa using h
    have h0:(oneB b i b.msgs[i] r).1=0:=by
     rcases Decidable.em ((oneB b i b.msgs[i] r).1=0) with q | q
     ·exact q
     ·exact absurd (.inl q) h'
    rw [ha,if_neg h',←oneB_high b i b.msgs[i] r]
    exact endL rfl ⟨rfl,rfl,rfl,trivial⟩ rfl
 ·rw [q] at k2;cases k2
 ·have KK:r.kind=2∨r.kind=3∨r.kind=5∨r.kind=6:=by simp at k3;omega
  refine ⟨_,_,_,r33h b r.uid hn,fun h=> ?_,fun h=> ?_⟩
  ·have h:=of_decide_eq_true h
   rw [applyB_none b r KK (findI_none h)]
   exact endL rfl ⟨rfl,rfl,rfl,trivial⟩ rfl
  ·obtain ⟨i,hf,hi,e⟩:=findI_some (of_decide_eq_false h)
   rw [e]
   have hq:=r123h b i hi r (hb _ (List.getElem_mem hi)) ho hn
   have ha:=applyB_some b r KK hf hi
   refine ⟨_,_,_,_,_,_,_,_,_,hq, ?_⟩
   rintro _ rfl
   refine ⟨fun h=> ?_,fun h=> ?_⟩
   ·rw [ha,if_pos (by simpa using h)]
    exact endL rfl ⟨rfl,rfl,rfl,trivial⟩ rfl
   ·rintro _ rfl
    have h': ¬((oneB b i b.msgs[i] r).1≠0∨r.kind=5):=by simpa using h
    have h0:(oneB b i b.msgs[i] r).1=0:=by
     rcases Decidable.em ((oneB b i b.msgs[i] r).1=0) with q | q
     ·exact q
     ·exact absurd (.inl q) h'
    rw [ha,if_neg h',←oneB_high b i b.msgs[i] r]
    exact endL rfl ⟨rfl,rfl,rfl,trivial⟩ rfl
 ·rw [q] at k3;cases k3
 ·have KK:r.kind=2∨r.kind=3∨r.kind=5∨r.kind=6:=by simp at k5;omega
  refine ⟨_,_,_,r33h b r.uid hn,fun h=> ?_,fun h=> ?_⟩
  ·have h:=of_decide_eq_true h
   rw [applyB_none b r KK (findI_none h)]
   exact endL rfl ⟨rfl,rfl,rfl,trivial⟩ rfl
  ·obtain ⟨i,hf,hi,e⟩:=findI_some (of_decide_eq_false h)
   rw [e]
   have hq:=r123h b i hi r (hb _ (List.getElem_mem hi)) ho hn
   have ha:=applyB_some b r KK hf hi
   refine ⟨_,_,_,_,_,_,_,_,_,hq, ?_⟩
   rintro _ rfl
   refine ⟨fun h=> ?_,fun h=> ?_⟩
   ·rw [ha,if_pos (by simpa using h)]
    exact endL rfl ⟨rfl,rfl,rfl,trivial⟩ rfl
   ·rintro _ rfl
    have h': ¬((oneB b i b.msgs[i] r).1≠0∨r.kind=5):=by simpa using h
    have h0:(oneB b i b.msgs[i] r).1=0:=by
     rcases Decidable.em ((oneB b i b.msgs[i] r).1=0) with q | q
     ·exact q
     ·exact absurd (.inl q) h'
    rw [ha,if_neg h',←oneB_high b i b.msgs[i] r]
    exact endL rfl ⟨rfl,rfl,rfl,trivial⟩ rfl
 ·rw [q] at k5;cases k5
 ·have KK:r.kind=2∨r.kind=3∨r.kind=5∨r.kind=6:=by simp at k6;omega
  refine ⟨_,_,_,r33h b r.uid hn,fun h=> ?_,fun h=> ?_⟩
  ·have h:=of_decide_eq_true h
   rw [applyB_none b r KK (findI_none h)]
   exact endL rfl ⟨rfl,rfl,rfl,trivial⟩ rfl
  ·obtain ⟨i,hf,hi,e⟩:=findI_some (of_decide_eq_false h)
   rw [e]
   have hq:=r123h b i hi r (hb _ (List.getElem_mem hi)) ho hn
   have ha:=applyB_some b r KK hf hi
   refine ⟨_,_,_,_,_,_,_,_,_,hq, ?_⟩
   rintro _ rfl
   refine ⟨fun h=> ?_,fun h=> ?_⟩
   ·rw [ha,if_pos (by simpa using h)]
    exact endL rfl ⟨rfl,rfl,rfl,trivial⟩ rfl
   ·rintro _ rfl
    have h': ¬((oneB b i b.msgs[i] r).1≠0∨r.kind=5):=by simpa using h
    have h0:(oneB b i b.msgs[i] r).1=0:=by
     rcases Decidable.em ((oneB b i b.msgs[i] r).1=0) with q | q
     ·exact q
     ·exact absurd (.inl q) h'
    rw [ha,if_neg h',←oneB_high b i b.msgs[i] r]
    exact endL rfl ⟨rfl,rfl,rfl,trivial⟩ rfl
 ·have e:applyB b r=(1,b):=by
   simp at k1 k4 k7 k2 k3 k5 k6
   unfold applyB;rw [if_neg k1,if_neg k4,if_neg k7,if_neg (by omega)]
  rw [e]
  exact endL rfl ⟨rfl,rfl,rfl,trivial⟩ rfl
end B
end Go.Proofs.YtmkkljbfmdngfaaGreatDoor
namespace Go.Proofs.YtmkkljbfmdngfaaGreatDoor
namespace B
open Go.RowKit
structure BoxSz (b:Box) :Prop where
 nw:b.words.length≤1099511627776
 nm:b.msgs.length≤1099511627776
 keys: ∀m∈b.msgs,m.keys.length≤1099511627776
theorem r72 (b:Box) (hb:BoxSz b) :Runs P 54 [.d b.d] [] (.agg (boxC 6 9 b)) (boxR 6 9 b):=by
 refine runs_walkZ t72 (vc72 b.id b.valid b.next b.high (strs b.words) (b.msgs.map Msg.d) _ _) rfl (by simp) ?_
 have h1:=hb.nw
 have h2:=hb.nm
 refine ⟨_,r118R 6 (strs b.words) (by rw [strs_len];exact h1),_,r119R 9 (b.msgs.map Msg.d) (by simpa using h2), ?_⟩
 rw [nI_map]
 refine range2' (fun i l=>l=b.msgs.map Msg.d) (by omega) rfl (fun i hi bd l hJ I k next=> ?_) fun l hJ=> ?_
 ·subst hJ
  have hlt:addO 0 (Int.toNat (i:Int)) <List.length (b.msgs.map Msg.d):=addO_lt (by simpa using hi)
  refine ⟨bd,hlt,_,by rw [el_msg b.msgs hi];rfl,_,r82D _ (by rw [ints_len];exact hb.keys _ (List.getElem_mem hi)),bd,hlt, ?_⟩
  rintro _ rfl
  rw [setEl_msg b.msgs hi (0+5) _ b.msgs[i] rfl,List.set_getElem_self]
  exact next _ rfl
 ·subst hJ
  exact endL rfl ⟨rfl,rfl,trivial⟩ rfl
theorem r72a (b:Box) (hb:BoxSz b) :Runs P 54 [.d b.d] [] (.agg (boxC 5014 10014 b)) (boxR 5014 10014 b):=by
 have:=((r72 b hb).swap 6 5014).swap 9 10014
 simpa [CV.ren,CV.ren1,renB,swp,boxC,boxR] using this
theorem r73a (b:Box) (r:Row) (hb: ∀m∈b.msgs,MsgOk m) (hn:b.msgs.length≤9223372036854775806) (hw:b.words.length≤9223372036854775806) (ho:RowOk r) :Runs P 63 [.ptr 2 0, .d r.d] (objsB 2 5014 10014 b) (.d (iD (applyB b r).1)) (objsB 2 5014 10014 (applyB b r).2):=by
 have:=(((r73 b r hb hn hw ho).swap 1000 2).swap 5001 5014).swap 5002 10014
 simpa [CV.ren,CV.ren1,renB,swp,objsB,boxC,boxR] using this
def zeroB:Box:=⟨[],0,0,0,[],[]⟩
def runB:Box→List Row→Int×Box
 | b,[]=>(0,b)
 | b,r :: l=>if (applyB b r).1=0 then runB (applyB b r).2 l else ((applyB b r).1,zeroB)
def allB (b:Box) (l:List Row) :Int×Box:=if mayBox b=0 then runB b l else (1,zeroB)
theorem MsgMay.ok {nw:Nat} {m:Msg} (h:MsgMay nw m) (hn:nw≤64) :MsgOk m:=⟨by have:=atom_len h.id;omega,by have:=h.keyLen;omega⟩
theorem BoxMay.msgOk {b:Box} (h:BoxMay b) : ∀m∈b.msgs,MsgOk m:=fun m hm=>((msgsMay.1 h.msgs).all m hm).2.1.ok h.nw
theorem BoxMay.sz {b:Box} (h:BoxMay b) :BoxSz b:=⟨by have:=h.nw;omega,by have:=h.nm;omega,fun m hm=>by
 have h1:=((msgsMay.1 h.msgs).all m hm).2.1.keyLen
 have:=h.nw;omega⟩
theorem rows_get (l:List Row) {i:Nat} (h:i<l.length) :(l.map Row.d).getD (Int.toNat (i:Int)) .nilp=l[i].d:=getD_map _ l h
theorem r32 (b:Box) (l:List Row) (hb:BoxOk b) (hl:l.length≤9223372036854775806) (hr: ∀r∈l,RowOk r) :Runs P 32 [.d b.d, .d (.slice 11 (l.map Row.d))] [] (.tup [.d (allB b l).2.d, .d (iD (allB b l).1)]) []:=by
 refine runs_walkZ t32 (vc32 b.id b.valid b.next b.high (strs b.words) (b.msgs.map Msg.d) (l.map Row.d) _ _) rfl (by simp) ?_
 refine ⟨_,r47 b hb,fun h=> ?_,fun h=> ?_⟩
 ·have e:allB b l=(1,zeroB):=by unfold allB;rw [if_neg (by simpa using h)]
  rw [e]
  exact end0 rfl rfl
 have h0:mayBox b=0:=by simpa using h
 have hM:=boxMay.1 h0
 have e:allB b l=runB b l:=by unfold allB;rw [if_pos h0]
 rw [e]
 refine ⟨_,_,_,_,_,_,r72a b hM.sz,fun n s v x h k1 k2 _ _ _ _ _ _ w m k=>∃(c:Box) (i:Nat),n=i∧i≤l.length∧k=l.length-i∧BoxMay c∧runB b l=runB c (l.drop i)∧s=c.id∧v=c.valid∧x=c.next∧h=c.high∧k1=w.length∧k2=m.length∧w=strs c.words∧m=c.msgs.map Msg.d,
  ⟨_,b,0,rfl,by omega,rfl,hM,rfl,rfl,rfl,rfl,rfl,rfl,rfl,rfl,rfl⟩, ?_⟩
 rintro _ _ _ _ _ _ _ _ _ _ _ _ _ _ _ _ ⟨c,i,rfl,hi,rfl,hc,hJ,rfl,rfl,rfl,rfl,rfl,rfl,rfl,rfl⟩
 rw [show nI (List.length (l.map Row.d)) =(l.length:Int) from by simp [nI]]
 refine ⟨fun h=> ?_,fun h=> ?_⟩
 ·have h:=of_decide_eq_true h
  have hlt:i<l.length:=by omega
  have hrow:=hr _ (List.getElem_mem hlt)
  have hap:=r73a c l[i] hc.msgOk (by have:=hc.nm;omega) (by have:=hc.nw;omega) hrow
  refine ⟨⟨by omega,by omega⟩,_,_,_,_,_,_,_,_,_,_,_,by rw [rows_get l hlt];rfl,_,_,_,_,_,_,_,_,_,hap,fun h=> ?_,fun h=> ?_⟩
  ·have e2:runB b l=((applyB c l[i]).1,zeroB):=by
    rw [hJ,drop_cons hlt,runB,if_neg (by simpa using h)]
   rw [e2]
   exact end0 rfl rfl
  ·have h':(applyB c l[i]).1=0:=by simpa using h
   rintro _ rfl
   refine ⟨l.length-(i+1),by omega,(applyB c l[i]).2,i+1,W64 (by omega) (by omega),by omega,rfl,(applyB_may hc (Prod.ext h' rfl)).1, ?_,rfl,rfl,rfl,rfl,rfl,rfl,rfl,rfl⟩
   rw [hJ,drop_cons hlt,runB,if_pos h']
 ·have h:=of_decide_eq_false h
  obtain rfl:i=l.length:=by omega
  rw [List.drop_length,runB] at hJ
  rw [hJ]
  exact ⟨rfl,rfl,end0 rfl rfl⟩
end B
end Go.Proofs.YtmkkljbfmdngfaaGreatDoor
