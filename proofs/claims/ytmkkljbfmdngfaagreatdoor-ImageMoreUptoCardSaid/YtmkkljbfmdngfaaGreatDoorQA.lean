/- Rows of changes, in plain words: what a change makes of a mailbox; a mailbox that may be may be behind it. No condition. -/
import Derived.Test.YtmkkljbfmdngfaaGreatDoorG1
import Derived.Test.YtmkkljbfmdngfaaGreatDoorRs
import Derived.Test.YtmkkljbfmdngfaaGreatDoorSD
import Derived.Test.YtmkkljbfmdngfaaGreatDoorB30
set_option linter.all false
namespace Go.Proofs.YtmkkljbfmdngfaaGreatDoor
namespace B
structure Row where
 kind:Int
 uid:Int
 mod:Int
 msg:Msg
 text:Bytes
def Row.cs (r:Row) :List D:=[iD r.kind,iD r.uid,iD r.mod]++r.msg.cs++ [.str r.text]
def Row.d (r:Row) :D:= .agg r.cs
structure MsgsMay (nw:Nat) (next high was:Int) (l:List Msg) :Prop where
 rise:(l.map Msg.uid).Pairwise (· < ·)
 all: ∀m∈l,was<m.uid∧MsgMay nw m∧m.uid<next∧m.mod≤high
theorem msgsMay {nw:Nat} {next high:Int}: ∀{l:List Msg} {was:Int},msgsB nw next high was l=true↔MsgsMay nw next high was l
 | [],was=>⟨fun _=>⟨by simp,by simp⟩,fun _=>rfl⟩
 | m :: r,was=>by
  unfold msgsB
  simp only [Bool.and_eq_true,decide_eq_true_eq]
  rw [msgMay,msgsMay]
  constructor
  ·rintro ⟨h1,h2,h3,h4,h5⟩
   refine ⟨?_,fun x hx=> ?_⟩
   ·simp only [List.map_cons,List.pairwise_cons,List.mem_map]
    refine ⟨?_,h5.rise⟩
    rintro _ ⟨x,hx,rfl⟩
    exact (h5.all x hx).1
   ·rcases List.mem_cons.1 hx with rfl | hx
    ·exact ⟨h2,h1,h3,h4⟩
    ·obtain ⟨k1,k2⟩:=h5.all x hx
     exact ⟨by omega,k2⟩
  ·intro h
   obtain ⟨k1,k2,k3,k4⟩:=h.all m (by simp)
   have hr:=h.rise
   simp only [List.map_cons,List.pairwise_cons,List.mem_map] at hr
   refine ⟨k2,k1,k3,k4,hr.2,fun x hx=> ?_⟩
   exact ⟨hr.1 _ ⟨x,hx,rfl⟩,(h.all x (by simp [hx])).2⟩
theorem MsgMay.more {nw nw':Nat} {m:Msg} (h:MsgMay nw m) (hn:nw≤nw') :MsgMay nw' m:=by
 refine ⟨h.uid,h.mod,h.date,h.id,h.flags, ?_,h.text⟩
 have: ∀(l:List Int) (was:Int),keysB nw was l=true→keysB nw' was l=true:=by
  intro l
  induction l with
  | nil=>intro _ _;rfl
  | cons k r ih=>
   intro was hk
   simp only [keysB,Bool.and_eq_true,decide_eq_true_eq] at hk⊢
   exact ⟨⟨hk.1.1,by omega⟩,ih _ hk.2⟩
 exact this _ _ h.keys
theorem MsgsMay.more {nw nw':Nat} {next next' high high' was:Int} {l:List Msg} (h:MsgsMay nw next high was l) (h1:nw≤nw') (h2:next≤next') (h3:high≤high') :MsgsMay nw' next' high' was l:=
 ⟨h.rise,fun m hm=>by obtain ⟨k1,k2,k3,k4⟩:=h.all m hm;exact ⟨k1,k2.more h1,by omega,by omega⟩⟩
theorem MsgsMay.set {nw:Nat} {next high was:Int} {l:List Msg} (h:MsgsMay nw next high was l) {i:Nat} (hi:i<l.length) {m:Msg} (hu:m.uid=l[i].uid) (hm:MsgMay nw m) (hh:m.mod≤high) :MsgsMay nw next high was (l.set i m):=by
 refine ⟨?_,fun x hx=> ?_⟩
 ·have:(l.set i m).map Msg.uid=l.map Msg.uid:=by
   rw [List.map_set,hu]
   apply List.ext_getElem?
   intro j
   rw [List.getElem?_set]
   split
   ·rename_i e;subst e;simp [hi]
   ·rfl
  rw [this];exact h.rise
 ·rcases List.mem_or_eq_of_mem_set hx with hx | rfl
  ·exact h.all x hx
  ·obtain ⟨k1,_,k3,_⟩:=h.all _ (List.getElem_mem hi)
   exact ⟨by omega,hm,by omega,hh⟩
theorem MsgsMay.erase {nw:Nat} {next high was:Int} {l:List Msg} (h:MsgsMay nw next high was l) (i:Nat) :MsgsMay nw next high was (l.eraseIdx i):=by
 refine ⟨?_,fun x hx=>h.all x (List.mem_of_mem_eraseIdx hx)⟩
 exact h.rise.sublist ((List.eraseIdx_sublist l i).map _)
theorem MsgsMay.snoc {nw:Nat} {next high was:Int} {l:List Msg} (h:MsgsMay nw next high was l) {m:Msg} (hw:was<m.uid) (hu:next≤m.uid) (hm:MsgMay nw m) :MsgsMay nw (m.uid+1) (max high m.mod) was (l++ [m]):=by
 refine ⟨?_,fun x hx=> ?_⟩
 ·rw [List.map_append,List.pairwise_append]
  refine ⟨h.rise,by simp,fun a ha b hb=> ?_⟩
  obtain ⟨x,hx,rfl⟩:=List.mem_map.1 ha
  simp at hb;subst hb
  have:=(h.all x hx).2.2.1;omega
 ·rcases List.mem_append.1 hx with hx | hx
  ·obtain ⟨k1,k2,k3,k4⟩:=h.all x hx
   exact ⟨k1,k2,by omega,by omega⟩
  ·simp at hx;subst hx
   exact ⟨hw,hm,by omega,by omega⟩
theorem wordsB_snoc (s:Bytes) : ∀(l pre:List Bytes),wordsB pre l=true→atomB s=true→(pre++l).contains s=false→wordsB pre (l++ [s]) =true
 | [],pre,_,ha,hc=>by
  have hc:pre.contains s=false:=by simpa using hc
  simp only [wordsB,List.nil_append,ha,hc];rfl
 | w :: r,pre,h,ha,hc=>by
  simp only [wordsB,List.cons_append,Bool.and_eq_true] at h⊢
  refine ⟨h.1,wordsB_snoc s r (pre++ [w]) h.2 ha ?_⟩
  rw [List.append_assoc];exact hc
def modB (n:Int) :Bool:=decide (1≤n) &&decide (n≤1000000)
def findM (l:List Msg) (uid:Int) :Option Nat:=l.findIdx? fun m=>m.uid==uid
def addB (b:Box) (m:Msg) :Int×Box:=
 if 60≤b.msgs.length then (4,b) else if mayMsg b.words.length m=false then (1,b) else if m.uid<b.next then (1,b)
 else (0,{b with msgs:=b.msgs++ [m],next:=m.uid+1,high:=max b.high m.mod})
def wordB (b:Box) (s:Bytes) :Int×Box:=
 if atomB s=false then (1,b) else if b.words.contains s=true then (7,b) else if 64≤b.words.length then (4,b) else (0,{b with words:=b.words++ [s]})
def flagM (m:Msg) (r:Row) :Msg:={m with flags:=r.msg.flags,keys:=r.msg.keys,mod:=r.mod}
def oneB (b:Box) (i:Nat) (m:Msg) (r:Row) :Int×Box:=
 if r.kind=2 then (if mayMsg b.words.length (flagM m r) =true then (0,{b with msgs:=b.msgs.set i (flagM m r) }) else (1,b))
 else if r.kind=5 then (if atomB r.text=true then (0,{b with msgs:=b.msgs.set i {m with id:=r.text} }) else (1,b))
 else if modB r.mod=false then (1,b)
 else if r.kind=3 then (0,{b with msgs:=b.msgs.eraseIdx i})
 else (0,{b with msgs:=b.msgs.set i {m with mod:=r.mod} })
def applyB (b:Box) (r:Row) :Int×Box:=
 if r.kind=1 then addB b r.msg
 else if r.kind=4 then wordB b r.text
 else if r.kind=7 then (if modB r.mod=true then (0,{b with high:=max b.high r.mod}) else (1,b))
 else if r.kind=2∨r.kind=3∨r.kind=5∨r.kind=6 then
  match findM b.msgs r.uid with
  | none=>(6,b)
  | some i=>match b.msgs[i]? with
   | none=>(6,b)
   | some m=>if (oneB b i m r).1≠0∨r.kind=5 then oneB b i m r else (0,{(oneB b i m r).2 with high:=max b.high r.mod})
 else (1,b)
structure Rose (b c:Box) :Prop where
 id:c.id=b.id
 valid:c.valid=b.valid
 next:b.next≤c.next
 high:b.high≤c.high
 words: ∃ws,c.words=b.words++ws
theorem addB_may {b c:Box} {m:Msg} (hb:BoxMay b) (h:addB b m=(0,c)) :BoxMay c∧Rose b c:=by
 unfold addB at h
 split at h
 ·cases h
 split at h
 ·cases h
 split at h
 ·cases h
 rename_i h1 h2 h3
 have h2:mayMsg b.words.length m=true:=by simpa using h2
 have hm:=msgMay.1 h2
 simp only [Prod.mk.injEq,true_and] at h
 subst h
 have:=hm.uid;have:=hm.mod;have:=hb.high;have:=hb.next
 refine ⟨⟨hb.id,hb.valid,⟨by simp only;omega,by simp only;omega⟩,⟨by simp only;omega,by simp only;omega⟩,hb.nw,by simp;omega,hb.words, ?_⟩,⟨rfl,rfl,by simp only;omega,by simp only;omega,[],by simp⟩⟩
 exact msgsMay.2 ((msgsMay.1 hb.msgs).snoc (by omega) (by omega) hm)
theorem wordB_may {b c:Box} {s:Bytes} (hb:BoxMay b) (h:wordB b s=(0,c)) :BoxMay c∧Rose b c:=by
 unfold wordB at h
 split at h
 ·cases h
 split at h
 ·cases h
 split at h
 ·cases h
 rename_i h1 h2 h3
 simp only [Prod.mk.injEq,true_and] at h
 subst h
 refine ⟨⟨hb.id,hb.valid,hb.high,hb.next,by simp;omega,hb.nm,wordsB_snoc s _ [] hb.words (by simpa using h1) (by simpa using h2), ?_⟩,⟨rfl,rfl,Int.le_refl _,Int.le_refl _,[s],rfl⟩⟩
 exact msgsMay.2 ((msgsMay.1 hb.msgs).more (by simp) (Int.le_refl _) (Int.le_refl _))
theorem BoxMay.up {b:Box} (hb:BoxMay b) {n:Int} (hn:n≤1000000) :BoxMay {b with high:=max b.high n}:=
 ⟨hb.id,hb.valid,⟨by have:=hb.high;simp only;omega,by have:=hb.high;simp only;omega⟩,hb.next,hb.nw,hb.nm,hb.words,msgsMay.2 ((msgsMay.1 hb.msgs).more (Nat.le_refl _) (Int.le_refl _) (Int.le_max_left _ _))⟩
theorem MsgsMay.setH {nw:Nat} {next high was:Int} {l:List Msg} (h:MsgsMay nw next high was l) {i:Nat} (hi:i<l.length) {m:Msg} (hu:m.uid=l[i].uid) (hm:MsgMay nw m) :MsgsMay nw next (max high m.mod) was (l.set i m):=
 (h.more (Nat.le_refl _) (Int.le_refl _) (Int.le_max_left _ _)).set hi hu hm (Int.le_max_right _ _)
theorem findM_some {l:List Msg} {uid:Int} {i:Nat} (h:findM l uid=some i) : ∃h:i<l.length,l[i].uid=uid:=by
 unfold findM at h
 rw [List.findIdx?_eq_some_iff_getElem] at h
 obtain ⟨h1,h2,_⟩:=h
 exact ⟨h1,by simpa using h2⟩
theorem applyB_may {b c:Box} {r:Row} (hb:BoxMay b) (h:applyB b r=(0,c)) :BoxMay c∧Rose b c:=by
 unfold applyB at h
 have hM:=msgsMay.1 hb.msgs
 split at h
 ·exact addB_may hb h
 split at h
 ·exact wordB_may hb h
 split at h
 ·split at h
  ·rename_i hm
   simp only [modB,Bool.and_eq_true,decide_eq_true_eq] at hm
   simp only [Prod.mk.injEq,true_and] at h
   subst h
   exact ⟨hb.up hm.2,⟨rfl,rfl,Int.le_refl _,Int.le_max_left _ _,[],by simp⟩⟩
  ·cases h
 split at h
 ·split at h
  ·cases h
  ·rename_i i hf
   obtain ⟨hi,hu⟩:=findM_some hf
   rw [List.getElem?_eq_getElem hi] at h
   dsimp only at h
   have hm:=(hM.all _ (List.getElem_mem hi)).2.1
   have hmo:=(hM.all _ (List.getElem_mem hi)).2.2.2
   unfold oneB at h
   by_cases k2:r.kind=2
   ·simp only [k2] at h
    by_cases hq:mayMsg b.words.length (flagM b.msgs[i] r) =true
    ·simp only [hq,if_true,if_pos] at h
     simp at h
     subst h
     have hq2:=msgMay.1 hq
     have hmm:=hq2.mod
     refine ⟨⟨hb.id,hb.valid,⟨by have:=hb.high;simp only;omega,by have:=hb.high;simp only [flagM] at hmm⊢;omega⟩,hb.next,hb.nw,by simpa using hb.nm,hb.words,msgsMay.2 ?_⟩,⟨rfl,rfl,Int.le_refl _,Int.le_max_left _ _,[],by simp⟩⟩
     exact hM.setH (m:=flagM b.msgs[i] r) hi rfl hq2
    ·simp only [hq] at h
     simp at h
   ·by_cases k5:r.kind=5
    ·simp only [k5] at h
     by_cases hq:atomB r.text=true
     ·simp [hq] at h
      subst h
      refine ⟨⟨hb.id,hb.valid,hb.high,hb.next,hb.nw,by simpa using hb.nm,hb.words,msgsMay.2 ?_⟩,⟨rfl,rfl,Int.le_refl _,Int.le_refl _,[],by simp⟩⟩
      exact hM.set hi rfl ⟨hm.uid,hm.mod,hm.date,hq,hm.flags,hm.keys,hm.text⟩ hmo
     ·simp [hq] at h
    ·simp only [k2,k5,if_false,or_false] at h
     by_cases hq:modB r.mod=true
     ·have hq2:=hq
      simp only [modB,Bool.and_eq_true,decide_eq_true_eq] at hq2
      simp only [hq] at h
      by_cases k3:r.kind=3
      ·simp [k3] at h
       subst h
       refine ⟨⟨hb.id,hb.valid,⟨by have:=hb.high;simp only;omega,by have:=hb.high;simp only;omega⟩,hb.next,hb.nw, ?_,hb.words,msgsMay.2 ?_⟩,⟨rfl,rfl,Int.le_refl _,Int.le_max_left _ _,[],by simp⟩⟩
       ·have:=hb.nm;have:=List.length_eraseIdx_le b.msgs i;simp only;omega
       ·exact (hM.more (Nat.le_refl _) (Int.le_refl _) (Int.le_max_left _ _)).erase i
      ·simp [k3] at h
       subst h
       refine ⟨⟨hb.id,hb.valid,⟨by have:=hb.high;simp only;omega,by have:=hb.high;simp only;omega⟩,hb.next,hb.nw,by simpa using hb.nm,hb.words,msgsMay.2 ?_⟩,⟨rfl,rfl,Int.le_refl _,Int.le_max_left _ _,[],by simp⟩⟩
       exact hM.setH hi (m:={b.msgs[i] with mod:=r.mod}) rfl ⟨hm.uid,hq2,hm.date,hm.id,hm.flags,hm.keys,hm.text⟩
     ·have hq:modB r.mod=false:=by simpa using hq
      simp [hq] at h
 ·cases h
end B
end Go.Proofs.YtmkkljbfmdngfaaGreatDoor
namespace Go.Proofs.YtmkkljbfmdngfaaGreatDoor
namespace B
open Go.RowKit Go.Sort
theorem info_of {t:TypeId} {n b:Nat} {z:Value} (h:(Tryz.prog.info? t).map (fun i=>(i.size,i.bytes)) =some (n,b)) (hz:(Tryz.prog.info? t).map (fun i=>i.zero) =some (some z)) : ∃i0,Tryz.prog.info? t=some i0∧i0.zero=some z∧i0.size=n∧i0.bytes=b:=by
 cases e:Tryz.prog.info? t with
 | none=>rw [e] at h;cases h
 | some i=>rw [e] at h hz;simp at h hz;exact ⟨i,rfl,hz,h.1,h.2⟩
theorem info3: ∃i0,Tryz.prog.info? 3=some i0∧i0.zero=some (.int .i64 0)∧i0.size=1∧i0.bytes=8:=info_of (by kernel_rfl) (by kernel_rfl)
theorem info9: ∃i0,Tryz.prog.info? 9=some i0∧i0.zero=some (.string .empty)∧i0.size=1∧i0.bytes=16:=info_of (by kernel_rfl) (by kernel_rfl)
abbrev zeroMsg:Array Value:= #[.int .i64 0, .int .i64 0, .int .i64 0, .string .empty, .int .i64 0, .slice none 0 0, .string .empty]
theorem info42: ∃i0,Tryz.prog.info? 44=some i0∧i0.zero=some (.agg zeroMsg)∧i0.size=7∧i0.bytes=88:=info_of (by kernel_rfl) (by kernel_rfl)
theorem r82R (k:Nat) (l:List D) (hl:l.length≤1099511627776) :Runs P 85 [.d (.slice 1 l)] [] (.rs 1 k 0 l.length) [(k,[.arr 1 l])]:=by
 obtain ⟨i0,h1,h2,h3,h4⟩:=info3
 exact Runs.cloneR (T:=3) (bytes:=8) ⟨Tryz.f85,Tryz.func85,by kernel_rfl,by kernel_rfl⟩ (fun ad n c news w q1 q2 q3 q4 q5=>SD.slices_CloneA Tryz.laysC82 i0 _ 1 8 h1 h2 h3 h4 rfl (by decide) Tryz.sizeOf3 ad n c news w q1 q2 q3 q4 q5) (fun n c w=>AnyE.slices_Clone_nil Tryz.laysC82 n c w) (by decide) k l (by unfold Go.maxLen;omega) (by omega)
theorem r118R (k:Nat) (l:List D) (hl:l.length≤1099511627776) :Runs P 101 [.d (.slice 1 l)] [] (.rs 1 k 0 l.length) [(k,[.arr 1 l])]:=by
 obtain ⟨i0,h1,h2,h3,h4⟩:=info9
 exact Runs.cloneR (T:=9) (bytes:=16) ⟨Tryz.f101,Tryz.func101,by kernel_rfl,by kernel_rfl⟩ (fun ad n c news w q1 q2 q3 q4 q5=>SD.slices_CloneA Tryz.laysC118 i0 _ 1 16 h1 h2 h3 h4 rfl (by decide) Tryz.sizeOf9 ad n c news w q1 q2 q3 q4 q5) (fun n c w=>AnyE.slices_Clone_nil Tryz.laysC118 n c w) (by decide) k l (by unfold Go.maxLen;omega) (by omega)
theorem r119R (k:Nat) (l:List D) (hl:l.length≤1099511627776) :Runs P 102 [.d (.slice 7 l)] [] (.rs 7 k 0 l.length) [(k,[.arr 7 l])]:=by
 obtain ⟨i0,h1,h2,h3,h4⟩:=info42
 exact Runs.cloneR (T:=44) (bytes:=88) ⟨Tryz.f102,Tryz.func102,by kernel_rfl,by kernel_rfl⟩ (fun ad n c news w q1 q2 q3 q4 q5=>SD.slices_CloneA Tryz.laysC119 i0 _ 7 88 h1 h2 h3 h4 rfl (by decide) Tryz.sizeOf44 ad n c news w q1 q2 q3 q4 q5) (fun n c w=>AnyE.slices_Clone_nil Tryz.laysC119 n c w) (by decide) k l (by unfold Go.maxLen;omega) (by omega)
theorem r82D (l:List D) (hl:l.length≤1099511627776) :Runs P 85 [.d (.slice 1 l)] [] (.d (.slice 1 l)) []:=(r82R 7 l hl).freeze rfl (by decide)
theorem r141 (k i:Nat) (l:List D) (hi:i<l.length) :Runs P 147 [.rs 7 k 0 l.length, .d (.int .i64 i), .d (.int .i64 (i+1:Nat))] [(k,[.arr 7 l])] (.rs 7 k 0 (l.length- 1)) [(k,[.arr 7 (l.eraseIdx i)])]:=by
 obtain ⟨i0,h1,h2,h3,h4⟩:=info42
 exact Runs.deleteR ⟨Tryz.f147,Tryz.func147,by kernel_rfl,by kernel_rfl⟩ (Builtin.zeroCells (Value.agg zeroMsg).cells 1).toList (by rw [SD.zeroCells_len];rfl) (fun blk cap n i d w q1 q2 q3 q4 q5 q6=>
  SD.slices_Delete Tryz.laysD141 7 (by decide) zeroMsg Tryz.sizeOf44 Tryz.zeroValue44 rfl (by decide) i0 h1 h3 blk cap n i d w q1 q2 q3 q4 q5 (i+1) rfl (by omega) (by omega)) k i l hi
end B
end Go.Proofs.YtmkkljbfmdngfaaGreatDoor
