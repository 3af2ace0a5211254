/- Rows of changes, in plain words: what a change makes of a mailbox; a mailbox that may be may be behind it. No condition. -/
import Derived.Test.YtmkkljbfmdngfaaGreatDoorG1
import Derived.Test.YtmkkljbfmdngfaaGreatDoorRs
import Derived.Test.YtmkkljbfmdngfaaGreatDoorSo
import Derived.Test.YtmkkljbfmdngfaaGreatDoorB30
set_option linter.all false
namespace Go.Proofs.YtmkkljbfmdngfaaGreatDoor
namespace B
structure Row where
 kind:Int
 uid:Int
 mod:Int
 msg:Msg
 text:Bytes
def Row.cs (r:Row) :List D:=[iD r.kind,iD r.uid,iD r.mod]++r.msg.cs++ [.str r.text]
def Row.d (r:Row) :D:= .agg r.cs
structure MsgsMay (nw:Nat) (next high was:Int) (l:List Msg) :Prop where
 rise:(l.map Msg.uid).Pairwise (· < ·)
 all: ∀m∈l,was<m.uid∧MsgMay nw m∧m.uid<next∧m.mod≤high
theorem msgsMay {nw:Nat} {next high:Int}: ∀{l:List Msg} {was:Int},msgsB nw next high was l=true↔MsgsMay nw next high was l
 | [],was=>⟨fun _=>⟨by simp,by simp⟩,fun _=>rfl⟩
 | m :: r,was=>by
  unfold msgsB
  simp only [Bool.and_eq_true,decide_eq_true_eq]
  rw [msgMay,msgsMay]
  constructor
  ·rintro ⟨h1,h2,h3,h4,h5⟩
   refine ⟨?_,fun x hx=> ?_⟩
   ·simp only [List.map_cons,List.pairwise_cons,List.mem_map]
    refine ⟨?_,h5.rise⟩
    rintro _ ⟨x,hx,rfl⟩
    exact (h5.all x hx).1
   ·rcases List.mem_cons.1 hx with rfl | hx
    ·exact ⟨h2,h1,h3,h4⟩
    ·obtain ⟨k1,k2⟩:=h5.all x hx
     exact ⟨by omega,k2⟩
  ·intro h
   obtain ⟨k1,k2,k3,k4⟩:=h.all m (by simp)
   have hr:=h.rise
   simp only [List.map_cons,List.pairwise_cons,List.mem_map] at hr
   refine ⟨k2,k1,k3,k4,hr.2,fun x hx=> ?_⟩
   exact ⟨hr.1 _ ⟨x,hx,rfl⟩,(h.all x (by simp [hx])).2⟩
theorem MsgMay.more {nw nw':Nat} {m:Msg} (h:MsgMay nw m) (hn:nw≤nw') :MsgMay nw' m:=by
 refine ⟨h.uid,h.mod,h.date,h.id,h.flags, ?_,h.text⟩
 have: ∀(l:List Int) (was:Int),keysB nw was l=true→keysB nw' was l=true:=by
  intro l
  induction l with
  | nil=>intro _ _;rfl
  | cons k r ih=>
   intro was hk
   simp only [keysB,Bool.and_eq_true,decide_eq_true_eq] at hk⊢
   exact ⟨⟨hk.1.1,by omega⟩,ih _ hk.2⟩
 exact this _ _ h.keys
theorem MsgsMay.more {nw nw':Nat} {next next' high high' was:Int} {l:List Msg} (h:MsgsMay nw next high was l) (h1:nw≤nw') (h2:next≤next') (h3:high≤high') :MsgsMay nw' next' high' was l:=
 ⟨h.rise,fun m hm=>by obtain ⟨k1,k2,k3,k4⟩:=h.all m hm;exact ⟨k1,k2.more h1,by omega,by omega⟩⟩
theorem MsgsMay.set {nw:Nat} {next high was:Int} {l:List Msg} (h:MsgsMay nw next high was l) {i:Nat} (hi:i<l.length) {m:Msg} (hu:m.uid=l[i].uid) (hm:MsgMay nw m) (hh:m.mod≤high) :MsgsMay nw next high was (l.set i m):=by
 refine ⟨?_,fun x hx=> ?_⟩
 ·have:(l.set i m).map Msg.uid=l.map Msg.uid:=by
   rw [List.map_set,hu]
   apply List.ext_getElem?
   intro j
   rw [List.getElem?_set]
   split
   ·rename_i e;subst e;simp [hi]
   ·rfl
  rw [this];exact h.rise
 ·rcases List.mem_or_eq_of_mem_set hx with hx | rfl
  ·exact h.all x hx
  ·obtain ⟨k1,_,k3,_⟩:=h.all _ (List.getElem_mem hi)
   exact ⟨by omega,hm,by omega,hh⟩
structure Rose (b c:Box) :Prop where
 id:c.id=b.id
 valid:c.valid=b.valid
 next:b.next≤c.next
 high:b.high≤c.high
 words: ∃ws,c.words=b.words++ws
end B
end Go.Proofs.YtmkkljbfmdngfaaGreatDoor
namespace Go.Proofs.YtmkkljbfmdngfaaGreatDoor
namespace B
open Go.RowKit Go.Sort
theorem info_of {t:TypeId} {n b:Nat} {z:Value} (h:(Tryz.prog.info? t).map (fun i=>(i.size,i.bytes)) =some (n,b)) (hz:(Tryz.prog.info? t).map (fun i=>i.zero) =some (some z)) : ∃i0,Tryz.prog.info? t=some i0∧i0.zero=some z∧i0.size=n∧i0.bytes=b:=by
 cases e:Tryz.prog.info? t with
 | none=>rw [e] at h;cases h
 | some i=>rw [e] at h hz;simp at h hz;exact ⟨i,rfl,hz,h.1,h.2⟩
theorem info3: ∃i0,Tryz.prog.info? 3=some i0∧i0.zero=some (.int .i64 0)∧i0.size=1∧i0.bytes=8:=info_of (by kernel_rfl) (by kernel_rfl)
theorem info9: ∃i0,Tryz.prog.info? 9=some i0∧i0.zero=some (.string .empty)∧i0.size=1∧i0.bytes=16:=info_of (by kernel_rfl) (by kernel_rfl)
abbrev zeroMsg:Array Value:= #[.int .i64 0, .int .i64 0, .int .i64 0, .string .empty, .int .i64 0, .slice none 0 0, .string .empty]
theorem r82R (k:Nat) (l:List D) (hl:l.length≤1099511627776) :Runs P 85 [.d (.slice 1 l)] [] (.rs 1 k 0 l.length) [(k,[.arr 1 l])]:=by
 obtain ⟨i0,h1,h2,h3,h4⟩:=info3
 exact Runs.cloneR (T:=3) (bytes:=8) ⟨Tryz.f85,Tryz.func85,by kernel_rfl,by kernel_rfl⟩ (fun ad n c news w q1 q2 q3 q4 q5=>SD.slices_CloneA Tryz.laysC82 i0 _ 1 8 h1 h2 h3 h4 rfl (by decide) Tryz.sizeOf3 ad n c news w q1 q2 q3 q4 q5) (fun n c w=>AnyE.slices_Clone_nil Tryz.laysC82 n c w) (by decide) k l (by unfold Go.maxLen;omega) (by omega)
theorem r82D (l:List D) (hl:l.length≤1099511627776) :Runs P 85 [.d (.slice 1 l)] [] (.d (.slice 1 l)) []:=(r82R 7 l hl).freeze rfl (by decide)
end B
end Go.Proofs.YtmkkljbfmdngfaaGreatDoor
namespace Go.Proofs.YtmkkljbfmdngfaaGreatDoor
namespace B
def HR:Hint:=⟨fun f r=>if r==1000000 then (if f==58 then [12,27] else if f==108 then [30] else if f==107 then [38] else if f==73 then [6,27] else if f==40 then [66] else []) else if r==1000001 then (if f==40 then [3000070,3000081] else if f==999999 then [4000032] else if f==999999 then [4000061] else if f==23 then [28,79] else if f==32 then [28] else if f==74 then [2000117] else []) else if f==107 then (if r==10 then [1000,1080074,1140075] else []) else if f==146 then (if r==2 then [7,1100075,1120075] else []) else if f==999999 then (if r==13 then [23,9,1010140,1030075] else if r==37||r==44 then [6] else []) else if f==168||f==171||f==133||f==137 then [1100] else if f==999999||f==999999 then (if r==6 then [9,99999] else if r==7 then [11,99999] else []) else [],fun f=>if f==999999||f==999999||f==999999||f==129||f==134 then some 0 else none⟩
set_option maxRecDepth 100000
end B
end Go.Proofs.YtmkkljbfmdngfaaGreatDoor
namespace Go.Proofs.YtmkkljbfmdngfaaGreatDoor
namespace B
set_option maxRecDepth 100000
end B
end Go.Proofs.YtmkkljbfmdngfaaGreatDoor
