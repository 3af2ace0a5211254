/- The third form is read: contracts. Conditions: sizes. -/
import Derived.Test.YtmkkljbfmdngfaaGreatDoorIA
import Derived.Test.YtmkkljbfmdngfaaGreatDoorSA
set_option linter.all false
namespace Go.Proofs.YtmkkljbfmdngfaaGreatDoor
namespace B
open Go.RowKit
theorem Rd.pure_bind {α β:Type} (a:α) (f:α→Rd β) :(Rd.pure a).bind f=f a:=rfl
theorem Rd.bind_assoc {α β γ:Type} (p:Rd α) (f:α→Rd β) (g:β→Rd γ) :(p.bind f).bind g=p.bind fun a=>(f a).bind g:=by
 funext s;unfold Rd.bind
 cases p s with
 | error e=>rfl
 | ok q=>rfl
def iterP {α σ:Type} (g:σ→Rd α) (nx:σ→α→σ) :Nat→σ→Rd (List α)
 | 0,_=>Rd.pure []
 | n+1,s=>(g s).bind fun a=>(iterP g nx n (nx s a)).bind fun l=>Rd.pure (a :: l)
theorem iterP_snoc {α σ:Type} (g:σ→Rd α) (nx:σ→α→σ) : ∀(n:Nat) (s:σ),iterP g nx (n+1) s=(iterP g nx n s).bind fun l=>(g (l.foldl nx s)).bind fun a=>Rd.pure (l++ [a])
 | 0,s=>rfl
 | n+1,s=>by
  have e:(fun a=>(iterP g nx (n+1) (nx s a)).bind fun l=>Rd.pure (a :: l)) =fun a=>((iterP g nx n (nx s a)).bind fun l=>(g (l.foldl nx (nx s a))).bind fun b=>Rd.pure (l++ [b])).bind fun l=>Rd.pure (a :: l):=by
   funext a;rw [iterP_snoc g nx n]
  show (g s).bind (fun a=>(iterP g nx (n+1) (nx s a)).bind fun l=>Rd.pure (a :: l)) =((g s).bind fun a=>(iterP g nx n (nx s a)).bind fun l=>Rd.pure (a :: l)).bind _
  rw [e]
  simp only [Rd.bind_assoc,Rd.pure_bind,List.foldl_cons,List.cons_append]
theorem keysP3_iter: ∀(n:Nat) (was:Int),keysP3 n was=iterP (fun was=>(numM Mx).bind fun d=>Rd.pure (was+d)) (fun _ k=>k) n was
 | 0,_=>rfl
 | n+1,was=>by
  rw [keysP3,iterP]
  simp only [Rd.bind_assoc,Rd.pure_bind,keysP3_iter n]
theorem textsP3_iter: ∀n:Nat,textsP3 n=iterP (fun _:Unit=>textP 24) (fun _ _=>()) n ()
 | 0=>rfl
 | n+1=>by rw [textsP3,iterP];simp only [textsP3_iter n]
theorem msgsP3_iter: ∀(n:Nat) (last:Int),msgsP3 n last=iterP msgP3 (fun _ m=>m.uid) n last
 | 0,_=>rfl
 | n+1,last=>by rw [msgsP3,iterP];simp only [msgsP3_iter n]
structure Wb where
 s:Bytes
 e:Int
 off:Bool
abbrev rdb (w:Wb) :List (Nat×List CV):=rdrs w.s w.e w.off
def StepF {α:Type} (p:Rd α) (f:Wb→α×Wb) :Prop:=∀w:Wb,Step p w.s w.e w.off (f w).1 (f w).2.s (f w).2.e (f w).2.off
def bindF {α β:Type} (f:Wb→α×Wb) (g:α→Wb→β×Wb) :Wb→β×Wb:=fun w=>g (f w).1 (f w).2
def pureF {α:Type} (a:α) :Wb→α×Wb:=fun w=>(a,w)
def iterF {α σ:Type} (g:σ→Wb→α×Wb) (nx:σ→α→σ) :Nat→σ→Wb→List α×Wb
 | 0,_,w=>([],w)
 | n+1,s,w=>((iterF g nx n s w).1++ [(g ((iterF g nx n s w).1.foldl nx s) (iterF g nx n s w).2).1],(g ((iterF g nx n s w).1.foldl nx s) (iterF g nx n s w).2).2)
theorem StepF.bind {α β:Type} {p:Rd α} {q:α→Rd β} {f:Wb→α×Wb} {g:α→Wb→β×Wb} (h1:StepF p f) (h2: ∀a,StepF (q a) (g a)) :StepF (p.bind q) (bindF f g):=fun w=>(h1 w).bind (h2 _ _)
theorem StepF.pure {α:Type} (a:α) :StepF (Rd.pure a) (pureF a):=fun w=>Step.pure a _ _ _
theorem StepF.iter {α σ:Type} {g:σ→Rd α} {nx:σ→α→σ} {f:σ→Wb→α×Wb} (h: ∀s,StepF (g s) (f s)) : ∀(n:Nat) (s:σ),StepF (iterP g nx n s) (iterF f nx n s)
 | 0,s=>StepF.pure []
 | n+1,s=>fun w=>by
  rw [iterP_snoc]
  exact (StepF.iter h n s w).bind ((h _ _).bind (Step.pure _ _ _ _))
theorem StepF.le {α:Type} {p:Rd α} {f:Wb→α×Wb} (h:StepF p f) {w:Wb} {n:Nat} (hw:w.s.length≤n) :(f w).2.s.length≤n:=Nat.le_trans (h w).len hw
theorem iterF_len {α σ:Type} (g:σ→Wb→α×Wb) (nx:σ→α→σ) : ∀(n:Nat) (s:σ) (w:Wb),(iterF g nx n s w).1.length=n
 | 0,_,_=>rfl
 | n+1,s,w=>by rw [iterF];simp [iterF_len g nx n s w]
theorem iterF_all {α σ:Type} (g:σ→Wb→α×Wb) (nx:σ→α→σ) {Q:α→Prop} (hq: ∀s w,Q (g s w).1) : ∀(n:Nat) (s:σ) (w:Wb),∀a∈(iterF g nx n s w).1,Q a
 | 0,_,_,a,h=>by cases h
 | n+1,s,w,a,h=>by
  rw [iterF] at h
  rcases List.mem_append.1 h with h | h
  ·exact iterF_all g nx hq n s w a h
  ·rw [List.mem_singleton] at h;subst h;exact hq _ _
def Wb.good (w:Wb) :Bool:= !w.off&&w.e==0
def numF (most:Int) (w:Wb) :Int×Wb:=
 if w.good=true then (if (rd numR 0 w.s w.e).1>most then (0,⟨(rd numR 0 w.s w.e).2.1,(rd numR 0 w.s w.e).2.2,true⟩) else ((rd numR 0 w.s w.e).1,⟨(rd numR 0 w.s w.e).2.1,(rd numR 0 w.s w.e).2.2,w.off⟩)) else (0,w)
def textF (most:Int) (w:Wb) :Bytes×Wb:=
 if w.good=true then ((rd (textP most) [] w.s w.e).1,⟨(rd (textP most) [] w.s w.e).2.1,(rd (textP most) [] w.s w.e).2.2,w.off⟩) else ([],w)
theorem numF_nn (most:Int) (hm:0≤most) (w:Wb) :0≤(numF most w).1∧(numF most w).1≤most:=by
 unfold numF
 split
 ·split
  ·exact ⟨Int.le_refl _,hm⟩
  ·have:=rd_numR w.s w.e
   exact ⟨this.1,by simp only;omega⟩
 ·exact ⟨Int.le_refl _,hm⟩
theorem textF_len (most:Int) (w:Wb) :((textF most w).1.length:Int)≤max most 0:=by
 unfold textF
 split
 ·exact rd_text w.s w.e
 ·simp only [List.length_nil];omega
theorem good_iff {w:Wb}:w.good=true↔w.off=false∧w.e=0:=by unfold Wb.good;simp
theorem numF_step (most:Int) (hm:0≤most) :StepF (numM most) (numF most):=by
 rintro ⟨s,e,off⟩
 unfold numF
 by_cases hg:(⟨s,e,off⟩ :Wb).good=true
 ·obtain ⟨rfl,rfl⟩:=good_iff.1 hg
  rw [if_pos hg]
  simp only
  have hl:=rd_len numR 0 numR_len s 0
  cases h:numP s with
  | error x=>
   have e1:numR s= .error x:=by unfold numR;rw [h]
   have e2:numM most s= .error x:=by unfold numM;rw [h]
   rw [rd_er 0 e1]
   simp only
   rw [if_neg (by omega)]
   exact ⟨fun _ _=> .inr ⟨x,e2,rfl,numR_er s x e1⟩,fun y hy=>hy.no.elim,Nat.le_refl _⟩
  | ok q=>
   obtain ⟨n,k⟩:=q
   have e1:numR s= .ok ((n:Int),s.drop k):=by unfold numR;rw [h]
   rw [rd_ok 0 e1] at hl⊢
   simp only at hl⊢
   by_cases hn:(n:Int) >most
   ·have e2:numM most s= .error 3:=by unfold numM;rw [h];simp only;rw [if_pos hn]
    rw [if_pos hn]
    exact ⟨fun _ _=> .inr ⟨3,e2,rfl⟩,fun y hy=>hy.no.elim,hl⟩
   ·have e2:numM most s= .ok ((n:Int),s.drop k):=by unfold numM;rw [h];simp only;rw [if_neg hn]
    rw [if_neg hn]
    exact ⟨fun _ _=> .inl ⟨_,_,e2,rfl,rfl,rfl,rfl⟩,fun y hy=>hy.no.elim,hl⟩
 ·rw [if_neg hg]
  exact Step.any _ _ _ (by unfold Wb.good at hg;simpa using hg)
theorem textF_step (most:Int) :StepF (textP most) (textF most):=by
 intro w
 unfold textF
 split
 ·exact step_rd (textP most) [] textP_er (fun s a r h=>(textP_len s a r h).1) w.s w.e w.off
 ·rename_i hg
  exact Step.any _ _ _ (by unfold Wb.good at hg;simpa using hg)
theorem endZ {c res:CV} {bx:List (Nat×List CV)} {w:Wb} (h:c=res) (h1:bx.lookup 1000=some [CV.ptr 1100 0,CV.d (.bool w.off)]) (h2:bx.lookup 1100=some (rdr w.s w.e)) (hc:(⟨[res],rdb w⟩ :St).clo=true) :EndR c res bx (rdb w):=endO2 h h1 h2 hc
theorem z197 (w:Wb) :Runs P 197 [.ptr 1000 0] (rdb w) (.d (.bool w.good)) (rdb w):=by
 refine runs_walkZ zt197 (zvc197 _ _ _ _ _) rfl (by simp) ?_
 refine ⟨w.e,fun _=>c63 w.s w.e, ?_⟩
 rintro _ rfl
 exact endZ rfl rfl rfl rfl
theorem z174 (w:Wb) (most:Int) (hs:w.s.length≤1099511627776) :Runs P 174 [.ptr 1000 0, .d (iD most)] (rdb w) (.d (iD (numF most w).1)) (rdb (numF most w).2):=by
 refine runs_walkZ zt174 (zvc174 _ _ _ _ _ _) rfl (by simp) ?_
 unfold numF
 refine ⟨_,_,_,_,z197 w,fun h=> ?_,fun h=>⟨_,_,_,Runs.at (xs:=[]) (z150 w.s w.e hs) 1100,fun h2=> ?_,fun h2=> ?_⟩⟩
 ·have h: ¬w.good=true:=by simpa using h
  rw [if_neg h];exact endZ rfl rfl rfl rfl
 ·have h:w.good=true:=by simpa using h
  rw [if_pos h,if_pos (of_decide_eq_true h2)];exact endZ rfl rfl rfl rfl
 ·have h:w.good=true:=by simpa using h
  rw [if_pos h,if_neg (of_decide_eq_false h2)];exact endZ rfl rfl rfl rfl
theorem z175 (w:Wb) (most:Int) (hs:w.s.length≤1099511627776) :Runs P 175 [.ptr 1000 0, .d (iD most)] (rdb w) (.d (.str (textF most w).1)) (rdb (textF most w).2):=by
 refine runs_walkZ zt175 (zvc175 _ _ _ _ _ _) rfl (by simp) ?_
 unfold textF
 refine ⟨_,_,_,_,z197 w,fun h=> ?_,fun h=>⟨_,_,_,Runs.at (xs:=[.int .i64 most]) (r110 w.s w.e most hs) 1100, ?_⟩⟩
 ·have h: ¬w.good=true:=by simpa using h
  rw [if_neg h];exact endZ rfl rfl rfl rfl
 ·have h:w.good=true:=by simpa using h
  rw [if_pos h];exact endZ rfl rfl rfl rfl
end B
end Go.Proofs.YtmkkljbfmdngfaaGreatDoor
namespace Go.Proofs.YtmkkljbfmdngfaaGreatDoor
namespace B
open Go.RowKit
def keyG (was:Int) :Wb→Int×Wb:=bindF (numF Mx) fun d=>pureF (was+d)
def keysG (n:Nat) (was:Int) :Wb→List Int×Wb:=iterF keyG (fun _ k=>k) n was
def textsG (n:Nat) :Wb→List Bytes×Wb:=iterF (fun _:Unit=>textF 24) (fun _ _=>()) n ()
def msgG (last:Int) :Wb→Msg×Wb:=bindF (numF Mx) fun u=>bindF (numF Mx) fun m=>bindF (numF Mx) fun d=>bindF (numF Mx) fun f=>bindF (numF 64) fun n=>bindF (keysG n.toNat (-1)) fun k=>bindF (textF 24) fun i=>bindF (textF 300) fun t=>pureF ⟨last+u,m,d,i,f,k,t⟩
def msgsG (n:Nat) (last:Int) :Wb→List Msg×Wb:=iterF msgG (fun _ m=>m.uid) n last
def boxG:Wb→Box×Wb:=bindF (numF Mx) fun v=>bindF (numF Mx) fun n=>bindF (numF Mx) fun h=>bindF (textF 24) fun i=>bindF (numF 64) fun w=>bindF (textsG w.toNat) fun ws=>bindF (numF 60) fun k=>bindF (msgsG k.toNat 0) fun ms=>pureF ⟨i,v,n,h,ws,ms⟩
theorem M0:(0:Int)≤Mx:=by decide
theorem keysG_step (n:Nat) (was:Int) :StepF (keysP3 n was) (keysG n was):=by
 rw [keysP3_iter]
 exact StepF.iter (fun s=>(numF_step Mx M0).bind fun d=>StepF.pure _) n was
theorem textsG_step (n:Nat) :StepF (textsP3 n) (textsG n):=by
 rw [textsP3_iter]
 exact StepF.iter (fun s=>textF_step 24) n ()
theorem msgG_step (last:Int) :StepF (msgP3 last) (msgG last):=
 (numF_step Mx M0).bind fun u=>(numF_step Mx M0).bind fun m=>(numF_step Mx M0).bind fun d=>(numF_step Mx M0).bind fun f=>(numF_step 64 (by decide)).bind fun n=>(keysG_step _ _).bind fun k=>(textF_step 24).bind fun i=>(textF_step 300).bind fun t=>StepF.pure _
theorem msgsG_step (n:Nat) (last:Int) :StepF (msgsP3 n last) (msgsG n last):=by
 rw [msgsP3_iter]
 exact StepF.iter msgG_step n last
theorem boxG_step:StepF boxP3 boxG:=
 (numF_step Mx M0).bind fun v=>(numF_step Mx M0).bind fun n=>(numF_step Mx M0).bind fun h=>(textF_step 24).bind fun i=>(numF_step 64 (by decide)).bind fun w=>(textsG_step _).bind fun ws=>(numF_step 60 (by decide)).bind fun k=>(msgsG_step _ _).bind fun ms=>StepF.pure _
theorem iterF_inv {α σ:Type} {g:σ→Wb→α×Wb} {nx:σ→α→σ} {I:Nat→σ→Prop} {s:σ} (h0:I 0 s) (hs: ∀j s w,I j s→I (j+1) (nx s (g s w).1)) : ∀(n:Nat) (w:Wb),I n ((iterF g nx n s w).1.foldl nx s)
 | 0,w=>h0
 | n+1,w=>by
  rw [iterF]
  simp only [List.foldl_append,List.foldl_cons,List.foldl_nil]
  exact hs _ _ _ (iterF_inv h0 hs n w)
theorem keys_last (n:Nat) (w:Wb) : -1≤(keysG n (-1) w).1.foldl (fun _ k=>k) (-1)∧(keysG n (-1) w).1.foldl (fun _ k=>k) (-1)≤n*1000000:=
 iterF_inv (I:=fun j s=> -1≤s∧s≤(j:Int) *1000000) ⟨by decide,by decide⟩ (fun j s w h=>by
  have:=numF_nn Mx M0 w
  have e:(Mx:Int) =1000000:=rfl
  rw [e] at this
  show-1≤s+(numF 1000000 w).1∧s+(numF 1000000 w).1≤_
  omega) n w
theorem msgG_uid (last:Int) (w:Wb) :last≤(msgG last w).1.uid∧(msgG last w).1.uid≤last+1000000:=by
 have:=numF_nn Mx M0 w
 have e:(Mx:Int) =1000000:=rfl
 rw [e] at this
 show last≤last+(numF 1000000 w).1∧last+(numF 1000000 w).1≤_
 omega
theorem msgs_last (n:Nat) (w:Wb) :0≤(msgsG n 0 w).1.foldl (fun _ m=>m.uid) 0∧(msgsG n 0 w).1.foldl (fun _ m=>m.uid) 0≤n*1000000:=
 iterF_inv (I:=fun j s=>0≤s∧s≤(j:Int) *1000000) ⟨by decide,by decide⟩ (fun j s w h=>by
  have:=msgG_uid s w
  show 0≤(msgG s w).1.uid∧(msgG s w).1.uid≤_
  omega) n w
theorem msgG_ok (last:Int) (w:Wb) :MsgOk (msgG last w).1:=by
 obtain ⟨w5,n,w6,e⟩ : ∃w5 n w6,(msgG last w).1.keys=(keysG (numF 64 w5).1.toNat (-1) (numF 64 w5).2).1∧(msgG last w).1.id=(textF 24 w6).1:=⟨_,0,_,rfl,rfl⟩
 have h1:=(numF_nn 64 (by decide) w5).2
 have h2:=textF_len 24 w6
 refine ⟨by rw [e.2];omega, ?_⟩
 rw [e.1]
 unfold keysG;rw [iterF_len];omega
theorem boxG_ok (w:Wb) :BoxOk (boxG w).1:=by
 obtain ⟨w1,w2,w3,e1,e2,e3⟩ : ∃w1 w2 w3,(boxG w).1.id=(textF 24 w1).1∧(boxG w).1.words=(textsG (numF 64 w2).1.toNat (numF 64 w2).2).1∧(boxG w).1.msgs=(msgsG (numF 60 w3).1.toNat 0 (numF 60 w3).2).1:=⟨_,_,_,rfl,rfl,rfl⟩
 have h1:=(numF_nn 64 (by decide) w2).2
 have h2:=(numF_nn 60 (by decide) w3).2
 have h3:=textF_len 24 w1
 refine ⟨by rw [e1];omega, ?_, ?_, ?_, ?_⟩
 ·rw [e2];unfold textsG;rw [iterF_len];omega
 ·rw [e3];unfold msgsG;rw [iterF_len];omega
 ·rw [e2]
  exact iterF_all _ _ (fun s w=>by have:=textF_len 24 w;show (textF 24 w).1.length≤_;omega) _ _ _
 ·rw [e3]
  exact iterF_all _ _ (fun s w=>msgG_ok s w) _ _ _
theorem ints_app (l:List Int) (x:Int) :ints (l++ [x]) =ints l++ [.int .i64 x]:=by simp [ints]
theorem z176 (w:Wb) (last:Int) (hl: -4000000000000000000≤last∧last≤4000000000000000000) (hs:w.s.length≤1099511627776) :Runs P 176 [.ptr 1000 0, .d (iD last)] (rdb w) (.d (msgG last w).1.d) (rdb (msgG last w).2):=by
 refine runs_walkZ zt176 (zvc176 _ _ _ _ _ _) rfl (by simp) ?_
 have em:(Mx:Int) =1000000:=rfl
 have hu:=numF_nn Mx M0 w
 have l1:=(numF_step Mx M0).le hs
 have l2:=(numF_step Mx M0).le l1
 have l3:=(numF_step Mx M0).le l2
 have l4:=(numF_step Mx M0).le l3
 have l5:=(numF_step 64 (by decide)).le l4
 obtain ⟨w5,hw5⟩ : ∃w5,w5=(numF 64 (numF Mx (numF Mx (numF Mx (numF Mx w).2).2).2).2).2:=⟨_,rfl⟩
 obtain ⟨c,hc⟩ : ∃c,c=(numF 64 (numF Mx (numF Mx (numF Mx (numF Mx w).2).2).2).2).1:=⟨_,rfl⟩
 have hcn:=numF_nn 64 (by decide) (numF Mx (numF Mx (numF Mx (numF Mx w).2).2).2).2
 rw [←hc] at hcn
 rw [←hw5] at l5
 have hM:msgG last w=((⟨last+(numF Mx w).1,(numF Mx (numF Mx w).2).1,(numF Mx (numF Mx (numF Mx w).2).2).1,(textF 24 (keysG c.toNat (-1) w5).2).1,(numF Mx (numF Mx (numF Mx (numF Mx w).2).2).2).1,(keysG c.toNat (-1) w5).1,(textF 300 (textF 24 (keysG c.toNat (-1) w5).2).2).1⟩ :Msg),(textF 300 (textF 24 (keysG c.toNat (-1) w5).2).2).2):=by rw [hc,hw5];rfl
 rw [hM]
 refine ⟨_,_,_,_,z174 w Mx hs, ?_⟩
 rw [W64 (by omega) (by omega)]
 rintro _ rfl
 refine ⟨_,_,_,_,z174 _ Mx l1,_,_,_,_,z174 _ Mx l2,_,_,_,_,z174 _ Mx l3,_,_,_,_,z174 _ 64 l4, ?_⟩
 rw [←hw5,←hc]
 refine ⟨fun was i off l e keys k=>∃j:Nat,i=j∧j≤c.toNat∧k=c.toNat-j∧was=(keysG j (-1) w5).1.foldl (fun _ k=>k) (-1)∧off=(keysG j (-1) w5).2.off∧l=bs (keysG j (-1) w5).2.s∧e=(keysG j (-1) w5).2.e∧keys=ints (keysG j (-1) w5).1,
  ⟨rfl,rfl,rfl,rfl,rfl,rfl,rfl,_,0,rfl,by omega,rfl,rfl,rfl,rfl,rfl,rfl⟩, ?_⟩
 rintro _ _ _ _ _ _ _ ⟨j,rfl,hj,rfl,rfl,rfl,rfl,rfl,rfl⟩
 have lj:=(keysG_step j (-1)).le l5
 refine ⟨fun h=> ?_,fun h=> ?_⟩
 ·have h:=of_decide_eq_true h
  have h1:=keys_last j w5
  have h2:=numF_nn Mx M0 (keysG j (-1) w5).2
  refine ⟨_,_,_,_,z174 (keysG j (-1) w5).2 Mx lj, ?_⟩
  rw [W64 (by omega) (by omega)]
  rintro _ rfl
  have hlen:(keysG j (-1) w5).1.length=j:=iterF_len _ _ _ _ _
  refine ⟨by simp [ints,hlen];omega, ?_⟩
  rintro _ rfl
  refine ⟨rfl,rfl,rfl,rfl,rfl,rfl,rfl,c.toNat-(j+1),by omega,j+1,W64 (by omega) (by omega),by omega,rfl, ?_,rfl,rfl,rfl, ?_⟩
  ·show _=(List.foldl _ _ ((keysG j (-1) w5).1++ [_]))
   rw [List.foldl_append];rfl
  ·exact (ints_app _ _).symm
 ·have h:=of_decide_eq_false h
  obtain rfl:j=c.toNat:=by omega
  refine ⟨_,_,_,_,z175 _ 24 lj,_,_,_,_,z175 _ 300 ((textF_step 24).le lj),endZ rfl rfl rfl rfl⟩
theorem strs_app (l:List Bytes) (x:Bytes) :strs (l++ [x]) =strs l++ [.str x]:=by simp [strs]
theorem z141 (w:Wb) (hs:w.s.length≤1099511627776) :Runs P 141 [.ptr 1000 0] (rdb w) (.d (boxG w).1.d) (rdb (boxG w).2):=by
 refine runs_walkZ zt141 (zvc141 _ _ _ _ _) rfl (by simp) ?_
 have l1:=(numF_step Mx M0).le hs
 have l2:=(numF_step Mx M0).le l1
 have l3:=(numF_step Mx M0).le l2
 have l4:=(textF_step 24).le l3
 have l5:=(numF_step 64 (by decide)).le l4
 obtain ⟨w5,hw5⟩ : ∃w5,w5=(numF 64 (textF 24 (numF Mx (numF Mx (numF Mx w).2).2).2).2).2:=⟨_,rfl⟩
 obtain ⟨c,hc⟩ : ∃c,c=(numF 64 (textF 24 (numF Mx (numF Mx (numF Mx w).2).2).2).2).1:=⟨_,rfl⟩
 have hcn:=numF_nn 64 (by decide) (textF 24 (numF Mx (numF Mx (numF Mx w).2).2).2).2
 rw [←hc] at hcn
 rw [←hw5] at l5
 have l6:=(textsG_step c.toNat).le l5
 have l7:=(numF_step 60 (by decide)).le l6
 obtain ⟨w7,hw7⟩ : ∃w7,w7=(numF 60 (textsG c.toNat w5).2).2:=⟨_,rfl⟩
 obtain ⟨d,hd⟩ : ∃d,d=(numF 60 (textsG c.toNat w5).2).1:=⟨_,rfl⟩
 have hdn:=numF_nn 60 (by decide) (textsG c.toNat w5).2
 rw [←hd] at hdn
 rw [←hw7] at l7
 have hM:boxG w=((⟨(textF 24 (numF Mx (numF Mx (numF Mx w).2).2).2).1,(numF Mx w).1,(numF Mx (numF Mx w).2).1,(numF Mx (numF Mx (numF Mx w).2).2).1,(textsG c.toNat w5).1,(msgsG d.toNat 0 w7).1⟩ :Box),(msgsG d.toNat 0 w7).2):=by rw [hd,hw7,hc,hw5];rfl
 rw [hM]
 refine ⟨_,_,_,_,z174 w Mx hs,_,_,_,_,z174 _ Mx l1,_,_,_,_,z174 _ Mx l2,_,_,_,_,z175 _ 24 l3,_,_,_,_,z174 _ 64 l4, ?_⟩
 rw [←hw5,←hc]
 refine ⟨fun i ws off l e k=>∃j:Nat,i=j∧j≤c.toNat∧k=c.toNat-j∧ws=strs (textsG j w5).1∧off=(textsG j w5).2.off∧l=bs (textsG j w5).2.s∧e=(textsG j w5).2.e,
  ⟨rfl,rfl,rfl,rfl,rfl,rfl,_,0,rfl,by omega,rfl,rfl,rfl,rfl,rfl⟩, ?_⟩
 rintro _ _ _ _ _ _ ⟨j,rfl,hj,rfl,rfl,rfl,rfl,rfl⟩
 have lj:=(textsG_step j).le l5
 refine ⟨fun h=> ?_,fun h=> ?_⟩
 ·have h:=of_decide_eq_true h
  have hlen:(textsG j w5).1.length=j:=iterF_len _ _ _ _ _
  refine ⟨_,_,_,_,z175 (textsG j w5).2 24 lj,by simp [strs,hlen];omega, ?_⟩
  rintro _ rfl
  exact ⟨rfl,rfl,rfl,rfl,rfl,rfl,c.toNat-(j+1),by omega,j+1,W64 (by omega) (by omega),by omega,rfl,(strs_app _ _).symm,rfl,rfl,rfl⟩
 have h:=of_decide_eq_false h
 obtain rfl:j=c.toNat:=by omega
 refine ⟨_,_,_,_,z174 _ 60 l6, ?_⟩
 rw [←hw7,←hd]
 refine ⟨fun last i off l e ms k=>∃j:Nat,i=j∧j≤d.toNat∧k=d.toNat-j∧last=(msgsG j 0 w7).1.foldl (fun _ m=>m.uid) 0∧off=(msgsG j 0 w7).2.off∧l=bs (msgsG j 0 w7).2.s∧e=(msgsG j 0 w7).2.e∧ms=(msgsG j 0 w7).1.map Msg.d,
  ⟨rfl,rfl,rfl,rfl,rfl,rfl,_,0,rfl,by omega,rfl,rfl,rfl,rfl,rfl,rfl⟩, ?_⟩
 rintro _ _ _ _ _ _ _ ⟨j,rfl,hj,rfl,rfl,rfl,rfl,rfl,rfl⟩
 have lj:=(msgsG_step j 0).le l7
 refine ⟨fun h=> ?_,fun h=> ?_⟩
 ·have h:=of_decide_eq_true h
  have h1:=msgs_last j w7
  have hlen:(msgsG j 0 w7).1.length=j:=iterF_len _ _ _ _ _
  refine ⟨_,_,_,_,_,_,_,_,_,_,z176 (msgsG j 0 w7).2 _ (by omega) lj,by simp [hlen];omega, ?_⟩
  rintro _ rfl
  refine ⟨rfl,rfl,rfl,rfl,rfl,rfl,d.toNat-(j+1),by omega,j+1,W64 (by omega) (by omega),by omega,rfl, ?_,rfl,rfl,rfl, ?_⟩
  ·show _=(List.foldl _ _ ((msgsG j 0 w7).1++ [_]))
   rw [List.foldl_append];rfl
  ·show _=List.map Msg.d ((msgsG j 0 w7).1++ [_])
   rw [List.map_append];rfl
 ·have h:=of_decide_eq_false h
  obtain rfl:j=d.toNat:=by omega
  exact endZ rfl rfl rfl rfl
theorem at21b {f:Nat} {w w':Wb} {res:D} (h:Runs P f [.ptr 1000 0] (rdb w) (.d res) (rdb w')) :
  Runs P f [.ptr 23 0] [(23,[CV.ptr 21 0,CV.d (.bool w.off)]),(21,rdr w.s w.e)] (.d res) [(23,[CV.ptr 21 0,CV.d (.bool w'.off)]),(21,rdr w'.s w'.e)]:=by
 have:=(h.swap 1000 23).swap 1100 21
 simpa [CV.ren,CV.ren1,renB,swp,Function.comp_def] using this
def OffF {α:Type} (f:Wb→α×Wb) :Prop:=∀w:Wb,(w.off=true→w.e=0)→(f w).2.off=true→(f w).2.e=0
theorem OffF.bind {α β:Type} {f:Wb→α×Wb} {g:α→Wb→β×Wb} (h1:OffF f) (h2: ∀a,OffF (g a)) :OffF (bindF f g):=fun w hw=>h2 _ _ (h1 w hw)
theorem OffF.pure {α:Type} (a:α) :OffF (pureF a):=fun _ hw=>hw
theorem OffF.iter {α σ:Type} {nx:σ→α→σ} {f:σ→Wb→α×Wb} (h: ∀s,OffF (f s)) : ∀(n:Nat) (s:σ),OffF (iterF f nx n s)
 | 0,s=>fun _ hw=>hw
 | n+1,s=>fun w hw=>h _ _ (OffF.iter h n s w hw)
theorem numF_off (most:Int) (hm:0≤most) :OffF (numF most):=by
 rintro ⟨s,e,off⟩ hw
 unfold numF
 split
 ·rename_i hg
  obtain ⟨rfl,rfl⟩:=good_iff.1 hg
  split
  ·rename_i h
   intro _
   simp only at h⊢
   cases hN:numR s with
   | error x=>rw [rd_er 0 hN] at h;simp only at h;omega
   | ok q=>obtain ⟨a,r⟩:=q;rw [rd_ok 0 hN]
  ·intro h;cases h
 ·exact hw
theorem textF_off (most:Int) :OffF (textF most):=by
 rintro ⟨s,e,off⟩ hw
 unfold textF
 split
 ·rename_i hg
  obtain ⟨rfl,rfl⟩:=good_iff.1 hg
  intro h;cases h
 ·exact hw
theorem msgG_off (last:Int) :OffF (msgG last):=
 (numF_off Mx M0).bind fun u=>(numF_off Mx M0).bind fun m=>(numF_off Mx M0).bind fun d=>(numF_off Mx M0).bind fun f=>(numF_off 64 (by decide)).bind fun n=>(OffF.iter (fun s=>(numF_off Mx M0).bind fun d=>OffF.pure _) _ _).bind fun k=>(textF_off 24).bind fun i=>(textF_off 300).bind fun t=>OffF.pure _
theorem boxG_off:OffF boxG:=
 (numF_off Mx M0).bind fun v=>(numF_off Mx M0).bind fun n=>(numF_off Mx M0).bind fun h=>(textF_off 24).bind fun i=>(numF_off 64 (by decide)).bind fun w=>(OffF.iter (fun _=>textF_off 24) _ _).bind fun ws=>(numF_off 60 (by decide)).bind fun k=>(OffF.iter msgG_off _ _).bind fun ms=>OffF.pure _
theorem z98 (s name:Bytes) (hs:s.length≤1099511627776) :Runs P 98 [.d (.slice 1 (bs s)), .d (.str name)] [] (resP (parse3 s name)) []:=by
 refine runs_walkZ zt98 (zvc98 _ _ _ _) rfl (by simp) ?_
 refine ⟨s,rfl, ?_⟩
 cases hp:preB s [77,66,51] with
 | false=>
  have er:parse3 s name= .error 3:=by unfold parse3;rw [hp];rfl
  rw [er]
  exact ⟨_,_,r60n s _ hp,fun _=>end0 rfl rfl,fun h=>by cases h⟩
 | true=>
  obtain ⟨t,ht⟩ : ∃t,t=s.drop 3:=⟨_,rfl⟩
  have lt:t.length≤1099511627776:=by rw [ht,List.length_drop];omega
  have er:parse3 s name=match boxP3 t with
   | .error x=> .error x
   | .ok (b,r)=>if r= []∧b.id=name∧mayBox b=0 then .ok b else .error 3:=by unfold parse3;rw [if_pos hp,ht];rfl
  rw [er]
  have w60:=r60 s [77,66,51] hp
  rw [show ([77,66,51]:Bytes).length=3 from rfl,←ht] at w60
  have hst:=boxG_step ⟨t,0,false⟩
  have w62:=at21b (z141 ⟨t,0,false⟩ lt)
  have hb:=boxG_ok ⟨t,0,false⟩
  have ho:=boxG_off ⟨t,0,false⟩ (fun h=>by cases h)
  generalize boxG ⟨t,0,false⟩ =bw at hst w62 hb ho
  obtain ⟨b,s',e',off'⟩:=bw
  simp only at hst w62 hb ho
  refine ⟨_,_,w60,fun h=>(by cases h),fun _=>⟨by omega,_,_,new21 t lt,_,_,_,_,_,_,_,_,_,w62,_,_,_,Runs.at (xs:=[]) (r63 s' e') 21, ?_⟩⟩
  rcases live_or e' off' with ⟨rfl,rfl⟩ | ⟨x,hx⟩
  ·obtain ⟨_,_,hok⟩:=hst.ok rfl rfl
   rw [hok]
   refine ⟨fun h=>(by cases h),fun _=>⟨_,fun _=>Runs.at (xs:=[]) (r64 s' 0) 21, ?_⟩⟩
   rintro b24 rfl
   rintro b25 rfl
   refine ⟨_,fun _=>r47 b hb, ?_⟩
   rintro b26 rfl
   have e1:(((false||decide ((s'.length:Int) >0)) || !b.id==name) ||mayBox b !=0) = !(decide (s'= []∧b.id=name∧mayBox b=0)):=by
    cases s' with
    | nil=>
     by_cases hi:b.id=name
     ·by_cases hm:mayBox b=0
      ·simp [hm,hi]
      ·simp [hm,hi]
     ·simp [hi]
    | cons c r=>simp
   rw [e1]
   refine ⟨fun h=> ?_,fun h=> ?_⟩
   ·have h: ¬(s'= []∧b.id=name∧mayBox b=0):=fun q=>(by rw [decide_eq_true q] at h;cases h)
    simp only [if_neg h]
    exact end0 rfl rfl
   ·have h:s'= []∧b.id=name∧mayBox b=0:=by simpa using h
    simp only [if_pos h]
    exact end0 rfl rfl
  ·have hok:=hst.er hx
   rw [hok]
   cases off' with
   | true=>
    have hx:x=3:=hx
    subst hx
    obtain rfl:=ho rfl
    refine ⟨fun h=>(by cases h),fun _=>⟨0,fun h=>(by cases h), ?_⟩⟩
    rintro _ rfl _ rfl
    refine ⟨0,fun h=>(by cases h), ?_⟩
    rintro _ rfl
    exact ⟨fun _=>end0 rfl rfl,fun h=>by cases h⟩
   | false=>
    obtain ⟨rfl,hx⟩:=hx
    refine ⟨fun _=>⟨_,_,_,Runs.at (xs:=[]) (r63 s' e') 21,end0 rfl rfl⟩,fun h=> ?_⟩
    simp [hx] at h
end B
end Go.Proofs.YtmkkljbfmdngfaaGreatDoor
namespace Go.Proofs.YtmkkljbfmdngfaaGreatDoor
namespace B
open Go.RowKit
def mk1:Bytes:=[77,66,49]
def mk2:Bytes:=[77,66,50]
def mk3:Bytes:=[77,66,51]
def formsD:List D:=[.agg [.str mk1, .fn (some 93), .fn (some 94)], .agg [.str mk2, .fn (some 95), .fn (some 96)], .agg [.str mk3, .fn (some 97), .fn (some 98)]]
def verP (s:Bytes) :Int:=if preB s mk1=true then 1 else if preB s mk2=true then 2 else if preB s mk3=true then 3 else 0
theorem z47:Runs P 47 [] [] (.d (.slice 3 formsD)) []:=by
 refine runs_walkZ zt47 (zvc47 _ _) rfl (by simp) ?_
 exact endOD rfl
theorem z52 (s p:Bytes) :Runs P 52 [.d (.str s), .d (.str p)] [] (.d (.bool (preB s p))) []:=by
 refine runs_walkZ zt52 (zvc52 _ _ _ _) rfl (by simp) ?_
 exact ⟨_,r132 s p,endB rfl⟩
theorem z51 (s m:Bytes) (f g:Option Nat) :Runs P 51 [.d (.agg [.str m, .fn f, .fn g]), .ptr 1000 0] [(1000,[.d (.slice 1 (bs s))])] (.d (.bool (preB s m))) [(1000,[.d (.slice 1 (bs s))])]:=by
 refine runs_walkZ zt51 (zvc51 _ _ _ _ _ _) rfl (by simp) ?_
 exact ⟨s,rfl,_,z52 s m,⟨Wr_refl _,⟨WcL_refl _,trivial⟩,rfl⟩⟩
def idxP (s:Bytes) :Int:=if preB s mk1=true then 0 else if preB s mk2=true then 1 else if preB s mk3=true then 2 else-1
theorem z50 (s:Bytes) :Runs P 50 [.d (.slice 3 formsD), .fn 51 [1000]] [(1000,[.d (.slice 1 (bs s))])] (.d (iD (idxP s))) [(1000,[.d (.slice 1 (bs s))])]:=by
 refine runs_walkZ zt50 (zvc50 _ _ _ _) rfl (by simp) ?_
 have hend: ∀n:Int,idxP s=n→EndR (.d (.int .i64 n)) (.d (iD (idxP s))) [(1000,[CV.d (.slice 1 (bs s))])] [(1000,[.d (.slice 1 (bs s))])]:=by
  rintro n rfl;exact ⟨Wr_refl _,⟨WcL_refl _,trivial⟩,rfl⟩
 refine range2' (N:=3) (fun i x=>x=bs s∧(1≤i→preB s mk1=false)∧(2≤i→preB s mk2=false)∧(3≤i→preB s mk3=false)) (by decide) ⟨rfl,fun h=>by omega,fun h=>by omega,fun h=>by omega⟩ (fun i hi bd x hJ I k next=>⟨bd, ?_⟩) fun x hJ=> ?_
 ·obtain ⟨rfl,h1,h2,h3⟩:=hJ
  match i,hi with
  | 0,_=>
   refine ⟨mk1,some 93,some 94,rfl,_,_,z51 s mk1 _ _,fun h=>hend 0 ?_,fun h=>next _ ⟨rfl,fun _=>h,fun h=>by omega,fun h=>by omega⟩⟩
   unfold idxP;rw [if_pos h]
  | 1,_=>
   refine ⟨mk2,some 95,some 96,rfl,_,_,z51 s mk2 _ _,fun h=>hend 1 ?_,fun h=>next _ ⟨rfl,fun _=>h1 (by omega),fun _=>h,fun h=>by omega⟩⟩
   unfold idxP;rw [if_neg (by rw [h1 (by omega)];decide),if_pos h]
  | 2,_=>
   refine ⟨mk3,some 97,some 98,rfl,_,_,z51 s mk3 _ _,fun h=>hend 2 ?_,fun h=>next _ ⟨rfl,fun _=>h1 (by omega),fun _=>h2 (by omega),fun _=>h⟩⟩
   unfold idxP;rw [if_neg (by rw [h1 (by omega)];decide),if_neg (by rw [h2 (by omega)];decide),if_pos h]
 ·obtain ⟨rfl,h1,h2,h3⟩:=hJ
  refine hend (-1) ?_
  unfold idxP;rw [if_neg (by rw [h1 (by omega)];decide),if_neg (by rw [h2 (by omega)];decide),if_neg (by rw [h3 (by omega)];decide)]
theorem verP_idx (s:Bytes) :verP s=1+idxP s:=by unfold verP idxP;repeat' split<;>try rfl
theorem idxP_b (s:Bytes) : -1≤idxP s∧idxP s≤2:=by unfold idxP;repeat' split<;>try decide
theorem z19 (s:Bytes) :Runs P 19 [.d (.slice 1 (bs s))] [] (.d (iD (verP s))) []:=by
 refine runs_walkZ zt19 (zvc19 _ _ _) rfl (by simp) ?_
 have h:=(z50 s).swap 1000 1
 have hb:=idxP_b s
 refine ⟨_,z47,bs s,_,by simpa [CV.ren,CV.ren1,renB,swp,Function.comp_def] using h, ?_⟩
 rintro _ rfl
 refine endI ?_
 rw [W64 (by omega) (by omega),verP_idx]
def boxE:Except Int Box→Box
 | .ok b=>b
 | .error _=>box00
def errE:Except Int Box→Int
 | .ok _=>0
 | .error x=>x
theorem resP_eq (x:Except Int Box) :resP x= .tup [.d (boxE x).d, .d (.int .i64 (errE x))]:=by cases x<;>rfl
def parseI (s id:Bytes) :Except Int Box:=if verP s=1 then parseP (boxP1 id) mk1 s else if verP s=2 then parseP (boxP2 id) mk2 s else if verP s=3 then parse3 s id else .error 3
theorem z29 (s id:Bytes) (hi:id.length≤1099511627776) (hs:s.length≤1099511627776) :Runs P 29 [.d (.slice 1 (bs s)), .d (.str id)] [] (resP (parseI s id)) []:=by
 refine runs_walkZ zt29 (zvc29 _ _ _ _) rfl (by simp) ?_
 refine ⟨_,z19 s,fun h=> ?_,fun h=>⟨_,z47, ?_⟩⟩
 ·have h:verP s=0:=by simpa using h
  unfold parseI
  rw [h]
  exact end0 rfl rfl
 have h:verP s≠0:=by simpa using h
 have hv:verP s=1∨verP s=2∨verP s=3:=by
  have:=verP_idx s;have:=idxP_b s;omega
 have key: ∀(k:Nat) (x:Except Int Box),Runs P k [.d (.slice 1 (bs s)), .d (.str id)] [] (resP x) []→parseI s id=x→∃(s9:Bytes) (n10 n11 n12:Int) (l13 l14:List D) (n15:Int),Runs P k [CV.d (D.slice 1 (bs s)),CV.d (D.str id)] [] (CV.tup [CV.d (D.agg [D.str s9,D.int .i64 n10,D.int .i64 n11,D.int .i64 n12,D.slice 1 l13,D.slice 7 l14]),CV.d (D.int .i64 n15)]) []∧EndR (CV.tup [CV.d (D.agg [D.str s9,D.int .i64 n10,D.int .i64 n11,D.int .i64 n12,D.slice 1 l13,D.slice 7 l14]),CV.d (D.int .i64 n15)]) (resP (parseI s id)) [(4,[CV.d (D.str s9),CV.d (D.int .i64 n10),CV.d (D.int .i64 n11),CV.d (D.int .i64 n12),CV.d (D.slice 1 l13),CV.d (D.slice 7 l14)])] []:=by
  intro k x hr hx
  rw [hx]
  rw [resP_eq] at hr⊢
  exact ⟨_,_,_,_,_,_,_,hr,⟨Wr_refl _,trivial,rfl⟩⟩
 rintro _ rfl
 rcases hv with hv | hv | hv
 ·rw [hv]
  exact ⟨by decide,mk1,some 93,some 94,rfl,94,rfl,key 94 _ (r24 s id hi hs) (by unfold parseI;rw [if_pos hv];rfl)⟩
 ·rw [hv]
  exact ⟨by decide,mk2,some 95,some 96,rfl,96,rfl,key 96 _ (r27 s id hi hs) (by unfold parseI;rw [if_neg (by omega),if_pos hv];rfl)⟩
 ·rw [hv]
  exact ⟨by decide,mk3,some 97,some 98,rfl,98,rfl,key 98 _ (z98 s id hs) (by unfold parseI;rw [if_neg (by omega),if_neg (by omega),if_pos hv])⟩
theorem z128 (m:Msg) (hk:m.keys.length≤9223372036854775806) :Runs P 128 [.d m.d] [] (.d (.bool (lateB m))) []:=by
 refine runs_walkZ zt128 (zvc128 _ _ _ _ _ _ _ _ _) rfl (by simp) ?_
 rw [ints_len]
 rintro _ rfl
 by_cases h0:m.keys= []
 ·have e:lateB m=false:=by unfold lateB;rw [h0];rfl
  rw [e,h0]
  refine ⟨fun h=>by simp [nI] at h,0,fun h=>by simp [nI] at h, ?_⟩
  rintro _ rfl
  exact endB (by simp [nI])
 ·have hl:0<m.keys.length:=List.length_pos_iff.2 h0
  have e:lateB m=decide (32≤m.keys[m.keys.length- 1]):=by
   unfold lateB
   rw [List.getLast?_eq_getElem?,List.getElem?_eq_getElem (by omega)]
  rw [W64 (by simp only [nI];omega) (by simp only [nI];omega)]
  have en:nI m.keys.length- 1=((m.keys.length- 1:Nat) :Int):=by simp only [nI];omega
  rw [en]
  refine ⟨fun _=>⟨by omega,by simp only [nI];omega⟩,m.keys[m.keys.length- 1],fun _=>by rw [ints_get _ (by omega)];rfl, ?_⟩
  rintro _ rfl
  rw [e]
  refine endB ?_
  have:decide (nI m.keys.length>0) =true:=decide_eq_true (by simp only [nI];omega)
  rw [this,Bool.true_and]
theorem z92 (v:Int) (b:Box) (m:Msg) (hk:m.keys.length≤1099511627776) (hu:m.uid≤9223372036854775807) (hi:b.id.length≤1099511627776) :Runs P 92 [.d (iD v), .d b.d, .d m.d] [] (.d (.slice 11 ((leftR v b m).map Row.d))) []:=by
 refine runs_walkZ zt92 (zvc92 _ _ _ _ _ _ _ _ _ _ _ _ _ _ _ _) rfl (by simp) ?_
 have h128:=z128 m (by omega)
 unfold leftR
 refine ⟨_,h128,fun hl=>⟨_,r82D _ (by rw [ints_len];omega),by simp,_,r88 b.id m.uid hu hi,fun h=>⟨by simp,_,fun _=>h128, ?_⟩,fun h=>⟨_,fun _=>h128, ?_⟩⟩,fun hl=>⟨_,r88 b.id m.uid hu hi,fun h=>⟨by simp,_,fun _=>h128, ?_⟩,fun h=>⟨_,fun _=>h128, ?_⟩⟩⟩
 ·have h: ¬m.id=ownB b.id m.uid:=by simpa using h
  rintro _ rfl _ rfl
  rw [hl,if_pos rfl,if_neg h,if_neg (show ¬(v=1∧true=false∧m.mod≠1) from fun q=>by simp at q)]
  exact ⟨fun q=>by simp at q,fun _=>endOD rfl⟩
 ·have h:m.id=ownB b.id m.uid:=by simpa using h
  rintro _ rfl _ rfl
  rw [hl,if_pos rfl,if_pos h,if_neg (show ¬(v=1∧true=false∧m.mod≠1) from fun q=>by simp at q)]
  exact ⟨fun q=>by simp at q,fun _=>endOD rfl⟩
 ·have h: ¬m.id=ownB b.id m.uid:=by simpa using h
  rintro _ rfl _ rfl
  rw [hl,if_neg (by decide),if_neg h]
  refine ⟨fun q=>⟨by simp, ?_⟩,fun q=> ?_⟩
  ·have q:v=1∧m.mod≠1:=by simpa using q
   rw [if_pos (show v=1∧false=false∧m.mod≠1 from ⟨q.1,rfl,q.2⟩)]
   exact endOD rfl
  ·have q: ¬(v=1∧m.mod≠1):=fun k=>by rw [k.1] at q;simp [k.2] at q
   rw [if_neg (show ¬(v=1∧false=false∧m.mod≠1) from fun k=>q ⟨k.1,k.2.2⟩)]
   exact endOD rfl
 ·have h:m.id=ownB b.id m.uid:=by simpa using h
  rintro _ rfl _ rfl
  rw [hl,if_neg (by decide),if_pos h]
  refine ⟨fun q=>⟨by simp, ?_⟩,fun q=> ?_⟩
  ·have q:v=1∧m.mod≠1:=by simpa using q
   rw [if_pos (show v=1∧false=false∧m.mod≠1 from ⟨q.1,rfl,q.2⟩)]
   exact endOD rfl
  ·have q: ¬(v=1∧m.mod≠1):=fun k=>by rw [k.1] at q;simp [k.2] at q
   rw [if_neg (show ¬(v=1∧false=false∧m.mod≠1) from fun k=>q ⟨k.1,k.2.2⟩)]
   exact endOD rfl
theorem drop32 (l:List Bytes) :List.drop (Int.toNat (mmI false (nI l.length) 32)) (List.take (Int.toNat (nI l.length)) (strs l)) =strs (l.drop 32):=by
 have:Int.toNat (mmI false (nI l.length) 32) =min l.length 32:=by rw [mmI_f];simp only [nI];omega
 rw [this]
 simp only [nI,Int.toNat_natCast]
 rw [List.take_of_length_le (by simp [strs]),strs,←List.map_drop]
 by_cases h:32≤l.length
 ·rw [Nat.min_eq_right h];rfl
 ·rw [Nat.min_eq_left (by omega),List.drop_of_length_le (Nat.le_refl _),List.drop_of_length_le (by omega)];rfl
theorem rest_head (v:Int) (b:Box) (hb:BoxMay b) (h3: ¬v=3) (pre:List Row) (hpre:pre.length≤1) {Q:List D→Prop} (hQ:Q ((pre++((b.words.drop 32).map wordRow++b.msgs.flatMap (leftR v b))).map Row.d)) :
  (∀n33:Int,(mmI false (nI (List.length (strs b.words))) 32=n33→((0≤n33∧n33≤nI (List.length (strs b.words))∧nI (List.length (strs b.words))≤nI (List.length (strs b.words)))∧(∀l34:List D,(List.drop (Int.toNat n33) (List.take (Int.toNat (nI (List.length (strs b.words)))) (strs b.words)) =l34→(∃I35:(List D→(Int→(Nat→Prop))),((∃k36:Nat,I35 (pre.map Row.d) 0 k36)∧(∀l37:List D,(∀n38:Int,(∀k39:Nat,(I35 l37 n38 k39→(((decide (n38<nI (List.length l34))) =true→((0≤n38∧n38<nI (List.length l34))∧(∃s40:Bytes,((D.cells (List.getD l34 (Int.toNat n38) D.nilp) = [D.str s40])∧(((List.length l37+List.length [D.agg [D.int .i64 4,D.int .i64 0,D.int .i64 0,D.int .i64 0,D.int .i64 0,D.int .i64 0,D.str [],D.int .i64 0,D.slice 1 [],D.str [],D.str s40]]) *128≤140737488355328)∧(∀n41:Int,(Go.IntKind.wrap Go.IntKind.i64 (n38+1) =n41→(∃k42:Nat,((k42<k39)∧I35 (l37++ [D.agg [D.int .i64 4,D.int .i64 0,D.int .i64 0,D.int .i64 0,D.int .i64 0,D.int .i64 0,D.str [],D.int .i64 0,D.slice 1 [],D.str [],D.str s40]]) n41 k42)))))))))∧((decide (n38<nI (List.length l34))) =false→(∃I43:(List D→(Int→(Nat→Prop))),((∃k44:Nat,I43 l37 0 k44)∧(∀l45:List D,(∀n46:Int,(∀k47:Nat,(I43 l45 n46 k47→(((decide (n46<nI (List.length (b.msgs.map Msg.d)))) =true→((0≤n46∧n46<nI (List.length (b.msgs.map Msg.d)))∧(∃n48:Int,(∃n49:Int,(∃n50:Int,(∃s51:Bytes,(∃n52:Int,(∃l53:List D,(∃s54:Bytes,((D.cells (List.getD (b.msgs.map Msg.d) (Int.toNat n46) D.nilp) = [D.int .i64 n48,D.int .i64 n49,D.int .i64 n50,D.str s51,D.int .i64 n52,D.slice 1 l53,D.str s54])∧(∃l55:List D,((Runs P 92 [CV.d (D.int .i64 v),CV.d (D.agg [D.str b.id,D.int .i64 b.valid,D.int .i64 b.next,D.int .i64 b.high,D.slice 1 (strs b.words),D.slice 7 (b.msgs.map Msg.d)]),CV.d (D.agg [D.int .i64 n48,D.int .i64 n49,D.int .i64 n50,D.str s51,D.int .i64 n52,D.slice 1 l53,D.str s54])] [] (CV.d (D.slice 11 l55)) [])∧(((List.length l45+List.length l55) *128≤140737488355328)∧(∀n56:Int,(Go.IntKind.wrap Go.IntKind.i64 (n46+1) =n56→(∃k57:Nat,((k57<k47)∧I43 (l45++l55) n56 k57)))))))))))))))))∧((decide (n46<nI (List.length (b.msgs.map Msg.d)))) =false→Q l45))))))))))))))))))))):=by
 have hnw:=hb.nw
 have hnm:=hb.nm
 rintro _ rfl
 refine ⟨⟨by rw [mmI_f];simp only [nI];omega,by rw [mmI_f];simp only [nI];omega,Int.le_refl _⟩, ?_⟩
 rintro _ rfl
 rw [strs_len,drop32]
 have hdl:(b.words.drop 32).length≤32:=by rw [List.length_drop];omega
 rw [strs_len,nI_map]
 refine range2 (fun i x=>x=(pre++((b.words.drop 32).take i).map wordRow).map Row.d) (by omega) (by simp) (fun i hi bd x hJ I k next=>⟨bd,(b.words.drop 32)[i],by rw [strs_get _ hi];rfl, ?_⟩) fun x hJ=> ?_
 ·subst hJ
  refine ⟨by simp;omega,next _ ?_⟩
  rw [List.take_succ_eq_append_getElem hi]
  simp only [List.map_append,List.append_assoc]
  rfl
 ·subst hJ
  rw [List.take_length]
  have hMs:=msgsMay.1 hb.msgs
  refine range2 (fun i x=>x=((pre++(b.words.drop 32).map wordRow) ++(b.msgs.take i).flatMap (leftR v b)).map Row.d) (by omega) (by simp) (fun i hi bd x hJ I k next=>⟨bd, ?_⟩) fun x hJ=> ?_
  ·subst hJ
   have hm:=(hMs.all _ (List.getElem_mem hi)).2.1
   have hkl:=hm.keyLen
   have hu:=hm.uid
   have hid:=hb.id.2
   have h1:=lefts_len v b (b.msgs.take i)
   rw [List.length_take] at h1
   have h2:=leftR_len v b b.msgs[i]
   refine ⟨_,_,_,_,_,_,_,by rw [msgs_get _ hi];rfl,_,z92 v b b.msgs[i] (by omega) (by omega) (by omega), ?_,next _ ?_⟩
   ·simp only [List.length_map,List.length_append];omega
   ·rw [List.take_succ_eq_append_getElem hi]
    simp only [List.map_append,List.append_assoc,List.flatMap_append,List.flatMap_cons,List.flatMap_nil,List.append_nil]
  ·subst hJ
   rw [List.take_length]
   rw [List.append_assoc];exact hQ
theorem z46 (v:Int) (b:Box) (hb:BoxMay b) :Runs P 46 [.d (iD v), .d b.d] [] (.d (.slice 11 ((restR v b).map Row.d))) []:=by
 refine runs_walkZ zt46 (zvc46 _ _ _ _ _ _ _ _ _) rfl (by simp) ?_
 unfold restR
 rintro _ rfl
 refine ⟨fun h=>⟨by simp,fun h3=> ?_,fun h3=> ?_⟩,fun h=>⟨fun h3=> ?_,fun h3=> ?_⟩⟩
 ·have h3:v=3:=by simpa using h3
  rw [if_pos h3];exact endOD rfl
 ·have h3: ¬v=3:=by simpa using h3
  have h:v=1∧b.high≠1:=by simpa using h
  rw [if_neg h3,if_pos h]
  exact rest_head v b hb h3 [highRow b.high] (by simp) (endOD rfl)
 ·have h3:v=3:=by simpa using h3
  rw [if_pos h3];exact endOD rfl
 ·have h3: ¬v=3:=by simpa using h3
  have h: ¬(v=1∧b.high≠1):=fun k=>by rw [k.1] at h;simp [k.2] at h
  rw [if_neg h3,if_neg h]
  exact rest_head v b hb h3 [] (by simp) (endOD rfl)
theorem BoxOk.of {b:Box} (h:BoxMay b) :BoxOk b:=⟨by have:=h.id.2;omega,by have:=h.nw;omega,by have:=h.nm;omega,fun w hw=>by have:=(atom_len ((wordsB_iff.1 h.words).1 w hw).1).2;omega,h.msgOk⟩
def imgB (v:Int) (b:Box) :Bytes:=if v=1 then formB 1 b else if v=2 then formB 2 b else form3B b
def resM (v:Int) (b:Box) :CV:=if (1≤v∧v≤3)∧mayBox b=0 then .tup [.d (.slice 1 (bs (imgB v b))), .d (.slice 11 ((restR v b).map Row.d)), .d (iD 0)] else .tup [.d (.slice 1 []), .d (.slice 11 []), .d (iD 1)]
theorem endM {l:List D} {m:List D} {n:Int} {z y:Nat} {x:List (Nat×List CV)}:EndR (.tup [.own z l, .own y m, .d (.int .i64 n)]) (.tup [.d (.slice z l), .d (.slice y m), .d (.int .i64 n)]) x []:=⟨⟨rfl,rfl,rfl,trivial⟩,trivial,rfl⟩
theorem z16 (v:Int) (b:Box) (hb:BoxOk b) :Runs P 16 [.d (iD v), .d b.d] [] (resM v b) []:=by
 refine runs_walkZ zt16 (zvc16 _ _ _ _ _ _ _ _ _) rfl (by simp) ?_
 unfold resM
 rintro _ rfl
 refine ⟨_,fun _=>r47 b hb, ?_⟩
 rintro _ rfl
 refine ⟨fun h=> ?_,fun h=> ?_⟩
 ·have h: ¬((1≤v∧v≤3)∧mayBox b=0):=by
   rintro ⟨⟨h1,h2⟩,h3⟩
   simp [h3] at h;omega
  rw [if_neg h];exact endM
 have h:(1≤v∧v≤3)∧mayBox b=0:=by
  simp only [Bool.or_eq_false_iff,decide_eq_false_iff_not,bne_eq_false_iff_eq] at h
  exact ⟨⟨by omega,by omega⟩,h.2⟩
 rw [if_pos h]
 have hM:=boxMay.1 h.2
 have hlen:=restR_len (v:=v) hM
 refine ⟨_,z46 v b hM,fun q=> ?_,fun _=>⟨_,z47, ?_⟩⟩
 ·have q:=of_decide_eq_true q
  rw [nI_map] at q;simp only [nI] at q;omega
 rintro _ rfl
 have fin:EndR (CV.tup [CV.d (D.slice 1 (bs (imgB v b))),CV.d (D.slice 11 ((restR v b).map Row.d)),CV.d (D.int .i64 0)]) (.tup [.d (.slice 1 (bs (imgB v b))), .d (.slice 11 ((restR v b).map Row.d)), .d (iD 0)]) [(3,[CV.d (D.str b.id),CV.d (D.int .i64 b.valid),CV.d (D.int .i64 b.next),CV.d (D.int .i64 b.high),CV.d (D.slice 1 (strs b.words)),CV.d (D.slice 7 (b.msgs.map Msg.d))])] []:=⟨Wr_refl _,trivial,rfl⟩
 have hv:v=1∨v=2∨v=3:=by omega
 rcases hv with rfl | rfl | rfl
 ·have hr:=r18 b hb
  unfold resB at hr
  rw [if_pos h.2,if_pos h.2] at hr
  exact ⟨by decide,mk1,some 93,some 94,rfl,93,rfl,_,_,hr,fun q=>by simp at q,fun _=>fin⟩
 ·have hr:=r22 b hb
  unfold resB at hr
  rw [if_pos h.2,if_pos h.2] at hr
  exact ⟨by decide,mk2,some 95,some 96,rfl,95,rfl,_,_,hr,fun q=>by simp at q,fun _=>fin⟩
 ·have hr:=z97 b hb
  rw [if_pos h.2] at hr
  exact ⟨by decide,mk3,some 97,some 98,rfl,97,rfl,_,_,hr,fun q=>by simp at q,fun _=>fin⟩
end B
end Go.Proofs.YtmkkljbfmdngfaaGreatDoor
namespace Go.Proofs.YtmkkljbfmdngfaaGreatDoor
namespace B
open Go.RowKit
def sayB (v:Int) (b:Box) :Box:=if v=1 then projB 1 b else if v=2 then projB 2 b else b
theorem pre_ne {a b:UInt8} {x y:UInt8} (s:Bytes) (h:a≠b) :preB ([x,y,a]++s) [x,y,b]=false:=by
 unfold preB
 simp [h]
theorem form3B_len {b:Box} (h:BoxMay b) :(form3B b).length≤60000:=by
 have h1:=texts_len b.words fun w hw=>(atom_len ((wordsB_iff.1 h.words).1 w hw).1).2
 have h2:=msgs3_len h.nw b.msgs 0 fun m hm=>((msgsMay.1 h.msgs).all m hm).2.1
 have n1:=num_len b.valid;have n2:=num_len b.next;have n3:=num_len b.high;have n4:=num_len b.words.length;have n5:=num_len b.msgs.length;have n6:=txt_len b.id
 have:=h.nw;have:=h.nm;have:=h.id.2
 unfold form3B body3
 simp only [List.length_append,List.length_cons,List.length_nil];omega
theorem flat_len {α:Type} (f:α→Bytes) (n:Nat) : ∀l:List α,(∀a∈l,(f a).length≤n)→(l.flatMap f).length≤n*l.length
 | [],_=>by simp
 | a :: r,h=>by
  have h1:=h a (by simp)
  have h2:=flat_len f n r fun x hx=>h x (by simp [hx])
  rw [List.flatMap_cons,List.length_append,List.length_cons,Nat.mul_add,Nat.mul_one];omega
theorem formB_len {form:Nat} {b:Box} (h:BoxMay b) :(formB form b).length≤60000:=by
 have h0:=headF_len form b
 have h1:(wordsF b).length≤30*(b.words.take (kept b)).length:=texts_len _ fun w hw=>(atom_len ((wordsB_iff.1 h.words).1 w (List.mem_of_mem_take hw)).1).2
 have h2:=flat_len (msgF form) 400 b.msgs fun m hm=>msgF_len form m (((msgsMay.1 h.msgs).all m hm).2.1.text)
 have h3:(fixB (b.msgs.length:Int)).length=4:=fix_len _
 have:=h.nw;have:=h.nm
 rw [List.length_take] at h1
 unfold formB
 simp only [List.length_append];omega
theorem imgB_len (v:Int) {b:Box} (h:BoxMay b) :(imgB v b).length≤60000:=by
 unfold imgB;split
 ·exact formB_len h
 split
 ·exact formB_len h
 ·exact form3B_len h
theorem ver1 (s:Bytes) :verP (mk1++s) =1:=by
 have h:=pre_app mk1 s
 unfold verP;rw [if_pos h]
theorem ver2 (s:Bytes) :verP (mk2++s) =2:=by
 have h:=pre_app mk2 s
 have h1:preB (mk2++s) mk1=false:=pre_ne s (by decide)
 unfold verP;rw [if_neg (by rw [h1];decide),if_pos h]
theorem ver3 (s:Bytes) :verP (mk3++s) =3:=by
 have h:=pre_app mk3 s
 have h1:preB (mk3++s) mk1=false:=pre_ne s (by decide)
 have h2:preB (mk3++s) mk2=false:=pre_ne s (by decide)
 unfold verP;rw [if_neg (by rw [h1];decide),if_neg (by rw [h2];decide),if_pos h]
theorem ver_img {v:Int} (hv:v=1∨v=2∨v=3) (b:Box) :verP (imgB v b) =v:=by
 rcases hv with rfl | rfl | rfl
 ·have e:imgB 1 b=mk1++bodyB 1 b:=by unfold imgB;rw [if_pos rfl];exact form_body 1 b
  rw [e];exact ver1 _
 ·have e:imgB 2 b=mk2++bodyB 2 b:=by unfold imgB;rw [if_neg (by decide),if_pos rfl];exact form_body 2 b
  rw [e];exact ver2 _
 ·have e:imgB 3 b=mk3++body3 b:=by unfold imgB;rw [if_neg (by decide),if_neg (by decide)];rfl
  rw [e];exact ver3 _
theorem parse_img {v:Int} (hv:v=1∨v=2∨v=3) {b:Box} (h:BoxMay b) :parseI (imgB v b) b.id= .ok (sayB v b):=by
 unfold parseI
 rw [ver_img hv]
 rcases hv with rfl | rfl | rfl
 ·rw [if_pos rfl,show imgB 1 b=formB 1 b by unfold imgB;rw [if_pos rfl],show sayB 1 b=projB 1 b by unfold sayB;rw [if_pos rfl]]
  exact parse_form1 h
 ·rw [if_neg (by decide),if_pos rfl,show imgB 2 b=formB 2 b by unfold imgB;rw [if_neg (by decide),if_pos rfl],show sayB 2 b=projB 2 b by unfold sayB;rw [if_neg (by decide),if_pos rfl]]
  exact parse_form2 h
 ·rw [if_neg (by decide),if_neg (by decide),if_pos rfl,show imgB 3 b=form3B b by unfold imgB;rw [if_neg (by decide),if_neg (by decide)],show sayB 3 b=b by unfold sayB;rw [if_neg (by decide),if_neg (by decide)]]
  exact parse_form3 h
theorem say_may (v:Int) {b:Box} (h:BoxMay b) :BoxMay (sayB v b):=by
 unfold sayB;split
 ·exact projB_may 1 h
 split
 ·exact projB_may 2 h
 ·exact h
theorem z16m {v:Int} (hv:v=1∨v=2∨v=3) {b:Box} (h:BoxMay b) :Runs P 16 [.d (iD v), .d b.d] [] (.tup [.d (.slice 1 (bs (imgB v b))), .d (.slice 11 ((restR v b).map Row.d)), .d (iD 0)]) []:=by
 have:=z16 v b (BoxOk.of h)
 unfold resM at this
 rwa [if_pos ⟨by omega,boxMay.2 h⟩] at this
def boxA:Box:=⟨[98,49],5,2,7,[],[⟨1,7,0,[120],0,[],[]⟩]⟩
theorem boxA_may:BoxMay boxA:=boxMay.1 (by decide)
theorem sameB_refl (b:Box) :sameB b b=true:=sameB_iff.2 rfl
theorem restA:restR 1 boxA= [highRow 7,nameRow 1 [120],modRow 1 7]:=by
 have e:(leftR 1 boxA ⟨1,7,0,[120],0,[],[]⟩) = [nameRow 1 [120],modRow 1 7]:=by
  unfold leftR
  rw [if_neg (by decide),if_neg (by decide),if_pos (by decide)];rfl
 show (if (1:Int) =3 then [] else (if (1:Int) =1∧(7:Int)≠1 then [highRow 7] else []) ++(([]:List Bytes).drop 32 |>.map wordRow) ++ [⟨1,7,0,[120],0,[],[]⟩].flatMap (leftR 1 boxA)) =_
 rw [if_neg (by decide),if_pos (by decide),List.flatMap_cons,e];rfl
end B
end Go.Proofs.YtmkkljbfmdngfaaGreatDoor
