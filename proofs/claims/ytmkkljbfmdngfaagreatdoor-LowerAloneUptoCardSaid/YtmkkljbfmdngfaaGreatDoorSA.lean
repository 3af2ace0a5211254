/- Rows as bytes, and back: plain law. No condition. -/
import Derived.Test.YtmkkljbfmdngfaaGreatDoorQC
import Derived.Test.YtmkkljbfmdngfaaGreatDoorG2
import Derived.Test.YtmkkljbfmdngfaaGreatDoorQF
import Derived.Test.YtmkkljbfmdngfaaGreatDoorQH
set_option linter.all false
namespace Go.Proofs.YtmkkljbfmdngfaaGreatDoor
namespace B
open Go.RowKit
def Rds {α:Type} (p:Rd α) (u:Bytes) (a:α) :Prop:=∀t,p (u++t) = .ok (a,t)
def Can {α:Type} (p:Rd α) (enc:α→Bytes) :Prop:=∀s a r,p s= .ok (a,r)→s=enc a++r∧Rds p (enc a) a
theorem Rds.bind {α β:Type} {p:Rd α} {f:α→Rd β} {u v:Bytes} {a:α} {b:β} (h:Rds p u a) (k:Rds (f a) v b) :Rds (p.bind f) (u++v) b:=fun t=>by
 unfold Rd.bind
 rw [List.append_assoc,h (v++t)]
 exact k t
theorem Rds.pure {α:Type} (a:α) :Rds (Rd.pure a) [] a:=fun _=>rfl
theorem Rds.end {α β:Type} {p:Rd α} {u:Bytes} {a:α} (f:α→β) (h:Rds p u a) :Rds (p.bind fun a=>Rd.pure (f a)) u (f a):=by
 have:=h.bind (f:=fun a=>Rd.pure (f a)) (Rds.pure (f a))
 rwa [List.append_nil] at this
theorem rd_bind {α β:Type} {p:Rd α} {f:α→Rd β} {s:Bytes} {b:β} {r:Bytes} (h:p.bind f s= .ok (b,r)) : ∃a s1,p s= .ok (a,s1)∧f a s1= .ok (b,r):=by
 unfold Rd.bind at h
 cases e:p s with
 | ok q=>obtain ⟨a,s1⟩:=q;rw [e] at h;exact ⟨a,s1,rfl,h⟩
 | error x=>rw [e] at h;cases h
theorem pure_ok {α:Type} {a b:α} {s r:Bytes} (h:Rd.pure a s= .ok (b,r)) :a=b∧s=r:=by
 unfold Rd.pure at h;simpa using h
def numM (most:Int) :Rd Int:=fun s=>match numP s with
 | .error e=> .error e
 | .ok (n,k)=>if (n:Int) >most then .error 3 else .ok ((n:Int),s.drop k)
theorem of_toNat (c:UInt8) :UInt8.ofNat c.toNat=c:=by simp
theorem numGo_can: ∀(f i acc:Nat) (s:Bytes) (n k:Nat),numGo f i acc s= .ok (n,k)→
  ∃v,n=acc+v*128 ^ i∧(i=0∨v≠0)∧s=varB v++s.drop (k-i)∧k=i+(varB v).length∧∀t,numGo f i acc (varB v++t) = .ok (n,k)
 | 0,_,_,_,_,_,h=>by simp [numGo] at h
 | _+1,_,_,[],_,_,h=>by simp [numGo] at h
 | f+1,i,acc,c :: r,n,k,h=>by
  have hc:=c.toNat_lt
  rw [numGo] at h
  split at h
  ·rename_i h1
   obtain ⟨v,h2,h3,h4,h5,h6⟩:=numGo_can f (i+1) _ r n k h
   have hv:v≠0:=by omega
   have e1:(c.toNat % 128+128*v) % 128=c.toNat % 128:=by omega
   have e2:(c.toNat % 128+128*v) / 128=v:=by omega
   have e:varB (c.toNat % 128+128*v) =c :: varB v:=by
    rw [varB,dif_neg (by omega),e1,e2]
    congr 1
    rw [show c.toNat % 128+128=c.toNat by omega,of_toNat]
   refine ⟨c.toNat % 128+128*v, ?_, .inr (by omega), ?_, ?_, ?_⟩
   ·rw [h2,Nat.pow_succ,Nat.add_mul,Nat.add_assoc]
    congr 2
    rw [Nat.mul_comm (128 ^ i) 128,←Nat.mul_assoc,Nat.mul_comm v 128]
   ·rw [e,List.cons_append]
    congr 1
    rw [show k-i=(k-(i+1)) +1 by omega,List.drop_succ_cons]
    exact h4
   ·rw [e,List.length_cons];omega
   ·intro t
    rw [e,List.cons_append,numGo,if_pos h1]
    exact h6 t
  ·rename_i h1
   split at h
   ·cases h
   ·rename_i h2
    simp only [Except.ok.injEq,Prod.mk.injEq] at h
    obtain ⟨rfl,rfl⟩:=h
    have e:varB c.toNat= [c]:=by rw [varB,dif_pos (by omega),of_toNat]
    refine ⟨c.toNat,rfl,by omega, ?_,by rw [e];rfl,fun t=> ?_⟩
    ·rw [e,show i+1-i=1 by omega];rfl
    ·rw [e,List.cons_append,numGo,if_neg h1,if_neg h2]
theorem numP_can {s:Bytes} {n k:Nat} (h:numP s= .ok (n,k)) :s=numB n++s.drop k∧k=(numB n).length∧∀t,numP (numB n++t) = .ok (n,k):=by
 obtain ⟨v,h1,_,h2,h3,h4⟩:=numGo_can 6 0 0 s n k h
 have hn:=(numGo_len 6 0 0 s n k h).2.2
 obtain rfl:n=v:=by simpa using h1
 have e:numB (n:Int) =varB n:=by
  unfold numB
  rw [show (min (max (n:Int) 0) 1099511627776).toNat=n by omega]
 rw [e]
 exact ⟨by simpa using h2,by omega,h4⟩
theorem numM_can (most:Int) :Can (numM most) numB:=by
 intro s a r h
 unfold numM at h
 cases e:numP s with
 | error x=>rw [e] at h;cases h
 | ok q=>
  obtain ⟨n,k⟩:=q
  rw [e] at h
  dsimp only at h
  split at h
  ·cases h
  ·rename_i h1
   simp only [Except.ok.injEq,Prod.mk.injEq] at h
   obtain ⟨rfl,rfl⟩:=h
   obtain ⟨q1,q2,q3⟩:=numP_can e
   refine ⟨q1,fun t=> ?_⟩
   unfold numM
   rw [q3 t]
   dsimp only
   rw [if_neg h1,q2,List.drop_left]
theorem numM_nn {most n:Int} {s r:Bytes} (h:numM most s= .ok (n,r)) :0≤n∧n≤most:=by
 unfold numM at h
 cases e:numP s with
 | error x=>rw [e] at h;cases h
 | ok q=>
  obtain ⟨m,k⟩:=q
  rw [e] at h
  dsimp only at h
  split at h
  ·cases h
  ·simp only [Except.ok.injEq,Prod.mk.injEq] at h;omega
theorem textP_can (most:Int) :Can (textP most) txtB:=by
 intro s a r h
 unfold textP at h
 cases e:numP s with
 | error x=>rw [e] at h;cases h
 | ok q=>
  obtain ⟨n,k⟩:=q
  rw [e] at h
  dsimp only at h
  split at h
  ·cases h
  rename_i h1
  split at h
  ·cases h
  rename_i h2
  simp only [Except.ok.injEq,Prod.mk.injEq] at h
  obtain ⟨rfl,rfl⟩:=h
  obtain ⟨q1,q2,q3⟩:=numP_can e
  have hl:((s.drop k).take n).length=n:=by rw [List.length_take,List.length_drop];omega
  have et:txtB ((s.drop k).take n) =numB n++(s.drop k).take n:=by unfold txtB;rw [hl]
  rw [et]
  have e0:s=numB n++((s.drop k).take n++s.drop (k+n)):=by
   rw [←List.drop_drop,List.take_append_drop];exact q1
  generalize (s.drop k).take n=w at hl et e0⊢
  refine ⟨by rw [List.append_assoc];exact e0,fun t=> ?_⟩
  have e1:(numB n++(w++t)).drop k=w++t:=by rw [q2,List.drop_left]
  have hlen:(numB n++(w++t)).length=k+(n+t.length):=by simp only [List.length_append,hl];omega
  unfold textP
  rw [List.append_assoc,q3]
  dsimp only
  rw [if_neg h1,if_neg (by rw [hlen];omega),←List.drop_drop,e1,List.take_left' hl,List.drop_left' hl]
theorem varB_ok: ∀(f v:Nat),v<128 ^ f→∀(i acc:Nat),(i=0∨v≠0)→i+(varB v).length≤6→i+f=6→acc+v*128 ^ i≤1099511627776→∀t,numGo f i acc (varB v++t) = .ok (acc+v*128 ^ i,i+(varB v).length)
 | 0,v,hv,i,acc,h0,h1,h2,h3,t=>by
  obtain rfl:v=0:=by simpa using hv
  rw [varB,dif_pos (by decide)] at h1
  simp at h1;omega
 | f+1,v,hv,i,acc,h0,h1,h2,h3,t=>by
  by_cases h:v<128
  ·have e:varB v= [UInt8.ofNat v]:=by rw [varB,dif_pos h]
   have et:(UInt8.ofNat v).toNat=v:=by simp [UInt8.toNat_ofNat'];omega
   rw [e,List.cons_append,numGo,et,if_neg (by omega),if_neg (by omega)]
   rfl
  ·have e:varB v=UInt8.ofNat (v % 128+128) :: varB (v / 128):=by rw [varB,dif_neg h]
   have et:(UInt8.ofNat (v % 128+128)).toNat=v % 128+128:=by simp [UInt8.toNat_ofNat'];omega
   rw [e] at h1⊢
   rw [List.length_cons] at h1⊢
   have em:v*128 ^ i=v % 128*128 ^ i+v / 128*128 ^ (i+1):=by
    rw [Nat.pow_succ,Nat.mul_comm (128 ^ i) 128,←Nat.mul_assoc,←Nat.add_mul]
    congr 1;omega
   have ih:=varB_ok f (v / 128) (by rw [Nat.pow_succ] at hv;omega) (i+1) (acc+v % 128*128 ^ i) (.inr (by omega)) (by omega) (by omega) (by omega) t
   rw [List.cons_append,numGo,et,if_pos (by omega),show (v % 128+128) % 128=v % 128 by omega,ih]
   congr 2
   ·omega
   ·omega
theorem num_rds (most n:Int) (h0:0≤n) (h1:n≤most) (h2:most≤1099511627776) :Rds (numM most) (numB n) n:=fun t=>by
 obtain ⟨v,rfl⟩ : ∃v:Nat,n=v:=⟨n.toNat,by omega⟩
 have e:numB (v:Int) =varB v:=by
  unfold numB
  rw [show (min (max (v:Int) 0) 1099511627776).toNat=v by omega]
 have hl:(varB v).length≤6:=var_len 5 v (Nat.lt_of_le_of_lt (by omega:v≤1099511627776) (by decide))
 have:=varB_ok 6 v (Nat.lt_of_le_of_lt (by omega:v≤1099511627776) (by decide)) 0 0 (.inl rfl) (by omega) rfl (by omega) t
 unfold numM numP
 rw [e,this]
 simp only [Nat.zero_add,Nat.pow_zero,Nat.mul_one]
 rw [if_neg (by omega),List.drop_left]
theorem text_rds (most:Int) (s:Bytes) (h1:s.length≤most) (h2:most≤1099511627776) :Rds (textP most) (txtB s) s:=fun t=>by
 have:=num_rds most s.length (by omega) h1 h2 (s++t)
 unfold numM at this
 cases e:numP (numB s.length++(s++t)) with
 | error x=>rw [e] at this;cases this
 | ok q=>
  obtain ⟨n,k⟩:=q
  rw [e] at this
  dsimp only at this
  split at this
  ·cases this
  rename_i h3
  simp only [Except.ok.injEq,Prod.mk.injEq] at this
  obtain ⟨q1,q2⟩:=this
  obtain rfl:n=s.length:=by omega
  obtain ⟨_,q3,_⟩:=numP_can e
  unfold textP txtB
  rw [List.append_assoc,e]
  dsimp only
  have hlen:(numB s.length++(s++t)).length=k+(s.length+t.length):=by simp only [List.length_append];omega
  rw [if_neg h3,hlen,if_neg (by omega),q2,List.take_left,←List.drop_drop,q2,List.drop_left]
def repI:Nat→Rd Int→Rd (List Int)
 | 0,_=>Rd.pure []
 | n+1,p=>p.bind fun a=>(repI n p).bind fun l=>Rd.pure (a :: l)
theorem repI_can {p:Rd Int} {enc:Int→Bytes} (hp:Can p enc) : ∀(n:Nat) (s:Bytes) (l:List Int) (r:Bytes),repI n p s= .ok (l,r)→l.length=n∧s=l.flatMap enc++r∧Rds (repI n p) (l.flatMap enc) l
 | 0,s,l,r,h=>by
  obtain ⟨rfl,rfl⟩:=pure_ok h
  exact ⟨rfl,rfl,Rds.pure _⟩
 | n+1,s,l,r,h=>by
  obtain ⟨a,s1,h1,h⟩:=rd_bind h
  obtain ⟨l',s2,h2,h⟩:=rd_bind h
  obtain ⟨rfl,rfl⟩:=pure_ok h
  obtain ⟨rfl,q1⟩:=hp s a s1 h1
  obtain ⟨rfl,rfl,q2⟩:=repI_can hp n s1 l' s2 h2
  refine ⟨rfl,by rw [List.flatMap_cons,List.append_assoc], ?_⟩
  rw [List.flatMap_cons]
  exact Rds.bind q1 (q2.end (fun l=>a :: l))
def keysP:Rd (List Int):=(numM 64).bind fun n=>repI n.toNat (numM 63)
def keysE (l:List Int) :Bytes:=numB l.length++l.flatMap numB
theorem keysP_can:Can keysP keysE:=by
 intro s l r h
 obtain ⟨n,s1,h1,h2⟩:=rd_bind h
 have hn:=(numM_nn h1).1
 obtain ⟨e1,q1⟩:=numM_can 64 s n s1 h1
 obtain ⟨hl,e2,q2⟩:=repI_can (numM_can 63) _ s1 l r h2
 have e:(l.length:Int) =n:=by omega
 unfold keysE
 rw [e]
 exact ⟨by rw [List.append_assoc,←e2];exact e1,q1.bind q2⟩
abbrev Mx:Int:=1000000
def msgQ:Rd Msg:=(numM Mx).bind fun u=>(numM Mx).bind fun m=>(numM Mx).bind fun d=>(textP 24).bind fun i=>(numM Mx).bind fun f=>keysP.bind fun k=>(textP 300).bind fun t=>Rd.pure ⟨u,m,d,i,f,k,t⟩
def msgE (m:Msg) :Bytes:=numB m.uid++(numB m.mod++(numB m.date++(txtB m.id++(numB m.flags++(keysE m.keys++txtB m.text)))))
theorem msgQ_can:Can msgQ msgE:=by
 intro s m r h
 obtain ⟨u,s1,h1,h⟩:=rd_bind h
 obtain ⟨mo,s2,h2,h⟩:=rd_bind h
 obtain ⟨d,s3,h3,h⟩:=rd_bind h
 obtain ⟨i,s4,h4,h⟩:=rd_bind h
 obtain ⟨f,s5,h5,h⟩:=rd_bind h
 obtain ⟨k,s6,h6,h⟩:=rd_bind h
 obtain ⟨t,s7,h7,h⟩:=rd_bind h
 obtain ⟨rfl,rfl⟩:=pure_ok h
 obtain ⟨rfl,q1⟩:=numM_can _ _ _ _ h1
 obtain ⟨rfl,q2⟩:=numM_can _ _ _ _ h2
 obtain ⟨rfl,q3⟩:=numM_can _ _ _ _ h3
 obtain ⟨rfl,q4⟩:=textP_can _ _ _ _ h4
 obtain ⟨rfl,q5⟩:=numM_can _ _ _ _ h5
 obtain ⟨rfl,q6⟩:=keysP_can _ _ _ h6
 obtain ⟨rfl,q7⟩:=textP_can _ _ _ _ h7
 exact ⟨by simp only [msgE,List.append_assoc],q1.bind (q2.bind (q3.bind (q4.bind (q5.bind (q6.bind (q7.end fun t=>_))))))⟩
abbrev noMsg:Msg:=⟨0,0,0,[],0,[],[]⟩
def bodyP (k:Int) :Rd Row:=
 if k=1 then msgQ.bind fun m=>Rd.pure ⟨k,0,0,m,[]⟩
 else if k=2 then (numM Mx).bind fun u=>(numM Mx).bind fun m=>(numM Mx).bind fun f=>keysP.bind fun l=>Rd.pure ⟨k,u,m,{noMsg with flags:=f,keys:=l},[]⟩
 else if k=3∨k=6 then (numM Mx).bind fun u=>(numM Mx).bind fun m=>Rd.pure ⟨k,u,m,noMsg,[]⟩
 else if k=4 then (textP 24).bind fun t=>Rd.pure ⟨k,0,0,noMsg,t⟩
 else if k=5 then (numM Mx).bind fun u=>(textP 24).bind fun t=>Rd.pure ⟨k,u,0,noMsg,t⟩
 else if k=7 then (numM Mx).bind fun m=>Rd.pure ⟨k,0,m,noMsg,[]⟩
 else fun _=> .error 3
def rowP:Rd Row:=(numM 7).bind bodyP
def bodyE (r:Row) :Bytes:=
 if r.kind=1 then msgE r.msg
 else if r.kind=2 then numB r.uid++(numB r.mod++(numB r.msg.flags++keysE r.msg.keys))
 else if r.kind=3∨r.kind=6 then numB r.uid++numB r.mod
 else if r.kind=4 then txtB r.text
 else if r.kind=5 then numB r.uid++txtB r.text
 else numB r.mod
def rowE (r:Row) :Bytes:=numB r.kind++bodyE r
theorem bodyP_can {k:Int} {s:Bytes} {x:Row} {r:Bytes} (h:bodyP k s= .ok (x,r)) :x.kind=k∧s=bodyE x++r∧Rds (bodyP k) (bodyE x) x:=by
 unfold bodyP at h⊢
 split at h
 ·rename_i hk
  obtain ⟨m,s1,h1,h⟩:=rd_bind h
  obtain ⟨rfl,rfl⟩:=pure_ok h
  obtain ⟨rfl,q1⟩:=msgQ_can _ _ _ h1
  have e:bodyE ⟨k,0,0,m,[]⟩ =msgE m:=by unfold bodyE;rw [if_pos hk]
  rw [e,if_pos hk]
  exact ⟨rfl,rfl,q1.end fun m=>_⟩
 rename_i hk1
 split at h
 ·rename_i hk
  obtain ⟨u,s1,h1,h⟩:=rd_bind h
  obtain ⟨m,s2,h2,h⟩:=rd_bind h
  obtain ⟨f,s3,h3,h⟩:=rd_bind h
  obtain ⟨l,s4,h4,h⟩:=rd_bind h
  obtain ⟨rfl,rfl⟩:=pure_ok h
  obtain ⟨rfl,q1⟩:=numM_can _ _ _ _ h1
  obtain ⟨rfl,q2⟩:=numM_can _ _ _ _ h2
  obtain ⟨rfl,q3⟩:=numM_can _ _ _ _ h3
  obtain ⟨rfl,q4⟩:=keysP_can _ _ _ h4
  have e:bodyE ⟨k,u,m,{noMsg with flags:=f,keys:=l},[]⟩ =numB u++(numB m++(numB f++keysE l)):=by unfold bodyE;rw [if_neg hk1,if_pos hk]
  rw [e,if_neg hk1,if_pos hk]
  exact ⟨rfl,by simp only [List.append_assoc],q1.bind (q2.bind (q3.bind (q4.end fun l=>_)))⟩
 rename_i hk2
 split at h
 ·rename_i hk
  obtain ⟨u,s1,h1,h⟩:=rd_bind h
  obtain ⟨m,s2,h2,h⟩:=rd_bind h
  obtain ⟨rfl,rfl⟩:=pure_ok h
  obtain ⟨rfl,q1⟩:=numM_can _ _ _ _ h1
  obtain ⟨rfl,q2⟩:=numM_can _ _ _ _ h2
  have e:bodyE ⟨k,u,m,noMsg,[]⟩ =numB u++numB m:=by unfold bodyE;rw [if_neg hk1,if_neg hk2,if_pos hk]
  rw [e,if_neg hk1,if_neg hk2,if_pos hk]
  exact ⟨rfl,by simp only [List.append_assoc],q1.bind (q2.end fun m=>_)⟩
 rename_i hk3
 split at h
 ·rename_i hk
  obtain ⟨t,s1,h1,h⟩:=rd_bind h
  obtain ⟨rfl,rfl⟩:=pure_ok h
  obtain ⟨rfl,q1⟩:=textP_can _ _ _ _ h1
  have e:bodyE ⟨k,0,0,noMsg,t⟩ =txtB t:=by unfold bodyE;rw [if_neg hk1,if_neg hk2,if_neg hk3,if_pos hk]
  rw [e,if_neg hk1,if_neg hk2,if_neg hk3,if_pos hk]
  exact ⟨rfl,rfl,q1.end fun m=>_⟩
 rename_i hk4
 split at h
 ·rename_i hk
  obtain ⟨u,s1,h1,h⟩:=rd_bind h
  obtain ⟨t,s2,h2,h⟩:=rd_bind h
  obtain ⟨rfl,rfl⟩:=pure_ok h
  obtain ⟨rfl,q1⟩:=numM_can _ _ _ _ h1
  obtain ⟨rfl,q2⟩:=textP_can _ _ _ _ h2
  have e:bodyE ⟨k,u,0,noMsg,t⟩ =numB u++txtB t:=by unfold bodyE;rw [if_neg hk1,if_neg hk2,if_neg hk3,if_neg hk4,if_pos hk]
  rw [e,if_neg hk1,if_neg hk2,if_neg hk3,if_neg hk4,if_pos hk]
  exact ⟨rfl,by simp only [List.append_assoc],q1.bind (q2.end fun m=>_)⟩
 rename_i hk5
 split at h
 ·rename_i hk
  obtain ⟨m,s1,h1,h⟩:=rd_bind h
  obtain ⟨rfl,rfl⟩:=pure_ok h
  obtain ⟨rfl,q1⟩:=numM_can _ _ _ _ h1
  have e:bodyE ⟨k,0,m,noMsg,[]⟩ =numB m:=by unfold bodyE;rw [if_neg hk1,if_neg hk2,if_neg hk3,if_neg hk4,if_neg hk5]
  rw [e,if_neg hk1,if_neg hk2,if_neg hk3,if_neg hk4,if_neg hk5,if_pos hk]
  exact ⟨rfl,rfl,q1.end fun m=>_⟩
 ·cases h
theorem rowP_can:Can rowP rowE:=by
 intro s x r h
 obtain ⟨k,s1,h1,h2⟩:=rd_bind h
 obtain ⟨e1,q1⟩:=numM_can _ _ _ _ h1
 obtain ⟨rfl,e2,q2⟩:=bodyP_can h2
 exact ⟨by unfold rowE;rw [List.append_assoc,←e2];exact e1,q1.bind q2⟩
structure RowSm (x:Row) :Prop where
 text:x.text.length≤24
 keys:x.msg.keys.length≤64
 id:x.msg.id.length≤24
 txt:x.msg.text.length≤300
theorem keysP_len {s:Bytes} {l:List Int} {r:Bytes} (h:keysP s= .ok (l,r)) :l.length≤64:=by
 obtain ⟨n,s1,h1,h2⟩:=rd_bind h
 have hn:=numM_nn h1
 have:=(repI_can (numM_can 63) _ s1 l r h2).1
 omega
theorem textP_max {most:Int} {s a r:Bytes} (h:textP most s= .ok (a,r)) :(a.length:Int)≤max most 0:=(textP_len s a r h).2
theorem msgQ_sm {s:Bytes} {m:Msg} {r:Bytes} (h:msgQ s= .ok (m,r)) :m.keys.length≤64∧m.id.length≤24∧m.text.length≤300:=by
 obtain ⟨_,_,_,h⟩:=rd_bind h
 obtain ⟨_,_,_,h⟩:=rd_bind h
 obtain ⟨_,_,_,h⟩:=rd_bind h
 obtain ⟨_,_,h4,h⟩:=rd_bind h
 obtain ⟨_,_,_,h⟩:=rd_bind h
 obtain ⟨_,_,h6,h⟩:=rd_bind h
 obtain ⟨_,_,h7,h⟩:=rd_bind h
 obtain ⟨rfl,_⟩:=pure_ok h
 have q4:=textP_max h4
 have q7:=textP_max h7
 exact ⟨keysP_len h6,by simp only;omega,by simp only;omega⟩
theorem rowP_sm {s:Bytes} {x:Row} {r:Bytes} (h:rowP s= .ok (x,r)) :RowSm x:=by
 obtain ⟨k,s1,h1,h⟩:=rd_bind h
 unfold bodyP at h
 split at h
 ·obtain ⟨m,_,h2,h⟩:=rd_bind h
  obtain ⟨rfl,_⟩:=pure_ok h
  obtain ⟨q1,q2,q3⟩:=msgQ_sm h2
  exact ⟨by simp,q1,q2,q3⟩
 split at h
 ·obtain ⟨_,_,_,h⟩:=rd_bind h
  obtain ⟨_,_,_,h⟩:=rd_bind h
  obtain ⟨_,_,_,h⟩:=rd_bind h
  obtain ⟨_,_,h5,h⟩:=rd_bind h
  obtain ⟨rfl,_⟩:=pure_ok h
  exact ⟨by simp,keysP_len h5,by simp,by simp⟩
 split at h
 ·obtain ⟨_,_,_,h⟩:=rd_bind h
  obtain ⟨_,_,_,h⟩:=rd_bind h
  obtain ⟨rfl,_⟩:=pure_ok h
  exact ⟨by simp,by simp,by simp,by simp⟩
 split at h
 ·obtain ⟨_,_,h2,h⟩:=rd_bind h
  obtain ⟨rfl,_⟩:=pure_ok h
  have:=textP_max h2
  exact ⟨by simp only;omega,by simp,by simp,by simp⟩
 split at h
 ·obtain ⟨_,_,_,h⟩:=rd_bind h
  obtain ⟨_,_,h2,h⟩:=rd_bind h
  obtain ⟨rfl,_⟩:=pure_ok h
  have:=textP_max h2
  exact ⟨by simp only;omega,by simp,by simp,by simp⟩
 split at h
 ·obtain ⟨_,_,_,h⟩:=rd_bind h
  obtain ⟨rfl,_⟩:=pure_ok h
  exact ⟨by simp,by simp,by simp,by simp⟩
 ·cases h
theorem numB_pos (n:Int) :0<(numB n).length:=by
 unfold numB
 rw [varB]
 split<;>simp
theorem rowE_pos (r:Row) :0<(rowE r).length:=by
 unfold rowE;rw [List.length_append];have:=numB_pos r.kind;omega
abbrev GoodR (r:Row) :Prop:=Rds rowP (rowE r) r
theorem GoodR.sm {r:Row} (h:GoodR r) :RowSm r:=rowP_sm (h [])
def parseR:Nat→Nat→Bytes→Except Int (List Row)
 | _,_,[]=> .ok []
 | 0,_,_ :: _=> .error 3
 | f+1,n,c :: s=>if 200≤n then .error 4 else match rowP (c :: s) with
  | .error e=> .error e
  | .ok (x,r)=>match parseR f (n+1) r with
   | .error e=> .error e
   | .ok l=> .ok (x :: l)
theorem rowP_len {s:Bytes} {x:Row} {r:Bytes} (h:rowP s= .ok (x,r)) :r.length<s.length:=by
 obtain ⟨rfl,_⟩:=rowP_can _ _ _ h
 have:=rowE_pos x
 rw [List.length_append];omega
def rowsB (s:Bytes) :Except Int (List Row):=parseR s.length 0 s
end B
end Go.Proofs.YtmkkljbfmdngfaaGreatDoor
namespace Go.Proofs.YtmkkljbfmdngfaaGreatDoor
namespace B
def HZ:Hint:=⟨fun f r=>if r==1000000 then (if f==58 then [12,27] else if f==108 then [30] else if f==107 then [38] else if f==73 then [6,27] else if f==40 then [66] else []) else if r==1000001 then (if f==40 then [3000070,3000081] else if f==999999 then [4000032] else if f==999999 then [4000061] else if f==23 then [28,79] else if f==32 then [28] else if f==74 then [2000117] else if f==33 then [7000003] else []) else if f==11 then (if r==5 then [10,99999] else if r==8 then [12,99999] else []) else if f==107 then (if r==10 then [1000,1080074,1140075] else []) else if f==146 then (if r==2 then [7,1100075,1120075] else []) else if f==999999 then (if r==13 then [23,9,1010140,1030075] else if r==37||r==44 then [6] else []) else if f==168||f==171||f==133||f==137 then [1100] else if f==999999||f==999999 then (if r==6 then [9,99999] else if r==7 then [11,99999] else []) else [],fun f=>if f==999999||f==999999||f==999999||f==129||f==134 then some 0 else none⟩
set_option maxRecDepth 100000
theorem zt79:okF P HZ 79 1=true:=by kernel_rfl
theorem zt120:okF P HZ 120 2=true:=by kernel_rfl
theorem zt150:okF P HZ 150 1=true:=by kernel_rfl
theorem zvc79 (l:List D) (e:Int) (x:Int) (res:CV) (objs':List (Nat×List CV)) :walkA P (tbF P [118,148,112,163,1000101,7000102,107500054,1072002147,75,117] [] 79) (anOf (afOf P HZ 79) [(0,1000,0),(200000,1100,0)]) (afOf P HZ 79) [CV.ptr (1000:Nat) (0:Nat)] [(1000,[CV.ptr 1100 0,CV.d (D.int .i64 x)]),(1100,[CV.d (D.slice 1 l),CV.d (D.int .i64 e)])] (fun rs=>endE rs res objs') =((((x !=0) =true→EndR (CV.d (D.int .i64 x)) res [(1000,[CV.ptr 1100 0,CV.d (D.int .i64 x)]),(1100,[CV.d (D.slice 1 l),CV.d (D.int .i64 e)])] objs')∧((x !=0) =false→(∃l3:List D,(∃n4:Int,(∃n5:Int,((Runs P 124 [CV.ptr 1100 0] [(1100,[CV.d (D.slice 1 l),CV.d (D.int .i64 e)])] (CV.d (D.int .i64 n5)) [(1100,[CV.d (D.slice 1 l3),CV.d (D.int .i64 n4)])])∧EndR (CV.d (D.int .i64 n5)) res [(1000,[CV.ptr 1100 0,CV.d (D.int .i64 x)]),(1100,[CV.d (D.slice 1 l3),CV.d (D.int .i64 n4)])] objs'))))))):=by kernel_rfl
theorem zvc120 (l:List D) (e:Int) (x:Int) (b:Bool) (res:CV) (objs':List (Nat×List CV)) :walkA P (tbF P [118,148,112,163,1000101,7000102,107500054,1072002147,75,117] [] 120) (anOf (afOf P HZ 120) [(0,1000,0),(200000,1100,0)]) (afOf P HZ 120) [CV.ptr 1000 0,CV.d (D.bool b)] [(1000,[CV.ptr 1100 0,CV.d (D.int .i64 x)]),(1100,[CV.d (D.slice 1 l),CV.d (D.int .i64 e)])] (fun rs=>endE rs res objs') =((∃n4:Int,((b=true→Runs P 124 [CV.ptr 1100 0] [(1100,[CV.d (D.slice 1 l),CV.d (D.int .i64 e)])] (CV.d (D.int .i64 n4)) [(1100,[CV.d (D.slice 1 l),CV.d (D.int .i64 e)])])∧(∀b5:Bool,((b&&n4==0) =b5→(∀b6:Bool,((b5&&x==0) =b6→(((b6) =true→EndR (CV.tup []) res [(1000,[CV.ptr 1100 0,CV.d (D.int .i64 3)]),(1100,[CV.d (D.slice 1 l),CV.d (D.int .i64 e)])] objs')∧((b6) =false→EndR (CV.tup []) res [(1000,[CV.ptr 1100 0,CV.d (D.int .i64 x)]),(1100,[CV.d (D.slice 1 l),CV.d (D.int .i64 e)])] objs'))))))))):=by kernel_rfl
theorem zvc150 (l:List D) (e:Int) (res:CV) (objs':List (Nat×List CV)) :walkA P (tbF P [118,148,112,163,1000101,7000102,107500054,1072002147,75,117] [] 150) (anOf (afOf P HZ 150) [(0,1000,0)]) (afOf P HZ 150) [CV.ptr (1000:Nat) (0:Nat)] [(1000,[CV.d (D.slice 1 l),CV.d (D.int .i64 e)])] (fun rs=>endE rs res objs') =((∃l2:List D,(∃n3:Int,(∃b4:Bool,((Runs P 184 [CV.ptr 1000 0] [(1000,[CV.d (D.slice 1 l),CV.d (D.int .i64 e)])] (CV.d (D.bool b4)) [(1000,[CV.d (D.slice 1 l2),CV.d (D.int .i64 n3)])])∧(((b4) =true→EndR (CV.d (D.int .i64 (0:Int))) res [(1000,[CV.d (D.slice 1 l2),CV.d (D.int .i64 n3)])] objs')∧((b4) =false→(∃n5:Int,(∃n6:Int,(∃n7:Int,((Runs P 185 [CV.d (D.slice 1 l2)] [] (CV.tup [CV.d (D.int .i64 n5),CV.d (D.int .i64 n6),CV.d (D.int .i64 n7)]) [])∧(((n7 !=0) =true→(∃l8:List D,(∃n9:Int,((Runs P 186 [CV.ptr 1000 0,CV.d (D.int .i64 n7)] [(1000,[CV.d (D.slice 1 l2),CV.d (D.int .i64 n3)])] (CV.tup []) [(1000,[CV.d (D.slice 1 l8),CV.d (D.int .i64 n9)])])∧EndR (CV.d (D.int .i64 (0:Int))) res [(1000,[CV.d (D.slice 1 l8),CV.d (D.int .i64 n9)])] objs'))))∧((n7 !=0) =false→((0≤n6∧n6≤nI (List.length l2)∧nI (List.length l2)≤nI (List.length l2))∧(∀l10:List D,(List.drop (Int.toNat n6) (List.take (Int.toNat (nI (List.length l2))) l2) =l10→EndR (CV.d (D.int .i64 n5)) res [(1000,[CV.d (D.slice 1 l10),CV.d (D.int .i64 n3)])] objs')))))))))))))))):=by kernel_rfl
theorem zt78:okF P HZ 78 1=true:=by kernel_rfl
theorem zt119:okF P HZ 119 2=true:=by kernel_rfl
theorem zt121:okF P HZ 121 1=true:=by kernel_rfl
theorem zt122:okF P HZ 122 1=true:=by kernel_rfl
theorem zt123:okF P HZ 123 2=true:=by kernel_rfl
theorem zvc119 (l:List D) (e:Int) (x:Int) (n:Int) (res:CV) (objs':List (Nat×List CV)) :walkA P (tbF P [118,148,112,163,1000101,7000102,107500054,1072002147,75,117] [] 119) (anOf (afOf P HZ 119) [(0,1000,0),(200000,1100,0)]) (afOf P HZ 119) [CV.ptr 1000 0,CV.d (D.int .i64 n)] [(1000,[CV.ptr 1100 0,CV.d (D.int .i64 x)]),(1100,[CV.d (D.slice 1 l),CV.d (D.int .i64 e)])] (fun rs=>endE rs res objs') =((((x !=0) =true→EndR (CV.d (D.int .i64 (0:Int))) res [(1000,[CV.ptr 1100 0,CV.d (D.int .i64 x)]),(1100,[CV.d (D.slice 1 l),CV.d (D.int .i64 e)])] objs')∧((x !=0) =false→(∃l4:List D,(∃n5:Int,(∃n6:Int,((Runs P 150 [CV.ptr 1100 0] [(1100,[CV.d (D.slice 1 l),CV.d (D.int .i64 e)])] (CV.d (D.int .i64 n6)) [(1100,[CV.d (D.slice 1 l4),CV.d (D.int .i64 n5)])])∧(∃n7:Int,(∃l8:List D,(∃n9:Int,((Runs P 120 [CV.ptr 1000 0,CV.d (D.bool (decide (n6>n)))] [(1000,[CV.ptr 1100 0,CV.d (D.int .i64 x)]),(1100,[CV.d (D.slice 1 l4),CV.d (D.int .i64 n5)])] (CV.tup []) [(1000,[CV.ptr 1100 0,CV.d (D.int .i64 n7)]),(1100,[CV.d (D.slice 1 l8),CV.d (D.int .i64 n9)])])∧EndR (CV.d (D.int .i64 n6)) res [(1000,[CV.ptr 1100 0,CV.d (D.int .i64 n7)]),(1100,[CV.d (D.slice 1 l8),CV.d (D.int .i64 n9)])] objs'))))))))))):=by kernel_rfl
theorem zvc123 (l:List D) (e:Int) (x:Int) (n:Int) (res:CV) (objs':List (Nat×List CV)) :walkA P (tbF P [118,148,112,163,1000101,7000102,107500054,1072002147,75,117] [] 123) (anOf (afOf P HZ 123) [(0,1000,0),(200000,1100,0)]) (afOf P HZ 123) [CV.ptr 1000 0,CV.d (D.int .i64 n)] [(1000,[CV.ptr 1100 0,CV.d (D.int .i64 x)]),(1100,[CV.d (D.slice 1 l),CV.d (D.int .i64 e)])] (fun rs=>endE rs res objs') =((((x !=0) =true→EndR (CV.d (D.str [])) res [(1000,[CV.ptr 1100 0,CV.d (D.int .i64 x)]),(1100,[CV.d (D.slice 1 l),CV.d (D.int .i64 e)])] objs')∧((x !=0) =false→(∃l4:List D,(∃n5:Int,(∃s6:Bytes,((Runs P 151 [CV.ptr 1100 0,CV.d (D.int .i64 n)] [(1100,[CV.d (D.slice 1 l),CV.d (D.int .i64 e)])] (CV.d (D.str s6)) [(1100,[CV.d (D.slice 1 l4),CV.d (D.int .i64 n5)])])∧EndR (CV.d (D.str s6)) res [(1000,[CV.ptr 1100 0,CV.d (D.int .i64 x)]),(1100,[CV.d (D.slice 1 l4),CV.d (D.int .i64 n5)])] objs'))))))):=by kernel_rfl
theorem zvc122 (l:List D) (e:Int) (x:Int) (res:CV) (objs':List (Nat×List CV)) :walkA P (tbF P [118,148,112,163,1000101,7000102,107500054,1072002147,75,117] [] 122) (anOf (afOf P HZ 122) [(0,1000,0),(200000,1100,0)]) (afOf P HZ 122) [CV.ptr (1000:Nat) (0:Nat)] [(1000,[CV.ptr 1100 0,CV.d (D.int .i64 x)]),(1100,[CV.d (D.slice 1 l),CV.d (D.int .i64 e)])] (fun rs=>endE rs res objs') =((∃n3:Int,(∃l4:List D,(∃n5:Int,(∃n6:Int,((Runs P 119 [CV.ptr 1000 0,CV.d (D.int .i64 64)] [(1000,[CV.ptr 1100 0,CV.d (D.int .i64 x)]),(1100,[CV.d (D.slice 1 l),CV.d (D.int .i64 e)])] (CV.d (D.int .i64 n6)) [(1000,[CV.ptr 1100 0,CV.d (D.int .i64 n3)]),(1100,[CV.d (D.slice 1 l4),CV.d (D.int .i64 n5)])])∧(∃I7:(List D→(Int→(Int→(List D→(Int→(Nat→Prop)))))),(((CV.ptr (1100:Nat) (0:Nat) =CV.ptr (1100:Nat) (0:Nat))∧(∃k8:Nat,I7 [] 0 n3 l4 n5 k8))∧(∀l9:List D,(∀n10:Int,(∀n11:Int,(∀l12:List D,(∀n13:Int,(∀k14:Nat,(I7 l9 n10 n11 l12 n13 k14→(((decide (n10<n6)) =true→(∃n15:Int,(∃l16:List D,(∃n17:Int,(∃n18:Int,((Runs P 79 [CV.ptr 1000 0] [(1000,[CV.ptr 1100 0,CV.d (D.int .i64 n11)]),(1100,[CV.d (D.slice 1 l12),CV.d (D.int .i64 n13)])] (CV.d (D.int .i64 n18)) [(1000,[CV.ptr 1100 0,CV.d (D.int .i64 n15)]),(1100,[CV.d (D.slice 1 l16),CV.d (D.int .i64 n17)])])∧(((n18 !=0) =true→EndR (CV.own (1:Nat) []) res [(1000,[CV.ptr 1100 0,CV.d (D.int .i64 n15)]),(1100,[CV.d (D.slice 1 l16),CV.d (D.int .i64 n17)])] objs')∧((n18 !=0) =false→(∃n19:Int,(∃l20:List D,(∃n21:Int,(∃n22:Int,((Runs P 119 [CV.ptr 1000 0,CV.d (D.int .i64 63)] [(1000,[CV.ptr 1100 0,CV.d (D.int .i64 n15)]),(1100,[CV.d (D.slice 1 l16),CV.d (D.int .i64 n17)])] (CV.d (D.int .i64 n22)) [(1000,[CV.ptr 1100 0,CV.d (D.int .i64 n19)]),(1100,[CV.d (D.slice 1 l20),CV.d (D.int .i64 n21)])])∧(((List.length l9+List.length [D.int .i64 n22]) *8≤140737488355328)∧(∀n23:Int,(Go.IntKind.wrap Go.IntKind.i64 (n10+1) =n23→((CV.ptr (1100:Nat) (0:Nat) =CV.ptr (1100:Nat) (0:Nat))∧(∃k24:Nat,((k24<k14)∧I7 (l9++ [D.int .i64 n22]) n23 n19 l20 n21 k24)))))))))))))))))))∧((decide (n10<n6)) =false→EndR (CV.own 1 l9) res [(1000,[CV.ptr 1100 0,CV.d (D.int .i64 n11)]),(1100,[CV.d (D.slice 1 l12),CV.d (D.int .i64 n13)])] objs'))))))))))))))))):=by kernel_rfl
theorem zvc121 (l:List D) (e:Int) (x:Int) (res:CV) (objs':List (Nat×List CV)) :walkA P (tbF P [118,148,112,163,1000101,7000102,107500054,1072002147,75,117] [] 121) (anOf (afOf P HZ 121) [(0,1000,0),(200000,1100,0)]) (afOf P HZ 121) [CV.ptr (1000:Nat) (0:Nat)] [(1000,[CV.ptr 1100 0,CV.d (D.int .i64 x)]),(1100,[CV.d (D.slice 1 l),CV.d (D.int .i64 e)])] (fun rs=>endE rs res objs') =((∃n3:Int,(∃l4:List D,(∃n5:Int,(∃n6:Int,((Runs P 119 [CV.ptr 1000 0,CV.d (D.int .i64 1000000)] [(1000,[CV.ptr 1100 0,CV.d (D.int .i64 x)]),(1100,[CV.d (D.slice 1 l),CV.d (D.int .i64 e)])] (CV.d (D.int .i64 n6)) [(1000,[CV.ptr 1100 0,CV.d (D.int .i64 n3)]),(1100,[CV.d (D.slice 1 l4),CV.d (D.int .i64 n5)])])∧(∃n7:Int,(∃l8:List D,(∃n9:Int,(∃n10:Int,((Runs P 119 [CV.ptr 1000 0,CV.d (D.int .i64 1000000)] [(1000,[CV.ptr 1100 0,CV.d (D.int .i64 n3)]),(1100,[CV.d (D.slice 1 l4),CV.d (D.int .i64 n5)])] (CV.d (D.int .i64 n10)) [(1000,[CV.ptr 1100 0,CV.d (D.int .i64 n7)]),(1100,[CV.d (D.slice 1 l8),CV.d (D.int .i64 n9)])])∧(∃n11:Int,(∃l12:List D,(∃n13:Int,(∃n14:Int,((Runs P 119 [CV.ptr 1000 0,CV.d (D.int .i64 1000000)] [(1000,[CV.ptr 1100 0,CV.d (D.int .i64 n7)]),(1100,[CV.d (D.slice 1 l8),CV.d (D.int .i64 n9)])] (CV.d (D.int .i64 n14)) [(1000,[CV.ptr 1100 0,CV.d (D.int .i64 n11)]),(1100,[CV.d (D.slice 1 l12),CV.d (D.int .i64 n13)])])∧(∃n15:Int,(∃l16:List D,(∃n17:Int,(∃s18:Bytes,((Runs P 123 [CV.ptr 1000 0,CV.d (D.int .i64 24)] [(1000,[CV.ptr 1100 0,CV.d (D.int .i64 n11)]),(1100,[CV.d (D.slice 1 l12),CV.d (D.int .i64 n13)])] (CV.d (D.str s18)) [(1000,[CV.ptr 1100 0,CV.d (D.int .i64 n15)]),(1100,[CV.d (D.slice 1 l16),CV.d (D.int .i64 n17)])])∧(∃n19:Int,(∃l20:List D,(∃n21:Int,(∃n22:Int,((Runs P 119 [CV.ptr 1000 0,CV.d (D.int .i64 1000000)] [(1000,[CV.ptr 1100 0,CV.d (D.int .i64 n15)]),(1100,[CV.d (D.slice 1 l16),CV.d (D.int .i64 n17)])] (CV.d (D.int .i64 n22)) [(1000,[CV.ptr 1100 0,CV.d (D.int .i64 n19)]),(1100,[CV.d (D.slice 1 l20),CV.d (D.int .i64 n21)])])∧(∃n23:Int,(∃l24:List D,(∃n25:Int,(∃l26:List D,((Runs P 122 [CV.ptr 1000 0] [(1000,[CV.ptr 1100 0,CV.d (D.int .i64 n19)]),(1100,[CV.d (D.slice 1 l20),CV.d (D.int .i64 n21)])] (CV.d (D.slice 1 l26)) [(1000,[CV.ptr 1100 0,CV.d (D.int .i64 n23)]),(1100,[CV.d (D.slice 1 l24),CV.d (D.int .i64 n25)])])∧(∃n27:Int,(∃l28:List D,(∃n29:Int,(∃s30:Bytes,((Runs P 123 [CV.ptr 1000 0,CV.d (D.int .i64 300)] [(1000,[CV.ptr 1100 0,CV.d (D.int .i64 n23)]),(1100,[CV.d (D.slice 1 l24),CV.d (D.int .i64 n25)])] (CV.d (D.str s30)) [(1000,[CV.ptr 1100 0,CV.d (D.int .i64 n27)]),(1100,[CV.d (D.slice 1 l28),CV.d (D.int .i64 n29)])])∧EndR (CV.d (D.agg [D.int .i64 n6,D.int .i64 n10,D.int .i64 n14,D.str s18,D.int .i64 n22,D.slice 1 l26,D.str s30])) res [(1000,[CV.ptr 1100 0,CV.d (D.int .i64 n27)]),(1100,[CV.d (D.slice 1 l28),CV.d (D.int .i64 n29)]),(2,[CV.d (D.int .i64 n6),CV.d (D.int .i64 n10),CV.d (D.int .i64 n14),CV.d (D.str s18),CV.d (D.int .i64 n22),CV.d (D.slice 1 l26),CV.d (D.str s30)]),(3,[CV.d (D.int .i64 n6),CV.d (D.int .i64 n10),CV.d (D.int .i64 n14),CV.d (D.str s18),CV.d (D.int .i64 n22),CV.d (D.slice 1 l26),CV.d (D.str s30)])] objs')))))))))))))))))))))))))))))))))))):=by kernel_rfl
theorem zvc78 (l:List D) (e:Int) (x:Int) (res:CV) (objs':List (Nat×List CV)) :walkA P (tbF P [118,148,112,163,1000101,7000102,107500054,1072002147,75,117] [] 78) (anOf (afOf P HZ 78) [(0,1000,0),(200000,1100,0)]) (afOf P HZ 78) [CV.ptr (1000:Nat) (0:Nat)] [(1000,[CV.ptr 1100 0,CV.d (D.int .i64 x)]),(1100,[CV.d (D.slice 1 l),CV.d (D.int .i64 e)])] (fun rs=>endE rs res objs') =((∃n3:Int,(∃l4:List D,(∃n5:Int,(∃n6:Int,((Runs P 119 [CV.ptr 1000 0,CV.d (D.int .i64 7)] [(1000,[CV.ptr 1100 0,CV.d (D.int .i64 x)]),(1100,[CV.d (D.slice 1 l),CV.d (D.int .i64 e)])] (CV.d (D.int .i64 n6)) [(1000,[CV.ptr 1100 0,CV.d (D.int .i64 n3)]),(1100,[CV.d (D.slice 1 l4),CV.d (D.int .i64 n5)])])∧(∃n7:Int,(∃l8:List D,(∃n9:Int,((Runs P 120 [CV.ptr 1000 0,CV.d (D.bool (n6==0))] [(1000,[CV.ptr 1100 0,CV.d (D.int .i64 n3)]),(1100,[CV.d (D.slice 1 l4),CV.d (D.int .i64 n5)])] (CV.tup []) [(1000,[CV.ptr 1100 0,CV.d (D.int .i64 n7)]),(1100,[CV.d (D.slice 1 l8),CV.d (D.int .i64 n9)])])∧(((n6==1) =true→(∃n10:Int,(∃l11:List D,(∃n12:Int,(∃n13:Int,(∃n14:Int,(∃n15:Int,(∃s16:Bytes,(∃n17:Int,(∃l18:List D,(∃s19:Bytes,((Runs P 121 [CV.ptr 1000 0] [(1000,[CV.ptr 1100 0,CV.d (D.int .i64 n7)]),(1100,[CV.d (D.slice 1 l8),CV.d (D.int .i64 n9)])] (CV.d (D.agg [D.int .i64 n13,D.int .i64 n14,D.int .i64 n15,D.str s16,D.int .i64 n17,D.slice 1 l18,D.str s19])) [(1000,[CV.ptr 1100 0,CV.d (D.int .i64 n10)]),(1100,[CV.d (D.slice 1 l11),CV.d (D.int .i64 n12)])])∧EndR (CV.d (D.agg [D.int .i64 n6,D.int .i64 0,D.int .i64 0,D.int .i64 n13,D.int .i64 n14,D.int .i64 n15,D.str s16,D.int .i64 n17,D.slice 1 l18,D.str s19,D.str []])) res [(1000,[CV.ptr 1100 0,CV.d (D.int .i64 n10)]),(1100,[CV.d (D.slice 1 l11),CV.d (D.int .i64 n12)]),(2,[CV.d (D.int .i64 n6),CV.d (D.int .i64 0),CV.d (D.int .i64 0),CV.d (D.int .i64 n13),CV.d (D.int .i64 n14),CV.d (D.int .i64 n15),CV.d (D.str s16),CV.d (D.int .i64 n17),CV.d (D.slice 1 l18),CV.d (D.str s19),CV.d (D.str [])]),(3,[CV.d (D.int .i64 n6),CV.d (D.int .i64 0),CV.d (D.int .i64 0),CV.d (D.int .i64 n13),CV.d (D.int .i64 n14),CV.d (D.int .i64 n15),CV.d (D.str s16),CV.d (D.int .i64 n17),CV.d (D.slice 1 l18),CV.d (D.str s19),CV.d (D.str [])])] objs'))))))))))))∧((n6==1) =false→(((n6==2) =true→(∃n20:Int,(∃l21:List D,(∃n22:Int,(∃n23:Int,((Runs P 119 [CV.ptr 1000 0,CV.d (D.int .i64 1000000)] [(1000,[CV.ptr 1100 0,CV.d (D.int .i64 n7)]),(1100,[CV.d (D.slice 1 l8),CV.d (D.int .i64 n9)])] (CV.d (D.int .i64 n23)) [(1000,[CV.ptr 1100 0,CV.d (D.int .i64 n20)]),(1100,[CV.d (D.slice 1 l21),CV.d (D.int .i64 n22)])])∧(∃n24:Int,(∃l25:List D,(∃n26:Int,(∃n27:Int,((Runs P 119 [CV.ptr 1000 0,CV.d (D.int .i64 1000000)] [(1000,[CV.ptr 1100 0,CV.d (D.int .i64 n20)]),(1100,[CV.d (D.slice 1 l21),CV.d (D.int .i64 n22)])] (CV.d (D.int .i64 n27)) [(1000,[CV.ptr 1100 0,CV.d (D.int .i64 n24)]),(1100,[CV.d (D.slice 1 l25),CV.d (D.int .i64 n26)])])∧(∃n28:Int,(∃l29:List D,(∃n30:Int,(∃n31:Int,((Runs P 119 [CV.ptr 1000 0,CV.d (D.int .i64 1000000)] [(1000,[CV.ptr 1100 0,CV.d (D.int .i64 n24)]),(1100,[CV.d (D.slice 1 l25),CV.d (D.int .i64 n26)])] (CV.d (D.int .i64 n31)) [(1000,[CV.ptr 1100 0,CV.d (D.int .i64 n28)]),(1100,[CV.d (D.slice 1 l29),CV.d (D.int .i64 n30)])])∧(∃n32:Int,(∃l33:List D,(∃n34:Int,(∃l35:List D,((Runs P 122 [CV.ptr 1000 0] [(1000,[CV.ptr 1100 0,CV.d (D.int .i64 n28)]),(1100,[CV.d (D.slice 1 l29),CV.d (D.int .i64 n30)])] (CV.d (D.slice 1 l35)) [(1000,[CV.ptr 1100 0,CV.d (D.int .i64 n32)]),(1100,[CV.d (D.slice 1 l33),CV.d (D.int .i64 n34)])])∧EndR (CV.d (D.agg [D.int .i64 n6,D.int .i64 n23,D.int .i64 n27,D.int .i64 0,D.int .i64 0,D.int .i64 0,D.str [],D.int .i64 n31,D.slice 1 l35,D.str [],D.str []])) res [(1000,[CV.ptr 1100 0,CV.d (D.int .i64 n32)]),(1100,[CV.d (D.slice 1 l33),CV.d (D.int .i64 n34)]),(2,[CV.d (D.int .i64 n6),CV.d (D.int .i64 n23),CV.d (D.int .i64 n27),CV.d (D.int .i64 0),CV.d (D.int .i64 0),CV.d (D.int .i64 0),CV.d (D.str []),CV.d (D.int .i64 n31),CV.d (D.slice 1 l35),CV.d (D.str []),CV.d (D.str [])]),(3,[CV.d (D.int .i64 n6),CV.d (D.int .i64 n23),CV.d (D.int .i64 n27),CV.d (D.int .i64 0),CV.d (D.int .i64 0),CV.d (D.int .i64 0),CV.d (D.str []),CV.d (D.int .i64 n31),CV.d (D.slice 1 l35),CV.d (D.str []),CV.d (D.str [])])] objs')))))))))))))))))))))∧((n6==2) =false→(((n6==3) =true→(((n6==3) =true→(∃n36:Int,(∃l37:List D,(∃n38:Int,(∃n39:Int,((Runs P 119 [CV.ptr 1000 0,CV.d (D.int .i64 1000000)] [(1000,[CV.ptr 1100 0,CV.d (D.int .i64 n7)]),(1100,[CV.d (D.slice 1 l8),CV.d (D.int .i64 n9)])] (CV.d (D.int .i64 n39)) [(1000,[CV.ptr 1100 0,CV.d (D.int .i64 n36)]),(1100,[CV.d (D.slice 1 l37),CV.d (D.int .i64 n38)])])∧(∃n40:Int,(∃l41:List D,(∃n42:Int,(∃n43:Int,((Runs P 119 [CV.ptr 1000 0,CV.d (D.int .i64 1000000)] [(1000,[CV.ptr 1100 0,CV.d (D.int .i64 n36)]),(1100,[CV.d (D.slice 1 l37),CV.d (D.int .i64 n38)])] (CV.d (D.int .i64 n43)) [(1000,[CV.ptr 1100 0,CV.d (D.int .i64 n40)]),(1100,[CV.d (D.slice 1 l41),CV.d (D.int .i64 n42)])])∧EndR (CV.d (D.agg [D.int .i64 n6,D.int .i64 n39,D.int .i64 n43,D.int .i64 0,D.int .i64 0,D.int .i64 0,D.str [],D.int .i64 0,D.slice 1 [],D.str [],D.str []])) res [(1000,[CV.ptr 1100 0,CV.d (D.int .i64 n40)]),(1100,[CV.d (D.slice 1 l41),CV.d (D.int .i64 n42)]),(2,[CV.d (D.int .i64 n6),CV.d (D.int .i64 n39),CV.d (D.int .i64 n43),CV.d (D.int .i64 0),CV.d (D.int .i64 0),CV.d (D.int .i64 0),CV.d (D.str []),CV.d (D.int .i64 0),CV.d (D.slice 1 []),CV.d (D.str []),CV.d (D.str [])]),(3,[CV.d (D.int .i64 n6),CV.d (D.int .i64 n39),CV.d (D.int .i64 n43),CV.d (D.int .i64 0),CV.d (D.int .i64 0),CV.d (D.int .i64 0),CV.d (D.str []),CV.d (D.int .i64 0),CV.own 1 [],CV.d (D.str []),CV.d (D.str [])])] objs')))))))))))∧((n6==3) =false→(((n6==4) =true→(∃n44:Int,(∃l45:List D,(∃n46:Int,(∃s47:Bytes,((Runs P 123 [CV.ptr 1000 0,CV.d (D.int .i64 24)] [(1000,[CV.ptr 1100 0,CV.d (D.int .i64 n7)]),(1100,[CV.d (D.slice 1 l8),CV.d (D.int .i64 n9)])] (CV.d (D.str s47)) [(1000,[CV.ptr 1100 0,CV.d (D.int .i64 n44)]),(1100,[CV.d (D.slice 1 l45),CV.d (D.int .i64 n46)])])∧EndR (CV.d (D.agg [D.int .i64 n6,D.int .i64 0,D.int .i64 0,D.int .i64 0,D.int .i64 0,D.int .i64 0,D.str [],D.int .i64 0,D.slice 1 [],D.str [],D.str s47])) res [(1000,[CV.ptr 1100 0,CV.d (D.int .i64 n44)]),(1100,[CV.d (D.slice 1 l45),CV.d (D.int .i64 n46)]),(2,[CV.d (D.int .i64 n6),CV.d (D.int .i64 0),CV.d (D.int .i64 0),CV.d (D.int .i64 0),CV.d (D.int .i64 0),CV.d (D.int .i64 0),CV.d (D.str []),CV.d (D.int .i64 0),CV.d (D.slice 1 []),CV.d (D.str []),CV.d (D.str s47)]),(3,[CV.d (D.int .i64 n6),CV.d (D.int .i64 0),CV.d (D.int .i64 0),CV.d (D.int .i64 0),CV.d (D.int .i64 0),CV.d (D.int .i64 0),CV.d (D.str []),CV.d (D.int .i64 0),CV.own 1 [],CV.d (D.str []),CV.d (D.str s47)])] objs'))))))∧((n6==4) =false→(((n6==5) =true→(∃n48:Int,(∃l49:List D,(∃n50:Int,(∃n51:Int,((Runs P 119 [CV.ptr 1000 0,CV.d (D.int .i64 1000000)] [(1000,[CV.ptr 1100 0,CV.d (D.int .i64 n7)]),(1100,[CV.d (D.slice 1 l8),CV.d (D.int .i64 n9)])] (CV.d (D.int .i64 n51)) [(1000,[CV.ptr 1100 0,CV.d (D.int .i64 n48)]),(1100,[CV.d (D.slice 1 l49),CV.d (D.int .i64 n50)])])∧(∃n52:Int,(∃l53:List D,(∃n54:Int,(∃s55:Bytes,((Runs P 123 [CV.ptr 1000 0,CV.d (D.int .i64 24)] [(1000,[CV.ptr 1100 0,CV.d (D.int .i64 n48)]),(1100,[CV.d (D.slice 1 l49),CV.d (D.int .i64 n50)])] (CV.d (D.str s55)) [(1000,[CV.ptr 1100 0,CV.d (D.int .i64 n52)]),(1100,[CV.d (D.slice 1 l53),CV.d (D.int .i64 n54)])])∧EndR (CV.d (D.agg [D.int .i64 n6,D.int .i64 n51,D.int .i64 0,D.int .i64 0,D.int .i64 0,D.int .i64 0,D.str [],D.int .i64 0,D.slice 1 [],D.str [],D.str s55])) res [(1000,[CV.ptr 1100 0,CV.d (D.int .i64 n52)]),(1100,[CV.d (D.slice 1 l53),CV.d (D.int .i64 n54)]),(2,[CV.d (D.int .i64 n6),CV.d (D.int .i64 n51),CV.d (D.int .i64 0),CV.d (D.int .i64 0),CV.d (D.int .i64 0),CV.d (D.int .i64 0),CV.d (D.str []),CV.d (D.int .i64 0),CV.d (D.slice 1 []),CV.d (D.str []),CV.d (D.str s55)]),(3,[CV.d (D.int .i64 n6),CV.d (D.int .i64 n51),CV.d (D.int .i64 0),CV.d (D.int .i64 0),CV.d (D.int .i64 0),CV.d (D.int .i64 0),CV.d (D.str []),CV.d (D.int .i64 0),CV.own 1 [],CV.d (D.str []),CV.d (D.str s55)])] objs')))))))))))∧((n6==5) =false→(((n6==7) =true→(∃n56:Int,(∃l57:List D,(∃n58:Int,(∃n59:Int,((Runs P 119 [CV.ptr 1000 0,CV.d (D.int .i64 1000000)] [(1000,[CV.ptr 1100 0,CV.d (D.int .i64 n7)]),(1100,[CV.d (D.slice 1 l8),CV.d (D.int .i64 n9)])] (CV.d (D.int .i64 n59)) [(1000,[CV.ptr 1100 0,CV.d (D.int .i64 n56)]),(1100,[CV.d (D.slice 1 l57),CV.d (D.int .i64 n58)])])∧EndR (CV.d (D.agg [D.int .i64 n6,D.int .i64 0,D.int .i64 n59,D.int .i64 0,D.int .i64 0,D.int .i64 0,D.str [],D.int .i64 0,D.slice 1 [],D.str [],D.str []])) res [(1000,[CV.ptr 1100 0,CV.d (D.int .i64 n56)]),(1100,[CV.d (D.slice 1 l57),CV.d (D.int .i64 n58)]),(2,[CV.d (D.int .i64 n6),CV.d (D.int .i64 0),CV.d (D.int .i64 n59),CV.d (D.int .i64 0),CV.d (D.int .i64 0),CV.d (D.int .i64 0),CV.d (D.str []),CV.d (D.int .i64 0),CV.d (D.slice 1 []),CV.d (D.str []),CV.d (D.str [])]),(3,[CV.d (D.int .i64 n6),CV.d (D.int .i64 0),CV.d (D.int .i64 n59),CV.d (D.int .i64 0),CV.d (D.int .i64 0),CV.d (D.int .i64 0),CV.d (D.str []),CV.d (D.int .i64 0),CV.own 1 [],CV.d (D.str []),CV.d (D.str [])])] objs'))))))∧((n6==7) =false→EndR (CV.d (D.agg [D.int .i64 n6,D.int .i64 0,D.int .i64 0,D.int .i64 0,D.int .i64 0,D.int .i64 0,D.str [],D.int .i64 0,D.slice 1 [],D.str [],D.str []])) res [(1000,[CV.ptr 1100 0,CV.d (D.int .i64 n7)]),(1100,[CV.d (D.slice 1 l8),CV.d (D.int .i64 n9)]),(2,[CV.d (D.int .i64 n6),CV.d (D.int .i64 0),CV.d (D.int .i64 0),CV.d (D.int .i64 0),CV.d (D.int .i64 0),CV.d (D.int .i64 0),CV.d (D.str []),CV.d (D.int .i64 0),CV.d (D.slice 1 []),CV.d (D.str []),CV.d (D.str [])]),(3,[CV.d (D.int .i64 n6),CV.d (D.int .i64 0),CV.d (D.int .i64 0),CV.d (D.int .i64 0),CV.d (D.int .i64 0),CV.d (D.int .i64 0),CV.d (D.str []),CV.d (D.int .i64 0),CV.own 1 [],CV.d (D.str []),CV.d (D.str [])])] objs')))))))))∧((n6==3) =false→(((n6==6) =true→(∃n60:Int,(∃l61:List D,(∃n62:Int,(∃n63:Int,((Runs P 119 [CV.ptr 1000 0,CV.d (D.int .i64 1000000)] [(1000,[CV.ptr 1100 0,CV.d (D.int .i64 n7)]),(1100,[CV.d (D.slice 1 l8),CV.d (D.int .i64 n9)])] (CV.d (D.int .i64 n63)) [(1000,[CV.ptr 1100 0,CV.d (D.int .i64 n60)]),(1100,[CV.d (D.slice 1 l61),CV.d (D.int .i64 n62)])])∧(∃n64:Int,(∃l65:List D,(∃n66:Int,(∃n67:Int,((Runs P 119 [CV.ptr 1000 0,CV.d (D.int .i64 1000000)] [(1000,[CV.ptr 1100 0,CV.d (D.int .i64 n60)]),(1100,[CV.d (D.slice 1 l61),CV.d (D.int .i64 n62)])] (CV.d (D.int .i64 n67)) [(1000,[CV.ptr 1100 0,CV.d (D.int .i64 n64)]),(1100,[CV.d (D.slice 1 l65),CV.d (D.int .i64 n66)])])∧EndR (CV.d (D.agg [D.int .i64 n6,D.int .i64 n63,D.int .i64 n67,D.int .i64 0,D.int .i64 0,D.int .i64 0,D.str [],D.int .i64 0,D.slice 1 [],D.str [],D.str []])) res [(1000,[CV.ptr 1100 0,CV.d (D.int .i64 n64)]),(1100,[CV.d (D.slice 1 l65),CV.d (D.int .i64 n66)]),(2,[CV.d (D.int .i64 n6),CV.d (D.int .i64 n63),CV.d (D.int .i64 n67),CV.d (D.int .i64 0),CV.d (D.int .i64 0),CV.d (D.int .i64 0),CV.d (D.str []),CV.d (D.int .i64 0),CV.d (D.slice 1 []),CV.d (D.str []),CV.d (D.str [])]),(3,[CV.d (D.int .i64 n6),CV.d (D.int .i64 n63),CV.d (D.int .i64 n67),CV.d (D.int .i64 0),CV.d (D.int .i64 0),CV.d (D.int .i64 0),CV.d (D.str []),CV.d (D.int .i64 0),CV.own 1 [],CV.d (D.str []),CV.d (D.str [])])] objs')))))))))))∧((n6==6) =false→(((n6==4) =true→(∃n68:Int,(∃l69:List D,(∃n70:Int,(∃s71:Bytes,((Runs P 123 [CV.ptr 1000 0,CV.d (D.int .i64 24)] [(1000,[CV.ptr 1100 0,CV.d (D.int .i64 n7)]),(1100,[CV.d (D.slice 1 l8),CV.d (D.int .i64 n9)])] (CV.d (D.str s71)) [(1000,[CV.ptr 1100 0,CV.d (D.int .i64 n68)]),(1100,[CV.d (D.slice 1 l69),CV.d (D.int .i64 n70)])])∧EndR (CV.d (D.agg [D.int .i64 n6,D.int .i64 0,D.int .i64 0,D.int .i64 0,D.int .i64 0,D.int .i64 0,D.str [],D.int .i64 0,D.slice 1 [],D.str [],D.str s71])) res [(1000,[CV.ptr 1100 0,CV.d (D.int .i64 n68)]),(1100,[CV.d (D.slice 1 l69),CV.d (D.int .i64 n70)]),(2,[CV.d (D.int .i64 n6),CV.d (D.int .i64 0),CV.d (D.int .i64 0),CV.d (D.int .i64 0),CV.d (D.int .i64 0),CV.d (D.int .i64 0),CV.d (D.str []),CV.d (D.int .i64 0),CV.d (D.slice 1 []),CV.d (D.str []),CV.d (D.str s71)]),(3,[CV.d (D.int .i64 n6),CV.d (D.int .i64 0),CV.d (D.int .i64 0),CV.d (D.int .i64 0),CV.d (D.int .i64 0),CV.d (D.int .i64 0),CV.d (D.str []),CV.d (D.int .i64 0),CV.own 1 [],CV.d (D.str []),CV.d (D.str s71)])] objs'))))))∧((n6==4) =false→(((n6==5) =true→(∃n72:Int,(∃l73:List D,(∃n74:Int,(∃n75:Int,((Runs P 119 [CV.ptr 1000 0,CV.d (D.int .i64 1000000)] [(1000,[CV.ptr 1100 0,CV.d (D.int .i64 n7)]),(1100,[CV.d (D.slice 1 l8),CV.d (D.int .i64 n9)])] (CV.d (D.int .i64 n75)) [(1000,[CV.ptr 1100 0,CV.d (D.int .i64 n72)]),(1100,[CV.d (D.slice 1 l73),CV.d (D.int .i64 n74)])])∧(∃n76:Int,(∃l77:List D,(∃n78:Int,(∃s79:Bytes,((Runs P 123 [CV.ptr 1000 0,CV.d (D.int .i64 24)] [(1000,[CV.ptr 1100 0,CV.d (D.int .i64 n72)]),(1100,[CV.d (D.slice 1 l73),CV.d (D.int .i64 n74)])] (CV.d (D.str s79)) [(1000,[CV.ptr 1100 0,CV.d (D.int .i64 n76)]),(1100,[CV.d (D.slice 1 l77),CV.d (D.int .i64 n78)])])∧EndR (CV.d (D.agg [D.int .i64 n6,D.int .i64 n75,D.int .i64 0,D.int .i64 0,D.int .i64 0,D.int .i64 0,D.str [],D.int .i64 0,D.slice 1 [],D.str [],D.str s79])) res [(1000,[CV.ptr 1100 0,CV.d (D.int .i64 n76)]),(1100,[CV.d (D.slice 1 l77),CV.d (D.int .i64 n78)]),(2,[CV.d (D.int .i64 n6),CV.d (D.int .i64 n75),CV.d (D.int .i64 0),CV.d (D.int .i64 0),CV.d (D.int .i64 0),CV.d (D.int .i64 0),CV.d (D.str []),CV.d (D.int .i64 0),CV.d (D.slice 1 []),CV.d (D.str []),CV.d (D.str s79)]),(3,[CV.d (D.int .i64 n6),CV.d (D.int .i64 n75),CV.d (D.int .i64 0),CV.d (D.int .i64 0),CV.d (D.int .i64 0),CV.d (D.int .i64 0),CV.d (D.str []),CV.d (D.int .i64 0),CV.own 1 [],CV.d (D.str []),CV.d (D.str s79)])] objs')))))))))))∧((n6==5) =false→(((n6==7) =true→(∃n80:Int,(∃l81:List D,(∃n82:Int,(∃n83:Int,((Runs P 119 [CV.ptr 1000 0,CV.d (D.int .i64 1000000)] [(1000,[CV.ptr 1100 0,CV.d (D.int .i64 n7)]),(1100,[CV.d (D.slice 1 l8),CV.d (D.int .i64 n9)])] (CV.d (D.int .i64 n83)) [(1000,[CV.ptr 1100 0,CV.d (D.int .i64 n80)]),(1100,[CV.d (D.slice 1 l81),CV.d (D.int .i64 n82)])])∧EndR (CV.d (D.agg [D.int .i64 n6,D.int .i64 0,D.int .i64 n83,D.int .i64 0,D.int .i64 0,D.int .i64 0,D.str [],D.int .i64 0,D.slice 1 [],D.str [],D.str []])) res [(1000,[CV.ptr 1100 0,CV.d (D.int .i64 n80)]),(1100,[CV.d (D.slice 1 l81),CV.d (D.int .i64 n82)]),(2,[CV.d (D.int .i64 n6),CV.d (D.int .i64 0),CV.d (D.int .i64 n83),CV.d (D.int .i64 0),CV.d (D.int .i64 0),CV.d (D.int .i64 0),CV.d (D.str []),CV.d (D.int .i64 0),CV.d (D.slice 1 []),CV.d (D.str []),CV.d (D.str [])]),(3,[CV.d (D.int .i64 n6),CV.d (D.int .i64 0),CV.d (D.int .i64 n83),CV.d (D.int .i64 0),CV.d (D.int .i64 0),CV.d (D.int .i64 0),CV.d (D.str []),CV.d (D.int .i64 0),CV.own 1 [],CV.d (D.str []),CV.d (D.str [])])] objs'))))))∧((n6==7) =false→EndR (CV.d (D.agg [D.int .i64 n6,D.int .i64 0,D.int .i64 0,D.int .i64 0,D.int .i64 0,D.int .i64 0,D.str [],D.int .i64 0,D.slice 1 [],D.str [],D.str []])) res [(1000,[CV.ptr 1100 0,CV.d (D.int .i64 n7)]),(1100,[CV.d (D.slice 1 l8),CV.d (D.int .i64 n9)]),(2,[CV.d (D.int .i64 n6),CV.d (D.int .i64 0),CV.d (D.int .i64 0),CV.d (D.int .i64 0),CV.d (D.int .i64 0),CV.d (D.int .i64 0),CV.d (D.str []),CV.d (D.int .i64 0),CV.d (D.slice 1 []),CV.d (D.str []),CV.d (D.str [])]),(3,[CV.d (D.int .i64 n6),CV.d (D.int .i64 0),CV.d (D.int .i64 0),CV.d (D.int .i64 0),CV.d (D.int .i64 0),CV.d (D.int .i64 0),CV.d (D.str []),CV.d (D.int .i64 0),CV.own 1 [],CV.d (D.str []),CV.d (D.str [])])] objs')))))))))))))))))))))))):=by kernel_rfl
theorem zt39:okF P HZ 39 2=true:=by kernel_rfl
theorem zvc39 (s0:Bytes) (n1:Int) (n2:Int) (n3:Int) (l4:List D) (l5:List D) (n6:Int) (n7:Int) (n8:Int) (s9:Bytes) (n10:Int) (l11:List D) (s12:Bytes) (res:CV) (objs':List (Nat×List CV)) :walkA P (tbF P [118,148,112,163,1000101,7000102,107500054,1072002147,75,117] [] 39) (anOf (afOf P HZ 39) []) (afOf P HZ 39) [CV.d (D.agg [D.str s0,D.int .i64 n1,D.int .i64 n2,D.int .i64 n3,D.slice 1 l4,D.slice 7 l5]),CV.d (D.agg [D.int .i64 n6,D.int .i64 n7,D.int .i64 n8,D.str s9,D.int .i64 n10,D.slice 1 l11,D.str s12])] [] (fun rs=>endE rs res objs') =((∃I13:(List D→(Int→(Nat→Prop))),((∃k14:Nat,I13 [] 0 k14)∧(∀l15:List D,(∀n16:Int,(∀k17:Nat,(I13 l15 n16 k17→(((decide (n16<nI (List.length l11))) =true→((0≤n16∧n16<nI (List.length l11))∧(∃n18:Int,((D.cells (List.getD l11 (Int.toNat n16) D.nilp) = [D.int .i64 n18])∧(∀b19:Bool,((decide (n18≥0) &&decide (n18<nI (List.length l4))) =b19→(((b19) =true→((0≤n18∧n18<nI (List.length l4))∧(∃s20:Bytes,((D.cells (List.getD l4 (Int.toNat n18) D.nilp) = [D.str s20])∧(((List.length l15+List.length [D.str s20]) *16≤140737488355328)∧(∀n21:Int,(Go.IntKind.wrap Go.IntKind.i64 (n16+1) =n21→(∃k22:Nat,((k22<k17)∧I13 (l15++ [D.str s20]) n21 k22)))))))))∧((b19) =false→(∀n23:Int,(Go.IntKind.wrap Go.IntKind.i64 (n16+1) =n23→(∃k24:Nat,((k24<k17)∧I13 l15 n23 k24))))))))))))∧((decide (n16<nI (List.length l11))) =false→EndR (CV.own 1 l15) res [(2,[CV.d (D.str s0),CV.d (D.int .i64 n1),CV.d (D.int .i64 n2),CV.d (D.int .i64 n3),CV.d (D.slice 1 l4),CV.d (D.slice 7 l5)]),(3,[CV.d (D.int .i64 n6),CV.d (D.int .i64 n7),CV.d (D.int .i64 n8),CV.d (D.str s9),CV.d (D.int .i64 n10),CV.d (D.slice 1 l11),CV.d (D.str s12)])] objs'))))))))):=by kernel_rfl
theorem zt37:okF P HZ 37 1=true:=by kernel_rfl
theorem zvc37 (l:List D) (res:CV) (objs':List (Nat×List CV)) :walkA P (tbF P [118,148,112,163,1000101,7000102,107500054,1072002147,75,117] [] 37) (anOf (afOf P HZ 37) [(101100,9,0)]) (afOf P HZ 37) [CV.d (D.slice 1 l)] [] (fun rs=>endE rs res objs') =((∃l1:List D,(∃n2:Int,((Runs P 76 [CV.d (D.slice 1 l)] [] (CV.ptr 9 0) [(9,[CV.d (D.slice 1 l1),CV.d (D.int .i64 n2)])])∧(∃I3:(List D→(List D→(Int→(Int→(Nat→Prop))))),(((CV.ptr (9:Nat) (0:Nat) =CV.ptr (9:Nat) (0:Nat))∧(∃k4:Nat,I3 [] l1 n2 0 k4))∧(∀l5:List D,(∀l6:List D,(∀n7:Int,(∀n8:Int,(∀k9:Nat,(I3 l5 l6 n7 n8 k9→(∃l10:List D,(∃n11:Int,(∃n12:Int,((Runs P 77 [CV.ptr 9 0] [(9,[CV.d (D.slice 1 l6),CV.d (D.int .i64 n7)])] (CV.d (D.int .i64 n12)) [(9,[CV.d (D.slice 1 l10),CV.d (D.int .i64 n11)])])∧(((decide (n12>0)) =true→(((nI (List.length l5) ==200) =true→EndR (CV.tup [CV.own (11:Nat) [],CV.d (D.int .i64 (4:Int))]) res [(9,[CV.d (D.slice 1 l10),CV.d (D.int .i64 n11)]),(11,[CV.ptr 9 0,CV.d (D.int .i64 n8)])] objs')∧((nI (List.length l5) ==200) =false→(∃n13:Int,(∃l14:List D,(∃n15:Int,(∃n16:Int,(∃n17:Int,(∃n18:Int,(∃n19:Int,(∃n20:Int,(∃n21:Int,(∃s22:Bytes,(∃n23:Int,(∃l24:List D,(∃s25:Bytes,(∃s26:Bytes,((Runs P 78 [CV.ptr 11 0] [(11,[CV.ptr 9 0,CV.d (D.int .i64 n8)]),(9,[CV.d (D.slice 1 l10),CV.d (D.int .i64 n11)])] (CV.d (D.agg [D.int .i64 n16,D.int .i64 n17,D.int .i64 n18,D.int .i64 n19,D.int .i64 n20,D.int .i64 n21,D.str s22,D.int .i64 n23,D.slice 1 l24,D.str s25,D.str s26])) [(11,[CV.ptr 9 0,CV.d (D.int .i64 n13)]),(9,[CV.d (D.slice 1 l14),CV.d (D.int .i64 n15)])])∧(∃n27:Int,(∃l28:List D,(∃n29:Int,(∃n30:Int,((Runs P 79 [CV.ptr 11 0] [(11,[CV.ptr 9 0,CV.d (D.int .i64 n13)]),(9,[CV.d (D.slice 1 l14),CV.d (D.int .i64 n15)])] (CV.d (D.int .i64 n30)) [(11,[CV.ptr 9 0,CV.d (D.int .i64 n27)]),(9,[CV.d (D.slice 1 l28),CV.d (D.int .i64 n29)])])∧(((n30 !=0) =true→EndR (CV.tup [CV.own 11 [],CV.d (D.int .i64 n30)]) res [(9,[CV.d (D.slice 1 l28),CV.d (D.int .i64 n29)]),(11,[CV.ptr 9 0,CV.d (D.int .i64 n27)]),(6,[CV.d (D.int .i64 n16),CV.d (D.int .i64 n17),CV.d (D.int .i64 n18),CV.d (D.int .i64 n19),CV.d (D.int .i64 n20),CV.d (D.int .i64 n21),CV.d (D.str s22),CV.d (D.int .i64 n23),CV.d (D.slice 1 l24),CV.d (D.str s25),CV.d (D.str s26)])] objs')∧((n30 !=0) =false→(((List.length l5+List.length [D.agg [D.int .i64 n16,D.int .i64 n17,D.int .i64 n18,D.int .i64 n19,D.int .i64 n20,D.int .i64 n21,D.str s22,D.int .i64 n23,D.slice 1 l24,D.str s25,D.str s26]]) *128≤140737488355328)∧((CV.ptr (9:Nat) (0:Nat) =CV.ptr (9:Nat) (0:Nat))∧(∃k31:Nat,((k31<k9)∧I3 (l5++ [D.agg [D.int .i64 n16,D.int .i64 n17,D.int .i64 n18,D.int .i64 n19,D.int .i64 n20,D.int .i64 n21,D.str s22,D.int .i64 n23,D.slice 1 l24,D.str s25,D.str s26]]) l28 n29 n27 k31)))))))))))))))))))))))))))))∧((decide (n12>0)) =false→EndR (CV.tup [CV.own 11 l5,CV.d (D.int .i64 0)]) res [(9,[CV.d (D.slice 1 l10),CV.d (D.int .i64 n11)]),(11,[CV.ptr 9 0,CV.d (D.int .i64 n8)])] objs')))))))))))))))))):=by kernel_rfl
end B
end Go.Proofs.YtmkkljbfmdngfaaGreatDoor
namespace Go.Proofs.YtmkkljbfmdngfaaGreatDoor
namespace B
open Go.RowKit
theorem endOD {z:Nat} {l m:List D} {bs:List (Nat×List CV)} (h:l=m) :EndR (.own z l) (.d (.slice z m)) bs []:=by
 subst h;exact ⟨rfl,trivial,rfl⟩
theorem endD {x y:D} {bs:List (Nat×List CV)} (h:x=y) :EndR (.d x) (.d y) bs []:=end0 (by rw [h]) rfl
theorem nums_len: ∀l:List Int,(l.flatMap numB).length≤6*l.length
 | []=>by simp
 | n :: r=>by
  have h1:=num_len n
  have h2:=nums_len r
  rw [List.flatMap_cons,List.length_append,List.length_cons];omega
theorem z39 (b:Box) (m:Msg) (hw:b.words.length≤1099511627776) (hk:m.keys.length≤1099511627776) :Runs P 39 [.d b.d, .d m.d] [] (.d (.slice 1 (strs ((m.keys.filter fun k=>decide (0≤k) &&decide (k<(b.words.length:Int))).map fun k=>b.words.getD k.toNat [])))) []:=by
 refine runs_walkZ zt39 (zvc39 b.id b.valid b.next b.high (strs b.words) (b.msgs.map Msg.d) m.uid m.mod m.date m.id m.flags (ints m.keys) m.text _ _) rfl (by simp) ?_
 rw [ints_len,strs_len]
 refine range2 (fun i x=>x=strs (((m.keys.take i).filter fun k=>decide (0≤k) &&decide (k<(b.words.length:Int))).map fun k=>b.words.getD k.toNat [])) (by omega) rfl (fun i hi bd x hJ I k next=>⟨bd,m.keys[i],by rw [ints_get _ hi];rfl, ?_⟩) fun x hJ=> ?_
 ·subst hJ
  have et: ∀c:Bool,(decide (0≤m.keys[i]) &&decide (m.keys[i]<(b.words.length:Int))) =c→((m.keys.take (i+1)).filter fun k=>decide (0≤k) &&decide (k<(b.words.length:Int))) =((m.keys.take i).filter fun k=>decide (0≤k) &&decide (k<(b.words.length:Int))) ++(if c=true then [m.keys[i]] else []):=by
   intro c hc
   rw [List.take_succ_eq_append_getElem hi,List.filter_append,List.filter_cons,List.filter_nil,hc]
  rintro c hc
  have hc':(decide (0≤m.keys[i]) &&decide (m.keys[i]<(b.words.length:Int))) =c:=by rw [←hc]
  have e:=et c hc'
  refine ⟨fun h=> ?_,fun h=>next _ ?_⟩
  ·subst h
   simp only [Bool.and_eq_true,decide_eq_true_eq] at hc'
   have hlen:(((m.keys.take i).filter fun k=>decide (0≤k) &&decide (k<(b.words.length:Int))).map fun k=>b.words.getD k.toNat []).length≤m.keys.length:=by
    rw [List.length_map]
    refine Nat.le_trans (List.length_filter_le _ _) ?_
    rw [List.length_take];omega
   have hlt:m.keys[i].toNat<b.words.length:=by omega
   refine ⟨⟨hc'.1,hc'.2⟩,b.words.getD m.keys[i].toNat [], ?_, ?_,next _ ?_⟩
   ·have:=strs_get b.words hlt
    rw [Int.toNat_natCast] at this
    rw [this]
    simp [D.cells,List.getD_eq_getElem?_getD,hlt]
   ·rw [strs_len];simp only [List.length_cons,List.length_nil];omega
   ·rw [e,if_pos rfl,List.map_append];simp [strs]
  ·subst h
   rw [e,if_neg (by decide),List.append_nil]
 ·subst hJ
  rw [List.take_length]
  exact endOD rfl
end B
end Go.Proofs.YtmkkljbfmdngfaaGreatDoor
namespace Go.Proofs.YtmkkljbfmdngfaaGreatDoor
namespace B
open Go.RowKit
structure Wd where
 s:Bytes
 e:Int
 x:Int
abbrev rdw (w:Wd) :List (Nat×List CV):=[(1000,[CV.ptr 1100 0, .d (iD w.x)]),(1100,rdr w.s w.e)]
theorem endW {c res:CV} {bx:List (Nat×List CV)} {w:Wd} (h:c=res) (h1:bx.lookup 1000=some [CV.ptr 1100 0,CV.d (iD w.x)]) (h2:bx.lookup 1100=some (rdr w.s w.e)) (hc:(⟨[res],rdw w⟩ :St).clo=true) :EndR c res bx (rdw w):=by
 subst h
 exact ⟨Wr_refl c,⟨by rw [h1];exact WcL_refl _,by rw [h2];exact WcL_refl _,trivial⟩,hc⟩
theorem endWO {z:Nat} {l m:List D} {bx:List (Nat×List CV)} {w:Wd} (h:l=m) (h1:bx.lookup 1000=some [CV.ptr 1100 0,CV.d (iD w.x)]) (h2:bx.lookup 1100=some (rdr w.s w.e)) :EndR (.own z l) (.d (.slice z m)) bx (rdw w):=by
 subst h
 exact ⟨rfl,⟨by rw [h1];exact WcL_refl _,by rw [h2];exact WcL_refl _,trivial⟩,rfl⟩
def Wd.fail (w:Wd) :Int:=if w.x=0 then w.e else w.x
theorem z79 (w:Wd) :Runs P 79 [.ptr 1000 0] (rdw w) (.d (iD w.fail)) (rdw w):=by
 refine runs_walkZ zt79 (zvc79 _ _ _ _ _) rfl (by simp) ?_
 unfold Wd.fail
 refine ⟨fun h=> ?_,fun h=> ?_⟩
 ·have h:w.x≠0:=by simpa using h
  rw [if_neg h];exact endW rfl rfl rfl rfl
 ·have h:w.x=0:=by simpa using h
  rw [if_pos h]
  exact ⟨_,_,_,c63 w.s w.e,endW rfl rfl rfl rfl⟩
def Wd.wrong (w:Wd) (b:Bool) :Wd:=⟨w.s,w.e,if b=true∧w.e=0∧w.x=0 then 3 else w.x⟩
theorem z120 (w:Wd) (b:Bool) :Runs P 120 [.ptr 1000 0, .d (.bool b)] (rdw w) (.tup []) (rdw (w.wrong b)):=by
 refine runs_walkZ zt120 (zvc120 _ _ _ _ _ _) rfl (by simp) ?_
 unfold Wd.wrong
 refine ⟨_,fun _=>c63 w.s w.e, ?_⟩
 rintro _ rfl _ rfl
 refine ⟨fun h=> ?_,fun h=> ?_⟩
 ·have h:(b=true∧w.e=0)∧w.x=0:=by simpa using h
  rw [if_pos ⟨h.1.1,h.1.2,h.2⟩];exact endW rfl rfl rfl rfl
 ·have h: ¬(b=true∧w.e=0∧w.x=0):=fun q=>by rw [q.1,q.2.1,q.2.2] at h;cases h
  rw [if_neg h];exact endW rfl rfl rfl rfl
def numR:Rd Int:=fun s=>match numP s with
 | .error e=> .error e
 | .ok (n,k)=> .ok ((n:Int),s.drop k)
theorem z150 (s:Bytes) (e:Int) (hs:s.length≤1099511627776) :Runs P 150 [.ptr 1000 0] [(1000,rdr s e)] (.d (.int .i64 (rd numR 0 s e).1)) [(1000,rdr (rd numR 0 s e).2.1 (rd numR 0 s e).2.2)]:=by
 refine runs_walkZ zt150 (zvc150 _ _ _ _) rfl (by simp) ?_
 refine ⟨_,_,_,r134 s e,fun h=> ?_,fun h=> ?_⟩
 ·have h:e≠0:=by simpa using h
  rw [rd_e _ _ _ h]
  exact endO rfl rfl rfl
 have h:e=0:=by simpa using h
 subst h
 have h135:=r135 s hs
 rw [bs_len]
 cases hN:numP s with
 | error x=>
  rw [hN] at h135
  have hx:=numGo_er 6 0 0 s x hN
  have e1:numR s= .error x:=by unfold numR;rw [hN]
  rw [rd_er _ e1]
  refine ⟨_,_,_,h135,fun _=>⟨_,_,r136 s 0 x,endO rfl rfl rfl⟩,fun h=> ?_⟩
  simp at h;omega
 | ok p=>
  obtain ⟨n,k⟩:=p
  rw [hN] at h135
  obtain ⟨hk1,hk2,hn⟩:=numGo_len 6 0 0 s n k hN
  have e1:numR s= .ok ((n:Int),s.drop k):=by unfold numR;rw [hN]
  rw [rd_ok _ e1]
  refine ⟨_,_,_,h135,fun h=>by simp at h,fun _=>⟨⟨by omega,by simp only [nI];omega,Int.le_refl _⟩, ?_⟩⟩
  rintro _ rfl
  exact endO rfl (by rw [bs_drop,Int.toNat_natCast];rfl) rfl
theorem numR_er (s:Bytes) (x:Int) (h:numR s= .error x) :x≠0:=by
 unfold numR at h;split at h
 ·rename_i e hN
  have:=numGo_er 6 0 0 s e hN
  cases h;omega
 ·cases h
theorem numR_len (s:Bytes) (a:Int) (r:Bytes) (h:numR s= .ok (a,r)) :r.length≤s.length:=by
 unfold numR at h;split at h
 ·cases h
 ·cases h;simp
theorem rd_len {α:Type} (p:Rd α) (x0:α) (hl: ∀s a r,p s= .ok (a,r)→r.length≤s.length) (s:Bytes) (e:Int) :(rd p x0 s e).2.1.length≤s.length:=by
 by_cases he:e=0
 ·subst he
  cases h:p s with
  | ok q=>obtain ⟨a,r⟩:=q;rw [rd_ok x0 h];exact hl s a r h
  | error x=>rw [rd_er x0 h];exact Nat.le_refl _
 ·rw [rd_e p x0 s he];exact Nat.le_refl _
theorem rd_numR (s:Bytes) (e:Int) :0≤(rd numR 0 s e).1∧(rd numR 0 s e).1≤1099511627776:=by
 by_cases he:e=0
 ·subst he
  cases h:numR s with
  | ok q=>
   obtain ⟨a,r⟩:=q
   rw [rd_ok 0 h]
   unfold numR at h;split at h
   ·cases h
   ·rename_i n k hN
    have:=(numGo_len 6 0 0 s n k hN).2.2
    cases h;simp only;omega
  | error x=>rw [rd_er 0 h];simp
 ·rw [rd_e numR 0 s he];simp
def Wd.num (most:Int) (w:Wd) :Int×Wd:=
 if w.x=0 then ((rd numR 0 w.s w.e).1,(⟨(rd numR 0 w.s w.e).2.1,(rd numR 0 w.s w.e).2.2,0⟩ :Wd).wrong (decide ((rd numR 0 w.s w.e).1>most))) else (0,w)
def Wd.text (most:Int) (w:Wd) :Bytes×Wd:=
 if w.x=0 then ((rd (textP most) [] w.s w.e).1,⟨(rd (textP most) [] w.s w.e).2.1,(rd (textP most) [] w.s w.e).2.2,0⟩) else ([],w)
theorem z119 (w:Wd) (most:Int) (hs:w.s.length≤1099511627776) :Runs P 119 [.ptr 1000 0, .d (iD most)] (rdw w) (.d (iD (w.num most).1)) (rdw (w.num most).2):=by
 refine runs_walkZ zt119 (zvc119 _ _ _ _ _ _) rfl (by simp) ?_
 unfold Wd.num
 refine ⟨fun h=> ?_,fun h=> ?_⟩
 ·have h:w.x≠0:=by simpa using h
  rw [if_neg h];exact endW rfl rfl rfl rfl
 ·have h:w.x=0:=by simpa using h
  rw [if_pos h]
  have hr:=Runs.at (xs:=[]) (z150 w.s w.e hs) 1100
  refine ⟨_,_,_,hr,_,_,_, ?_,endW rfl rfl rfl rfl⟩
  have:=z120 ⟨(rd numR 0 w.s w.e).2.1,(rd numR 0 w.s w.e).2.2,0⟩ (decide ((rd numR 0 w.s w.e).1>most))
  rw [h]
  exact this
theorem z123 (w:Wd) (most:Int) (hs:w.s.length≤1099511627776) :Runs P 123 [.ptr 1000 0, .d (iD most)] (rdw w) (.d (.str (w.text most).1)) (rdw (w.text most).2):=by
 refine runs_walkZ zt123 (zvc123 _ _ _ _ _ _) rfl (by simp) ?_
 unfold Wd.text
 refine ⟨fun h=> ?_,fun h=> ?_⟩
 ·have h:w.x≠0:=by simpa using h
  rw [if_neg h];exact endW rfl rfl rfl rfl
 ·have h:w.x=0:=by simpa using h
  rw [if_pos h]
  exact ⟨_,_,_,Runs.at (xs:=[.int .i64 most]) (r110 w.s w.e most hs) 1100,endW rfl (by rw [h];rfl) rfl rfl⟩
def Wd.rep:Nat→Wd→List Int→List Int×Wd
 | 0,w,l=>(l,w)
 | n+1,w,l=>if w.fail≠0 then ([],w) else Wd.rep n (w.num 63).2 (l++ [(w.num 63).1])
def Wd.keys (w:Wd) :List Int×Wd:=Wd.rep (w.num 64).1.toNat (w.num 64).2 []
theorem Wd.num_len (w:Wd) (most:Int) :(w.num most).2.s.length≤w.s.length:=by
 unfold Wd.num
 split
 ·exact rd_len numR 0 numR_len w.s w.e
 ·exact Nat.le_refl _
theorem Wd.text_len (w:Wd) (most:Int) :(w.text most).2.s.length≤w.s.length:=by
 unfold Wd.text
 split
 ·exact rd_len (textP most) [] (fun s a r h=>(textP_len s a r h).1) w.s w.e
 ·exact Nat.le_refl _
theorem Wd.num_nn (w:Wd) (most:Int) :0≤(w.num most).1∧(w.num most).1≤1099511627776:=by
 unfold Wd.num
 split
 ·exact rd_numR w.s w.e
 ·simp
theorem Wd.num_most (w:Wd) (most:Int) (hm:0≤most) (h:(w.num most).2.fail=0) :(w.num most).1≤most:=by
 unfold Wd.num at h⊢
 split
 ·rename_i h0
  rw [if_pos h0] at h
  simp only
  unfold Wd.wrong Wd.fail at h
  simp only at h
  by_cases c:decide ((rd numR 0 w.s w.e).1>most) =true∧(rd numR 0 w.s w.e).2.2=0∧True
  ·rw [if_pos c] at h;simp at h
  ·rw [if_neg c] at h
   simp only [if_true] at h
   have: ¬decide ((rd numR 0 w.s w.e).1>most) =true:=fun q=>c ⟨q,h,trivial⟩
   simp at this;omega
 ·exact hm
theorem z122 (w:Wd) (hs:w.s.length≤1099511627776) :Runs P 122 [.ptr 1000 0] (rdw w) (.d (.slice 1 (ints w.keys.1))) (rdw w.keys.2):=by
 refine runs_walkZ zt122 (zvc122 _ _ _ _ _) rfl (by simp) ?_
 have h64:=w.num_most 64 (by decide)
 obtain ⟨hn0,hn1⟩:=w.num_nn 64
 have hl1:=w.num_len 64
 have hr:=z119 w 64 hs
 unfold Wd.keys
 generalize (w.num 64).1=n at*
 generalize (w.num 64).2=v at*
 obtain ⟨N,rfl⟩ : ∃N:Nat,n=N:=⟨n.toNat,by omega⟩
 rw [Int.toNat_natCast]
 refine ⟨_,_,_,_,hr,fun l i x s e k=>∃(m:Nat) (u:Wd) (q:List Int),l=ints q∧i=m∧m≤N∧k=N-m∧q.length=m∧x=u.x∧s=bs u.s∧e=u.e∧u.s.length≤1099511627776∧(m=0→u=v)∧(m≠0→v.fail=0)∧Wd.rep (N-m) u q=Wd.rep N v [],
  ⟨rfl,_,0,v,[],rfl,rfl,by omega,rfl,rfl,rfl,rfl,rfl,by omega,fun _=>rfl,fun h=>absurd rfl h,rfl⟩, ?_⟩
 rintro _ _ _ _ _ _ ⟨m,u,q,rfl,rfl,hm,rfl,hq,rfl,rfl,rfl,hu,h0,h1,he⟩
 refine ⟨fun h=> ?_,fun h=> ?_⟩
 ·have h:=of_decide_eq_true h
  have e1:N-m=(N-(m+1)) +1:=by omega
  rw [e1,Wd.rep] at he
  refine ⟨_,_,_,_,z79 u,fun hf=> ?_,fun hf=> ?_⟩
  ·have hf:u.fail≠0:=by simpa using hf
   rw [if_pos hf] at he
   rw [←he]
   exact endWO rfl rfl rfl
  ·have hf:u.fail=0:=by simpa using hf
   rw [if_neg (by simpa using hf)] at he
   have hv:v.fail=0:=by
    by_cases hm0:m=0
    ·rw [←h0 hm0];exact hf
    ·exact h1 hm0
   have:=h64 hv
   have hlen:=u.num_len 63
   refine ⟨_,_,_,_,z119 u 63 hu,by rw [ints_len,hq];simp only [List.length_cons,List.length_nil];omega, ?_⟩
   rintro _ rfl
   refine ⟨rfl,N-(m+1),by omega,m+1,(u.num 63).2,q++ [(u.num 63).1],by simp [ints],W64 (by omega) (by omega),by omega,rfl,by simp [hq],rfl,rfl,rfl,by omega,fun h=>absurd h (by omega),fun _=>hv,he⟩
 ·have h:=of_decide_eq_false h
  obtain rfl:m=N:=by omega
  rw [Nat.sub_self,Wd.rep] at he
  rw [←he]
  exact endWO rfl rfl rfl
def Wd.msg (w:Wd) :Msg×Wd:=
 let a:=w.num Mx;let b:=a.2.num Mx;let c:=b.2.num Mx;let d:=c.2.text 24;let f:=d.2.num Mx;let k:=f.2.keys;let t:=k.2.text 300
 (⟨a.1,b.1,c.1,d.1,f.1,k.1,t.1⟩,t.2)
theorem Wd.rep_len: ∀(n:Nat) (w:Wd) (l:List Int),(Wd.rep n w l).2.s.length≤w.s.length
 | 0,w,l=>Nat.le_refl _
 | n+1,w,l=>by
  rw [Wd.rep]
  split
  ·exact Nat.le_refl _
  ·exact Nat.le_trans (Wd.rep_len n _ _) (w.num_len 63)
theorem Wd.keys_len (w:Wd) :w.keys.2.s.length≤w.s.length:=Nat.le_trans (Wd.rep_len _ _ _) (w.num_len 64)
theorem z121 (w:Wd) (hs:w.s.length≤1099511627776) :Runs P 121 [.ptr 1000 0] (rdw w) (.d w.msg.1.d) (rdw w.msg.2):=by
 refine runs_walkZ zt121 (zvc121 _ _ _ _ _) rfl (by simp) ?_
 unfold Wd.msg
 dsimp only
 have l1:=w.num_len Mx
 have l2:=(w.num Mx).2.num_len Mx
 have l3:=((w.num Mx).2.num Mx).2.num_len Mx
 generalize e1:(w.num Mx).2=w1 at*
 generalize e2:(w1.num Mx).2=w2 at*
 generalize e3:(w2.num Mx).2=w3 at*
 have l4:=w3.text_len 24
 generalize e4:(w3.text 24).2=w4 at*
 have l5:=w4.num_len Mx
 generalize e5:(w4.num Mx).2=w5 at*
 have l6:=w5.keys_len
 generalize e6:w5.keys.2=w6 at*
 have l7:=w6.text_len 300
 refine ⟨_,_,_,_,z119 w Mx hs, ?_⟩
 rw [e1]
 refine ⟨_,_,_,_,z119 w1 Mx (by omega), ?_⟩
 rw [e2]
 refine ⟨_,_,_,_,z119 w2 Mx (by omega), ?_⟩
 rw [e3]
 refine ⟨_,_,_,_,z123 w3 24 (by omega), ?_⟩
 rw [e4]
 refine ⟨_,_,_,_,z119 w4 Mx (by omega), ?_⟩
 rw [e5]
 refine ⟨_,_,_,_,z122 w5 (by omega), ?_⟩
 rw [e6]
 exact ⟨_,_,_,_,z123 w6 300 (by omega),endW rfl rfl rfl rfl⟩
end B
end Go.Proofs.YtmkkljbfmdngfaaGreatDoor
namespace Go.Proofs.YtmkkljbfmdngfaaGreatDoor
namespace B
open Go.RowKit
def X3 (w:Wd) :Prop:=w.x=0∨w.x=3
abbrev Wd.off (w:Wd) :Bool:=w.x !=0
abbrev StepW {α:Type} (p:Rd α) (w:Wd) (y:α×Wd) :Prop:=Step p w.s w.e w.off y.1 y.2.s y.2.e y.2.off∧(X3 w→X3 y.2)
theorem numM_R (most:Int) (s:Bytes) :numM most s=match numR s with | .error e=> .error e | .ok (n,r)=>if n>most then .error 3 else .ok (n,r):=by
 unfold numM numR
 cases numP s with
 | error e=>rfl
 | ok q=>rfl
theorem num_step (w:Wd) (most:Int) (hm:0≤most) :StepW (numM most) w (w.num most):=by
 unfold StepW Wd.num
 by_cases hx:w.x=0
 ·rw [if_pos hx]
  have h:=step_rd numR 0 numR_er numR_len w.s w.e false
  unfold Wd.wrong
  have hoff:w.off=false:=by unfold Wd.off;rw [hx];rfl
  rw [hoff]
  generalize rd numR 0 w.s w.e=q at h
  obtain ⟨v,s',e'⟩:=q
  simp only at h⊢
  refine ⟨⟨fun he _=> ?_,fun x hd=> ?_,h.len⟩,fun _=> ?_⟩
  ·rcases h.live he rfl with ⟨a0,r,q1,rfl,rfl,rfl,_⟩ | ⟨x,q1,q2⟩
   ·by_cases hv:v>most
    ·refine .inr ⟨3,by rw [numM_R,q1];dsimp only;rw [if_pos hv], ?_⟩
     rw [if_pos ⟨decide_eq_true hv,rfl,trivial⟩];rfl
    ·refine .inl ⟨v,s',by rw [numM_R,q1];dsimp only;rw [if_neg hv],rfl,rfl,rfl, ?_⟩
     rw [if_neg (fun q=>hv (of_decide_eq_true q.1))];rfl
   ·obtain ⟨rfl,q3⟩:=q2
    refine .inr ⟨e',by rw [numM_R,q1], ?_⟩
    rw [if_neg (fun q=>q3 q.2.1)]
    exact ⟨rfl,q3⟩
  ·obtain ⟨rfl,q3⟩:=h.dead x hd
   rw [if_neg (fun q=>q3 q.2.1)]
   exact ⟨rfl,q3⟩
  ·unfold X3;simp only;split<;>simp
 ·rw [if_neg hx]
  exact ⟨Step.any _ _ _ (by unfold Wd.off;simp [hx]),fun h=>h⟩
theorem text_step (w:Wd) (most:Int) :StepW (textP most) w (w.text most):=by
 unfold StepW Wd.text
 by_cases hx:w.x=0
 ·rw [if_pos hx]
  have hoff:w.off=false:=by unfold Wd.off;rw [hx];rfl
  rw [hoff]
  exact ⟨step_rd (textP most) [] textP_er (fun s a r h=>(textP_len s a r h).1) w.s w.e false,fun _=> .inl rfl⟩
 ·rw [if_neg hx]
  exact ⟨Step.any _ _ _ (by unfold Wd.off;simp [hx]),fun h=>h⟩
theorem StepW.bind {α β:Type} {p:Rd α} {f:α→Rd β} {w:Wd} {y:α×Wd} {z:β×Wd} (h:StepW p w y) (k:StepW (f y.1) y.2 z) :StepW (p.bind f) w z:=⟨h.1.bind k.1,fun q=>k.2 (h.2 q)⟩
theorem StepW.pure {α:Type} (a:α) (w:Wd) :StepW (Rd.pure a) w (a,w):=⟨Step.pure a w.s w.e w.off,fun h=>h⟩
theorem StepW.map {α β:Type} {p:Rd α} {w:Wd} {y:α×Wd} (g:α→β) (h:StepW p w y) :StepW (p.bind fun a=>Rd.pure (g a)) w (g y.1,y.2):=h.bind (StepW.pure _ _)
theorem fail_live (w:Wd) :(w.e=0∧w.off=false)↔w.fail=0:=by
 unfold Wd.fail Wd.off
 split
 ·rename_i h;rw [h];simp
 ·rename_i h;simp [h]
theorem StepW.any {α:Type} (p:Rd α) (a:α) {w:Wd} (h:w.fail≠0) :StepW p w (a,w):=by
 refine ⟨Step.any p a w.s ?_,fun h=>h⟩
 cases e:(!w.off&&w.e==0) with
 | false=>rfl
 | true=>
  simp only [Bool.and_eq_true,Bool.not_eq_true',beq_iff_eq] at e
  exact absurd ((fail_live w).1 ⟨e.2,e.1⟩) h
theorem bind_assoc {α β γ:Type} (p:Rd α) (f:α→Rd β) (g:β→Rd γ) :(p.bind f).bind g=p.bind fun a=>(f a).bind g:=by
 funext s
 simp only [Rd.bind]
 cases p s with
 | error e=>rfl
 | ok q=>rfl
theorem repI_step: ∀(n:Nat) (w:Wd) (l:List Int),StepW ((repI n (numM 63)).bind fun m=>Rd.pure (l++m)) w (Wd.rep n w l)
 | 0,w,l=>by
  rw [Wd.rep]
  have:(repI 0 (numM 63)).bind (fun m=>Rd.pure (l++m)) =Rd.pure l:=by
   funext s;simp [repI,Rd.bind,Rd.pure]
  rw [this]
  exact StepW.pure l w
 | n+1,w,l=>by
  rw [Wd.rep]
  split
  ·rename_i h;exact StepW.any _ _ h
  ·have ih:=repI_step n (w.num 63).2 (l++ [(w.num 63).1])
   have e:(repI (n+1) (numM 63)).bind (fun m=>Rd.pure (l++m)) =(numM 63).bind fun a=>(repI n (numM 63)).bind fun m=>Rd.pure (l++ [a]++m):=by
    rw [repI,bind_assoc]
    congr 1
    funext a
    rw [bind_assoc]
    congr 1
    funext m
    funext s;simp [Rd.bind,Rd.pure]
   rw [e]
   exact (num_step w 63 (by decide)).bind ih
theorem wkeys_step (w:Wd) :StepW keysP w w.keys:=by
 unfold keysP Wd.keys
 refine (num_step w 64 (by decide)).bind ?_
 have:=repI_step (w.num 64).1.toNat (w.num 64).2 []
 have e:(repI (w.num 64).1.toNat (numM 63)).bind (fun m=>Rd.pure ([]++m)) =repI (w.num 64).1.toNat (numM 63):=by
  funext s;simp only [Rd.bind,Rd.pure,List.nil_append]
  cases repI (w.num 64).1.toNat (numM 63) s with
  | error e=>rfl
  | ok q=>rfl
 rwa [e] at this
theorem msg_step (w:Wd) :StepW msgQ w w.msg:=by
 have M:(0:Int)≤Mx:=by decide
 unfold msgQ Wd.msg
 dsimp only
 exact (num_step _ Mx M).bind ((num_step _ Mx M).bind ((num_step _ Mx M).bind ((text_step _ 24).bind ((num_step _ Mx M).bind ((wkeys_step _).bind ((text_step _ 300).map _))))))
def Wd.row (w:Wd) :Row×Wd:=
 let k:=(w.num 7).1
 let v:=(w.num 7).2.wrong (k==0)
 if k=1 then (⟨k,0,0,v.msg.1,[]⟩,v.msg.2)
 else if k=2 then
  let a:=v.num Mx;let b:=a.2.num Mx;let c:=b.2.num Mx;let d:=c.2.keys
  (⟨k,a.1,b.1,{noMsg with flags:=c.1,keys:=d.1},[]⟩,d.2)
 else if k=3∨k=6 then
  let a:=v.num Mx;let b:=a.2.num Mx
  (⟨k,a.1,b.1,noMsg,[]⟩,b.2)
 else if k=4 then (⟨k,0,0,noMsg,(v.text 24).1⟩,(v.text 24).2)
 else if k=5 then
  let a:=v.num Mx;let b:=a.2.text 24
  (⟨k,a.1,0,noMsg,b.1⟩,b.2)
 else if k=7 then (⟨k,0,(v.num Mx).1,noMsg,[]⟩,(v.num Mx).2)
 else (⟨k,0,0,noMsg,[]⟩,v)
theorem wrong_len (w:Wd) (b:Bool) :(w.wrong b).s=w.s:=rfl
theorem z78 (w:Wd) (hs:w.s.length≤1099511627776) :Runs P 78 [.ptr 1000 0] (rdw w) (.d w.row.1.d) (rdw w.row.2):=by
 refine runs_walkZ zt78 (zvc78 _ _ _ _ _) rfl (by simp) ?_
 have hr:=z119 w 7 hs
 have l1:=w.num_len 7
 unfold Wd.row
 dsimp only
 generalize (w.num 7).1=k at*
 generalize (w.num 7).2=u at*
 have hq:=z120 u (k==0)
 have l2:(u.wrong (k==0)).s.length≤1099511627776:=by rw [wrong_len];omega
 generalize u.wrong (k==0) =v at*
 have l3:=v.num_len Mx
 have two: ∀(k:Int),∃n1 l2 n3 n4,(Runs P 119 [.ptr 1000 0, .d (iD 1000000)] (rdw v) (.d (iD n4)) [(1000,[CV.ptr 1100 0, .d (iD n1)]),(1100,[CV.d (.slice 1 l2), .d (iD n3)])])∧∃n5 l6 n7 n8,(Runs P 119 [.ptr 1000 0, .d (iD 1000000)] [(1000,[CV.ptr 1100 0, .d (iD n1)]),(1100,[CV.d (.slice 1 l2), .d (iD n3)])] (.d (iD n8)) [(1000,[CV.ptr 1100 0, .d (iD n5)]),(1100,[CV.d (.slice 1 l6), .d (iD n7)])])∧
   n4=(v.num Mx).1∧n8=((v.num Mx).2.num Mx).1∧n5=((v.num Mx).2.num Mx).2.x∧l6=bs ((v.num Mx).2.num Mx).2.s∧n7=((v.num Mx).2.num Mx).2.e:=fun k=>
  ⟨_,_,_,_,z119 v Mx l2,_,_,_,_,z119 _ Mx (by omega),rfl,rfl,rfl,rfl,rfl⟩
 refine ⟨_,_,_,_,hr,_,_,_,hq,fun k1=> ?_,fun k1=>⟨fun k2=> ?_,fun k2=>⟨fun k3=>⟨fun _=> ?_,fun q=> ?_⟩,fun k3=>⟨fun k6=> ?_,fun k6=>⟨fun k4=> ?_,fun k4=>⟨fun k5=> ?_,fun k5=>⟨fun k7=> ?_,fun k7=> ?_⟩⟩⟩⟩⟩⟩⟩
 ·have k1:k=1:=by simpa using k1
  rw [if_pos k1]
  exact ⟨_,_,_,_,_,_,_,_,_,_,z121 v l2,endW rfl rfl rfl rfl⟩
 ·have k1: ¬k=1:=by simpa using k1
  have k2:k=2:=by simpa using k2
  rw [if_neg k1,if_pos k2]
  have l4:=(v.num Mx).2.num_len Mx
  have l5:=((v.num Mx).2.num Mx).2.num_len Mx
  exact ⟨_,_,_,_,z119 v Mx l2,_,_,_,_,z119 _ Mx (by omega),_,_,_,_,z119 _ Mx (by omega),_,_,_,_,z122 _ (by omega),endW rfl rfl rfl rfl⟩
 ·have k3:k=3:=by simpa using k3
  rw [if_neg (by omega),if_neg (by omega),if_pos (.inl k3)]
  exact ⟨_,_,_,_,z119 v Mx l2,_,_,_,_,z119 _ Mx (by omega),endW rfl rfl rfl rfl⟩
 ·rw [q] at k3;cases k3
 ·have k6:k=6:=by simpa using k6
  rw [if_neg (by omega),if_neg (by omega),if_pos (.inr k6)]
  exact ⟨_,_,_,_,z119 v Mx l2,_,_,_,_,z119 _ Mx (by omega),endW rfl rfl rfl rfl⟩
 ·have k4:k=4:=by simpa using k4
  rw [if_neg (by omega),if_neg (by omega),if_neg (by omega),if_pos k4]
  exact ⟨_,_,_,_,z123 v 24 l2,endW rfl rfl rfl rfl⟩
 ·have k5:k=5:=by simpa using k5
  rw [if_neg (by omega),if_neg (by omega),if_neg (by omega),if_neg (by omega),if_pos k5]
  exact ⟨_,_,_,_,z119 v Mx l2,_,_,_,_,z123 _ 24 (by omega),endW rfl rfl rfl rfl⟩
 ·have k7:k=7:=by simpa using k7
  rw [if_neg (by omega),if_neg (by omega),if_neg (by omega),if_neg (by omega),if_neg (by omega),if_pos k7]
  exact ⟨_,_,_,_,z119 v Mx l2,endW rfl rfl rfl rfl⟩
 ·have k1: ¬k=1:=by simpa using k1
  have k2: ¬k=2:=by simpa using k2
  have k3: ¬k=3:=by simpa using k3
  have k4: ¬k=4:=by simpa using k4
  have k5: ¬k=5:=by simpa using k5
  have k6: ¬k=6:=by simpa using k6
  have k7: ¬k=7:=by simpa using k7
  rw [if_neg k1,if_neg k2,if_neg (by omega),if_neg k4,if_neg k5,if_neg k7]
  exact endW rfl rfl rfl rfl
theorem row_step (w:Wd) :StepW rowP w w.row:=by
 have M:(0:Int)≤Mx:=by decide
 have h7:StepW (numM 7) w ((w.num 7).1,(w.num 7).2):=num_step w 7 (by decide)
 have hnn:=(w.num_nn 7).1
 have hmo:=w.num_most 7 (by decide)
 unfold rowP Wd.row
 dsimp only
 generalize ek:(w.num 7).1=k at*
 generalize eu:(w.num 7).2=u at*
 have key: ∀(z:Row×Wd),(k≠0→StepW (bodyP k) u z)→(k=0→z=(⟨0,0,0,noMsg,[]⟩,u.wrong true))→StepW ((numM 7).bind bodyP) w z:=by
  intro z h1 h2
  have hb:StepW (bodyP k) u z:=by
   by_cases h0:k=0
   ·rw [h2 h0]
    subst h0
    refine ⟨⟨fun he ho=> ?_,fun x hd=> ?_,Nat.le_refl _⟩,fun h=> ?_⟩
    ·refine .inr ⟨3,by unfold bodyP;simp, ?_⟩
     have hx:u.x=0:=by simpa [Wd.off] using ho
     simp [Wd.wrong,Wd.off,he,hx,Dead]
    ·unfold Wd.wrong
     by_cases hx:u.x=0
     ·have hoff:u.off=false:=by unfold Wd.off;rw [hx];rfl
      rw [hoff] at hd
      obtain ⟨rfl,hne⟩:=hd
      simp [Wd.off,hne,hx,Dead]
     ·have hoff:u.off=true:=by unfold Wd.off;simp [hx]
      rw [hoff] at hd
      obtain rfl:x=3:=hd
      simp [Wd.off,hx,Dead]
    ·unfold X3 Wd.wrong at*
     simp only
     split<;>simp_all
   ·exact h1 h0
  have:StepW ((numM 7).bind bodyP) w z:=StepW.bind (y:=(k,u)) h7 hb
  exact this
 refine key _ (fun h0=> ?_) fun h0=> ?_
 ·have hw:u.wrong (k==0) =u:=by
   have:(k==0) =false:=by simpa using h0
   rw [this];unfold Wd.wrong;simp
  rw [hw]
  unfold bodyP
  split
  ·exact (msg_step u).map _
  split
  ·exact (num_step _ Mx M).bind ((num_step _ Mx M).bind ((num_step _ Mx M).bind ((wkeys_step _).map _)))
  split
  ·exact (num_step _ Mx M).bind ((num_step _ Mx M).map _)
  split
  ·exact (text_step _ 24).map _
  split
  ·exact (num_step _ Mx M).bind ((text_step _ 24).map _)
  split
  ·exact (num_step _ Mx M).map _
  ·rename_i k1 k2 k3 k4 k5 k7
   refine StepW.any _ _ fun hf=> ?_
   have:=hmo hf
   omega
 ·subst h0
  simp
end B
end Go.Proofs.YtmkkljbfmdngfaaGreatDoor
namespace Go.Proofs.YtmkkljbfmdngfaaGreatDoor
namespace B
set_option maxRecDepth 100000
end B
end Go.Proofs.YtmkkljbfmdngfaaGreatDoor
namespace Go.Proofs.YtmkkljbfmdngfaaGreatDoor
namespace B
open Go.RowKit
theorem parseR_fuel: ∀(f g n:Nat) (s:Bytes),s.length≤f→s.length≤g→parseR f n s=parseR g n s
 | f,g,n,[],_,_=>by cases f<;>cases g<;>rfl
 | 0,_,_,_ :: _,h,_=>by simp at h
 | _,0,_,_ :: _,_,h=>by simp at h
 | f+1,g+1,n,c :: s,hf,hg=>by
  rw [parseR,parseR]
  split
  ·rfl
  cases e:rowP (c :: s) with
  | error x=>rfl
  | ok q=>
   obtain ⟨x,r⟩:=q
   have hl:=rowP_len e
   rw [List.length_cons] at hl hf hg
   dsimp only
   rw [parseR_fuel f g (n+1) r (by omega) (by omega)]
def preR (out:List Row) :Except Int (List Row)→Except Int (List Row)
 | .ok l=> .ok (out++l)
 | .error e=> .error e
def resR:Except Int (List Row)→Int×List Row
 | .ok l=>(0,l)
 | .error e=>(e,[])
theorem parseR_ok {s:Bytes} {n:Nat} {x:Row} {r:Bytes} (hs:s≠[]) (hn:n<200) (h:rowP s= .ok (x,r)) :parseR s.length n s=preR [x] (parseR r.length (n+1) r):=by
 have hl:=rowP_len h
 cases s with
 | nil=>exact absurd rfl hs
 | cons c s=>
  rw [List.length_cons] at hl⊢
  rw [parseR,if_neg (by omega),h]
  dsimp only
  rw [parseR_fuel s.length r.length (n+1) r (by omega) (Nat.le_refl _)]
  cases parseR r.length (n+1) r<;>rfl
theorem parseR_er {s:Bytes} {n:Nat} {e:Int} (hs:s≠[]) (hn:n<200) (h:rowP s= .error e) :parseR s.length n s= .error e:=by
 cases s with
 | nil=>exact absurd rfl hs
 | cons c s=>rw [List.length_cons,parseR,if_neg (by omega),h]
theorem parseR_full {s:Bytes} (hs:s≠[]) :parseR s.length 200 s= .error 4:=by
 cases s with
 | nil=>exact absurd rfl hs
 | cons c s=>rw [List.length_cons,parseR,if_pos (by omega)]
theorem row_live (u:Bytes) :(∃x r,rowP u= .ok (x,r)∧(Wd.row ⟨u,0,0⟩) =(x,⟨r,0,0⟩))∨(rowP u= .error (Wd.row ⟨u,0,0⟩).2.fail∧(Wd.row ⟨u,0,0⟩).2.fail≠0):=by
 obtain ⟨h1,h2⟩:=row_step ⟨u,0,0⟩
 have hx:=h2 (.inl rfl)
 generalize Wd.row ⟨u,0,0⟩ =q at h1 hx
 obtain ⟨x,s',e',x'⟩:=q
 rcases h1.live rfl rfl with ⟨a0,r,q1,q2,q3,q4,q5⟩ | ⟨y,q1,q2⟩
 ·left
  simp only at q2 q3 q4
  have:x'=0:=by simpa [Wd.off] using q5
  subst this q2 q3 q4
  exact ⟨_,_,q1,rfl⟩
 ·right
  unfold Wd.fail
  simp only [Wd.off] at q2⊢
  rcases hx with rfl | rfl
  ·obtain ⟨rfl,q3⟩:=q2
   exact ⟨by rw [if_pos rfl];exact q1,by rw [if_pos rfl];exact q3⟩
  ·have q2:y=3:=q2
   subst q2
   exact ⟨by rw [if_neg (by decide)];exact q1,by rw [if_neg (by decide)];decide⟩
theorem z37 (s:Bytes) (hs:s.length≤1099511627776) :Runs P 37 [.d (.slice 1 (bs s))] [] (.tup [.d (.slice 11 ((resR (rowsB s)).2.map Row.d)), .d (iD (resR (rowsB s)).1)]) []:=by
 refine runs_walkZ zt37 (zvc37 _ _ _) rfl (by simp) ?_
 have h61:=(r61 s hs).swap 6 9
 have h64:=fun u=>(r64 u 0).swap 1000 9
 have h78:=fun (u:Bytes) (hu:u.length≤1099511627776)=>((z78 ⟨u,0,0⟩ hu).swap 1000 11).swap 1100 9
 have h79:=fun w=>((z79 w).swap 1000 11).swap 1100 9
 simp [CV.ren,CV.ren1,renB,swp] at h61 h64 h78 h79
 refine ⟨_,_,h61,fun o u e x k=>∃(out:List Row) (v:Bytes),o=out.map Row.d∧u=bs v∧e=0∧x=0∧k=v.length∧v.length≤s.length∧out.length≤200∧rowsB s=preR out (parseR v.length out.length v),
  ⟨rfl,_,[],s,rfl,rfl,rfl,rfl,rfl,Nat.le_refl _,by decide,by unfold rowsB;cases parseR s.length 0 s<;>rfl⟩, ?_⟩
 rintro _ _ _ _ _ ⟨out,v,rfl,rfl,rfl,rfl,rfl,hv,ho,he⟩
 refine ⟨_,_,_,h64 v,fun h=>⟨fun h2=> ?_,fun h2=> ?_⟩,fun h=> ?_⟩
 ·have h:=of_decide_eq_true h
  have h2:out.length=200:=by rw [nI_map] at h2;simp only [nI,beq_iff_eq] at h2;omega
  rw [h2,parseR_full (by rintro rfl;simp at h)] at he
  rw [he]
  exact endTO rfl
 ·have h:=of_decide_eq_true h
  have h2: ¬out.length=200:=fun q=>by rw [nI_map,q] at h2;simp [nI] at h2
  have hne:v≠[]:=by rintro rfl;simp at h
  have hr:=h78 v (by omega)
  refine ⟨_,_,_,_,_,_,_,_,_,_,_,_,_,_,hr,_,_,_,_,h79 _,fun hf=> ?_,fun hf=>⟨by rw [List.length_map];simp only [List.length_cons,List.length_nil];omega,rfl, ?_⟩⟩
  ·rcases row_live v with ⟨x,r,q1,q2⟩ | ⟨q1,q2⟩
   ·rw [q2] at hf;simp [Wd.fail] at hf
   ·rw [parseR_er hne (by omega) q1] at he
    rw [he]
    exact endTO rfl
  ·rcases row_live v with ⟨x,r,q1,q2⟩ | ⟨q1,q2⟩
   ·have hl:=rowP_len q1
    rw [parseR_ok hne (by omega) q1] at he
    rw [q2]
    refine ⟨r.length,hl,out++ [x],r,by rw [List.map_append];rfl,rfl,rfl,rfl,rfl,by omega,by simp;omega, ?_⟩
    rw [he,List.length_append]
    cases parseR r.length (out.length+1) r<;>simp [preR]
   ·exact absurd (by simpa using hf) q2
 ·have h:=of_decide_eq_false h
  have hv0:v= []:=by
   cases v with
   | nil=>rfl
   | cons _ _=>simp at h
  subst hv0
  have e0:parseR ([]:Bytes).length out.length []= .ok []:=rfl
  rw [e0] at he
  rw [he]
  exact endTO (by simp [preR,resR])
end B
end Go.Proofs.YtmkkljbfmdngfaaGreatDoor
namespace Go.Proofs.YtmkkljbfmdngfaaGreatDoor
namespace B
open Go.RowKit
end B
end Go.Proofs.YtmkkljbfmdngfaaGreatDoor
