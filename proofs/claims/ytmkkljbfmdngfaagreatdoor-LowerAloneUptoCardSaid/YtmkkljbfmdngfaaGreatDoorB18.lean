/- The abstract machine without its bounds on slots: for walks. No condition. -/
import Derived.Test.YtmkkljbfmdngfaaGreatDoorB17
set_option linter.all false
namespace Go.Proofs.YtmkkljbfmdngfaaGreatDoor
namespace B
def PM.w0:PM→(St→Prop)→St→Prop
 | .done,Q,st=>Q st
 | .kill b k,Q,st=>mvb b=true∧k.w0 Q (st.kill b)
 | .get p k,Q,st=>(k (st.get p)).w0 Q st
 | .set p v k,Q,st=>k.w0 Q (st.set p v)
 | .ex β k,Q,st=>∃x:β,(k x).w0 Q st
 | .req c k,Q,st=>c∧k.w0 Q st
 | .all k,Q,st=>∀x:Bool,(k x).w0 Q st
 | .fail,_,_=>False
def PM.lower (N:Nat) :PM→Prop
 | .done=>True
 | .kill _ k=>k.lower N
 | .get _ k=>∀v,(k v).lower N
 | .set p _ k=>(match p with | .s n=>n<N | .b _=>True)∧k.lower N
 | .ex _ k=>∀x,(k x).lower N
 | .req c k=>c→k.lower N
 | .all k=>∀x,(k x).lower N
 | .fail=>True
theorem w0_wp {N:Nat} {Q:St→Prop}: ∀(m:PM) (st:St),m.lower N→st.s.length=N→m.w0 Q st→m.wp (fun st'=>Q st'∧st'.s.length=N) st
 | .done,st,_,hl,h=>⟨h,hl⟩
 | .kill b k,st,hb,hl,h=>⟨h.1,w0_wp k (st.kill b) hb (by simp [St.kill,hl]) h.2⟩
 | .get p k,st,hb,hl,h=>w0_wp (k (st.get p)) st (hb _) hl h
 | .set p v k,st,hb,hl,h=>by
  refine ⟨?_,w0_wp k (st.set p v) hb.2 (by rw [set_len,hl]) h⟩
  cases p with
  | s n=>have:=hb.1;simp only at this;simp [Place.ok,hl,this]
  | b n=>rfl
 | .ex _ k,st,hb,hl,⟨x,h⟩=>⟨x,w0_wp (k x) st (hb x) hl h⟩
 | .req _ k,st,hb,hl,⟨hc,h⟩=>⟨hc,w0_wp k st (hb hc) hl h⟩
 | .all k,st,hb,hl,h=>fun x=>w0_wp (k x) st (hb x) hl (h x)
 | .fail,_,_,_,h=>h.elim
theorem lower_of_within {R:Place→Prop} {N:Nat} {W:Place→Prop} (hW: ∀n,W (.s n)→n<N) : ∀m:PM,m.within R W→m.lower N
 | .done,_=>trivial
 | .kill _ k,h=>lower_of_within hW k h.2
 | .get _ k,h=>fun v=>lower_of_within hW (k v) (h.2 v)
 | .set p _ k,h=>⟨by cases p with
  | s n=>exact hW n h.1
  | b n=>trivial,lower_of_within hW k h.2⟩
 | .ex _ k,h=>fun x=>lower_of_within hW (k x) (h x)
 | .req _ k,h=>fun c=>lower_of_within hW k (h c)
 | .all _,h=>h.elim
 | .fail,_=>trivial
theorem frzK_lower {N b:Nat} {k:PM} (h:k.lower N) :(frzK b k).lower N:=by
 intro v
 dsimp only
 split
 ·split
  ·intro r
   dsimp only
   split
   ·exact fun _=>⟨trivial,trivial,h⟩
   ·trivial
  ·exact h
 ·trivial
theorem newB_lower {N d:Nat} {c:CV} {k:PM} (h:k.lower N) :(newB d c k).lower N:=by
 intro v
 dsimp only
 split
 ·exact ⟨trivial,h⟩
 ·exact ⟨trivial,h⟩
def AOp.bnd (N:Nat) (o:AOp) :Bool:=o.wr.all fun n=>decide (n<N)
theorem AOp.lower {C:CallRel} {okr okw:Nat→Bool} {N:Nat} {o:AOp} (h:o.bnd N=true) :(o.pm C okr okw).lower N:=by
 have hw: ∀n,n∈o.wr→n<N:=fun n hn=>by simpa using List.all_eq_true.1 h n hn
 by_cases hn:o.i.noAll=true
 ·refine lower_of_within (R:=RP o.rd okr o.dst) (W:=WP o.wr okw o.dst) (fun n hW=> ?_) _ (AOp.within C okr okw o hn)
  rcases hW with hW | hW
  ·exact hw n hW
  ·exact hw n (by simp [AOp.wr,hW])
 ·have hd: ∀(d:Option Nat) (v:CV),o.dst=d→(setD d v).lower N:=fun d v e=>by
   cases d with
   | none=>trivial
   | some d=>exact ⟨hw d (by simp [AOp.wr,e]),trivial⟩
  have hn2: ∀(d:Nat) (c v:CV),o.dst=some d→(newR d c v).lower N:=fun d c v e=>by
   have hdN:d<N:=hw d (by simp [AOp.wr,e])
   intro u
   dsimp only
   split
   ·exact ⟨trivial,hdN,trivial⟩
   ·exact ⟨trivial,hdN,trivial⟩
  have hx: ∀(x:AX) (k:CV→PM),(∀v,(k v).lower N)→(x.ev k).lower N:=fun x k hk=>by
   cases x with
   | t n=>exact hk
   | c v=>exact hk v
  obtain ⟨dst,i,g⟩:=o
  have fin:(i.pm C okr okw dst).lower N→(AOp.pm C okr okw ⟨dst,i,g⟩).lower N:=fun key=>by
   unfold AOp.pm
   split
   ·exact key
   ·intro v
    dsimp only
    split
    ·split
     ·exact key
     ·exact hd _ _ rfl
    ·trivial
  apply fin
  cases i with
  | slNil ng x=>
   refine hx x _ fun v=> ?_
   split
   ·exact fun b=>hd _ _ rfl
   ·exact fun b=>hd _ _ rfl
   ·exact hd _ _ rfl
   ·exact hd _ _ rfl
   ·exact fun b=>hd _ _ rfl
   ·trivial
  | rowN sz=>
   simp only [AI.pm]
   split
   ·exact hn2 _ _ _ rfl
   ·trivial
  | row0 sz x=>
   refine hx x _ fun v=> ?_
   split
   ·split
    ·exact hn2 _ _ _ rfl
    ·trivial
   ·split
    ·split
     ·exact hn2 _ _ _ rfl
     ·trivial
    ·trivial
  | rowB x=>
   simp only [AI.pm]
   split
   ·refine hx x _ fun v=> ?_
    split
    ·exact fun _=>hn2 _ _ _ rfl
    ·trivial
   ·trivial
  | appR sz by_ s x=>
   refine hx s _ fun v=>hx x _ fun u=> ?_
   split
   ·intro b
    dsimp only
    split
    ·exact fun _=>⟨trivial,hd _ _ rfl⟩
    ·trivial
   ·trivial
  | rowNK b sz=>exact newB_lower (hd _ _ rfl)
  | appO sz by_ s x=>
   refine hx s _ fun v=>hx x _ fun u=> ?_
   split
   ·intro b
    dsimp only
    split
    ·exact fun _ g=>⟨trivial,hd _ _ rfl⟩
    ·trivial
   ·trivial
  | rowS d sz x=>
   refine hx x _ fun p=> ?_
   split
   ·split
    ·refine newB_lower fun v=> ?_
     dsimp only
     split
     ·exact fun _=>⟨trivial,trivial⟩
     ·trivial
    ·trivial
   ·trivial
  | movT x=>
   refine hx x _ fun v=> ?_
   split
   ·cases x with
    | t n=>exact ⟨hw n (by simp [AOp.wr,AI.strips,AX.sl]),hd _ _ rfl⟩
    | c v=>exact hd _ _ rfl
   ·trivial
  | frzM x=>
   refine hx x _ fun v=> ?_
   split
   ·intro r
    dsimp only
    split
    ·exact fun _=>⟨trivial,hd _ _ rfl⟩
    ·trivial
   ·trivial
  | loadF n x=>
   refine hx x _ fun p=> ?_
   split
   ·split
    ·refine frzK_lower (frzK_lower fun v=> ?_)
     dsimp only
     split
     ·exact fun _=>hd _ _ rfl
     ·trivial
    ·trivial
   ·trivial
  | _=>simp [AI.noAll] at hn
def AOp.w0 (C:CallRel) (okr okw:Nat→Bool) (o:AOp) (K:St→Prop) (st:St) :Prop:=match o.g with
 | none=>(o.i.pm C okr okw o.dst).w0 K st
 | some (g,want)=>match guardOf (st.get (.s g)) with
  | some r=>if (r==some want) =true then (o.i.pm C okr okw o.dst).w0 K st else (setD o.dst undefC).w0 K st
  | none=>False
theorem AOp.w0_pm {C:CallRel} {okr okw:Nat→Bool} {o:AOp} {K:St→Prop} {st:St} (h:o.w0 C okr okw K st) :(o.pm C okr okw).w0 K st:=by
 unfold AOp.w0 at h
 unfold AOp.pm
 split
 ·rename_i hg;simpa only [hg] using h
 ·rename_i g want hg
  simp only [hg] at h
  show PM.w0 (match guardOf (st.get (.s g)) with | some r=>_ | none=>_) K st
  split at h
  ·rename_i r hr
   split at h
   ·rename_i e;rw [if_pos e];exact h
   ·rename_i e;rw [if_neg e];exact h
  ·exact h.elim
def okT:Nat→Bool:=fun _=>true
def opsW0 (C:CallRel) :List AOp→(St→Prop)→St→Prop
 | [],K,st=>K st
 | o :: r,K,st=>o.w0 C okT okT (opsW0 C r K) st
def drawW0 (C:CallRel) (M A:List Nat) :List AOp→List Nat→(St→Prop)→St→Prop
 | [],_,K,st=>K st
 | o :: r,cls,K,st=>o.w0 C (okrOf M A (cls.headD 0)) (okwOf M A (cls.headD 0)) (drawW0 C M A r cls.tail K) st
def aw (C:CallRel) (X:List Nat) :AC→(AExit→St→Prop)→St→Prop
 | .skip,Q,st=>Q .normal st
 | .ops l,Q,st=>opsW0 C l (Q .normal) st
 | .draw l cls M,Q,st=>drawW0 C M (dsts M l) l cls (Q .normal) st
 | .seq a b,Q,st=>aw C X a (thenQ (aw C X b Q) Q) st
 | .cond c a b,Q,st=>match c.val st with
  | .d (.bool t)=>if t=true then aw C X a Q st else aw C X b Q st
  | _=>False
 | .block id a,Q,st=>aw C X a (inBlk id Q) st
 | .loop a,Q,st=>∃I:St→Nat→Prop,(∃st1 n,Wk X st st1∧I st1 n)∧∀st n,I st n→aw C X a (thenQ (fun st'=>∃st1 m,m<n∧Wk X st' st1∧I st1 m) Q) st
 | .exit id,Q,st=>Q (.exit id) st
 | .ret,Q,st=>Q .ret st
def AC.bnd (N:Nat) :AC→Bool
 | .skip=>true
 | .ops l=>l.all (AOp.bnd N)
 | .draw l _ _=>l.all (AOp.bnd N)
 | .seq a b=>a.bnd N&&b.bnd N
 | .cond _ a b=>a.bnd N&&b.bnd N
 | .block _ a=>a.bnd N
 | .loop a=>a.bnd N
 | .exit _=>true
 | .ret=>true
theorem opsW0_wp {C:CallRel} {N:Nat} {K:St→Prop}: ∀(l:List AOp) (st:St),(l.all (AOp.bnd N)) =true→st.s.length=N→opsW0 C l K st→opsWp C l (fun st'=>K st'∧st'.s.length=N) st
 | [],st,_,hl,h=>⟨h,hl⟩
 | o :: r,st,hb,hl,h=>by
  simp only [List.all_cons,Bool.and_eq_true] at hb
  exact PM.wp_mono (fun st' h'=>opsW0_wp r st' hb.2 h'.2 h'.1) _ _ (w0_wp _ st (AOp.lower hb.1) hl (AOp.w0_pm h))
theorem drawW0_wp {C:CallRel} {M A:List Nat} {N:Nat} {K:St→Prop}: ∀(l:List AOp) (cls:List Nat) (st:St),(l.all (AOp.bnd N)) =true→st.s.length=N→drawW0 C M A l cls K st→drawWp C M A l cls (fun st'=>K st'∧st'.s.length=N) st
 | [],_,st,_,hl,h=>⟨h,hl⟩
 | o :: r,cls,st,hb,hl,h=>by
  simp only [List.all_cons,Bool.and_eq_true] at hb
  exact PM.wp_mono (fun st' h'=>drawW0_wp r cls.tail st' hb.2 h'.2 h'.1) _ _ (w0_wp _ st (AOp.lower hb.1) hl (AOp.w0_pm h))
theorem awp_mono {C:CallRel} {X:List Nat}: ∀{a:AC} {Q Q':AExit→St→Prop} {st:St},(∀e st,Q e st→Q' e st)→awp C X a Q st→awp C X a Q' st:=by
 intro a
 induction a with
 | skip=>intro Q Q' st h hh;exact h _ _ hh
 | ops l=>
  intro Q Q' st h hh
  induction l generalizing st with
  | nil=>exact h _ _ hh
  | cons o r ih=>exact PM.wp_mono (fun st' h'=>ih h') _ _ hh
 | draw l cls M=>
  intro Q Q' st h hh
  simp only [awp] at hh⊢
  generalize dsts M l=A at*
  induction l generalizing st cls with
  | nil=>exact h _ _ hh
  | cons o r ih=>exact PM.wp_mono (fun st' h'=>ih cls.tail h') _ _ hh
 | seq a b iha ihb=>
  intro Q Q' st h hh
  refine iha (fun e st' he=> ?_) hh
  cases e with
  | normal=>exact ihb h he
  | exit id=>exact h _ _ he
  | ret=>exact h _ _ he
 | cond c a b iha ihb=>
  intro Q Q' st h hh
  simp only [awp] at hh⊢
  split at hh
  ·split at hh
   ·rename_i e;rw [if_pos e];exact iha h hh
   ·rename_i e;rw [if_neg e];exact ihb h hh
  ·exact hh.elim
 | block id a iha=>
  intro Q Q' st h hh
  refine iha (fun e st' he=> ?_) hh
  cases e with
  | normal=>exact h _ _ he
  | exit k=>
   simp only [inBlk] at he⊢
   split at he
   ·rename_i e;rw [if_pos e];exact h _ _ he
   ·rename_i e;rw [if_neg e];exact h _ _ he
  | ret=>exact h _ _ he
 | loop a iha=>
  intro Q Q' st h hh
  obtain ⟨I,h0,hI⟩:=hh
  refine ⟨I,h0,fun st n hn=>iha (fun e st' he=> ?_) (hI st n hn)⟩
  cases e with
  | normal=>exact he
  | exit id=>exact h _ _ he
  | ret=>exact h _ _ he
 | exit id=>intro Q Q' st h hh;exact h _ _ hh
 | ret=>intro Q Q' st h hh;exact h _ _ hh
theorem aw_awp {C:CallRel} {X:List Nat} {N:Nat}: ∀{a:AC} {Q:AExit→St→Prop} {st:St},a.bnd N=true→st.s.length=N→aw C X a Q st→awp C X a (fun e st'=>Q e st'∧st'.s.length=N) st:=by
 intro a
 induction a with
 | skip=>intro Q st _ hl h;exact ⟨h,hl⟩
 | ops l=>intro Q st hb hl h;exact opsW0_wp l st hb hl h
 | draw l cls M=>intro Q st hb hl h;exact drawW0_wp l cls st hb hl h
 | seq a b iha ihb=>
  intro Q st hb hl h
  simp only [AC.bnd,Bool.and_eq_true] at hb
  show awp C X a (thenQ (awp C X b _) _) st
  refine awp_mono (fun e st' he=> ?_) (iha hb.1 hl h)
  cases e with
  | normal=>exact ihb hb.2 he.2 he.1
  | exit id=>exact he
  | ret=>exact he
 | cond c a b iha ihb=>
  intro Q st hb hl h
  simp only [AC.bnd,Bool.and_eq_true] at hb
  simp only [aw] at h
  simp only [awp]
  split at h
  ·rename_i t ht
   rw [ht]
   simp only [boolOf]
   split at h
   ·rename_i e;rw [if_pos e];exact iha hb.1 hl h
   ·rename_i e;rw [if_neg e];exact ihb hb.2 hl h
  ·exact h.elim
 | block id a iha=>
  intro Q st hb hl h
  show awp C X a (inBlk id _) st
  refine awp_mono (fun e st' he=> ?_) (iha hb hl h)
  cases e with
  | normal=>exact he
  | exit k=>
   simp only [inBlk] at he⊢
   split at he
   ·rename_i e;rw [if_pos e];exact he
   ·rename_i e;rw [if_neg e];exact he
  | ret=>exact he
 | loop a iha=>
  intro Q st hb hl h
  obtain ⟨I,⟨st1,n,hw,hI⟩,hr⟩:=h
  refine ⟨fun st n=>I st n∧st.s.length=N,⟨st1,n,hw,hI,by rw [←WcL_len hw.1,hl]⟩,fun st n hn=>awp_mono (fun e st' he=> ?_) (iha hb hn.2 (hr st n hn.1))⟩
  cases e with
  | normal=>
   obtain ⟨⟨st2,m,hm,hw2,hI2⟩,hl2⟩:=he
   exact ⟨st2,m,hm,hw2,hI2,by rw [←WcL_len hw2.1,hl2]⟩
  | exit id=>exact he
  | ret=>exact he
 | exit id=>intro Q st _ hl h;exact ⟨h,hl⟩
 | ret=>intro Q st _ hl h;exact ⟨h,hl⟩
variable {P:Program}
theorem runs0 {f:Nat} {H:Hint} {af:AF} {args:List CV} {objs objs':List (Nat×List CV)} {res:CV} (hf:trF P H f=some af) (hb:(af.ac.bnd af.n&&decide (af.np≤af.n) &&(args.length==af.np)) =true) (hobj:(objs.map (·.1)).Nodup∧((objs.map (·.1)).all fun b=>decide (1000≤b) &&(decide (b<5000) ||mvF f)) =true)
  (h:aw (Runs P) (objs.map (·.1)) af.ac (retQ af.rs res objs') ⟨args++List.replicate (af.n-args.length) .junk,objs⟩) :Runs P f args objs res objs':=by
 simp only [Bool.and_eq_true,decide_eq_true_eq,beq_iff_eq] at hb
 exact runs_of hf hobj (awp_mono (fun e st he=>he.1) (aw_awp hb.1.1 (by simp;omega) h))
end B
end Go.Proofs.YtmkkljbfmdngfaaGreatDoor
namespace Go.Proofs.YtmkkljbfmdngfaaGreatDoor
namespace B
variable {P:Program}
def nameV (v:CV) (K:CV→Prop) :Prop:=match v with
 | .d (.int k e)=>∀n:Int,e=n→K (.d (.int k n))
 | .d (.str e)=>∀s:Bytes,e=s→K (.d (.str s))
 | .d (.slice z e)=>∀l:List D,e=l→K (.d (.slice z l))
 | v=>K v
def nameB (v:CV) (K:CV→Prop) :Prop:=match v with
 | .d (.bool e)=>∀b:Bool,e=b→K (.d (.bool b))
 | v=>K v
def nameK (i:AI) (v:CV) (K:CV→Prop) :Prop:=match i with
 | .bin _ _ _ _=>nameV v K
 | .mm _ _ _=>nameV v K
 | .mm3 _ _ _=>nameV v K
 | .convInt _ _=>nameV v K
 | .neg _=>nameV v K
 | .slice _ _ _ _=>nameV v K
 | .sliceS _ _ _=>nameV v K
 | .pick _ _ _=>nameB v K
 | _=>K v
theorem nameV_spec {v:CV} {K:CV→Prop} (h:nameV v K) :K v:=by
 unfold nameV at h
 split at h
 ·exact h _ rfl
 ·exact h _ rfl
 ·exact h _ rfl
 ·exact h
theorem nameK_spec {i:AI} {v:CV} {K:CV→Prop} (h:nameK i v K) :K v:=by
 unfold nameK at h
 split at h<;>first | exact nameV_spec h | exact h | skip
 unfold nameB at h
 split at h
 ·exact h _ rfl
 ·exact h
def mmI:Bool→Int→Int→Int
 | true,m,n=>max m n
 | false,m,n=>min m n
theorem mmI_eq (b:Bool) (m n:Int) :mmI b m n=if b then (if n>m then n else m) else (if n<m then n else m):=by
 cases b
 ·simp only [mmI,Bool.false_eq_true,if_false];omega
 ·simp only [mmI,if_true];omega
inductive Sh where
 | int (k:IntKind)
 | bool
 | str
 | slice (sz:Nat)
 | own (sz:Nat)
 | nilp
 | any
 | line
 | bld (e:Nat)
 | arr (sz:Nat)
 | rs (sz k:Nat)
 | rso (sz k:Nat)
 | fn
def exD:List Sh→(List D→Prop)→Prop
 | [],K=>K []
 | .int k :: r,K=>∃n:Int,exD r fun ds=>K (.int k n :: ds)
 | .bool :: r,K=>∃b:Bool,exD r fun ds=>K (.bool b :: ds)
 | .str :: r,K=>∃s:Bytes,exD r fun ds=>K (.str s :: ds)
 | .slice z :: r,K=>∃l:List D,exD r fun ds=>K (.slice z l :: ds)
 | .own z :: r,K=>∃l:List D,exD r fun ds=>K (.slice z l :: ds)
 | .nilp :: r,K=>exD r fun ds=>K (.nilp :: ds)
 | .any :: r,K=>∃d:D,exD r fun ds=>K (d :: ds)
 | .line :: _,_=>False
 | .bld _ :: _,_=>False
 | .arr _ :: _,_=>False
 | .rs _ _ :: _,_=>False
 | .rso _ _ :: _,_=>False
 | .fn :: r,K=>∃o:Option Nat,exD r fun ds=>K (.fn o :: ds)
theorem exD_ex {l:List Sh}: ∀{K:List D→Prop},exD l K→∃ds,K ds:=by
 induction l with
 | nil=>exact fun h=>⟨_,h⟩
 | cons s r ih=>
  intro K h
  cases s<;>first
   | (obtain ⟨_,h⟩:=h;obtain ⟨_,h⟩:=ih h;exact ⟨_,h⟩)
   | (obtain ⟨_,h⟩:=ih h;exact ⟨_,h⟩)
   | exact h.elim
abbrev Path:=List (Nat×Bool)
inductive EC where
 | v (x:CV)
 | cnd (p:Path) (c:Bool) (x:CV)
def EC.den:EC→CV
 | .v x=>x
 | .cnd _ c x=>if c=true then x else undefC
structure ES where
 s:List EC
 b:List (Nat×List CV)
 w:List Nat
 wb:List Nat
def ES.den (es:ES) :St:=⟨es.s.map EC.den,es.b⟩
def ES.at (es:ES) (n:Nat) :EC:=es.s.getD n (.v .junk)
def EC.rd (p:Path) :EC→CV
 | .v x=>x
 | .cnd p' c x=>if p'.isPrefixOf p=true then x else (if c=true then x else undefC)
def ES.rd (es:ES) (p:Path) :AX→CV
 | .c v=>v
 | .t n=>(es.at n).rd p
theorem ES.den_get (es:ES) (n:Nat) :es.den.get (.s n) =(es.at n).den:=by
 simp only [ES.den,ES.at,St.get,List.getD_eq_getElem?_getD,List.getElem?_map]
 cases es.s[n]? <;>rfl
def orV (t:Bool) (K:CV→Prop) :CV→Prop
 | .d (.bool e)=>K (.d (.bool (t||e)))
 | _=>False
def andV (t:Bool) (K:CV→Prop) :CV→Prop
 | .d (.bool e)=>K (.d (.bool (t&&e)))
 | _=>False
def pickV (t:Bool) (a b:AX) (va vb:CV) (K:CV→Prop) :Prop:=match a,b with
 | .c (.d (.bool true)),_=>orV t K vb
 | _, .c (.d (.bool false))=>andV t K va
 | _,_=>False
def partsV (rd:AX→CV) :List (Nat×Nat×AX)→List CV→(List CV→Prop)→Prop
 | [],cs,K=>K cs
 | (off,n,x) :: r,cs,K=>if ((rd x).cells.length==n&&decide (off+n≤cs.length) &&(rd x).cells.all CV.one) =true then partsV rd r (splice off ((rd x).cells.map CV.copy1) cs) K else False
def capsV (rd:AX→CV) :List AX→Option (List Nat)
 | []=>some []
 | x :: r=>match rd x,capsV rd r with
  | .ptr b 0,some bs=>some (b :: bs)
  | _,_=>none
def binV (W:Prop→Prop) (op:BinOp) (a b:D) (K:CV→Prop) :Prop:=match op,a,b with
 | .shl, .int k m, .int _ n=>W (0≤n)∧K (.d (.int k (k.wrap (m*2 ^ (min n.toNat k.bits)))))
 | .shr, .int k m, .int _ n=>W (0≤n)∧K (.d (.int k (m.fdiv (2 ^ (min n.toNat k.bits)))))
 | .quo, .int k m, .int k' n=>if k=k' then W (n≠0)∧K (.d (.int k (k.wrap (m.tdiv n)))) else False
 | .rem, .int k m, .int k' n=>if k=k' then W (n≠0)∧K (.d (.int k (m.tmod n))) else False
 | .add, .str s, .str t=>W (((s.length+t.length:Nat) :Int)≤IntKind.i64.max)∧K (.d (.str (s++t)))
 | .quo,_,_=>False
 | .rem,_,_=>False
 | op,a,b=>match binD op a b with
  | some r=>K (.d r)
  | none=>False
def sliceV (W:Prop→Prop) (lo hi:Option CV) (n:Nat) (K:Int→Int→Prop) :Prop:=match bound 0 lo,bound n hi with
 | some a,some b=>W (0≤a∧a≤b∧b≤n)∧K a b
 | _,_=>False
def pv (sx:List Sh) (bx:Nat→Option (List CV)) (okr:Nat→Bool) (rd:Path→AX→CV) (W:Prop→Prop) (i:AI) (K:CV→Prop) :Prop:=match i with
 | .mov (.c v) _ nl=>if isOwn v=true then False else K (v.coer nl)
 | .mov (.t n) xf _=>if (xf&&isOwn (rd [] (.t n))) =true then False else K (rd [] (.t n)).copy
 | .pick c a b=>match rd [] c with
  | .d (.bool t)=>match c with
   | .t s=>pickV t a b (rd [(s,true)] a) (rd [(s,false)] b) K
   | .c _=>pickV t a b (rd [] a) (rd [] b) K
  | _=>False
 | .build zs parts=>partsV (rd []) parts zs fun cs=>K (mkAgg cs)
 | .buildSl sz parts=>match allD (parts.map (rd [])) with
  | some ds=>if (ds.all fun x=>x.cells.length==sz) =true then K (.own sz ds) else False
  | none=>False
 | .load ag n a xf=>match rd [] a with
  | .ptr b off=>if okr b=true then match bx b with
    | some cs=>if (decide (off+n≤cs.length) &&(rowOf cs).isNone&& !(xf&&isOwn (cs.getD off .junk) && !ag)) =true then (if ag=true then K (mkAgg ((cs.drop off).take n)) else K (cs.getD off .junk).copy1) else False
    | none=>False
   else False
  | .ep cs=>if n≤cs.length then (if ag=true then K (.d (.agg (cs.take n))) else K (.d (cs.getD 0 .nilp))) else False
  | .ea z k i off=>if okr k=true then match bx k with
    | some cs=>match rowOf cs with
     | some (z',l)=>if (decide (z'=z) &&decide (off+n≤z) &&(ag||decide (n=1))) =true then W (i<l.length)∧exD sx fun ds=>W (((l.getD i .nilp).cells.drop off).take n=ds)∧(if ag=true then K (.d (.agg ds)) else K (.d (ds.getD 0 .nilp))) else False
     | none=>False
    | none=>False
   else False
  | _=>False
 | .nilCk x=>match rd [] x with
  | .ptr b o=>K (.ptr b o)
  | .ep cs=>K (.ep cs)
  | .fn f c=>K (.fn f c)
  | .d x=>∃f:Nat,W (x= .fn (some f))∧K (.d (.fn (some f)))
  | .ea z k i o=>K (.ea z k i o)
  | _=>False
 | .bin bo op x y=>match rd [] x,rd [] y with
  | .d a, .d b=>if (a.isBool==bo) =true then binV W op a b K else False
  | _,_=>False
 | .eqAgg ng ks x y=>match rd [] x,rd [] y with
  | .d (.agg p), .d (.agg q)=>if ((p.map D.kd==ks) &&(q.map D.kd==ks)) =true then match eqCells p q with
    | some r=>K (.d (.bool (r !=ng)))
    | none=>False
   else False
  | _,_=>False
 | .ptrNil ng x=>match rd [] x with
  | .ptr _ _=>K (.d (.bool ng))
  | .ep _=>K (.d (.bool ng))
  | .ea _ _ _ _=>K (.d (.bool ng))
  | .d .nilp=>K (.d (.bool (!ng)))
  | _=>False
 | .not x=>match rd [] x with
  | .d (.bool b)=>K (.d (.bool (!b)))
  | _=>False
 | .neg x=>match rd [] x with
  | .d (.int k n)=>K (.d (.int k (k.wrap (0-n))))
  | _=>False
 | .convInt k x=>match rd [] x with
  | .d (.int _ n)=>K (.d (.int k (k.wrap n)))
  | _=>False
 | .convId x=>match rd [] x with
  | .d (.str s)=>K (.d (.str s))
  | _=>False
 | .toBytes x=>match rd [] x with
  | .d (.str s)=>W (s.length≤140737488355328)∧K (.own 1 (s.map byteD))
  | _=>False
 | .toStr x=>match rd [] x with
  | .rs z k o n=>if okr k=true then match bx k with
    | some cs=>match rowOf cs with
     | some (z',l)=>if z'=z then ∃s:Bytes,W (o+n≤l.length∧(l.drop o).take n=s.map byteD)∧K (.d (.str s)) else False
     | none=>False
    | none=>False
   else False
  | v=>match v.sl with
   | some l=>∃s:Bytes,W (l=s.map byteD)∧K (.d (.str s))
   | none=>False
 | .slice sz x lo hi=>match rd [] x with
  | .rs z k o n=>if z=sz then sliceV W (lo.map (rd [])) (hi.map (rd [])) n fun a b=>K (.rs z k (addO o a.toNat) (b.toNat-a.toNat)) else False
  | v=>match v.slz with
   | some (z,xs)=>if z=sz then sliceV W (lo.map (rd [])) (hi.map (rd [])) xs.length fun a b=>K (.d (slD sz xs a.toNat b.toNat)) else False
   | none=>False
 | .slice0 sz x=>match (rd [] x).slz with
  | some _=>K (.own sz [])
  | none=>False
 | .sliceS x lo hi=>match rd [] x with
  | .d (.str s)=>sliceV W (lo.map (rd [])) (hi.map (rd [])) s.length fun a b=>K (.d (.str ((s.take b.toNat).drop a.toNat)))
  | _=>False
 | .fieldA off x=>match rd [] x with
  | .ptr b o=>K (.ptr b (o+off))
  | .ep cs=>K (.ep (cs.drop off))
  | .ea z k i o=>K (.ea z k i (o+off))
  | _=>False
 | .idxA sz x i=>match rd [] x with
  | .rs z k o m=>match rd [] i with
   | .d (.int _ n)=>if z=sz then W (0≤n∧n<m)∧K (.ea z k (addO o n.toNat) 0) else False
   | _=>False
  | v=>match v.slz,rd [] i with
   | some (z,l), .d (.int _ n)=>if z=sz then W (0≤n∧n<l.length)∧exD sx fun ds=>W ((l.getD n.toNat .nilp).cells=ds)∧K (.ep ds) else False
   | _,_=>False
 | .idxS x i=>match rd [] x,rd [] i with
  | .d (.str s), .d (.int _ n)=>W (0≤n∧n<s.length)∧K (.d (byteD (s.getD n.toNat 0)))
  | _,_=>False
 | .extract x i cp=>match rd [] x with
  | .tup l=>if (decide (i<l.length) &&(cp|| !isOwn (l.getD i .junk))) =true then K (l.getD i .junk).copy1 else False
  | _=>False
 | .len x=>match rd [] x with
  | .rs _ _ _ n=>K (.d (.int .i64 n))
  | v=>match v.sl with
   | some l=>K (.d (.int .i64 l.length))
   | none=>False
 | .lenS x=>match rd [] x with
  | .d (.str s)=>K (.d (.int .i64 s.length))
  | _=>False
 | .mm isMax x y=>match rd [] x,rd [] y with
  | .d (.int k m), .d (.int _ n)=>K (.d (.int k (mmI isMax m n)))
  | _,_=>False
 | .mm3 x y z=>match rd [] x,rd [] y,rd [] z with
  | .d (.int k m), .d (.int _ n), .d (.int _ l)=>K (.d (.int k (mmI true (mmI true m n) l)))
  | _,_,_=>False
 | .mkfn f caps=>match capsV (rd []) caps with
  | some bs=>K (.fn f bs)
  | none=>False
 | _=>False
theorem ev_w0 {x:AX} {k:CV→PM} {K:St→Prop} {st:St}:(x.ev k).w0 K st↔(k (x.val st)).w0 K st:=by cases x<;>rfl
theorem evL_w0 {K:St→Prop} {st:St}: ∀{xs:List AX} {k:List CV→PM},(evL xs k).w0 K st↔(k (xs.map (AX.val st))).w0 K st
 | [],_=>Iff.rfl
 | x :: r,k=>by
  show (x.ev _).w0 K st↔_
  rw [ev_w0,evL_w0];rfl
theorem optEv_w0 {x:Option AX} {k:Option CV→PM} {K:St→Prop} {st:St}:(optEv x k).w0 K st↔(k (x.map (AX.val st))).w0 K st:=by
 cases x with
 | none=>rfl
 | some x=>exact ev_w0
def St.setO (st:St) (dst:Option Nat) (v:CV) :St:=match dst with | some d=>st.set (.s d) v | none=>st
theorem setD_w0 {dst:Option Nat} {v:CV} {K:St→Prop} {st:St}:(setD dst v).w0 K st↔K (st.setO dst v):=by cases dst<;>rfl
theorem binV_spec {W:Prop→Prop} (hW: ∀p,W p→p) {op:BinOp} {a b:D} {K:CV→Prop} (h:binV W op a b K) : ∃r,binD op a b=some r∧binReq op a b∧K (.d r):=by
 unfold binV at h
 split at h
 ·have h0:=hW _ h.1
  exact ⟨_,by simp only [binD];rw [if_neg (by omega)],trivial,h.2⟩
 ·have h0:=hW _ h.1
  exact ⟨_,by simp only [binD];rw [if_neg (by omega)],trivial,h.2⟩
 ·split at h
  ·rename_i e
   subst e
   have h0:=hW _ h.1
   exact ⟨_,by simp [binD,h0],trivial,h.2⟩
  ·exact h.elim
 ·split at h
  ·rename_i e
   subst e
   have h0:=hW _ h.1
   exact ⟨_,by simp [binD,h0],trivial,h.2⟩
  ·exact h.elim
 ·exact ⟨_,rfl,hW _ h.1,h.2⟩
 ·exact h.elim
 ·exact h.elim
 ·split at h
  ·rename_i r hr
   refine ⟨r,hr, ?_,h⟩
   unfold binReq
   split
   ·split
    ·simp_all
    ·trivial
   ·trivial
  ·exact h.elim
theorem binV_some {W:Prop→Prop} {op:BinOp} {a b:D} {K:CV→Prop} (h:binV W op a b K) : ∃v,K v:=by
 unfold binV at h
 split at h
 ·exact ⟨_,h.2⟩
 ·exact ⟨_,h.2⟩
 ·split at h
  ·exact ⟨_,h.2⟩
  ·exact h.elim
 ·split at h
  ·exact ⟨_,h.2⟩
  ·exact h.elim
 ·exact ⟨_,h.2⟩
 ·exact h.elim
 ·exact h.elim
 ·split at h
  ·exact ⟨_,h⟩
  ·exact h.elim
theorem partsV_spec {rd:AX→CV} {st:St} (hrd: ∀x,rd x=x.val st) {K:List CV→Prop} {Kst:St→Prop} {k:List CV→PM} (hk: ∀cs,K cs→(k cs).w0 Kst st) : ∀{ps:List (Nat×Nat×AX)} {cs:List CV},partsV rd ps cs K→(evParts ps cs k).w0 Kst st
 | [],cs,h=>hk cs h
 | (off,n,x) :: r,cs,h=>by
  simp only [partsV] at h
  split at h
  ·rename_i hc
   simp only [Bool.and_eq_true,beq_iff_eq,decide_eq_true_eq] at hc
   rw [hrd] at hc h
   show (x.ev _).w0 Kst st
   rw [ev_w0]
   exact ⟨⟨hc.1.1,hc.1.2,hc.2⟩,partsV_spec hrd hk h⟩
  ·exact h.elim
theorem partsV_some {rd:AX→CV} {K:List CV→Prop}: ∀{ps:List (Nat×Nat×AX)} {cs:List CV},partsV rd ps cs K→∃cs,K cs
 | [],cs,h=>⟨cs,h⟩
 | (off,n,x) :: r,cs,h=>by
  simp only [partsV] at h
  split at h
  ·exact partsV_some h
  ·exact h.elim
theorem capsV_spec {rd:AX→CV} {st:St} (hrd: ∀x,rd x=x.val st) : ∀{xs:List AX} {bs:List Nat},capsV rd xs=some bs→xs.map (AX.val st) =bs.map (.ptr · 0)
 | [],bs,h=>by simp only [capsV,Option.some.injEq] at h;subst h;rfl
 | x :: r,bs,h=>by
  simp only [capsV] at h
  split at h
  ·rename_i b bs' hx hr
   cases h
   rw [hrd] at hx
   simp [hx,capsV_spec hrd hr]
  ·cases h
theorem sliceV_spec {W:Prop→Prop} (hW: ∀p,W p→p) {lo hi:Option CV} {n:Nat} {K:Int→Int→Prop} (h:sliceV W lo hi n K) : ∃a b,bound 0 lo=some a∧bound n hi=some b∧(0≤a∧a≤b∧b≤n)∧K a b:=by
 unfold sliceV at h
 split at h
 ·rename_i a b ha hb;exact ⟨a,b,ha,hb,hW _ h.1,h.2⟩
 ·exact h.elim
theorem sliceV_some {W:Prop→Prop} {lo hi:Option CV} {n:Nat} {K:Int→Int→Prop} (h:sliceV W lo hi n K) : ∃a b,K a b:=by
 unfold sliceV at h
 split at h
 ·exact ⟨_,_,h.2⟩
 ·exact h.elim
theorem pickV_spec {t:Bool} {a b:AX} {va vb:CV} {K:CV→Prop} {st:St} (hva:t=true→va=a.val st) (hvb:t=false→vb=b.val st) (h:pickV t a b va vb K) :K (if t=true then (a.val st).copy else (b.val st).copy):=by
 unfold pickV at h
 split at h
 ·unfold orV at h
  split at h
  ·cases t with
   | true=>exact h
   | false=>rw [←hvb rfl];exact h
  ·exact h.elim
 ·unfold andV at h
  split at h
  ·cases t with
   | true=>
    rw [←hva rfl]
    simp only [Bool.true_and] at h
    exact h
   | false=>exact h
  ·exact h.elim
 ·exact h.elim
theorem pickV_some {t:Bool} {a b:AX} {va vb:CV} {K:CV→Prop} (h:pickV t a b va vb K) : ∃v,K v:=by
 unfold pickV at h
 split at h
 ·unfold orV at h
  split at h
  ·exact ⟨_,h⟩
  ·exact h.elim
 ·unfold andV at h
  split at h
  ·exact ⟨_,h⟩
  ·exact h.elim
 ·exact h.elim
theorem pv_w0 {C:CallRel} {okr okw:Nat→Bool} {dst:Option Nat} {sx:List Sh} {rd:Path→AX→CV} {W:Prop→Prop} {i:AI} {K:CV→Prop} {Kst:St→Prop} {st:St} (hW: ∀p,W p→p)
  (hrd: ∀x,rd [] x=x.val st) (hrp: ∀s t,st.get (.s s) = .d (.bool t)→∀x,rd [(s,t)] x=x.val st) (hK: ∀v,K v→Kst (st.setO dst v)) (h:pv sx st.bx okr rd W i K) :(i.pm C okr okw dst).w0 Kst st:=by
 have sd: ∀{v:CV},K v→(setD dst v).w0 Kst st:=fun hv=>setD_w0.2 (hK _ hv)
 unfold pv at h
 split at h
 ·
  rename_i v xf nl
  split at h
  ·exact h.elim
  ·rename_i hno
   simp only [AI.pm]
   rw [ev_w0]
   have:(AX.c v).val st=v:=rfl
   rw [this,if_neg (by simp [hno])]
   exact sd h
 ·rename_i n xf nl
  split at h
  ·exact h.elim
  ·rename_i hno
   simp only [AI.pm]
   rw [ev_w0,←hrd,if_neg hno]
   exact sd h
 ·
  rename_i c a b
  simp only [AI.pm]
  rw [ev_w0,ev_w0,ev_w0]
  split at h
  ·rename_i t ht
   rw [hrd] at ht
   rw [ht]
   simp only [boolOf]
   split at h
   ·rename_i s
    have ht':st.get (.s s) = .d (.bool t):=ht
    exact sd (pickV_spec (fun e=>by subst e;exact hrp s true ht' a) (fun e=>by subst e;exact hrp s false ht' b) h)
   ·exact sd (pickV_spec (fun _=>hrd a) (fun _=>hrd b) h)
  ·exact h.elim
 ·exact partsV_spec hrd (fun cs hc=>sd hc) h
 ·rename_i sz parts
  simp only [AI.pm]
  rw [evL_w0]
  have:parts.map (rd []) =parts.map (AX.val st):=List.map_congr_left fun x _=>hrd x
  rw [this] at h
  split at h
  ·rename_i ds hds
   split at h
   ·rename_i hall
    rw [hds]
    exact ⟨fun x hx=>by simpa using List.all_eq_true.1 hall x hx,sd h⟩
   ·exact h.elim
  ·exact h.elim
 ·
  rename_i ag n a xf
  simp only [AI.pm]
  rw [ev_w0,←hrd]
  split at h
  ·rename_i b off hp
   rw [hp]
   split at h
   ·rename_i hok
    simp only [hok,if_true]
    split at h
    ·rename_i cs hcs
     split at h
     ·rename_i hc
      simp only [Bool.and_eq_true,decide_eq_true_eq,Bool.not_eq_true',Option.isNone_iff_eq_none] at hc
      show PM.w0 (match st.get (.b b) with | .agg cs=>_ | _=>_) Kst st
      rw [St.get_bx hcs]
      refine ⟨hc.1, ?_⟩
      split at h
      ·rename_i hag;rw [if_pos hag];exact sd h
      ·rename_i hag
       rw [if_neg hag]
       have hag':ag=false:=by simpa using hag
       have h2:=hc.2
       rw [hag'] at h2
       simp only [Bool.not_false,Bool.and_true] at h2
       rw [h2]
       exact sd h
     ·exact h.elim
    ·exact h.elim
   ·exact h.elim
  ·rename_i cs hp
   rw [hp]
   split at h
   ·rename_i hn
    refine ⟨hn, ?_⟩
    split at h
    ·rename_i hag;rw [if_pos hag];exact sd h
    ·rename_i hag;rw [if_neg hag];exact sd h
   ·exact h.elim
  ·rename_i z k i off hp
   rw [hp]
   split at h
   ·rename_i hok
    simp only [hok,if_true]
    split at h
    ·rename_i cs hcs
     split at h
     ·rename_i z' l hro
      split at h
      ·rename_i hc
       simp only [Bool.and_eq_true,decide_eq_true_eq,Bool.or_eq_true] at hc
       obtain ⟨h1,h2⟩:=h
       obtain ⟨ds,h3,h4⟩:=exD_ex h2
       have h1:=hW _ h1
       have h3:=hW _ h3
       show PM.w0 (match rowD (st.get (.b k)) with | some (z',l)=>_ | none=>_) Kst st
       rw [St.get_bx hcs,show rowD (.agg cs) =some (z',l) from hro]
       refine ⟨⟨hc.1.1,h1,hc.1.2⟩, ?_⟩
       split at h4
       ·rename_i hag;rw [if_pos hag,h3];exact sd h4
       ·rename_i hag
        rw [if_neg hag]
        have hn:n=1:=hc.2.resolve_left hag
        subst hn
        have e:(l.getD i .nilp).cells.getD off .nilp=ds.getD 0 .nilp:=by
         rw [←h3]
         simp only [List.getD_eq_getElem?_getD,List.getElem?_take,List.getElem?_drop]
         simp
        rw [e];exact sd h4
      ·exact h.elim
     ·exact h.elim
    ·exact h.elim
   ·exact h.elim
  ·exact h.elim
 ·rename_i x
  simp only [AI.pm]
  rw [ev_w0,←hrd]
  split at h
  ·rename_i e;rw [e];exact sd h
  ·rename_i e;rw [e];exact sd h
  ·rename_i e;rw [e];exact sd h
  ·rename_i e
   obtain ⟨f,h1,h2⟩:=h
   rw [e,hW _ h1];exact sd h2
  ·rename_i e;rw [e];exact sd h
  ·exact h.elim
 ·
  rename_i bo op x y
  simp only [AI.pm]
  rw [ev_w0,ev_w0,←hrd,←hrd]
  split at h
  ·rename_i a b ha hb
   rw [ha,hb]
   split at h
   ·rename_i hbo
    obtain ⟨r,hr,hq,hk⟩:=binV_spec hW h
    simp only [hr]
    exact ⟨⟨by simpa using hbo,hq⟩,sd hk⟩
   ·exact h.elim
  ·exact h.elim
 ·rename_i ng ks x y
  simp only [AI.pm]
  rw [ev_w0,ev_w0,←hrd,←hrd]
  split at h
  ·rename_i p q hp hq
   rw [hp,hq]
   split at h
   ·rename_i hc
    simp only [Bool.and_eq_true,beq_iff_eq] at hc
    split at h
    ·rename_i r hr
     simp only [hr]
     exact ⟨hc,sd h⟩
    ·exact h.elim
   ·exact h.elim
  ·exact h.elim
 ·rename_i ng x
  simp only [AI.pm]
  rw [ev_w0,←hrd]
  split at h
  ·rename_i e;rw [e];exact sd h
  ·rename_i e;rw [e];exact sd h
  ·rename_i e;rw [e];exact sd h
  ·rename_i e;rw [e];exact sd h
  ·exact h.elim
 ·rename_i x
  simp only [AI.pm]
  rw [ev_w0,←hrd]
  split at h
  ·rename_i e;rw [e];exact sd h
  ·exact h.elim
 ·rename_i x
  simp only [AI.pm]
  rw [ev_w0,←hrd]
  split at h
  ·rename_i e;rw [e];exact sd h
  ·exact h.elim
 ·rename_i k x
  simp only [AI.pm]
  rw [ev_w0,←hrd]
  split at h
  ·rename_i e;rw [e];exact sd h
  ·exact h.elim
 ·rename_i x
  simp only [AI.pm]
  rw [ev_w0,←hrd]
  split at h
  ·rename_i e;rw [e];exact sd h
  ·exact h.elim
 ·rename_i x
  simp only [AI.pm]
  rw [ev_w0,←hrd]
  split at h
  ·rename_i e;rw [e];exact ⟨hW _ h.1,sd h.2⟩
  ·exact h.elim
 ·rename_i x
  simp only [AI.pm]
  rw [ev_w0,←hrd]
  split at h
  ·rename_i z k o n e
   rw [e]
   split at h
   ·rename_i hok
    simp only [hok,if_true]
    split at h
    ·rename_i cs hcs
     split at h
     ·rename_i z' l hro
      split at h
      ·rename_i hz
       obtain ⟨s,h1,h2⟩:=h
       show PM.w0 (match rowD (st.get (.b k)) with | some (z',l)=>_ | none=>_) Kst st
       rw [St.get_bx hcs,show rowD (.agg cs) =some (z',l) from hro]
       exact ⟨s,⟨hz,hW _ h1⟩,sd h2⟩
      ·exact h.elim
     ·exact h.elim
    ·exact h.elim
   ·exact h.elim
  ·rename_i v hv
   split at h
   ·rename_i l e
    have hv': ∀z k o n,rd [] x= .rs z k o n→False:=fun z k o n q=>hv z k o n q
    split
    ·rename_i q;exact (hv' _ _ _ _ q).elim
    ·rw [e]
     obtain ⟨s,h1,h2⟩:=h
     exact ⟨s,hW _ h1,sd h2⟩
   ·exact h.elim
 ·
  rename_i sz x lo hi
  simp only [AI.pm]
  rw [ev_w0,optEv_w0,optEv_w0,←hrd]
  have e1:lo.map (AX.val st) =lo.map (rd []):=by cases lo<;>simp [hrd]
  have e2:hi.map (AX.val st) =hi.map (rd []):=by cases hi<;>simp [hrd]
  rw [e1,e2]
  split at h
  ·rename_i z k o n e
   rw [e]
   split at h
   ·rename_i hz
    obtain ⟨a,b,h1,h2,h3,h4⟩:=sliceV_spec hW h
    simp only [h1,h2]
    exact ⟨⟨hz,h3⟩,sd h4⟩
   ·exact h.elim
  ·rename_i v hv
   split at h
   ·rename_i z xs e
    split
    ·rename_i q;exact (hv _ _ _ _ q).elim
    ·rw [e]
     split at h
     ·rename_i hz
      obtain ⟨a,b,h1,h2,h3,h4⟩:=sliceV_spec hW h
      simp only [h1,h2]
      exact ⟨⟨hz,h3⟩,sd h4⟩
     ·exact h.elim
   ·exact h.elim
 ·rename_i sz x
  simp only [AI.pm]
  rw [ev_w0,←hrd]
  split at h
  ·rename_i e;rw [e];exact sd h
  ·exact h.elim
 ·rename_i x lo hi
  simp only [AI.pm]
  rw [ev_w0,optEv_w0,optEv_w0,←hrd]
  have e1:lo.map (AX.val st) =lo.map (rd []):=by cases lo<;>simp [hrd]
  have e2:hi.map (AX.val st) =hi.map (rd []):=by cases hi<;>simp [hrd]
  rw [e1,e2]
  split at h
  ·rename_i s e
   rw [e]
   obtain ⟨a,b,h1,h2,h3,h4⟩:=sliceV_spec hW h
   simp only [h1,h2]
   exact ⟨h3,sd h4⟩
  ·exact h.elim
 ·rename_i off x
  simp only [AI.pm]
  rw [ev_w0,←hrd]
  split at h
  ·rename_i e;rw [e];exact sd h
  ·rename_i e;rw [e];exact sd h
  ·rename_i e;rw [e];exact sd h
  ·exact h.elim
 ·rename_i sz x j
  simp only [AI.pm]
  rw [ev_w0,ev_w0,←hrd,←hrd]
  split at h
  ·rename_i z k o m e1
   rw [e1]
   split at h
   ·rename_i k2 n e2
    rw [e2]
    split at h
    ·rename_i hz
     exact ⟨⟨hz,hW _ h.1⟩,sd h.2⟩
    ·exact h.elim
   ·exact h.elim
  ·rename_i v hv
   split at h
   ·rename_i z l k n e1 e2
    split
    ·rename_i q;exact (hv _ _ _ _ q).elim
    ·rw [e1,e2]
     split at h
     ·rename_i hz
      obtain ⟨h1,h2⟩:=h
      obtain ⟨ds,h3,h4⟩:=exD_ex h2
      have h3:=hW _ h3
      exact ⟨⟨hz,hW _ h1⟩,by rw [h3];exact sd h4⟩
     ·exact h.elim
   ·exact h.elim
 ·rename_i x j
  simp only [AI.pm]
  rw [ev_w0,ev_w0,←hrd,←hrd]
  split at h
  ·rename_i s k n e1 e2
   rw [e1,e2]
   exact ⟨hW _ h.1,sd h.2⟩
  ·exact h.elim
 ·rename_i x j cp
  simp only [AI.pm]
  rw [ev_w0,←hrd]
  split at h
  ·rename_i l e
   rw [e]
   split at h
   ·rename_i hc
    simp only [Bool.and_eq_true,decide_eq_true_eq,Bool.or_eq_true,Bool.not_eq_true'] at hc
    refine ⟨hc.1, ?_⟩
    have hf:(isOwn (l.getD j .junk) && !cp) =false:=by
     rcases hc.2 with e | e
     ·rw [e,Bool.not_true,Bool.and_false]
     ·rw [e,Bool.false_and]
    rw [hf]
    exact sd h
   ·exact h.elim
  ·exact h.elim
 ·rename_i x
  simp only [AI.pm]
  rw [ev_w0,←hrd]
  split at h
  ·rename_i e;rw [e];exact sd h
  ·rename_i v hv
   split at h
   ·rename_i l e
    split
    ·rename_i q;exact (hv _ _ _ _ q).elim
    ·rw [e];exact sd h
   ·exact h.elim
 ·rename_i x
  simp only [AI.pm]
  rw [ev_w0,←hrd]
  split at h
  ·rename_i e;rw [e];exact sd h
  ·exact h.elim
 ·rename_i isMax x y
  simp only [AI.pm]
  rw [ev_w0,ev_w0,←hrd,←hrd]
  split at h
  ·rename_i e1 e2;rw [e1,e2];rw [mmI_eq] at h;exact sd h
  ·exact h.elim
 ·rename_i x y z
  simp only [AI.pm]
  rw [ev_w0,ev_w0,ev_w0,←hrd,←hrd,←hrd]
  split at h
  ·rename_i e1 e2 e3;rw [e1,e2,e3];rw [mmI_eq,mmI_eq] at h;exact sd h
  ·exact h.elim
 ·rename_i f caps
  simp only [AI.pm]
  rw [evL_w0]
  split at h
  ·rename_i bs hbs
   exact ⟨bs,capsV_spec hrd hbs,sd h⟩
  ·exact h.elim
 ·exact h.elim
theorem pv_some {sx:List Sh} {bx:Nat→Option (List CV)} {okr:Nat→Bool} {rd:Path→AX→CV} {W:Prop→Prop} {i:AI} {K:CV→Prop} (h:pv sx bx okr rd W i K) : ∃v,K v:=by
 unfold pv at h
 repeat' (split at h)
 all_goals first
  | exact h.elim
  | exact ⟨_,h⟩
  | exact ⟨_,h.2⟩
  | exact pickV_some h
  | exact binV_some h
  | (obtain ⟨_,h⟩:=partsV_some h;exact ⟨_,h⟩)
  | (obtain ⟨_,_,h⟩:=sliceV_some h;exact ⟨_,h⟩)
  | (obtain ⟨_,h⟩:=h;obtain ⟨_,h⟩:=exD_ex h;exact ⟨_,h.2⟩)
  | (obtain ⟨_,h⟩:=h;obtain ⟨_,_,h⟩:=exD_ex h;split at h<;>exact ⟨_,h⟩)
  | (obtain ⟨_,h⟩:=h;exact ⟨_,h.2⟩)
end B
end Go.Proofs.YtmkkljbfmdngfaaGreatDoor
