/- The abstract machine without its bounds on slots: for walks. No condition. -/
import Derived.Test.YtmkkljbfmdngfaaGreatDoorB17
set_option linter.all false
namespace Go.Proofs.YtmkkljbfmdngfaaGreatDoor
namespace B
def PM.w0:PM→(St→Prop)→St→Prop
 | .done,Q,st=>Q st
 | .kill b k,Q,st=>mvb b=true∧k.w0 Q (st.kill b)
 | .get p k,Q,st=>(k (st.get p)).w0 Q st
 | .set p v k,Q,st=>k.w0 Q (st.set p v)
 | .ex β k,Q,st=>∃x:β,(k x).w0 Q st
 | .req c k,Q,st=>c∧k.w0 Q st
 | .all k,Q,st=>∀x:Bool,(k x).w0 Q st
 | .fail,_,_=>False
def PM.lower (N:Nat) :PM→Prop
 | .done=>True
 | .kill _ k=>k.lower N
 | .get _ k=>∀v,(k v).lower N
 | .set p _ k=>(match p with | .s n=>n<N | .b _=>True)∧k.lower N
 | .ex _ k=>∀x,(k x).lower N
 | .req c k=>c→k.lower N
 | .all k=>∀x,(k x).lower N
 | .fail=>True
theorem w0_wp {N:Nat} {Q:St→Prop}: ∀(m:PM) (st:St),m.lower N→st.s.length=N→m.w0 Q st→m.wp (fun st'=>Q st'∧st'.s.length=N) st
 | .done,st,_,hl,h=>⟨h,hl⟩
 | .kill b k,st,hb,hl,h=>⟨h.1,w0_wp k (st.kill b) hb (by simp [St.kill,hl]) h.2⟩
 | .get p k,st,hb,hl,h=>w0_wp (k (st.get p)) st (hb _) hl h
 | .set p v k,st,hb,hl,h=>by
  refine ⟨?_,w0_wp k (st.set p v) hb.2 (by rw [set_len,hl]) h⟩
  cases p with
  | s n=>have:=hb.1;simp only at this;simp [Place.ok,hl,this]
  | b n=>rfl
 | .ex _ k,st,hb,hl,⟨x,h⟩=>⟨x,w0_wp (k x) st (hb x) hl h⟩
 | .req _ k,st,hb,hl,⟨hc,h⟩=>⟨hc,w0_wp k st (hb hc) hl h⟩
 | .all k,st,hb,hl,h=>fun x=>w0_wp (k x) st (hb x) hl (h x)
 | .fail,_,_,_,h=>h.elim
theorem lower_of_within {R:Place→Prop} {N:Nat} {W:Place→Prop} (hW: ∀n,W (.s n)→n<N) : ∀m:PM,m.within R W→m.lower N
 | .done,_=>trivial
 | .kill _ k,h=>lower_of_within hW k h.2
 | .get _ k,h=>fun v=>lower_of_within hW (k v) (h.2 v)
 | .set p _ k,h=>⟨by cases p with
  | s n=>exact hW n h.1
  | b n=>trivial,lower_of_within hW k h.2⟩
 | .ex _ k,h=>fun x=>lower_of_within hW (k x) (h x)
 | .req _ k,h=>fun c=>lower_of_within hW k (h c)
 | .all _,h=>h.elim
 | .fail,_=>trivial
theorem frzK_lower {N b:Nat} {k:PM} (h:k.lower N) :(frzK b k).lower N:=by
 intro v
 dsimp only
 split
 ·split
  ·intro r
   dsimp only
   split
   ·exact fun _=>⟨trivial,trivial,h⟩
   ·trivial
  ·exact h
 ·trivial
theorem newB_lower {N d:Nat} {c:CV} {k:PM} (h:k.lower N) :(newB d c k).lower N:=by
 intro v
 dsimp only
 split
 ·exact ⟨trivial,h⟩
 ·exact ⟨trivial,h⟩
def AOp.bnd (N:Nat) (o:AOp) :Bool:=o.wr.all fun n=>decide (n<N)
theorem AOp.lower {C:CallRel} {okr okw:Nat→Bool} {N:Nat} {o:AOp} (h:o.bnd N=true) :(o.pm C okr okw).lower N:=by
 have hw: ∀n,n∈o.wr→n<N:=fun n hn=>by simpa using List.all_eq_true.1 h n hn
 by_cases hn:o.i.noAll=true
 ·refine lower_of_within (R:=RP o.rd okr o.dst) (W:=WP o.wr okw o.dst) (fun n hW=> ?_) _ (AOp.within C okr okw o hn)
  rcases hW with hW | hW
  ·exact hw n hW
  ·exact hw n (by simp [AOp.wr,hW])
 ·have hd: ∀(d:Option Nat) (v:CV),o.dst=d→(setD d v).lower N:=fun d v e=>by
   cases d with
   | none=>trivial
   | some d=>exact ⟨hw d (by simp [AOp.wr,e]),trivial⟩
  have hn2: ∀(d:Nat) (c v:CV),o.dst=some d→(newR d c v).lower N:=fun d c v e=>by
   have hdN:d<N:=hw d (by simp [AOp.wr,e])
   intro u
   dsimp only
   split
   ·exact ⟨trivial,hdN,trivial⟩
   ·exact ⟨trivial,hdN,trivial⟩
  have hx: ∀(x:AX) (k:CV→PM),(∀v,(k v).lower N)→(x.ev k).lower N:=fun x k hk=>by
   cases x with
   | t n=>exact hk
   | c v=>exact hk v
  obtain ⟨dst,i,g⟩:=o
  have fin:(i.pm C okr okw dst).lower N→(AOp.pm C okr okw ⟨dst,i,g⟩).lower N:=fun key=>by
   unfold AOp.pm
   split
   ·exact key
   ·intro v
    dsimp only
    split
    ·split
     ·exact key
     ·exact hd _ _ rfl
    ·trivial
  apply fin
  cases i with
  | slNil ng x=>
   refine hx x _ fun v=> ?_
   split
   ·exact fun b=>hd _ _ rfl
   ·exact fun b=>hd _ _ rfl
   ·exact hd _ _ rfl
   ·exact hd _ _ rfl
   ·exact fun b=>hd _ _ rfl
   ·trivial
  | rowN sz=>
   simp only [AI.pm]
   split
   ·exact hn2 _ _ _ rfl
   ·trivial
  | row0 sz x=>
   refine hx x _ fun v=> ?_
   split
   ·split
    ·exact hn2 _ _ _ rfl
    ·trivial
   ·split
    ·split
     ·exact hn2 _ _ _ rfl
     ·trivial
    ·trivial
  | rowB x=>
   simp only [AI.pm]
   split
   ·refine hx x _ fun v=> ?_
    split
    ·exact fun _=>hn2 _ _ _ rfl
    ·trivial
   ·trivial
  | appR sz by_ s x=>
   refine hx s _ fun v=>hx x _ fun u=> ?_
   split
   ·intro b
    dsimp only
    split
    ·exact fun _=>⟨trivial,hd _ _ rfl⟩
    ·trivial
   ·trivial
  | rowNK b sz=>exact newB_lower (hd _ _ rfl)
  | appO sz by_ s x=>
   refine hx s _ fun v=>hx x _ fun u=> ?_
   split
   ·intro b
    dsimp only
    split
    ·exact fun _ g=>⟨trivial,hd _ _ rfl⟩
    ·trivial
   ·trivial
  | rowS d sz x=>
   refine hx x _ fun p=> ?_
   split
   ·split
    ·refine newB_lower fun v=> ?_
     dsimp only
     split
     ·exact fun _=>⟨trivial,trivial⟩
     ·trivial
    ·trivial
   ·trivial
  | movT x=>
   refine hx x _ fun v=> ?_
   split
   ·cases x with
    | t n=>exact ⟨hw n (by simp [AOp.wr,AI.strips,AX.sl]),hd _ _ rfl⟩
    | c v=>exact hd _ _ rfl
   ·trivial
  | frzM x=>
   refine hx x _ fun v=> ?_
   split
   ·intro r
    dsimp only
    split
    ·exact fun _=>⟨trivial,hd _ _ rfl⟩
    ·trivial
   ·trivial
  | loadF n x=>
   refine hx x _ fun p=> ?_
   split
   ·split
    ·refine frzK_lower (frzK_lower fun v=> ?_)
     dsimp only
     split
     ·exact fun _=>hd _ _ rfl
     ·trivial
    ·trivial
   ·trivial
  | _=>simp [AI.noAll] at hn
def AOp.w0 (C:CallRel) (okr okw:Nat→Bool) (o:AOp) (K:St→Prop) (st:St) :Prop:=match o.g with
 | none=>(o.i.pm C okr okw o.dst).w0 K st
 | some (g,want)=>match guardOf (st.get (.s g)) with
  | some r=>if (r==some want) =true then (o.i.pm C okr okw o.dst).w0 K st else (setD o.dst undefC).w0 K st
  | none=>False
theorem AOp.w0_pm {C:CallRel} {okr okw:Nat→Bool} {o:AOp} {K:St→Prop} {st:St} (h:o.w0 C okr okw K st) :(o.pm C okr okw).w0 K st:=by
 unfold AOp.w0 at h
 unfold AOp.pm
 split
 ·rename_i hg;simpa only [hg] using h
 ·rename_i g want hg
  simp only [hg] at h
  show PM.w0 (match guardOf (st.get (.s g)) with | some r=>_ | none=>_) K st
  split at h
  ·rename_i r hr
   split at h
   ·rename_i e;rw [if_pos e];exact h
   ·rename_i e;rw [if_neg e];exact h
  ·exact h.elim
def okT:Nat→Bool:=fun _=>true
def opsW0 (C:CallRel) :List AOp→(St→Prop)→St→Prop
 | [],K,st=>K st
 | o :: r,K,st=>o.w0 C okT okT (opsW0 C r K) st
def drawW0 (C:CallRel) (M A:List Nat) :List AOp→List Nat→(St→Prop)→St→Prop
 | [],_,K,st=>K st
 | o :: r,cls,K,st=>o.w0 C (okrOf M A (cls.headD 0)) (okwOf M A (cls.headD 0)) (drawW0 C M A r cls.tail K) st
def aw (C:CallRel) (X:List Nat) :AC→(AExit→St→Prop)→St→Prop
 | .skip,Q,st=>Q .normal st
 | .ops l,Q,st=>opsW0 C l (Q .normal) st
 | .draw l cls M,Q,st=>drawW0 C M (dsts M l) l cls (Q .normal) st
 | .seq a b,Q,st=>aw C X a (thenQ (aw C X b Q) Q) st
 | .cond c a b,Q,st=>match c.val st with
  | .d (.bool t)=>if t=true then aw C X a Q st else aw C X b Q st
  | _=>False
 | .block id a,Q,st=>aw C X a (inBlk id Q) st
 | .loop a,Q,st=>∃I:St→Nat→Prop,(∃st1 n,Wk X st st1∧I st1 n)∧∀st n,I st n→aw C X a (thenQ (fun st'=>∃st1 m,m<n∧Wk X st' st1∧I st1 m) Q) st
 | .exit id,Q,st=>Q (.exit id) st
 | .ret,Q,st=>Q .ret st
def AC.bnd (N:Nat) :AC→Bool
 | .skip=>true
 | .ops l=>l.all (AOp.bnd N)
 | .draw l _ _=>l.all (AOp.bnd N)
 | .seq a b=>a.bnd N&&b.bnd N
 | .cond _ a b=>a.bnd N&&b.bnd N
 | .block _ a=>a.bnd N
 | .loop a=>a.bnd N
 | .exit _=>true
 | .ret=>true
theorem opsW0_wp {C:CallRel} {N:Nat} {K:St→Prop}: ∀(l:List AOp) (st:St),(l.all (AOp.bnd N)) =true→st.s.length=N→opsW0 C l K st→opsWp C l (fun st'=>K st'∧st'.s.length=N) st
 | [],st,_,hl,h=>⟨h,hl⟩
 | o :: r,st,hb,hl,h=>by
  simp only [List.all_cons,Bool.and_eq_true] at hb
  exact PM.wp_mono (fun st' h'=>opsW0_wp r st' hb.2 h'.2 h'.1) _ _ (w0_wp _ st (AOp.lower hb.1) hl (AOp.w0_pm h))
theorem drawW0_wp {C:CallRel} {M A:List Nat} {N:Nat} {K:St→Prop}: ∀(l:List AOp) (cls:List Nat) (st:St),(l.all (AOp.bnd N)) =true→st.s.length=N→drawW0 C M A l cls K st→drawWp C M A l cls (fun st'=>K st'∧st'.s.length=N) st
 | [],_,st,_,hl,h=>⟨h,hl⟩
 | o :: r,cls,st,hb,hl,h=>by
  simp only [List.all_cons,Bool.and_eq_true] at hb
  exact PM.wp_mono (fun st' h'=>drawW0_wp r cls.tail st' hb.2 h'.2 h'.1) _ _ (w0_wp _ st (AOp.lower hb.1) hl (AOp.w0_pm h))
theorem awp_mono {C:CallRel} {X:List Nat}: ∀{a:AC} {Q Q':AExit→St→Prop} {st:St},(∀e st,Q e st→Q' e st)→awp C X a Q st→awp C X a Q' st:=by
 intro a
 induction a with
 | skip=>intro Q Q' st h hh;exact h _ _ hh
 | ops l=>
  intro Q Q' st h hh
  induction l generalizing st with
  | nil=>exact h _ _ hh
  | cons o r ih=>exact PM.wp_mono (fun st' h'=>ih h') _ _ hh
 | draw l cls M=>
  intro Q Q' st h hh
  simp only [awp] at hh⊢
  generalize dsts M l=A at*
  induction l generalizing st cls with
  | nil=>exact h _ _ hh
  | cons o r ih=>exact PM.wp_mono (fun st' h'=>ih cls.tail h') _ _ hh
 | seq a b iha ihb=>
  intro Q Q' st h hh
  refine iha (fun e st' he=> ?_) hh
  cases e with
  | normal=>exact ihb h he
  | exit id=>exact h _ _ he
  | ret=>exact h _ _ he
 | cond c a b iha ihb=>
  intro Q Q' st h hh
  simp only [awp] at hh⊢
  split at hh
  ·split at hh
   ·rename_i e;rw [if_pos e];exact iha h hh
   ·rename_i e;rw [if_neg e];exact ihb h hh
  ·exact hh.elim
 | block id a iha=>
  intro Q Q' st h hh
  refine iha (fun e st' he=> ?_) hh
  cases e with
  | normal=>exact h _ _ he
  | exit k=>
   simp only [inBlk] at he⊢
   split at he
   ·rename_i e;rw [if_pos e];exact h _ _ he
   ·rename_i e;rw [if_neg e];exact h _ _ he
  | ret=>exact h _ _ he
 | loop a iha=>
  intro Q Q' st h hh
  obtain ⟨I,h0,hI⟩:=hh
  refine ⟨I,h0,fun st n hn=>iha (fun e st' he=> ?_) (hI st n hn)⟩
  cases e with
  | normal=>exact he
  | exit id=>exact h _ _ he
  | ret=>exact h _ _ he
 | exit id=>intro Q Q' st h hh;exact h _ _ hh
 | ret=>intro Q Q' st h hh;exact h _ _ hh
theorem aw_awp {C:CallRel} {X:List Nat} {N:Nat}: ∀{a:AC} {Q:AExit→St→Prop} {st:St},a.bnd N=true→st.s.length=N→aw C X a Q st→awp C X a (fun e st'=>Q e st'∧st'.s.length=N) st:=by
 intro a
 induction a with
 | skip=>intro Q st _ hl h;exact ⟨h,hl⟩
 | ops l=>intro Q st hb hl h;exact opsW0_wp l st hb hl h
 | draw l cls M=>intro Q st hb hl h;exact drawW0_wp l cls st hb hl h
 | seq a b iha ihb=>
  intro Q st hb hl h
  simp only [AC.bnd,Bool.and_eq_true] at hb
  show awp C X a (thenQ (awp C X b _) _) st
  refine awp_mono (fun e st' he=> ?_) (iha hb.1 hl h)
  cases e with
  | normal=>exact ihb hb.2 he.2 he.1
  | exit id=>exact he
  | ret=>exact he
 | cond c a b iha ihb=>
  intro Q st hb hl h
  simp only [AC.bnd,Bool.and_eq_true] at hb
  simp only [aw] at h
  simp only [awp]
  split at h
  ·rename_i t ht
   rw [ht]
   simp only [boolOf]
   split at h
   ·rename_i e;rw [if_pos e];exact iha hb.1 hl h
   ·rename_i e;rw [if_neg e];exact ihb hb.2 hl h
  ·exact h.elim
 | block id a iha=>
  intro Q st hb hl h
  show awp C X a (inBlk id _) st
  refine awp_mono (fun e st' he=> ?_) (iha hb hl h)
  cases e with
  | normal=>exact he
  | exit k=>
   simp only [inBlk] at he⊢
   split at he
   ·rename_i e;rw [if_pos e];exact he
   ·rename_i e;rw [if_neg e];exact he
  | ret=>exact he
 | loop a iha=>
  intro Q st hb hl h
  obtain ⟨I,⟨st1,n,hw,hI⟩,hr⟩:=h
  refine ⟨fun st n=>I st n∧st.s.length=N,⟨st1,n,hw,hI,by rw [←WcL_len hw.1,hl]⟩,fun st n hn=>awp_mono (fun e st' he=> ?_) (iha hb hn.2 (hr st n hn.1))⟩
  cases e with
  | normal=>
   obtain ⟨⟨st2,m,hm,hw2,hI2⟩,hl2⟩:=he
   exact ⟨st2,m,hm,hw2,hI2,by rw [←WcL_len hw2.1,hl2]⟩
  | exit id=>exact he
  | ret=>exact he
 | exit id=>intro Q st _ hl h;exact ⟨h,hl⟩
 | ret=>intro Q st _ hl h;exact ⟨h,hl⟩
variable {P:Program}
theorem runs0 {f:Nat} {H:Hint} {af:AF} {args:List CV} {objs objs':List (Nat×List CV)} {res:CV} (hf:trF P H f=some af) (hb:(af.ac.bnd af.n&&decide (af.np≤af.n) &&(args.length==af.np)) =true) (hobj:(objs.map (·.1)).Nodup∧((objs.map (·.1)).all fun b=>decide (1000≤b) &&(decide (b<5000) ||mvF f)) =true)
  (h:aw (Runs P) (objs.map (·.1)) af.ac (retQ af.rs res objs') ⟨args++List.replicate (af.n-args.length) .junk,objs⟩) :Runs P f args objs res objs':=by
 simp only [Bool.and_eq_true,decide_eq_true_eq,beq_iff_eq] at hb
 exact runs_of hf hobj (awp_mono (fun e st he=>he.1) (aw_awp hb.1.1 (by simp;omega) h))
end B
end Go.Proofs.YtmkkljbfmdngfaaGreatDoor
