/- Operations that draw their order: what the lexical order does, every order does. No condition. -/
import Derived.Test.YtmkkljbfmdngfaaGreatDoorB14
set_option linter.all false
namespace Go.Proofs.YtmkkljbfmdngfaaGreatDoor
namespace B
variable {P:Program}
inductive Tr (R W:Place→Prop) :PM→St→St→Prop
 | done {st:St}:Tr R W .done st st
 | get {p:Place} {k:CV→PM} {st st':St} (hp:R p) (h:Tr R W (k (st.get p)) st st') :Tr R W (.get p k) st st'
 | set {p:Place} {v:CV} {k:PM} {st st':St} (hp:W p) (ho:p.ok st=true) (h:Tr R W k (st.set p v) st') :Tr R W (.set p v k) st st'
 | ex {β:Type} {k:β→PM} {st st':St} (x:β) (h:Tr R W (k x) st st') :Tr R W (.ex β k) st st'
 | req {c:Prop} {k:PM} {st st':St} (hc:c) (h:Tr R W k st st') :Tr R W (.req c k) st st'
def PM.within (R W:Place→Prop) :PM→Prop
 | .done=>True
 | .kill _ k=>W (.b 4999)∧k.within R W
 | .get p k=>R p∧∀v,(k v).within R W
 | .set p _ k=>W p∧k.within R W
 | .ex _ k=>∀x,(k x).within R W
 | .req c k=>c→k.within R W
 | .all _=>False
 | .fail=>True
theorem within_mono {R W R' W':Place→Prop} (hr: ∀p,R p→R' p) (hw: ∀p,W p→W' p) : ∀m:PM,m.within R W→m.within R' W'
 | .done,_=>trivial
 | .kill _ k,h=>⟨hw _ h.1,within_mono hr hw k h.2⟩
 | .get _ k,h=>⟨hr _ h.1,fun v=>within_mono hr hw (k v) (h.2 v)⟩
 | .set _ _ k,h=>⟨hw _ h.1,within_mono hr hw k h.2⟩
 | .ex _ k,h=>fun x=>within_mono hr hw (k x) (h x)
 | .req _ k,h=>fun c=>within_mono hr hw k (h c)
 | .all _,h=>h.elim
 | .fail,_=>trivial
theorem tr_of_wp {R W:Place→Prop} {K:St→Prop} (h0: ¬W (.b 4999)) : ∀(m:PM) (st:St),m.within R W→m.wp K st→∃st',Tr R W m st st'∧K st'
 | .done,st,_,h=>⟨st, .done,h⟩
 | .kill _ _,_,hi,_=>(h0 hi.1).elim
 | .get p k,st,hi,h=>let ⟨st',t,hk⟩:=tr_of_wp h0 (k (st.get p)) st (hi.2 _) h;⟨st', .get hi.1 t,hk⟩
 | .set p v k,st,hi,h=>let ⟨st',t,hk⟩:=tr_of_wp h0 k (st.set p v) hi.2 h.2;⟨st', .set hi.1 h.1 t,hk⟩
 | .ex _ k,st,hi,⟨x,h⟩=>let ⟨st',t,hk⟩:=tr_of_wp h0 (k x) st (hi x) h;⟨st', .ex x t,hk⟩
 | .req _ k,st,hi,⟨hc,h⟩=>let ⟨st',t,hk⟩:=tr_of_wp h0 k st (hi hc) h;⟨st', .req hc t,hk⟩
 | .all _,_,hi,_=>hi.elim
 | .fail,_,_,h=>h.elim
theorem wp_of_tr {R W:Place→Prop} {K:St→Prop} {m:PM} {st st':St} (t:Tr R W m st st') (hk:K st') :m.wp K st:=by
 induction t with
 | done=>exact hk
 | get _ _ ih=>exact ih hk
 | set _ ho _ ih=>exact ⟨ho,ih hk⟩
 | ex x _ ih=>exact ⟨x,ih hk⟩
 | req hc _ ih=>exact ⟨hc,ih hk⟩
theorem set_len (st:St) (p:Place) (v:CV) :(st.set p v).s.length=st.s.length:=by
 cases p with
 | s n=>simp [St.set]
 | b n=>cases v<;>rfl
theorem set_other {st:St} {p q:Place} (v:CV) (h:q≠p) :(st.set p v).get q=st.get q:=by
 cases p with
 | s n=>rw [St.get_setSlot,if_neg (fun e=>h e.1)]
 | b n=>
  cases v with
  | agg cs=>rw [St.get_setBox,if_neg h]
  | _=>rfl
theorem set_same {st u:St} (p q:Place) (v:CV) (hl:u.s.length=st.s.length) (h:st.get q=u.get q) :(st.set p v).get q=(u.set p v).get q:=by
 cases p with
 | s n=>rw [St.get_setSlot,St.get_setSlot,hl,h]
 | b n=>
  cases v with
  | agg cs=>rw [St.get_setBox,St.get_setBox,h]
  | _=>exact h
theorem Tr.keeps {R W:Place→Prop} {m:PM} {st st':St} (t:Tr R W m st st') :st'.s.length=st.s.length∧∀p,¬W p→st'.get p=st.get p:=by
 induction t with
 | done=>exact ⟨rfl,fun _ _=>rfl⟩
 | get _ _ ih=>exact ih
 | set hp _ _ ih=>exact ⟨by rw [ih.1,set_len],fun p hn=>by rw [ih.2 p hn];exact set_other _ fun e=>hn (e▸hp)⟩
 | ex _ _ ih=>exact ih
 | req _ _ ih=>exact ih
theorem Tr.local {R W:Place→Prop} {m:PM} {st st':St} (t:Tr R W m st st') : ∀u:St,u.s.length=st.s.length→(∀p,R p→st.get p=u.get p)→
  ∃u',Tr R W m u u'∧∀p,st.get p=u.get p→st'.get p=u'.get p:=by
 induction t with
 | done=>exact fun u _ _=>⟨u, .done,fun _ h=>h⟩
 | get hp _ ih=>
  intro u hl hr
  obtain ⟨u',t,h⟩:=ih u hl hr
  exact ⟨u', .get hp (by rw [←hr _ hp];exact t),h⟩
 | @set p v k st st' hp ho _ ih=>
  intro u hl hr
  obtain ⟨u',t,h⟩:=ih (u.set p v) (by rw [set_len,set_len,hl]) fun q hq=>set_same p q v hl (hr q hq)
  refine ⟨u', .set hp ?_ t,fun q hq=>h q (set_same p q v hl hq)⟩
  cases p with
  | s n=>simp only [Place.ok,hl] at ho⊢;exact ho
  | b n=>rfl
 | ex x _ ih=>
  intro u hl hr
  obtain ⟨u',t,h⟩:=ih u hl hr
  exact ⟨u', .ex x t,h⟩
 | req hc _ ih=>
  intro u hl hr
  obtain ⟨u',t,h⟩:=ih u hl hr
  exact ⟨u', .req hc t,h⟩
def Eqv (st u:St) :Prop:=u.s.length=st.s.length∧∀p,st.get p=u.get p
theorem Eqv.trans {a b c:St} (h:Eqv a b) (k:Eqv b c) :Eqv a c:=⟨by rw [k.1,h.1],fun p=>by rw [h.2,k.2]⟩
theorem Eqv.symm {a b:St} (h:Eqv a b) :Eqv b a:=⟨h.1.symm,fun p=>(h.2 p).symm⟩
theorem Eqv.refl (a:St) :Eqv a a:=⟨rfl,fun _=>rfl⟩
theorem SR.eqv {Γ:Froz} {ρ:Nat→Role} {bl:Nat→Nat} {st u:St} {tmps:Array Value} {w:World} (h:SR Γ ρ bl st tmps w) (e:Eqv st u) :SR Γ ρ bl u tmps w:=by
 refine h.same ?_ ?_
 ·refine List.ext_getElem e.1 fun n h1 h2=> ?_
  have:=e.2 (.s n)
  simpa [St.get,List.getD_eq_getElem?_getD,h1,h2] using this.symm
 ·intro b
  have:=e.2 (.b b)
  simp only [St.get] at this
  cases e1:st.bx b<;>cases e2:u.bx b<;>rw [e1,e2] at this<;>first | rfl | (cases this;done) | (cases this;rfl)
theorem RR.eqv {E:Ent} {st u:St} {a:Act} {w:World} (h:RR E st a w) (e:Eqv st u) :RR E u a w:=by
 obtain ⟨hd,Γ,ρ,bl,hs,hf,hb⟩:=h
 refine ⟨hd,Γ,ρ,bl,hs.eqv e,hf,fun b hx=>⟨?_,(hb b hx).2⟩⟩
 obtain ⟨cs,hc⟩:=Option.isSome_iff_exists.1 (hb b hx).1
 have:=e.2 (.b b)
 rw [St.get_bx hc] at this
 simp only [St.get] at this
 cases e2:u.bx b with
 | some _=>rfl
 | none=>rw [e2] at this;cases this
inductive TrK (R W:Place→Prop) (b:Nat) :PM→St→St→Prop
 | kill {k:PM} {st st':St} (hb:mvb b=true) (h:Tr R W k (st.kill b) st') :TrK R W b (.kill b k) st st'
 | get {p:Place} {k:CV→PM} {st st':St} (hp:R p) (h:TrK R W b (k (st.get p)) st st') :TrK R W b (.get p k) st st'
 | req {c:Prop} {k:PM} {st st':St} (hc:c) (h:TrK R W b k st st') :TrK R W b (.req c k) st st'
def PM.sets (W:Place→Prop) :PM→Prop
 | .done=>True
 | .set p _ k=>W p∧k.sets W
 | _=>False
def PM.withinK (R W:Place→Prop) :PM→Prop
 | .kill _ k=>k.sets W
 | .get p k=>R p∧∀v,(k v).withinK R W
 | .req c k=>c→k.withinK R W
 | .fail=>True
 | _=>False
theorem tr_of_sets {R W:Place→Prop} {K:St→Prop}: ∀(m:PM) (st:St),m.sets W→m.wp K st→∃st',Tr R W m st st'∧K st'
 | .done,st,_,h=>⟨st, .done,h⟩
 | .set p v k,st,hi,h=>let ⟨st',t,hk⟩:=tr_of_sets k (st.set p v) hi.2 h.2;⟨st', .set hi.1 h.1 t,hk⟩
 | .kill _ _,_,hi,_=>hi.elim
 | .get _ _,_,hi,_=>hi.elim
 | .ex _ _,_,hi,_=>hi.elim
 | .req _ _,_,hi,_=>hi.elim
 | .all _,_,hi,_=>hi.elim
 | .fail,_,hi,_=>hi.elim
theorem trK_of_wp {R W:Place→Prop} {K:St→Prop}: ∀(m:PM) (st:St),m.withinK R W→m.wp K st→∃b st',TrK R W b m st st'∧K st'
 | .kill b k,st,hi,h=>let ⟨st',t,hk⟩:=tr_of_sets k (st.kill b) hi h.2;⟨b,st', .kill h.1 t,hk⟩
 | .get p k,st,hi,h=>let ⟨b,st',t,hk⟩:=trK_of_wp (k (st.get p)) st (hi.2 _) h;⟨b,st', .get hi.1 t,hk⟩
 | .req _ k,st,hi,⟨hc,h⟩=>let ⟨b,st',t,hk⟩:=trK_of_wp k st (hi hc) h;⟨b,st', .req hc t,hk⟩
 | .done,_,hi,_=>hi.elim
 | .set _ _ _,_,hi,_=>hi.elim
 | .ex _ _,_,hi,_=>hi.elim
 | .all _,_,hi,_=>hi.elim
 | .fail,_,_,h=>h.elim
theorem wp_of_trK {R W:Place→Prop} {K:St→Prop} {b:Nat} {m:PM} {st st':St} (t:TrK R W b m st st') (hk:K st') :m.wp K st:=by
 induction t with
 | kill hb h=>exact ⟨hb,wp_of_tr h hk⟩
 | get _ _ ih=>exact ih hk
 | req hc _ ih=>exact ⟨hc,ih hk⟩
theorem kill_len (st:St) (b:Nat) :(st.kill b).s.length=st.s.length:=by simp [St.kill]
theorem TrK.keeps {R W:Place→Prop} {b:Nat} {m:PM} {st st':St} (t:TrK R W b m st st') :st'.s.length=st.s.length∧∀p,¬W p→st'.get p=(st.get p).kill b:=by
 induction t with
 | kill _ h=>exact ⟨by rw [h.keeps.1,kill_len],fun p hn=>by rw [h.keeps.2 p hn,St.kill_get]⟩
 | get _ _ ih=>exact ih
 | req _ _ ih=>exact ih
theorem TrK.local {R W:Place→Prop} {b:Nat} {m:PM} {st st':St} (t:TrK R W b m st st') : ∀u:St,u.s.length=st.s.length→(∀p,R p→st.get p=u.get p)→
  ∃u',TrK R W b m u u'∧∀p,st.get p=u.get p→st'.get p=u'.get p:=by
 induction t with
 | kill hb h=>
  intro u hl hr
  obtain ⟨u',t,k⟩:=h.local (u.kill b) (by rw [kill_len,kill_len,hl]) fun p hp=>by rw [St.kill_get,St.kill_get,hr p hp]
  exact ⟨u', .kill hb t,fun p e=>k p (by rw [St.kill_get,St.kill_get,e])⟩
 | get hp _ ih=>
  intro u hl hr
  obtain ⟨u',t,h⟩:=ih u hl hr
  exact ⟨u', .get hp (by rw [←hr _ hp];exact t),h⟩
 | req hc _ ih=>
  intro u hl hr
  obtain ⟨u',t,h⟩:=ih u hl hr
  exact ⟨u', .req hc t,h⟩
structure Item where
 m:PM
 R:Place→Prop
 W:Place→Prop
 kl:Bool
def TrI (x:Item) (st st':St) :Prop:=(x.kl=false∧Tr x.R x.W x.m st st')∨(x.kl=true∧∃b,TrK x.R x.W b x.m st st')
inductive TrL:List Item→St→St→Prop
 | nil {st:St}:TrL [] st st
 | cons {x:Item} {l:List Item} {st st1 st':St} (h:TrI x st st1) (k:TrL l st1 st') :TrL (x :: l) st st'
theorem TrI.local {x:Item} {st st':St} (t:TrI x st st') (u:St) (e:Eqv st u) : ∃u',TrI x u u'∧Eqv st' u':=by
 rcases t with ⟨hk,h⟩ | ⟨hk,b,h⟩
 ·obtain ⟨u1,t1,h1⟩:=h.local u e.1 fun p _=>e.2 p
  exact ⟨u1, .inl ⟨hk,t1⟩,by rw [t1.keeps.1,h.keeps.1,e.1],fun p=>h1 p (e.2 p)⟩
 ·obtain ⟨u1,t1,h1⟩:=h.local u e.1 fun p _=>e.2 p
  exact ⟨u1, .inr ⟨hk,b,t1⟩,by rw [t1.keeps.1,h.keeps.1,e.1],fun p=>h1 p (e.2 p)⟩
theorem TrL.local {l:List Item} {st st':St} (t:TrL l st st') : ∀u,Eqv st u→∃u',TrL l u u'∧Eqv st' u':=by
 induction t with
 | nil=>exact fun u e=>⟨u, .nil,e⟩
 | cons h _ ih=>
  intro u e
  obtain ⟨u1,t1,e1⟩:=h.local u e
  obtain ⟨u',t',h'⟩:=ih u1 e1
  exact ⟨u', .cons t1 t',h'⟩
def Apart (x y:Item) :Prop:=∀p,¬(x.W p∧y.W p)∧¬(x.W p∧y.R p)∧¬(x.R p∧y.W p)
theorem swap {x y:Item} (ha:Apart x y) {st s1 s2:St} (t1:Tr x.R x.W x.m st s1) (t2:Tr y.R y.W y.m s1 s2) : ∃u1 u2,Tr y.R y.W y.m st u1∧Tr x.R x.W x.m u1 u2∧Eqv s2 u2:=by
 have k1:=t1.keeps
 have k2:=t2.keeps
 obtain ⟨u1,v1,h1⟩:=t2.local st k1.1.symm fun p hp=>k1.2 p fun hw=>(ha p).2.1 ⟨hw,hp⟩
 have j1:=v1.keeps
 obtain ⟨u2,v2,h2⟩:=t1.local u1 j1.1 fun p hp=>(j1.2 p fun hw=>(ha p).2.2 ⟨hp,hw⟩).symm
 have j2:=v2.keeps
 refine ⟨u1,u2,v1,v2,by rw [j2.1,j1.1,k2.1,k1.1],fun p=> ?_⟩
 by_cases hy:y.W p
 ·have hx: ¬x.W p:=fun hx=>(ha p).1 ⟨hx,hy⟩
  rw [j2.2 p hx]
  exact h1 p (k1.2 p hx)
 ·rw [k2.2 p hy]
  exact h2 p (j1.2 p hy).symm
def Sw (y x:Item) :Prop:=∀st s1 s2,TrI y st s1→TrI x s1 s2→∃u1 u2,TrI x st u1∧TrI y u1 u2∧Eqv s2 u2
theorem sw_apart {y x:Item} (hy:y.kl=false) (hx:x.kl=false) (ha:Apart y x) :Sw y x:=by
 rintro st s1 s2 (⟨_,t1⟩ | ⟨h,_⟩) (⟨_,t2⟩ | ⟨h',_⟩)
 ·obtain ⟨u1,u2,v1,v2,e⟩:=swap ha t1 t2
  exact ⟨u1,u2, .inl ⟨hx,v1⟩, .inl ⟨hy,v2⟩,e⟩
 ·rw [hx] at h';cases h'
 ·rw [hy] at h;cases h
 ·rw [hy] at h;cases h
structure Nat1 (x:Item) (n d:Nat) (f:CV→Option CV) :Prop where
 kl:x.kl=false
 m:x.m= .get (.s n) fun v=>match f v with | some c=> .set (.s d) c .done | none=> .fail
 r:x.R (.s n)
 w:x.W (.s d)
theorem nat_tr {x:Item} {n d:Nat} {f:CV→Option CV} (h:Nat1 x n d f) {st s1:St}:Tr x.R x.W x.m st s1↔∃c,f (st.get (.s n)) =some c∧(Place.s d).ok st=true∧s1=st.set (.s d) c:=by
 rw [h.m]
 constructor
 ·intro t
  cases t with
  | get _ t=>
   dsimp only at t
   split at t
   ·rename_i c hc
    cases t with
    | set _ ho t=>cases t;exact ⟨c,hc,ho,rfl⟩
   ·cases t
 ·rintro ⟨c,hc,ho,rfl⟩
  refine .get h.r ?_
  rw [hc]
  exact .set h.w ho .done
theorem set_get_same {st:St} {d:Nat} {c:CV} (ho:(Place.s d).ok st=true) :(st.set (.s d) c).get (.s d) =c:=by
 rw [St.get_setSlot];simp only [Place.ok,decide_eq_true_eq] at ho;simp [ho]
theorem sw_before {y x:Item} {n d:Nat} {f:CV→Option CV} (hy:Nat1 y n d f) (hf: ∀b v c,f v=some c→f (v.kill b) =some (c.kill b)) (hx:x.kl=true) (h1: ¬x.R (.s d)) (h2: ¬x.W (.s d)) (h3: ¬x.W (.s n)) :Sw y x:=by
 rintro st s1 s2 (⟨_,t1⟩ | ⟨h,_⟩) (⟨h',_⟩ | ⟨_,b,t2⟩)
 ·rw [hx] at h';cases h'
 ·obtain ⟨c,hc,ho,rfl⟩:=(nat_tr hy).1 t1
  obtain ⟨u1,v1,k1⟩:=t2.local st (set_len _ _ _).symm fun p hp=>set_other _ fun e=>h1 (e▸hp)
  have e1:u1.get (.s n) =(st.get (.s n)).kill b:=v1.keeps.2 _ h3
  have hl:u1.s.length=st.s.length:=v1.keeps.1
  have ho':(Place.s d).ok u1=true:=by simp only [Place.ok,hl] at ho⊢;exact ho
  refine ⟨u1,u1.set (.s d) (c.kill b), .inr ⟨hx,b,v1⟩, .inl ⟨hy.kl,(nat_tr hy).2 ⟨c.kill b,by rw [e1];exact hf b _ _ hc,ho',rfl⟩⟩, ?_,fun p=> ?_⟩
  ·rw [set_len,hl,t2.keeps.1,set_len]
  ·by_cases e:p= .s d
   ·subst e
    rw [set_get_same ho',t2.keeps.2 _ h2,set_get_same ho]
   ·rw [set_other _ e]
    exact k1 p (set_other _ e)
 ·rw [hy.kl] at h;cases h
 ·rw [hy.kl] at h;cases h
theorem sw_behind {y x:Item} {n d:Nat} {f:CV→Option CV} (hx:Nat1 x n d f) (hf: ∀b v c,f (v.kill b) =some c→∃c0,f v=some c0∧c0.kill b=c) (hy:y.kl=true) (h1: ¬y.R (.s d)) (h2: ¬y.W (.s d)) (h3: ¬y.W (.s n)) :Sw y x:=by
 rintro st s1 s2 (⟨h,_⟩ | ⟨_,b,t1⟩) (⟨_,t2⟩ | ⟨h',_⟩)
 ·rw [hy] at h;cases h
 ·rw [hy] at h;cases h
 ·obtain ⟨c,hc,ho,rfl⟩:=(nat_tr hx).1 t2
  rw [t1.keeps.2 _ h3] at hc
  obtain ⟨c0,hc0,hk⟩:=hf b _ _ hc
  have hl:=t1.keeps.1
  have ho':(Place.s d).ok st=true:=by simp only [Place.ok,hl] at ho⊢;exact ho
  obtain ⟨u2,v2,k2⟩:=t1.local (st.set (.s d) c0) (set_len _ _ _) fun p hp=>(set_other c0 (fun e=>h1 (by rw [←e];exact hp))).symm
  refine ⟨st.set (.s d) c0,u2, .inl ⟨hx.kl,(nat_tr hx).2 ⟨c0,hc0,ho',rfl⟩⟩, .inr ⟨hy,b,v2⟩, ?_,fun p=> ?_⟩
  ·rw [v2.keeps.1,set_len,set_len,hl]
  ·by_cases e:p= .s d
   ·subst e
    rw [set_get_same ho,v2.keeps.2 _ h2,set_get_same ho',hk]
   ·rw [set_other _ e]
    exact k2 p (set_other _ e).symm
 ·rw [hx.kl] at h';cases h'
theorem bubble {x:Item} {l2:List Item}: ∀{l1:List Item} {st st':St},(∀y∈l1,Sw y x)→TrL (l1++x :: l2) st st'→∃st'',TrL (x :: (l1++l2)) st st''∧Eqv st' st''
 | [],_,st',_,t=>⟨st',t, .refl _⟩
 | y :: l1,st,st',ha, .cons h k=>by
  obtain ⟨st'',t,e⟩:=bubble (fun z hz=>ha z (List.mem_cons_of_mem _ hz)) k
  cases t with
  | cons hx kx=>
   obtain ⟨u1,u2,v1,v2,e2⟩:=ha y (by simp) _ _ _ h hx
   obtain ⟨u',t',e'⟩:=kx.local u2 e2
   exact ⟨u', .cons v1 (.cons v2 t'),e.trans e'⟩
section
variable {E:Ent} {ops:Array Oper} {l:List AOp} {okrs okws:Nat→Nat→Bool}
theorem any_sound {Qx:Exit→Act→World→Prop} {K:St→Prop} (item:Nat→Item) (bef:Nat→List Nat)
  (hfit: ∀(i:Nat) o,ops[i]? =some o→∃ao okr okw,AOpFits P ops o ao∧(item i).m=ao.pm (Runs P) okr okw)
  (hback: ∀(i:Nat) o,ops[i]? =some o→∀e∈o.after,Region.binds .any e=true→e.on<i)
  (hbef: ∀(i:Nat) o,ops[i]? =some o→∀k∈bef i,∃e∈o.after,Region.binds .any e=true∧(e.on=k∨k∈bef e.on))
  (hapart: ∀k i,k<i→i<ops.size→k∈bef i∨Sw (item k) (item i))
  (hQ: ∀st a w,K st→RR E st a w→Qx .normal a w) :
  ∀(n:Nat) (rem:List Nat) (listed:Array Bool) (st st':St) (a:Act) (w:World),rem.length=n→rem.Pairwise (· < ·)→listed.size=ops.size→
   (∀i,i<ops.size→(listed.getD i true=false↔i∈rem))→(∀i∈rem,i<ops.size)→(∀i,listed.getD i false=true→∀k∈bef i,listed.getD k false=true)→
   TrL (rem.map item) st st'→(∀u,Eqv st' u→∃v,Eqv u v∧K v)→RR E st a w→wpAny P .any ops Qx n listed a w:=by
 intro n
 induction n with
 | zero=>
  intro rem listed st st' a w hn _ hsz hun hlt _ ht hK hR
  have:rem= []:=by simpa using hn
  subst this
  cases ht
  obtain ⟨v,hv,hk⟩:=hK st (.refl _)
  refine ⟨?_,hQ v a w hk (hR.eqv hv)⟩
  rw [List.eq_nil_iff_forall_not_mem]
  intro i hi
  obtain ⟨h0,o,ho,_⟩:=mem_ready.1 hi
  have:=(hun i (Array.getElem?_eq_some_iff.1 ho).1).1 h0
  simp at this
 | succ n ih=>
  intro rem listed st st' a w hn hsort hsz hun hlt hclo ht hK hR
  have dflt: ∀i,i<ops.size→listed.getD i true=listed.getD i false:=by
   intro i hi;rw [←hsz] at hi;simp [hi]
  refine ⟨fun hnil=> ?_,fun i hi=> ?_⟩
  ·
   exfalso
   cases rem with
   | nil=>simp at hn
   | cons i r=>
    have hil:=hlt i (by simp)
    have:i∈Region.ready .any ops listed:=by
     rw [mem_ready]
     refine ⟨(hun i hil).2 (by simp),ops[i],by simp [hil],fun e he hb=> ?_⟩
     have hlt':=hback i ops[i] (by simp [hil]) e he hb
     cases hl:listed.getD e.on false with
     | true=>rfl
     | false=>
      rw [←dflt _ (by omega)] at hl
      have hm:=(hun e.on (by omega)).1 hl
      rcases List.mem_cons.1 hm with h | h
      ·omega
      ·have:=(List.pairwise_cons.1 hsort).1 _ h;omega
    rw [hnil] at this;cases this
  ·obtain ⟨h0,o,ho,hall⟩:=mem_ready.1 hi
   have hil:i<ops.size:=(Array.getElem?_eq_some_iff.1 ho).1
   obtain ⟨l1,l2,rfl⟩:=List.append_of_mem ((hun i hil).1 h0)
   have hs1:=List.pairwise_append.1 hsort
   have hl1: ∀k∈l1,k<i:=fun k hk=>hs1.2.2 k hk i (by simp)
   have hl2: ∀k∈l2,i<k:=fun k hk=>(List.pairwise_cons.1 hs1.2.1).1 k hk
   have hap: ∀y∈l1.map item,Sw y (item i):=by
    intro y hy
    obtain ⟨k,hk,rfl⟩:=List.mem_map.1 hy
    rcases hapart k i (hl1 k hk) hil with h | h
    ·exfalso
     have hk0:=(hun k (hlt k (by simp [hk]))).2 (by simp [hk])
     rw [dflt _ (hlt k (by simp [hk]))] at hk0
     obtain ⟨e,he,hb,h⟩:=hbef i o ho k h
     have hon:=hall e he hb
     rcases h with h | h
     ·rw [h,hk0] at hon;cases hon
     ·rw [hclo _ hon k h] at hk0;cases hk0
    ·exact h
   rw [List.map_append,List.map_cons] at ht
   obtain ⟨st'',t,heq⟩:=bubble hap ht
   cases t with
   | cons hx kx=>
    rename_i s2
    obtain ⟨ao,okr,okw,hf,hm⟩:=hfit i o ho
    have hw:(ao.pm (Runs P) okr okw).wp (fun s=>s=s2) st:=by
     rw [←hm]
     rcases hx with ⟨_,hx⟩ | ⟨_,b,hx⟩
     ·exact wp_of_tr hx rfl
     ·exact wp_of_trK hx rfl
    have hstep:=aop_sound hf hR hw Qx
    have fin: ∀a' w',(∃s',s'=s2∧RR E s' a' w')→wpAny P .any ops Qx n (listed.setIfInBounds i true) a' w':=by
     rintro a' w' ⟨s',rfl,hR'⟩
     refine ih (l1++l2) _ s' st'' a' w' (by simp at hn⊢;omega) ?_ (by simp [hsz]) ?_ ?_ ?_ (by rw [List.map_append];exact kx) (fun u hu=>hK u (heq.trans hu)) hR'
     ·rw [List.pairwise_append]
      exact ⟨hs1.1,(List.pairwise_cons.1 hs1.2.1).2,fun x hx y hy=>hs1.2.2 x hx y (by simp [hy])⟩
     ·intro j hj
      by_cases hij:i=j
      ·subst hij
       have h1:(listed.setIfInBounds i true).getD i true=true:=by simp [hsz,hil]
       rw [h1]
       constructor
       ·intro h;cases h
       ·intro h
        exfalso
        rcases List.mem_append.1 h with h | h
        ·have:=hl1 _ h;omega
        ·have:=hl2 _ h;omega
      ·rw [getD_set_ne true hij,hun j hj]
       simp only [List.mem_append,List.mem_cons]
       constructor
       ·rintro (h | h | h)
        ·exact .inl h
        ·exact absurd h.symm hij
        ·exact .inr h
       ·rintro (h | h)
        ·exact .inl h
        ·exact .inr (.inr h)
     ·intro j hj
      refine hlt j ?_
      simp only [List.mem_append,List.mem_cons] at hj⊢
      exact hj.imp id .inr
     ·intro j hj k hk
      by_cases hij:i=j
      ·subst hij
       obtain ⟨e,he,hb,h⟩:=hbef i o ho k hk
       have hon:=hall e he hb
       rcases h with h | h
       ·rw [←h];exact getD_set_true hon
       ·exact getD_set_true (hclo _ hon k h)
      ·rw [getD_set_ne false hij] at hj
       exact getD_set_true (hclo j hj k hk)
    unfold wpOp
    simp only [ho]
    split
    ·rename_i hw'
     rw [if_pos hw'] at hstep
     exact .inl (Oper.wp_mono fin hstep)
    ·rename_i hw'
     rw [if_neg hw'] at hstep
     exact fin _ _ hstep
end
end B
end Go.Proofs.YtmkkljbfmdngfaaGreatDoor
