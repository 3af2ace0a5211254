/- Operations that draw their order: what the lexical order does, every order does. No condition. -/
import Derived.Test.YtmkkljbfmdngfaaGreatDoorB13
set_option linter.all false
namespace Go.Proofs.YtmkkljbfmdngfaaGreatDoor
namespace B
variable {P:Program}
inductive Tr (R W:Place→Prop) :PM→St→St→Prop
 | done {st:St}:Tr R W .done st st
 | get {p:Place} {k:CV→PM} {st st':St} (hp:R p) (h:Tr R W (k (st.get p)) st st') :Tr R W (.get p k) st st'
 | set {p:Place} {v:CV} {k:PM} {st st':St} (hp:W p) (ho:p.ok st=true) (h:Tr R W k (st.set p v) st') :Tr R W (.set p v k) st st'
 | ex {β:Type} {k:β→PM} {st st':St} (x:β) (h:Tr R W (k x) st st') :Tr R W (.ex β k) st st'
 | req {c:Prop} {k:PM} {st st':St} (hc:c) (h:Tr R W k st st') :Tr R W (.req c k) st st'
def PM.within (R W:Place→Prop) :PM→Prop
 | .done=>True
 | .kill _ k=>W (.b 4999)∧k.within R W
 | .get p k=>R p∧∀v,(k v).within R W
 | .set p _ k=>W p∧k.within R W
 | .ex _ k=>∀x,(k x).within R W
 | .req c k=>c→k.within R W
 | .all _=>False
 | .fail=>True
theorem within_mono {R W R' W':Place→Prop} (hr: ∀p,R p→R' p) (hw: ∀p,W p→W' p) : ∀m:PM,m.within R W→m.within R' W'
 | .done,_=>trivial
 | .kill _ k,h=>⟨hw _ h.1,within_mono hr hw k h.2⟩
 | .get _ k,h=>⟨hr _ h.1,fun v=>within_mono hr hw (k v) (h.2 v)⟩
 | .set _ _ k,h=>⟨hw _ h.1,within_mono hr hw k h.2⟩
 | .ex _ k,h=>fun x=>within_mono hr hw (k x) (h x)
 | .req _ k,h=>fun c=>within_mono hr hw k (h c)
 | .all _,h=>h.elim
 | .fail,_=>trivial
theorem tr_of_wp {R W:Place→Prop} {K:St→Prop} (h0: ¬W (.b 4999)) : ∀(m:PM) (st:St),m.within R W→m.wp K st→∃st',Tr R W m st st'∧K st'
 | .done,st,_,h=>⟨st, .done,h⟩
 | .kill _ _,_,hi,_=>(h0 hi.1).elim
 | .get p k,st,hi,h=>let ⟨st',t,hk⟩:=tr_of_wp h0 (k (st.get p)) st (hi.2 _) h;⟨st', .get hi.1 t,hk⟩
 | .set p v k,st,hi,h=>let ⟨st',t,hk⟩:=tr_of_wp h0 k (st.set p v) hi.2 h.2;⟨st', .set hi.1 h.1 t,hk⟩
 | .ex _ k,st,hi,⟨x,h⟩=>let ⟨st',t,hk⟩:=tr_of_wp h0 (k x) st (hi x) h;⟨st', .ex x t,hk⟩
 | .req _ k,st,hi,⟨hc,h⟩=>let ⟨st',t,hk⟩:=tr_of_wp h0 k st (hi hc) h;⟨st', .req hc t,hk⟩
 | .all _,_,hi,_=>hi.elim
 | .fail,_,_,h=>h.elim
theorem wp_of_tr {R W:Place→Prop} {K:St→Prop} {m:PM} {st st':St} (t:Tr R W m st st') (hk:K st') :m.wp K st:=by
 induction t with
 | done=>exact hk
 | get _ _ ih=>exact ih hk
 | set _ ho _ ih=>exact ⟨ho,ih hk⟩
 | ex x _ ih=>exact ⟨x,ih hk⟩
 | req hc _ ih=>exact ⟨hc,ih hk⟩
theorem set_len (st:St) (p:Place) (v:CV) :(st.set p v).s.length=st.s.length:=by
 cases p with
 | s n=>simp [St.set]
 | b n=>cases v<;>rfl
theorem set_other {st:St} {p q:Place} (v:CV) (h:q≠p) :(st.set p v).get q=st.get q:=by
 cases p with
 | s n=>rw [St.get_setSlot,if_neg (fun e=>h e.1)]
 | b n=>
  cases v with
  | agg cs=>rw [St.get_setBox,if_neg h]
  | _=>rfl
theorem set_same {st u:St} (p q:Place) (v:CV) (hl:u.s.length=st.s.length) (h:st.get q=u.get q) :(st.set p v).get q=(u.set p v).get q:=by
 cases p with
 | s n=>rw [St.get_setSlot,St.get_setSlot,hl,h]
 | b n=>
  cases v with
  | agg cs=>rw [St.get_setBox,St.get_setBox,h]
  | _=>exact h
theorem Tr.keeps {R W:Place→Prop} {m:PM} {st st':St} (t:Tr R W m st st') :st'.s.length=st.s.length∧∀p,¬W p→st'.get p=st.get p:=by
 induction t with
 | done=>exact ⟨rfl,fun _ _=>rfl⟩
 | get _ _ ih=>exact ih
 | set hp _ _ ih=>exact ⟨by rw [ih.1,set_len],fun p hn=>by rw [ih.2 p hn];exact set_other _ fun e=>hn (e▸hp)⟩
 | ex _ _ ih=>exact ih
 | req _ _ ih=>exact ih
theorem Tr.local {R W:Place→Prop} {m:PM} {st st':St} (t:Tr R W m st st') : ∀u:St,u.s.length=st.s.length→(∀p,R p→st.get p=u.get p)→
  ∃u',Tr R W m u u'∧∀p,st.get p=u.get p→st'.get p=u'.get p:=by
 induction t with
 | done=>exact fun u _ _=>⟨u, .done,fun _ h=>h⟩
 | get hp _ ih=>
  intro u hl hr
  obtain ⟨u',t,h⟩:=ih u hl hr
  exact ⟨u', .get hp (by rw [←hr _ hp];exact t),h⟩
 | @set p v k st st' hp ho _ ih=>
  intro u hl hr
  obtain ⟨u',t,h⟩:=ih (u.set p v) (by rw [set_len,set_len,hl]) fun q hq=>set_same p q v hl (hr q hq)
  refine ⟨u', .set hp ?_ t,fun q hq=>h q (set_same p q v hl hq)⟩
  cases p with
  | s n=>simp only [Place.ok,hl] at ho⊢;exact ho
  | b n=>rfl
 | ex x _ ih=>
  intro u hl hr
  obtain ⟨u',t,h⟩:=ih u hl hr
  exact ⟨u', .ex x t,h⟩
 | req hc _ ih=>
  intro u hl hr
  obtain ⟨u',t,h⟩:=ih u hl hr
  exact ⟨u', .req hc t,h⟩
def Eqv (st u:St) :Prop:=u.s.length=st.s.length∧∀p,st.get p=u.get p
theorem Eqv.trans {a b c:St} (h:Eqv a b) (k:Eqv b c) :Eqv a c:=⟨by rw [k.1,h.1],fun p=>by rw [h.2,k.2]⟩
theorem Eqv.symm {a b:St} (h:Eqv a b) :Eqv b a:=⟨h.1.symm,fun p=>(h.2 p).symm⟩
theorem Eqv.refl (a:St) :Eqv a a:=⟨rfl,fun _=>rfl⟩
theorem SR.eqv {Γ:Froz} {ρ:Nat→Role} {bl:Nat→Nat} {st u:St} {tmps:Array Value} {w:World} (h:SR Γ ρ bl st tmps w) (e:Eqv st u) :SR Γ ρ bl u tmps w:=by
 refine h.same ?_ ?_
 ·refine List.ext_getElem e.1 fun n h1 h2=> ?_
  have:=e.2 (.s n)
  simpa [St.get,List.getD_eq_getElem?_getD,h1,h2] using this.symm
 ·intro b
  have:=e.2 (.b b)
  simp only [St.get] at this
  cases e1:st.bx b<;>cases e2:u.bx b<;>rw [e1,e2] at this<;>first | rfl | (cases this;done) | (cases this;rfl)
theorem RR.eqv {E:Ent} {st u:St} {a:Act} {w:World} (h:RR E st a w) (e:Eqv st u) :RR E u a w:=by
 obtain ⟨hd,Γ,ρ,bl,hs,hf,hb⟩:=h
 refine ⟨hd,Γ,ρ,bl,hs.eqv e,hf,fun b hx=>⟨?_,(hb b hx).2⟩⟩
 obtain ⟨cs,hc⟩:=Option.isSome_iff_exists.1 (hb b hx).1
 have:=e.2 (.b b)
 rw [St.get_bx hc] at this
 simp only [St.get] at this
 cases e2:u.bx b with
 | some _=>rfl
 | none=>rw [e2] at this;cases this
inductive TrK (R W:Place→Prop) (b:Nat) :PM→St→St→Prop
 | kill {k:PM} {st st':St} (hb:mvb b=true) (h:Tr R W k (st.kill b) st') :TrK R W b (.kill b k) st st'
 | get {p:Place} {k:CV→PM} {st st':St} (hp:R p) (h:TrK R W b (k (st.get p)) st st') :TrK R W b (.get p k) st st'
 | req {c:Prop} {k:PM} {st st':St} (hc:c) (h:TrK R W b k st st') :TrK R W b (.req c k) st st'
def PM.sets (W:Place→Prop) :PM→Prop
 | .done=>True
 | .set p _ k=>W p∧k.sets W
 | _=>False
def PM.withinK (R W:Place→Prop) :PM→Prop
 | .kill _ k=>k.sets W
 | .get p k=>R p∧∀v,(k v).withinK R W
 | .req c k=>c→k.withinK R W
 | .fail=>True
 | _=>False
theorem tr_of_sets {R W:Place→Prop} {K:St→Prop}: ∀(m:PM) (st:St),m.sets W→m.wp K st→∃st',Tr R W m st st'∧K st'
 | .done,st,_,h=>⟨st, .done,h⟩
 | .set p v k,st,hi,h=>let ⟨st',t,hk⟩:=tr_of_sets k (st.set p v) hi.2 h.2;⟨st', .set hi.1 h.1 t,hk⟩
 | .kill _ _,_,hi,_=>hi.elim
 | .get _ _,_,hi,_=>hi.elim
 | .ex _ _,_,hi,_=>hi.elim
 | .req _ _,_,hi,_=>hi.elim
 | .all _,_,hi,_=>hi.elim
 | .fail,_,hi,_=>hi.elim
theorem trK_of_wp {R W:Place→Prop} {K:St→Prop}: ∀(m:PM) (st:St),m.withinK R W→m.wp K st→∃b st',TrK R W b m st st'∧K st'
 | .kill b k,st,hi,h=>let ⟨st',t,hk⟩:=tr_of_sets k (st.kill b) hi h.2;⟨b,st', .kill h.1 t,hk⟩
 | .get p k,st,hi,h=>let ⟨b,st',t,hk⟩:=trK_of_wp (k (st.get p)) st (hi.2 _) h;⟨b,st', .get hi.1 t,hk⟩
 | .req _ k,st,hi,⟨hc,h⟩=>let ⟨b,st',t,hk⟩:=trK_of_wp k st (hi hc) h;⟨b,st', .req hc t,hk⟩
 | .done,_,hi,_=>hi.elim
 | .set _ _ _,_,hi,_=>hi.elim
 | .ex _ _,_,hi,_=>hi.elim
 | .all _,_,hi,_=>hi.elim
 | .fail,_,_,h=>h.elim
theorem wp_of_trK {R W:Place→Prop} {K:St→Prop} {b:Nat} {m:PM} {st st':St} (t:TrK R W b m st st') (hk:K st') :m.wp K st:=by
 induction t with
 | kill hb h=>exact ⟨hb,wp_of_tr h hk⟩
 | get _ _ ih=>exact ih hk
 | req hc _ ih=>exact ⟨hc,ih hk⟩
theorem kill_len (st:St) (b:Nat) :(st.kill b).s.length=st.s.length:=by simp [St.kill]
theorem TrK.keeps {R W:Place→Prop} {b:Nat} {m:PM} {st st':St} (t:TrK R W b m st st') :st'.s.length=st.s.length∧∀p,¬W p→st'.get p=(st.get p).kill b:=by
 induction t with
 | kill _ h=>exact ⟨by rw [h.keeps.1,kill_len],fun p hn=>by rw [h.keeps.2 p hn,St.kill_get]⟩
 | get _ _ ih=>exact ih
 | req _ _ ih=>exact ih
theorem TrK.local {R W:Place→Prop} {b:Nat} {m:PM} {st st':St} (t:TrK R W b m st st') : ∀u:St,u.s.length=st.s.length→(∀p,R p→st.get p=u.get p)→
  ∃u',TrK R W b m u u'∧∀p,st.get p=u.get p→st'.get p=u'.get p:=by
 induction t with
 | kill hb h=>
  intro u hl hr
  obtain ⟨u',t,k⟩:=h.local (u.kill b) (by rw [kill_len,kill_len,hl]) fun p hp=>by rw [St.kill_get,St.kill_get,hr p hp]
  exact ⟨u', .kill hb t,fun p e=>k p (by rw [St.kill_get,St.kill_get,e])⟩
 | get hp _ ih=>
  intro u hl hr
  obtain ⟨u',t,h⟩:=ih u hl hr
  exact ⟨u', .get hp (by rw [←hr _ hp];exact t),h⟩
 | req hc _ ih=>
  intro u hl hr
  obtain ⟨u',t,h⟩:=ih u hl hr
  exact ⟨u', .req hc t,h⟩
structure Item where
 m:PM
 R:Place→Prop
 W:Place→Prop
 kl:Bool
def TrI (x:Item) (st st':St) :Prop:=(x.kl=false∧Tr x.R x.W x.m st st')∨(x.kl=true∧∃b,TrK x.R x.W b x.m st st')
inductive TrL:List Item→St→St→Prop
 | nil {st:St}:TrL [] st st
 | cons {x:Item} {l:List Item} {st st1 st':St} (h:TrI x st st1) (k:TrL l st1 st') :TrL (x :: l) st st'
theorem TrI.local {x:Item} {st st':St} (t:TrI x st st') (u:St) (e:Eqv st u) : ∃u',TrI x u u'∧Eqv st' u':=by
 rcases t with ⟨hk,h⟩ | ⟨hk,b,h⟩
 ·obtain ⟨u1,t1,h1⟩:=h.local u e.1 fun p _=>e.2 p
  exact ⟨u1, .inl ⟨hk,t1⟩,by rw [t1.keeps.1,h.keeps.1,e.1],fun p=>h1 p (e.2 p)⟩
 ·obtain ⟨u1,t1,h1⟩:=h.local u e.1 fun p _=>e.2 p
  exact ⟨u1, .inr ⟨hk,b,t1⟩,by rw [t1.keeps.1,h.keeps.1,e.1],fun p=>h1 p (e.2 p)⟩
theorem TrL.local {l:List Item} {st st':St} (t:TrL l st st') : ∀u,Eqv st u→∃u',TrL l u u'∧Eqv st' u':=by
 induction t with
 | nil=>exact fun u e=>⟨u, .nil,e⟩
 | cons h _ ih=>
  intro u e
  obtain ⟨u1,t1,e1⟩:=h.local u e
  obtain ⟨u',t',h'⟩:=ih u1 e1
  exact ⟨u', .cons t1 t',h'⟩
def Apart (x y:Item) :Prop:=∀p,¬(x.W p∧y.W p)∧¬(x.W p∧y.R p)∧¬(x.R p∧y.W p)
theorem swap {x y:Item} (ha:Apart x y) {st s1 s2:St} (t1:Tr x.R x.W x.m st s1) (t2:Tr y.R y.W y.m s1 s2) : ∃u1 u2,Tr y.R y.W y.m st u1∧Tr x.R x.W x.m u1 u2∧Eqv s2 u2:=by
 have k1:=t1.keeps
 have k2:=t2.keeps
 obtain ⟨u1,v1,h1⟩:=t2.local st k1.1.symm fun p hp=>k1.2 p fun hw=>(ha p).2.1 ⟨hw,hp⟩
 have j1:=v1.keeps
 obtain ⟨u2,v2,h2⟩:=t1.local u1 j1.1 fun p hp=>(j1.2 p fun hw=>(ha p).2.2 ⟨hp,hw⟩).symm
 have j2:=v2.keeps
 refine ⟨u1,u2,v1,v2,by rw [j2.1,j1.1,k2.1,k1.1],fun p=> ?_⟩
 by_cases hy:y.W p
 ·have hx: ¬x.W p:=fun hx=>(ha p).1 ⟨hx,hy⟩
  rw [j2.2 p hx]
  exact h1 p (k1.2 p hx)
 ·rw [k2.2 p hy]
  exact h2 p (j1.2 p hy).symm
def Sw (y x:Item) :Prop:=∀st s1 s2,TrI y st s1→TrI x s1 s2→∃u1 u2,TrI x st u1∧TrI y u1 u2∧Eqv s2 u2
theorem sw_apart {y x:Item} (hy:y.kl=false) (hx:x.kl=false) (ha:Apart y x) :Sw y x:=by
 rintro st s1 s2 (⟨_,t1⟩ | ⟨h,_⟩) (⟨_,t2⟩ | ⟨h',_⟩)
 ·obtain ⟨u1,u2,v1,v2,e⟩:=swap ha t1 t2
  exact ⟨u1,u2, .inl ⟨hx,v1⟩, .inl ⟨hy,v2⟩,e⟩
 ·rw [hx] at h';cases h'
 ·rw [hy] at h;cases h
 ·rw [hy] at h;cases h
structure Nat1 (x:Item) (n d:Nat) (f:CV→Option CV) :Prop where
 kl:x.kl=false
 m:x.m= .get (.s n) fun v=>match f v with | some c=> .set (.s d) c .done | none=> .fail
 r:x.R (.s n)
 w:x.W (.s d)
theorem nat_tr {x:Item} {n d:Nat} {f:CV→Option CV} (h:Nat1 x n d f) {st s1:St}:Tr x.R x.W x.m st s1↔∃c,f (st.get (.s n)) =some c∧(Place.s d).ok st=true∧s1=st.set (.s d) c:=by
 rw [h.m]
 constructor
 ·intro t
  cases t with
  | get _ t=>
   dsimp only at t
   split at t
   ·rename_i c hc
    cases t with
    | set _ ho t=>cases t;exact ⟨c,hc,ho,rfl⟩
   ·cases t
 ·rintro ⟨c,hc,ho,rfl⟩
  refine .get h.r ?_
  rw [hc]
  exact .set h.w ho .done
theorem set_get_same {st:St} {d:Nat} {c:CV} (ho:(Place.s d).ok st=true) :(st.set (.s d) c).get (.s d) =c:=by
 rw [St.get_setSlot];simp only [Place.ok,decide_eq_true_eq] at ho;simp [ho]
theorem sw_before {y x:Item} {n d:Nat} {f:CV→Option CV} (hy:Nat1 y n d f) (hf: ∀b v c,f v=some c→f (v.kill b) =some (c.kill b)) (hx:x.kl=true) (h1: ¬x.R (.s d)) (h2: ¬x.W (.s d)) (h3: ¬x.W (.s n)) :Sw y x:=by
 rintro st s1 s2 (⟨_,t1⟩ | ⟨h,_⟩) (⟨h',_⟩ | ⟨_,b,t2⟩)
 ·rw [hx] at h';cases h'
 ·obtain ⟨c,hc,ho,rfl⟩:=(nat_tr hy).1 t1
  obtain ⟨u1,v1,k1⟩:=t2.local st (set_len _ _ _).symm fun p hp=>set_other _ fun e=>h1 (e▸hp)
  have e1:u1.get (.s n) =(st.get (.s n)).kill b:=v1.keeps.2 _ h3
  have hl:u1.s.length=st.s.length:=v1.keeps.1
  have ho':(Place.s d).ok u1=true:=by simp only [Place.ok,hl] at ho⊢;exact ho
  refine ⟨u1,u1.set (.s d) (c.kill b), .inr ⟨hx,b,v1⟩, .inl ⟨hy.kl,(nat_tr hy).2 ⟨c.kill b,by rw [e1];exact hf b _ _ hc,ho',rfl⟩⟩, ?_,fun p=> ?_⟩
  ·rw [set_len,hl,t2.keeps.1,set_len]
  ·by_cases e:p= .s d
   ·subst e
    rw [set_get_same ho',t2.keeps.2 _ h2,set_get_same ho]
   ·rw [set_other _ e]
    exact k1 p (set_other _ e)
 ·rw [hy.kl] at h;cases h
 ·rw [hy.kl] at h;cases h
theorem sw_behind {y x:Item} {n d:Nat} {f:CV→Option CV} (hx:Nat1 x n d f) (hf: ∀b v c,f (v.kill b) =some c→∃c0,f v=some c0∧c0.kill b=c) (hy:y.kl=true) (h1: ¬y.R (.s d)) (h2: ¬y.W (.s d)) (h3: ¬y.W (.s n)) :Sw y x:=by
 rintro st s1 s2 (⟨h,_⟩ | ⟨_,b,t1⟩) (⟨_,t2⟩ | ⟨h',_⟩)
 ·rw [hy] at h;cases h
 ·rw [hy] at h;cases h
 ·obtain ⟨c,hc,ho,rfl⟩:=(nat_tr hx).1 t2
  rw [t1.keeps.2 _ h3] at hc
  obtain ⟨c0,hc0,hk⟩:=hf b _ _ hc
  have hl:=t1.keeps.1
  have ho':(Place.s d).ok st=true:=by simp only [Place.ok,hl] at ho⊢;exact ho
  obtain ⟨u2,v2,k2⟩:=t1.local (st.set (.s d) c0) (set_len _ _ _) fun p hp=>(set_other c0 (fun e=>h1 (by rw [←e];exact hp))).symm
  refine ⟨st.set (.s d) c0,u2, .inl ⟨hx.kl,(nat_tr hx).2 ⟨c0,hc0,ho',rfl⟩⟩, .inr ⟨hy,b,v2⟩, ?_,fun p=> ?_⟩
  ·rw [v2.keeps.1,set_len,set_len,hl]
  ·by_cases e:p= .s d
   ·subst e
    rw [set_get_same ho,v2.keeps.2 _ h2,set_get_same ho',hk]
   ·rw [set_other _ e]
    exact k2 p (set_other _ e).symm
 ·rw [hx.kl] at h';cases h'
theorem bubble {x:Item} {l2:List Item}: ∀{l1:List Item} {st st':St},(∀y∈l1,Sw y x)→TrL (l1++x :: l2) st st'→∃st'',TrL (x :: (l1++l2)) st st''∧Eqv st' st''
 | [],_,st',_,t=>⟨st',t, .refl _⟩
 | y :: l1,st,st',ha, .cons h k=>by
  obtain ⟨st'',t,e⟩:=bubble (fun z hz=>ha z (List.mem_cons_of_mem _ hz)) k
  cases t with
  | cons hx kx=>
   obtain ⟨u1,u2,v1,v2,e2⟩:=ha y (by simp) _ _ _ h hx
   obtain ⟨u',t',e'⟩:=kx.local u2 e2
   exact ⟨u', .cons v1 (.cons v2 t'),e.trans e'⟩
section
variable {E:Ent} {ops:Array Oper} {l:List AOp} {okrs okws:Nat→Nat→Bool}
theorem any_sound {Qx:Exit→Act→World→Prop} {K:St→Prop} (item:Nat→Item) (bef:Nat→List Nat)
  (hfit: ∀(i:Nat) o,ops[i]? =some o→∃ao okr okw,AOpFits P ops o ao∧(item i).m=ao.pm (Runs P) okr okw)
  (hback: ∀(i:Nat) o,ops[i]? =some o→∀e∈o.after,Region.binds .any e=true→e.on<i)
  (hbef: ∀(i:Nat) o,ops[i]? =some o→∀k∈bef i,∃e∈o.after,Region.binds .any e=true∧(e.on=k∨k∈bef e.on))
  (hapart: ∀k i,k<i→i<ops.size→k∈bef i∨Sw (item k) (item i))
  (hQ: ∀st a w,K st→RR E st a w→Qx .normal a w) :
  ∀(n:Nat) (rem:List Nat) (listed:Array Bool) (st st':St) (a:Act) (w:World),rem.length=n→rem.Pairwise (· < ·)→listed.size=ops.size→
   (∀i,i<ops.size→(listed.getD i true=false↔i∈rem))→(∀i∈rem,i<ops.size)→(∀i,listed.getD i false=true→∀k∈bef i,listed.getD k false=true)→
   TrL (rem.map item) st st'→(∀u,Eqv st' u→∃v,Eqv u v∧K v)→RR E st a w→wpAny P .any ops Qx n listed a w:=by
 intro n
 induction n with
 | zero=>
  intro rem listed st st' a w hn _ hsz hun hlt _ ht hK hR
  have:rem= []:=by simpa using hn
  subst this
  cases ht
  obtain ⟨v,hv,hk⟩:=hK st (.refl _)
  refine ⟨?_,hQ v a w hk (hR.eqv hv)⟩
  rw [List.eq_nil_iff_forall_not_mem]
  intro i hi
  obtain ⟨h0,o,ho,_⟩:=mem_ready.1 hi
  have:=(hun i (Array.getElem?_eq_some_iff.1 ho).1).1 h0
  simp at this
 | succ n ih=>
  intro rem listed st st' a w hn hsort hsz hun hlt hclo ht hK hR
  have dflt: ∀i,i<ops.size→listed.getD i true=listed.getD i false:=by
   intro i hi;rw [←hsz] at hi;simp [hi]
  refine ⟨fun hnil=> ?_,fun i hi=> ?_⟩
  ·
   exfalso
   cases rem with
   | nil=>simp at hn
   | cons i r=>
    have hil:=hlt i (by simp)
    have:i∈Region.ready .any ops listed:=by
     rw [mem_ready]
     refine ⟨(hun i hil).2 (by simp),ops[i],by simp [hil],fun e he hb=> ?_⟩
     have hlt':=hback i ops[i] (by simp [hil]) e he hb
     cases hl:listed.getD e.on false with
     | true=>rfl
     | false=>
      rw [←dflt _ (by omega)] at hl
      have hm:=(hun e.on (by omega)).1 hl
      rcases List.mem_cons.1 hm with h | h
      ·omega
      ·have:=(List.pairwise_cons.1 hsort).1 _ h;omega
    rw [hnil] at this;cases this
  ·obtain ⟨h0,o,ho,hall⟩:=mem_ready.1 hi
   have hil:i<ops.size:=(Array.getElem?_eq_some_iff.1 ho).1
   obtain ⟨l1,l2,rfl⟩:=List.append_of_mem ((hun i hil).1 h0)
   have hs1:=List.pairwise_append.1 hsort
   have hl1: ∀k∈l1,k<i:=fun k hk=>hs1.2.2 k hk i (by simp)
   have hl2: ∀k∈l2,i<k:=fun k hk=>(List.pairwise_cons.1 hs1.2.1).1 k hk
   have hap: ∀y∈l1.map item,Sw y (item i):=by
    intro y hy
    obtain ⟨k,hk,rfl⟩:=List.mem_map.1 hy
    rcases hapart k i (hl1 k hk) hil with h | h
    ·exfalso
     have hk0:=(hun k (hlt k (by simp [hk]))).2 (by simp [hk])
     rw [dflt _ (hlt k (by simp [hk]))] at hk0
     obtain ⟨e,he,hb,h⟩:=hbef i o ho k h
     have hon:=hall e he hb
     rcases h with h | h
     ·rw [h,hk0] at hon;cases hon
     ·rw [hclo _ hon k h] at hk0;cases hk0
    ·exact h
   rw [List.map_append,List.map_cons] at ht
   obtain ⟨st'',t,heq⟩:=bubble hap ht
   cases t with
   | cons hx kx=>
    rename_i s2
    obtain ⟨ao,okr,okw,hf,hm⟩:=hfit i o ho
    have hw:(ao.pm (Runs P) okr okw).wp (fun s=>s=s2) st:=by
     rw [←hm]
     rcases hx with ⟨_,hx⟩ | ⟨_,b,hx⟩
     ·exact wp_of_tr hx rfl
     ·exact wp_of_trK hx rfl
    have hstep:=aop_sound hf hR hw Qx
    have fin: ∀a' w',(∃s',s'=s2∧RR E s' a' w')→wpAny P .any ops Qx n (listed.setIfInBounds i true) a' w':=by
     rintro a' w' ⟨s',rfl,hR'⟩
     refine ih (l1++l2) _ s' st'' a' w' (by simp at hn⊢;omega) ?_ (by simp [hsz]) ?_ ?_ ?_ (by rw [List.map_append];exact kx) (fun u hu=>hK u (heq.trans hu)) hR'
     ·rw [List.pairwise_append]
      exact ⟨hs1.1,(List.pairwise_cons.1 hs1.2.1).2,fun x hx y hy=>hs1.2.2 x hx y (by simp [hy])⟩
     ·intro j hj
      by_cases hij:i=j
      ·subst hij
       have h1:(listed.setIfInBounds i true).getD i true=true:=by simp [hsz,hil]
       rw [h1]
       constructor
       ·intro h;cases h
       ·intro h
        exfalso
        rcases List.mem_append.1 h with h | h
        ·have:=hl1 _ h;omega
        ·have:=hl2 _ h;omega
      ·rw [getD_set_ne true hij,hun j hj]
       simp only [List.mem_append,List.mem_cons]
       constructor
       ·rintro (h | h | h)
        ·exact .inl h
        ·exact absurd h.symm hij
        ·exact .inr h
       ·rintro (h | h)
        ·exact .inl h
        ·exact .inr (.inr h)
     ·intro j hj
      refine hlt j ?_
      simp only [List.mem_append,List.mem_cons] at hj⊢
      exact hj.imp id .inr
     ·intro j hj k hk
      by_cases hij:i=j
      ·subst hij
       obtain ⟨e,he,hb,h⟩:=hbef i o ho k hk
       have hon:=hall e he hb
       rcases h with h | h
       ·rw [←h];exact getD_set_true hon
       ·exact getD_set_true (hclo _ hon k h)
      ·rw [getD_set_ne false hij] at hj
       exact getD_set_true (hclo j hj k hk)
    unfold wpOp
    simp only [ho]
    split
    ·rename_i hw'
     rw [if_pos hw'] at hstep
     exact .inl (Oper.wp_mono fin hstep)
    ·rename_i hw'
     rw [if_neg hw'] at hstep
     exact fin _ _ hstep
end
end B
end Go.Proofs.YtmkkljbfmdngfaaGreatDoor
namespace Go.Proofs.YtmkkljbfmdngfaaGreatDoor
namespace B
variable {P:Program}
def AX.sl:AX→List Nat
 | .t n=>[n]
 | .c _=>[]
def optSl:Option AX→List Nat
 | some x=>x.sl
 | none=>[]
def AI.rd:AI→List Nat
 | .mov x _ _ | .box _ _ x | .load _ _ x _ | .nilCk x | .slNil _ x | .ptrNil _ x | .not x | .neg x | .convInt _ x | .convId x | .toBytes x | .toStr x | .stringish x | .slice0 _ x | .fieldA _ x | .extract x _ _ | .len x | .lenS x | .clr _ x | .frzM x | .movT x=>x.sl
 | .pick c a b=>c.sl++(a.sl++b.sl)
 | .alloc _ | .bad | .rowN _ | .rowNK _ _=>[]
 | .row0 _ x | .rowB x | .rowS _ _ x | .loadF _ x=>x.sl
 | .appR _ _ x y | .appO _ _ x y=>x.sl++y.sl
 | .build _ parts=>parts.flatMap fun p=>p.2.2.sl
 | .buildSl _ parts | .mkfn _ parts=>parts.flatMap AX.sl
 | .store _ _ a x _=>a.sl++x.sl
 | .bin _ _ x y | .eqAgg _ _ x y | .idxA _ x y | .idxS x y | .append _ _ x y | .mm _ x y=>x.sl++y.sl
 | .mm3 x y z=>x.sl++y.sl++z.sl
 | .slice _ x lo hi | .sliceS x lo hi=>x.sl++(optSl lo++optSl hi)
 | .call _ args _=>args.flatMap fun p=>p.1.sl
 | .callv x args=>x.sl++args.flatMap fun p=>p.1.sl
def AI.strips:AI→List Nat
 | .mov x xf _=>if xf then x.sl else []
 | .store false _ _ x _=>x.sl
 | .stringish x=>x.sl
 | .extract x _ cp=>if cp then [] else x.sl
 | .movT x=>x.sl
 | .append _ _ s _=>s.sl
 | .call _ args (some i)=>((args.getD i (.c .junk,none)).1).sl
 | _=>[]
def AI.noAll:AI→Bool
 | .slNil _ _=>false
 | .rowN _=>false
 | .row0 _ _=>false
 | .rowB _=>false
 | .appR _ _ _ _=>false
 | .rowS _ _ _=>false
 | .loadF _ _=>false
 | .frzM _=>false
 | .movT _=>false
 | .rowNK _ _=>false
 | .appO _ _ _ _=>false
 | _=>true
def RP (rd:List Nat) (okr:Nat→Bool) (dst:Option Nat) :Place→Prop
 | .s n=>n∈rd
 | .b b=>okr b=true∨dst=some b
def WP (wr:List Nat) (okw:Nat→Bool) (dst:Option Nat) :Place→Prop
 | .s n=>n∈wr∨dst=some n
 | .b b=>okw b=true∨dst=some b
section
variable {R W:Place→Prop}
theorem in_ev {x:AX} {k:CV→PM} (h: ∀n∈x.sl,R (.s n)) (hk: ∀v,(k v).within R W) :(x.ev k).within R W:=by
 cases x with
 | t n=>exact ⟨h n (by simp [AX.sl]),hk⟩
 | c v=>exact hk v
theorem in_evL: ∀{xs:List AX} {k:List CV→PM},(∀n∈xs.flatMap AX.sl,R (.s n))→(∀vs,(k vs).within R W)→(evL xs k).within R W
 | [],k,_,hk=>hk []
 | x :: r,k,h,hk=>in_ev (fun n hn=>h n (by simp [hn])) fun v=>in_evL (fun n hn=>h n (by rw [List.flatMap_cons];simp [hn])) fun vs=>hk _
theorem in_optEv {x:Option AX} {k:Option CV→PM} (h: ∀n∈optSl x,R (.s n)) (hk: ∀v,(k v).within R W) :(optEv x k).within R W:=by
 cases x with
 | none=>exact hk none
 | some x=>exact in_ev h fun v=>hk _
theorem in_parts: ∀{ps:List (Nat×Nat×AX)} {cs:List CV} {k:List CV→PM},(∀n∈ps.flatMap (fun p=>p.2.2.sl),R (.s n))→(∀vs,(k vs).within R W)→(evParts ps cs k).within R W
 | [],cs,k,_,hk=>hk cs
 | (o,n,x) :: r,cs,k,h,hk=>in_ev (fun n hn=>h n (by simp [hn])) fun v _=>in_parts (fun n hn=>h n (by rw [List.flatMap_cons];simp [hn])) hk
theorem in_setD {dst:Option Nat} {v:CV} (h: ∀d,dst=some d→W (.s d)) :(setD dst v).within R W:=by
 cases dst with
 | none=>trivial
 | some d=>exact ⟨h d rfl,trivial⟩
theorem in_strip {x:AX} {v:CV} {k:PM} (h: ∀n∈x.sl,W (.s n)) (hk:k.within R W) :(strip x v k).within R W:=by
 cases x with
 | t n=>exact ⟨h n (by simp [AX.sl]),hk⟩
 | c v=>exact hk
theorem in_stripT {x:AX} {v:CV} {k:PM} (h: ∀n∈x.sl,W (.s n)) (hk:k.within R W) :(stripT x v k).within R W:=by
 cases x with
 | t n=>exact ⟨h n (by simp [AX.sl]),hk⟩
 | c v=>exact hk
theorem in_getBs: ∀{ids:List Nat} {k:List (Nat×List CV)→PM},(∀b∈ids,R (.b b))→(∀l,(k l).within R W)→(getBs ids k).within R W
 | [],k,_,hk=>hk []
 | b :: r,k,h,hk=>by
  refine ⟨h b (by simp),fun v=> ?_⟩
  dsimp only
  split
  ·exact in_getBs (fun c hc=>h c (by simp [hc])) fun l=>hk _
  ·trivial
theorem in_newBs: ∀{ids:List Nat} {k:PM},(∀b∈ids,R (.b b))→k.within R W→(newBs ids k).within R W
 | [],k,_,hk=>hk
 | b :: r,k,h,hk=>by
  refine ⟨h b (by simp),fun v=> ?_⟩
  dsimp only
  split
  ·exact in_newBs (fun c hc=>h c (by simp [hc])) hk
  ·trivial
theorem in_setBs: ∀{l:List (Nat×List CV)} {k:PM},(∀x∈l,W (.b x.1))→k.within R W→(setBs l k).within R W
 | [],k,_,hk=>hk
 | (b,cs) :: r,k,h,hk=>⟨h (b,cs) (by simp),in_setBs (fun x hx=>h x (by simp [hx])) hk⟩
end
theorem in_killBs {R W:Place→Prop}: ∀{l:List Nat} {k:PM},(∀b∈l,W (.b 4999))→k.within R W→(killBs l k).within R W
 | [],k,_,hk=>hk
 | b :: r,k,h,hk=>⟨h b (by simp),in_killBs (fun y hy=>h y (by simp [hy])) hk⟩
theorem in_callPM {C:CallRel} {okr okw:Nat→Bool} {dst:Option Nat} {rd wr:List Nat} (f:Nat) (args:List CV) :(callPM C okr okw dst f args).within (RP rd okr dst) (WP wr okw dst):=by
 intro t hc
 simp only [Bool.and_eq_true] at hc
 obtain ⟨⟨⟨⟨h1,h2⟩,_⟩,h4⟩,_⟩:=hc
 have hi: ∀b,b∈killL f t.ids++t.fresh→hiB b=true→okw 4999=true∧okr b=true∧okw b=true:=fun b hb hh=>by
  have:=List.all_eq_true.1 h4 b hb
  simpa [hh,and_assoc] using this
 have fr: ∀b,b∈t.fresh→isFr dst b=true→dst=some b∨(okr b=true∧okw b=true):=fun b hb hf=>by
  unfold isFr at hf
  simp only [Bool.or_eq_true,beq_iff_eq] at hf
  rcases hf with (hf | hf) | hf
  ·exact .inl hf.symm
  all_goals
   refine .inr (hi b (List.mem_append_right _ hb) ?_).2
   cases dst with
   | none=>cases hf
   | some d=>
    simp only [Option.map_some,Option.some.injEq] at hf
    unfold hiB;rw [hf];simp
 refine in_getBs (fun b hb=> .inl (List.all_eq_true.1 h1 b hb)) fun objs=>in_newBs (fun b hb=> ?_) fun hcc=>in_killBs (fun b hb=> .inl (hi b (List.mem_append_left _ hb) (killL_hi hb)).1) (in_setBs (fun x hx=> ?_) (in_setD fun d hd=> .inr hd))
 ·exact (fr b hb (List.all_eq_true.1 h2 b hb)).elim .inr fun h=> .inl h.1
 ·have hx2:=(List.mem_filter.1 hx).2
  simp only [Bool.or_eq_true] at hx2
  rcases hx2 with hx2 | hx2
  ·exact .inl hx2
  ·have hm:x.1∈t.fresh:=by simpa using hx2
   exact (fr _ hm (List.all_eq_true.1 h2 _ hm)).elim .inr fun h=> .inl h.2
theorem AI.within (C:CallRel) (okr okw:Nat→Bool) (dst:Option Nat) (i:AI) (hn:i.noAll=true) :(i.pm C okr okw dst).within (RP i.rd okr dst) (WP i.strips okw dst):=by
 have sd: ∀{wr:List Nat} {d:Nat},dst=some d→WP wr okw dst (.s d):=fun h=> .inr h
 cases i with
 | rowN sz=>cases hn
 | row0 sz x=>cases hn
 | rowB x=>cases hn
 | appR sz by_ s x=>cases hn
 | rowS d sz x=>cases hn
 | loadF n x=>cases hn
 | frzM x=>cases hn
 | movT x=>cases hn
 | rowNK b sz=>cases hn
 | appO sz by_ s x=>cases hn
 | mov x xf nl=>
  refine in_ev (fun n h=>h) fun v=> ?_
  split
  ·rename_i h
   simp only [Bool.and_eq_true] at h
   exact in_strip (fun n hn=> .inl (by simp [AI.strips,h.1,hn])) (in_setD fun d=>sd)
  ·exact in_setD fun d=>sd
 | pick c a b=>
  refine in_ev (fun n h=>by simp [RP,AI.rd,h]) fun vc=>in_ev (fun n h=>by simp [RP,AI.rd,h]) fun va=>in_ev (fun n h=>by simp [RP,AI.rd,h]) fun vb=> ?_
  split
  ·exact in_setD fun d=>sd
  ·trivial
 | alloc zs=>
  simp only [AI.pm]
  split
  ·rename_i d
   refine ⟨.inr rfl,fun v=> ?_⟩
   dsimp only
   split
   ·exact ⟨.inr rfl, .inr rfl,trivial⟩
   ·trivial
  ·trivial
 | box n ag x=>
  simp only [AI.pm]
  split
  ·rename_i d
   refine in_ev (fun n h=>h) fun v=>⟨.inr rfl,fun u=> ?_⟩
   dsimp only
   split
   ·exact fun _=>⟨.inr rfl, .inr rfl,trivial⟩
   ·trivial
  ·trivial
 | build zs parts=>exact in_parts (fun n h=>h) fun cs=>in_setD fun d=>sd
 | buildSl sz parts=>
  refine in_evL (fun n h=>h) fun vs=> ?_
  split
  ·exact fun _=>in_setD fun d=>sd
  ·trivial
 | load ag n a xf=>
  refine in_ev (fun n h=>h) fun p=> ?_
  split
  ·split
   ·rename_i hok
    refine ⟨.inl hok,fun u=> ?_⟩
    dsimp only
    split
    ·intro _
     split
     ·exact in_setD fun d=>sd
     ·split
      ·exact fun hw=>⟨.inl hw,in_setD fun d=>sd⟩
      ·exact in_setD fun d=>sd
    ·trivial
   ·trivial
  ·intro _
   split
   ·exact in_setD fun d=>sd
   ·exact in_setD fun d=>sd
  ·split
   ·rename_i hok
    refine ⟨.inl hok,fun u=> ?_⟩
    dsimp only
    split
    ·intro _
     split
     ·exact in_setD fun d=>sd
     ·exact in_setD fun d=>sd
    ·trivial
   ·trivial
  ·trivial
 | store ag n a x nl=>
  refine in_ev (fun n h=>by simp [RP,AI.rd,h]) fun p=>in_ev (fun n h=>by simp [RP,AI.rd,h]) fun v=> ?_
  split
  ·split
   ·rename_i hok
    simp only [Bool.and_eq_true] at hok
    refine ⟨.inl hok.1,fun u=> ?_⟩
    dsimp only
    split
    ·intro _
     cases ag with
     | true=>exact ⟨.inl hok.2,trivial⟩
     | false=>
      simp only [Bool.false_eq_true,if_false]
      split
      ·split
       ·exact in_strip (fun n hn=> .inl hn) ⟨.inl hok.2,trivial⟩
       ·exact ⟨.inl hok.2,trivial⟩
      ·exact ⟨.inl hok.2,trivial⟩
    ·trivial
   ·trivial
  ·split
   ·rename_i hok
    simp only [Bool.and_eq_true] at hok
    refine ⟨.inl hok.1,fun u=> ?_⟩
    dsimp only
    split
    ·split
     ·exact fun _=>⟨.inl hok.2,trivial⟩
     ·trivial
    ·trivial
   ·trivial
  ·trivial
 | nilCk x=>
  refine in_ev (fun n h=>h) fun v=> ?_
  split<;>first | exact in_setD fun d=>sd | trivial
 | bin bo op x y=>
  refine in_ev (fun n h=>by simp [RP,AI.rd,h]) fun a=>in_ev (fun n h=>by simp [RP,AI.rd,h]) fun b=> ?_
  split
  ·split
   ·exact fun _=>in_setD fun d=>sd
   ·trivial
  ·trivial
 | eqAgg ng ks x y=>
  refine in_ev (fun n h=>by simp [RP,AI.rd,h]) fun a=>in_ev (fun n h=>by simp [RP,AI.rd,h]) fun b=> ?_
  split
  ·split
   ·exact fun _=>in_setD fun d=>sd
   ·trivial
  ·trivial
 | slNil ng x=>cases hn
 | ptrNil ng x=>
  refine in_ev (fun n h=>h) fun v=> ?_
  split<;>first | exact in_setD fun d=>sd | trivial
 | not x=>
  refine in_ev (fun n h=>h) fun v=> ?_
  split<;>first | exact in_setD fun d=>sd | trivial
 | neg x=>
  refine in_ev (fun n h=>h) fun v=> ?_
  split<;>first | exact in_setD fun d=>sd | trivial
 | convInt k x=>
  refine in_ev (fun n h=>h) fun v=> ?_
  split<;>first | exact in_setD fun d=>sd | trivial
 | convId x=>
  refine in_ev (fun n h=>h) fun v=> ?_
  split<;>first | exact in_setD fun d=>sd | trivial
 | toBytes x=>
  refine in_ev (fun n h=>h) fun v=> ?_
  split<;>first | exact fun _=>in_setD fun d=>sd | trivial
 | toStr x=>
  refine in_ev (fun n h=>h) fun v=> ?_
  split
  ·split
   ·rename_i hok
    refine ⟨.inl hok,fun u=> ?_⟩
    dsimp only
    split<;>first | exact fun _ _=>in_setD fun d=>sd | trivial
   ·trivial
  ·split<;>first | exact fun _ _=>in_setD fun d=>sd | trivial
 | stringish x=>
  refine in_ev (fun n h=>h) fun v=> ?_
  split
  ·exact fun _=>in_strip (fun n hn=> .inl hn) (in_setD fun d=>sd)
  ·trivial
 | slice sz x lo hi=>
  refine in_ev (fun n h=>by simp [RP,AI.rd,h]) fun v=>in_optEv (fun n h=>by simp [RP,AI.rd,h]) fun l=>in_optEv (fun n h=>by simp [RP,AI.rd,h]) fun u=> ?_
  split
  ·split
   ·exact fun _=>in_setD fun d=>sd
   ·trivial
  ·split
   ·split
    ·exact fun _=>in_setD fun d=>sd
    ·trivial
   ·trivial
 | slice0 sz x=>
  refine in_ev (fun n h=>h) fun v=> ?_
  split<;>first | exact in_setD fun d=>sd | trivial
 | sliceS x lo hi=>
  refine in_ev (fun n h=>by simp [RP,AI.rd,h]) fun v=>in_optEv (fun n h=>by simp [RP,AI.rd,h]) fun l=>in_optEv (fun n h=>by simp [RP,AI.rd,h]) fun u=> ?_
  split
  ·split
   ·exact fun _=>in_setD fun d=>sd
   ·trivial
  ·trivial
 | fieldA off x=>
  refine in_ev (fun n h=>h) fun v=> ?_
  split<;>first | exact in_setD fun d=>sd | trivial
 | idxA sz x j=>
  refine in_ev (fun n h=>by simp [RP,AI.rd,h]) fun a=>in_ev (fun n h=>by simp [RP,AI.rd,h]) fun b=> ?_
  split
  ·split
   ·exact fun _=>in_setD fun d=>sd
   ·trivial
  ·split
   ·exact fun _=>in_setD fun d=>sd
   ·trivial
 | idxS x j=>
  refine in_ev (fun n h=>by simp [RP,AI.rd,h]) fun a=>in_ev (fun n h=>by simp [RP,AI.rd,h]) fun b=> ?_
  split
  ·exact fun _=>in_setD fun d=>sd
  ·trivial
 | extract x j cp=>
  refine in_ev (fun n h=>h) fun v=> ?_
  split
  ·intro _
   split
   ·rename_i hcp
    have hcp:cp=false:=by cases cp<;>simp_all
    subst hcp
    exact in_stripT (fun n hn=> .inl hn) (in_setD fun d=>sd)
   ·exact in_setD fun d=>sd
  ·trivial
 | call f args oi=>
  refine in_evL (fun n h=>by simpa [RP,AI.rd,List.flatMap_map] using h) fun vs=> ?_
  cases oi with
  | none=>exact in_callPM _ _
  | some i=>
   simp only [stripA]
   split
   ·exact in_strip (fun n hn=> .inl hn) (in_callPM _ _)
   ·exact in_callPM _ _
 | callv x args=>
  refine in_ev (fun n h=>by simp [RP,AI.rd,h]) fun v=>in_evL (fun n h=>by rw [List.flatMap_map] at h;simp only [RP,AI.rd,List.mem_append];exact .inr h) fun vs=> ?_
  split
  ·exact in_callPM _ _
  ·exact in_callPM _ _
  ·trivial
 | len x=>
  refine in_ev (fun n h=>h) fun v=> ?_
  split
  ·exact in_setD fun d=>sd
  ·split<;>first | exact in_setD fun d=>sd | trivial
 | lenS x=>
  refine in_ev (fun n h=>h) fun v=> ?_
  split<;>first | exact in_setD fun d=>sd | trivial
 | append sz by_ s x=>
  refine in_ev (fun n h=>by simp [RP,AI.rd,h]) fun a=>in_ev (fun n h=>by simp [RP,AI.rd,h]) fun b=> ?_
  split
  ·exact fun _=>in_strip (fun n hn=> .inl hn) (in_setD fun d=>sd)
  ·trivial
 | mm isMax x y=>
  refine in_ev (fun n h=>by simp [RP,AI.rd,h]) fun a=>in_ev (fun n h=>by simp [RP,AI.rd,h]) fun b=> ?_
  split<;>first | exact in_setD fun d=>sd | trivial
 | mm3 x y z=>
  refine in_ev (fun n h=>by simp [RP,AI.rd,h]) fun a=>in_ev (fun n h=>by simp [RP,AI.rd,h]) fun b=>in_ev (fun n h=>by simp [RP,AI.rd,h]) fun c=> ?_
  split<;>first | exact in_setD fun d=>sd | trivial
 | mkfn f caps=>exact in_evL (fun n h=>h) fun vs _ _=>in_setD fun d=>sd
 | clr z0 x=>
  refine in_ev (fun n h=>h) fun v=> ?_
  split
  ·split
   ·rename_i hok
    simp only [Bool.and_eq_true] at hok
    refine ⟨.inl hok.1,fun u=> ?_⟩
    dsimp only
    split
    ·exact fun _=>⟨.inl hok.2,in_setD fun d=>sd⟩
    ·trivial
   ·trivial
  ·trivial
 | bad=>trivial
def AOp.rd (o:AOp) :List Nat:=(match o.g with | some (g,_)=>[g] | none=>[]) ++o.i.rd
def AOp.wr (o:AOp) :List Nat:=o.dst.toList++o.i.strips
theorem AOp.within (C:CallRel) (okr okw:Nat→Bool) (o:AOp) (hn:o.i.noAll=true) :(o.pm C okr okw).within (RP o.rd okr o.dst) (WP o.wr okw o.dst):=by
 have key:=AI.within C okr okw o.dst o.i hn
 have hr: ∀p,RP o.i.rd okr o.dst p→RP o.rd okr o.dst p:=fun p h=>by
  cases p with
  | s n=>exact List.mem_append_right _ h
  | b n=>exact h
 have hw: ∀p,WP o.i.strips okw o.dst p→WP o.wr okw o.dst p:=fun p h=>by
  cases p with
  | s n=>exact h.imp (fun h=>List.mem_append_right _ h) id
  | b n=>exact h
 have key:=within_mono hr hw _ key
 unfold AOp.pm
 split
 ·exact key
 ·rename_i g want hg
  refine ⟨by simp [RP,AOp.rd,hg],fun v=> ?_⟩
  dsimp only
  split
  ·split
   ·exact key
   ·exact in_setD fun d hd=> .inr hd
  ·trivial
def disj (a b:List Nat) :Bool:=a.all fun x=> !b.contains x
def apartB (M:List Nat) (x y:AOp) (cx cy:Nat) :Bool:=
 (x.dst.all fun d=> !M.contains d||(!rdK M cy d&& !wrK M cy d)) &&(y.dst.all fun d=> !M.contains d||(!rdK M cx d&& !wrK M cx d)) &&
  disj x.wr y.wr&&disj x.wr y.rd&&disj x.rd y.wr&&decide (cx≠3) &&decide (cy≠3) &&M.all (fun b=> !(wrK M cx b&&(rdK M cy b||wrK M cy b))) &&M.all (fun b=> !(wrK M cy b&&(rdK M cx b||wrK M cx b)))
def befB (ops:Array Oper) (bef:List (List Nat)) :Bool:=
 (List.range ops.size).all fun i=>match ops[i]? with
  | some o=>(o.after.all fun e=> !Region.binds .any e||decide (e.on<i)) &&(bef.getD i []).all fun k=>o.after.any fun e=>Region.binds .any e&&(e.on==k||(bef.getD e.on []).contains k)
  | none=>true
def AI.isK:AI→Bool
 | .appR _ _ _ _=>true
 | _=>false
def AOp.nat1 (o:AOp) :Bool:=o.g.isNone&&o.dst.isSome&&match o.i with | .mov (.t _) false _=>true | _=>false
def AOp.nat2 (o:AOp) :Bool:=o.g.isNone&&o.dst.isSome&&match o.i with | .mov (.t _) false _=>true | .nilCk (.t _)=>true | .fieldA _ (.t _)=>true | _=>false
def apartK (k o:AOp) :Bool:=disj o.wr k.rd&&disj o.wr k.wr&&disj o.rd k.wr
def pairB (M:List Nat) (x y:AOp) (cx cy:Nat) :Bool:=
 if x.i.isK=true then !y.i.isK&&y.nat2&&apartK x y else if y.i.isK=true then x.nat1&&apartK y x else apartB M x y cx cy
def drawB (M:List Nat) (l:List AOp) (cls:List Nat) (bef:List (List Nat)) :Bool:=
 (l.all fun o=>(o.i.noAll||(o.i.isK&&o.g.isNone)) &&o.dst !=some 4999) &&(List.range l.length).all fun i=>match l[i]? with
  | some y=>(List.range i).all fun k=>(bef.getD i []).contains k||match l[k]? with
   | some x=>pairB M x y (cls.getD k 0) (cls.getD i 0)
   | none=>true
  | none=>true
theorem disj_spec {a b:List Nat} (h:disj a b=true) (n:Nat) (ha:n∈a) (hb:n∈b) :False:=by
 have:=List.all_eq_true.1 h n ha
 simp [hb] at this
def mkItem0 (M A:List Nat) (o:AOp) (c:Nat) :Item:=⟨o.pm (Runs P) (okrOf M A c) (okwOf M A c),RP o.rd (okrOf M A c) o.dst,WP o.wr (okwOf M A c) o.dst,false⟩
def mkItemK (M A:List Nat) (o:AOp) (c:Nat) :Item:=⟨o.pm (Runs P) (okrOf M A c) (okwOf M A c),(fun p=>match p with | .s n=>n∈o.rd | .b _=>True),(fun p=>match p with | .s n=>n∈o.wr | .b _=>True),true⟩
def mkItem (M A:List Nat) (o:AOp) (c:Nat) :Item:=if o.i.isK=true then mkItemK (P:=P) M A o c else mkItem0 (P:=P) M A o c
theorem apart_item {x y:AOp} {cx cy:Nat} {M A:List Nat} (h:apartB M x y cx cy=true) (hx: ∀d,x.dst=some d→d∈A∨d∈M) (hy: ∀d,y.dst=some d→d∈A∨d∈M) :Apart (mkItem0 (P:=P) M A x cx) (mkItem0 (P:=P) M A y cy):=by
 simp only [apartB,Bool.and_eq_true,decide_eq_true_eq] at h
 obtain ⟨⟨⟨⟨⟨⟨⟨⟨h8,h9⟩,h1⟩,h2⟩,h3⟩,h4⟩,h5⟩,h6⟩,h7⟩:=h
 have hx': ∀d,x.dst=some d→d∉A→d∈M∧rdK M cy d=false∧wrK M cy d=false:=fun d e hd=>by
  have m:=(hx d e).resolve_left hd
  rw [e] at h8
  simp [m] at h8;exact ⟨m,h8⟩
 have hy': ∀d,y.dst=some d→d∉A→d∈M∧rdK M cx d=false∧wrK M cx d=false:=fun d e hd=>by
  have m:=(hy d e).resolve_left hd
  rw [e] at h9
  simp [m] at h9;exact ⟨m,h9⟩
 have wslot: ∀{o:AOp} {c:Nat} {n:Nat},(mkItem0 (P:=P) M A o c).W (.s n)→n∈o.wr:=fun h=>h.elim id fun h=>by simp [AOp.wr,h]
 have rslot: ∀{o:AOp} {c:Nat} {n:Nat},(mkItem0 (P:=P) M A o c).R (.s n)→n∈o.rd:=fun h=>h
 have ww: ∀{c b:Nat},c≠3→okwOf M A c b=true→b∉A∧b∈M∧wrK M c b=true:=by
  intro c b hc h
  simp only [okwOf,Bool.or_eq_true,Bool.and_eq_true] at h
  rcases h.2 with h | ⟨h,m,k⟩
  ·simp at h;exact absurd h hc
  ·exact ⟨by simpa using h,by simpa using m,k⟩
 have rr: ∀{c b:Nat},c≠3→okrOf M A c b=true→b∉A∧(b∉M∨rdK M c b=true):=by
  intro c b hc h
  simp only [okrOf,Bool.or_eq_true,Bool.and_eq_true] at h
  rcases h with h | ⟨h,k⟩
  ·simp at h;exact absurd h hc
  ·exact ⟨by simpa using h,k.imp (fun k=>by simpa using k) id⟩
 have dd: ∀b,x.dst=some b→y.dst=some b→False:=fun b hx hy=>disj_spec h1 b (by simp [AOp.wr,hx]) (by simp [AOp.wr,hy])
 have m6: ∀b,b∈M→wrK M cx b=true→rdK M cy b=false∧wrK M cy b=false:=fun b hb hw=>by
  have:=List.all_eq_true.1 h6 b hb
  simpa [hw] using this
 have m7: ∀b,b∈M→wrK M cy b=true→rdK M cx b=false∧wrK M cx b=false:=fun b hb hw=>by
  have:=List.all_eq_true.1 h7 b hb
  simpa [hw] using this
 have no: ∀{b:Bool},b=true→b=false→False:=fun h h'=>by rw [h] at h';cases h'
 intro p
 cases p with
 | s n=>exact ⟨fun ⟨a,b⟩=>disj_spec h1 n (wslot a) (wslot b),fun ⟨a,b⟩=>disj_spec h2 n (wslot a) (rslot b),fun ⟨a,b⟩=>disj_spec h3 n (rslot a) (wslot b)⟩
 | b n=>
  refine ⟨?_, ?_, ?_⟩
  ·rintro ⟨a | a,b | b⟩
   ·have k:=ww h4 a;have q:=ww h5 b;exact no q.2.2 (m6 _ k.2.1 k.2.2).2
   ·have k:=ww h4 a;have q:=hy' _ b k.1;exact no k.2.2 q.2.2
   ·have k:=ww h5 b;have q:=hx' _ a k.1;exact no k.2.2 q.2.2
   ·exact dd n a b
  ·rintro ⟨a | a,b | b⟩
   ·have k:=ww h4 a;have q:=rr h5 b
    rcases q.2 with q | q
    ·exact q k.2.1
    ·exact no q (m6 _ k.2.1 k.2.2).1
   ·have k:=ww h4 a;have q:=hy' _ b k.1;exact no k.2.2 q.2.2
   ·have k:=rr h5 b;have q:=hx' _ a k.1
    rcases k.2 with k | k
    ·exact k q.1
    ·exact no k q.2.1
   ·exact dd n a b
  ·rintro ⟨a | a,b | b⟩
   ·have k:=ww h5 b;have q:=rr h4 a
    rcases q.2 with q | q
    ·exact q k.2.1
    ·exact no q (m7 _ k.2.1 k.2.2).1
   ·have k:=rr h4 a;have q:=hy' _ b k.1
    rcases k.2 with k | k
    ·exact k q.1
    ·exact no k q.2.1
   ·have k:=ww h5 b;have q:=hx' _ a k.1;exact no k.2.2 q.2.2
   ·exact dd n a b
theorem kill1_copy1 (b:Nat) (c:CV) :(CV.kill1 b c).copy1=CV.kill1 b c.copy1:=by
 cases c with
 | ptr k o=>by_cases h:k=b<;>simp [CV.kill1,CV.copy1,h]
 | sp k t=>by_cases h:k=b<;>simp [CV.kill1,CV.copy1,h]
 | rs z k o n=>by_cases h:k=b<;>simp [CV.kill1,CV.copy1,h]
 | ea z k o n=>by_cases h:k=b<;>simp [CV.kill1,CV.copy1,h]
 | fn f caps=>
  by_cases h:caps.contains b=true
  ·simp only [CV.kill1,h,if_true,CV.copy1]
  ·simp only [CV.kill1,h,CV.copy1];rfl
 | _=>rfl
theorem withinK_appR {C:CallRel} {okr okw:Nat→Bool} {o:AOp} (hK:o.i.isK=true) (hg:o.g=none) :(o.pm C okr okw).withinK (fun p=>match p with | .s n=>n∈o.rd | .b _=>True) (fun p=>match p with | .s n=>n∈o.wr | .b _=>True):=by
 obtain ⟨dst,i,g⟩:=o
 simp only at hg hK
 subst hg
 cases i with
 | appR sz by_ s x=>
  have ev: ∀(y:AX) (k:CV→PM),(∀n,n∈y.sl→n∈AOp.rd ⟨dst, .appR sz by_ s x,none⟩)→(∀v,(k v).withinK (fun p=>match p with | .s n=>n∈AOp.rd ⟨dst, .appR sz by_ s x,none⟩ | .b _=>True) (fun p=>match p with | .s n=>n∈AOp.wr ⟨dst, .appR sz by_ s x,none⟩ | .b _=>True))→
    (y.ev k).withinK (fun p=>match p with | .s n=>n∈AOp.rd ⟨dst, .appR sz by_ s x,none⟩ | .b _=>True) (fun p=>match p with | .s n=>n∈AOp.wr ⟨dst, .appR sz by_ s x,none⟩ | .b _=>True):=by
   intro y k hy hk
   cases y with
   | t n=>exact ⟨hy n (by simp [AX.sl]),hk⟩
   | c v=>exact hk v
  show ((AX.ev s _)).withinK _ _
  refine ev s _ (fun n h=>by simp [AOp.rd,AI.rd,h]) fun v=>ev x _ (fun n h=>by simp [AOp.rd,AI.rd,h]) fun u=> ?_
  split
  ·refine ⟨trivial,fun r=> ?_⟩
   dsimp only
   split
   ·intro _
    refine ⟨trivial, ?_⟩
    cases dst with
    | none=>trivial
    | some d=>exact ⟨by simp [AOp.wr],trivial⟩
   ·trivial
  ·trivial
 | _=>cases hK
theorem trL_of_draw {M A:List Nat} {K:St→Prop}: ∀(l:List AOp) (cls:List Nat) (st:St),(l.all fun o=>(o.i.noAll||(o.i.isK&&o.g.isNone)) &&o.dst !=some 4999) =true→drawWp (Runs P) M A l cls K st→
  ∃st',TrL ((List.range' 0 l.length).map fun i=>mkItem (P:=P) M A (l.getD i ⟨none, .alloc [],none⟩) (cls.getD i 0)) st st'∧K st'
 | [],_,st,_,h=>⟨st, .nil,h⟩
 | o :: r,cls,st,hn,h=>by
  simp only [List.all_cons,Bool.and_eq_true] at hn
  obtain ⟨st1,t1,h1⟩ : ∃st1,TrI (mkItem (P:=P) M A o (cls.headD 0)) st st1∧drawWp (Runs P) M A r cls.tail K st1:=by
   unfold mkItem
   by_cases hK:o.i.isK=true
   ·rw [if_pos hK]
    have hg:o.g=none:=by
     have h9:=hn.1.1
     have:o.i.noAll=false:=by cases hi:o.i<;>rw [hi] at hK<;>first | rfl | cases hK
     rw [this] at h9
     simp at h9
     exact h9.2
    obtain ⟨b,st1,t1,h1⟩:=trK_of_wp (R:=fun p=>match p with | .s n=>n∈o.rd | .b _=>True) (W:=fun p=>match p with | .s n=>n∈o.wr | .b _=>True) _ st (withinK_appR hK hg) h
    exact ⟨st1, .inr ⟨rfl,b,t1⟩,h1⟩
   ·rw [if_neg hK]
    have hna:o.i.noAll=true:=by
     have h9:=hn.1.1
     have:o.i.isK=false:=by simpa using hK
     simpa [this] using h9
    obtain ⟨st1,t1,h1⟩:=tr_of_wp (W:=WP o.wr (okwOf M A (cls.headD 0)) o.dst) (fun hh=>by
     rcases hh with hh | hh
     ·simp [okwOf] at hh
     ·simp [hh] at hn) _ st (AOp.within _ _ _ o hna) h
    exact ⟨st1, .inl ⟨rfl,t1⟩,h1⟩
  obtain ⟨st',t,hk⟩:=trL_of_draw r cls.tail st1 hn.2 h1
  refine ⟨st', ?_,hk⟩
  rw [List.length_cons,List.range'_succ,List.map_cons]
  have e0:cls.getD 0 0=cls.headD 0:=by cases cls<;>rfl
  refine .cons (by simp only [List.getD_cons_zero,e0];exact t1) ?_
  have:(List.range' (0+1) r.length).map (fun i=>mkItem (P:=P) M A ((o :: r).getD i ⟨none, .alloc [],none⟩) (cls.getD i 0)) =(List.range' 0 r.length).map fun i=>mkItem (P:=P) M A (r.getD i ⟨none, .alloc [],none⟩) (cls.tail.getD i 0):=by
   rw [List.range'_eq_map_range,List.range'_eq_map_range,List.map_map,List.map_map]
   refine List.map_congr_left fun i _=> ?_
   simp only [Function.comp,Nat.zero_add]
   rw [show 1+i=i+1 by omega,List.getD_cons_succ]
   congr 1
   cases cls with
   | nil=>simp
   | cons c cs=>simp
  rw [this]
  exact t
theorem kill_copy (b:Nat) (c:CV) :(c.kill b).copy=c.copy.kill b:=by
 cases c with
 | tup l=>show CV.tup _=CV.tup _;congr 1;rw [List.map_map,List.map_map];exact List.map_congr_left fun x _=>kill1_copy1 b x
 | agg l=>show CV.agg _=CV.agg _;congr 1;rw [List.map_map,List.map_map];exact List.map_congr_left fun x _=>kill1_copy1 b x
 | ptr k o=>by_cases h:k=b<;>simp [CV.kill,CV.kill1,CV.copy,CV.copy1,h]
 | sp k t=>by_cases h:k=b<;>simp [CV.kill,CV.kill1,CV.copy,CV.copy1,h]
 | rs z k o n=>by_cases h:k=b<;>simp [CV.kill,CV.kill1,CV.copy,CV.copy1,h]
 | ea z k o n=>by_cases h:k=b<;>simp [CV.kill,CV.kill1,CV.copy,CV.copy1,h]
 | fn f caps=>
  by_cases h:caps.contains b=true
  ·simp only [CV.kill,CV.kill1,h,if_true,CV.copy,CV.copy1]
  ·simp only [CV.kill,CV.kill1,h,CV.copy,CV.copy1];rfl
 | _=>rfl
def natF:AI→CV→Option CV
 | .mov _ _ _,v=>some v.copy
 | .nilCk _,v=>match v with
  | .ptr b o=>some (.ptr b o)
  | .ep cs=>some (.ep cs)
  | .fn f c=>some (.fn f c)
  | .d (.fn (some f))=>some (.d (.fn (some f)))
  | .ea z k i o=>some (.ea z k i o)
  | _=>none
 | .fieldA off _,v=>match v with
  | .ptr b o=>some (.ptr b (o+off))
  | .ep cs=>some (.ep (cs.drop off))
  | .ea z k i o=>some (.ea z k i (o+off))
  | _=>none
 | _,_=>none
theorem nat2_item {M A:List Nat} {o:AOp} {c:Nat} (h:o.nat2=true) : ∃n d,Nat1 (mkItem (P:=P) M A o c) n d (natF o.i)∧n∈o.rd∧d∈o.wr:=by
 obtain ⟨dst,i,g⟩:=o
 simp only [AOp.nat2,Bool.and_eq_true,Option.isNone_iff_eq_none] at h
 obtain ⟨⟨hg,hd⟩,hi⟩:=h
 subst hg
 obtain ⟨d,rfl⟩:=Option.isSome_iff_exists.1 hd
 cases i with
 | mov x xf nl=>
  cases x with
  | t n=>
   cases xf with
   | false=>
    refine ⟨n,d,⟨rfl, ?_,by simp [mkItem,AI.isK,mkItem0,RP,AOp.rd,AI.rd,AX.sl], .inr rfl⟩,by simp [AOp.rd,AI.rd,AX.sl],by simp [AOp.wr]⟩
    rfl
   | true=>cases hi
  | c v=>cases hi
 | nilCk x=>
  cases x with
  | t n=>
   refine ⟨n,d,⟨rfl, ?_,by simp [mkItem,AI.isK,mkItem0,RP,AOp.rd,AI.rd,AX.sl], .inr rfl⟩,by simp [AOp.rd,AI.rd,AX.sl],by simp [AOp.wr]⟩
   show PM.get _ _=PM.get _ _
   congr 1
   funext v
   cases v with
   | d x=>
    cases x with
    | fn o=>cases o<;>rfl
    | _=>rfl
   | _=>rfl
  | c v=>cases hi
 | fieldA off x=>
  cases x with
  | t n=>
   refine ⟨n,d,⟨rfl, ?_,by simp [mkItem,AI.isK,mkItem0,RP,AOp.rd,AI.rd,AX.sl], .inr rfl⟩,by simp [AOp.rd,AI.rd,AX.sl],by simp [AOp.wr]⟩
   show PM.get _ _=PM.get _ _
   congr 1
   funext v
   cases v<;>rfl
  | c v=>cases hi
 | _=>cases hi
theorem natF_kill {i:AI} (b:Nat) (v c:CV) (h:natF i (v.kill b) =some c) : ∃c0,natF i v=some c0∧c0.kill b=c:=by
 cases i with
 | mov x xf nl=>
  simp only [natF,Option.some.injEq] at h⊢
  exact ⟨_,rfl,by rw [←kill_copy];exact h⟩
 | nilCk x=>
  cases v with
  | ptr k o=>
   by_cases hb:k=b
   ·simp [CV.kill,CV.kill1,hb,natF] at h
   ·simp only [CV.kill,CV.kill1,hb,if_false,natF,Option.some.injEq] at h
    subst h
    exact ⟨_,rfl,by simp [CV.kill,CV.kill1,hb]⟩
  | ea z k i o=>
   by_cases hb:k=b
   ·simp [CV.kill,CV.kill1,hb,natF] at h
   ·simp only [CV.kill,CV.kill1,hb,if_false,natF,Option.some.injEq] at h
    subst h
    exact ⟨_,rfl,by simp [CV.kill,CV.kill1,hb]⟩
  | fn f caps=>
   by_cases hb:caps.contains b=true
   ·simp only [CV.kill,CV.kill1,hb,if_true,natF] at h
    cases h
   ·simp only [CV.kill,CV.kill1,hb,natF] at h
    simp only [Bool.false_eq_true,if_false,Option.some.injEq] at h
    subst h
    exact ⟨_,rfl,by simp only [CV.kill,CV.kill1,hb];rfl⟩
  | ep cs=>simp only [CV.kill,CV.kill1,natF,Option.some.injEq] at h;subst h;exact ⟨_,rfl,rfl⟩
  | sp k t=>by_cases hb:k=b<;>simp [CV.kill,CV.kill1,hb,natF] at h
  | rs z k o n=>by_cases hb:k=b<;>simp [CV.kill,CV.kill1,hb,natF] at h
  | d x=>
   cases x with
   | fn o=>
    cases o with
    | some f=>simp only [CV.kill,CV.kill1,natF,Option.some.injEq] at h;subst h;exact ⟨_,rfl,rfl⟩
    | none=>simp [CV.kill,CV.kill1,natF] at h
   | _=>simp [CV.kill,CV.kill1,natF] at h
  | _=>simp [CV.kill,CV.kill1,natF] at h
 | fieldA off x=>
  cases v with
  | ptr k o=>
   by_cases hb:k=b
   ·simp [CV.kill,CV.kill1,hb,natF] at h
   ·simp only [CV.kill,CV.kill1,hb,if_false,natF,Option.some.injEq] at h
    subst h
    exact ⟨_,rfl,by simp [CV.kill,CV.kill1,hb]⟩
  | ea z k i o=>
   by_cases hb:k=b
   ·simp [CV.kill,CV.kill1,hb,natF] at h
   ·simp only [CV.kill,CV.kill1,hb,if_false,natF,Option.some.injEq] at h
    subst h
    exact ⟨_,rfl,by simp [CV.kill,CV.kill1,hb]⟩
  | fn f caps=>
   by_cases hb:caps.contains b=true
   ·simp only [CV.kill,CV.kill1,hb,if_true,natF] at h
    cases h
   ·simp only [CV.kill,CV.kill1,hb,natF] at h
    simp at h
  | ep cs=>simp only [CV.kill,CV.kill1,natF,Option.some.injEq] at h;subst h;exact ⟨_,rfl,rfl⟩
  | sp k t=>by_cases hb:k=b<;>simp [CV.kill,CV.kill1,hb,natF] at h
  | rs z k o n=>by_cases hb:k=b<;>simp [CV.kill,CV.kill1,hb,natF] at h
  | _=>simp [CV.kill,CV.kill1,natF] at h
 | _=>cases h
theorem nat1_kill {o:AOp} (ho:o.nat1=true) (b:Nat) (v c:CV) (h:natF o.i v=some c) :natF o.i (v.kill b) =some (c.kill b):=by
 obtain ⟨dst,i,g⟩:=o
 simp only [AOp.nat1,Bool.and_eq_true] at ho
 cases i with
 | mov x xf nl=>simp only [natF,Option.some.injEq] at h⊢;subst h;exact kill_copy b v
 | _=>cases ho.2
theorem nat12 {o:AOp} (h:o.nat1=true) :o.nat2=true:=by
 obtain ⟨dst,i,g⟩:=o
 simp only [AOp.nat1,AOp.nat2,Bool.and_eq_true] at h⊢
 refine ⟨h.1, ?_⟩
 have h2:=h.2
 cases i with
 | mov x xf nl=>cases x<;>cases xf<;>first | exact h2 | cases h2
 | _=>cases h2
theorem sw_pair {M A:List Nat} {x y:AOp} {cx cy:Nat} (h:pairB M x y cx cy=true) (hx: ∀d,x.dst=some d→d∈A∨d∈M) (hy: ∀d,y.dst=some d→d∈A∨d∈M) :Sw (mkItem (P:=P) M A x cx) (mkItem (P:=P) M A y cy):=by
 unfold pairB at h
 split at h
 ·rename_i hk
  simp only [Bool.and_eq_true,apartK] at h
  obtain ⟨⟨_,hn⟩,⟨⟨h1,h2⟩,h3⟩⟩:=h
  obtain ⟨n,d,q,hnr,hdw⟩:=nat2_item (P:=P) (M:=M) (A:=A) (c:=cy) hn
  have e:mkItem (P:=P) M A x cx=mkItemK (P:=P) M A x cx:=by unfold mkItem;rw [if_pos hk]
  refine sw_behind q natF_kill (by rw [e];rfl) ?_ ?_ ?_
  ·rw [e];exact fun hr=>disj_spec h1 d hdw hr
  ·rw [e];exact fun hr=>disj_spec h2 d hdw hr
  ·rw [e];exact fun hr=>disj_spec h3 n hnr hr
 ·rename_i hkx
  split at h
  ·rename_i hk
   simp only [Bool.and_eq_true,apartK] at h
   obtain ⟨hn,⟨⟨h1,h2⟩,h3⟩⟩:=h
   obtain ⟨n,d,q,hnr,hdw⟩:=nat2_item (P:=P) (M:=M) (A:=A) (c:=cx) (nat12 hn)
   have e:mkItem (P:=P) M A y cy=mkItemK (P:=P) M A y cy:=by unfold mkItem;rw [if_pos hk]
   refine sw_before q (nat1_kill hn) (by rw [e];rfl) ?_ ?_ ?_
   ·rw [e];exact fun hr=>disj_spec h1 d hdw hr
   ·rw [e];exact fun hr=>disj_spec h2 d hdw hr
   ·rw [e];exact fun hr=>disj_spec h3 n hnr hr
  ·rename_i hky
   unfold mkItem
   rw [if_neg hkx,if_neg hky]
   exact sw_apart rfl rfl (apart_item h hx hy)
theorem RR.drew {E:Ent} {st:St} {a:Act} {w:World} (h:RR E st a w) :RR E st a {w with drawn:=w.drawn+1}:=by
 obtain ⟨hd,Γ,ρ,bl,hs,hf,hb⟩:=h
 exact ⟨hd,Γ,ρ,bl,hs.world (Nat.le_refl _) fun _ _=>rfl,⟨hf.le,hf.size,hf.os,hf.tape,hf.output,hf.block,hf.new,hf.row⟩,hb⟩
theorem fits_draw {id:Nat} {ops:Array Oper} {l:List AOp} {cls M:List Nat} (bef:List (List Nat)) (hm:P.follows .mixedOrders=true) (hl:l.length=ops.size) (hfit: ∀(i:Nat) o ao,ops[i]? =some o→l[i]? =some ao→AOpFits P ops o ao) (hb:befB ops bef=true) (hd:drawB M l cls bef=true) :
  Fits P (.region id ops true) (.draw l cls M):=by
 refine .draw fun E Q st a w hR hw=>wp_region_any hm ?_
 simp only [drawB,Bool.and_eq_true] at hd
 obtain ⟨hna,hd⟩:=hd
 obtain ⟨st',ht,hk⟩:=trL_of_draw l cls st hna hw
 have hbb: ∀(i:Nat) o,ops[i]? =some o→(o.after.all fun e=> !Region.binds .any e||decide (e.on<i)) =true∧((bef.getD i []).all fun k=>o.after.any fun e=>Region.binds .any e&&(e.on==k||(bef.getD e.on []).contains k)) =true:=by
  intro i o ho
  have:=List.all_eq_true.1 hb i (List.mem_range.2 (Array.getElem?_eq_some_iff.1 ho).1)
  simp only [ho,Bool.and_eq_true] at this
  exact this
 refine any_sound (E:=E) (K:=Q .normal) (fun i=>mkItem (P:=P) M (dsts M l) (l.getD i ⟨none, .alloc [],none⟩) (cls.getD i 0)) (fun i=>if i<ops.size then bef.getD i [] else []) ?_ ?_ ?_ ?_ ?_ ops.size (List.range' 0 l.length) _ st st' a _ (by simp [hl]) ?_ (by simp) ?_ ?_ ?_ ht ?_ hR.drew
 ·intro i o ho
  have hi:=(Array.getElem?_eq_some_iff.1 ho).1
  have hil:i<l.length:=by omega
  refine ⟨l[i],okrOf M (dsts M l) (cls.getD i 0),okwOf M (dsts M l) (cls.getD i 0),hfit i o l[i] ho (by simp [hil]), ?_⟩
  rw [show l.getD i ⟨none, .alloc [],none⟩ =l[i] by simp [List.getD_eq_getElem?_getD,hil]]
  unfold mkItem;split<;>rfl
 ·intro i o ho e he hb'
  have:=Array.all_eq_true_iff_forall_mem.1 (hbb i o ho).1 e he
  simpa [hb'] using this
 ·intro i o ho k hk
  have hi:=(Array.getElem?_eq_some_iff.1 ho).1
  rw [if_pos hi] at hk
  have:=List.all_eq_true.1 (hbb i o ho).2 k hk
  obtain ⟨e,he,h⟩:=Array.any_eq_true'.1 this
  simp only [Bool.and_eq_true,Bool.or_eq_true,beq_iff_eq] at h
  refine ⟨e,he,h.1,h.2.imp (fun h=>h) fun h2=> ?_⟩
  have hlt:e.on<i:=by
   have:=Array.all_eq_true_iff_forall_mem.1 (hbb i o ho).1 e he
   simpa [h.1] using this
  rw [if_pos (by omega)]
  simpa using h2
 ·intro k i hki hi
  have hil:i<l.length:=by omega
  have hkl:k<l.length:=by omega
  have:=List.all_eq_true.1 hd i (List.mem_range.2 hil)
  simp only [List.getElem?_eq_getElem hil] at this
  have:=List.all_eq_true.1 this k (List.mem_range.2 hki)
  simp only [List.getElem?_eq_getElem hkl,Bool.or_eq_true] at this
  rcases this with h | h
  ·left;rw [if_pos hi];simpa using h
  ·right
   rw [show l.getD i ⟨none, .alloc [],none⟩ =l[i] by simp [List.getD_eq_getElem?_getD,hil],show l.getD k ⟨none, .alloc [],none⟩ =l[k] by simp [List.getD_eq_getElem?_getD,hkl]]
   have mem: ∀(j:Nat) (hj:j<l.length) d,l[j].dst=some d→d∈dsts M l∨d∈M:=fun j hj d hd=>by
    by_cases hM:d∈M
    ·exact .inr hM
    ·exact .inl (List.mem_filter.2 ⟨List.mem_filterMap.2 ⟨l[j],List.getElem_mem _,hd⟩,by simpa using hM⟩)
   exact sw_pair h (mem k hkl) (mem i hil)
 ·intro st2 a2 w2 h1 h2;exact ⟨st2,h1,h2⟩
 ·exact List.pairwise_lt_range'
 ·intro i hi
  constructor
  ·intro _;rw [List.mem_range'_1];omega
  ·intro _;simp [hi]
 ·intro i hi;rw [List.mem_range'_1] at hi;omega
 ·intro i hi
  exfalso
  by_cases h:i<ops.size<;>simp [h] at hi
 ·intro u hu;exact ⟨st',hu.symm,hk⟩
end B
end Go.Proofs.YtmkkljbfmdngfaaGreatDoor
