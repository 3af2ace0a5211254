/- Code does what the abstract code says. No condition. -/
import Derived.Test.YtmkkljbfmdngfaaGreatDoorB12
set_option linter.all false
namespace Go.Proofs.YtmkkljbfmdngfaaGreatDoor
namespace B
open Go.RowKit
variable {P:Program} {okr okw:Nat→Bool} {o:Oper}
theorem asArg_rep {Γ:Froz} {ρ:Nat→Role} {bl:Nat→Nat} {w:World} {p q:Place} {c:CV} {v:Value} (nl:Option Nat) (h:RepC Γ ρ bl w p c v) :RepC Γ ρ bl w q (c.asArg nl) v∧(c.asArg nl).noOwn=true:=by
 unfold CV.asArg
 split
 ·split
  ·have h:v= .slice none 0 0:=h
   subst h
   exact ⟨Rep.nil _,rfl⟩
  ·exact ⟨h,rfl⟩
 ·exact ⟨h.copy.norm,norm_noOwn (copy_noOwn _)⟩
theorem argsEv {xs:Array Operand} {as:List (AX×Option Nat)} (hx:xs.toList.map trX=as.map fun y=>some y.1) {st:St} {a:Act} {i:Nat} {v:Value} {y:AX×Option Nat} (hv:(xs.map a.eval)[i]? =some v) (ha:as[i]? =some y) : ∃x,trX x=some y.1∧v=a.eval x:=by
 have hl:xs.size=as.length:=by have:=congrArg List.length hx;simpa using this
 have hi:i<as.length:=(List.getElem?_eq_some_iff.1 ha).1
 have hix:i<xs.size:=by omega
 simp [hix] at hv
 refine ⟨xs[i], ?_,hv.symm⟩
 have:=congrArg (·[i]?) hx
 simp only [List.getElem?_map,ha] at this
 rw [Array.getElem?_toList,Array.getElem?_eq_getElem hix] at this
 simpa using this
theorem argsRep {xs:Array Operand} {as:List (AX×Option Nat)} (hx:xs.toList.map trX=as.map fun y=>some y.1) {Γ:Froz} {ρ:Nat→Role} {bl:Nat→Nat} {st:St} {a:Act} {w:World} (h:SR Γ ρ bl st a.tmps w) :
  xs.size=as.length∧∀(i:Nat) c v,((((as.map (·.1)).map (AX.val st)).zipWith (fun v a=>v.asArg a.2) as)[i]? =some c)→(xs.map a.eval)[i]? =some v→RepC Γ ρ bl w (.s (st.s.length+i)) c v:=by
 refine ⟨by have:=congrArg List.length hx;simpa using this,fun i c v hc hv=> ?_⟩
 rw [List.getElem?_zipWith] at hc
 simp only [List.getElem?_map] at hc
 cases ha:as[i]? with
 | none=>rw [ha] at hc;simp at hc
 | some y=>
  rw [ha] at hc
  simp only [Option.map_some,Option.some.injEq] at hc
  obtain ⟨x,e1,rfl⟩:=argsEv (st:=st) hx hv ha
  rw [←hc]
  exact (asArg_rep y.2 (rep_ax e1 h)).1
theorem argL_get (oi:Option Nat) : ∀(j:Nat) (vs:List CV) (as:List (AX×Option Nat)) (i:Nat),(argL oi j vs as)[i]? =match vs[i]?,as[i]? with
  | some v,some a=>some (if (oi==some (j+i)) =true then v.asOwn a.1 a.2 else v.asArg a.2)
  | _,_=>none
 | j,[],as,i=>by simp [argL]
 | j,v :: vs,[],i=>by simp only [argL,List.getElem?_nil];split<;>first | rfl | (rename_i h;cases h)
 | j,v :: vs,a :: as,0=>by simp [argL]
 | j,v :: vs,a :: as,i+1=>by
  simp only [argL,List.getElem?_cons_succ]
  rw [argL_get oi (j+1) vs as i,show j+1+i=j+(i+1) by omega]
theorem argL_len (oi:Option Nat) : ∀(j:Nat) (vs:List CV) (as:List (AX×Option Nat)),vs.length=as.length→(argL oi j vs as).length=as.length
 | _,[],[],_=>rfl
 | j,v :: vs,a :: as,h=>by simp only [argL,List.length_cons];rw [argL_len oi (j+1) vs as (by simpa using h)]
 | _,[],_ :: _,h=>by simp at h
 | _,_ :: _,[],h=>by simp at h
theorem argsL {xs:Array Operand} {as:List (AX×Option Nat)} (hx:xs.toList.map trX=as.map fun y=>some y.1) {Γ:Froz} {ρ:Nat→Role} {bl:Nat→Nat} {st:St} {a:Act} {w:World} (h:SR Γ ρ bl st a.tmps w) (oi:Option Nat) {K:St→Prop} {k:PM}
  (hw:(stripA oi as ((as.map (·.1)).map (AX.val st)) k).wp K st) :
  xs.size=as.length∧∃ρ' st',SR Γ ρ' bl st' a.tmps w∧Fr w Γ ρ w Γ ρ'∧k.wp K st'∧(∀b,(st.bx b).isSome=true→(st'.bx b).isSome=true)∧
   ∀(i:Nat) c v,(argL oi 0 ((as.map (·.1)).map (AX.val st)) as)[i]? =some c→(xs.map a.eval)[i]? =some v→RepC Γ ρ' bl w (.s (st'.s.length+i)) c v:=by
 refine ⟨by have:=congrArg List.length hx;simpa using this, ?_⟩
 have cp: ∀(ρ':Nat→Role) (_: ∀g b z cap,ρ g= .row b z cap→ρ' g= .row b z cap) (q:Place) (i:Nat) (y:AX×Option Nat) (v:Value),as[i]? =some y→(xs.map a.eval)[i]? =some v→RepC Γ ρ' bl w q ((y.1.val st).asArg y.2) v:=by
  intro ρ' hfr0 q i y v ha hv
  obtain ⟨x,e1,rfl⟩:=argsEv (st:=st) hx hv ha
  obtain ⟨h1,h2⟩:=asArg_rep (q:=q) y.2 (rep_ax e1 h)
  exact h1.keep (.refl _) (fun j e=>(noOwn_comp h2 e).elim) fun b _=>⟨rfl,fun z cap e=>hfr0 _ b z cap e⟩
 have cn: ∀(q:Place) (i:Nat) (y:AX×Option Nat) (v:Value),as[i]? =some y→(xs.map a.eval)[i]? =some v→isOwn (y.1.val st) =false→RepC Γ ρ bl w q ((y.1.val st).asOwn y.1 y.2) v:=by
  intro q i y v ha hv hno
  obtain ⟨ax,nl⟩:=y
  cases ax with
  | t n=>simp only [CV.asOwn,hno,if_false,Bool.false_eq_true];exact cp ρ (fun _ _ _ _ e=>e) q i _ v ha hv
  | c u=>
   obtain ⟨x,e1,rfl⟩:=argsEv (st:=st) hx hv ha
   have hr:=rep_ax e1 h
   have hn:u.noOwn=true:=by
    cases x with
    | const z=>
     simp only [trX,Option.map_eq_some_iff] at e1
     obtain ⟨c,hc',e⟩:=e1
     injection e with e;subst e
     exact (cvOf_plain hc').1
    | func f=>simp only [trX,Option.some.injEq,AX.c.injEq] at e1;subst e1;rfl
    | tmp n=>simp [trX] at e1
    | global g=>simp [trX] at e1
   simp only [CV.asOwn,AX.val] at hr⊢
   cases u with
   | nils=>cases nl with
    | none=>exact RepC.place (c:= .nils) rfl hr
    | some sz=>
     have hv:a.eval x= .slice none 0 0:=hr
     rw [hv]
     exact Or.inl ⟨0,[],rowS_nil w 0 sz,⟨by simp,by simp [flatten],rfl,by simp [flatten]⟩,by simp [Value.ownBlock]⟩
   | _=>exact hr.place hn
 have none':k.wp K st→(∀i y,oi=some i→as[i]? =some y→isOwn (y.1.val st) =false)→∃ρ' st',SR Γ ρ' bl st' a.tmps w∧Fr w Γ ρ w Γ ρ'∧k.wp K st'∧(∀b,(st.bx b).isSome=true→(st'.bx b).isSome=true)∧
   ∀(i:Nat) c v,(argL oi 0 ((as.map (·.1)).map (AX.val st)) as)[i]? =some c→(xs.map a.eval)[i]? =some v→RepC Γ ρ' bl w (.s (st'.s.length+i)) c v:=by
  intro hk hno
  refine ⟨ρ,st,h, .refl _ _ _,hk,fun _ h=>h,fun i c v hc hv=> ?_⟩
  rw [argL_get] at hc
  simp only [List.getElem?_map] at hc
  cases ha:as[i]? with
  | none=>rw [ha] at hc;simp at hc
  | some y=>
   rw [ha] at hc
   simp only [Option.map_some,Nat.zero_add,Option.some.injEq] at hc
   rw [←hc]
   by_cases hi:(oi==some i) =true
   ·rw [if_pos hi];exact cn _ i y v ha hv (hno i y (by simpa using hi) ha)
   ·rw [if_neg hi];exact cp ρ (fun _ _ _ _ e=>e) _ i y v ha hv
 cases oi with
 | none=>exact none' hw (fun i y e=>by cases e)
 | some i0=>
  simp only [stripA] at hw
  have hget: ∀y,as[i0]? =some y→((as.map (·.1)).map (AX.val st)).getD i0 .junk=y.1.val st:=by
   intro y hy;simp [List.getD_eq_getElem?_getD,hy]
  by_cases hown:isOwn (((as.map (·.1)).map (AX.val st)).getD i0 .junk) =true
  ·rw [if_pos hown] at hw
   cases ha0:as[i0]? with
   | none=>simp [List.getD_eq_getElem?_getD,ha0,isOwn] at hown
   | some y0=>
    rw [hget y0 ha0] at hw hown
    rw [show as.getD i0 (AX.c .junk,none) =y0 by simp [List.getD_eq_getElem?_getD,ha0]] at hw
    have hlt:i0<xs.size:=by
     have:=congrArg List.length hx
     have h2:=(List.getElem?_eq_some_iff.1 ha0).1
     simp at this;omega
    obtain ⟨x0,e0,hx0⟩:=argsEv (st:=st) (a:=a) (i:=i0) (v:=a.eval xs[i0]) hx (by simp [hlt]) ha0
    obtain ⟨ax,nl⟩:=y0
    cases ax with
    | c u=>
     exfalso
     have hn:u.noOwn=true:=by
      cases x0 with
      | const z=>
       simp only [trX,Option.map_eq_some_iff] at e0
       obtain ⟨c,hc',e⟩:=e0
       injection e with e;subst e
       exact (cvOf_plain hc').1
      | func f=>simp only [trX,Option.some.injEq,AX.c.injEq] at e0;subst e0;rfl
      | tmp n=>simp [trX] at e0
      | global g=>simp [trX] at e0
     simp only [AX.val] at hown
     cases u<;>simp_all [isOwn,CV.noOwn]
    | t n=>
     simp only [AX.val] at hw hown
     cases hv:st.get (.s n) with
     | own sz l=>
      rw [hv] at hw
      obtain ⟨ρ',st',h1,h2,h3,h4,hst',h5⟩:=strip_sound' h e0 hv hw (.s (st.s.length+i0)) 0
      have hlen:st'.s.length=st.s.length:=by rw [hst'];simp [St.set]
      refine ⟨ρ',st',h1,h3,h4,fun b hb=>by rw [hst'];exact hb,fun i c v hc hvv=> ?_⟩
      rw [hlen]
      rw [argL_get] at hc
      simp only [List.getElem?_map] at hc
      cases ha:as[i]? with
      | none=>rw [ha] at hc;simp at hc
      | some y=>
       rw [ha] at hc
       simp only [Option.map_some,Nat.zero_add,Option.some.injEq] at hc
       rw [←hc]
       by_cases hi:i0=i
       ·subst hi
        rw [ha0] at ha;cases ha
        rw [if_pos (by simp)]
        simp only [CV.asOwn,AX.val,hv,isOwn,if_true]
        have:v=a.eval x0:=by rw [←hx0];simp [hlt] at hvv;exact hvv.symm
        rw [this];exact h2
       ·rw [if_neg (by simpa using hi)];exact cp ρ' h5 _ i y v ha hvv
     | _=>rw [hv] at hown;simp [isOwn] at hown
  ·rw [if_neg hown] at hw
   refine none' hw fun i y e hy=> ?_
   cases e
   rw [hget y hy] at hown
   simpa using hown
theorem run_callFunc {f:Nat} (h:CallOk P f) (args:Array Value) (w:World) :(callFunc f args).run P w= .ok (.enter f args) w:=by
 obtain ⟨fn,h1,h2,h3⟩:=h
 have h2': ¬fn.name="runtime.NumGoroutine":=by simpa using h2
 have h3': ¬fn.body=none:=fun e=>by rw [e] at h3;cases h3
 simp [callFunc,h1,h2',h3']
theorem call_fin {K:St→Prop} {Γ:Froz} {ρ:Nat→Role} {bl:Nat→Nat} {st:St} {a:Act} {w:World} {f:Nat} {vals:Array Value} {Q:Exit→Act→World→Prop} (hd:a.defers= []) (hrun:(execOp a.eval o).run P w= .ok (.enter f vals) w)
  (hc:Calls P f vals w fun e w'=>∃v,e= .returned v∧After K Γ ρ bl w st (putT a.tmps o.dst v) w') :o.wp P a w (fun a' w'=>a'.defers= []∧After K Γ ρ bl w st a'.tmps w') Q:=by
 unfold Oper.wp
 rw [hrun,Oper.upon_enter]
 refine hc.mono ?_
 rintro e w' ⟨v,rfl,h⟩
 exact ⟨by rw [put_defers];exact hd,by rw [put_tmps];exact h⟩
theorem g_call {f:Nat} {xs:Array Operand} {ts:Array TypeId} {as:List (AX×Option Nat)} (oi:Option Nat) (ho:o.op= .call {callee:= .value (.func f),args:=xs,argTypes:=ts}) (hx:xs.toList.map trX=as.map fun y=>some y.1) :Good P o ((AI.call f as oi).pm (Runs P) okr okw o.dst):=by
 intro Γ ρ bl st a w h hgz hd K hw Q
 simp only [AI.pm] at hw
 rw [evL_wp] at hw
 obtain ⟨hl,ρ',st',h',hf',hw,hb,ha⟩:=argsL hx h oi hw
 obtain ⟨hok,hc⟩:=call_sound h' (hgz.fr hf') (vals:=xs.map a.eval) (by simp [hl,argL_len]) ha hw
 have he:a.eval (.func f) = .func (.func f) #[] #[]:=rfl
 refine call_fin hd (by simp [execOp,ho,resolve,he,Deferred.ofValue,invoke,run_callFunc hok]) (hc.mono ?_)
 rintro e w' ⟨v,rfl,hA⟩
 exact ⟨v,rfl,After.trans hf' (fun b hbs=>⟨hb b hbs.2,rfl⟩) hA⟩
theorem g_callv {x:Operand} {ax:AX} {xs:Array Operand} {ts:Array TypeId} {as:List (AX×Option Nat)} (ho:o.op= .call {callee:= .value x,args:=xs,argTypes:=ts}) (hxx:trX x=some ax) (hx:xs.toList.map trX=as.map fun y=>some y.1) :Good P o ((AI.callv ax as).pm (Runs P) okr okw o.dst):=by
 intro Γ ρ bl st a w h hgz hd K hw Q
 simp only [AI.pm] at hw
 rw [ev_wp,evL_wp] at hw
 obtain ⟨hl,ha⟩:=argsRep hx h
 have e:=rep_ax hxx h
 split at hw
 ·rename_i f caps hf
  rw [hf] at e
  have e:a.eval x= .func (.func f) #[] (caps.map fun b=>Value.pointer (some ⟨bl b,0,none⟩)).toArray:=e
  have hlen:(((as.map (·.1)).map (AX.val st)).zipWith (fun v a=>v.asArg a.2) as).length=as.length:=by simp
  obtain ⟨hok,hc⟩:=call_sound h hgz (vals:=xs.map a.eval++(caps.map fun b=>Value.pointer (some ⟨bl b,0,none⟩)).toArray) (by simp [hl]) (fun i c v hc hv=>by
   by_cases hi:i<as.length
   ·rw [List.getElem?_append_left (by rw [hlen];exact hi)] at hc
    rw [Array.getElem?_append_left (by simpa [hl] using hi)] at hv
    exact ha i c v hc hv
   ·rw [List.getElem?_append_right (by rw [hlen];omega),hlen] at hc
    rw [Array.getElem?_append_right (by simp [hl];omega)] at hv
    simp only [Array.size_map,hl] at hv
    rw [List.getElem?_map,Option.map_eq_some_iff] at hc
    obtain ⟨b,hb,rfl⟩:=hc
    simp [hb] at hv
    subst hv
    exact rfl) hw
  refine call_fin hd ?_ hc
  simp [execOp,ho,resolve,e,Deferred.ofValue,invoke,run_callFunc hok]
 ·rename_i f hf
  rw [hf] at e
  have e1:Rep Γ (.fn (some f)) (a.eval x):=e
  have e:a.eval x= .func (.func f) #[] #[]:=by
   generalize a.eval x=u at e1
   cases e1;rfl
  obtain ⟨hok,hc⟩:=call_sound h hgz (vals:=xs.map a.eval) (by simp [hl]) ha hw
  refine call_fin hd ?_ hc
  simp [execOp,ho,resolve,e,Deferred.ofValue,invoke,run_callFunc hok]
 ·exact hw.elim
theorem PM.wp_pres {K:St→Prop}: ∀(m:PM) (st:St),m.wp K st→m.wp (fun st'=>K st'∧∀b,(st.bx b).isSome=true→(st'.bx b).isSome=true) st
 | .done,st,h=>⟨h,fun _ h=>h⟩
 | .kill b k,st,h=>⟨h.1,PM.wp_mono (fun st' hk=>⟨hk.1,fun j hj=>hk.2 j (by rw [St.kill_bx];simpa using hj)⟩) _ _ (PM.wp_pres k _ h.2)⟩
 | .get p k,st,h=>PM.wp_pres (k _) st h
 | .set p v k,st,h=>by
  refine ⟨h.1,PM.wp_mono (fun st' hk=>⟨hk.1,fun b hb=>hk.2 b ?_⟩) _ _ (PM.wp_pres k _ h.2)⟩
  cases p with
  | s n=>exact hb
  | b n=>
   cases v with
   | agg cs=>rw [St.bx_setBox];split;rfl;exact hb
   | _=>exact hb
 | .ex β k,st,⟨x,h⟩=>⟨x,PM.wp_pres (k x) st h⟩
 | .req c k,st,h=>⟨h.1,PM.wp_pres k st h.2⟩
 | .all k,st,h=>fun x=>PM.wp_pres (k x) st (h x)
 | .fail,_,h=>h.elim
structure Ent where
 w:World
 Γ:Froz
 ρ:Nat→Role
 bl:Nat→Nat
 X:List Nat
 gz:GzOk ρ w
 big: ∀b∈X,1000≤b
def RR (E:Ent) (st:St) (a:Act) (w:World) :Prop:=
 a.defers= []∧∃Γ ρ bl,SR Γ ρ bl st a.tmps w∧Fr E.w E.Γ E.ρ w Γ ρ∧∀b∈E.X,(st.bx b).isSome=true∧(b<5000→bl b=E.bl b)
theorem good_rr {E:Ent} {m:PM} (hg:Good P o m) {st:St} {a:Act} {w:World} (h:RR E st a w) {K:St→Prop} (hw:m.wp K st) (Q:Exit→Act→World→Prop) :o.wp P a w (fun a' w'=>∃st',K st'∧RR E st' a' w') Q:=by
 obtain ⟨hd,Γ,ρ,bl,hs,hf,hb⟩:=h
 refine Oper.wp_mono ?_ (hg Γ ρ bl st a w hs (E.gz.fr hf) hd _ (PM.wp_pres m st hw) Q)
 rintro a' w' ⟨hd',Γ',ρ',bl',st',⟨hK,hp⟩,hs',hf',hb'⟩
 exact ⟨st',hK,hd',Γ',ρ',bl',hs',hf.trans hf',fun b hx=>⟨hp b (hb b hx).1,fun h5=>(hb' b ⟨⟨E.big b hx,h5⟩,(hb b hx).1⟩).trans ((hb b hx).2 h5)⟩⟩
theorem rr_put_undef {E:Ent} {st:St} {a:Act} {w:World} (h:RR E st a w) {dst:Option Nat} {K:St→Prop} (hw:(setD dst undefC).wp K st) : ∃st',K st'∧RR E st' (a.put dst undef) w:=by
 obtain ⟨hd,Γ,ρ,bl,hs,hf,hb⟩:=h
 cases dst with
 | none=>exact ⟨st,hw,hd,Γ,ρ,bl,hs,hf,hb⟩
 | some d=>exact ⟨_,hw.2,hd,Γ,ρ,bl,by rw [put_tmps];exact hs.setSlot d undefC undef ⟨[],rfl,rfl,fun _ _ _ h=>by simp at h⟩ (fun _ h=>by obtain ⟨_,h,_⟩:=h;cases h),hf,hb⟩
def AOpFits (P:Program) (ops:Array Oper) (o:Oper) (ao:AOp) :Prop:=
 ao.dst=o.dst∧(∀okr okw,Good P o (ao.i.pm (Runs P) okr okw o.dst))∧match o.guard with
  | none=>ao.g=none
  | some (j,b)=>∃d,(ops[j]?).bind (·.dst) =some d∧ao.g=some (d,b)
theorem aop_sound {E:Ent} {ops:Array Oper} {ao:AOp} (hf:AOpFits P ops o ao) {st:St} {a:Act} {w:World} (h:RR E st a w) {K:St→Prop} (hw:(ao.pm (Runs P) okr okw).wp K st) (Q:Exit→Act→World→Prop) :
  if Region.wanted o (yielded ops a.tmps) then o.wp P a w (fun a' w'=>∃st',K st'∧RR E st' a' w') Q else ∃st',K st'∧RR E st' (a.put o.dst undef) w:=by
 obtain ⟨hdst,hgood,hg⟩:=hf
 unfold AOp.pm at hw
 cases hgd:o.guard with
 | none=>
  rw [hgd] at hg
  have hg:ao.g=none:=hg
  rw [hg,hdst] at hw
  rw [if_pos (by simp [Region.wanted,hgd])]
  exact good_rr (hgood okr okw) h hw Q
 | some jb=>
  obtain ⟨j,want⟩:=jb
  rw [hgd] at hg
  obtain ⟨d,hd,hag⟩:=hg
  rw [hag,hdst] at hw
  change (match guardOf (st.get (.s d)) with | some r=>_ | none=>PM.fail).wp K st at hw
  split at hw
  ·rename_i r hr
   have hy:yielded ops a.tmps j=r:=by
    obtain ⟨_,Γ,ρ,bl,hs,_,_⟩:=h
    have hl:d<st.s.length:=by
     rcases Nat.lt_or_ge d st.s.length with h | h
     ·exact h
     ·simp only [St.get,List.getD_eq_getElem?_getD] at hr
      rw [List.getElem?_eq_none h] at hr;cases hr
    obtain ⟨v,hv,hrep⟩:=hs.slots d _ (List.getElem?_eq_getElem hl)
    have e1:st.get (.s d) =st.s[d]:=St.get_slot (List.getElem?_eq_getElem hl)
    rw [←e1] at hrep
    generalize st.get (.s d) =c at hr hrep
    unfold guardOf at hr
    split at hr
    ·cases hr
     have:=rep_bool hrep
     subst this
     simp [yielded,hd,hv]
    ·cases hr
     obtain ⟨vs,e,hlen,_⟩:=hrep
     have:vs= []:=List.length_eq_zero_iff.1 (by simpa using hlen.symm)
     subst this
     subst e
     simp [yielded,hd,hv]
    ·cases hr
   have hwant:Region.wanted o (yielded ops a.tmps) =(r==some want):=by
    simp [Region.wanted,hgd,hy]
   rw [hwant]
   split at hw
   ·rename_i hbw
    rw [if_pos hbw]
    exact good_rr (hgood okr okw) h hw Q
   ·rename_i hbw
    rw [if_neg hbw]
    exact rr_put_undef h hw
  ·exact hw.elim
inductive AExit where
 | normal
 | exit (id:Nat)
 | ret
def opsWp (C:CallRel) :List AOp→(St→Prop)→St→Prop
 | [],K,st=>K st
 | o :: r,K,st=>(o.pm C (fun _=>true) (fun _=>true)).wp (opsWp C r K) st
def rdK (M:List Nat) (c b:Nat) :Bool:=c==1||c==2||(decide (10≤c) &&((c- 10) / 64 / 2 ^ (M.idxOf b)) % 2==1)
def wrK (M:List Nat) (c b:Nat) :Bool:=c==2||(decide (10≤c) &&((c- 10) % 64 / 2 ^ (M.idxOf b)) % 2==1)
def okrOf (M A:List Nat) (c:Nat) :Nat→Bool:=fun b=>c==3||(!A.contains b&&(!M.contains b||rdK M c b))
def okwOf (M A:List Nat) (c:Nat) :Nat→Bool:=fun b=>b !=4999&&(c==3||(!A.contains b&&(M.contains b&&wrK M c b)))
def drawWp (C:CallRel) (M A:List Nat) :List AOp→List Nat→(St→Prop)→St→Prop
 | [],_,K,st=>K st
 | o :: r,cls,K,st=>(o.pm C (okrOf M A (cls.headD 0)) (okwOf M A (cls.headD 0))).wp (drawWp C M A r cls.tail K) st
def dsts (M:List Nat) (l:List AOp) :List Nat:=(l.filterMap (·.dst)).filter fun d=> !M.contains d
def thenQ (K:St→Prop) (Q:AExit→St→Prop) :AExit→St→Prop
 | .normal,st=>K st
 | e,st=>Q e st
def inBlk (id:Nat) (Q:AExit→St→Prop) :AExit→St→Prop
 | .exit k,st=>if k=id then Q .normal st else Q (.exit k) st
 | e,st=>Q e st
def Wc:CV→CV→Prop
 | _, .junk=>True
 | .nils, .own _ l=>l= []
 | .nils, .d (.slice _ l)=>l= []
 | .d (.nils _), .own _ l=>l= []
 | .d (.nils z), .d y=>y= .nils z∨y= .slice z []
 | .d (.agg l), .d y=>y= .agg l∨y= .agg (l.map D.norm1)
 | .own sz l, .d x=>x= .slice sz l
 | .bld e _ l, .bld e' false l'=>e=e'∧l=l'
 | c,c'=>c=c'
def WcL:List CV→List CV→Prop
 | [],[]=>True
 | c :: r,c' :: r'=>Wc c c'∧WcL r r'
 | _,_=>False
def WcR (cs cs':List CV) :Prop:=WcL cs cs'∧rowOf cs=rowOf cs'
def WcB (bs:List (Nat×List CV)) :List (Nat×List CV)→Prop
 | []=>True
 | (b,cs) :: r=>(match bs.lookup b with | some cs'=>WcR cs' cs | none=>False)∧WcB bs r
def St.clo (st:St) :Bool:=st.s.all (CV.inB (st.b.map (·.1))) &&st.b.all fun x=>x.2.all (CV.in1 (st.b.map (·.1)))
def Wk (X:List Nat) (st st':St) :Prop:=WcL st.s st'.s∧WcB st.b st'.b∧st'.clo=true∧(X.all fun b=>(st'.bx b).isSome) =true
def awp (C:CallRel) (X:List Nat) :AC→(AExit→St→Prop)→St→Prop
 | .skip,Q,st=>Q .normal st
 | .ops l,Q,st=>opsWp C l (Q .normal) st
 | .draw l cls M,Q,st=>drawWp C M (dsts M l) l cls (Q .normal) st
 | .seq a b,Q,st=>awp C X a (thenQ (awp C X b Q) Q) st
 | .cond c a b,Q,st=>match boolOf (c.val st) with
  | some t=>if t then awp C X a Q st else awp C X b Q st
  | none=>False
 | .block id a,Q,st=>awp C X a (inBlk id Q) st
 | .loop a,Q,st=>∃I:St→Nat→Prop,(∃st1 n,Wk X st st1∧I st1 n)∧∀st n,I st n→awp C X a (thenQ (fun st'=>∃st1 m,m<n∧Wk X st' st1∧I st1 m) Q) st
 | .exit id,Q,st=>Q (.exit id) st
 | .ret,Q,st=>Q .ret st
theorem WcL_len: ∀{l m:List CV},WcL l m→l.length=m.length
 | [],[],_=>rfl
 | _ :: _,_ :: _,h=>by simp [WcL_len h.2]
 | [],_ :: _,h=>h.elim
 | _ :: _,[],h=>h.elim
theorem WcL_get: ∀{l m:List CV},WcL l m→∀{i:Nat} {c':CV},m[i]? =some c'→∃c,l[i]? =some c∧Wc c c'
 | [],[],_,i,c',h=>by simp at h
 | c :: l,c1 :: m,h,i,c',hc=>by
  cases i with
  | zero=>simp at hc;subst hc;exact ⟨c,rfl,h.1⟩
  | succ i=>simpa using WcL_get h.2 (by simpa using hc)
 | [],_ :: _,h,_,_,_=>h.elim
 | _ :: _,[],h,_,_,_=>h.elim
theorem ownNil (Γ:Froz) (ρ:Nat→Role) (w:World) (p:Place) (i sz:Nat) :Own Γ ρ w p i sz [] (.slice none 0 0):=
 .inl ⟨0,[],rowS_nil w 0 sz,⟨by simp,by simp [flatten],rfl,by simp [flatten]⟩,by simp [Value.ownBlock]⟩
theorem Wc_sp {c:CV} {k t:Nat} (h:Wc c (.sp k t)) :c= .sp k t:=by
 unfold Wc at h
 split at h<;>first | exact h | (cases h;done) | (rename_i e;cases e;done) | simp_all
theorem Wc_rep1 {Γ:Froz} {ρ:Nat→Role} {bl:Nat→Nat} {w:World} {p:Place} {i:Nat} {c c':CV} {v:Value} (h:Wc c c') (hr:RepC1 Γ ρ bl w p i c v) :RepC1 Γ ρ bl w p i c' v:=by
 unfold Wc at h
 split at h
 ·trivial
 ·subst h;have hr:v= .slice none 0 0:=hr;subst hr;exact ownNil _ _ _ _ _ _
 ·subst h;have hr:v= .slice none 0 0:=hr;subst hr;exact Rep.nil _
 ·subst h
  rename_i z _
  have hr:Rep Γ (.nils z) v:=hr
  cases hr;exact ownNil _ _ _ _ _ _
 ·rcases h with rfl | rfl
  ·exact hr
  ·exact Rep.norm (d:= .nils _) hr
 ·rcases h with rfl | rfl
  ·exact hr
  ·exact Rep.norm (d:= .agg _) hr
 ·subst h;exact Own.rep hr
 ·obtain ⟨rfl,rfl⟩:=h;exact ⟨(fun e=>by cases e),hr.2⟩
 ·subst h;exact hr
theorem Wc_rep {Γ:Froz} {ρ:Nat→Role} {bl:Nat→Nat} {w:World} {p:Place} {c c':CV} {v:Value} (h:Wc c c') (hr:RepC Γ ρ bl w p c v) :RepC Γ ρ bl w p c' v:=by
 unfold Wc at h
 split at h
 ·trivial
 ·subst h;have hr:v= .slice none 0 0:=hr;subst hr;exact ownNil _ _ _ _ _ _
 ·subst h;have hr:v= .slice none 0 0:=hr;subst hr;exact Rep.nil _
 ·subst h
  rename_i z _
  have hr:Rep Γ (.nils z) v:=hr
  cases hr;exact ownNil _ _ _ _ _ _
 ·rcases h with rfl | rfl
  ·exact hr
  ·exact Rep.norm (d:= .nils _) hr
 ·rcases h with rfl | rfl
  ·exact hr
  ·exact Rep.norm (d:= .agg _) hr
 ·subst h;exact Own.rep hr
 ·obtain ⟨rfl,rfl⟩:=h;exact ⟨(fun e=>by cases e),hr.2⟩
 ·subst h;exact hr
theorem WcB_get {bs:List (Nat×List CV)}: ∀{l:List (Nat×List CV)},WcB bs l→∀{b:Nat} {cs:List CV},l.lookup b=some cs→∃cs',bs.lookup b=some cs'∧WcR cs' cs
 | [],_,b,cs,h=>by cases h
 | (k,v) :: r,h,b,cs,hl=>by
  simp only [List.lookup] at hl
  split at hl
  ·rename_i e;simp at e;subst e;cases hl
   have:=h.1
   split at this
   ·rename_i cs' hcs';exact ⟨cs',hcs',this⟩
   ·exact this.elim
  ·exact WcB_get h.2 hl
theorem SR.weak {Γ:Froz} {ρ:Nat→Role} {bl:Nat→Nat} {st st':St} {tmps:Array Value} {w:World} (h:SR Γ ρ bl st tmps w) {X:List Nat} (hw:Wk X st st') :SR Γ ρ bl st' tmps w:=by
 obtain ⟨h1,h2,h3,_⟩:=hw
 simp only [St.clo,Bool.and_eq_true] at h3
 refine ⟨h.agree,by rw [h.len,WcL_len h1],fun i c hc=> ?_,fun b cs hcs hro=> ?_,fun b cs z l hcs hro=> ?_,h.rowk,fun p b hm=> ?_,h.rho,h.gl,fun b k t cs hcs hk=> ?_⟩
 ·obtain ⟨c0,hc0,hwc⟩:=WcL_get h1 hc
  obtain ⟨v,hv,hr⟩:=h.slots i c0 hc0
  exact ⟨v,hv,Wc_rep hwc hr⟩
 ·obtain ⟨cs0,hcs0,hwl⟩:=WcB_get h2 hcs
  obtain ⟨arr,e,k1,k2,k3,k4⟩:=h.boxes b cs0 hcs0 (by rw [hwl.2];exact hro)
  refine ⟨arr,e,k1,k2,⟨by rw [←k3.1,WcL_len hwl.1],fun i c v hc hv=> ?_⟩,k4⟩
  obtain ⟨c0,hc0,hwc⟩:=WcL_get hwl.1 hc
  exact Wc_rep1 hwc (k3.2 i c0 v hc0 hv)
 ·obtain ⟨cs0,hcs0,hwl⟩:=WcB_get h2 hcs
  exact h.rows b cs0 z l hcs0 (by rw [hwl.2];exact hro)
 ·apply lookup_of_key
  cases p with
  | s n=>
   simp only [St.get,List.getD_eq_getElem?_getD] at hm
   cases e:st'.s[n]? with
   | none=>rw [e] at hm;exact hm.elim
   | some c=>rw [e] at hm;exact inB_ment (List.all_eq_true.1 h3.1 c (List.mem_of_getElem? e)) hm
  | b n=>
   simp only [St.get,St.bx] at hm
   split at hm
   ·rename_i cs hcs
    obtain ⟨c,hc,hm⟩:=hm
    exact in1_ment (List.all_eq_true.1 (List.all_eq_true.1 h3.2 _ (lookup_mem hcs)) c hc) hm
   ·exact hm.elim
 ·obtain ⟨cs0,hcs0,hwl⟩:=WcB_get h2 hcs
  obtain ⟨c0,hc0,hwc⟩:=WcL_get hwl.1 hk
  rw [Wc_sp hwc] at hc0
  exact h.bty b k t cs0 hcs0 hc0
theorem RR.weak {E:Ent} {st st':St} {a:Act} {w:World} (h:RR E st a w) (hw:Wk E.X st st') :RR E st' a w:=by
 obtain ⟨hd,Γ,ρ,bl,hs,hf,hb⟩:=h
 exact ⟨hd,Γ,ρ,bl,hs.weak hw,hf,fun b hx=>⟨List.all_eq_true.1 hw.2.2.2 b hx,(hb b hx).2⟩⟩
theorem wp_loop_n {Q:Exit→Act→World→Prop} {a:Act} {w:World} {c:Code} (I:Nat→Act→World→Prop) (h₀: ∃n,I n a w)
  (round: ∀n a w,I n a w→c.wp P (Exit.then (fun a' w'=>∃m,m<n∧I m a' w') Q) a w) :(Code.loop c).wp P Q a w:=by
 intro b k cs
 have key: ∀n a w,I n a w→∃e a' w',Q e a' w'∧Arrives P (lone (b.at a (.code c :: .inLoop c :: k)) cs w) b k cs e a' w':=by
  intro n
  induction n using Nat.strongRecOn with
  | _ n ih=>
   intro a w hI
   obtain ⟨e,a₁,w₁,hq,harr⟩:=round n a w hI b (.inLoop c :: k) cs
   cases e with
   | normal=>
    obtain ⟨m,hlt,hI₁⟩:=hq
    obtain ⟨e₂,a₂,w₂,hq₂,harr₂⟩:=ih m hlt a₁ w₁ hI₁
    exact ⟨e₂,a₂,w₂,hq₂, .of_steps (Steps.trans harr (.one step_inLoop)) harr₂⟩
   | exit id=>exact ⟨_,a₁,w₁,hq, .pass (x:= .inLoop c) rfl (fun _ _=> .inl (by simp)) harr⟩
   | goto l=>exact ⟨_,a₁,w₁,hq, .pass (x:= .inLoop c) rfl (fun _ _=> .inl (by simp)) harr⟩
   | ret=>exact ⟨_,a₁,w₁,hq, .pass (x:= .inLoop c) rfl (fun _ _=> .inl (by simp)) harr⟩
   | panic ch=>exact ⟨_,a₁,w₁,hq, .pass (x:= .inLoop c) rfl (fun _ _=> .inl (by simp)) harr⟩
   | outgrown=>exact ⟨_,a₁,w₁,hq, .pass (x:= .inLoop c) rfl (fun _ _=> .inl (by simp)) harr⟩
 obtain ⟨n,hn⟩:=h₀
 obtain ⟨e,a',w',hq,harr⟩:=key n a w hn
 exact ⟨e,a',w',hq, .of_steps (.one step_loop) harr⟩
def lift (E:Ent) (Q:AExit→St→Prop) :Exit→Act→World→Prop
 | .normal,a,w=>∃st,Q .normal st∧RR E st a w
 | .exit id,a,w=>∃st,Q (.exit id) st∧RR E st a w
 | .ret,a,w=>∃st,Q .ret st∧RR E st a w
 | _,_,_=>False
inductive Fits (P:Program) :Code→AC→Prop
 | skip:Fits P .skip .skip
 | ops {id:Nat} {ops:Array Oper} {l:List AOp} (hl:l.length=ops.size) (h: ∀(i:Nat) o ao,ops[i]? =some o→l[i]? =some ao→AOpFits P ops o ao) :Fits P (.region id ops false) (.ops l)
 | draw {id:Nat} {ops:Array Oper} {l:List AOp} {cls M:List Nat} (h: ∀(E:Ent) (Q:AExit→St→Prop) (st:St) (a:Act) (w:World),RR E st a w→drawWp (Runs P) M (dsts M l) l cls (Q .normal) st→(Code.region id ops true).wp P (lift E Q) a w) :Fits P (.region id ops true) (.draw l cls M)
 | seq {a b:Code} {x y:AC} (h:Fits P a x) (k:Fits P b y) :Fits P (.seq a b) (.seq x y)
 | cond {c:Operand} {ac:AX} {a b:Code} {x y:AC} (hc:trX c=some ac) (h:Fits P a x) (k:Fits P b y) :Fits P (.cond c a b) (.cond ac x y)
 | block {id:Nat} {a:Code} {x:AC} (h:Fits P a x) :Fits P (.block id a) (.block id x)
 | loop {a:Code} {x:AC} (h:Fits P a x) :Fits P (.loop a) (.loop x)
 | exit {id:Nat}:Fits P (.exit id) (.exit id)
 | ret:Fits P .ret .ret
theorem ops_sound {E:Ent} {ops:Array Oper} {Q:AExit→St→Prop}: ∀(l:List AOp) (k:Nat),(∀(i:Nat) o ao,ops[k+i]? =some o→l[i]? =some ao→AOpFits P ops o ao)→k+l.length=ops.size→∀(st:St) (a:Act) (w:World),RR E st a w→opsWp (Runs P) l (Q .normal) st→wpOps P ops (lift E Q) (List.range' k l.length) a w
 | [],k,_,_,st,a,w,h,hw=>⟨st,hw,h⟩
 | ao :: r,k,hf,hl,st,a,w,h,hw=>by
  have hk:k<ops.size:=by simp at hl;omega
  have ho:ops[k]? =some ops[k]:=by simp [hk]
  have hfit:=hf 0 ops[k] ao (by simpa using ho) rfl
  have hs:=aop_sound hfit h hw (lift E Q)
  have ih:=ops_sound (E:=E) (Q:=Q) r (k+1) (fun i o ao' h1 h2=>hf (i+1) o ao' (by rwa [show k+(i+1) =k+1+i by omega]) (by simpa using h2)) (by simp at hl;omega)
  simp only [List.length_cons,List.range'_succ]
  simp only [wpOps,ho]
  split at hs
  ·rename_i hw'
   rw [if_pos hw']
   refine .inl (Oper.wp_mono ?_ hs)
   rintro a' w' ⟨st',hK,hR⟩
   exact ih st' a' w' hR hK
  ·rename_i hw'
   rw [if_neg hw']
   obtain ⟨st',hK,hR⟩:=hs
   exact ih st' _ w hR hK
theorem awp_sound {E:Ent} {c:Code} {x:AC} (hf:Fits P c x) : ∀(Q:AExit→St→Prop) (st:St) (a:Act) (w:World),RR E st a w→awp (Runs P) E.X x Q st→c.wp P (lift E Q) a w:=by
 induction hf with
 | skip=>intro Q st a w h hw;exact wp_skip ⟨st,hw,h⟩
 | ops hl hfit=>
  rename_i ops l
  intro Q st a w h hw
  refine wp_region ?_
  have:=ops_sound (P:=P) l 0 (fun i o ao h1 h2=>hfit i o ao (by simpa using h1) h2) (by simpa using hl) st a w h hw
  rw [List.range_eq_range',←hl]
  exact this
 | draw hd=>intro Q st a w h hw;exact hd E Q st a w h hw
 | seq _ _ ih1 ih2=>
  intro Q st a w h hw
  refine wp_seq (wp_mono (ih1 _ st a w h hw) ?_)
  intro e a' w' hq
  cases e with
  | normal=>obtain ⟨st',hq,hr⟩:=hq;exact ih2 Q st' a' w' hr hq
  | exit id=>exact hq
  | ret=>exact hq
  | goto l=>exact hq.elim
  | panic c=>exact hq.elim
  | outgrown=>exact hq.elim
 | cond hc _ _ ih1 ih2=>
  intro Q st a w h hw
  simp only [awp] at hw
  split at hw
  ·rename_i t ht
   obtain ⟨_,Γ,ρ,bl,hs,_,_⟩:=id h
   have hr:=rep_ax hc hs
   rw [boolOf_eq ht] at hr
   refine wp_cond (rep_bool hr) ?_
   cases t
   ·exact ih2 Q st a w h hw
   ·exact ih1 Q st a w h hw
  ·exact hw.elim
 | block _ ih=>
  rename_i id a0 x0 _
  intro Q st a w h hw
  refine wp_block (wp_mono (ih _ st a w h hw) ?_)
  intro e a' w' hq
  cases e with
  | normal=>exact hq
  | exit k=>
   obtain ⟨st',hq,hr⟩:=hq
   simp only [Exit.inBlock,inBlk] at hq⊢
   split
   ·rename_i e;rw [if_pos e] at hq;exact ⟨st',hq,hr⟩
   ·rename_i e;rw [if_neg e] at hq;exact ⟨st',hq,hr⟩
  | ret=>exact hq
  | goto l=>exact hq.elim
  | panic c=>exact hq.elim
  | outgrown=>exact hq.elim
 | loop _ ih=>
  intro Q st a w h hw
  obtain ⟨I,⟨st1,n,hwk,hI⟩,hround⟩:=hw
  refine wp_loop_n (fun n a w=>∃st,I st n∧RR E st a w) ⟨n,st1,hI,h.weak hwk⟩ ?_
  rintro n a w ⟨st,hI,hR⟩
  refine wp_mono (ih _ st a w hR (hround st n hI)) ?_
  intro e a' w' hq
  cases e with
  | normal=>
   obtain ⟨st',⟨st1,m,hm,hwk,hI⟩,hr⟩:=hq
   exact ⟨m,hm,st1,hI,hr.weak hwk⟩
  | exit id=>exact hq
  | ret=>exact hq
  | goto l=>exact hq.elim
  | panic c=>exact hq.elim
  | outgrown=>exact hq.elim
 | exit=>intro Q st a w h hw;exact wp_exit ⟨st,hw,h⟩
 | ret=>intro Q st a w h hw;exact wp_ret ⟨st,hw,h⟩
end B
end Go.Proofs.YtmkkljbfmdngfaaGreatDoor
namespace Go.Proofs.YtmkkljbfmdngfaaGreatDoor
namespace B
open Go.RowKit
variable {P:Program}
inductive AR where
 | tm (n:Nat)
 | ce (a:Nat) (ag:Bool) (n:Nat)
def AR.val (st:St) :AR→Option CV
 | .tm n=>some (st.get (.s n))
 | .ce a ag n=>match st.get (.s a) with
  | .ptr b off=>match st.get (.b b) with
   | .agg cs=>if (decide (off+n≤cs.length) &&(rowOf cs).isNone) =true then some (if ag then mkAgg ((cs.drop off).take n) else (cs.getD off .junk).copy1) else none
   | _=>none
  | _=>none
def AR.fits (P:Program) :ResultVar→AR→Prop
 | .tmp t, .tm n=>t=n
 | .cell a ty, .ce b ag n=>a=b∧isAggT P ty=some ag∧(∃ti,P.info? ty=some ti∧ti.size=n)∧(ag=false→n=1)
 | _,_=>False
def AR.slot:AR→List Nat
 | .tm n=>[n]
 | _=>[]
def AR.run (P:Program) (tmps:Array Value) :ResultVar→Sem Value
 | .tmp t=>pure (tmps.getD t undef)
 | .cell a t=>do loadVar t (←asAddr (tmps.getD a undef))
theorem get_rep {Γ:Froz} {ρ:Nat→Role} {bl:Nat→Nat} {st:St} {tmps:Array Value} {w:World} (h:SR Γ ρ bl st tmps w) (n:Nat) :RepC Γ ρ bl w (.s n) (st.get (.s n)) (tmps.getD n undef):=by
 by_cases hl:n<st.s.length
 ·obtain ⟨v,hv,hr⟩:=h.slots n _ (List.getElem?_eq_getElem hl)
  have e1:st.get (.s n) =st.s[n]:=St.get_slot (List.getElem?_eq_getElem hl)
  have e2:tmps.getD n undef=v:=by rw [Array.getD_eq_getD_getElem?,hv];rfl
  rw [e1,e2];exact hr
 ·have e1:st.get (.s n) = .junk:=by simp only [St.get,List.getD_eq_getElem?_getD];rw [List.getElem?_eq_none (Nat.le_of_not_lt hl)];rfl
  rw [e1];trivial
theorem AR.sound {rv:ResultVar} {ar:AR} (hf:AR.fits P rv ar) {Γ:Froz} {ρ:Nat→Role} {bl:Nat→Nat} {st:St} {tmps:Array Value} {w:World} (h:SR Γ ρ bl st tmps w) {c:CV} (hc:ar.val st=some c) :
  ∃v,(AR.run P tmps rv).run P w= .ok v w∧(RepC Γ ρ bl w (.s ((ar.slot.head?).getD 0)) c v)∧(ar.slot= []→c.noOwn=true)∧∀b,c.ment b→(st.bx b).isSome=true:=by
 cases rv with
 | tmp t=>
  cases ar with
  | ce a ag n=>exact hf.elim
  | tm n=>
   have hf:t=n:=hf
   subst hf
   simp only [AR.val,Option.some.injEq] at hc;subst hc
   exact ⟨_,rfl,get_rep h t,by simp [AR.slot],fun b hb=>h.closed _ b hb⟩
 | cell a ty=>
  cases ar with
  | tm n=>exact hf.elim
  | ce a' ag n=>
   obtain ⟨rfl,hag,⟨ti,hi,hn⟩,hag1⟩:=hf
   simp only [AR.val] at hc
   split at hc
   ·rename_i b off hp
    split at hc
    ·rename_i cs hcs
     split at hc
     ·rename_i hoff
      simp only [Option.some.injEq] at hc
      have hptr:=get_rep h a
      rw [hp] at hptr
      have hptr:tmps.getD a undef= .pointer (some ⟨bl b,off,none⟩):=hptr
      have hbx:=get_b_agg hcs
      simp only [Bool.and_eq_true,decide_eq_true_eq,Option.isNone_iff_eq_none] at hoff
      obtain ⟨hoff,hro⟩:=hoff
      obtain ⟨arr,ety,h1,h2,h3,h4⟩:=h.boxes b cs hbx hro
      have hal:arr.toList.length=cs.length:=h3.1.symm
      cases ag with
      | true=>
       simp only [if_true] at hc;subst hc
       have hl:((arr.toList.drop off).take n).length=n:=by simp;simp at hal;omega
       have:=run_loadCells_list (P:=P) w ⟨bl b,off,none⟩ ((arr.toList.drop off).take n) (fun j v hj=>by
        rw [Addr.add_lit',cell_row h1,←Array.getElem?_toList];exact cut_get hj)
       rw [hl] at this
       obtain ⟨k1,k2⟩:=h3.cut off n
       refine ⟨.agg ((arr.toList.drop off).take n).toArray, ?_,mkAgg_rep' k1 k2,fun _=>mkAgg_noOwn _,fun k hk=> ?_⟩
       ·simp [AR.run,hptr,asAddr,loadVar,run_isAgg hag,sizeOf,typeInfo,hi,hn,this]
       ·obtain ⟨c,hc,hm⟩:=mkAgg_ment hk
        exact h.closed (.b b) k (by rw [St.get_bx hbx];exact ⟨c,mem_drop_take hc,hm⟩)
      | false=>
       obtain rfl:=hag1 rfl
       simp only [Bool.false_eq_true,if_false] at hc
       have hoff':off<arr.size:=by simp at hal;omega
       have hci:cs[off]? =some (cs.getD off .junk):=by
        have:off<cs.length:=by simp at hal;omega
        simp [List.getD_eq_getElem?_getD,this]
       have hr:=h3.2 off _ arr[off] hci (by simp [hoff'])
       have hment: ∀k,(cs.getD off .junk).ment1 k→(st.bx k).isSome=true:=fun k hk=>h.closed (.b b) k (by rw [St.get_bx hbx];exact ⟨_,List.mem_of_getElem? hci,hk⟩)
       generalize cs.getD off .junk=c0 at*
       have hna:c0.isAggr=false:=by cases c0<;>first | rfl | exact hr.elim
       refine ⟨arr[off], ?_, ?_,fun _=> ?_,fun k hk=> ?_⟩
       ·simp [AR.run,hptr,asAddr,loadVar,run_isAgg hag,cell_row h1,hoff']
       ·have:=hr.copy1 (q:= .s 0) (j:=0)
        subst hc
        cases c0<;>first | exact this | (simp [CV.isAggr] at hna;done)
       ·subst hc;cases c0<;>first | rfl | (simp [CV.isAggr] at hna;done)
       ·subst hc;exact hment k (by cases c0<;>first | exact hk | exact hk.elim | (simp [CV.isAggr] at hna;done))
     ·cases hc
    ·cases hc
   ·cases hc
def valsOf (st:St) :List AR→Option (List CV)
 | []=>some []
 | x :: r=>match x.val st,valsOf st r with
  | some c,some cs=>some (c :: cs)
  | _,_=>none
def packR:List CV→CV
 | [c]=>c
 | cs=> .tup cs
def Wr:CV→CV→Prop
 | .tup l, .tup m=>WcL l m
 | c,c'=>Wc c c'
def EndQ (rs:List AR) (res:CV) (objs':List (Nat×List CV)) (st:St) :Prop:=
 ∃cs,valsOf st rs=some cs∧(cs.length=1∨(cs.all fun c=> !c.isAggr) =true)∧Wr (packR cs) res∧WcB st.b objs'∧(⟨[res],objs'⟩ :St).clo=true
def retQ (rs:List AR) (res:CV) (objs':List (Nat×List CV)) :AExit→St→Prop
 | .normal,st=>EndQ rs res objs' st
 | .ret,st=>EndQ rs res objs' st
 | .exit _,_=>False
def endRole (rs:List AR) (one:Bool) (ρ:Nat→Role) :Nat→Role:=fun g=>match ρ g with
 | .own (.s k) i=>match rs.findIdx? fun x=>x.slot== [k] with
  | some j=>if one then .own (.s 0) i else .own (.s 0) j
  | none=> .plain
 | r=>r
theorem RepC1.move2 {Γ:Froz} {ρ ρ':Nat→Role} {bl bl':Nat→Nat} {w:World} {p q:Place} {i j:Nat} {c:CV} {v:Value}
  (own: ∀g,ρ g= .own p i→ρ' g= .own q j) (hb: ∀b,c.ment1 b→RK ρ ρ' bl bl' b) (h:RepC1 Γ ρ bl w p i c v) :RepC1 Γ ρ' bl' w q j c v:=by
 cases c with
 | own sz l=>
  rcases h with ⟨e,vs,h1,h2,h3⟩ | h
  ·exact .inl ⟨e,vs,h1,h2,fun g hg=>⟨own g (h3 g hg).1,(h3 g hg).2⟩⟩
  ·exact .inr h
 | ptr b o=>have:=(hb b rfl).1;simp only [RepC1] at h⊢;rw [this];exact h
 | sp b t=>have:=(hb b rfl).1;simp only [RepC1] at h⊢;rw [this];exact h
 | rs z k o n=>exact RowH.keep (hb k rfl) h
 | ea z k j o=>exact RowA.keep (hb k rfl) h
 | fn f caps=>
  simp only [RepC1] at h⊢
  rw [h];congr 2
  exact List.map_congr_left fun b hm=>by rw [(hb b hm).1]
 | line z l=>obtain ⟨g,buf,s,r,h1,h2,h3,h4⟩:=h;exact ⟨g,buf,s,r,h1,h2,own g h3,h4⟩
 | bld e f l=>exact ⟨h.1,h.2.1,fun g hg=>⟨own g (h.2.2 g hg).1,(h.2.2 g hg).2⟩⟩
 | _=>exact h
theorem RepC.anyRole {Γ:Froz} {ρ:Nat→Role} {bl:Nat→Nat} {w:World} {p:Place} {c:CV} {v:Value} (h:RepC Γ ρ bl w p c v) (hn:c.noOwn=true) (ρ':Nat→Role) (q:Place) (hr: ∀g b z cap,ρ g= .row b z cap→ρ' g= .row b z cap) :RepC Γ ρ' bl w q c v:=
 (h.keep (w':=w) (ρ':=ρ') (bl':=bl) (.refl _) (fun i e=>(noOwn_comp hn e).elim) fun b _=>⟨rfl,fun z cap e=>hr _ b z cap e⟩).place hn
theorem packR_one {cs:List CV} (h:cs.length=1) : ∃c,cs= [c]∧packR cs=c:=by
 match cs,h with
 | [c],_=>exact ⟨c,rfl,rfl⟩
theorem Wr_rep {Γ:Froz} {ρ:Nat→Role} {bl:Nat→Nat} {w:World} {p:Place} {c c':CV} {v:Value} (h:Wr c c') (hr:RepC Γ ρ bl w p c v) :RepC Γ ρ bl w p c' v:=by
 unfold Wr at h
 split at h
 ·obtain ⟨vs,rfl,hl⟩:=hr
  refine ⟨vs,rfl,by rw [←hl.1,WcL_len h],fun i c v hc hv=> ?_⟩
  obtain ⟨c0,hc0,hwc⟩:=WcL_get h hc
  exact Wc_rep1 hwc (hl.2 i c0 v hc0 hv)
 ·exact Wc_rep h hr
theorem valsOf_spec {Γ:Froz} {ρ:Nat→Role} {bl:Nat→Nat} {st:St} {tmps:Array Value} {w:World} (h:SR Γ ρ bl st tmps w) : ∀{rvs:List ResultVar} {rs:List AR} {cs:List CV},rvs.length=rs.length→(∀(i:Nat) rv ar,rvs[i]? =some rv→rs[i]? =some ar→AR.fits P rv ar)→valsOf st rs=some cs→
  ∃vs,(rvs.mapM (AR.run P tmps)).run P w= .ok vs w∧vs.length=cs.length∧cs.length=rs.length∧∀(i:Nat) ar c v,rs[i]? =some ar→cs[i]? =some c→vs[i]? =some v→(RepC Γ ρ bl w (.s ((ar.slot.head?).getD 0)) c v)∧(ar.slot= []→c.noOwn=true)
 | [],[],cs,_,_,hv=>by simp only [valsOf,Option.some.injEq] at hv;subst hv;exact ⟨[],rfl,rfl,rfl,by simp⟩
 | rv :: rvs,ar :: rs,cs,hl,hf,hv=>by
  simp only [valsOf] at hv
  split at hv
  ·rename_i c cs' hc hcs
   simp only [Option.some.injEq] at hv;subst hv
   obtain ⟨v,h1,h2,h3,_⟩:=AR.sound (hf 0 rv ar rfl rfl) h hc
   obtain ⟨vs,k1,k2,k3,k4⟩:=valsOf_spec h (by simpa using hl) (fun i rv' ar' a b=>hf (i+1) rv' ar' (by simpa using a) (by simpa using b)) hcs
   refine ⟨v :: vs,by simp [List.mapM_cons,h1,k1],by simp [k2],by simp [k3],fun i ar' c' v' a b d=> ?_⟩
   cases i with
   | zero=>simp at a b d;subst a;subst b;subst d;exact ⟨h2,h3⟩
   | succ i=>exact k4 i ar' c' v' (by simpa using a) (by simpa using b) (by simpa using d)
  ·cases hv
 | [],_ :: _,_,hl,_,_=>by simp at hl
 | _ :: _,[],_,hl,_,_=>by simp at hl
theorem runs_of_body {f:Nat} {fn:Func} {c:Code} {ac:AC} {rs:List AR} {args:List CV} {objs objs':List (Nat×List CV)} {res:CV} (hf:P.funcs[f]? =some fn) (hname:(fn.name=="runtime.NumGoroutine") =false) (hb:fn.body=some c) (hfit:Fits P c ac)
  (hrl:fn.results.toList.length=rs.length) (hrs: ∀(i:Nat) rv ar,fn.results.toList[i]? =some rv→rs[i]? =some ar→AR.fits P rv ar) (hnd:(rs.flatMap AR.slot).Nodup) (hobj:(objs.map (·.1)).Nodup∧((objs.map (·.1)).all fun b=>decide (1000≤b) &&(decide (b<5000) ||mvF f)) =true)
  (h:awp (Runs P) (objs.map (·.1)) ac (retQ rs res objs') ⟨args++List.replicate (fn.ntmps-args.length) .junk,objs⟩) :Runs P f args objs res objs':=by
 refine ⟨⟨fn,hf,hname,by rw [hb];rfl⟩,fun Γ ρ bl vals w hs hgz=> ?_⟩
 refine calls_of_wp hf hb ?_
 have hlen:vals.size=args.length:=hs.len
 let E:Ent:=⟨w,Γ,ρ,bl,objs.map (·.1),hgz,fun b hb=>by have:=List.all_eq_true.1 hobj.2 b hb;simp only [Bool.and_eq_true,decide_eq_true_eq] at this;exact this.1⟩
 have hR:RR E ⟨args++List.replicate (fn.ntmps-args.length) .junk,objs⟩ {tmps:=vals++Array.replicate (fn.ntmps-vals.size) undef,defers:=[]} w:=by
  refine ⟨rfl,Γ,ρ,bl,⟨hs.agree,by simp [hlen],fun i c hc=> ?_,hs.boxes,hs.rows,hs.rowk,fun p b hm=> ?_,hs.rho,hs.gl,hs.bty⟩, .refl _ _ _,fun b hx=>⟨lookup_of_key hx,fun _=>rfl⟩⟩
  ·by_cases hi:i<args.length
   ·rw [List.getElem?_append_left hi] at hc
    obtain ⟨v,hv,hr⟩:=hs.slots i c hc
    exact ⟨v,by rw [Array.getElem?_append_left (by rw [hlen];exact hi)];exact hv,hr⟩
   ·rw [List.getElem?_append_right (by omega)] at hc
    have hj:i-args.length<fn.ntmps-args.length:=by have:=(List.getElem?_eq_some_iff.1 hc).1;simpa using this
    simp [hj] at hc;subst hc
    refine ⟨undef, ?_,trivial⟩
    rw [Array.getElem?_append_right (by omega),hlen]
    simp [hj]
  ·cases p with
   | s n=>
    simp only [St.get,List.getD_eq_getElem?_getD] at hm
    by_cases hi:n<args.length
    ·rw [List.getElem?_append_left hi] at hm
     exact hs.closed (.s n) b (by simp only [St.get,List.getD_eq_getElem?_getD];exact hm)
    ·rw [List.getElem?_append_right (by omega)] at hm
     rw [List.getElem?_replicate] at hm
     split at hm<;>exact hm.elim
   | b n=>exact hs.closed (.b n) b hm
 refine wp_mono (awp_sound (E:=E) hfit (retQ rs res objs') _ _ w hR h) ?_
 have fin: ∀(st:St) (a:Act) (w':World),EndQ rs res objs' st→RR E st a w'→a.defers= []∧∃v,(results fn a.tmps).run P w'= .ok v w'∧∃v' Γ' ρ' bl',Ending.returned v= .returned v'∧SR Γ' ρ' bl' ⟨[res],objs'⟩ #[v'] w'∧Fr0 w Γ ρ w' Γ' ρ'∧∀b,(objs.lookup b).isSome=true→lowB f b=true→RK ρ ρ' bl bl' b:=by
  rintro st a w' ⟨cs,hcs,hagg,hwr,hwb,hclo⟩ ⟨hd,Γ',ρ',bl',hs',hfr,hbl⟩
  obtain ⟨vs,k1,k2,k3,k4⟩:=valsOf_spec (P:=P) hs' hrl hrs hcs
  have hres:(results fn a.tmps).run P w'= .ok (if h:vs.toArray.size=1 then vs.toArray[0] else .tuple vs.toArray) w':=by
   have hm:(fn.results.mapM (AR.run P a.tmps)).run P w'= .ok vs.toArray w':=by
    rw [Array.mapM_eq_mapM_toList]
    simp [k1]
   have hr2:results fn a.tmps=(fn.results.mapM (AR.run P a.tmps)) >>= fun vs=>pure (if h:vs.size=1 then vs[0] else .tuple vs):=by
    unfold results
    congr 1
   rw [hr2,Sem.run_bind,hm]
   rfl
  refine ⟨hd,_,hres,_,Γ',endRole rs (decide (cs.length=1)) ρ',bl',rfl, ?_, ?_,fun b hb h5=> ?_⟩
  ·have erow: ∀(one:Bool) g b z cap,ρ' g= .row b z cap→endRole rs one ρ' g= .row b z cap:=fun one g b z cap e=>by simp only [endRole,e]
   have hidx: ∀(j k:Nat) (ar:AR),rs[j]? =some ar→ar.slot= [k]→rs.findIdx? (fun x=>x.slot== [k]) =some j:=by
    intro j k ar hj hk
    rw [List.findIdx?_eq_some_iff_getElem]
    have hjl:=(List.getElem?_eq_some_iff.1 hj).1
    have hje:rs[j]=ar:=(List.getElem?_eq_some_iff.1 hj).2
    refine ⟨hjl,by simp [hje,hk],fun i hi=> ?_⟩
    intro hcon
    have hii:rs[i].slot= [k]:=by simpa using hcon
    have hsplit:rs=rs.take j++rs[j] :: rs.drop (j+1):=by rw [←List.drop_eq_getElem_cons hjl,List.take_append_drop]
    rw [hsplit,List.flatMap_append,List.flatMap_cons] at hnd
    have hmem:k∈(rs.take j).flatMap AR.slot:=by
     rw [List.mem_flatMap]
     refine ⟨rs[i], ?_,by rw [hii];simp⟩
     rw [List.mem_iff_getElem]
     exact ⟨i,by simp;omega,by simp⟩
    have hmem2:k∈rs[j].slot++(rs.drop (j+1)).flatMap AR.slot:=by rw [hje,hk];simp
    exact (List.nodup_append.1 hnd).2.2 k hmem k hmem2 rfl
   have hone: ∀(j:Nat) (ar:AR) (c:CV) (v:Value),rs[j]? =some ar→cs[j]? =some c→vs[j]? =some v→cs.length=1→RepC Γ' (endRole rs true ρ') bl' w' (.s 0) c v:=by
    intro j ar c v hj hc hv h1
    obtain ⟨g1,g2⟩:=k4 j ar c v hj hc hv
    cases ar with
    | ce a ag n=>exact g1.anyRole (g2 rfl) _ _ (erow true)
    | tm n=>
     refine g1.move (fun g i hg=> ?_) fun b _=>⟨rfl,fun z cap e=>erow true _ b z cap e⟩
     have hg:ρ' g= .own (.s n) i:=hg
     simp only [endRole,hg,hidx j n (.tm n) hj rfl,if_true]
   have hmany: ∀(j:Nat) (ar:AR) (c:CV) (v:Value),rs[j]? =some ar→cs[j]? =some c→vs[j]? =some v→c.isAggr=false→RepC1 Γ' (endRole rs false ρ') bl' w' (.s 0) j c v:=by
    intro j ar c v hj hc hv hna
    obtain ⟨g1,g2⟩:=k4 j ar c v hj hc hv
    have g1': ∀q ρ2,RepC Γ' ρ2 bl' w' q c v→RepC1 Γ' ρ2 bl' w' q 0 c v:=fun q ρ2 hh=>by cases c<;>first | exact hh | (simp [CV.isAggr] at hna;done)
    cases ar with
    | ce a ag n=>
     have:=g1' _ _ (g1.anyRole (g2 rfl) (endRole rs false ρ') (.s 0) (erow false))
     exact this.place (by have:=g2 rfl;cases c<;>first | rfl | (simp [CV.noOwn] at this;done) | (simp [CV.isAggr] at hna;done))
    | tm n=>
     refine (g1' _ _ g1).move2 (fun g hg=> ?_) fun b _=>⟨rfl,fun z cap e=>erow false _ b z cap e⟩
     have hg:ρ' g= .own (.s n) 0:=hg
     simp only [endRole,hg,hidx j n (.tm n) hj rfl,Bool.false_eq_true,if_false]
   have hpack:RepC Γ' (endRole rs (decide (cs.length=1)) ρ') bl' w' (.s 0) (packR cs) (if h:vs.toArray.size=1 then vs.toArray[0] else .tuple vs.toArray):=by
    by_cases h1:cs.length=1
    ·obtain ⟨c,rfl,hp⟩:=packR_one h1
     obtain ⟨v,rfl⟩ : ∃v,vs= [v]:=by
      match vs,k2 with
      | [v],_=>exact ⟨v,rfl⟩
     obtain ⟨ar,har⟩ : ∃ar,rs[0]? =some ar:=⟨_,List.getElem?_eq_getElem (by rw [←k3];simp)⟩
     simpa [packR] using hone 0 ar c v har rfl rfl rfl
    ·have hagg':(cs.all fun c=> !c.isAggr) =true:=hagg.resolve_left h1
     have hp:packR cs= .tup cs:=by
      match cs,h1 with
      | [],_=>rfl
      | _ :: _ :: _,_=>rfl
     have hsz: ¬vs.toArray.size=1:=by simp;omega
     rw [hp,dif_neg hsz]
     simp only [h1,decide_false]
     refine ⟨vs,rfl,k2.symm,fun j c v hc hv=> ?_⟩
     have hjl:j<rs.length:=by rw [←k3];exact (List.getElem?_eq_some_iff.1 hc).1
     exact hmany j rs[j] c v (List.getElem?_eq_getElem hjl) hc hv (by have:=List.all_eq_true.1 hagg' c (List.mem_of_getElem? hc);simpa using this)
   have hbox: ∀(b:Nat) (cs':List CV) (arr:Array Value),RepL Γ' ρ' bl' w' (.b b) cs' arr.toList→RepL Γ' (endRole rs (decide (cs.length=1)) ρ') bl' w' (.b b) cs' arr.toList:=fun b cs' arr hh=>hh.move (fun g i hg=>by simp only [endRole,hg]) fun _ _ b _=>⟨rfl,fun z cap e=>erow _ _ b z cap e⟩
   refine ⟨hs'.agree,rfl,fun i c hc=> ?_,fun b bs hbs hro=> ?_,fun b bs z l hbs hro=> ?_,fun g b z cap hc=>hs'.rowk g b z cap ?_,fun p b hm=> ?_,fun g hg=> ?_,hs'.gl,fun b k t bs hbs hk=> ?_⟩
   ·cases i with
    | zero=>simp at hc;subst hc;exact ⟨_,rfl,Wr_rep hwr hpack⟩
    | succ i=>simp at hc
   ·obtain ⟨bs0,hbs0,hwl⟩:=WcB_get hwb hbs
    obtain ⟨arr,e,q1,q2,q3,q4⟩:=hs'.boxes b bs0 hbs0 (by rw [hwl.2];exact hro)
    have q3':=hbox b bs0 arr q3
    refine ⟨arr,e,q1,by simp only [endRole,q2],⟨by rw [←q3'.1,WcL_len hwl.1],fun i c v hc hv=> ?_⟩,q4⟩
    obtain ⟨c0,hc0,hwc⟩:=WcL_get hwl.1 hc
    exact Wc_rep1 hwc (q3'.2 i c0 v hc0 hv)
   ·obtain ⟨bs0,hbs0,hwl⟩:=WcB_get hwb hbs
    exact (hs'.rows b bs0 z l hbs0 (by rw [hwl.2];exact hro)).keep (.refl _) fun cap e=>⟨by simp only [endRole,e],rfl⟩
   ·unfold endRole at hc
    split at hc
    ·split at hc
     ·split at hc<;>cases hc
     ·cases hc
    ·exact hc
   ·simp only [St.clo,Bool.and_eq_true] at hclo
    apply lookup_of_key
    cases p with
    | s n=>
     simp only [St.get,List.getD_eq_getElem?_getD] at hm
     cases n with
     | zero=>exact inB_ment (List.all_eq_true.1 hclo.1 res (by simp)) hm
     | succ n=>exact hm.elim
    | b n=>
     simp only [St.get,St.bx] at hm
     split at hm
     ·rename_i cs hcs
      obtain ⟨c,hc,hm⟩:=hm
      exact in1_ment (List.all_eq_true.1 (List.all_eq_true.1 hclo.2 _ (lookup_mem hcs)) c hc) hm
     ·exact hm.elim
   ·refine hs'.rho g fun e=>hg ?_
    simp only [endRole,e]
   ·obtain ⟨bs0,hbs0,hwl⟩:=WcB_get hwb hbs
    obtain ⟨c0,hc0,hwc⟩:=WcL_get hwl.1 hk
    rw [Wc_sp hwc] at hc0
    exact hs'.bty b k t bs0 hbs0 hc0
  ·refine ⟨hfr.le,hfr.size,hfr.os,hfr.tape,hfr.output,fun g hg hp=>⟨(hfr.block g hg hp).1, ?_⟩,hfr.new⟩
   simp only [endRole,(hfr.block g hg hp).2]
  ·have hm:b∈objs.map (·.1):=by obtain ⟨cs,e⟩:=Option.isSome_iff_exists.1 hb;exact List.mem_map_of_mem (lookup_mem e)
   have h5:b<5000:=by
    have:=List.all_eq_true.1 hobj.2 b hm
    simp only [Bool.and_eq_true,Bool.or_eq_true,decide_eq_true_eq] at this
    rcases this.2 with q | q
    ·exact q
    ·unfold lowB hiB at h5;rw [q] at h5;simpa using h5
   exact ⟨(hbl b hm).2 h5,fun z cap e=>by simp only [endRole,hfr.row _ b z cap e (E.big b hm) h5]⟩
 intro e a w' hq
 cases e with
 | normal=>obtain ⟨st,hq,hr⟩:=hq;exact fin st a w' hq hr
 | ret=>obtain ⟨st,hq,hr⟩:=hq;exact fin st a w' hq hr
 | exit id=>obtain ⟨st,hq,_⟩:=hq;exact hq.elim
 | goto l=>exact hq.elim
 | panic c=>exact hq.elim
 | outgrown=>exact hq.elim
end B
end Go.Proofs.YtmkkljbfmdngfaaGreatDoor
