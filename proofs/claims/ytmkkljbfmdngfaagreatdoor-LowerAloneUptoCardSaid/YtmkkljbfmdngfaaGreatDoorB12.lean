/- What a call comes to. No condition. -/
import Derived.Test.YtmkkljbfmdngfaaGreatDoorBR
set_option linter.all false
namespace Go.Proofs.YtmkkljbfmdngfaaGreatDoor
namespace B
open Go.RowKit
variable {P:Program} {okr okw:Nat→Bool} {o:Oper}
def CallOk (P:Program) (f:Nat) :Prop:=∃fn,P.funcs[f]? =some fn∧(fn.name=="runtime.NumGoroutine") =false∧fn.body.isNone=false
def Runs (P:Program) :CallRel:=fun f args objs res objs'=>
 CallOk P f∧∀(Γ:Froz) (ρ:Nat→Role) (bl:Nat→Nat) (vals:Array Value) (w:World),SR Γ ρ bl ⟨args,objs⟩ vals w→GzOk ρ w→
  Calls P f vals w fun e w'=>∃v Γ' ρ' bl',e= .returned v∧SR Γ' ρ' bl' ⟨[res],objs'⟩ #[v] w'∧Fr0 w Γ ρ w' Γ' ρ'∧∀b,(objs.lookup b).isSome=true→lowB f b=true→RK ρ ρ' bl bl' b
theorem in1_ment {ids:List Nat} {c:CV} (h:c.in1 ids=true) {b:Nat} (hm:c.ment1 b) :b∈ids:=by
 cases c<;>simp only [CV.ment1] at hm
 ·subst hm;simpa [CV.in1] using h
 ·simp only [CV.in1,List.all_eq_true] at h;simpa using h b hm
 ·subst hm;simpa [CV.in1] using h
 ·subst hm;simpa [CV.in1] using h
 ·subst hm;simpa [CV.in1] using h
theorem inB_ment {ids:List Nat} {c:CV} (h:c.inB ids=true) {b:Nat} (hm:c.ment b) :b∈ids:=by
 cases c with
 | tup l=>obtain ⟨c,hc,hm⟩:=hm;exact in1_ment (List.all_eq_true.1 h c hc) hm
 | agg l=>obtain ⟨c,hc,hm⟩:=hm;exact in1_ment (List.all_eq_true.1 h c hc) hm
 | ptr k o=>exact in1_ment (c:= .ptr k o) h hm
 | fn f cs=>exact in1_ment (c:= .fn f cs) h hm
 | sp k t=>exact in1_ment (c:= .sp k t) h hm
 | rs z k o n=>exact in1_ment (c:= .rs z k o n) h hm
 | ea z k o n=>exact in1_ment (c:= .ea z k o n) h hm
 | _=>exact hm.elim
theorem getBs_spec {K:St→Prop} {st:St}: ∀{ids:List Nat} {k:List (Nat×List CV)→PM},(getBs ids k).wp K st→∃objs,objs.map (·.1) =ids∧(∀x∈objs,st.bx x.1=some x.2)∧(k objs).wp K st
 | [],k,h=>⟨[],rfl,by simp,h⟩
 | b :: r,k,h=>by
  change (match st.get (.b b) with | .agg cs=>getBs r fun l=>k ((b,cs) :: l) | _=>PM.fail).wp K st at h
  split at h
  ·rename_i cs hcs
   obtain ⟨objs,h1,h2,h3⟩:=getBs_spec h
   exact ⟨(b,cs) :: objs,by simp [h1],fun x hx=>by rcases List.mem_cons.1 hx with rfl | hx;exact get_b_agg hcs;exact h2 x hx,h3⟩
  ·exact h.elim
theorem newBs_spec {K:St→Prop} {st:St}: ∀{ids:List Nat} {k:PM},(newBs ids k).wp K st→(∀b∈ids,st.bx b=none)∧k.wp K st
 | [],k,h=>⟨by simp,h⟩
 | b :: r,k,h=>by
  change (match st.get (.b b) with | .junk=>newBs r k | _=>PM.fail).wp K st at h
  split at h
  ·rename_i hj
   obtain ⟨h1,h2⟩:=newBs_spec h
   exact ⟨fun x hx=>by rcases List.mem_cons.1 hx with rfl | hx;exact get_b_junk hj;exact h1 x hx,h2⟩
  ·exact h.elim
def setAll (st:St) :List (Nat×List CV)→St
 | []=>st
 | (b,cs) :: r=>setAll (st.set (.b b) (.agg cs)) r
theorem setBs_spec {K:St→Prop}: ∀{objs:List (Nat×List CV)} {st:St} {k:PM},(setBs objs k).wp K st→k.wp K (setAll st objs)
 | [],st,k,h=>h
 | (b,cs) :: r,st,k,h=>setBs_spec (objs:=r) h.2
theorem setAll_bx: ∀(objs:List (Nat×List CV)) (st:St) (b:Nat),(objs.map (·.1)).Nodup→(setAll st objs).bx b=match objs.lookup b with | some cs=>some cs | none=>st.bx b
 | [],st,b,_=>rfl
 | (k,cs) :: r,st,b,h=>by
  simp only [List.map_cons,List.nodup_cons] at h
  simp only [setAll]
  rw [setAll_bx r _ b h.2,St.bx_setBox]
  by_cases e:b=k
  ·subst e
   have:r.lookup b=none:=by
    rw [List.lookup_eq_none_iff]
    intro x hx
    have:x.1≠b:=fun e=>h.1 (by rw [←e];exact List.mem_map_of_mem hx)
    simpa using Ne.symm this
   simp [this]
  ·have:(b==k) =false:=by simp [e]
   simp only [List.lookup,this,if_neg e]
theorem setAll_s: ∀(objs:List (Nat×List CV)) (st:St),(setAll st objs).s=st.s
 | [],_=>rfl
 | (_,_) :: r,st=>setAll_s r _
theorem lookup_mem {objs:List (Nat×List CV)} {b:Nat} {cs:List CV} (h:objs.lookup b=some cs) :(b,cs)∈objs:=by
 induction objs with
 | nil=>cases h
 | cons x r ih=>
  obtain ⟨k,v⟩:=x
  simp only [List.lookup] at h
  split at h
  ·rename_i e;cases h;simp at e;subst e;simp
  ·exact List.mem_cons_of_mem _ (ih h)
theorem lookup_of_key {objs:List (Nat×List CV)} {b:Nat} (h:b∈objs.map (·.1)) :(objs.lookup b).isSome=true:=by
 cases e:objs.lookup b with
 | some _=>rfl
 | none=>
  rw [List.lookup_eq_none_iff] at e
  obtain ⟨x,hx,rfl⟩:=List.mem_map.1 h
  have:=e x hx
  simp at this
theorem RepC1.move {Γ:Froz} {ρ ρ':Nat→Role} {bl bl':Nat→Nat} {w:World} {p q:Place} {i:Nat} {c:CV} {v:Value}
  (own: ∀g,ρ g= .own p i→ρ' g= .own q i) (hb: ∀b,c.ment1 b→RK ρ ρ' bl bl' b) (h:RepC1 Γ ρ bl w p i c v) :RepC1 Γ ρ' bl' w q i c v:=by
 cases c with
 | own sz l=>
  rcases h with ⟨e,vs,h1,h2,h3⟩ | h
  ·exact .inl ⟨e,vs,h1,h2,fun g hg=>⟨own g (h3 g hg).1,(h3 g hg).2⟩⟩
  ·exact .inr h
 | ptr b o=>have:=(hb b rfl).1;simp only [RepC1] at h⊢;rw [this];exact h
 | sp b t=>have:=(hb b rfl).1;simp only [RepC1] at h⊢;rw [this];exact h
 | rs z k o n=>exact RowH.keep (hb k rfl) h
 | ea z k j o=>exact RowA.keep (hb k rfl) h
 | fn f caps=>
  simp only [RepC1] at h⊢
  rw [h];congr 2
  exact List.map_congr_left fun b hm=>by rw [(hb b hm).1]
 | line z l=>obtain ⟨g,buf,s,r,h1,h2,h3,h4⟩:=h;exact ⟨g,buf,s,r,h1,h2,own g h3,h4⟩
 | bld e f l=>exact ⟨h.1,h.2.1,fun g hg=>⟨own g (h.2.2 g hg).1,(h.2.2 g hg).2⟩⟩
 | _=>exact h
theorem RepL.move {Γ:Froz} {ρ ρ':Nat→Role} {bl bl':Nat→Nat} {w:World} {p q:Place} {cs:List CV} {vs:List Value}
  (own: ∀g i,ρ g= .own p i→ρ' g= .own q i) (hb: ∀c∈cs,∀b,c.ment1 b→RK ρ ρ' bl bl' b) (h:RepL Γ ρ bl w p cs vs) :RepL Γ ρ' bl' w q cs vs:=
 ⟨h.1,fun i c v hc hv=>(h.2 i c v hc hv).move (fun g=>own g i) (hb c (List.mem_of_getElem? hc))⟩
theorem RepC.move {Γ:Froz} {ρ ρ':Nat→Role} {bl bl':Nat→Nat} {w:World} {p q:Place} {c:CV} {v:Value}
  (own: ∀g i,ρ g= .own p i→ρ' g= .own q i) (hb: ∀b,c.ment b→RK ρ ρ' bl bl' b) (h:RepC Γ ρ bl w p c v) :RepC Γ ρ' bl' w q c v:=by
 cases c with
 | tup l=>obtain ⟨vs,h1,h2⟩:=h;exact ⟨vs,h1,h2.move own fun c hc b hm=>hb b ⟨c,hc,hm⟩⟩
 | agg l=>obtain ⟨vs,h1,h2⟩:=h;exact ⟨vs,h1,h2.move own fun c hc b hm=>hb b ⟨c,hc,hm⟩⟩
 | d x=>exact RepC1.move (Γ:=Γ) (w:=w) (v:=v) (c:= .d x) (fun g=>own g 0) hb h
 | own z l=>exact RepC1.move (Γ:=Γ) (w:=w) (v:=v) (c:= .own z l) (fun g=>own g 0) hb h
 | nils=>exact RepC1.move (Γ:=Γ) (w:=w) (v:=v) (c:= .nils) (fun g=>own g 0) hb h
 | ptr k o=>exact RepC1.move (Γ:=Γ) (w:=w) (v:=v) (c:= .ptr k o) (fun g=>own g 0) hb h
 | ep cs=>exact RepC1.move (Γ:=Γ) (w:=w) (v:=v) (c:= .ep cs) (fun g=>own g 0) hb h
 | fn f cs=>exact RepC1.move (Γ:=Γ) (w:=w) (v:=v) (c:= .fn f cs) (fun g=>own g 0) hb h
 | junk=>trivial
 | line z l=>exact RepC1.move (Γ:=Γ) (w:=w) (v:=v) (c:= .line z l) (fun g=>own g 0) hb h
 | bld e f l=>exact RepC1.move (Γ:=Γ) (w:=w) (v:=v) (c:= .bld e f l) (fun g=>own g 0) hb h
 | sp k t=>exact RepC1.move (Γ:=Γ) (w:=w) (v:=v) (c:= .sp k t) (fun g=>own g 0) hb h
 | rs z k o n=>exact RepC1.move (Γ:=Γ) (w:=w) (v:=v) (c:= .rs z k o n) (fun g=>own g 0) hb h
 | ea z k o n=>exact RepC1.move (Γ:=Γ) (w:=w) (v:=v) (c:= .ea z k o n) (fun g=>own g 0) hb h
 | arr z l=>exact h.elim
def roleIn (ids:List Nat) (N:Nat) (bl:Nat→Nat) (ρ:Nat→Role) :Nat→Role:=fun g=>match ρ g with
 | .box b=>if b∈ids then .box b else .plain
 | .row b z cap=>if b∈ids∧bl b=g then .row b z cap else .plain
 | .own (.b b) i=>if b∈ids then .own (.b b) i else .plain
 | .own (.s n) i=>if N≤n then .own (.s (n-N)) i else .plain
 | .plain=> .plain
def Role.isPlain:Role→Bool
 | .plain=>true
 | _=>false
def roleOut (ids:List Nat) (N:Nat) (n:Nat) (d:Nat) (bl:Nat→Nat) (ρ ρ':Nat→Role) :Nat→Role:=fun g=>
 if g<n∧(roleIn ids N bl ρ g).isPlain=true then ρ g else match ρ' g with
 | .own (.s 0) i=> .own (.s d) i
 | .own (.s _) _=> .plain
 | r=>r
theorem noOwn_comp {c:CV} (h:c.noOwn=true) {j:Nat} (e:(c.comp j).held=true) :False:=by
 have key: ∀l0:List CV,(l0.all fun c=> !c.held) =true→(l0.getD j .junk).held=true→False:=by
  intro l0 h2 e
  rw [List.getD_eq_getElem?_getD] at e
  cases e3:l0[j]? with
  | none=>rw [e3] at e;cases e
  | some x=>
   rw [e3] at e
   have e:x.held=true:=e
   have:=List.all_eq_true.1 h2 _ (List.mem_of_getElem? e3)
   simp [e] at this
 cases c with
 | tup l0=>exact key l0 h e
 | agg l0=>exact key l0 h e
 | own z l0=>simp [CV.noOwn] at h
 | line cap l0=>simp [CV.noOwn] at h
 | bld e f l0=>simp [CV.noOwn] at h
 | _=>cases e
theorem lookup_filter (p:Nat→Bool) (b:Nat) : ∀l:List (Nat×List CV),(l.filter fun x=>p x.1).lookup b=if p b then l.lookup b else none
 | []=>by simp
 | (k,v) :: r=>by
  have ih:=lookup_filter p b r
  by_cases e:b=k
  ·subst e
   by_cases hp:p b=true
   ·simp [List.filter_cons,hp]
   ·simp only [List.filter_cons,hp,if_false,Bool.false_eq_true] at ih⊢;exact ih
  ·have hk:(b==k) =false:=by simp [e]
   by_cases hp:p k=true
   ·simp only [List.filter_cons,hp,if_true,List.lookup,hk];exact ih
   ·simp only [List.filter_cons,hp,List.lookup,hk];exact ih
theorem SR.same {Γ:Froz} {ρ:Nat→Role} {bl:Nat→Nat} {st st':St} {tmps:Array Value} {w:World} (h:SR Γ ρ bl st tmps w) (hs:st'.s=st.s) (hb: ∀b,st'.bx b=st.bx b) :SR Γ ρ bl st' tmps w:=by
 refine ⟨h.agree,by rw [hs];exact h.len,by rw [hs];exact h.slots,fun b cs hc=>h.boxes b cs (by rw [←hb];exact hc),fun b cs z l hc=>h.rows b cs z l (by rw [←hb];exact hc),h.rowk,fun p b hm=> ?_,h.rho,h.gl,fun b k t cs hc=>h.bty b k t cs (by rw [←hb];exact hc)⟩
 rw [hb]
 refine h.closed p b ?_
 cases p with
 | s n=>simpa only [St.get,hs] using hm
 | b n=>simpa only [St.get,hb] using hm
theorem lowB_lt {f b:Nat} (h:b<5000) :lowB f b=true:=by
 unfold lowB hiB;simp;exact .inr h
theorem killL_hi {f:Nat} {ids:List Nat} {b:Nat} (h:b∈killL f ids) :hiB b=true:=by
 have:=(List.mem_filter.1 h).2
 unfold lowB at this
 simp at this
 exact this.2
def killAll (st:St) (l:List Nat) :St:=l.foldl St.kill st
theorem killBs_spec {K:St→Prop}: ∀{l:List Nat} {st:St} {k:PM},(killBs l k).wp K st→k.wp K (killAll st l)
 | [],_,_,h=>h
 | b :: r,st,k,h=>killBs_spec (l:=r) h.2
theorem killAll_s: ∀(l:List Nat) (st:St),(killAll st l).s.length=st.s.length
 | [],_=>rfl
 | b :: r,st=>(killAll_s r (st.kill b)).trans (by simp [St.kill])
theorem killAll_bx: ∀(l:List Nat) (st:St) (b:Nat),((killAll st l).bx b).isSome=(st.bx b).isSome
 | [],_,_=>rfl
 | k :: r,st,b=>(killAll_bx r (st.kill k) b).trans (by rw [St.kill_bx];simp)
theorem killAll_ment: ∀(l:List Nat) (st:St) (p:Place) (b:Nat),((killAll st l).get p).ment b→(st.get p).ment b∧b∉l
 | [],_,_,_,h=>⟨h,by simp⟩
 | k :: r,st,p,b,h=>by
  obtain ⟨h1,h2⟩:=killAll_ment r (st.kill k) p b h
  rw [St.kill_get] at h1
  obtain ⟨h3,h4⟩:=kill_ment h1
  exact ⟨h3,by simp only [List.mem_cons,not_or];exact ⟨h4,h2⟩⟩
theorem SR.killAll {Γ:Froz} {ρ:Nat→Role} {bl:Nat→Nat} {tmps:Array Value} {w:World}: ∀(l:List Nat) {st:St},SR Γ ρ bl st tmps w→SR Γ ρ bl (B.killAll st l) tmps w
 | [],_,h=>h
 | b :: r,_,h=>SR.killAll r (h.kill b)
theorem call_sound {K:St→Prop} {Γ:Froz} {ρ:Nat→Role} {bl:Nat→Nat} {st:St} {tmps:Array Value} {w:World} {dst:Option Nat} {f:Nat} {args:List CV} {vals:Array Value} (h:SR Γ ρ bl st tmps w) (hz:GzOk ρ w)
  (hl:vals.size=args.length) (ha: ∀(i:Nat) c v,args[i]? =some c→vals[i]? =some v→RepC Γ ρ bl w (.s (st.s.length+i)) c v) (hw:(callPM (Runs P) okr okw dst f args).wp K st) :
  CallOk P f∧Calls P f vals w fun e w'=>∃v,e= .returned v∧After K Γ ρ bl w st (putT tmps dst v) w':=by
 obtain ⟨t,hchk,hw⟩:=hw
 obtain ⟨objs,ho1,ho2,hw⟩:=getBs_spec hw
 obtain ⟨hfr,hw⟩:=newBs_spec hw
 obtain ⟨⟨hruns,hkeys,hnd,hino,hsame⟩,hw⟩:=hw
 have hw:=setBs_spec (killBs_spec hw)
 simp only [Bool.and_eq_true] at hchk
 obtain ⟨⟨⟨⟨_,hfd⟩,hin⟩,_⟩,hall⟩:=hchk
 obtain ⟨stk,hstk⟩ : ∃stk,stk=killAll st (killL f t.ids):=⟨_,rfl⟩
 rw [←hstk] at hw
 have hk:SR Γ ρ bl stk tmps w:=by rw [hstk];exact SR.killAll _ h
 have hksl:stk.s.length=st.s.length:=by rw [hstk];exact killAll_s _ _
 have hkbx: ∀b,(stk.bx b).isSome=(st.bx b).isSome:=fun b=>by rw [hstk];exact killAll_bx _ _ _
 have hkm: ∀p b,(stk.get p).ment b→¬(b∈t.ids∧lowB f b=false):=fun p b hm=>by
  rw [hstk] at hm
  have:=(killAll_ment _ _ _ _ hm).2
  intro hh;exact this (List.mem_filter.2 ⟨hh.1,by rw [hh.2];rfl⟩)
 refine ⟨hruns.1, ?_⟩
 have hob: ∀b cs,objs.lookup b=some cs→st.bx b=some cs∧b∈t.ids:=fun b cs e=>⟨ho2 _ (lookup_mem e),by rw [←ho1];exact List.mem_map_of_mem (lookup_mem e)⟩
 have hrc: ∀g,roleIn t.ids st.s.length bl ρ g≠ .plain→ρ g≠ .plain:=fun g hg e=>hg (by simp [roleIn,e])
 have hpre:SR Γ (roleIn t.ids st.s.length bl ρ) bl ⟨args,objs⟩ vals w:=by
  have rkin: ∀b,b∈t.ids→RK ρ (roleIn t.ids st.s.length bl ρ) bl bl b:=fun b hb=>⟨rfl,fun z cap e=>by simp [roleIn,e,hb]⟩
  refine ⟨h.agree,hl,fun i c hc=> ?_,fun b cs hcs hro=> ?_,fun b cs z l hcs hro=> ?_,fun g b z cap hc=> ?_,fun p b hm=> ?_,fun g hg=>h.rho g (hrc g hg),h.gl,fun b k t cs hc=>h.bty b k t cs (hob b cs hc).1⟩
  ·have hi:i<vals.size:=by rw [hl];exact (List.getElem?_eq_some_iff.1 hc).1
   have h1:=ha i c vals[i] hc (by simp [hi])
   exact ⟨vals[i],by simp [hi],h1.move (fun g j hg=>by simp [roleIn,hg]) fun b hb=>rkin b (inB_ment (List.all_eq_true.1 hin c (List.mem_of_getElem? hc)) hb)⟩
  ·obtain ⟨h1,h2⟩:=hob b cs hcs
   obtain ⟨arr,e,k1,k2,k3,k4⟩:=h.boxes b cs h1 hro
   refine ⟨arr,e,k1,by simp [roleIn,k2,h2],k3.keep (.refl _) (fun j e' g hg=>⟨by simp [roleIn,hg,h2],rfl,fun _=>rfl⟩) fun c hc k hk=>rkin k (in1_ment (List.all_eq_true.1 (List.all_eq_true.1 hino _ (lookup_mem hcs)) c hc) hk),k4⟩
  ·obtain ⟨h1,h2⟩:=hob b cs hcs
   exact (h.rows b cs z l h1 hro).keep (.refl _) fun cap e=>⟨by simp [roleIn,e,h2],rfl⟩
  ·refine h.rowk g b z cap ?_
   unfold roleIn at hc
   split at hc<;>(try split at hc)<;>simp_all
  ·show (objs.lookup b).isSome=true
   apply lookup_of_key
   rw [ho1]
   cases p with
   | s n=>
    simp only [St.get,List.getD_eq_getElem?_getD] at hm
    cases e:args[n]? with
    | none=>rw [e] at hm;exact hm.elim
    | some c=>rw [e] at hm;exact inB_ment (List.all_eq_true.1 hin c (List.mem_of_getElem? e)) hm
   | b n=>
    simp only [St.get,St.bx] at hm
    split at hm
    ·rename_i cs hcs
     obtain ⟨c,hc,hm⟩:=hm
     have:=List.all_eq_true.1 hino _ (lookup_mem hcs)
     exact in1_ment (List.all_eq_true.1 this c hc) hm
    ·exact hm.elim
 refine (hruns.2 Γ _ bl vals w hpre (hz.role fun g hg=>by simp [roleIn,hg])).mono ?_
 rintro e w' ⟨v,Γ',ρ',bl',rfl,hs',hfr',hbl'⟩
 refine ⟨v,rfl, ?_⟩
 have hnd':(t.objs'.map (·.1)).Nodup:=by rw [hkeys];exact hnd
 have out_old: ∀g,g<w.heap.size→roleIn t.ids st.s.length bl ρ g= .plain→roleOut t.ids st.s.length w.heap.size (dst.getD 0) bl ρ ρ' g=ρ g:=by
  intro g hg hp;unfold roleOut;rw [if_pos ⟨hg,by rw [hp];rfl⟩]
 have out_new: ∀g,ρ' g≠ .plain→¬(g<w.heap.size∧(roleIn t.ids st.s.length bl ρ g).isPlain=true):=by
  rintro g hg ⟨h1,h2⟩
  have:roleIn t.ids st.s.length bl ρ g= .plain:=by
   cases e:roleIn t.ids st.s.length bl ρ g<;>rw [e] at h2<;>first | rfl | simp [Role.isPlain] at h2
  exact hg (hfr'.block g h1 this).2
 have Γsame: ∀g,g<w.heap.size→roleIn t.ids st.s.length bl ρ g= .plain→∀o,Γ' ⟨g,o,none⟩ =Γ ⟨g,o,none⟩:=by
  intro g hg hp o
  cases e:Γ' ⟨g,o,none⟩ with
  | some u=>
   rcases hfr'.new _ _ e with h1 | h1 | h1
   ·exact h1.symm
   ·simp only at h1;omega
   ·exact absurd hp h1
  | none=>
   cases e2:Γ ⟨g,o,none⟩ with
   | none=>rfl
   | some u=>rw [hfr'.le _ _ e2] at e;cases e
 let bl2:Nat→Nat:=fun b=>if b∈t.ids++t.fresh then bl' b else bl b
 have low: ∀b,¬(b∈t.ids∧lowB f b=false)→b∈t.ids→lowB f b=true:=fun b hn hm=>by
  cases e:lowB f b with
  | true=>rfl
  | false=>exact absurd ⟨hm,e⟩ hn
 have hbl2: ∀b,(st.bx b).isSome=true→¬(b∈t.ids∧lowB f b=false)→bl2 b=bl b:=by
  intro b hb hnh
  simp only [bl2]
  split
  ·rename_i hm
   rcases List.mem_append.1 hm with hm | hm
   ·exact (hbl' b (lookup_of_key (by rw [ho1];exact hm)) (low b hnh hm)).1
   ·rw [hfr b hm] at hb;cases hb
  ·rfl
 have hbl2': ∀b,(t.objs'.lookup b).isSome=true→bl2 b=bl' b:=by
  intro b hb
  obtain ⟨cs,e⟩:=Option.isSome_iff_exists.1 hb
  have:b∈t.ids++t.fresh:=by rw [←hkeys];exact List.mem_map_of_mem (lookup_mem e)
  simp only [bl2,this,if_true]
 have hown: ∀g (p:Place) i,ρ g= .own p i→(∀b,p= .b b→b∉t.ids)→(∀n,p= .s n→n<st.s.length)→roleOut t.ids st.s.length w.heap.size (dst.getD 0) bl ρ ρ' g=ρ g∧w'.heap[g]? =w.heap[g]? ∧∀o,Γ' ⟨g,o,none⟩ =Γ ⟨g,o,none⟩:=by
  intro g p i hg hp hp2
  have hlt:=h.rho g (by rw [hg];simp)
  have hpl:roleIn t.ids st.s.length bl ρ g= .plain:=by
   simp only [roleIn,hg]
   cases p with
   | s n=>
    have:=hp2 n rfl
    show (if st.s.length≤n then _ else _) =_
    rw [if_neg (by omega)]
   | b n=>simp [hp n rfl]
  exact ⟨out_old g hlt hpl,(hfr'.block g hlt hpl).1,Γsame g hlt hpl⟩
 have rkold: ∀b,(st.bx b).isSome=true→¬(b∈t.ids∧lowB f b=false)→RK ρ (roleOut t.ids st.s.length w.heap.size (dst.getD 0) bl ρ ρ') bl bl2 b:=fun b hb hnh=>⟨hbl2 b hb hnh,fun z cap e=>by
  have hlt:=h.rho (bl b) (by rw [e];simp)
  by_cases hm:b∈t.ids
  ·have h1:roleIn t.ids st.s.length bl ρ (bl b) = .row b z cap:=by simp [roleIn,e,hm]
   have h2:=(hbl' b (lookup_of_key (by rw [ho1];exact hm)) (low b hnh hm)).2 z cap h1
   unfold roleOut
   rw [if_neg (fun hh=>by rw [h1] at hh;exact absurd hh.2 (by simp [Role.isPlain])),h2]
  ·rw [out_old _ hlt (by simp [roleIn,e,hm])];exact e⟩
 have rknew: ∀b,(t.objs'.lookup b).isSome=true→RK ρ' (roleOut t.ids st.s.length w.heap.size (dst.getD 0) bl ρ ρ') bl' bl2 b:=fun b hb=>⟨hbl2' b hb,fun z cap e=>by
  unfold roleOut
  rw [if_neg (out_new _ (by rw [e];simp)),e]⟩
 have hbxs: ∀b,(setAll stk t.objs').bx b=match t.objs'.lookup b with | some cs=>some cs | none=>stk.bx b:=fun b=>setAll_bx _ _ _ hnd'
 have hkeep: ∀b,(stk.bx b).isSome=true→((setAll stk t.objs').bx b).isSome=true:=by
  intro b hb;rw [hbxs];split
  ·rfl
  ·exact hb
 have hs2:SR Γ' (roleOut t.ids st.s.length w.heap.size (dst.getD 0) bl ρ ρ') bl2 (setAll stk t.objs') tmps w':=by
  refine ⟨hs'.agree,by rw [setAll_s];exact hk.len,fun i c hc=> ?_,fun b cs hcs hro=> ?_,fun b cs z l hcs hro=> ?_,fun g b z cap hc=> ?_,fun p b hm=> ?_,fun g hg=> ?_,hs'.gl,fun b k t' cs hcs hk'=> ?_⟩
  ·rw [setAll_s] at hc
   obtain ⟨u,hu,hr⟩:=hk.slots i c hc
   exact ⟨u,hu,hr.keep hfr'.le (fun j _ g hg=>hown g _ _ hg (fun b hb=>by cases hb) fun n hn=>by cases hn;rw [←hksl];exact (List.getElem?_eq_some_iff.1 hc).1) fun b hm=>rkold b (by rw [←hkbx];exact hk.closed (.s i) b (by rw [St.get_slot hc];exact hm)) (hkm (.s i) b (by rw [St.get_slot hc];exact hm))⟩
  ·rw [hbxs] at hcs
   split at hcs
   ·rename_i cs' hcs'
    cases hcs
    obtain ⟨arr,e,k1,k2,k3,k4⟩:=hs'.boxes b cs hcs' hro
    have hb2:=hbl2' b (by rw [hcs'];rfl)
    rw [hb2]
    refine ⟨arr,e,k1, ?_,k3.move (fun g i hg=> ?_) (fun c hc k hk=>rknew k (hs'.closed (.b b) k (by rw [St.get_bx (st:=⟨[t.res],t.objs'⟩) hcs'];exact ⟨c,hc,hk⟩))),k4⟩
    ·unfold roleOut
     rw [if_neg (out_new _ (by rw [k2];simp)),k2]
    ·unfold roleOut
     rw [if_neg (out_new _ (by rw [hg];simp)),hg]
   ·rename_i hno
    obtain ⟨arr,e,k1,k2,k3,k4⟩:=hk.boxes b cs hcs hro
    have hnid:b∉t.ids:=by
     intro hm
     have:=lookup_of_key (objs:=t.objs') (b:=b) (by rw [hkeys];exact List.mem_append_left _ hm)
     rw [hno] at this;cases this
    have hlt:=h.rho (bl b) (by rw [k2];simp)
    have hpl:roleIn t.ids st.s.length bl ρ (bl b) = .plain:=by simp [roleIn,k2,hnid]
    rw [hbl2 b (by rw [←hkbx,hcs];rfl) fun hh=>hnid hh.1]
    exact ⟨arr,e,by rw [(hfr'.block _ hlt hpl).1];exact k1,by rw [out_old _ hlt hpl];exact k2,k3.keep hfr'.le (fun j _ g hg=>hown g _ _ hg (fun b' hb'=>by cases hb';exact hnid) fun n hn=>by cases hn) (fun c hc k hm=>rkold k (by rw [←hkbx];exact hk.closed (.b b) k (by rw [St.get_bx hcs];exact ⟨c,hc,hm⟩)) (hkm (.b b) k (by rw [St.get_bx hcs];exact ⟨c,hc,hm⟩))),fun o=>by rw [Γsame _ hlt hpl];exact k4 o⟩
  ·rw [hbxs] at hcs
   split at hcs
   ·rename_i cs' hcs'
    cases hcs
    rw [hbl2' b (by rw [hcs'];rfl)]
    refine (hs'.rows b cs z l hcs' hro).keep (.refl _) fun cap e=>⟨?_,rfl⟩
    unfold roleOut
    rw [if_neg (out_new _ (by rw [e];simp))];simp [e]
   ·rename_i hno
    have hnid:b∉t.ids:=by
     intro hm
     have:=lookup_of_key (objs:=t.objs') (b:=b) (by rw [hkeys];exact List.mem_append_left _ hm)
     rw [hno] at this;cases this
    rw [hbl2 b (by rw [←hkbx,hcs];rfl) fun hh=>hnid hh.1]
    refine (hk.rows b cs z l hcs hro).keep hfr'.le fun cap e=> ?_
    have hlt:=h.rho (bl b) (by rw [e];simp)
    have hpl:roleIn t.ids st.s.length bl ρ (bl b) = .plain:=by simp [roleIn,e,hnid]
    exact ⟨out_old _ hlt hpl,(hfr'.block _ hlt hpl).1⟩
  ·unfold roleOut at hc
   split at hc
   ·rename_i hh
    obtain ⟨hlt,hpl⟩:=hh
    have hpl:roleIn t.ids st.s.length bl ρ g= .plain:=by
     cases e:roleIn t.ids st.s.length bl ρ g<;>rw [e] at hpl<;>first | rfl | simp [Role.isPlain] at hpl
    obtain ⟨arr,e,fz,q1,q2,q3,q4,q5⟩:=h.rowk g b z cap hc
    exact ⟨arr,e,fz,by rw [(hfr'.block g hlt hpl).1];exact q1,q2,q3,q4,fun o=>by rw [Γsame g hlt hpl];exact q5 o⟩
   ·exact hs'.rowk g b z cap (by split at hc<;>simp_all)
  ·cases p with
   | s n=>
    have:(setAll stk t.objs').get (.s n) =stk.get (.s n):=by simp only [St.get,setAll_s]
    rw [this] at hm
    exact hkeep b (hk.closed (.s n) b hm)
   | b n=>
    simp only [St.get,hbxs] at hm
    cases e:t.objs'.lookup n with
    | some cs=>
     rw [e] at hm
     have:=hs'.closed (.b n) b (by rw [St.get_bx (st:=⟨[t.res],t.objs'⟩) e];exact hm)
     rw [hbxs]
     obtain ⟨cs2,e2⟩:=Option.isSome_iff_exists.1 this
     have e2:t.objs'.lookup b=some cs2:=e2
     rw [e2];rfl
    | none=>
     rw [e] at hm
     exact hkeep b (hk.closed (.b n) b hm)
  ·by_cases hold:g<w.heap.size
   ·exact Nat.lt_of_lt_of_le hold hfr'.size
   ·have:ρ' g≠ .plain:=by
     intro e
     apply hg
     unfold roleOut
     rw [if_neg (fun hh=>hold hh.1),e]
    exact hs'.rho g this
  ·rw [hbxs] at hcs
   split at hcs
   ·rename_i cs' hcs'
    cases hcs
    rw [hbl2' b (by rw [hcs'];rfl)]
    exact hs'.bty b k t' cs hcs' hk'
   ·rename_i hno
    have hro:rowOf cs=none:=by
     unfold rowOf
     split
     ·simp at hk'
     ·rfl
    obtain ⟨arr,e,k1,k2,k3,k4⟩:=hk.boxes b cs hcs hro
    have hnid:b∉t.ids:=by
     intro hm
     have:=lookup_of_key (objs:=t.objs') (b:=b) (by rw [hkeys];exact List.mem_append_left _ hm)
     rw [hno] at this;cases this
    have hlt:=h.rho (bl b) (by rw [k2];simp)
    have hpl:roleIn t.ids st.s.length bl ρ (bl b) = .plain:=by simp [roleIn,k2,hnid]
    rw [hbl2 b (by rw [←hkbx,hcs];rfl) (fun hh=>hnid hh.1),(hfr'.block _ hlt hpl).1]
    exact hk.bty b k t' cs hcs hk'
 have hfr2:Fr w Γ ρ w' Γ' (roleOut t.ids st.s.length w.heap.size (dst.getD 0) bl ρ ρ'):=by
  refine ⟨hfr'.le,hfr'.size,hfr'.os,hfr'.tape,hfr'.output,fun g hg hp=> ?_,fun a u ha=> ?_,fun g b z cap e hbig h5=> ?_⟩
  ·have hpl:roleIn t.ids st.s.length bl ρ g= .plain:=by simp [roleIn,hp]
   exact ⟨(hfr'.block g hg hpl).1,by rw [out_old g hg hpl];exact hp⟩
  ·rcases hfr'.new a u ha with h1 | h1 | h1
   ·exact .inl h1
   ·exact .inr (.inl h1)
   ·exact .inr (.inr (hrc _ h1))
  ·have hlt:=h.rho g (by rw [e];simp)
   by_cases hm:b∈t.ids∧bl b=g
   ·obtain ⟨hm,hg⟩:=hm
    subst hg
    have h1:roleIn t.ids st.s.length bl ρ (bl b) = .row b z cap:=by simp [roleIn,e,hm]
    have h2:=(hbl' b (lookup_of_key (by rw [ho1];exact hm)) (lowB_lt h5)).2 z cap h1
    unfold roleOut
    rw [if_neg (fun hh=>by rw [h1] at hh;exact absurd hh.2 (by simp [Role.isPlain])),h2]
   ·rw [out_old _ hlt (by simp only [roleIn,e,if_neg hm])];exact e
 obtain ⟨u,hu,hru⟩:=hs'.slots 0 t.res rfl
 have:u=v:=by simpa using hu.symm
 subst this
 have hres: ∀d,dst=some d→RepC Γ' (roleOut t.ids st.s.length w.heap.size (dst.getD 0) bl ρ ρ') bl2 w' (.s d) t.res u:=by
  rintro d rfl
  refine hru.move (fun g i hg=> ?_) fun b hm=>rknew b (hs'.closed (.s 0) b hm)
  unfold roleOut
  rw [if_neg (out_new _ (by rw [hg];simp)),hg];rfl
 have hbxf: ∀b,(setAll stk (t.objs'.filter fun x=>okw x.1||t.fresh.contains x.1)).bx b=(setAll stk t.objs').bx b:=by
  intro b
  rw [hbxs,setAll_bx _ _ _ (hnd'.sublist (List.filter_sublist.map _)),lookup_filter (fun k=>okw k||t.fresh.contains k)]
  by_cases hp:(okw b||t.fresh.contains b) =true
  ·simp only [hp,if_true]
  ·simp only [hp]
   cases e:t.objs'.lookup b with
   | none=>rfl
   | some cs=>
    simp only [Bool.or_eq_true,not_or] at hp
    have hm:b∈t.ids++t.fresh:=by rw [←hkeys];exact List.mem_map_of_mem (lookup_mem e)
    rcases List.mem_append.1 hm with hm | hm
    ·rw [←ho1] at hm
     obtain ⟨x,hx,rfl⟩:=List.mem_map.1 hm
     have:=hsame x hx (by simpa using hp.1)
     rw [this] at e;cases e
     have h0:killL f t.ids= []:=by
      rcases Bool.or_eq_true_iff.1 hall with ha | ha
      ·exact List.isEmpty_iff.1 ha
      ·exact absurd (List.all_eq_true.1 ha x.1 (by rw [←ho1];exact List.mem_map_of_mem hx)) hp.1
     rw [hstk,h0]
     exact ho2 _ hx
    ·exact absurd (by simpa using hm) hp.2
 have hs3:=hs2.same (st':=setAll stk (t.objs'.filter fun x=>okw x.1||t.fresh.contains x.1)) (by rw [setAll_s,setAll_s]) hbxf
 obtain ⟨st'',hK,hfin⟩:=setD_sound hs3 (dst:=dst) (c:=t.res) (v:=u) hres (fun b hm=>by
  have:=hs'.closed (.s 0) b hm
  rw [hbxf,hbxs]
  obtain ⟨cs2,e2⟩:=Option.isSome_iff_exists.1 this
  have e2:t.objs'.lookup b=some cs2:=e2
  rw [e2];rfl) hw
 exact ⟨Γ',_,bl2,st'',hK,hfin,hfr2,fun b hb=>hbl2 b hb.2 fun hh=>by have:=hh.2;unfold lowB hiB at this;simp at this;have:=hb.1.2;omega⟩
end B
end Go.Proofs.YtmkkljbfmdngfaaGreatDoor
