/- Each instruction does what the abstract one says: values, boxes. No condition. -/
import Derived.Test.YtmkkljbfmdngfaaGreatDoorB3
set_option linter.all false
namespace Go.Proofs.YtmkkljbfmdngfaaGreatDoor
namespace B
open Go.RowKit
theorem RepC1.norm1 {Γ:Froz} {ρ:Nat→Role} {bl:Nat→Nat} {w:World} {p:Place} {i:Nat} {c:CV} {v:Value} (h:RepC1 Γ ρ bl w p i c v) :RepC1 Γ ρ bl w p i c.norm1 v:=by
 cases c<;>first | exact h | exact Rep.norm h
theorem norm1_held (c:CV) :c.norm1.held=c.held:=by cases c<;>rfl
theorem RepL.norm {Γ:Froz} {ρ:Nat→Role} {bl:Nat→Nat} {w:World} {p:Place} {cs:List CV} {vs:List Value} (h:RepL Γ ρ bl w p cs vs) :RepL Γ ρ bl w p (cs.map CV.norm1) vs:=by
 refine ⟨by simpa using h.1,fun i c v hc hv=> ?_⟩
 simp only [List.getElem?_map,Option.map_eq_some_iff] at hc
 obtain ⟨x,hx,rfl⟩:=hc
 exact (h.2 i x v hx hv).norm1
theorem RepC.norm {Γ:Froz} {ρ:Nat→Role} {bl:Nat→Nat} {w:World} {p:Place} {c:CV} {v:Value} (h:RepC Γ ρ bl w p c v) :RepC Γ ρ bl w p c.norm v:=by
 cases c with
 | tup l=>obtain ⟨vs,h1,h2⟩:=h;exact ⟨vs,h1,h2.norm⟩
 | agg l=>obtain ⟨vs,h1,h2⟩:=h;exact ⟨vs,h1,h2.norm⟩
 | d x=>exact Rep.norm h
 | _=>exact h
theorem norm_noOwn {c:CV} (h:c.noOwn=true) :c.norm.noOwn=true:=by
 cases c with
 | tup l=>simp only [CV.norm,CV.noOwn,List.all_map,Function.comp_def,norm1_held] at h⊢;exact h
 | agg l=>simp only [CV.norm,CV.noOwn,List.all_map,Function.comp_def,norm1_held] at h⊢;exact h
 | d x=>rfl
 | _=>exact h
def Prot (st:St) (b:Nat) :Prop:=(1000≤b∧b<5000)∧(st.bx b).isSome=true
theorem mvb_no {b:Nat} (h:mvb b=true) (h1:1000≤b∧b<5000) :False:=by
 unfold mvb at h;simp at h;omega
def After (K:St→Prop) (Γ:Froz) (ρ:Nat→Role) (bl:Nat→Nat) (w:World) (st:St) (tmps':Array Value) (w':World) :Prop:=
 ∃Γ' ρ' bl' st',K st'∧SR Γ' ρ' bl' st' tmps' w'∧Fr w Γ ρ w' Γ' ρ'∧∀b,Prot st b→bl' b=bl b
def Good (P:Program) (o:Oper) (m:PM) :Prop:=
 ∀(Γ:Froz) (ρ:Nat→Role) (bl:Nat→Nat) (st:St) (a:Act) (w:World),SR Γ ρ bl st a.tmps w→GzOk ρ w→a.defers= []→∀K:St→Prop,m.wp K st→
  ∀Q,o.wp P a w (fun a' w'=>a'.defers= []∧After K Γ ρ bl w st a'.tmps w') Q
def cvOf:Value→Option CV
 | .bool b=>some (.d (.bool b))
 | .int k n=>some (.d (.int k n))
 | .string s=>some (.d (.str s.data.toList))
 | .slice none 0 0=>some .nils
 | .pointer none=>some (.d .nilp)
 | .nilFunc=>some (.d (.fn none))
 | _=>some .junk
def trX:Operand→Option AX
 | .tmp n=>some (.t n)
 | .const v=>(cvOf v).map .c
 | .func f=>some (.c (.fn f []))
 | .global _=>none
def AX.val (st:St) :AX→CV
 | .t n=>st.get (.s n)
 | .c v=>v
def AX.place:AX→Place
 | .t n=> .s n
 | .c _=> .s 0
theorem ev_wp {x:AX} {k:CV→PM} {K:St→Prop} {st:St}:(x.ev k).wp K st↔(k (x.val st)).wp K st:=by cases x<;>rfl
theorem cvOf_rep {v:Value} {c:CV} (h:cvOf v=some c) (Γ:Froz) (ρ:Nat→Role) (bl:Nat→Nat) (w:World) (p:Place) :RepC Γ ρ bl w p c v:=by
 unfold cvOf at h
 split at h<;>cases h
 ·exact Rep.bool _
 ·exact Rep.int _ _
 ·rename_i s
  exact Rep.str s.data.toList
 ·exact rfl
 ·exact Rep.nilp
 ·exact Rep.nofn
 ·trivial
theorem cvOf_plain {v:Value} {c:CV} (h:cvOf v=some c) :c.noOwn=true∧∀b,¬c.ment b:=by
 unfold cvOf at h
 split at h<;>first | cases h | skip
 all_goals exact ⟨rfl,fun b hb=>hb⟩
theorem rep_ax {x:Operand} {ax:AX} (h:trX x=some ax) {Γ:Froz} {ρ:Nat→Role} {bl:Nat→Nat} {st:St} {a:Act} {w:World} (hs:SR Γ ρ bl st a.tmps w) :RepC Γ ρ bl w ax.place (ax.val st) (a.eval x):=by
 cases x with
 | tmp n=>
  simp only [trX,Option.some.injEq] at h;subst h
  simp only [AX.place,AX.val,Act.eval]
  by_cases hl:n<st.s.length
  ·obtain ⟨v,hv,hr⟩:=hs.slots n _ (List.getElem?_eq_getElem hl)
   have e1:st.get (.s n) =st.s[n]:=St.get_slot (List.getElem?_eq_getElem hl)
   have e2:a.tmps.getD n undef=v:=by rw [Array.getD_eq_getD_getElem?,hv];rfl
   rw [e1,e2];exact hr
  ·have e1:st.get (.s n) = .junk:=by simp only [St.get,List.getD_eq_getElem?_getD];rw [List.getElem?_eq_none (Nat.le_of_not_lt hl)];rfl
   rw [e1];trivial
 | const v=>
  simp only [trX,Option.map_eq_some_iff] at h
  obtain ⟨c,hc,rfl⟩:=h
  exact cvOf_rep hc _ _ _ _ _
 | global g=>simp [trX] at h
 | func f=>simp only [trX,Option.some.injEq] at h;subst h;exact rfl
theorem ment_ax {x:Operand} {ax:AX} (h:trX x=some ax) {Γ:Froz} {ρ:Nat→Role} {bl:Nat→Nat} {st:St} {tmps:Array Value} {w:World} (hs:SR Γ ρ bl st tmps w) {b:Nat} (hm:(ax.val st).ment b) :(st.bx b).isSome=true:=by
 cases x with
 | tmp n=>simp only [trX,Option.some.injEq] at h;subst h;exact hs.closed (.s n) b hm
 | const v=>
  simp only [trX,Option.map_eq_some_iff] at h
  obtain ⟨c,hc,rfl⟩:=h
  exact ((cvOf_plain hc).2 b hm).elim
 | global g=>simp [trX] at h
 | func f=>simp only [trX,Option.some.injEq] at h;subst h;simp [AX.val,CV.ment,CV.ment1] at hm
def putT (tmps:Array Value) (dst:Option Nat) (v:Value) :Array Value:=match dst with | some d=>tmps.setIfInBounds d v | none=>tmps
theorem put_tmps (a:Act) (dst:Option Nat) (v:Value) :(a.put dst v).tmps=putT a.tmps dst v:=by cases dst<;>rfl
theorem put_defers (a:Act) (dst:Option Nat) (v:Value) :(a.put dst v).defers=a.defers:=by cases dst<;>rfl
theorem setD_sound {dst:Option Nat} {c:CV} {K:St→Prop} {Γ:Froz} {ρ:Nat→Role} {bl:Nat→Nat} {st:St} {tmps:Array Value} {w:World} {v:Value} (h:SR Γ ρ bl st tmps w)
  (hc: ∀d,dst=some d→RepC Γ ρ bl w (.s d) c v) (hm: ∀b,c.ment b→(st.bx b).isSome=true) (hw:(setD dst c).wp K st) : ∃st',K st'∧SR Γ ρ bl st' (putT tmps dst v) w:=by
 cases dst with
 | none=>exact ⟨st,hw,h⟩
 | some d=>exact ⟨_,hw.2,h.setSlot d c v (hc d rfl) hm⟩
theorem good_same {P:Program} {o:Oper} {c:CV} {K:St→Prop} {Γ:Froz} {ρ:Nat→Role} {bl:Nat→Nat} {st:St} {a:Act} {w:World} {v:Value} {p:Place} {Q:Exit→Act→World→Prop}
  (h:SR Γ ρ bl st a.tmps w) (hd:a.defers= []) (hrun:(execOp a.eval o).run P w= .ok (.value v) w) (hc:RepC Γ ρ bl w p c v) (hn:c.noOwn=true) (hm: ∀b,c.ment b→(st.bx b).isSome=true)
  (hw:(setD o.dst c).wp K st) :o.wp P a w (fun a' w'=>a'.defers= []∧After K Γ ρ bl w st a'.tmps w') Q:=by
 unfold Oper.wp
 rw [hrun]
 obtain ⟨st',hK,hs⟩:=setD_sound h (v:=v) (fun d _=>hc.place hn) hm hw
 exact ⟨by rw [put_defers];exact hd,Γ,ρ,bl,st',hK,by rw [put_tmps];exact hs, .refl _ _ _,fun _ _=>rfl⟩
theorem SR.give' {Γ:Froz} {ρ:Nat→Role} {bl:Nat→Nat} {st:St} {tmps:Array Value} {w:World} (h:SR Γ ρ bl st tmps w) {p:Place} {i sz:Nat} {l:List D} {v:Value} (ho:Own Γ ρ w p i sz l v) (hh: ¬Holds st p i) (q:Place) (j:Nat) :
  ∃ρ',SR Γ ρ' bl st tmps w∧Own Γ ρ' w q j sz l v∧Fr w Γ ρ w Γ ρ'∧∀g b z cap,ρ g= .row b z cap→ρ' g= .row b z cap:=by
 rcases ho with ⟨e,vs,h1,h2,h3⟩ | ho
 ·cases hb:v.ownBlock with
  | none=>exact ⟨ρ,h, .inl ⟨e,vs,h1,h2,fun g hg=>by rw [hb] at hg;cases hg⟩, .refl _ _ _,fun _ _ _ _ e=>e⟩
  | some g=>
   obtain ⟨k1,k2⟩:=h3 g hb
   refine ⟨upd ρ g (.own q j),h.rerole k1 hh _, .inl ⟨e,vs,h1,h2,fun g' hg'=> ?_⟩,⟨.refl _,Nat.le_refl _,rfl,rfl,rfl,fun g' _ hp=>⟨rfl, ?_⟩,fun _ _ h=> .inl h,fun g' b z cap e _ _=>by rw [upd_ne _ _ (by rintro rfl;rw [k1] at e;cases e)];exact e⟩,fun g' b z cap e=>by rw [upd_ne _ _ (by rintro rfl;rw [k1] at e;cases e)];exact e⟩
   ·rw [hb] at hg';injection hg' with hg';subst hg'
    exact ⟨upd_same _ _ _,k2⟩
   ·rw [upd_ne _ _ (by rintro rfl;rw [k1] at hp;cases hp)];exact hp
 ·exact ⟨ρ,h, .inr ho, .refl _ _ _,fun _ _ _ _ e=>e⟩
theorem SR.give {Γ:Froz} {ρ:Nat→Role} {bl:Nat→Nat} {st:St} {tmps:Array Value} {w:World} (h:SR Γ ρ bl st tmps w) {p:Place} {i sz:Nat} {l:List D} {v:Value} (ho:Own Γ ρ w p i sz l v) (hh: ¬Holds st p i) (q:Place) (j:Nat) :
  ∃ρ',SR Γ ρ' bl st tmps w∧Own Γ ρ' w q j sz l v∧Fr w Γ ρ w Γ ρ':=let ⟨ρ',a,b,c,_⟩:=h.give' ho hh q j;⟨ρ',a,b,c⟩
theorem holds_setSlot {st:St} {n:Nat} {c:CV} (hn:n<st.s.length) (hc:c.held=false) (ha:c.isAggr=false) : ¬Holds (st.set (.s n) c) (.s n) 0:=by
 intro h
 unfold Holds at h
 rw [St.get_setSlot,if_pos ⟨rfl,hn⟩] at h
 cases c<;>simp_all [CV.comp,CV.held,CV.isAggr]
theorem strip_sound' {x:Operand} {n:Nat} {K:St→Prop} {k:PM} {Γ:Froz} {ρ:Nat→Role} {bl:Nat→Nat} {st:St} {a:Act} {w:World} {sz:Nat} {l:List D} (h:SR Γ ρ bl st a.tmps w) (hx:trX x=some (.t n)) (hv:st.get (.s n) = .own sz l)
  (hw:(strip (.t n) (.own sz l) k).wp K st) (q:Place) (j:Nat) :
  ∃ρ' st',SR Γ ρ' bl st' a.tmps w∧Own Γ ρ' w q j sz l (a.eval x)∧Fr w Γ ρ w Γ ρ'∧k.wp K st'∧st'=st.set (.s n) (.d (.slice sz l))∧∀g b z cap,ρ g= .row b z cap→ρ' g= .row b z cap:=by
 have hr:=rep_ax hx h
 simp only [AX.val,AX.place,hv] at hr
 obtain ⟨hok,hk⟩:=hw
 have hn:n<st.s.length:=by simpa [Place.ok] using hok
 have hs:=h.viewSlot n (.d (.slice sz l)) (fun v hv'=> ?_) (fun b hb=>hb.elim)
 ·obtain ⟨ρ',h1,h2,h3,h4⟩:=hs.give' hr (holds_setSlot hn rfl rfl) q j
  exact ⟨ρ',_,h1,h2,h3,hk,rfl,h4⟩
 ·obtain ⟨u,hu,hru⟩:=h.slots n _ (List.getElem?_eq_getElem hn)
  rw [hv'] at hu;cases hu
  have e1:st.get (.s n) =st.s[n]:=St.get_slot (List.getElem?_eq_getElem hn)
  rw [←e1,hv] at hru
  exact Own.rep hru
theorem strip_sound {x:Operand} {n:Nat} {K:St→Prop} {k:PM} {Γ:Froz} {ρ:Nat→Role} {bl:Nat→Nat} {st:St} {a:Act} {w:World} {sz:Nat} {l:List D} (h:SR Γ ρ bl st a.tmps w) (hx:trX x=some (.t n)) (hv:st.get (.s n) = .own sz l)
  (hw:(strip (.t n) (.own sz l) k).wp K st) (q:Place) (j:Nat) :
  ∃ρ' st',SR Γ ρ' bl st' a.tmps w∧Own Γ ρ' w q j sz l (a.eval x)∧Fr w Γ ρ w Γ ρ'∧k.wp K st'∧st'=st.set (.s n) (.d (.slice sz l)):=
 let ⟨ρ',st',a,b,c,d,e,_⟩:=strip_sound' h hx hv hw q j;⟨ρ',st',a,b,c,d,e⟩
theorem After.trans {K:St→Prop} {Γ Γ1:Froz} {ρ ρ1:Nat→Role} {bl bl1:Nat→Nat} {w w1:World} {st st1:St} {tmps':Array Value} {w':World} (hf:Fr w Γ ρ w1 Γ1 ρ1) (hb: ∀b,Prot st b→(st1.bx b).isSome=true∧bl1 b=bl b)
  (h:After K Γ1 ρ1 bl1 w1 st1 tmps' w') :After K Γ ρ bl w st tmps' w':=by
 obtain ⟨Γ',ρ',bl',st',h1,h2,h3,h4⟩:=h
 exact ⟨Γ',ρ',bl',st',h1,h2,hf.trans h3,fun b hbs=>(h4 b ⟨hbs.1,(hb b hbs).1⟩).trans (hb b hbs).2⟩
variable {P:Program} {C:CallRel} {okr okw:Nat→Bool} {o:Oper}
theorem g_mov {x:Operand} {ax:AX} (xf:Bool) (nl:Option Nat) (ho:o.op= .move x∨o.op= .assign x) (hx:trX x=some ax) :Good P o ((AI.mov ax xf nl).pm C okr okw o.dst):=by
 intro Γ ρ bl st a w h hgz hd K hw Q
 have hrun:(execOp a.eval o).run P w= .ok (.value (a.eval x)) w:=by rcases ho with ho | ho<;>simp [execOp,ho]
 simp only [AI.pm] at hw
 rw [ev_wp] at hw
 have hr:=rep_ax hx h
 split at hw
 ·rename_i hc
  simp only [Bool.and_eq_true] at hc
  cases ax with
  | c v=>cases x with
   | const u=>
    simp only [trX,Option.map_eq_some_iff] at hx
    obtain ⟨c,hc',e⟩:=hx
    injection e with e;subst e
    have:=(cvOf_plain hc').1
    simp only [AX.val] at hc
    cases c<;>simp_all [isOwn,CV.noOwn]
   | func f=>simp only [trX,Option.some.injEq,AX.c.injEq] at hx;subst hx;simp [AX.val,isOwn] at hc
   | tmp n=>simp [trX] at hx
   | global g=>simp [trX] at hx
  | t n=>
   simp only [AX.val] at hw hc
   cases hv:st.get (.s n) with
   | own sz l=>
    rw [hv] at hw
    cases hdst:o.dst with
    | none=>
     rw [hdst] at hw
     obtain ⟨ρ',st',h1,h2,h3,h4,_⟩:=strip_sound h hx hv hw (.s 0) 0
     unfold Oper.wp;rw [hrun]
     exact ⟨by rw [put_defers];exact hd,Γ,ρ',bl,st',h4,by rw [put_tmps,hdst];exact h1,h3,fun _ _=>rfl⟩
    | some d=>
     rw [hdst] at hw
     obtain ⟨ρ',st',h1,h2,h3,h4,_⟩:=strip_sound h hx hv hw (.s d) 0
     unfold Oper.wp;rw [hrun]
     obtain ⟨st'',hK,hs⟩:=setD_sound h1 (dst:=some d) (c:= .own sz l) (v:=a.eval x) (fun d' e=>by cases e;exact h2) (fun b hb=>hb.elim) h4
     exact ⟨by rw [put_defers];exact hd,Γ,ρ',bl,st'',hK,by rw [put_tmps,hdst];exact hs,h3,fun _ _=>rfl⟩
   | _=>rw [hv] at hc;simp [isOwn] at hc
 ·cases ax with
  | t n=>exact good_same (p:= .s 0) h hd hrun hr.copy (copy_noOwn _) (fun b hb=>ment_ax hx h (copy_ment hb)) hw
  | c v=>
   simp only [AX.val] at hw hr
   have hpl:v.noOwn=true∧∀b,v.ment b→(st.bx b).isSome=true:=by
    refine ⟨?_,fun b hb=>ment_ax hx h hb⟩
    cases x with
    | const u=>
     simp only [trX,Option.map_eq_some_iff] at hx
     obtain ⟨c,hc',e⟩:=hx
     injection e with e;subst e
     exact (cvOf_plain hc').1
    | func f=>simp only [trX,Option.some.injEq,AX.c.injEq] at hx;subst hx;rfl
    | tmp n=>simp [trX] at hx
    | global g=>simp [trX] at hx
   cases v with
   | nils=>
    cases nl with
    | none=>exact good_same (c:= .nils) h hd hrun hr rfl hpl.2 hw
    | some sz=>
     unfold Oper.wp;rw [hrun]
     have hv:a.eval x= .slice none 0 0:=hr
     obtain ⟨st',hK,hs⟩:=setD_sound h (dst:=o.dst) (c:= .own sz []) (v:=a.eval x) (fun d' e=>Or.inl ⟨0,[],by rw [hv];exact rowS_nil w 0 sz,⟨by simp,by simp [flatten],rfl,by simp [flatten]⟩,by rw [hv];simp [Value.ownBlock]⟩) (fun b hb=>hb.elim) hw
     exact ⟨by rw [put_defers];exact hd,Γ,ρ,bl,st',hK,by rw [put_tmps];exact hs, .refl _ _ _,fun _ _=>rfl⟩
   | own sz l=>simp [CV.noOwn] at hpl
   | _=>exact good_same h hd hrun hr hpl.1 hpl.2 hw
theorem boolOf_eq {c:CV} {b:Bool} (h:boolOf c=some b) :c= .d (.bool b):=by
 unfold boolOf at h;split at h<;>simp_all
theorem intOf_eq {c:CV} {n:Int} (h:intOf c=some n) : ∃k,c= .d (.int k n):=by
 unfold intOf at h;split at h<;>simp_all
theorem rep_bool {Γ:Froz} {ρ:Nat→Role} {bl:Nat→Nat} {w:World} {p:Place} {b:Bool} {v:Value} (h:RepC Γ ρ bl w p (.d (.bool b)) v) :v= .bool b:=by
 have h:Rep Γ (.bool b) v:=h
 cases h;rfl
theorem rep_int {Γ:Froz} {ρ:Nat→Role} {bl:Nat→Nat} {w:World} {p:Place} {k:IntKind} {n:Int} {v:Value} (h:RepC Γ ρ bl w p (.d (.int k n)) v) :v= .int k n:=by
 have h:Rep Γ (.int k n) v:=h
 cases h;rfl
theorem rep_str {Γ:Froz} {ρ:Nat→Role} {bl:Nat→Nat} {w:World} {p:Place} {s:Bytes} {v:Value} (h:RepC Γ ρ bl w p (.d (.str s)) v) :v= .string ⟨s.toArray⟩:=by
 have h:Rep Γ (.str s) v:=h
 cases h;rfl
theorem rep_sl {Γ:Froz} {ρ:Nat→Role} {bl:Nat→Nat} {w:World} {p:Place} {c:CV} {v:Value} {z:Nat} {l:List D} (h:RepC Γ ρ bl w p c v) (hc:c.slz=some (z,l)) :Rep Γ (.slice z l) v:=by
 cases c with
 | d x=>
  cases x<;>simp [CV.slz] at hc
  ·obtain ⟨rfl,rfl⟩:=hc;exact h
  ·obtain ⟨rfl,rfl⟩:=hc
   have h:Rep Γ _ v:=h
   cases h;exact .nil _
 | own z' l'=>simp [CV.slz] at hc;obtain ⟨rfl,rfl⟩:=hc;exact Own.rep h
 | _=>simp [CV.slz] at hc
theorem sl_len {Γ:Froz} {ρ:Nat→Role} {bl:Nat→Nat} {w:World} {p:Place} {c:CV} {v:Value} {l:List D} (h:RepC Γ ρ bl w p c v) (hc:c.sl=some l) : ∃a n,v= .slice a l.length n:=by
 cases c with
 | d x=>
  cases x<;>simp [CV.sl] at hc
  ·subst hc
   have h:Rep Γ _ v:=h
   cases h
   ·exact ⟨none,0,rfl⟩
   ·exact ⟨_,_,rfl⟩
   ·exact ⟨_,_,rfl⟩
  ·subst hc
   have h:Rep Γ _ v:=h
   cases h
   exact ⟨none,0,rfl⟩
 | own z' l'=>
  simp [CV.sl] at hc;subst hc
  have h:=Own.rep h
  cases h
  ·exact ⟨none,0,rfl⟩
  ·exact ⟨_,_,rfl⟩
  ·exact ⟨_,_,rfl⟩
 | nils=>simp [CV.sl] at hc;subst hc;exact ⟨none,0,h⟩
 | _=>simp [CV.sl] at hc
theorem g_pick {x y z:Operand} {ax ay az:AX} (ho:o.op= .pick x y z) (hx:trX x=some ax) (hy:trX y=some ay) (hz:trX z=some az) :Good P o ((AI.pick ax ay az).pm C okr okw o.dst):=by
 intro Γ ρ bl st a w h hgz hd K hw Q
 simp only [AI.pm] at hw
 rw [ev_wp,ev_wp,ev_wp] at hw
 split at hw
 ·rename_i t ht
  have e:=rep_ax hx h
  rw [boolOf_eq ht] at e
  have e:=rep_bool e
  cases t with
  | true=>exact good_same (p:= .s 0) h hd (by simp [execOp,ho,e,asBool]) (rep_ax hy h).copy (copy_noOwn _) (fun b hb=>ment_ax hy h (copy_ment hb)) hw
  | false=>exact good_same (p:= .s 0) h hd (by simp [execOp,ho,e,asBool]) (rep_ax hz h).copy (copy_noOwn _) (fun b hb=>ment_ax hz h (copy_ment hb)) hw
 ·exact hw.elim
theorem good_data {c:D} {K:St→Prop} {Γ:Froz} {ρ:Nat→Role} {bl:Nat→Nat} {st:St} {a:Act} {w:World} {v:Value} {Q:Exit→Act→World→Prop}
  (h:SR Γ ρ bl st a.tmps w) (hd:a.defers= []) (hrun:(execOp a.eval o).run P w= .ok (.value v) w) (hc:Rep Γ c v)
  (hw:(setD o.dst (.d c)).wp K st) :o.wp P a w (fun a' w'=>a'.defers= []∧After K Γ ρ bl w st a'.tmps w') Q:=
 good_same (p:= .s 0) (c:= .d c) h hd hrun hc rfl (fun b hb=>hb.elim) hw
theorem toList_mk (s:Bytes) :(⟨s.toArray⟩ :ByteArray).toList=s:=by
 rw [ByteArray.toList_eq]
theorem size_mk (s:Bytes) :(⟨s.toArray⟩ :ByteArray).size=s.length:=by
 show s.toArray.size=_;simp
theorem append_mk (s t:Bytes) :(⟨s.toArray⟩ :ByteArray) ++ ⟨t.toArray⟩ = ⟨(s++t).toArray⟩:=by
 have h: ∀x y:ByteArray,x.data=y.data→x=y:=fun x y h=>by cases x;cases y;simp_all
 apply h
 rw [ByteArray.data_append]
 simp
def valD:D→Value
 | .int k n=> .int k n
 | .bool b=> .bool b
 | .str s=> .string ⟨s.toArray⟩
 | _=>undef
theorem run_intInt (op:BinOp) (t:TypeId) (k k':IntKind) (a b:Int) {r:D} (hr:binD op (.int k a) (.int k' b) =some r) (w:World) :
  (binOp op t (.int k a) (.int k' b)).run P w= .ok (valD r) w∧∀Γ,Rep Γ r (valD r):=by
 have key:r= .bool true∨r= .bool false∨(∃n,r= .int k n)→∀Γ,Rep Γ r (valD r):=by
  rintro (rfl | rfl | ⟨n,rfl⟩) Γ
  ·exact .bool _
  ·exact .bool _
  ·exact .int _ _
 cases op<;>simp only [binD] at hr<;>(try split at hr)<;>(try (split at hr))<;>(try cases hr)<;>(try (rename_i e;subst e))<;>refine ⟨?_,key ?_⟩
 all_goals first
  | exact .inr (.inr ⟨_,rfl⟩)
  | (show D.bool _=_∨D.bool _=_∨_;simp only [D.bool.injEq];first | exact (Bool.eq_false_or_eq_true _).imp id .inl)
  | (simp only [binOp,ne_eq,not_true_eq_false,if_false];first | rfl | (simp only [Op.shift,Op.intDiv, *,if_false];rfl))
theorem run_strStr (op:BinOp) (t:TypeId) (a b:Bytes) {r:D} (hr:binD op (.str a) (.str b) =some r) (hq:binReq op (.str a) (.str b)) (w:World) :
  (binOp op t (.string ⟨a.toArray⟩) (.string ⟨b.toArray⟩)).run P w= .ok (valD r) w∧∀Γ,Rep Γ r (valD r):=by
 cases op<;>simp only [binD] at hr<;>(try cases hr)
 case add=>
  simp only [binReq] at hq
  refine ⟨?_,fun Γ=> .str _⟩
  simp only [binOp,Op.stringOp,size_mk]
  rw [if_neg (by omega),append_mk]
  rfl
 all_goals exact ⟨by simp only [binOp,Op.stringOp,toList_mk];rfl,fun Γ=> .bool _⟩
end B
end Go.Proofs.YtmkkljbfmdngfaaGreatDoor
