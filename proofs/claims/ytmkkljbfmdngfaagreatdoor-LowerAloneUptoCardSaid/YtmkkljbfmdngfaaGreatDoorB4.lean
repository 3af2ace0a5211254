/- Each instruction does what the abstract one says: values, boxes. No condition. -/
import Derived.Test.YtmkkljbfmdngfaaGreatDoorB2
import Derived.Lib.ConvBytes
set_option linter.all false
namespace Go.Proofs.YtmkkljbfmdngfaaGreatDoor
namespace B
open Go.RowKit
theorem RepC1.norm1 {Γ:Froz} {ρ:Nat→Role} {bl:Nat→Nat} {w:World} {p:Place} {i:Nat} {c:CV} {v:Value} (h:RepC1 Γ ρ bl w p i c v) :RepC1 Γ ρ bl w p i c.norm1 v:=by
 cases c<;>first | exact h | exact Rep.norm h
theorem norm1_held (c:CV) :c.norm1.held=c.held:=by cases c<;>rfl
theorem RepL.norm {Γ:Froz} {ρ:Nat→Role} {bl:Nat→Nat} {w:World} {p:Place} {cs:List CV} {vs:List Value} (h:RepL Γ ρ bl w p cs vs) :RepL Γ ρ bl w p (cs.map CV.norm1) vs:=by
 refine ⟨by simpa using h.1,fun i c v hc hv=> ?_⟩
 simp only [List.getElem?_map,Option.map_eq_some_iff] at hc
 obtain ⟨x,hx,rfl⟩:=hc
 exact (h.2 i x v hx hv).norm1
theorem RepC.norm {Γ:Froz} {ρ:Nat→Role} {bl:Nat→Nat} {w:World} {p:Place} {c:CV} {v:Value} (h:RepC Γ ρ bl w p c v) :RepC Γ ρ bl w p c.norm v:=by
 cases c with
 | tup l=>obtain ⟨vs,h1,h2⟩:=h;exact ⟨vs,h1,h2.norm⟩
 | agg l=>obtain ⟨vs,h1,h2⟩:=h;exact ⟨vs,h1,h2.norm⟩
 | d x=>exact Rep.norm h
 | _=>exact h
theorem norm_noOwn {c:CV} (h:c.noOwn=true) :c.norm.noOwn=true:=by
 cases c with
 | tup l=>simp only [CV.norm,CV.noOwn,List.all_map,Function.comp_def,norm1_held] at h⊢;exact h
 | agg l=>simp only [CV.norm,CV.noOwn,List.all_map,Function.comp_def,norm1_held] at h⊢;exact h
 | d x=>rfl
 | _=>exact h
def Prot (st:St) (b:Nat) :Prop:=(1000≤b∧b<5000)∧(st.bx b).isSome=true
theorem mvb_no {b:Nat} (h:mvb b=true) (h1:1000≤b∧b<5000) :False:=by
 unfold mvb at h;simp at h;omega
def After (K:St→Prop) (Γ:Froz) (ρ:Nat→Role) (bl:Nat→Nat) (w:World) (st:St) (tmps':Array Value) (w':World) :Prop:=
 ∃Γ' ρ' bl' st',K st'∧SR Γ' ρ' bl' st' tmps' w'∧Fr w Γ ρ w' Γ' ρ'∧∀b,Prot st b→bl' b=bl b
def Good (P:Program) (o:Oper) (m:PM) :Prop:=
 ∀(Γ:Froz) (ρ:Nat→Role) (bl:Nat→Nat) (st:St) (a:Act) (w:World),SR Γ ρ bl st a.tmps w→GzOk ρ w→a.defers= []→∀K:St→Prop,m.wp K st→
  ∀Q,o.wp P a w (fun a' w'=>a'.defers= []∧After K Γ ρ bl w st a'.tmps w') Q
def cvOf:Value→Option CV
 | .bool b=>some (.d (.bool b))
 | .int k n=>some (.d (.int k n))
 | .string s=>some (.d (.str s.data.toList))
 | .slice none 0 0=>some .nils
 | .pointer none=>some (.d .nilp)
 | .nilFunc=>some (.d (.fn none))
 | _=>some .junk
def trX:Operand→Option AX
 | .tmp n=>some (.t n)
 | .const v=>(cvOf v).map .c
 | .func f=>some (.c (.fn f []))
 | .global _=>none
def AX.val (st:St) :AX→CV
 | .t n=>st.get (.s n)
 | .c v=>v
def AX.place:AX→Place
 | .t n=> .s n
 | .c _=> .s 0
theorem ev_wp {x:AX} {k:CV→PM} {K:St→Prop} {st:St}:(x.ev k).wp K st↔(k (x.val st)).wp K st:=by cases x<;>rfl
theorem cvOf_rep {v:Value} {c:CV} (h:cvOf v=some c) (Γ:Froz) (ρ:Nat→Role) (bl:Nat→Nat) (w:World) (p:Place) :RepC Γ ρ bl w p c v:=by
 unfold cvOf at h
 split at h<;>cases h
 ·exact Rep.bool _
 ·exact Rep.int _ _
 ·rename_i s
  exact Rep.str s.data.toList
 ·exact rfl
 ·exact Rep.nilp
 ·exact Rep.nofn
 ·trivial
theorem cvOf_plain {v:Value} {c:CV} (h:cvOf v=some c) :c.noOwn=true∧∀b,¬c.ment b:=by
 unfold cvOf at h
 split at h<;>first | cases h | skip
 all_goals exact ⟨rfl,fun b hb=>hb⟩
theorem rep_ax {x:Operand} {ax:AX} (h:trX x=some ax) {Γ:Froz} {ρ:Nat→Role} {bl:Nat→Nat} {st:St} {a:Act} {w:World} (hs:SR Γ ρ bl st a.tmps w) :RepC Γ ρ bl w ax.place (ax.val st) (a.eval x):=by
 cases x with
 | tmp n=>
  simp only [trX,Option.some.injEq] at h;subst h
  simp only [AX.place,AX.val,Act.eval]
  by_cases hl:n<st.s.length
  ·obtain ⟨v,hv,hr⟩:=hs.slots n _ (List.getElem?_eq_getElem hl)
   have e1:st.get (.s n) =st.s[n]:=St.get_slot (List.getElem?_eq_getElem hl)
   have e2:a.tmps.getD n undef=v:=by rw [Array.getD_eq_getD_getElem?,hv];rfl
   rw [e1,e2];exact hr
  ·have e1:st.get (.s n) = .junk:=by simp only [St.get,List.getD_eq_getElem?_getD];rw [List.getElem?_eq_none (Nat.le_of_not_lt hl)];rfl
   rw [e1];trivial
 | const v=>
  simp only [trX,Option.map_eq_some_iff] at h
  obtain ⟨c,hc,rfl⟩:=h
  exact cvOf_rep hc _ _ _ _ _
 | global g=>simp [trX] at h
 | func f=>simp only [trX,Option.some.injEq] at h;subst h;exact rfl
theorem ment_ax {x:Operand} {ax:AX} (h:trX x=some ax) {Γ:Froz} {ρ:Nat→Role} {bl:Nat→Nat} {st:St} {tmps:Array Value} {w:World} (hs:SR Γ ρ bl st tmps w) {b:Nat} (hm:(ax.val st).ment b) :(st.bx b).isSome=true:=by
 cases x with
 | tmp n=>simp only [trX,Option.some.injEq] at h;subst h;exact hs.closed (.s n) b hm
 | const v=>
  simp only [trX,Option.map_eq_some_iff] at h
  obtain ⟨c,hc,rfl⟩:=h
  exact ((cvOf_plain hc).2 b hm).elim
 | global g=>simp [trX] at h
 | func f=>simp only [trX,Option.some.injEq] at h;subst h;simp [AX.val,CV.ment,CV.ment1] at hm
def putT (tmps:Array Value) (dst:Option Nat) (v:Value) :Array Value:=match dst with | some d=>tmps.setIfInBounds d v | none=>tmps
theorem put_tmps (a:Act) (dst:Option Nat) (v:Value) :(a.put dst v).tmps=putT a.tmps dst v:=by cases dst<;>rfl
theorem put_defers (a:Act) (dst:Option Nat) (v:Value) :(a.put dst v).defers=a.defers:=by cases dst<;>rfl
theorem setD_sound {dst:Option Nat} {c:CV} {K:St→Prop} {Γ:Froz} {ρ:Nat→Role} {bl:Nat→Nat} {st:St} {tmps:Array Value} {w:World} {v:Value} (h:SR Γ ρ bl st tmps w)
  (hc: ∀d,dst=some d→RepC Γ ρ bl w (.s d) c v) (hm: ∀b,c.ment b→(st.bx b).isSome=true) (hw:(setD dst c).wp K st) : ∃st',K st'∧SR Γ ρ bl st' (putT tmps dst v) w:=by
 cases dst with
 | none=>exact ⟨st,hw,h⟩
 | some d=>exact ⟨_,hw.2,h.setSlot d c v (hc d rfl) hm⟩
theorem good_same {P:Program} {o:Oper} {c:CV} {K:St→Prop} {Γ:Froz} {ρ:Nat→Role} {bl:Nat→Nat} {st:St} {a:Act} {w:World} {v:Value} {p:Place} {Q:Exit→Act→World→Prop}
  (h:SR Γ ρ bl st a.tmps w) (hd:a.defers= []) (hrun:(execOp a.eval o).run P w= .ok (.value v) w) (hc:RepC Γ ρ bl w p c v) (hn:c.noOwn=true) (hm: ∀b,c.ment b→(st.bx b).isSome=true)
  (hw:(setD o.dst c).wp K st) :o.wp P a w (fun a' w'=>a'.defers= []∧After K Γ ρ bl w st a'.tmps w') Q:=by
 unfold Oper.wp
 rw [hrun]
 obtain ⟨st',hK,hs⟩:=setD_sound h (v:=v) (fun d _=>hc.place hn) hm hw
 exact ⟨by rw [put_defers];exact hd,Γ,ρ,bl,st',hK,by rw [put_tmps];exact hs, .refl _ _ _,fun _ _=>rfl⟩
theorem SR.give' {Γ:Froz} {ρ:Nat→Role} {bl:Nat→Nat} {st:St} {tmps:Array Value} {w:World} (h:SR Γ ρ bl st tmps w) {p:Place} {i sz:Nat} {l:List D} {v:Value} (ho:Own Γ ρ w p i sz l v) (hh: ¬Holds st p i) (q:Place) (j:Nat) :
  ∃ρ',SR Γ ρ' bl st tmps w∧Own Γ ρ' w q j sz l v∧Fr w Γ ρ w Γ ρ'∧∀g b z cap,ρ g= .row b z cap→ρ' g= .row b z cap:=by
 rcases ho with ⟨e,vs,h1,h2,h3⟩ | ho
 ·cases hb:v.ownBlock with
  | none=>exact ⟨ρ,h, .inl ⟨e,vs,h1,h2,fun g hg=>by rw [hb] at hg;cases hg⟩, .refl _ _ _,fun _ _ _ _ e=>e⟩
  | some g=>
   obtain ⟨k1,k2⟩:=h3 g hb
   refine ⟨upd ρ g (.own q j),h.rerole k1 hh _, .inl ⟨e,vs,h1,h2,fun g' hg'=> ?_⟩,⟨.refl _,Nat.le_refl _,rfl,rfl,rfl,fun g' _ hp=>⟨rfl, ?_⟩,fun _ _ h=> .inl h,fun g' b z cap e _ _=>by rw [upd_ne _ _ (by rintro rfl;rw [k1] at e;cases e)];exact e⟩,fun g' b z cap e=>by rw [upd_ne _ _ (by rintro rfl;rw [k1] at e;cases e)];exact e⟩
   ·rw [hb] at hg';injection hg' with hg';subst hg'
    exact ⟨upd_same _ _ _,k2⟩
   ·rw [upd_ne _ _ (by rintro rfl;rw [k1] at hp;cases hp)];exact hp
 ·exact ⟨ρ,h, .inr ho, .refl _ _ _,fun _ _ _ _ e=>e⟩
theorem SR.give {Γ:Froz} {ρ:Nat→Role} {bl:Nat→Nat} {st:St} {tmps:Array Value} {w:World} (h:SR Γ ρ bl st tmps w) {p:Place} {i sz:Nat} {l:List D} {v:Value} (ho:Own Γ ρ w p i sz l v) (hh: ¬Holds st p i) (q:Place) (j:Nat) :
  ∃ρ',SR Γ ρ' bl st tmps w∧Own Γ ρ' w q j sz l v∧Fr w Γ ρ w Γ ρ':=let ⟨ρ',a,b,c,_⟩:=h.give' ho hh q j;⟨ρ',a,b,c⟩
theorem holds_setSlot {st:St} {n:Nat} {c:CV} (hn:n<st.s.length) (hc:c.held=false) (ha:c.isAggr=false) : ¬Holds (st.set (.s n) c) (.s n) 0:=by
 intro h
 unfold Holds at h
 rw [St.get_setSlot,if_pos ⟨rfl,hn⟩] at h
 cases c<;>simp_all [CV.comp,CV.held,CV.isAggr]
theorem strip_sound' {x:Operand} {n:Nat} {K:St→Prop} {k:PM} {Γ:Froz} {ρ:Nat→Role} {bl:Nat→Nat} {st:St} {a:Act} {w:World} {sz:Nat} {l:List D} (h:SR Γ ρ bl st a.tmps w) (hx:trX x=some (.t n)) (hv:st.get (.s n) = .own sz l)
  (hw:(strip (.t n) (.own sz l) k).wp K st) (q:Place) (j:Nat) :
  ∃ρ' st',SR Γ ρ' bl st' a.tmps w∧Own Γ ρ' w q j sz l (a.eval x)∧Fr w Γ ρ w Γ ρ'∧k.wp K st'∧st'=st.set (.s n) (.d (.slice sz l))∧∀g b z cap,ρ g= .row b z cap→ρ' g= .row b z cap:=by
 have hr:=rep_ax hx h
 simp only [AX.val,AX.place,hv] at hr
 obtain ⟨hok,hk⟩:=hw
 have hn:n<st.s.length:=by simpa [Place.ok] using hok
 have hs:=h.viewSlot n (.d (.slice sz l)) (fun v hv'=> ?_) (fun b hb=>hb.elim)
 ·obtain ⟨ρ',h1,h2,h3,h4⟩:=hs.give' hr (holds_setSlot hn rfl rfl) q j
  exact ⟨ρ',_,h1,h2,h3,hk,rfl,h4⟩
 ·obtain ⟨u,hu,hru⟩:=h.slots n _ (List.getElem?_eq_getElem hn)
  rw [hv'] at hu;cases hu
  have e1:st.get (.s n) =st.s[n]:=St.get_slot (List.getElem?_eq_getElem hn)
  rw [←e1,hv] at hru
  exact Own.rep hru
theorem strip_sound {x:Operand} {n:Nat} {K:St→Prop} {k:PM} {Γ:Froz} {ρ:Nat→Role} {bl:Nat→Nat} {st:St} {a:Act} {w:World} {sz:Nat} {l:List D} (h:SR Γ ρ bl st a.tmps w) (hx:trX x=some (.t n)) (hv:st.get (.s n) = .own sz l)
  (hw:(strip (.t n) (.own sz l) k).wp K st) (q:Place) (j:Nat) :
  ∃ρ' st',SR Γ ρ' bl st' a.tmps w∧Own Γ ρ' w q j sz l (a.eval x)∧Fr w Γ ρ w Γ ρ'∧k.wp K st'∧st'=st.set (.s n) (.d (.slice sz l)):=
 let ⟨ρ',st',a,b,c,d,e,_⟩:=strip_sound' h hx hv hw q j;⟨ρ',st',a,b,c,d,e⟩
theorem After.trans {K:St→Prop} {Γ Γ1:Froz} {ρ ρ1:Nat→Role} {bl bl1:Nat→Nat} {w w1:World} {st st1:St} {tmps':Array Value} {w':World} (hf:Fr w Γ ρ w1 Γ1 ρ1) (hb: ∀b,Prot st b→(st1.bx b).isSome=true∧bl1 b=bl b)
  (h:After K Γ1 ρ1 bl1 w1 st1 tmps' w') :After K Γ ρ bl w st tmps' w':=by
 obtain ⟨Γ',ρ',bl',st',h1,h2,h3,h4⟩:=h
 exact ⟨Γ',ρ',bl',st',h1,h2,hf.trans h3,fun b hbs=>(h4 b ⟨hbs.1,(hb b hbs).1⟩).trans (hb b hbs).2⟩
variable {P:Program} {C:CallRel} {okr okw:Nat→Bool} {o:Oper}
theorem g_mov {x:Operand} {ax:AX} (xf:Bool) (nl:Option Nat) (ho:o.op= .move x∨o.op= .assign x) (hx:trX x=some ax) :Good P o ((AI.mov ax xf nl).pm C okr okw o.dst):=by
 intro Γ ρ bl st a w h hgz hd K hw Q
 have hrun:(execOp a.eval o).run P w= .ok (.value (a.eval x)) w:=by rcases ho with ho | ho<;>simp [execOp,ho]
 simp only [AI.pm] at hw
 rw [ev_wp] at hw
 have hr:=rep_ax hx h
 split at hw
 ·rename_i hc
  simp only [Bool.and_eq_true] at hc
  cases ax with
  | c v=>cases x with
   | const u=>
    simp only [trX,Option.map_eq_some_iff] at hx
    obtain ⟨c,hc',e⟩:=hx
    injection e with e;subst e
    have:=(cvOf_plain hc').1
    simp only [AX.val] at hc
    cases c<;>simp_all [isOwn,CV.noOwn]
   | func f=>simp only [trX,Option.some.injEq,AX.c.injEq] at hx;subst hx;simp [AX.val,isOwn] at hc
   | tmp n=>simp [trX] at hx
   | global g=>simp [trX] at hx
  | t n=>
   simp only [AX.val] at hw hc
   cases hv:st.get (.s n) with
   | own sz l=>
    rw [hv] at hw
    cases hdst:o.dst with
    | none=>
     rw [hdst] at hw
     obtain ⟨ρ',st',h1,h2,h3,h4,_⟩:=strip_sound h hx hv hw (.s 0) 0
     unfold Oper.wp;rw [hrun]
     exact ⟨by rw [put_defers];exact hd,Γ,ρ',bl,st',h4,by rw [put_tmps,hdst];exact h1,h3,fun _ _=>rfl⟩
    | some d=>
     rw [hdst] at hw
     obtain ⟨ρ',st',h1,h2,h3,h4,_⟩:=strip_sound h hx hv hw (.s d) 0
     unfold Oper.wp;rw [hrun]
     obtain ⟨st'',hK,hs⟩:=setD_sound h1 (dst:=some d) (c:= .own sz l) (v:=a.eval x) (fun d' e=>by cases e;exact h2) (fun b hb=>hb.elim) h4
     exact ⟨by rw [put_defers];exact hd,Γ,ρ',bl,st'',hK,by rw [put_tmps,hdst];exact hs,h3,fun _ _=>rfl⟩
   | _=>rw [hv] at hc;simp [isOwn] at hc
 ·cases ax with
  | t n=>exact good_same (p:= .s 0) h hd hrun hr.copy (copy_noOwn _) (fun b hb=>ment_ax hx h (copy_ment hb)) hw
  | c v=>
   simp only [AX.val] at hw hr
   have hpl:v.noOwn=true∧∀b,v.ment b→(st.bx b).isSome=true:=by
    refine ⟨?_,fun b hb=>ment_ax hx h hb⟩
    cases x with
    | const u=>
     simp only [trX,Option.map_eq_some_iff] at hx
     obtain ⟨c,hc',e⟩:=hx
     injection e with e;subst e
     exact (cvOf_plain hc').1
    | func f=>simp only [trX,Option.some.injEq,AX.c.injEq] at hx;subst hx;rfl
    | tmp n=>simp [trX] at hx
    | global g=>simp [trX] at hx
   cases v with
   | nils=>
    cases nl with
    | none=>exact good_same (c:= .nils) h hd hrun hr rfl hpl.2 hw
    | some sz=>
     unfold Oper.wp;rw [hrun]
     have hv:a.eval x= .slice none 0 0:=hr
     obtain ⟨st',hK,hs⟩:=setD_sound h (dst:=o.dst) (c:= .own sz []) (v:=a.eval x) (fun d' e=>Or.inl ⟨0,[],by rw [hv];exact rowS_nil w 0 sz,⟨by simp,by simp [flatten],rfl,by simp [flatten]⟩,by rw [hv];simp [Value.ownBlock]⟩) (fun b hb=>hb.elim) hw
     exact ⟨by rw [put_defers];exact hd,Γ,ρ,bl,st',hK,by rw [put_tmps];exact hs, .refl _ _ _,fun _ _=>rfl⟩
   | own sz l=>simp [CV.noOwn] at hpl
   | _=>exact good_same h hd hrun hr hpl.1 hpl.2 hw
theorem boolOf_eq {c:CV} {b:Bool} (h:boolOf c=some b) :c= .d (.bool b):=by
 unfold boolOf at h;split at h<;>simp_all
theorem intOf_eq {c:CV} {n:Int} (h:intOf c=some n) : ∃k,c= .d (.int k n):=by
 unfold intOf at h;split at h<;>simp_all
theorem rep_bool {Γ:Froz} {ρ:Nat→Role} {bl:Nat→Nat} {w:World} {p:Place} {b:Bool} {v:Value} (h:RepC Γ ρ bl w p (.d (.bool b)) v) :v= .bool b:=by
 have h:Rep Γ (.bool b) v:=h
 cases h;rfl
theorem rep_int {Γ:Froz} {ρ:Nat→Role} {bl:Nat→Nat} {w:World} {p:Place} {k:IntKind} {n:Int} {v:Value} (h:RepC Γ ρ bl w p (.d (.int k n)) v) :v= .int k n:=by
 have h:Rep Γ (.int k n) v:=h
 cases h;rfl
theorem rep_str {Γ:Froz} {ρ:Nat→Role} {bl:Nat→Nat} {w:World} {p:Place} {s:Bytes} {v:Value} (h:RepC Γ ρ bl w p (.d (.str s)) v) :v= .string ⟨s.toArray⟩:=by
 have h:Rep Γ (.str s) v:=h
 cases h;rfl
theorem rep_sl {Γ:Froz} {ρ:Nat→Role} {bl:Nat→Nat} {w:World} {p:Place} {c:CV} {v:Value} {z:Nat} {l:List D} (h:RepC Γ ρ bl w p c v) (hc:c.slz=some (z,l)) :Rep Γ (.slice z l) v:=by
 cases c with
 | d x=>
  cases x<;>simp [CV.slz] at hc
  ·obtain ⟨rfl,rfl⟩:=hc;exact h
  ·obtain ⟨rfl,rfl⟩:=hc
   have h:Rep Γ _ v:=h
   cases h;exact .nil _
 | own z' l'=>simp [CV.slz] at hc;obtain ⟨rfl,rfl⟩:=hc;exact Own.rep h
 | _=>simp [CV.slz] at hc
theorem sl_len {Γ:Froz} {ρ:Nat→Role} {bl:Nat→Nat} {w:World} {p:Place} {c:CV} {v:Value} {l:List D} (h:RepC Γ ρ bl w p c v) (hc:c.sl=some l) : ∃a n,v= .slice a l.length n:=by
 cases c with
 | d x=>
  cases x<;>simp [CV.sl] at hc
  ·subst hc
   have h:Rep Γ _ v:=h
   cases h
   ·exact ⟨none,0,rfl⟩
   ·exact ⟨_,_,rfl⟩
   ·exact ⟨_,_,rfl⟩
  ·subst hc
   have h:Rep Γ _ v:=h
   cases h
   exact ⟨none,0,rfl⟩
 | own z' l'=>
  simp [CV.sl] at hc;subst hc
  have h:=Own.rep h
  cases h
  ·exact ⟨none,0,rfl⟩
  ·exact ⟨_,_,rfl⟩
  ·exact ⟨_,_,rfl⟩
 | nils=>simp [CV.sl] at hc;subst hc;exact ⟨none,0,h⟩
 | _=>simp [CV.sl] at hc
theorem g_pick {x y z:Operand} {ax ay az:AX} (ho:o.op= .pick x y z) (hx:trX x=some ax) (hy:trX y=some ay) (hz:trX z=some az) :Good P o ((AI.pick ax ay az).pm C okr okw o.dst):=by
 intro Γ ρ bl st a w h hgz hd K hw Q
 simp only [AI.pm] at hw
 rw [ev_wp,ev_wp,ev_wp] at hw
 split at hw
 ·rename_i t ht
  have e:=rep_ax hx h
  rw [boolOf_eq ht] at e
  have e:=rep_bool e
  cases t with
  | true=>exact good_same (p:= .s 0) h hd (by simp [execOp,ho,e,asBool]) (rep_ax hy h).copy (copy_noOwn _) (fun b hb=>ment_ax hy h (copy_ment hb)) hw
  | false=>exact good_same (p:= .s 0) h hd (by simp [execOp,ho,e,asBool]) (rep_ax hz h).copy (copy_noOwn _) (fun b hb=>ment_ax hz h (copy_ment hb)) hw
 ·exact hw.elim
theorem good_data {c:D} {K:St→Prop} {Γ:Froz} {ρ:Nat→Role} {bl:Nat→Nat} {st:St} {a:Act} {w:World} {v:Value} {Q:Exit→Act→World→Prop}
  (h:SR Γ ρ bl st a.tmps w) (hd:a.defers= []) (hrun:(execOp a.eval o).run P w= .ok (.value v) w) (hc:Rep Γ c v)
  (hw:(setD o.dst (.d c)).wp K st) :o.wp P a w (fun a' w'=>a'.defers= []∧After K Γ ρ bl w st a'.tmps w') Q:=
 good_same (p:= .s 0) (c:= .d c) h hd hrun hc rfl (fun b hb=>hb.elim) hw
theorem toList_mk (s:Bytes) :(⟨s.toArray⟩ :ByteArray).toList=s:=by
 rw [ByteArray.toList_eq]
theorem size_mk (s:Bytes) :(⟨s.toArray⟩ :ByteArray).size=s.length:=by
 show s.toArray.size=_;simp
theorem append_mk (s t:Bytes) :(⟨s.toArray⟩ :ByteArray) ++ ⟨t.toArray⟩ = ⟨(s++t).toArray⟩:=by
 have h: ∀x y:ByteArray,x.data=y.data→x=y:=fun x y h=>by cases x;cases y;simp_all
 apply h
 rw [ByteArray.data_append]
 simp
def valD:D→Value
 | .int k n=> .int k n
 | .bool b=> .bool b
 | .str s=> .string ⟨s.toArray⟩
 | _=>undef
theorem run_intInt (op:BinOp) (t:TypeId) (k k':IntKind) (a b:Int) {r:D} (hr:binD op (.int k a) (.int k' b) =some r) (w:World) :
  (binOp op t (.int k a) (.int k' b)).run P w= .ok (valD r) w∧∀Γ,Rep Γ r (valD r):=by
 have key:r= .bool true∨r= .bool false∨(∃n,r= .int k n)→∀Γ,Rep Γ r (valD r):=by
  rintro (rfl | rfl | ⟨n,rfl⟩) Γ
  ·exact .bool _
  ·exact .bool _
  ·exact .int _ _
 cases op<;>simp only [binD] at hr<;>(try split at hr)<;>(try (split at hr))<;>(try cases hr)<;>(try (rename_i e;subst e))<;>refine ⟨?_,key ?_⟩
 all_goals first
  | exact .inr (.inr ⟨_,rfl⟩)
  | (show D.bool _=_∨D.bool _=_∨_;simp only [D.bool.injEq];first | exact (Bool.eq_false_or_eq_true _).imp id .inl)
  | (simp only [binOp,ne_eq,not_true_eq_false,if_false];first | rfl | (simp only [Op.shift,Op.intDiv, *,if_false];rfl))
theorem run_strStr (op:BinOp) (t:TypeId) (a b:Bytes) {r:D} (hr:binD op (.str a) (.str b) =some r) (hq:binReq op (.str a) (.str b)) (w:World) :
  (binOp op t (.string ⟨a.toArray⟩) (.string ⟨b.toArray⟩)).run P w= .ok (valD r) w∧∀Γ,Rep Γ r (valD r):=by
 cases op<;>simp only [binD] at hr<;>(try cases hr)
 case add=>
  simp only [binReq] at hq
  refine ⟨?_,fun Γ=> .str _⟩
  simp only [binOp,Op.stringOp,size_mk]
  rw [if_neg (by omega),append_mk]
  rfl
 all_goals exact ⟨by simp only [binOp,Op.stringOp,toList_mk];rfl,fun Γ=> .bool _⟩
end B
end Go.Proofs.YtmkkljbfmdngfaaGreatDoor
namespace Go.Proofs.YtmkkljbfmdngfaaGreatDoor
namespace B
open Go.RowKit
variable {P:Program} {C:CallRel} {okr okw:Nat→Bool} {o:Oper}
theorem eqGuard_run {op:BinOp} {t:TypeId} {x y:Operand} {u v:Value} (w:World) (h1: ∀cs,u≠ .agg cs) (h2:u≠ .nilIface) :(eqGuard op t x y u v).run P w= .ok () w:=by
 unfold eqGuard
 cases op<;>simp<;>(cases u<;>simp at h1 h2⊢)
theorem g_bin {x y:Operand} {ax ay:AX} {op:BinOp} {t t':TypeId} (bo:Bool) (ho:o.op= .binOp op t x y t') (hx:trX x=some ax) (hy:trX y=some ay)
  (ht:bo=true→P.underlying t=some .bool) :Good P o ((AI.bin bo op ax ay).pm C okr okw o.dst):=by
 intro Γ ρ bl st a w h hgz hd K hw Q
 simp only [AI.pm] at hw
 rw [ev_wp,ev_wp] at hw
 have e1:=rep_ax hx h
 have e2:=rep_ax hy h
 revert hw e1 e2
 generalize ax.val st=p;generalize ay.val st=q;generalize ax.place=pl;generalize ay.place=pl'
 intro hw e1 e2
 split at hw
 ·rename_i p q
  split at hw
  ·rename_i r hr
   obtain ⟨⟨hb,hreq⟩,hw⟩:=hw
   have e1:Rep Γ p (a.eval x):=e1
   have e2:Rep Γ q (a.eval y):=e2
   have hrun:(binOp op t (a.eval x) (a.eval y)).run P w= .ok (valD r) w∧Rep Γ r (valD r)∧(∀cs,a.eval x≠ .agg cs)∧a.eval x≠ .nilIface:=by
    generalize a.eval x=u at e1⊢;generalize a.eval y=v at e2⊢
    cases p<;>cases q<;>simp only [binD] at hr<;>(try cases hr)<;>cases e1<;>cases e2
    ·have hty:=ht (hb.symm)
     refine ⟨?_, ?_,by simp,by simp⟩<;>cases op<;>simp at hr<;>subst hr
     ·exact run_eql_bool w t _ _ hty
     ·exact run_neq_bool w t _ _ hty
     ·exact .bool _
     ·exact .bool _
    ·exact ⟨(run_intInt op t _ _ _ _ hr w).1,(run_intInt (P:=P) op t _ _ _ _ hr w).2 Γ,by simp,by simp⟩
    ·exact ⟨(run_strStr op t _ _ hr hreq w).1,(run_strStr (P:=P) op t _ _ hr hreq w).2 Γ,by simp,by simp⟩
   exact good_data h hd (v:=valD r) (by simp [execOp,ho,Sem.run_bind,eqGuard_run w hrun.2.2.1 hrun.2.2.2,hrun.1]) hrun.2.1 hw
  ·exact hw.elim
 ·exact hw.elim
theorem g_not {x:Operand} {ax:AX} {t:TypeId} (ho:o.op= .unOp .not t x) (hx:trX x=some ax) :Good P o ((AI.not ax).pm C okr okw o.dst):=by
 intro Γ ρ bl st a w h hgz hd K hw Q
 simp only [AI.pm] at hw
 rw [ev_wp] at hw
 split at hw
 ·rename_i b hb
  have e:=rep_ax hx h
  rw [boolOf_eq hb] at e
  have e:=rep_bool e
  exact good_data h hd (v:= .bool !b) (by simp [execOp,ho,e,Op.unary]) (.bool _) hw
 ·exact hw.elim
theorem g_neg {x:Operand} {ax:AX} {t:TypeId} (ho:o.op= .unOp .neg t x) (hx:trX x=some ax) :Good P o ((AI.neg ax).pm C okr okw o.dst):=by
 intro Γ ρ bl st a w h hgz hd K hw Q
 simp only [AI.pm] at hw
 rw [ev_wp] at hw
 split at hw
 ·rename_i k n hb
  have e:=rep_ax hx h
  rw [hb] at e
  have e:=rep_int e
  exact good_data h hd (v:= .int k (k.wrap (0-n))) (by simp [execOp,ho,e,Op.unary,Op.intArith]) (.int _ _) hw
 ·exact hw.elim
theorem g_convInt {x:Operand} {ax:AX} {s t:TypeId} {k:IntKind} (ho:o.op= .convert s t x) (hs:(P.underlying s).isSome=true) (ht:P.underlying t=some (.int k)) (hx:trX x=some ax) :Good P o ((AI.convInt k ax).pm C okr okw o.dst):=by
 intro Γ ρ bl st a w h hgz hd K hw Q
 simp only [AI.pm] at hw
 rw [ev_wp] at hw
 split at hw
 ·rename_i n hb
  obtain ⟨k',hb⟩:=intOf_eq hb
  have e:=rep_ax hx h
  rw [hb] at e
  have e:=rep_int e
  obtain ⟨d,hd'⟩:=Option.isSome_iff_exists.1 hs
  exact good_data h hd (v:= .int k (k.wrap n)) (by cases d<;>simp [execOp,ho,e,convert,run_underlying hd',run_underlying ht,Conv.intToInt]) (.int _ _) hw
 ·exact hw.elim
theorem g_convId {x:Operand} {ax:AX} {s t:TypeId} (ho:o.op= .convert s t x) (hs:(P.underlying s).isSome=true) (ht:P.underlying t=some .string) (hx:trX x=some ax) :Good P o ((AI.convId ax).pm C okr okw o.dst):=by
 intro Γ ρ bl st a w h hgz hd K hw Q
 simp only [AI.pm] at hw
 rw [ev_wp] at hw
 split at hw
 ·rename_i n hb
  have e:=rep_ax hx h
  rw [hb] at e
  have e:=rep_str e
  obtain ⟨d,hd'⟩:=Option.isSome_iff_exists.1 hs
  exact good_data h hd (v:= .string ⟨n.toArray⟩) (by cases d<;>simp [execOp,ho,e,convert,run_underlying hd',run_underlying ht]) (.str _) hw
 ·exact hw.elim
theorem g_fieldA {x:Operand} {ax:AX} {t:TypeId} {i off n:Nat} (ho:o.op= .fieldAddr t x i) (hx:trX x=some ax) (fs:Array Field) (f:Field) (ti:TypeInfo)
  (ht:P.underlying t=some (.struct fs)) (hf:fs[i]? =some f) (ho2:f.offset=off) (hi:P.info? f.type=some ti) (hn:ti.size=n+1) :Good P o ((AI.fieldA off ax).pm C okr okw o.dst):=by
 intro Γ ρ bl st a w h hgz hd K hw Q
 simp only [AI.pm] at hw
 rw [ev_wp] at hw
 have e:=rep_ax hx h
 have hm:=fun b hb=>ment_ax (b:=b) hx h hb
 have hrun: ∀ad:Addr,a.eval x= .pointer (some ad)→(execOp a.eval o).run P w= .ok (.value (.pointer (some (ad.add off)))) w:=by
  intro ad he
  subst ho2
  simp [execOp,ho,Instr.fieldAt,run_underlying ht,he,Instr.sureAddr,hf,fieldPlace,sizeOf,typeInfo,hi,hn]
 split at hw
 ·rename_i b p hb
  rw [hb] at e
  have e:a.eval x= .pointer (some ⟨bl b,p,none⟩):=e
  refine good_same (p:= .s 0) h hd (hrun _ e) ?_ rfl (fun k hk=>hm k (by rw [hb];exact hk)) hw
  show Value.pointer (some _) = .pointer (some _)
  rw [Addr.add_lit']
 ·rename_i cs hb
  rw [hb] at e
  obtain ⟨ad,e,hs,hfl,hc⟩ :RepC1 Γ ρ bl w ax.place 0 (.ep cs) (a.eval x):=e
  refine good_same (p:= .s 0) (c:= .ep (cs.drop off)) h hd (hrun _ e) ⟨_,rfl,Addr.add_spot _ hs _,fun d hd=>hfl d (List.mem_of_mem_drop hd),fun k d hd=> ?_⟩ rfl (fun k hk=>hk.elim) hw
  rw [Addr.add_add _ hs]
  rw [List.getElem?_drop] at hd
  exact hc _ d hd
 ·rename_i z k i p hb
  rw [hb] at e
  obtain ⟨e,hc⟩ :RowA ρ bl z k i p (a.eval x):=e
  refine good_same (p:= .s 0) (c:= .ea z k i (p+off)) h hd (hrun _ e) ⟨?_,hc⟩ rfl (fun k hk=>hm k (by rw [hb];exact hk)) hw
  rw [Addr.add_lit',Nat.add_assoc]
 ·exact hw.elim
theorem rep_elem {Γ:Froz} {z:Nat} {l:List D} {ao:Option Addr} {len cap:Nat} (h:Rep Γ (.slice z l) (.slice ao len cap)) (j:Nat) (hj:j<l.length) :
  len=l.length∧∃a:Addr,ao=some a∧a.spot=none∧(∀d∈(l.getD j .nilp).cells,d.flat=true)∧∀k d,(l.getD j .nilp).cells[k]? =some d→∃u,Γ ((a.add (j*z)).add k) =some u∧Rep Γ d u:=by
 cases h with
 | nil=>simp at hj
 | nil0=>simp at hj
 | slice _ _ a _ vals hs hc hz hf hv hr=>
  refine ⟨rfl,a,rfl,hs,fun d hd=>hf d ?_,fun k d hd=> ?_⟩
  ·simp only [flatten,List.mem_flatMap]
   exact ⟨l.getD j .nilp,by simp [List.getD_eq_getElem?_getD,hj],hd⟩
  ·have hk:k<z:=by
    have:=hz (l.getD j .nilp) (by simp [List.getD_eq_getElem?_getD,hj])
    rw [←this];exact (List.getElem?_eq_some_iff.1 hd).1
   have:=flatten_get hz j k hk
   rw [List.getElem?_eq_getElem hj] at this
   have e:l.getD j .nilp=l[j]:=by simp [List.getD_eq_getElem?_getD,hj]
   rw [e] at hd
   simp only [Option.bind_some,hd] at this
   refine ⟨_, ?_,hr _ d this⟩
   rw [Addr.add_add _ hs];exact hv _ d this
theorem slice_form {Γ:Froz} {z:Nat} {l:List D} {v:Value} (h:Rep Γ (.slice z l) v) : ∃ao n,v= .slice ao l.length n∧l.length≤n:=by
 cases h with
 | nil=>exact ⟨none,0,rfl,Nat.le_refl _⟩
 | nil0 _ a=>exact ⟨some a,0,rfl,Nat.le_refl _⟩
 | slice _ _ a c _ hs hc=>exact ⟨some a,c,rfl,hc⟩
theorem addO_eq (o j:Nat) :addO o j=o+j:=by cases o<;>simp [addO]
theorem g_idxA {x y:Operand} {ax ay:AX} {t e:TypeId} {sz:Nat} {ti:TypeInfo} (ho:o.op= .indexAddr t x y) (hx:trX x=some ax) (hy:trX y=some ay)
  (ht:P.underlying t=some (.slice e)) (hi:P.info? e=some ti) (hsz:ti.size=sz) :Good P o ((AI.idxA sz ax ay).pm C okr okw o.dst):=by
 intro Γ ρ bl st a w h hgz hd K hw Q
 simp only [AI.pm] at hw
 rw [ev_wp,ev_wp] at hw
 split at hw
 ·rename_i z kk oo m hv
  split at hw
  ·rename_i n hn
   obtain ⟨⟨rfl,h0,h1⟩,hw⟩:=hw
   obtain ⟨k,hk⟩:=intOf_eq hn
   have e2:=rep_ax hy h
   rw [hk] at e2
   have e2:=rep_int e2
   have e1:=rep_ax hx h
   rw [hv] at e1
   rcases (e1:RowH ρ bl z kk oo m (a.eval x)) with ⟨h2,_⟩ | ⟨c,cap,e1,h2,h3,h4⟩
   ·omega
   refine good_same (p:= .s 0) (v:= .pointer (some ⟨bl kk,oo*z+n.toNat*z,none⟩)) (c:= .ea z kk (addO oo n.toNat) 0) h hd ?_ ⟨?_,cap,h3, ?_⟩ rfl (fun k hk=>ment_ax hx h (by rw [hv];exact hk)) hw
   ·simp [execOp,ho,Instr.indexAt,e1,e2,asIntOf,run_underlying ht,h0,h1,sizeOf,typeInfo,hi,hsz,Addr.add_lit']
   ·rw [addO_eq,Nat.add_mul];rfl
   ·rw [addO_eq];omega
  ·exact hw.elim
 split at hw
 ·rename_i z l n hl hn
  obtain ⟨⟨rfl,h0,h1⟩,hw⟩:=hw
  obtain ⟨k,hk⟩:=intOf_eq hn
  have e2:=rep_ax hy h
  rw [hk] at e2
  have e2:=rep_int e2
  have e1:=rep_sl (rep_ax hx h) hl
  obtain ⟨ao,c,hv,_⟩:=slice_form e1
  rw [hv] at e1
  obtain ⟨_,ad,rfl,hs,hf,hc⟩:=rep_elem e1 n.toNat (by omega)
  refine good_same (p:= .s 0) (v:= .pointer (some (ad.add (n.toNat*z)))) (c:= .ep (l.getD n.toNat .nilp).cells) h hd ?_ ⟨_,rfl,Addr.add_spot _ hs _,hf,hc⟩ rfl (fun k hk=>hk.elim) hw
  simp [execOp,ho,Instr.indexAt,hv,e2,asIntOf,run_underlying ht,h0,h1,sizeOf,typeInfo,hi,hsz]
 ·exact hw.elim
theorem g_idxS {x y:Operand} {ax ay:AX} {t:TypeId} (ho:o.op= .index t x y) (hx:trX x=some ax) (hy:trX y=some ay)
  (ht:P.underlying t=some .string) :Good P o ((AI.idxS ax ay).pm C okr okw o.dst):=by
 intro Γ ρ bl st a w h hgz hd K hw Q
 simp only [AI.pm] at hw
 rw [ev_wp,ev_wp] at hw
 split at hw
 ·rename_i s n hl hn
  obtain ⟨⟨h0,h1⟩,hw⟩:=hw
  obtain ⟨k,hk⟩:=intOf_eq hn
  have e2:=rep_ax hy h
  rw [hk] at e2
  have e2:=rep_int e2
  have e1:=rep_ax hx h
  rw [hl] at e1
  have e1:=rep_str e1
  have hlt:n.toNat<s.length:=by omega
  refine good_data (v:= .int .u8 (s.getD n.toNat 0).toNat) h hd ?_ (.int _ _) hw
  have hb:(⟨s.toArray⟩ :ByteArray)[n.toNat]? =some (s.getD n.toNat 0):=by
   rw [getElem?_pos _ _ (by show n.toNat<(⟨s.toArray⟩ :ByteArray).size;rw [size_mk];exact hlt)]
   simp [List.getD_eq_getElem?_getD,hlt]
   rfl
  simp [execOp,ho,Instr.index,e1,e2,asIntOf,run_underlying ht,h0,hb]
 ·exact hw.elim
theorem optEv_wp {x:Option AX} {k:Option CV→PM} {K:St→Prop} {st:St}:(optEv x k).wp K st↔(k (x.map (AX.val st))).wp K st:=by
 cases x with
 | none=>rfl
 | some x=>exact ev_wp
def trO:Option Operand→Option (Option AX)
 | none=>some none
 | some x=>(trX x).map some
theorem bound_rep {x:Option Operand} {ax:Option AX} (hx:trO x=some ax) {Γ:Froz} {ρ:Nat→Role} {bl:Nat→Nat} {st:St} {a:Act} {w:World} (h:SR Γ ρ bl st a.tmps w) {df:Nat} {n:Int} (hb:bound df (ax.map (AX.val st)) =some n) :
  (x=none∧n=df)∨∃k y,x=some y∧a.eval y= .int k n:=by
 cases x with
 | none=>simp only [trO,Option.some.injEq] at hx;subst hx;simp only [Option.map_none,bound,Option.some.injEq] at hb;exact .inl ⟨rfl,hb.symm⟩
 | some y=>
  simp only [trO,Option.map_eq_some_iff] at hx
  obtain ⟨ay,hy,rfl⟩:=hx
  simp only [Option.map_some,bound] at hb
  obtain ⟨k,hk⟩:=intOf_eq hb
  have e:=rep_ax hy h
  rw [hk] at e
  exact .inr ⟨k,y,rfl,rep_int e⟩
theorem run_bounds (w:World) (ρ:Operand→Value) (isS:Bool) (len cap:Nat) (lo hi:Option Operand) (i j:Int) (hl:(lo=none∧i=(0:Nat))∨∃k y,lo=some y∧ρ y= .int k i) (hh:(hi=none∧j=len)∨∃k y,hi=some y∧ρ y= .int k j)
  (h0:0≤i) (h1:i≤j) (h2:j≤cap) :(Instr.sliceBounds isS len cap (lo.map ρ) (hi.map ρ) none).run P w= .ok (i.toNat,j.toNat,cap) w:=by
 rcases hl with ⟨rfl,rfl⟩ | ⟨k,y,rfl,hk⟩<;>rcases hh with ⟨rfl,rfl⟩ | ⟨k',y',rfl,hk'⟩
 ·simp [Instr.sliceBounds]
 ·simp [Instr.sliceBounds,Instr.sliceBound,hk',asIntOf,show 0≤j by omega,h2]
 ·simp [Instr.sliceBounds,Instr.sliceBound,hk,asIntOf,h0,h1]
 ·simp [Instr.sliceBounds,Instr.sliceBound,hk,hk',asIntOf,h0,show 0≤j by omega,h2,Int.toNat_of_nonneg (show 0≤j by omega),h1]
theorem rep_cut {Γ:Froz} {z:Nat} {l:List D} {ao:Option Addr} {c:Nat} (h:Rep Γ (.slice z l) (.slice ao l.length c)) (i j:Nat) (h1:i≤j) (h2:j≤l.length) :
  Rep Γ (slD z l i j) (.slice (if c=i then ao else ao.map (·.add (i*z))) (j-i) (c-i)):=by
 have hlen:((l.take j).drop i).length=j-i:=by simp;omega
 generalize hL:l.length=L at h
 cases h with
 | nil=>
  simp only [List.length_nil,Nat.le_zero] at h2
  subst h2
  obtain rfl:i=0:=by omega
  exact .nil z
 | nil0 _ a=>
  simp only [List.length_nil,Nat.le_zero] at h2
  subst h2
  obtain rfl:i=0:=by omega
  rw [if_pos rfl]
  exact .nil0 z a
 | slice _ _ a _ vals hs hc hz hf hv hr=>
  have hz': ∀x∈(l.take j).drop i,x.cells.length=z:=fun x hx=>hz x (List.mem_of_mem_take (List.mem_of_mem_drop hx))
  have hfl:flatten ((l.take j).drop i) =((flatten l).take (j*z)).drop (i*z):=by
   rw [flatten_drop (fun x hx=>hz x (List.mem_of_mem_take hx)),flatten_take hz]
  have key: ∀a':Addr,a'.spot=none→(a'=a.add (i*z)∨j-i=0)→Rep Γ (slD z l i j) (.slice (some a') (j-i) (c-i)):=by
   intro a' hs' ha'
   have:=Rep.slice (Γ:=Γ) z ((l.take j).drop i) a' (c-i) (fun n=>vals (i*z+n)) hs' (by rw [hlen];omega) hz' (fun d hd=>hf d ?_) (fun n d hd=> ?_) (fun n d hd=> ?_)
   ·rw [hlen] at this;exact this
   ·rw [hfl] at hd;exact List.mem_of_mem_take (List.mem_of_mem_drop hd)
   ·rw [hfl,List.getElem?_drop] at hd
    rcases ha' with rfl | h0
    ·rw [Addr.add_add _ hs]
     exact hv _ d (by rw [List.getElem?_take] at hd;split at hd;exact hd;cases hd)
    ·have:(flatten ((l.take j).drop i)).length=0:=by rw [flatten_length hz',hlen,h0,Nat.zero_mul]
     rw [hfl] at this
     have h3:=(List.getElem?_eq_some_iff.1 hd).1
     simp only [List.length_drop] at this
     omega
   ·rw [hfl,List.getElem?_drop] at hd
    exact hr _ d (by rw [List.getElem?_take] at hd;split at hd;exact hd;cases hd)
  by_cases hci:c=i
  ·rw [if_pos hci]
   exact key a hs (.inr (by omega))
  ·rw [if_neg hci]
   exact key _ (Addr.add_spot _ hs _) (.inl rfl)
theorem g_slice {x:Operand} {ax:AX} {lo hi:Option Operand} {al ah:Option AX} {t e:TypeId} {sz:Nat} {ti:TypeInfo} (ho:o.op= .slice t x lo hi none) (hx:trX x=some ax) (hl:trO lo=some al) (hh:trO hi=some ah)
  (ht:P.underlying t=some (.slice e)) (hi':P.info? e=some ti) (hsz:ti.size=sz) :Good P o ((AI.slice sz ax al ah).pm C okr okw o.dst):=by
 intro Γ ρ bl st a w h hgz hd K hw Q
 simp only [AI.pm] at hw
 rw [ev_wp,optEv_wp,optEv_wp] at hw
 split at hw
 ·rename_i z kk oo m hv
  split at hw
  ·rename_i i j hbi hbj
   obtain ⟨⟨rfl,h0,h1,h2⟩,hw⟩:=hw
   have e1:=rep_ax hx h
   rw [hv] at e1
   have hm: ∀k,(CV.rs z kk (addO oo i.toNat) (j.toNat-i.toNat)).ment k→(st.bx k).isSome=true:=fun k hk=>ment_ax hx h (by rw [hv];exact hk)
   rcases (e1:RowH ρ bl z kk oo m (a.eval x)) with ⟨rfl,e1⟩ | ⟨c,cap,e1,k2,k3,k4⟩
   ·obtain ⟨ao,hv'⟩ : ∃ao,a.eval x= .slice ao 0 0:=by
     rcases e1 with e1 | ⟨ad,e1⟩
     ·exact ⟨_,e1⟩
     ·exact ⟨_,e1⟩
    have hb:=run_bounds (P:=P) w a.eval true 0 0 lo hi i j (bound_rep hl h hbi) (bound_rep hh h hbj) h0 h1 (by omega)
    have hi0:i.toNat=0:=by omega
    have hj0:j.toNat=0:=by omega
    refine good_same (p:= .s 0) (c:= .rs z kk (addO oo i.toNat) (j.toNat-i.toNat)) (v:= .slice ao 0 0) h hd ?_ (Or.inl ⟨by omega, ?_⟩) rfl hm hw
    ·rw [hi0,hj0] at hb
     simp [execOp,ho,Instr.sliceAt,Instr.slice,run_underlying ht,hv',hb,sizeOf,typeInfo,hi',hsz]
    ·cases ao with
     | none=>exact .inl rfl
     | some ad=>exact .inr ⟨ad,rfl⟩
   ·have hb:=run_bounds (P:=P) w a.eval true m c lo hi i j (bound_rep hl h hbi) (bound_rep hh h hbj) h0 h1 (by omega)
    refine good_same (p:= .s 0) (c:= .rs z kk (addO oo i.toNat) (j.toNat-i.toNat)) (v:= .slice (if c=i.toNat then some ⟨bl kk,oo*z,none⟩ else some ⟨bl kk,oo*z+i.toNat*z,none⟩) (j.toNat-i.toNat) (c-i.toNat)) h hd ?_ ?_ rfl hm hw
    ·by_cases hci:c=i.toNat
     ·subst hci
      simp [execOp,ho,Instr.sliceAt,Instr.slice,run_underlying ht,e1,hb,sizeOf,typeInfo,hi',hsz]
     ·simp [execOp,ho,Instr.sliceAt,Instr.slice,run_underlying ht,e1,hb,sizeOf,typeInfo,hi',hsz,hci,Addr.add_lit']
    ·by_cases hci:c=i.toNat
     ·rw [if_pos hci]
      refine Or.inl ⟨by omega, .inr ⟨⟨bl kk,oo*z,none⟩, ?_⟩⟩
      rw [show j.toNat-i.toNat=0 by omega,show c-i.toNat=0 by omega]
     ·rw [if_neg hci]
      exact Or.inr ⟨c-i.toNat,cap,by rw [addO_eq,Nat.add_mul],by omega,k3,by rw [addO_eq];omega⟩
  ·exact hw.elim
 split at hw
 ·rename_i z xs hxs
  split at hw
  ·rename_i i j hbi hbj
   obtain ⟨⟨rfl,h0,h1,h2⟩,hw⟩:=hw
   have e1:=rep_sl (rep_ax hx h) hxs
   obtain ⟨ao,c,hv,hlc⟩:=slice_form e1
   rw [hv] at e1
   have hb:=run_bounds (P:=P) w a.eval true xs.length c lo hi i j (bound_rep hl h hbi) (bound_rep hh h hbj) h0 h1 (by omega)
   refine good_data (v:= .slice (if c=i.toNat then ao else ao.map (·.add (i.toNat*z))) (j.toNat-i.toNat) (c-i.toNat)) h hd ?_ (rep_cut e1 i.toNat j.toNat (by omega) (by omega)) hw
   simp [execOp,ho,Instr.sliceAt,Instr.slice,run_underlying ht,hv,hb,sizeOf,typeInfo,hi',hsz]
  ·exact hw.elim
 ·exact hw.elim
theorem g_sliceS {x:Operand} {ax:AX} {lo hi:Option Operand} {al ah:Option AX} {t:TypeId} (ho:o.op= .slice t x lo hi none) (hx:trX x=some ax) (hl:trO lo=some al) (hh:trO hi=some ah)
  (ht:P.underlying t=some .string) :Good P o ((AI.sliceS ax al ah).pm C okr okw o.dst):=by
 intro Γ ρ bl st a w h hgz hd K hw Q
 simp only [AI.pm] at hw
 rw [ev_wp,optEv_wp,optEv_wp] at hw
 split at hw
 ·rename_i s hs
  split at hw
  ·rename_i i j hbi hbj
   obtain ⟨⟨h0,h1,h2⟩,hw⟩:=hw
   have e1:=rep_ax hx h
   rw [hs] at e1
   have e1:=rep_str e1
   have hb:=run_bounds (P:=P) w a.eval false s.length s.length lo hi i j (bound_rep hl h hbi) (bound_rep hh h hbj) h0 h1 h2
   have hx:(⟨s.toArray⟩ :ByteArray).extract i.toNat j.toNat= ⟨((s.take j.toNat).drop i.toNat).toArray⟩:=by
    have hh: ∀x y:ByteArray,x.data=y.data→x=y:=fun x y h=>by cases x;cases y;simp_all
    apply hh
    rw [ByteArray.data_extract]
    apply Array.ext'
    rw [Array.toList_extract]
    simp only [List.extract_eq_take_drop,List.drop_take]
   refine good_data (v:= .string ⟨((s.take j.toNat).drop i.toNat).toArray⟩) h hd ?_ (.str _) hw
   simp [execOp,ho,Instr.sliceAt,Instr.slice,run_underlying ht,e1,hb,size_mk,hx]
  ·exact hw.elim
 ·exact hw.elim
theorem g_slice0 {x:Operand} {ax:AX} {t e:TypeId} {sz:Nat} {ti:TypeInfo} {k1 k2:IntKind} (ho:o.op= .slice t x none (some (.const (.int k1 0))) (some (.const (.int k2 0)))) (hx:trX x=some ax)
  (ht:P.underlying t=some (.slice e)) (hi':P.info? e=some ti) :Good P o ((AI.slice0 sz ax).pm C okr okw o.dst):=by
 intro Γ ρ bl st a w h hgz hd K hw Q
 simp only [AI.pm] at hw
 rw [ev_wp] at hw
 split at hw
 ·rename_i zx hxs
  obtain ⟨z,xs⟩:=zx
  have e1:=rep_sl (rep_ax hx h) hxs
  obtain ⟨ao,c,hv,hlc⟩:=slice_form e1
  have hrun:(execOp a.eval o).run P w= .ok (.value (.slice ao 0 0)) w:=by
   have hc: ∀v,a.eval (.const v) =v:=fun _=>rfl
   simp [execOp,ho,Instr.sliceAt,Instr.slice,run_underlying ht,hv,hc,Instr.sliceBounds,Instr.sliceBound,asIntOf,sizeOf,typeInfo,hi']
  have how: ∀d,Own Γ ρ w (.s d) 0 sz [] (.slice ao 0 0):=by
   intro d
   cases ao with
   | none=>exact .inl ⟨0,[],rowS_nil w 0 sz,⟨by simp,by simp [flatten],rfl,by simp [flatten]⟩,by simp [Value.ownBlock]⟩
   | some ad=>exact .inr ⟨rfl,ad,rfl⟩
  unfold Oper.wp;rw [hrun]
  obtain ⟨st',hK,hs⟩:=setD_sound h (dst:=o.dst) (c:= .own sz []) (v:= .slice ao 0 0) (fun d' _=>how d') (fun b hb=>hb.elim) hw
  exact ⟨by rw [put_defers];exact hd,Γ,ρ,bl,st',hK,by rw [put_tmps];exact hs, .refl _ _ _,fun _ _=>rfl⟩
 ·exact hw.elim
theorem g_len {x:Operand} {ax:AX} {t e:TypeId} (ho:o.op= .call {callee:= .builtin .len,args:= #[x],argTypes:= #[t]}) (hx:trX x=some ax)
  (ht:P.underlying t=some (.slice e)) :Good P o ((AI.len ax).pm C okr okw o.dst):=by
 intro Γ ρ bl st a w h hgz hd K hw Q
 simp only [AI.pm] at hw
 rw [ev_wp] at hw
 split at hw
 ·rename_i z kk oo m hv
  have e1:=rep_ax hx h
  rw [hv] at e1
  have: ∃ao c,a.eval x= .slice ao m c:=by
   rcases (e1:RowH ρ bl z kk oo m (a.eval x)) with ⟨rfl,e1⟩ | ⟨c,cap,e1,k2,k3,k4⟩
   ·rcases e1 with e1 | ⟨ad,e1⟩
    ·exact ⟨_,_,e1⟩
    ·exact ⟨_,_,e1⟩
   ·exact ⟨_,_,e1⟩
  obtain ⟨ao,c,hv'⟩:=this
  exact good_data (v:= .int .i64 m) h hd (by simp [execOp,ho,resolve,invoke,builtin,Builtin.len_,run_underlying ht,hv',goInt]) (.int _ _) hw
 split at hw
 ·rename_i l hl
  obtain ⟨ad,n,hv⟩:=sl_len (rep_ax hx h) hl
  exact good_data (v:= .int .i64 l.length) h hd (by simp [execOp,ho,resolve,invoke,builtin,Builtin.len_,run_underlying ht,hv,goInt]) (.int _ _) hw
 ·exact hw.elim
theorem g_lenS {x:Operand} {ax:AX} {t:TypeId} (ho:o.op= .call {callee:= .builtin .len,args:= #[x],argTypes:= #[t]}) (hx:trX x=some ax)
  (ht:P.underlying t=some .string) :Good P o ((AI.lenS ax).pm C okr okw o.dst):=by
 intro Γ ρ bl st a w h hgz hd K hw Q
 simp only [AI.pm] at hw
 rw [ev_wp] at hw
 split at hw
 ·rename_i s hs
  have e:=rep_ax hx h
  rw [hs] at e
  have e:=rep_str e
  exact good_data (v:= .int .i64 s.length) h hd (by simp [execOp,ho,resolve,invoke,builtin,Builtin.len_,run_underlying ht,e,goInt,size_mk]) (.int _ _) hw
 ·exact hw.elim
theorem g_nilCk {x:Operand} {ax:AX} (ho:o.op= .nilCheck x) (hx:trX x=some ax) :Good P o ((AI.nilCk ax).pm C okr okw o.dst):=by
 intro Γ ρ bl st a w h hgz hd K hw Q
 simp only [AI.pm] at hw
 rw [ev_wp] at hw
 have e:=rep_ax hx h
 have hm:=fun b hb=>ment_ax (b:=b) hx h hb
 split at hw
 ·rename_i b p hb
  rw [hb] at e hm
  have e':a.eval x= .pointer (some ⟨bl b,p,none⟩):=e
  exact good_same (c:= .ptr b p) h hd (v:=a.eval x) (by simp [execOp,ho,e']) e rfl hm hw
 ·rename_i cs hb
  rw [hb] at e hm
  obtain ⟨ad,e',_⟩:=id e
  exact good_same (c:= .ep cs) h hd (v:=a.eval x) (by simp [execOp,ho,e']) e rfl hm hw
 ·rename_i f cs hb
  rw [hb] at e hm
  have e':a.eval x= .func (.func f) #[] _:=e
  exact good_same (c:= .fn f cs) h hd (v:=a.eval x) (by simp [execOp,ho,e']) e rfl hm hw
 ·rename_i f hb
  rw [hb] at e hm
  have e1:Rep Γ (.fn (some f)) (a.eval x):=e
  have e':a.eval x= .func (.func f) #[] #[]:=by
   generalize a.eval x=u at e1
   cases e1;rfl
  exact good_same (c:= .d (.fn (some f))) h hd (v:=a.eval x) (by simp [execOp,ho,e']) e rfl hm hw
 ·rename_i z k i p hb
  rw [hb] at e hm
  obtain ⟨e',_⟩ :RowA ρ bl z k i p (a.eval x):=id e
  exact good_same (c:= .ea z k i p) h hd (v:=a.eval x) (by simp [execOp,ho,e']) e rfl hm hw
 ·exact hw.elim
theorem g_ptrNil {x y:Operand} {ax:AX} {t t' e:TypeId} (ng:Bool) (ho:o.op= .binOp (if ng then .neq else .eql) t x y t') (hy:y= .const (.pointer none)) (hx:trX x=some ax) (ht:P.underlying t=some (.pointer e)) :
  Good P o ((AI.ptrNil ng ax).pm C okr okw o.dst):=by
 subst hy
 intro Γ ρ bl st a w h hgz hd K hw Q
 simp only [AI.pm] at hw
 rw [ev_wp] at hw
 have e1:=rep_ax hx h
 have ht':P.underlying t=some (.pointer (P.pointee t)):=by rw [ht];simp [Program.pointee,ht]
 have hrun: ∀p:Option Addr,a.eval x= .pointer p→(execOp a.eval o).run P w= .ok (.value (.bool (p.isNone !=ng))) w:=by
  intro p hp
  have hg:=fun op=>eqGuard_run (P:=P) (op:=op) (t:=t) (x:=x) (y:= .const (.pointer none)) (u:= .pointer p) (v:= .pointer none) w (by simp) (by simp)
  have hc: ∀v,a.eval (.const v) =v:=fun _=>rfl
  cases ng
  ·simp only [execOp,ho,hp,hc,Sem.run_bind,Bool.false_eq_true,if_false,hg,Result.andThen_ok,run_eql_pointer_nil w t p ht']
   simp
  ·simp only [execOp,ho,hp,hc,Sem.run_bind,if_true,hg,Result.andThen_ok,run_neq_pointer_nil w t p ht']
   simp
 split at hw
 ·rename_i b p hb
  rw [hb] at e1
  exact good_data h hd (hrun _ e1) (by simp;exact .bool _) hw
 ·rename_i cs hb
  rw [hb] at e1
  obtain ⟨ad,e',_⟩:=e1
  exact good_data h hd (hrun _ e') (by simp;exact .bool _) hw
 ·rename_i z k i p hb
  rw [hb] at e1
  obtain ⟨e',_⟩ :RowA ρ bl z k i p (a.eval x):=e1
  exact good_data h hd (hrun _ e') (by simp;exact .bool _) hw
 ·rename_i hb
  rw [hb] at e1
  have e1:Rep Γ .nilp (a.eval x):=e1
  generalize hu:a.eval x=u at e1
  cases e1
  exact good_data h hd (hrun _ hu) (by simp;exact .bool _) hw
 ·exact hw.elim
theorem g_slNil {x y:Operand} {ax:AX} {t t' e:TypeId} (ng:Bool) (ho:o.op= .binOp (if ng then .neq else .eql) t x y t') (hy:y= .const (.slice none 0 0)) (hx:trX x=some ax) (ht:P.underlying t=some (.slice e)) :
  Good P o ((AI.slNil ng ax).pm C okr okw o.dst):=by
 subst hy
 intro Γ ρ bl st a w h hgz hd K hw Q
 simp only [AI.pm] at hw
 rw [ev_wp] at hw
 have hrun: ∀(p:Option Addr) (l c:Nat),a.eval x= .slice p l c→(execOp a.eval o).run P w= .ok (.value (.bool (p.isNone !=ng))) w:=by
  intro p l c hp
  have hg:=fun op=>eqGuard_run (P:=P) (op:=op) (t:=t) (x:=x) (y:= .const (.slice none 0 0)) (u:= .slice p l c) (v:= .slice none 0 0) w (by simp) (by simp)
  have he:(Op.equal t (.slice p l c) (.slice none 0 0)).run P w= .ok p.isNone w:=run_equal_slice_nil w t e p l c ht
  have hc: ∀v,a.eval (.const v) =v:=fun _=>rfl
  cases ng
  ·simp only [execOp,ho,hp,hc,Sem.run_bind,Bool.false_eq_true,if_false,hg,Result.andThen_ok]
   simp [binOp,he]
  ·simp only [execOp,ho,hp,hc,Sem.run_bind,if_true,hg,Result.andThen_ok]
   simp [binOp,he]
 have key: ∀z l,Rep Γ (.slice z l) (a.eval x)→(PM.all fun b=>setD o.dst (.d (.bool ((b&&l.isEmpty) !=ng)))).wp K st→o.wp P a w (fun a' w'=>a'.defers= []∧After K Γ ρ bl w st a'.tmps w') Q:=by
  intro z l e1 hw
  obtain ⟨ao,c,hv,_⟩:=slice_form e1
  have hw':=hw ao.isNone
  cases ao with
  | none=>
   rw [hv] at e1
   have hl:l= []:=by
    generalize hL:l.length=L at e1
    cases e1;rfl
   subst hl
   simp only [Option.isNone_none,List.isEmpty_nil,Bool.and_self] at hw'
   exact good_data h hd (hrun _ _ _ hv) (by simp only [Option.isNone_none];exact .bool _) hw'
  | some ad=>
   simp only [Option.isNone_some,Bool.false_and] at hw'
   exact good_data h hd (hrun _ _ _ hv) (by simp only [Option.isNone_some];exact .bool _) hw'
 have e1:=rep_ax hx h
 split at hw
 ·rename_i z l hb
  rw [hb] at e1
  exact key z l e1 hw
 ·rename_i z l hb
  rw [hb] at e1
  exact key z l (Own.rep e1) hw
 ·rename_i hb
  rw [hb] at e1
  have hv:a.eval x= .slice none 0 0:=e1
  exact good_data h hd (hrun _ _ _ hv) (by simp;exact .bool _) hw
 ·rename_i z hb
  rw [hb] at e1
  have hv:a.eval x= .slice none 0 0:=by
   have e1:Rep Γ (.nils z) (a.eval x):=e1
   generalize a.eval x=u at e1
   cases e1;rfl
  exact good_data h hd (hrun _ _ _ hv) (by simp;exact .bool _) hw
 ·rename_i z kk oo m hb
  rw [hb] at e1
  rcases (e1:RowH ρ bl z kk oo m (a.eval x)) with ⟨rfl,e1⟩ | ⟨c,cap,e1,k2,k3,k4⟩
  ·rcases e1 with e1 | ⟨ad,e1⟩
   ·have hw:=hw true
    exact good_data h hd (hrun _ _ _ e1) (by simp;exact .bool _) hw
   ·have hw:=hw false
    exact good_data h hd (hrun _ _ _ e1) (by simp;exact .bool _) hw
  ·have hw:=hw false
   exact good_data h hd (hrun _ _ _ e1) (by simp;exact .bool _) hw
 ·exact hw.elim
end B
end Go.Proofs.YtmkkljbfmdngfaaGreatDoor
namespace Go.Proofs.YtmkkljbfmdngfaaGreatDoor
namespace B
open Go.RowKit
variable {P:Program} {C:CallRel} {okr okw:Nat→Bool} {o:Oper}
def isAggT (P:Program) (t:TypeId) :Option Bool:=match P.underlying t with
 | some (.struct _) | some (.array _ _)=>some true
 | some _=>some false
 | none=>none
theorem run_isAgg {t:TypeId} {b:Bool} (h:isAggT P t=some b) (w:World) :(isAgg t).run P w= .ok b w:=by
 unfold isAggT at h
 cases hd:P.underlying t with
 | none=>rw [hd] at h;cases h
 | some d=>rw [hd] at h;cases d<;>simp at h<;>subst h<;>simp [isAgg,run_underlying hd]
theorem rep_asD {Γ:Froz} {ρ:Nat→Role} {bl:Nat→Nat} {w:World} {p:Place} {i:Nat} {c:CV} {v:Value} {x:D} (h:RepC1 Γ ρ bl w p i c v) (hx:c.asD=some x) :Rep Γ x v:=by
 cases c<;>simp [CV.asD] at hx
 ·subst hx;exact h
 ·subst hx;exact Own.rep h
 ·rename_i f caps
  cases caps with
  | nil=>simp at hx;subst hx;rw [show v= .func (.func f) #[] #[] from h];exact .fn f
  | cons _ _=>simp at hx
theorem allF_spec: ∀{cs:List CV} {ds:List D},allF cs=some ds→cs.length=ds.length∧(∀d∈ds,d.flat=true)∧∀(i:Nat) c d,cs[i]? =some c→ds[i]? =some d→c.asD=some d
 | [],ds,h=>by simp only [allF,Option.some.injEq] at h;subst h;simp
 | c :: r,ds,h=>by
  simp only [allF] at h
  split at h
  ·rename_i x xs hx hxs
   split at h
   ·rename_i hf
    simp only [Option.some.injEq] at h;subst h
    obtain ⟨h1,h2,h3⟩:=allF_spec hxs
    refine ⟨by simp [h1],fun d hd=> ?_,fun i c' d hc hd=> ?_⟩
    ·rcases List.mem_cons.1 hd with rfl | hd;exact hf;exact h2 d hd
    ·cases i with
     | zero=>simp at hc hd;subst hc;subst hd;exact hx
     | succ i=>exact h3 i c' d hc hd
   ·cases h
  ·cases h
theorem mkAgg_rep {Γ:Froz} {ρ:Nat→Role} {bl:Nat→Nat} {w:World} {p q:Place} {cs:List CV} {vs:List Value} (h:RepL Γ ρ bl w p cs vs) :RepC Γ ρ bl w q (mkAgg cs) (.agg vs.toArray):=by
 unfold mkAgg
 split
 ·rename_i ds hds
  obtain ⟨h1,h2,h3⟩:=allF_spec hds
  refine Rep.agg ds vs (by rw [←h1,h.1]) h2 fun i d v hd hv=> ?_
  have hi:i<cs.length:=by rw [h.1];exact (List.getElem?_eq_some_iff.1 hv).1
  exact rep_asD (h.2 i _ v (List.getElem?_eq_getElem hi) hv) (h3 i _ d (List.getElem?_eq_getElem hi) hd)
 ·exact ⟨vs,rfl,h.copy⟩
theorem mkAgg_noOwn (cs:List CV) :(mkAgg cs).noOwn=true:=by
 unfold mkAgg;split
 ·rfl
 ·simp [CV.noOwn,copy1_held]
theorem mkAgg_ment {cs:List CV} {b:Nat} (h:(mkAgg cs).ment b) : ∃c∈cs,c.ment1 b:=by
 unfold mkAgg at h;split at h
 ·exact h.elim
 ·obtain ⟨c,hc,hm⟩:=h
  rw [List.mem_map] at hc
  obtain ⟨c',hc',rfl⟩:=hc
  exact ⟨c',hc',copy1_ment1 hm⟩
theorem RepL.cut {Γ:Froz} {ρ:Nat→Role} {bl:Nat→Nat} {w:World} {p:Place} {cs:List CV} {vs:List Value} (h:RepL Γ ρ bl w p cs vs) (off n:Nat) :
  ((cs.drop off).take n).length=((vs.drop off).take n).length∧∀(i:Nat) c v,((cs.drop off).take n)[i]? =some c→((vs.drop off).take n)[i]? =some v→RepC1 Γ ρ bl w p (off+i) c v:=by
 refine ⟨by simp [h.1],fun i c v hc hv=> ?_⟩
 rw [List.getElem?_take] at hc hv
 split at hc
 ·rename_i hi
  rw [if_pos hi] at hv
  rw [List.getElem?_drop] at hc hv
  exact h.2 _ c v hc hv
 ·cases hc
theorem mkAgg_rep' {Γ:Froz} {ρ:Nat→Role} {bl:Nat→Nat} {w:World} {p q:Place} {k:Nat} {cs:List CV} {vs:List Value} (hl:cs.length=vs.length) (h: ∀(i:Nat) c v,cs[i]? =some c→vs[i]? =some v→RepC1 Γ ρ bl w p (k+i) c v) :RepC Γ ρ bl w q (mkAgg cs) (.agg vs.toArray):=by
 unfold mkAgg
 split
 ·rename_i ds hds
  obtain ⟨h1,h2,h3⟩:=allF_spec hds
  refine Rep.agg ds vs (by rw [←h1,hl]) h2 fun i d v hd hv=> ?_
  have hi:i<cs.length:=by rw [hl];exact (List.getElem?_eq_some_iff.1 hv).1
  exact rep_asD (h i _ v (List.getElem?_eq_getElem hi) hv) (h3 i _ d (List.getElem?_eq_getElem hi) hd)
 ·refine ⟨vs,rfl,by simpa using hl,fun i c v hc hv=> ?_⟩
  rw [List.getElem?_map,Option.map_eq_some_iff] at hc
  obtain ⟨c',hc',rfl⟩:=hc
  exact (h i c' v hc' hv).copy1
def isSpC:CV→Bool
 | .sp _ _=>true
 | _=>false
theorem RepC1.copyB {Γ:Froz} {ρ:Nat→Role} {bl:Nat→Nat} {w:World} {p q:Place} {i j:Nat} {c:CV} {v:Value} (h:RepC1 Γ ρ bl w p i c v) :RepC1 Γ ρ bl w q j c.copyB v:=by
 have h:=h.copy1 (q:=q) (j:=j)
 unfold CV.copyB
 split
 ·rename_i z e
  rw [e] at h
  have h:Rep Γ (.nils z) v:=h
  cases h
  exact .inl ⟨0,[],rowS_nil w 0 z,⟨by simp,by simp [flatten],rfl,by simp [flatten]⟩,by simp [Value.ownBlock]⟩
 ·exact h
theorem RepL.copyBL {Γ:Froz} {ρ:Nat→Role} {bl:Nat→Nat} {w:World} {p q:Place} {cs:List CV} {vs:List Value} (h:RepL Γ ρ bl w p cs vs) :RepL Γ ρ bl w q (cs.map CV.copyB) vs:=by
 refine ⟨by simpa using h.1,fun i c v hc hv=> ?_⟩
 rw [List.getElem?_map,Option.map_eq_some_iff] at hc
 obtain ⟨c',hc',rfl⟩:=hc
 exact (h.2 i c' v hc' hv).copyB
theorem copyB_ment1 {c:CV} {b:Nat} (h:c.copyB.ment1 b) :c.ment1 b:=by
 unfold CV.copyB at h
 split at h
 ·exact h.elim
 ·exact copy1_ment1 h
theorem copyB_sp (c:CV) :isSpC c.copyB=false:=by
 unfold CV.copyB
 split
 ·rfl
 ·cases c<;>rfl
theorem copy1_sp (c:CV) :isSpC c.copy1=false:=by cases c<;>rfl
theorem splice_sp {off:Nat} {new cs:List CV} (hn: ∀c∈new,isSpC c=false) {k t:Nat} (h:(splice off new cs)[0]? =some (.sp k t)) :cs[0]? =some (.sp k t):=by
 unfold splice at h
 cases cs with
 | nil=>
  cases new with
  | nil=>simp at h
  | cons c r=>
   simp at h;subst h
   exact absurd (hn (.sp k t) (by simp)) (by simp [isSpC])
 | cons c0 r=>
  cases off with
  | zero=>
   cases new with
   | nil=>simpa using h
   | cons c r=>
    simp at h;subst h
    exact absurd (hn (.sp k t) (by simp)) (by simp [isSpC])
  | succ off=>simpa using h
theorem SR.viewBox {Γ:Froz} {ρ:Nat→Role} {bl:Nat→Nat} {st:St} {tmps:Array Value} {w:World} (h:SR Γ ρ bl st tmps w) {b:Nat} {cs:List CV} (hcs:st.bx b=some cs) (hro:rowOf cs=none) (cs':List CV)
  (hr: ∀vs,RepL Γ ρ bl w (.b b) cs vs→RepL Γ ρ bl w (.b b) cs' vs) (hm: ∀c∈cs',∀k,c.ment1 k→(st.bx k).isSome=true)
  (hsp: ∀k t,cs'[0]? =some (.sp k t)→cs[0]? =some (.sp k t)) :
  SR Γ ρ bl (st.set (.b b) (.agg cs')) tmps w:=by
 obtain ⟨arr,e,h1,h2,h3,h4⟩:=h.boxes b cs hcs hro
 have:=(h.setBox hcs hro cs' arr (hr _ h3) hm fun k t e=> .inl (hsp k t e)).1
 rwa [setRow_self w (bl b) arr e (0,0) h1] at this
theorem get_b_agg {st:St} {b:Nat} {cs:List CV} (h:st.get (.b b) = .agg cs) :st.bx b=some cs:=by
 simp only [St.get] at h
 split at h
 ·rename_i cs' hcs;cases h;exact hcs
 ·cases h
theorem get_b_junk {st:St} {b:Nat} (h:st.get (.b b) = .junk) :st.bx b=none:=by
 simp only [St.get] at h
 split at h
 ·cases h
 ·rename_i hn;exact hn
theorem mem_drop_take {α:Type} {l:List α} {x:α} {i j:Nat} (h:x∈(l.drop i).take j) :x∈l:=List.mem_of_mem_drop (List.mem_of_mem_take h)
theorem cut_get {α:Type} {l:List α} {off n j:Nat} {v:α} (h:((l.drop off).take n)[j]? =some v) :l[off+j]? =some v:=by
 rw [List.getElem?_take] at h
 split at h
 ·rwa [List.getElem?_drop] at h
 ·cases h
theorem cell_row {w:World} {g:Nat} {arr:Array Value} {e:TypeId} {fr:Nat×Nat} (h:w.heap[g]? =some (.cells arr e fr)) (j:Nat) :w.cell? ⟨g,j,none⟩ =arr[j]? :=by simp [World.cell?,h]
theorem splice_one {off:Nat} {v:CV} {cs:List CV} (h:off<cs.length) :splice off [v] cs=cs.set off v:=by
 simp only [splice,List.length_singleton]
 rw [List.set_eq_take_append_cons_drop,if_pos h];simp
theorem get_b_row {st:St} {k z:Nat} {l:List D} (h:rowD (st.get (.b k)) =some (z,l)) : ∃cs,st.bx k=some cs∧rowOf cs=some (z,l):=by
 simp only [St.get] at h
 cases e:st.bx k with
 | none=>rw [e] at h;cases h
 | some cs=>rw [e] at h;exact ⟨cs,rfl,h⟩
theorem SR.real {Γ:Froz} {ρ:Nat→Role} {bl:Nat→Nat} {st:St} {tmps:Array Value} {w:World} (h:SR Γ ρ bl st tmps w) {k sz cap:Nat} {cs:List CV} {l:List D} (hbx:st.bx k=some cs) (hro:rowOf cs=some (sz,l)) (hr:ρ (bl k) = .row k sz cap) :
  ∃arr e fz,w.heap[bl k]? =some (.cells arr e fz)∧OkFz fz arr.size∧arr.size=cap*sz∧cap≤maxLen∧l.length≤cap∧RepF Γ sz l (arr.toList.take (l.length*sz))∧∀o,Γ ⟨bl k,o,none⟩ =none:=by
 obtain ⟨arr,e,fz,q1,q2,q3,q4,q5⟩:=h.rowk _ _ _ _ hr
 rcases h.rows k cs sz l hbx hro with rfl | ⟨arr',e',fz',cap',h1,h3,h6,h7⟩
 ·exact ⟨arr,e,fz,q1,q2,q3,q4,Nat.zero_le _,⟨by simp,by simp [flatten],by simp [flatten],by simp [flatten]⟩,q5⟩
 ·rw [q1] at h1;cases h1
  rw [hr] at h3
  injection h3 with _ _ h3
  subst h3
  exact ⟨arr,e,fz,q1,q2,q3,q4,h6,h7,q5⟩
theorem RepF.elem {Γ:Froz} {sz:Nat} {l:List D} {vs:List Value} (r:RepF Γ sz l vs) {i j:Nat} (hi:i<l.length) (hj:j<sz) : ∃u,vs[i*sz+j]? =some u∧Rep Γ ((l.getD i .nilp).cells.getD j .nilp) u∧((l.getD i .nilp).cells.getD j .nilp).flat=true:=by
 have e:l.getD i .nilp=l[i]:=by simp [List.getD_eq_getElem?_getD,hi]
 have hl:=r.uni l[i] (List.getElem_mem hi)
 have h1:=flatten_get r.uni i j hj
 have hjc:j<l[i].cells.length:=by omega
 rw [List.getElem?_eq_getElem hi,Option.bind_some,List.getElem?_eq_getElem hjc] at h1
 have e2:l[i].cells.getD j .nilp=l[i].cells[j]:=by simp [List.getD_eq_getElem?_getD,hjc]
 rw [e,e2]
 have hlt:i*sz+j<vs.length:=by rw [←r.len];exact (List.getElem?_eq_some_iff.1 h1).1
 exact ⟨vs[i*sz+j],List.getElem?_eq_getElem hlt,r.rep _ _ _ h1 (List.getElem?_eq_getElem hlt),r.flat _ (List.mem_of_getElem? h1)⟩
theorem row_cell {Γ:Froz} {w:World} {g sz:Nat} {l:List D} {arr:Array Value} {e:TypeId} {fz:Nat×Nat} (h1:w.heap[g]? =some (.cells arr e fz)) (r:RepF Γ sz l (arr.toList.take (l.length*sz))) {i j:Nat} (hi:i<l.length) (hj:j<sz) :
  ∃u,w.cell? ⟨g,i*sz+j,none⟩ =some u∧Rep Γ ((l.getD i .nilp).cells.getD j .nilp) u∧((l.getD i .nilp).cells.getD j .nilp).flat=true:=by
 obtain ⟨u,hu,h2,h3⟩:=r.elem hi hj
 refine ⟨u, ?_,h2,h3⟩
 rw [cell_row h1]
 rw [List.getElem?_take] at hu
 split at hu
 ·simpa using hu
 ·cases hu
theorem el_len {Γ:Froz} {sz:Nat} {l:List D} {vs:List Value} (r:RepF Γ sz l vs) {i:Nat} (hi:i<l.length) :(l.getD i .nilp).cells.length=sz:=by
 have e:l.getD i .nilp=l[i]:=by simp [List.getD_eq_getElem?_getD,hi]
 rw [e];exact r.uni l[i] (List.getElem_mem hi)
theorem freezeRow_none {Γ:Froz} {g:Nat} (vs:List Value) (h: ∀o,Γ ⟨g,o,none⟩ =none) :Le Γ (freezeRow Γ g vs):=freezeRow_le (vs:=[]) (fun o=>by rw [h o];rfl) (by simp)
theorem row_rep {Γ:Froz} {ρ:Nat→Role} {bl:Nat→Nat} {k z o n:Nat} {l:List D} {vs:List Value} {v:Value} (hv:RowH ρ bl z k o n v) (hΓ: ∀o,Γ ⟨bl k,o,none⟩ =none) (r:RepF Γ z l vs) (hn:o+n≤l.length) :
  Rep (freezeRow Γ (bl k) vs) (.slice z ((l.drop o).take n)) v:=by
 have hle:=freezeRow_none vs hΓ
 rcases hv with ⟨rfl,hv⟩ | ⟨c,cap,rfl,h2,_,_⟩
 ·rw [List.take_zero]
  rcases hv with rfl | ⟨a,rfl⟩
  ·exact .nil z
  ·exact .nil0 z a
 have hL:((l.drop o).take n).length=n:=by simp;omega
 have huni: ∀x∈l.drop o,x.cells.length=z:=fun x hx=>r.uni x (List.mem_of_mem_drop hx)
 have hfl:flatten ((l.drop o).take n) =((flatten l).drop (o*z)).take (n*z):=by rw [flatten_take huni,flatten_drop r.uni]
 have key:=Rep.slice (Γ:=freezeRow Γ (bl k) vs) z ((l.drop o).take n) ⟨bl k,o*z,none⟩ c (fun i=>vs.getD (o*z+i) undef) rfl (by omega) (fun x hx=>huni x (List.mem_of_mem_take hx)) (fun d hd=> ?_) (fun i d hd=> ?_) (fun i d hd=> ?_)
 ·rw [hL] at key;exact key
 ·rw [hfl] at hd;exact r.flat d (List.mem_of_mem_drop (List.mem_of_mem_take hd))
 ·rw [hfl] at hd
  have h5:=cut_get hd
  have hlt:o*z+i<vs.length:=by rw [←r.len];exact (List.getElem?_eq_some_iff.1 h5).1
  rw [Addr.add_lit',freezeRow_at]
  simp [List.getD_eq_getElem?_getD,hlt]
 ·rw [hfl] at hd
  have h5:=cut_get hd
  have hlt:o*z+i<vs.length:=by rw [←r.len];exact (List.getElem?_eq_some_iff.1 h5).1
  refine (r.rep _ d _ h5 ?_).mono hle
  simp [List.getD_eq_getElem?_getD,hlt]
theorem row_agree {Γ:Froz} {w:World} {g:Nat} {vs:List Value} {arr:Array Value} {e:TypeId} {fz:Nat×Nat} (h: ∀a v,Γ a=some v→w.cell? a=some v) (h1:w.heap[g]? =some (.cells arr e fz)) (hp: ∀(i:Nat) u,vs[i]? =some u→arr[i]? =some u) :
  ∀a v,freezeRow Γ g vs a=some v→w.cell? a=some v:=by
 intro a v ha
 unfold freezeRow at ha
 split at ha
 ·rename_i hc
  rw [Addr.eq_lit a hc.2,hc.1,cell_row h1]
  exact hp _ _ ha
 ·exact h a v ha
theorem take_arr {arr:Array Value} {n i:Nat} {u:Value} (h:(arr.toList.take n)[i]? =some u) :arr[i]? =some u:=by
 rw [List.getElem?_take] at h
 split at h
 ·simpa using h
 ·cases h
theorem g_load {x:Operand} {ax:AX} {t:TypeId} {ag:Bool} {n:Nat} {ti:TypeInfo} (xf:Bool) (ho:o.op= .load t x) (hx:trX x=some ax) (hag:isAggT P t=some ag) (hi:P.info? t=some ti) (hn:ti.size=n) (hag1:ag=false→n=1) :
  Good P o ((AI.load ag n ax xf).pm C okr okw o.dst):=by
 intro Γ ρ bl st a w h hgz hd K hw Q
 simp only [AI.pm] at hw
 rw [ev_wp] at hw
 have e:=rep_ax hx h
 split at hw
 ·rename_i b off hb
  rw [hb] at e
  have e:a.eval x= .pointer (some ⟨bl b,off,none⟩):=e
  split at hw
  ·change (match st.get (.b b) with | .agg cs=>_ | _=>PM.fail).wp K st at hw
   split at hw
   ·rename_i cs hcs
    have hbx:=get_b_agg hcs
    obtain ⟨⟨hlen,hro⟩,hw⟩:=hw
    obtain ⟨arr,ety,h1,h2,h3,h4⟩:=h.boxes b cs hbx hro
    have hal:arr.toList.length=cs.length:=h3.1.symm
    cases ag with
    | true=>
     simp only [if_true] at hw
     have hrun:(execOp a.eval o).run P w= .ok (.value (.agg ((arr.toList.drop off).take n).toArray)) w:=by
      have hl:((arr.toList.drop off).take n).length=n:=by simp;simp at hal;omega
      have:=run_loadCells_list (P:=P) w ⟨bl b,off,none⟩ ((arr.toList.drop off).take n) (fun j v hj=>by
       rw [Addr.add_lit',cell_row h1,←Array.getElem?_toList];exact cut_get hj)
      rw [hl] at this
      simp [execOp,ho,Instr.loadAt,e,Instr.sureAddr,loadVar,run_isAgg hag,sizeOf,typeInfo,hi,hn,this]
     obtain ⟨k1,k2⟩:=h3.cut off n
     exact good_same (p:= .s 0) h hd hrun (mkAgg_rep' k1 k2) (mkAgg_noOwn _) (fun k hk=>by
      obtain ⟨c,hc,hm⟩:=mkAgg_ment hk
      exact h.closed (.b b) k (by rw [St.get_bx hbx];exact ⟨c,mem_drop_take hc,hm⟩)) hw
    | false=>
     obtain rfl:=hag1 rfl
     have hoff:off<arr.size:=by simp at hal;omega
     have hc:cs[off]? =some (cs.getD off .junk):=by
      have:off<cs.length:=by simp at hal;omega
      simp [List.getD_eq_getElem?_getD,this]
     have hr:=h3.2 off _ arr[off] hc (by simp [hoff])
     have hrun:(execOp a.eval o).run P w= .ok (.value arr[off]) w:=by
      simp [execOp,ho,Instr.loadAt,e,Instr.sureAddr,loadVar,run_isAgg hag,cell_row h1,hoff]
     have hment: ∀k,(cs.getD off .junk).ment1 k→(st.bx k).isSome=true:=fun k hk=>h.closed (.b b) k (by rw [St.get_bx hbx];exact ⟨_,List.mem_of_getElem? hc,hk⟩)
     generalize hcc:cs.getD off .junk=c at*
     simp only [Bool.false_eq_true,if_false] at hw
     have hna:c.isAggr=false:=by cases c<;>first | rfl | exact hr.elim
     split at hw
     ·rename_i hxf
      simp only [Bool.and_eq_true] at hxf
      cases c with
      | own sz l=>
       obtain ⟨hokw,_,hw⟩:=hw
       have hs:=h.viewBox hbx hro (splice off [(CV.own sz l).copy1] cs) (fun vs hvs=> ?_) (fun c' hc' k hk=> ?_) (fun k t e=>splice_sp (by simp [CV.copy1,isSpC]) e)
       ·have hh: ¬Holds (st.set (.b b) (.agg (splice off [(CV.own sz l).copy1] cs))) (.b b) off:=by
         intro hH
         unfold Holds at hH
         rw [St.get_setBox,if_pos rfl] at hH
         have hll:off<cs.length:=by simp at hal;omega
         rw [splice_one hll] at hH
         simp [CV.comp,List.getD_eq_getElem?_getD,hll,CV.copy1,CV.held] at hH
        obtain ⟨ρ',g1,g2,g3⟩:=hs.give hr hh (.s (o.dst.getD 0)) 0
        unfold Oper.wp;rw [hrun]
        obtain ⟨st'',hK,hs'⟩:=setD_sound g1 (dst:=o.dst) (c:= .own sz l) (v:=arr[off]) (fun d' e'=>by rw [e'] at g2;exact g2) (fun b hb=>hb.elim) hw
        exact ⟨by rw [put_defers];exact hd,Γ,ρ',bl,st'',hK,by rw [put_tmps];exact hs',g3,fun _ _=>rfl⟩
       ·have hll:off<cs.length:=by simp at hal;omega
        have hsp:=splice_one (v:=(CV.own sz l).copy1) hll
        rw [hsp]
        refine ⟨by simpa using hvs.1,fun i c' v' hc' hv'=> ?_⟩
        rw [List.getElem?_set] at hc'
        split at hc'
        ·rename_i heq;subst heq
         cases hc';exact (hvs.2 off _ v' hc hv').copy1
        ·exact hvs.2 i c' v' hc' hv'
       ·have hll:off<cs.length:=by simp at hal;omega
        have hsp:=splice_one (v:=(CV.own sz l).copy1) hll
        rw [hsp] at hc'
        rcases List.mem_or_eq_of_mem_set hc' with hc' | rfl
        ·exact h.closed (.b b) k (by rw [St.get_bx hbx];exact ⟨c',hc',hk⟩)
        ·exact hk.elim
      | _=>simp [isOwn] at hxf
     ·exact good_same (p:= .s 0) (c:=c.copy1) h hd hrun (by
       have:=hr.copy1 (q:= .s 0) (j:=0)
       cases c<;>first | exact this | simp [CV.isAggr] at hna) (by cases c<;>first | rfl | simp [CV.isAggr] at hna) (fun k hk=>hment k (by cases c<;>first | exact hk | exact hk.elim | simp [CV.isAggr] at hna)) hw
   ·exact hw.elim
  ·exact hw.elim
 ·rename_i cs hb
  rw [hb] at e
  obtain ⟨ad,e,hs,hf,hc⟩ :RepC1 Γ ρ bl w ax.place 0 (.ep cs) (a.eval x):=e
  obtain ⟨hlen,hw⟩:=hw
  cases ag with
  | true=>
   simp only [if_true] at hw
   have hex: ∀i,i<n→∃u,w.cell? (ad.add i) =some u∧Rep Γ (cs.getD i .nilp) u:=fun i hin=>by
    have hil:i<cs.length:=by omega
    obtain ⟨u,hu,hr⟩:=hc i _ (List.getElem?_eq_getElem hil)
    refine ⟨u,h.agree _ _ hu, ?_⟩
    simpa [List.getD_eq_getElem?_getD,hil] using hr
   let f:Nat→Value:=fun i=>if hin:i<n then (hex i hin).choose else undef
   have hf1: ∀i (hin:i<n),w.cell? (ad.add i) =some (f i)∧Rep Γ (cs.getD i .nilp) (f i):=fun i hin=>by
    have:=(hex i hin).choose_spec
    simp only [f,hin,dif_pos];exact this
   have hrun:(execOp a.eval o).run P w= .ok (.value (.agg ((List.range n).map f).toArray)) w:=by
    have:=run_loadCells (P:=P) w ad n f (fun j hj=>(hf1 j hj).1)
    simp [execOp,ho,Instr.loadAt,e,Instr.sureAddr,loadVar,run_isAgg hag,sizeOf,typeInfo,hi,hn,this]
   refine good_data h hd hrun (.agg _ _ (by simp;omega) (fun d hd=>hf d (List.mem_of_mem_take hd)) fun i d v hd hv=> ?_) hw
   rw [List.getElem?_take] at hd
   split at hd
   ·rename_i hin
    simp [hin] at hv;subst hv
    have:=(hf1 i hin).2
    simpa [List.getD_eq_getElem?_getD,hd] using this
   ·cases hd
  | false=>
   obtain rfl:=hag1 rfl
   simp only [Bool.false_eq_true,if_false] at hw
   obtain ⟨u,hu,hr⟩:=hc 0 _ (List.getElem?_eq_getElem (by omega))
   have hu':=h.agree _ _ hu
   have h0:ad.add 0=ad:=by simp [Addr.add]
   rw [h0] at hu'
   refine good_data (v:=u) h hd (by simp [execOp,ho,Instr.loadAt,e,Instr.sureAddr,loadVar,run_isAgg hag,hu']) ?_ hw
   simpa [List.getD_eq_getElem?_getD,show 0<cs.length by omega] using hr
 ·rename_i z k i off hb
  rw [hb] at e
  obtain ⟨e,cap,hrole,_⟩ :RowA ρ bl z k i off (a.eval x):=e
  split at hw
  ·change (match rowD (st.get (.b k)) with | some (z',l)=>_ | none=>PM.fail).wp K st at hw
   split at hw
   ·rename_i z' l hrd
    obtain ⟨⟨hz,hi',hoff⟩,hw⟩:=hw
    subst hz
    obtain ⟨cs,hbx,hro⟩:=get_b_row hrd
    obtain ⟨arr,ety,fz,h1,_,_,_,_,hrf,h4⟩:=h.real hbx hro hrole
    have hel:=el_len hrf hi'
    cases ag with
    | true=>
     simp only [if_true] at hw
     have hex: ∀j,j<n→∃u,w.cell? ((⟨bl k,i*z'+off,none⟩ :Addr).add j) =some u∧Rep Γ ((l.getD i .nilp).cells.getD (off+j) .nilp) u∧((l.getD i .nilp).cells.getD (off+j) .nilp).flat=true:=fun j hj=>by
      rw [Addr.add_lit',Nat.add_assoc]
      exact row_cell h1 hrf hi' (by omega)
     let f:Nat→Value:=fun j=>if hin:j<n then (hex j hin).choose else undef
     have hf1: ∀j (hin:j<n),w.cell? ((⟨bl k,i*z'+off,none⟩ :Addr).add j) =some (f j)∧Rep Γ ((l.getD i .nilp).cells.getD (off+j) .nilp) (f j)∧((l.getD i .nilp).cells.getD (off+j) .nilp).flat=true:=fun j hin=>by
      have:=(hex j hin).choose_spec
      simp only [f,hin,dif_pos];exact this
     have hrun:(execOp a.eval o).run P w= .ok (.value (.agg ((List.range n).map f).toArray)) w:=by
      have:=run_loadCells (P:=P) w ⟨bl k,i*z'+off,none⟩ n f (fun j hj=>(hf1 j hj).1)
      simp [execOp,ho,Instr.loadAt,e,Instr.sureAddr,loadVar,run_isAgg hag,sizeOf,typeInfo,hi,hn,this]
     have hget: ∀(j:Nat) (d:D),(((l.getD i .nilp).cells.drop off).take n)[j]? =some d→j<n∧(l.getD i .nilp).cells.getD (off+j) .nilp=d:=fun j d hd=>by
      have h5:=cut_get hd
      refine ⟨?_,by rw [List.getD_eq_getElem?_getD,h5];rfl⟩
      have:=(List.getElem?_eq_some_iff.1 hd).1
      rw [List.length_take] at this;omega
     refine good_data h hd hrun (.agg _ _ (by simp only [List.length_take,List.length_drop,List.length_map,List.length_range];omega) (fun d hd=> ?_) fun j d v hd hv=> ?_) hw
     ·obtain ⟨j,hj,rfl⟩:=List.mem_iff_getElem.1 hd
      obtain ⟨q1,q2⟩:=hget j _ (List.getElem?_eq_getElem hj)
      rw [←q2];exact (hf1 j q1).2.2
     ·obtain ⟨q1,q2⟩:=hget j _ hd
      simp [q1] at hv;subst hv;subst q2
      exact (hf1 j q1).2.1
    | false=>
     obtain rfl:=hag1 rfl
     simp only [Bool.false_eq_true,if_false] at hw
     obtain ⟨u,hu,hr,_⟩:=row_cell h1 hrf hi' (show off<z' by omega)
     exact good_data (v:=u) h hd (by simp [execOp,ho,Instr.loadAt,e,Instr.sureAddr,loadVar,run_isAgg hag,hu]) hr hw
   ·exact hw.elim
  ·exact hw.elim
 ·exact hw.elim
end B
end Go.Proofs.YtmkkljbfmdngfaaGreatDoor
