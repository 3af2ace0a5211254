/- The evaluator for walks: stores with guarded values, calls, operations. No condition. -/
import Derived.Test.YtmkkljbfmdngfaaGreatDoorB18
set_option linter.all false
namespace Go.Proofs.YtmkkljbfmdngfaaGreatDoor
namespace B
variable {P:Program}
def cw (w b:Bool) :Bool:=match w with
 | true=>b
 | false=> !b
def ES.guard (es:ES) (g:Nat) (w:Bool) :Option (Path×Bool):=match es.at g with
 | .v (.d (.bool b))=>some ([(g,w)],cw w b)
 | .cnd p c (.d (.bool b))=>some (p++ [(g,w)],c&&cw w b)
 | _=>none
def EC.flat (d:Nat) :EC→EC
 | .v x=> .v x
 | .cnd p c x=>if (p.any fun y=>y.1==d) =true then .v (if c=true then x else undefC) else .cnd p c x
def ES.put (es:ES) (d:Nat) (e:EC) :ES:=⟨(es.s.map (EC.flat d)).set d (e.flat d),es.b,d :: es.w,es.wb⟩
def ES.putO (es:ES) (dst:Option Nat) (e:EC) :ES:=match dst with
 | some d=>es.put d e
 | none=>es
def Inv0 (es:ES) :Prop:=∀(n:Nat) p c x,es.at n= .cnd p c x→∃p0 g w,p=p0++ [(g,w)]∧es.guard g w=some (p,c)
theorem EC.flat_den (d:Nat) (e:EC) :(e.flat d).den=e.den:=by
 cases e with
 | v x=>rfl
 | cnd p c x=>simp only [EC.flat];split<;>rfl
theorem ES.put_den (es:ES) (d:Nat) (e:EC) :(es.put d e).den=es.den.set (.s d) e.den:=by
 simp only [ES.put,ES.den,St.set,List.map_set,List.map_map,EC.flat_den]
 congr 2
 exact List.map_congr_left fun x _=>EC.flat_den d x
theorem ES.putO_den (es:ES) (dst:Option Nat) (e:EC) :(es.putO dst e).den=es.den.setO dst e.den:=by
 cases dst with
 | none=>rfl
 | some d=>exact ES.put_den es d e
theorem ES.at_put (es:ES) (d n:Nat) (e:EC) :(es.put d e).at n=if n=d∧d<es.s.length then e.flat d else (es.at n).flat d:=by
 simp only [ES.put,ES.at,List.getD_eq_getElem?_getD,List.getElem?_set,List.length_map]
 by_cases h:d=n
 ·subst h
  by_cases hl:d<es.s.length
  ·simp [hl]
  ·simp [hl,EC.flat]
 ·have h': ¬n=d:=fun e=>h e.symm
  simp only [h,if_false,h',false_and,List.getElem?_map]
  cases es.s[n]? <;>rfl
theorem flat_cnd {d:Nat} {e:EC} {p:Path} {c:Bool} {x:CV} (h:e.flat d= .cnd p c x) :e= .cnd p c x∧∀y∈p,y.1≠d:=by
 cases e with
 | v x=>cases h
 | cnd p' c' x'=>
  simp only [EC.flat] at h
  split at h
  ·cases h
  ·rename_i hn
   cases h
   refine ⟨rfl,fun y hy e=>hn ?_⟩
   rw [List.any_eq_true]
   exact ⟨y,hy,by simp [e]⟩
theorem guard_put {es:ES} {d g:Nat} {w:Bool} {e:EC} {p:Path} {c:Bool} (h:es.guard g w=some (p,c)) (hp: ∀y∈p,y.1≠d) :(es.put d e).guard g w=some (p,c):=by
 have hg:g≠d:=by
  unfold ES.guard at h
  split at h
  ·cases h;exact hp (g,w) (by simp)
  ·cases h;exact hp (g,w) (by simp)
  ·cases h
 have hat:(es.put d e).at g=es.at g:=by
  rw [ES.at_put,if_neg (fun hh=>hg hh.1)]
  cases e2:es.at g with
  | v x=>rfl
  | cnd p0 c0 x0=>
   simp only [EC.flat]
   rw [if_neg]
   intro hany
   obtain ⟨y,hy,hyd⟩:=List.any_eq_true.1 hany
   unfold ES.guard at h
   rw [e2] at h
   split at h
   ·rename_i hh;cases hh
   ·rename_i hh
    cases hh;cases h
    exact hp y (by simp [hy]) (by simpa using hyd)
   ·cases h
 unfold ES.guard at h⊢
 rw [hat];exact h
theorem Inv0.put_v {es:ES} (h:Inv0 es) (d:Nat) (x:CV) :Inv0 (es.put d (.v x)):=by
 intro n p c y hn
 rw [ES.at_put] at hn
 split at hn
 ·cases hn
 ·obtain ⟨h1,h2⟩:=flat_cnd hn
  obtain ⟨p0,g,w,hp,hg⟩:=h n p c y h1
  exact ⟨p0,g,w,hp,guard_put hg h2⟩
theorem Inv0.put_cnd {es:ES} (h:Inv0 es) (d:Nat) {g:Nat} {w:Bool} {p:Path} {c:Bool} (hg:es.guard g w=some (p,c)) (x:CV) :Inv0 (es.put d (.cnd p c x)):=by
 intro n p' c' y hn
 rw [ES.at_put] at hn
 split at hn
 ·obtain ⟨h1,h2⟩:=flat_cnd hn
  cases h1
  have: ∃p0,p=p0++ [(g,w)]:=by
   unfold ES.guard at hg
   split at hg
   ·cases hg;exact ⟨[],rfl⟩
   ·cases hg;exact ⟨_,rfl⟩
   ·cases hg
  obtain ⟨p0,hp0⟩:=this
  exact ⟨p0,g,w,hp0,guard_put hg h2⟩
 ·obtain ⟨h1,h2⟩:=flat_cnd hn
  obtain ⟨p0,g',w',hp,hg'⟩:=h n p' c' y h1
  exact ⟨p0,g',w',hp,guard_put hg' h2⟩
theorem guard_last {es:ES} {g:Nat} {w:Bool} {p:Path} {c:Bool} (h:es.guard g w=some (p,c)) : ∃p0,p=p0++ [(g,w)]∧(p0= []∨∃c0 x,es.at g= .cnd p0 c0 x∧(c=true→c0=true)):=by
 unfold ES.guard at h
 split at h
 ·cases h;exact ⟨[],rfl, .inl rfl⟩
 ·rename_i p0 c0 b hb
  cases h
  exact ⟨p0,rfl, .inr ⟨c0,_,hb,fun h=>by simp only [Bool.and_eq_true] at h;exact h.1⟩⟩
 ·cases h
theorem snoc_inj {p q:Path} {x y:Nat×Bool} (h:p++ [x]=q++ [y]) :p=q∧x=y:=by
 have:=List.append_inj' h rfl
 exact ⟨this.1,by simpa using this.2⟩
theorem prefix_snoc {p q:Path} {x:Nat×Bool} (h:p<+:q++ [x]) :p<+:q∨p=q++ [x]:=by
 obtain ⟨t,ht⟩:=h
 rcases List.eq_nil_or_concat t with rfl | ⟨t',y,rfl⟩
 ·right;simpa using ht
 ·left
  have:p++t'=q:=by
   have h2:(p++t') ++ [y]=q++ [x]:=by simpa using ht
   exact (snoc_inj h2).1
  exact ⟨t',this⟩
theorem Inv0.imp {es:ES} (hi:Inv0 es) : ∀(n:Nat) (p:Path),p.length=n→∀g w c,es.guard g w=some (p,c)→c=true→∀k p' c' x,es.at k= .cnd p' c' x→p'<+:p→c'=true:=by
 intro n
 induction n using Nat.strongRecOn with
 | _ n ih=>
  intro p hn g w c hg hc k p' c' x hk hpre
  obtain ⟨p0',g',w',hp',hg'⟩:=hi k p' c' x hk
  obtain ⟨p0,hp,hcase⟩:=guard_last hg
  rw [hp] at hpre
  rcases prefix_snoc hpre with h | h
  ·rcases hcase with rfl | ⟨c0,x0,hat,hc0⟩
   ·have:p'= []:=by simpa using h
    rw [this] at hp';simp at hp'
   ·obtain ⟨p00,g0,w0,hp0,hg0⟩:=hi g p0 c0 x0 hat
    exact ih p0.length (by rw [←hn,hp];simp) p0 rfl g0 w0 c0 hg0 (hc0 hc) k p' c' x hk h
  ·have e:p0'++ [(g',w')]=p0++ [(g,w)]:=by rw [←hp',h]
   obtain ⟨_,e2⟩:=snoc_inj e
   cases e2
   rw [hg] at hg'
   simp only [Option.some.injEq,Prod.mk.injEq] at hg'
   rw [←hg'.2];exact hc
theorem rd_guard {es:ES} (hi:Inv0 es) {g:Nat} {w:Bool} {p:Path} (hg:es.guard g w=some (p,true)) (x:AX) :es.rd p x=x.val es.den:=by
 cases x with
 | c v=>rfl
 | t n=>
  show (es.at n).rd p=es.den.get (.s n)
  rw [ES.den_get]
  cases e:es.at n with
  | v x=>rfl
  | cnd p' c' x=>
   simp only [EC.rd,EC.den]
   split
   ·rename_i hpre
    have:=hi.imp p.length p rfl g w true hg rfl n p' c' x e (List.isPrefixOf_iff_prefix.1 hpre)
    simp [this]
   ·rfl
theorem rd_nil {es:ES} (hi:Inv0 es) (x:AX) :es.rd [] x=x.val es.den:=by
 cases x with
 | c v=>rfl
 | t n=>
  show (es.at n).rd []=es.den.get (.s n)
  rw [ES.den_get]
  cases e:es.at n with
  | v x=>rfl
  | cnd p' c' x=>
   obtain ⟨p0,g,w,hp,_⟩:=hi n p' c' x e
   simp only [EC.rd,EC.den]
   rw [if_neg]
   rw [hp]
   intro h
   have:=List.isPrefixOf_iff_prefix.1 h
   simp at this
theorem rd_pick {es:ES} (hi:Inv0 es) {p:Path} (hp:p= []∨∃g w,es.guard g w=some (p,true)) {s:Nat} {t:Bool} (hs:es.den.get (.s s) = .d (.bool t)) (x:AX) :es.rd (p++ [(s,t)]) x=x.val es.den:=by
 cases x with
 | c v=>rfl
 | t n=>
  show (es.at n).rd _=es.den.get (.s n)
  rw [ES.den_get]
  cases e:es.at n with
  | v x=>rfl
  | cnd p' c' x=>
   simp only [EC.rd,EC.den]
   split
   ·rename_i hpre
    have hc:c'=true:=by
     rcases prefix_snoc (List.isPrefixOf_iff_prefix.1 hpre) with h | h
     ·rcases hp with rfl | ⟨g,w,hg⟩
      ·obtain ⟨p0,g',w',hp',_⟩:=hi n p' c' x e
       have:p'= []:=by simpa using h
       rw [this] at hp';simp at hp'
      ·exact hi.imp p.length p rfl g w true hg rfl n p' c' x e h
     ·obtain ⟨p0,g',w',hp',hg'⟩:=hi n p' c' x e
      have e2:p0++ [(g',w')]=p++ [(s,t)]:=by rw [←hp',h]
      obtain ⟨_,e3⟩:=snoc_inj e2
      cases e3
      rw [ES.den_get] at hs
      unfold ES.guard at hg'
      split at hg'
      ·rename_i b hb
       rw [hb] at hs
       simp only [EC.den,CV.d.injEq,D.bool.injEq] at hs
       cases hg'
       subst hs
       cases b<;>rfl
      ·rename_i p1 c1 b hb
       rw [hb] at hs
       cases hg'
       cases c1 with
       | true=>
        simp only [EC.den,if_true,CV.d.injEq,D.bool.injEq] at hs
        subst hs
        cases b<;>rfl
       | false=>simp [EC.den] at hs
      ·cases hg'
    simp [hc]
   ·rfl
theorem guard_spec {es:ES} {g:Nat} {w:Bool} {p:Path} {c:Bool} (h:es.guard g w=some (p,c)) : ∃r,guardOf (es.den.get (.s g)) =some r∧(r==some w) =c:=by
 rw [ES.den_get]
 unfold ES.guard at h
 split at h
 ·rename_i b hb
  cases h
  rw [hb]
  exact ⟨some b,rfl,by cases w<;>cases b<;>rfl⟩
 ·rename_i p0 c0 b hb
  cases h
  rw [hb]
  cases c0 with
  | true=>exact ⟨some b,rfl,by cases w<;>cases b<;>rfl⟩
  | false=>exact ⟨none,rfl,by cases w<;>rfl⟩
 ·cases h
structure Inv (st0:St) (es:ES) :Prop where
 i0:Inv0 es
 len:es.s.length=st0.s.length
 sl: ∀n,n∉es.w→es.den.get (.s n) =st0.get (.s n)
 bx: ∀b,b∉es.wb→es.b.lookup b=st0.bx b
def ES.setB1 (es:ES) (b:Nat) (cs:List CV) :ES:=⟨es.s,setB b cs es.b,es.w,b :: es.wb⟩
theorem ES.setB1_den (es:ES) (b:Nat) (cs:List CV) :(es.setB1 b cs).den=es.den.set (.b b) (.agg cs):=rfl
variable {st0:St}
def CV.has1 (b:Nat) :CV→Bool
 | .ptr k _=>k==b
 | .sp k _=>k==b
 | .rs _ k _ _=>k==b
 | .ea _ k _ _=>k==b
 | .fn _ caps=>caps.contains b
 | _=>false
def CV.has (b:Nat) :CV→Bool
 | .tup l=>l.any (CV.has1 b)
 | .agg l=>l.any (CV.has1 b)
 | c=>c.has1 b
theorem kill1_has {b:Nat} {c:CV} (h:c.has1 b=false) :c.kill1 b=c:=by
 cases c<;>simp only [CV.has1,beq_eq_false_iff_ne,ne_eq] at h<;>simp only [CV.kill1]<;>first | rfl | (rw [if_neg h]) | (rw [h];rfl)
theorem map_kill1 {b:Nat} {l:List CV} (h:l.any (CV.has1 b) =false) :l.map (CV.kill1 b) =l:=by
 rw [List.any_eq_false] at h
 calc l.map (CV.kill1 b) =l.map id:=List.map_congr_left fun c hc=>kill1_has (by simpa using h c hc)
  _=l:=by simp
theorem kill_has {b:Nat} {c:CV} (h:c.has b=false) :c.kill b=c:=by
 cases c with
 | tup l=>simp only [CV.has] at h;simp only [CV.kill,map_kill1 h]
 | agg l=>simp only [CV.has] at h;simp only [CV.kill,map_kill1 h]
 | _=>simp only [CV.has] at h;simp only [CV.kill];exact kill1_has h
def EC.kill (b:Nat) :EC→EC
 | .v x=> .v (x.kill b)
 | .cnd p c x=> .cnd p c (x.kill b)
def EC.has (b:Nat) :EC→Bool
 | .v x=>x.has b
 | .cnd _ _ x=>x.has b
def ES.kill (es:ES) (b:Nat) :ES:=⟨es.s.map (EC.kill b),es.b.map fun x=>(x.1,x.2.map (CV.kill1 b)),((List.range es.s.length).filter fun n=>(es.at n).has b) ++es.w,(es.b.filterMap fun x=>if x.2.any (CV.has1 b) =true then some x.1 else none) ++es.wb⟩
theorem EC.kill_den (b:Nat) (e:EC) :(e.kill b).den=e.den.kill b:=by
 cases e with
 | v x=>rfl
 | cnd p c x=>cases c<;>rfl
theorem ES.kill_den (es:ES) (b:Nat) :(es.kill b).den=es.den.kill b:=by
 simp only [ES.kill,ES.den,St.kill,List.map_map]
 congr 1
 exact List.map_congr_left fun x _=>EC.kill_den b x
theorem ES.kill_at (es:ES) (b n:Nat) :(es.kill b).at n=(es.at n).kill b:=by
 simp only [ES.kill,ES.at,List.getD_eq_getElem?_getD,List.getElem?_map]
 cases es.s[n]? <;>rfl
theorem ES.kill_guard {es:ES} {b g:Nat} {w:Bool} {p:Path} {c:Bool} (h:es.guard g w=some (p,c)) :(es.kill b).guard g w=some (p,c):=by
 unfold ES.guard at h⊢
 rw [ES.kill_at]
 cases e:es.at g with
 | v x=>
  rw [e] at h
  cases x with
  | d y=>exact h
  | _=>simp at h
 | cnd p' c' x=>
  rw [e] at h
  cases x with
  | d y=>exact h
  | _=>simp at h
theorem Inv.kill {es:ES} (h:Inv st0 es) (b:Nat) :Inv st0 (es.kill b):=by
 refine ⟨fun n p c x hn=> ?_,by simp [ES.kill,h.len],fun n hn=> ?_,fun k hk=> ?_⟩
 ·rw [ES.kill_at] at hn
  cases e:es.at n with
  | v y=>rw [e] at hn;cases hn
  | cnd p' c' y=>
   rw [e] at hn
   cases hn
   obtain ⟨p0,g,w,hp,hg⟩:=h.i0 n p c y e
   exact ⟨p0,g,w,hp,ES.kill_guard hg⟩
 ·have hn:n∉((List.range es.s.length).filter fun n=>(es.at n).has b) ++es.w:=hn
  rw [List.mem_append,not_or] at hn
  rw [ES.kill_den,St.kill_get,←h.sl n hn.2]
  by_cases hl:n<es.s.length
  ·have hf:(es.at n).has b=false:=by
    have:=hn.1
    rw [List.mem_filter,not_and] at this
    simpa using this (List.mem_range.2 hl)
   rw [ES.den_get]
   cases e:es.at n with
   | v x=>rw [e] at hf;exact kill_has hf
   | cnd p c x=>
    rw [e] at hf
    cases c
    ·rfl
    ·exact kill_has hf
  ·have:es.den.get (.s n) = .junk:=by
    rw [ES.den_get]
    simp only [ES.at,List.getD_eq_getElem?_getD]
    rw [List.getElem?_eq_none (by omega)];rfl
   rw [this];rfl
 ·have hk:k∉(es.b.filterMap fun x=>if x.2.any (CV.has1 b) =true then some x.1 else none) ++es.wb:=hk
  rw [List.mem_append,not_or] at hk
  rw [←h.bx k hk.2]
  have hb:(es.kill b).b.lookup k=(es.b.lookup k).map fun cs=>cs.map (CV.kill1 b):=St.kill_bx es.den b k
  rw [hb]
  cases e:es.b.lookup k with
  | none=>rfl
  | some cs=>
   have:cs.any (CV.has1 b) =false:=by
    by_cases hh:cs.any (CV.has1 b) =true
    ·exact absurd (List.mem_filterMap.2 ⟨(k,cs),lookup_mem e,by simp only [hh,if_true]⟩) hk.1
    ·simpa using hh
   simp only [Option.map_some,map_kill1 this]
theorem Inv.put {es:ES} (h:Inv st0 es) (d:Nat) (e:EC) (h0:Inv0 (es.put d e)) :Inv st0 (es.put d e):=by
 refine ⟨h0,by simp [ES.put,h.len],fun n hn=> ?_,h.bx⟩
 have hn:n∉d :: es.w:=hn
 simp only [List.mem_cons,not_or] at hn
 rw [ES.put_den,St.get_setSlot,if_neg (fun hh=>hn.1 (by injection hh.1))]
 exact h.sl n hn.2
theorem Inv.put_v {es:ES} (h:Inv st0 es) (d:Nat) (x:CV) :Inv st0 (es.put d (.v x)):=h.put d _ (h.i0.put_v d x)
theorem Inv.put_cnd {es:ES} (h:Inv st0 es) (d:Nat) {g:Nat} {w:Bool} {p:Path} {c:Bool} (hg:es.guard g w=some (p,c)) (x:CV) :Inv st0 (es.put d (.cnd p c x)):=h.put d _ (h.i0.put_cnd d hg x)
theorem Inv.putO_v {es:ES} (h:Inv st0 es) (dst:Option Nat) (x:CV) :Inv st0 (es.putO dst (.v x)):=by
 cases dst with
 | none=>exact h
 | some d=>exact h.put_v d x
theorem Inv.putO_cnd {es:ES} (h:Inv st0 es) (dst:Option Nat) {g:Nat} {w:Bool} {p:Path} {c:Bool} (hg:es.guard g w=some (p,c)) (x:CV) :Inv st0 (es.putO dst (.cnd p c x)):=by
 cases dst with
 | none=>exact h
 | some d=>exact h.put_cnd d hg x
theorem Inv.setBx {es:ES} (h:Inv st0 es) (b:Nat) (cs:List CV) :Inv st0 (es.setB1 b cs):=by
 refine ⟨?_,h.len,h.sl,fun k hk=> ?_⟩
 ·intro n p c x hn
  obtain ⟨p0,g,w,hp,hg⟩:=h.i0 n p c x hn
  exact ⟨p0,g,w,hp,hg⟩
 ·have hk:k∉b :: es.wb:=hk
  simp only [List.mem_cons,not_or] at hk
  have:=h.bx k hk.2
  rw [←this]
  show (setB b cs es.b).lookup k=_
  rw [lookup_setB,if_neg hk.1]
def ES.killAll (es:ES) (l:List Nat) :ES:=l.foldl ES.kill es
theorem ES.killAll_den: ∀(l:List Nat) (es:ES),(es.killAll l).den=B.killAll es.den l
 | [],_=>rfl
 | b :: r,es=>(ES.killAll_den r (es.kill b)).trans (by rw [ES.kill_den];rfl)
theorem Inv.killAll: ∀(l:List Nat) {es:ES},Inv st0 es→Inv st0 (es.killAll l)
 | [],_,h=>h
 | b :: r,_,h=>Inv.killAll r (h.kill b)
end B
end Go.Proofs.YtmkkljbfmdngfaaGreatDoor
