/- A function's own text gives its contract. No condition. -/
import Derived.Test.YtmkkljbfmdngfaaGreatDoorB13
set_option linter.all false
namespace Go.Proofs.YtmkkljbfmdngfaaGreatDoor
namespace B
open Go.RowKit
variable {P:Program}
inductive AR where
 | tm (n:Nat)
 | ce (a:Nat) (ag:Bool) (n:Nat)
def AR.val (st:St) :AR→Option CV
 | .tm n=>some (st.get (.s n))
 | .ce a ag n=>match st.get (.s a) with
  | .ptr b off=>match st.get (.b b) with
   | .agg cs=>if (decide (off+n≤cs.length) &&(rowOf cs).isNone) =true then some (if ag then mkAgg ((cs.drop off).take n) else (cs.getD off .junk).copy1) else none
   | _=>none
  | _=>none
def AR.fits (P:Program) :ResultVar→AR→Prop
 | .tmp t, .tm n=>t=n
 | .cell a ty, .ce b ag n=>a=b∧isAggT P ty=some ag∧(∃ti,P.info? ty=some ti∧ti.size=n)∧(ag=false→n=1)
 | _,_=>False
def AR.slot:AR→List Nat
 | .tm n=>[n]
 | _=>[]
def AR.run (P:Program) (tmps:Array Value) :ResultVar→Sem Value
 | .tmp t=>pure (tmps.getD t undef)
 | .cell a t=>do loadVar t (←asAddr (tmps.getD a undef))
theorem get_rep {Γ:Froz} {ρ:Nat→Role} {bl:Nat→Nat} {st:St} {tmps:Array Value} {w:World} (h:SR Γ ρ bl st tmps w) (n:Nat) :RepC Γ ρ bl w (.s n) (st.get (.s n)) (tmps.getD n undef):=by
 by_cases hl:n<st.s.length
 ·obtain ⟨v,hv,hr⟩:=h.slots n _ (List.getElem?_eq_getElem hl)
  have e1:st.get (.s n) =st.s[n]:=St.get_slot (List.getElem?_eq_getElem hl)
  have e2:tmps.getD n undef=v:=by rw [Array.getD_eq_getD_getElem?,hv];rfl
  rw [e1,e2];exact hr
 ·have e1:st.get (.s n) = .junk:=by simp only [St.get,List.getD_eq_getElem?_getD];rw [List.getElem?_eq_none (Nat.le_of_not_lt hl)];rfl
  rw [e1];trivial
theorem AR.sound {rv:ResultVar} {ar:AR} (hf:AR.fits P rv ar) {Γ:Froz} {ρ:Nat→Role} {bl:Nat→Nat} {st:St} {tmps:Array Value} {w:World} (h:SR Γ ρ bl st tmps w) {c:CV} (hc:ar.val st=some c) :
  ∃v,(AR.run P tmps rv).run P w= .ok v w∧(RepC Γ ρ bl w (.s ((ar.slot.head?).getD 0)) c v)∧(ar.slot= []→c.noOwn=true)∧∀b,c.ment b→(st.bx b).isSome=true:=by
 cases rv with
 | tmp t=>
  cases ar with
  | ce a ag n=>exact hf.elim
  | tm n=>
   have hf:t=n:=hf
   subst hf
   simp only [AR.val,Option.some.injEq] at hc;subst hc
   exact ⟨_,rfl,get_rep h t,by simp [AR.slot],fun b hb=>h.closed _ b hb⟩
 | cell a ty=>
  cases ar with
  | tm n=>exact hf.elim
  | ce a' ag n=>
   obtain ⟨rfl,hag,⟨ti,hi,hn⟩,hag1⟩:=hf
   simp only [AR.val] at hc
   split at hc
   ·rename_i b off hp
    split at hc
    ·rename_i cs hcs
     split at hc
     ·rename_i hoff
      simp only [Option.some.injEq] at hc
      have hptr:=get_rep h a
      rw [hp] at hptr
      have hptr:tmps.getD a undef= .pointer (some ⟨bl b,off,none⟩):=hptr
      have hbx:=get_b_agg hcs
      simp only [Bool.and_eq_true,decide_eq_true_eq,Option.isNone_iff_eq_none] at hoff
      obtain ⟨hoff,hro⟩:=hoff
      obtain ⟨arr,ety,h1,h2,h3,h4⟩:=h.boxes b cs hbx hro
      have hal:arr.toList.length=cs.length:=h3.1.symm
      cases ag with
      | true=>
       simp only [if_true] at hc;subst hc
       have hl:((arr.toList.drop off).take n).length=n:=by simp;simp at hal;omega
       have:=run_loadCells_list (P:=P) w ⟨bl b,off,none⟩ ((arr.toList.drop off).take n) (fun j v hj=>by
        rw [Addr.add_lit',cell_row h1,←Array.getElem?_toList];exact cut_get hj)
       rw [hl] at this
       obtain ⟨k1,k2⟩:=h3.cut off n
       refine ⟨.agg ((arr.toList.drop off).take n).toArray, ?_,mkAgg_rep' k1 k2,fun _=>mkAgg_noOwn _,fun k hk=> ?_⟩
       ·simp [AR.run,hptr,asAddr,loadVar,run_isAgg hag,sizeOf,typeInfo,hi,hn,this]
       ·obtain ⟨c,hc,hm⟩:=mkAgg_ment hk
        exact h.closed (.b b) k (by rw [St.get_bx hbx];exact ⟨c,mem_drop_take hc,hm⟩)
      | false=>
       obtain rfl:=hag1 rfl
       simp only [Bool.false_eq_true,if_false] at hc
       have hoff':off<arr.size:=by simp at hal;omega
       have hci:cs[off]? =some (cs.getD off .junk):=by
        have:off<cs.length:=by simp at hal;omega
        simp [List.getD_eq_getElem?_getD,this]
       have hr:=h3.2 off _ arr[off] hci (by simp [hoff'])
       have hment: ∀k,(cs.getD off .junk).ment1 k→(st.bx k).isSome=true:=fun k hk=>h.closed (.b b) k (by rw [St.get_bx hbx];exact ⟨_,List.mem_of_getElem? hci,hk⟩)
       generalize cs.getD off .junk=c0 at*
       have hna:c0.isAggr=false:=by cases c0<;>first | rfl | exact hr.elim
       refine ⟨arr[off], ?_, ?_,fun _=> ?_,fun k hk=> ?_⟩
       ·simp [AR.run,hptr,asAddr,loadVar,run_isAgg hag,cell_row h1,hoff']
       ·have:=hr.copy1 (q:= .s 0) (j:=0)
        subst hc
        cases c0<;>first | exact this | (simp [CV.isAggr] at hna;done)
       ·subst hc;cases c0<;>first | rfl | (simp [CV.isAggr] at hna;done)
       ·subst hc;exact hment k (by cases c0<;>first | exact hk | exact hk.elim | (simp [CV.isAggr] at hna;done))
     ·cases hc
    ·cases hc
   ·cases hc
def valsOf (st:St) :List AR→Option (List CV)
 | []=>some []
 | x :: r=>match x.val st,valsOf st r with
  | some c,some cs=>some (c :: cs)
  | _,_=>none
def packR:List CV→CV
 | [c]=>c
 | cs=> .tup cs
def Wr:CV→CV→Prop
 | .tup l, .tup m=>WcL l m
 | c,c'=>Wc c c'
def EndQ (rs:List AR) (res:CV) (objs':List (Nat×List CV)) (st:St) :Prop:=
 ∃cs,valsOf st rs=some cs∧(cs.length=1∨(cs.all fun c=> !c.isAggr) =true)∧Wr (packR cs) res∧WcB st.b objs'∧(⟨[res],objs'⟩ :St).clo=true
def retQ (rs:List AR) (res:CV) (objs':List (Nat×List CV)) :AExit→St→Prop
 | .normal,st=>EndQ rs res objs' st
 | .ret,st=>EndQ rs res objs' st
 | .exit _,_=>False
def endRole (rs:List AR) (one:Bool) (ρ:Nat→Role) :Nat→Role:=fun g=>match ρ g with
 | .own (.s k) i=>match rs.findIdx? fun x=>x.slot== [k] with
  | some j=>if one then .own (.s 0) i else .own (.s 0) j
  | none=> .plain
 | r=>r
theorem RepC1.move2 {Γ:Froz} {ρ ρ':Nat→Role} {bl bl':Nat→Nat} {w:World} {p q:Place} {i j:Nat} {c:CV} {v:Value}
  (own: ∀g,ρ g= .own p i→ρ' g= .own q j) (hb: ∀b,c.ment1 b→RK ρ ρ' bl bl' b) (h:RepC1 Γ ρ bl w p i c v) :RepC1 Γ ρ' bl' w q j c v:=by
 cases c with
 | own sz l=>
  rcases h with ⟨e,vs,h1,h2,h3⟩ | h
  ·exact .inl ⟨e,vs,h1,h2,fun g hg=>⟨own g (h3 g hg).1,(h3 g hg).2⟩⟩
  ·exact .inr h
 | ptr b o=>have:=(hb b rfl).1;simp only [RepC1] at h⊢;rw [this];exact h
 | sp b t=>have:=(hb b rfl).1;simp only [RepC1] at h⊢;rw [this];exact h
 | rs z k o n=>exact RowH.keep (hb k rfl) h
 | ea z k j o=>exact RowA.keep (hb k rfl) h
 | fn f caps=>
  simp only [RepC1] at h⊢
  rw [h];congr 2
  exact List.map_congr_left fun b hm=>by rw [(hb b hm).1]
 | line z l=>obtain ⟨g,buf,s,r,h1,h2,h3,h4⟩:=h;exact ⟨g,buf,s,r,h1,h2,own g h3,h4⟩
 | bld e f l=>exact ⟨h.1,h.2.1,fun g hg=>⟨own g (h.2.2 g hg).1,(h.2.2 g hg).2⟩⟩
 | _=>exact h
theorem RepC.anyRole {Γ:Froz} {ρ:Nat→Role} {bl:Nat→Nat} {w:World} {p:Place} {c:CV} {v:Value} (h:RepC Γ ρ bl w p c v) (hn:c.noOwn=true) (ρ':Nat→Role) (q:Place) (hr: ∀g b z cap,ρ g= .row b z cap→ρ' g= .row b z cap) :RepC Γ ρ' bl w q c v:=
 (h.keep (w':=w) (ρ':=ρ') (bl':=bl) (.refl _) (fun i e=>(noOwn_comp hn e).elim) fun b _=>⟨rfl,fun z cap e=>hr _ b z cap e⟩).place hn
theorem packR_one {cs:List CV} (h:cs.length=1) : ∃c,cs= [c]∧packR cs=c:=by
 match cs,h with
 | [c],_=>exact ⟨c,rfl,rfl⟩
theorem Wr_rep {Γ:Froz} {ρ:Nat→Role} {bl:Nat→Nat} {w:World} {p:Place} {c c':CV} {v:Value} (h:Wr c c') (hr:RepC Γ ρ bl w p c v) :RepC Γ ρ bl w p c' v:=by
 unfold Wr at h
 split at h
 ·obtain ⟨vs,rfl,hl⟩:=hr
  refine ⟨vs,rfl,by rw [←hl.1,WcL_len h],fun i c v hc hv=> ?_⟩
  obtain ⟨c0,hc0,hwc⟩:=WcL_get h hc
  exact Wc_rep1 hwc (hl.2 i c0 v hc0 hv)
 ·exact Wc_rep h hr
theorem valsOf_spec {Γ:Froz} {ρ:Nat→Role} {bl:Nat→Nat} {st:St} {tmps:Array Value} {w:World} (h:SR Γ ρ bl st tmps w) : ∀{rvs:List ResultVar} {rs:List AR} {cs:List CV},rvs.length=rs.length→(∀(i:Nat) rv ar,rvs[i]? =some rv→rs[i]? =some ar→AR.fits P rv ar)→valsOf st rs=some cs→
  ∃vs,(rvs.mapM (AR.run P tmps)).run P w= .ok vs w∧vs.length=cs.length∧cs.length=rs.length∧∀(i:Nat) ar c v,rs[i]? =some ar→cs[i]? =some c→vs[i]? =some v→(RepC Γ ρ bl w (.s ((ar.slot.head?).getD 0)) c v)∧(ar.slot= []→c.noOwn=true)
 | [],[],cs,_,_,hv=>by simp only [valsOf,Option.some.injEq] at hv;subst hv;exact ⟨[],rfl,rfl,rfl,by simp⟩
 | rv :: rvs,ar :: rs,cs,hl,hf,hv=>by
  simp only [valsOf] at hv
  split at hv
  ·rename_i c cs' hc hcs
   simp only [Option.some.injEq] at hv;subst hv
   obtain ⟨v,h1,h2,h3,_⟩:=AR.sound (hf 0 rv ar rfl rfl) h hc
   obtain ⟨vs,k1,k2,k3,k4⟩:=valsOf_spec h (by simpa using hl) (fun i rv' ar' a b=>hf (i+1) rv' ar' (by simpa using a) (by simpa using b)) hcs
   refine ⟨v :: vs,by simp [List.mapM_cons,h1,k1],by simp [k2],by simp [k3],fun i ar' c' v' a b d=> ?_⟩
   cases i with
   | zero=>simp at a b d;subst a;subst b;subst d;exact ⟨h2,h3⟩
   | succ i=>exact k4 i ar' c' v' (by simpa using a) (by simpa using b) (by simpa using d)
  ·cases hv
 | [],_ :: _,_,hl,_,_=>by simp at hl
 | _ :: _,[],_,hl,_,_=>by simp at hl
theorem runs_of_body {f:Nat} {fn:Func} {c:Code} {ac:AC} {rs:List AR} {args:List CV} {objs objs':List (Nat×List CV)} {res:CV} (hf:P.funcs[f]? =some fn) (hname:(fn.name=="runtime.NumGoroutine") =false) (hb:fn.body=some c) (hfit:Fits P c ac)
  (hrl:fn.results.toList.length=rs.length) (hrs: ∀(i:Nat) rv ar,fn.results.toList[i]? =some rv→rs[i]? =some ar→AR.fits P rv ar) (hnd:(rs.flatMap AR.slot).Nodup) (hobj:(objs.map (·.1)).Nodup∧((objs.map (·.1)).all fun b=>decide (1000≤b) &&(decide (b<5000) ||mvF f)) =true)
  (h:awp (Runs P) (objs.map (·.1)) ac (retQ rs res objs') ⟨args++List.replicate (fn.ntmps-args.length) .junk,objs⟩) :Runs P f args objs res objs':=by
 refine ⟨⟨fn,hf,hname,by rw [hb];rfl⟩,fun Γ ρ bl vals w hs hgz=> ?_⟩
 refine calls_of_wp hf hb ?_
 have hlen:vals.size=args.length:=hs.len
 let E:Ent:=⟨w,Γ,ρ,bl,objs.map (·.1),hgz,fun b hb=>by have:=List.all_eq_true.1 hobj.2 b hb;simp only [Bool.and_eq_true,decide_eq_true_eq] at this;exact this.1⟩
 have hR:RR E ⟨args++List.replicate (fn.ntmps-args.length) .junk,objs⟩ {tmps:=vals++Array.replicate (fn.ntmps-vals.size) undef,defers:=[]} w:=by
  refine ⟨rfl,Γ,ρ,bl,⟨hs.agree,by simp [hlen],fun i c hc=> ?_,hs.boxes,hs.rows,hs.rowk,fun p b hm=> ?_,hs.rho,hs.gl,hs.bty⟩, .refl _ _ _,fun b hx=>⟨lookup_of_key hx,fun _=>rfl⟩⟩
  ·by_cases hi:i<args.length
   ·rw [List.getElem?_append_left hi] at hc
    obtain ⟨v,hv,hr⟩:=hs.slots i c hc
    exact ⟨v,by rw [Array.getElem?_append_left (by rw [hlen];exact hi)];exact hv,hr⟩
   ·rw [List.getElem?_append_right (by omega)] at hc
    have hj:i-args.length<fn.ntmps-args.length:=by have:=(List.getElem?_eq_some_iff.1 hc).1;simpa using this
    simp [hj] at hc;subst hc
    refine ⟨undef, ?_,trivial⟩
    rw [Array.getElem?_append_right (by omega),hlen]
    simp [hj]
  ·cases p with
   | s n=>
    simp only [St.get,List.getD_eq_getElem?_getD] at hm
    by_cases hi:n<args.length
    ·rw [List.getElem?_append_left hi] at hm
     exact hs.closed (.s n) b (by simp only [St.get,List.getD_eq_getElem?_getD];exact hm)
    ·rw [List.getElem?_append_right (by omega)] at hm
     rw [List.getElem?_replicate] at hm
     split at hm<;>exact hm.elim
   | b n=>exact hs.closed (.b n) b hm
 refine wp_mono (awp_sound (E:=E) hfit (retQ rs res objs') _ _ w hR h) ?_
 have fin: ∀(st:St) (a:Act) (w':World),EndQ rs res objs' st→RR E st a w'→a.defers= []∧∃v,(results fn a.tmps).run P w'= .ok v w'∧∃v' Γ' ρ' bl',Ending.returned v= .returned v'∧SR Γ' ρ' bl' ⟨[res],objs'⟩ #[v'] w'∧Fr0 w Γ ρ w' Γ' ρ'∧∀b,(objs.lookup b).isSome=true→lowB f b=true→RK ρ ρ' bl bl' b:=by
  rintro st a w' ⟨cs,hcs,hagg,hwr,hwb,hclo⟩ ⟨hd,Γ',ρ',bl',hs',hfr,hbl⟩
  obtain ⟨vs,k1,k2,k3,k4⟩:=valsOf_spec (P:=P) hs' hrl hrs hcs
  have hres:(results fn a.tmps).run P w'= .ok (if h:vs.toArray.size=1 then vs.toArray[0] else .tuple vs.toArray) w':=by
   have hm:(fn.results.mapM (AR.run P a.tmps)).run P w'= .ok vs.toArray w':=by
    rw [Array.mapM_eq_mapM_toList]
    simp [k1]
   have hr2:results fn a.tmps=(fn.results.mapM (AR.run P a.tmps)) >>= fun vs=>pure (if h:vs.size=1 then vs[0] else .tuple vs):=by
    unfold results
    congr 1
   rw [hr2,Sem.run_bind,hm]
   rfl
  refine ⟨hd,_,hres,_,Γ',endRole rs (decide (cs.length=1)) ρ',bl',rfl, ?_, ?_,fun b hb h5=> ?_⟩
  ·have erow: ∀(one:Bool) g b z cap,ρ' g= .row b z cap→endRole rs one ρ' g= .row b z cap:=fun one g b z cap e=>by simp only [endRole,e]
   have hidx: ∀(j k:Nat) (ar:AR),rs[j]? =some ar→ar.slot= [k]→rs.findIdx? (fun x=>x.slot== [k]) =some j:=by
    intro j k ar hj hk
    rw [List.findIdx?_eq_some_iff_getElem]
    have hjl:=(List.getElem?_eq_some_iff.1 hj).1
    have hje:rs[j]=ar:=(List.getElem?_eq_some_iff.1 hj).2
    refine ⟨hjl,by simp [hje,hk],fun i hi=> ?_⟩
    intro hcon
    have hii:rs[i].slot= [k]:=by simpa using hcon
    have hsplit:rs=rs.take j++rs[j] :: rs.drop (j+1):=by rw [←List.drop_eq_getElem_cons hjl,List.take_append_drop]
    rw [hsplit,List.flatMap_append,List.flatMap_cons] at hnd
    have hmem:k∈(rs.take j).flatMap AR.slot:=by
     rw [List.mem_flatMap]
     refine ⟨rs[i], ?_,by rw [hii];simp⟩
     rw [List.mem_iff_getElem]
     exact ⟨i,by simp;omega,by simp⟩
    have hmem2:k∈rs[j].slot++(rs.drop (j+1)).flatMap AR.slot:=by rw [hje,hk];simp
    exact (List.nodup_append.1 hnd).2.2 k hmem k hmem2 rfl
   have hone: ∀(j:Nat) (ar:AR) (c:CV) (v:Value),rs[j]? =some ar→cs[j]? =some c→vs[j]? =some v→cs.length=1→RepC Γ' (endRole rs true ρ') bl' w' (.s 0) c v:=by
    intro j ar c v hj hc hv h1
    obtain ⟨g1,g2⟩:=k4 j ar c v hj hc hv
    cases ar with
    | ce a ag n=>exact g1.anyRole (g2 rfl) _ _ (erow true)
    | tm n=>
     refine g1.move (fun g i hg=> ?_) fun b _=>⟨rfl,fun z cap e=>erow true _ b z cap e⟩
     have hg:ρ' g= .own (.s n) i:=hg
     simp only [endRole,hg,hidx j n (.tm n) hj rfl,if_true]
   have hmany: ∀(j:Nat) (ar:AR) (c:CV) (v:Value),rs[j]? =some ar→cs[j]? =some c→vs[j]? =some v→c.isAggr=false→RepC1 Γ' (endRole rs false ρ') bl' w' (.s 0) j c v:=by
    intro j ar c v hj hc hv hna
    obtain ⟨g1,g2⟩:=k4 j ar c v hj hc hv
    have g1': ∀q ρ2,RepC Γ' ρ2 bl' w' q c v→RepC1 Γ' ρ2 bl' w' q 0 c v:=fun q ρ2 hh=>by cases c<;>first | exact hh | (simp [CV.isAggr] at hna;done)
    cases ar with
    | ce a ag n=>
     have:=g1' _ _ (g1.anyRole (g2 rfl) (endRole rs false ρ') (.s 0) (erow false))
     exact this.place (by have:=g2 rfl;cases c<;>first | rfl | (simp [CV.noOwn] at this;done) | (simp [CV.isAggr] at hna;done))
    | tm n=>
     refine (g1' _ _ g1).move2 (fun g hg=> ?_) fun b _=>⟨rfl,fun z cap e=>erow false _ b z cap e⟩
     have hg:ρ' g= .own (.s n) 0:=hg
     simp only [endRole,hg,hidx j n (.tm n) hj rfl,Bool.false_eq_true,if_false]
   have hpack:RepC Γ' (endRole rs (decide (cs.length=1)) ρ') bl' w' (.s 0) (packR cs) (if h:vs.toArray.size=1 then vs.toArray[0] else .tuple vs.toArray):=by
    by_cases h1:cs.length=1
    ·obtain ⟨c,rfl,hp⟩:=packR_one h1
     obtain ⟨v,rfl⟩ : ∃v,vs= [v]:=by
      match vs,k2 with
      | [v],_=>exact ⟨v,rfl⟩
     obtain ⟨ar,har⟩ : ∃ar,rs[0]? =some ar:=⟨_,List.getElem?_eq_getElem (by rw [←k3];simp)⟩
     simpa [packR] using hone 0 ar c v har rfl rfl rfl
    ·have hagg':(cs.all fun c=> !c.isAggr) =true:=hagg.resolve_left h1
     have hp:packR cs= .tup cs:=by
      match cs,h1 with
      | [],_=>rfl
      | _ :: _ :: _,_=>rfl
     have hsz: ¬vs.toArray.size=1:=by simp;omega
     rw [hp,dif_neg hsz]
     simp only [h1,decide_false]
     refine ⟨vs,rfl,k2.symm,fun j c v hc hv=> ?_⟩
     have hjl:j<rs.length:=by rw [←k3];exact (List.getElem?_eq_some_iff.1 hc).1
     exact hmany j rs[j] c v (List.getElem?_eq_getElem hjl) hc hv (by have:=List.all_eq_true.1 hagg' c (List.mem_of_getElem? hc);simpa using this)
   have hbox: ∀(b:Nat) (cs':List CV) (arr:Array Value),RepL Γ' ρ' bl' w' (.b b) cs' arr.toList→RepL Γ' (endRole rs (decide (cs.length=1)) ρ') bl' w' (.b b) cs' arr.toList:=fun b cs' arr hh=>hh.move (fun g i hg=>by simp only [endRole,hg]) fun _ _ b _=>⟨rfl,fun z cap e=>erow _ _ b z cap e⟩
   refine ⟨hs'.agree,rfl,fun i c hc=> ?_,fun b bs hbs hro=> ?_,fun b bs z l hbs hro=> ?_,fun g b z cap hc=>hs'.rowk g b z cap ?_,fun p b hm=> ?_,fun g hg=> ?_,hs'.gl,fun b k t bs hbs hk=> ?_⟩
   ·cases i with
    | zero=>simp at hc;subst hc;exact ⟨_,rfl,Wr_rep hwr hpack⟩
    | succ i=>simp at hc
   ·obtain ⟨bs0,hbs0,hwl⟩:=WcB_get hwb hbs
    obtain ⟨arr,e,q1,q2,q3,q4⟩:=hs'.boxes b bs0 hbs0 (by rw [hwl.2];exact hro)
    have q3':=hbox b bs0 arr q3
    refine ⟨arr,e,q1,by simp only [endRole,q2],⟨by rw [←q3'.1,WcL_len hwl.1],fun i c v hc hv=> ?_⟩,q4⟩
    obtain ⟨c0,hc0,hwc⟩:=WcL_get hwl.1 hc
    exact Wc_rep1 hwc (q3'.2 i c0 v hc0 hv)
   ·obtain ⟨bs0,hbs0,hwl⟩:=WcB_get hwb hbs
    exact (hs'.rows b bs0 z l hbs0 (by rw [hwl.2];exact hro)).keep (.refl _) fun cap e=>⟨by simp only [endRole,e],rfl⟩
   ·unfold endRole at hc
    split at hc
    ·split at hc
     ·split at hc<;>cases hc
     ·cases hc
    ·exact hc
   ·simp only [St.clo,Bool.and_eq_true] at hclo
    apply lookup_of_key
    cases p with
    | s n=>
     simp only [St.get,List.getD_eq_getElem?_getD] at hm
     cases n with
     | zero=>exact inB_ment (List.all_eq_true.1 hclo.1 res (by simp)) hm
     | succ n=>exact hm.elim
    | b n=>
     simp only [St.get,St.bx] at hm
     split at hm
     ·rename_i cs hcs
      obtain ⟨c,hc,hm⟩:=hm
      exact in1_ment (List.all_eq_true.1 (List.all_eq_true.1 hclo.2 _ (lookup_mem hcs)) c hc) hm
     ·exact hm.elim
   ·refine hs'.rho g fun e=>hg ?_
    simp only [endRole,e]
   ·obtain ⟨bs0,hbs0,hwl⟩:=WcB_get hwb hbs
    obtain ⟨c0,hc0,hwc⟩:=WcL_get hwl.1 hk
    rw [Wc_sp hwc] at hc0
    exact hs'.bty b k t bs0 hbs0 hc0
  ·refine ⟨hfr.le,hfr.size,hfr.os,hfr.tape,hfr.output,fun g hg hp=>⟨(hfr.block g hg hp).1, ?_⟩,hfr.new⟩
   simp only [endRole,(hfr.block g hg hp).2]
  ·have hm:b∈objs.map (·.1):=by obtain ⟨cs,e⟩:=Option.isSome_iff_exists.1 hb;exact List.mem_map_of_mem (lookup_mem e)
   have h5:b<5000:=by
    have:=List.all_eq_true.1 hobj.2 b hm
    simp only [Bool.and_eq_true,Bool.or_eq_true,decide_eq_true_eq] at this
    rcases this.2 with q | q
    ·exact q
    ·unfold lowB hiB at h5;rw [q] at h5;simpa using h5
   exact ⟨(hbl b hm).2 h5,fun z cap e=>by simp only [endRole,hfr.row _ b z cap e (E.big b hm) h5]⟩
 intro e a w' hq
 cases e with
 | normal=>obtain ⟨st,hq,hr⟩:=hq;exact fin st a w' hq hr
 | ret=>obtain ⟨st,hq,hr⟩:=hq;exact fin st a w' hq hr
 | exit id=>obtain ⟨st,hq,_⟩:=hq;exact hq.elim
 | goto l=>exact hq.elim
 | panic c=>exact hq.elim
 | outgrown=>exact hq.elim
end B
end Go.Proofs.YtmkkljbfmdngfaaGreatDoor
