/- Each instruction does what the abstract one says: stores, new boxes. No condition. -/
import Derived.Test.YtmkkljbfmdngfaaGreatDoorB4
import Derived.Lib.AppendStr
import Derived.Maps.AppendAt
set_option linter.all false
namespace Go.Proofs.YtmkkljbfmdngfaaGreatDoor
namespace B
open Go.RowKit
variable {P:Program} {C:CallRel} {okr okw:Nat→Bool} {o:Oper}
theorem RepL.splice {Γ:Froz} {ρ:Nat→Role} {bl:Nat→Nat} {w:World} {p:Place} {cs new:List CV} {vs us:List Value} (h:RepL Γ ρ bl w p cs vs) (off:Nat) (hn:new.length=us.length) (hoff:off+new.length≤cs.length)
  (hr: ∀(i:Nat) c u,new[i]? =some c→us[i]? =some u→RepC1 Γ ρ bl w p (off+i) c u) :RepL Γ ρ bl w p (splice off new cs) (vs.take off++us++vs.drop (off+us.length)):=by
 have hl:=h.1
 refine ⟨by simp [B.splice];omega,fun i c v hc hv=> ?_⟩
 simp only [B.splice] at hc
 have e1:(cs.take off).length=off:=by simp;omega
 have e2:(vs.take off).length=off:=by simp;omega
 by_cases h1:i<off
 ·rw [List.append_assoc,List.getElem?_append_left (by omega)] at hc hv
  rw [List.getElem?_take,if_pos h1] at hc hv
  exact h.2 i c v hc hv
 ·by_cases h2:i<off+new.length
  ·rw [List.append_assoc,List.getElem?_append_right (by omega),List.getElem?_append_left (by omega)] at hc hv
   have:=hr (i-off) c v (by rwa [e1] at hc) (by rwa [e2] at hv)
   rwa [show off+(i-off) =i by omega] at this
  ·rw [List.getElem?_append_right (by simp;omega)] at hc hv
   rw [List.getElem?_drop] at hc hv
   have k1:off+new.length+(i-(cs.take off++new).length) =i:=by simp;omega
   have k2:off+us.length+(i-(vs.take off++us).length) =i:=by simp;omega
   rw [k1] at hc
   rw [k2] at hv
   exact h.2 i c v hc hv
theorem one_rep {Γ:Froz} {ρ:Nat→Role} {bl:Nat→Nat} {w:World} {p:Place} {i:Nat} {c:CV} {v:Value} (h:RepC1 Γ ρ bl w p i c v) (hc:c.one=true) :v.oneCell'=true:=by
 cases c with
 | d x=>exact Rep.one h hc
 | own sz l=>obtain ⟨ao,n,rfl,_⟩:=slice_form (Own.rep h);rfl
 | nils=>have h:v=_:=h;subst h;rfl
 | ptr b o=>have h:v=_:=h;subst h;rfl
 | sp b t=>rcases h with h | h<;>(subst h;rfl)
 | ep cs=>obtain ⟨a,rfl,_⟩:=h;rfl
 | rs z k o n=>rcases (h:RowH ρ bl z k o n v) with ⟨_,rfl | ⟨a,rfl⟩⟩ | ⟨c,cap,rfl,_⟩<;>rfl
 | ea z k i o=>obtain ⟨rfl,_⟩:=(h:RowA ρ bl z k i o v);rfl
 | fn f caps=>have h:v=_:=h;subst h;rfl
 | _=>simp [CV.one] at hc
theorem repC_one {Γ:Froz} {ρ:Nat→Role} {bl:Nat→Nat} {w:World} {p:Place} {c:CV} {v:Value} (h:RepC Γ ρ bl w p c v) (hc:c.one=true) :RepC1 Γ ρ bl w p 0 c v:=by
 cases c<;>first | exact h | simp [CV.one] at hc
theorem ment_one {c:CV} {b:Nat} (hc:c.one=true) (h:c.ment1 b) :c.ment b:=by
 cases c<;>first | exact h | simp [CV.one] at hc
theorem rep_cells {Γ:Froz} {ρ:Nat→Role} {bl:Nat→Nat} {w:World} {p:Place} {c:CV} {v:Value} (h:RepC Γ ρ bl w p c v) (h1:c.cells.all CV.one=true) :
  ∃vs:List Value,v.cells=vs.toArray∧RepL Γ ρ bl w p c.cells vs∧∀u∈vs,u.oneCell'=true:=by
 have key: ∀vs:List Value,RepL Γ ρ bl w p c.cells vs→∀u∈vs,u.oneCell'=true:=by
  intro vs hl u hu
  obtain ⟨i,hi,rfl⟩:=List.mem_iff_getElem.1 hu
  have hi':i<c.cells.length:=by rw [hl.1];exact hi
  exact one_rep (hl.2 i _ _ (List.getElem?_eq_getElem hi') (List.getElem?_eq_getElem hi)) (List.all_eq_true.1 h1 _ (List.getElem_mem hi'))
 have main: ∃vs:List Value,v.cells=vs.toArray∧RepL Γ ρ bl w p c.cells vs:=by
  cases c with
  | d x=>
   cases x with
   | agg ds=>
    have h:Rep Γ (.agg ds) v:=h
    cases h with
    | agg _ vs hl hf hr=>
     refine ⟨vs,rfl,by simpa [CV.cells] using hl,fun i c u hc hu=> ?_⟩
     simp only [CV.cells,List.getElem?_map,Option.map_eq_some_iff] at hc
     obtain ⟨d,hd,rfl⟩:=hc
     exact hr i d u hd hu
   | _=>
    have h:Rep Γ _ v:=h
    refine ⟨[v], ?_,rfl,fun i c u hc hu=> ?_⟩
    ·rw [Rep.cells1 h rfl]
    ·cases i with
     | zero=>simp [CV.cells] at hc hu;subst hc;subst hu;exact h
     | succ i=>simp [CV.cells] at hc
  | agg l=>
   obtain ⟨vs,rfl,hl⟩:=h
   exact ⟨vs,rfl,hl⟩
  | tup l=>simp [CV.cells,CV.one] at h1
  | junk=>simp [CV.cells,CV.one] at h1
  | line z l=>simp [CV.cells,CV.one] at h1
  | bld e f l=>simp [CV.cells,CV.one] at h1
  | arr z l=>simp [CV.cells,CV.one] at h1
  | _=>
   have h2:=one_rep (repC_one h rfl) rfl
   refine ⟨[v], ?_,rfl,fun i c u hc hu=> ?_⟩
   ·cases v<;>first | rfl | simp [Value.oneCell'] at h2
   ·cases i with
    | zero=>simp [CV.cells] at hc hu;subst hc;subst hu;exact repC_one h rfl
    | succ i=>simp [CV.cells] at hc
 obtain ⟨vs,h2,h3⟩:=main
 exact ⟨vs,h2,h3,key vs h3⟩
theorem ment_cells {c:CV} {b:Nat} (h1:c.cells.all CV.one=true) {x:CV} (hx:x∈c.cells) (hm:x.ment1 b) :c.ment b:=by
 cases c with
 | d y=>
  cases y with
  | agg ds=>
   simp only [CV.cells,List.mem_map] at hx
   obtain ⟨d,_,rfl⟩:=hx
   exact hm.elim
  | _=>simp [CV.cells] at hx;subst hx;exact hm.elim
 | agg l=>exact ⟨x,hx,hm⟩
 | tup l=>simp [CV.cells,CV.one] at h1
 | junk=>simp [CV.cells,CV.one] at h1
 | _=>simp [CV.cells] at hx;subst hx;exact hm
theorem run_storeCells_ok (g o:Nat) (t:TypeId) (fz:Nat×Nat) : ∀(vs:List Value) (i:Nat) (cur:Array Value) (w:World),OkFz fz cur.size→w.heap[g]? =some (.cells cur t fz)→o+i+vs.length≤cur.size→(∀v∈vs,v.oneCell'=true)→
  (storeCells ⟨g,o,none⟩ vs i).run P w= .ok () (w.setRow g (cur.toList.take (o+i) ++vs++cur.toList.drop (o+i+vs.length)).toArray)
 | [],i,cur,w,_,hg,_,_=>by
  simp only [storeCells,List.append_nil,List.length_nil,Nat.add_zero,List.take_append_drop,Array.toArray_toList]
  rw [setRow_self w g cur t fz hg]
  rfl
 | v :: rest,i,cur,w,hok,hg,hl,h1=>by
  have hi:o+i<cur.size:=by simp at hl;omega
  have hadd:(⟨g,o,none⟩ :Addr).add i= ⟨g,o+i,none⟩:=by unfold Addr.add;split<;>simp_all
  have hcell:w.cell? ⟨g,o+i,none⟩ =some cur[o+i]:=by simp [World.cell?,hg,hi]
  have hfro:w.frozen? ⟨g,o+i,none⟩ =false:=by
   simp only [World.frozen?,hg]
   rcases hok with rfl | hok
   ·simp
   ·simp;omega
  have hst:(store ((⟨g,o,none⟩ :Addr).add i) v).run P w= .ok () (w.setRow g (cur.setIfInBounds (o+i) v)):=by
   rw [hadd,run_store P w _ v _ (h1 v (by simp)),hcell]
   simp [hfro,setCell_eq_setRow w g (o+i) cur t fz v hg]
  have ih:=run_storeCells_ok g o t fz rest (i+1) (cur.setIfInBounds (o+i) v) (w.setRow g (cur.setIfInBounds (o+i) v)) (by simpa using hok) (setRow_heap w g cur _ t _ hg) (by simp at hl⊢;omega) (fun x hx=>h1 x (by simp [hx]))
  simp only [storeCells,Sem.run_bind,hst,Result.andThen_ok,ih,setRow_setRow]
  congr 3
  have e:=list_seg_step cur.toList (o+i) v rest (by simp at hl⊢;omega)
  simpa [Array.toList_setIfInBounds,Nat.add_assoc] using e
theorem run_storeVar {t:TypeId} {ti:TypeInfo} {v:Value} {vs:List Value} {n g off:Nat} {arr:Array Value} {e:TypeId} {w:World} (hi:P.info? t=some ti) (hn:ti.size=n) (hv:v.cells=vs.toArray) (hl:vs.length=n) (hg:w.heap[g]? =some (.cells arr e (0,0))) (hoff:off+n≤arr.size)
  (h1: ∀u∈vs,u.oneCell'=true) :(storeVar t ⟨g,off,none⟩ v).run P w= .ok () (w.setRow g (arr.toList.take off++vs++arr.toList.drop (off+vs.length)).toArray):=by
 have:=run_storeCells_at P g off e vs 0 arr w hg (by omega) h1
 simp only [Nat.add_zero] at this
 simp [storeVar,sizeOf,typeInfo,hi,hn,hv,hl,this]
theorem After.skip {K:St→Prop} {Γ:Froz} {ρ:Nat→Role} {bl:Nat→Nat} {st:St} {a:Act} {w w':World} {Q:Exit→Act→World→Prop} (hdst:o.dst=none) (hd:a.defers= []) (hrun:(execOp a.eval o).run P w= .ok .skip w') (h:After K Γ ρ bl w st a.tmps w') :
  o.wp P a w (fun a' w'=>a'.defers= []∧After K Γ ρ bl w st a'.tmps w') Q:=by
 unfold Oper.wp
 rw [hrun,Oper.upon_skip]
 exact ⟨by rw [put_defers];exact hd,by rw [put_tmps,hdst];exact h⟩
theorem asE_rep {Γ:Froz} {ρ:Nat→Role} {bl:Nat→Nat} {w:World} {p:Place} {i:Nat} {c:CV} {v:Value} {nl:Option Nat} {d:D} (h:RepC1 Γ ρ bl w p i c v) (hd:c.asE nl=some d) :Rep Γ d v:=by
 have main: ∀x,c.asD=some x→Rep Γ x.norm1 v:=fun x hx=>(rep_asD h hx).norm1
 cases c with
 | nils=>
  simp only [CV.asE,Option.map_eq_some_iff] at hd
  obtain ⟨z,_,rfl⟩:=hd
  have h:v= .slice none 0 0:=h
  rw [h];exact .nil z
 | d x=>simp only [CV.asE,CV.asD,Option.map_some,Option.some.injEq] at hd;subst hd;exact main x rfl
 | own z l=>simp only [CV.asE,CV.asD,Option.map_some,Option.some.injEq] at hd;subst hd;exact main _ rfl
 | fn f caps=>
  cases caps with
  | nil=>simp only [CV.asE,CV.asD,Option.map_some,Option.some.injEq] at hd;subst hd;exact main _ rfl
  | cons _ _=>simp [CV.asE,CV.asD] at hd
 | _=>simp [CV.asE,CV.asD] at hd
theorem asE_one {c:CV} {nl:Option Nat} {d:D} (hd:c.asE nl=some d) (hf:d.flat=true) :c.one=true:=by
 cases c with
 | nils=>rfl
 | d x=>simp only [CV.asE,CV.asD,Option.map_some,Option.some.injEq] at hd;subst hd;rw [norm1_flat] at hf;exact hf
 | own z l=>rfl
 | fn f caps=>rfl
 | _=>simp [CV.asE,CV.asD] at hd
theorem allE_flat {nl:Option Nat}: ∀{cs:List CV} {ds:List D},allE nl cs=some ds→∀d∈ds,d.flat=true
 | [],ds,h=>by simp only [allE,Option.some.injEq] at h;subst h;simp
 | c :: r,ds,h=>by
  simp only [allE] at h
  split at h
  ·rename_i x xs hx hxs
   split at h
   ·rename_i hf
    simp only [Option.some.injEq] at h;subst h
    intro d hd
    rcases List.mem_cons.1 hd with rfl | hd
    ·exact hf
    ·exact allE_flat hxs d hd
   ·cases h
  ·cases h
theorem allE_spec {nl:Option Nat}: ∀{cs:List CV} {ds:List D},allE nl cs=some ds→cs.length=ds.length∧cs.all CV.one=true∧∀(i:Nat) c d,cs[i]? =some c→ds[i]? =some d→c.asE nl=some d
 | [],ds,h=>by simp only [allE,Option.some.injEq] at h;subst h;simp
 | c :: r,ds,h=>by
  simp only [allE] at h
  split at h
  ·rename_i x xs hx hxs
   split at h
   ·rename_i hf
    simp only [Option.some.injEq] at h;subst h
    obtain ⟨h1,h2,h3⟩:=allE_spec hxs
    refine ⟨by simp [h1],by simp [asE_one hx hf];simpa using h2,fun i c' d hc hd=> ?_⟩
    cases i with
    | zero=>simp at hc hd;subst hc;subst hd;exact hx
    | succ i=>exact h3 i c' d hc hd
   ·cases h
  ·cases h
theorem allE_rep {Γ:Froz} {ρ:Nat→Role} {bl:Nat→Nat} {w:World} {p:Place} {c:CV} {v:Value} {nl:Option Nat} {ag:Bool} {ds:List D} (h:RepC Γ ρ bl w p c v) (hd:allE nl (if ag then c.cells else [c]) =some ds) :
  ∃vs:List Value,v.cells=vs.toArray∧vs.length=ds.length∧(∀u∈vs,u.oneCell'=true)∧∀(i:Nat) d u,ds[i]? =some d→vs[i]? =some u→Rep Γ d u:=by
 obtain ⟨h1,h2,h3⟩:=allE_spec hd
 have hcc:(if ag then c.cells else [c]) =c.cells:=by
  cases ag with
  | true=>rfl
  | false=>
   simp at h2
   cases c with
   | d x=>cases x<;>first | (simp [CV.one,D.flat] at h2;done) | rfl
   | _=>first | (simp [CV.one] at h2;done) | rfl
 rw [hcc] at h1 h2 h3
 obtain ⟨vs,hv,hr,hu⟩:=rep_cells h h2
 refine ⟨vs,hv,by rw [←hr.1,h1],hu,fun i d u hdi hui=> ?_⟩
 have hi:i<c.cells.length:=by rw [h1];exact (List.getElem?_eq_some_iff.1 hdi).1
 exact asE_rep (hr.2 i _ u (List.getElem?_eq_getElem hi) hui) (h3 i _ d (List.getElem?_eq_getElem hi) hdi)
theorem run_storeVar_ok {t:TypeId} {ti:TypeInfo} {v:Value} {vs:List Value} {n g off:Nat} {arr:Array Value} {e:TypeId} {fz:Nat×Nat} {w:World} (hi:P.info? t=some ti) (hn:ti.size=n) (hv:v.cells=vs.toArray) (hl:vs.length=n) (hg:w.heap[g]? =some (.cells arr e fz)) (hok:OkFz fz arr.size) (hoff:off+n≤arr.size)
  (h1: ∀u∈vs,u.oneCell'=true) :(storeVar t ⟨g,off,none⟩ v).run P w= .ok () (w.setRow g (arr.toList.take off++vs++arr.toList.drop (off+vs.length)).toArray):=by
 have:=run_storeCells_ok (P:=P) g off e fz vs 0 arr w hok hg (by omega) h1
 simp only [Nat.add_zero] at this
 simp [storeVar,sizeOf,typeInfo,hi,hn,hv,hl,this]
theorem spliceD_cells {off:Nat} {ds:List D} {x:D} (hx:off+ds.length≤x.cells.length) :(spliceD off ds x).cells=x.cells.take off++ds++x.cells.drop (off+ds.length)∨∃d,ds= [d]∧off=0∧x.cells= [x]∧spliceD off ds x=d:=by
 cases x with
 | agg cs=>exact .inl rfl
 | _=>
  simp only [D.cells,List.length_singleton] at hx
  match ds with
  | []=>
   left
   simp only [spliceD,List.getD_nil,D.cells,List.append_nil,List.length_nil,Nat.add_zero,List.take_append_drop]
  | [d]=>
   right
   refine ⟨d,rfl,by simp at hx;omega,rfl,rfl⟩
  | _ :: _ :: _=>simp at hx;omega
theorem spliceD_cells' {off:Nat} {ds:List D} {x:D} (hx:off+ds.length≤x.cells.length) (hf: ∀d∈ds,d.flat=true) :(spliceD off ds x).cells=x.cells.take off++ds++x.cells.drop (off+ds.length):=by
 rcases spliceD_cells hx with h | ⟨d,rfl,rfl,h1,h2⟩
 ·exact h
 ·have hd:=hf d (by simp)
  rw [h2,h1]
  cases d<;>first | rfl | simp [D.flat] at hd
theorem flatten_set {l:List D} {sz:Nat} (h: ∀x∈l,x.cells.length=sz) {i:Nat} (hi:i<l.length) (y:D) :flatten (l.set i y) =(flatten l).take (i*sz) ++y.cells++(flatten l).drop ((i+1) *sz):=by
 rw [List.set_eq_take_append_cons_drop,if_pos hi,flatten_append,←flatten_take h,←flatten_drop h]
 simp [flatten]
theorem setEl_rep {Γ:Froz} {sz i off:Nat} {l ds:List D} {arr:Array Value} {vs:List Value} (r:RepF Γ sz l (arr.toList.take (l.length*sz))) (hi:i<l.length) (hoff:off+ds.length≤sz) (hf: ∀d∈ds,d.flat=true)
  (hl:vs.length=ds.length) (hrep: ∀(j:Nat) d u,ds[j]? =some d→vs[j]? =some u→Rep Γ d u) (hfit:i*sz+off+vs.length≤arr.size) :
  RepF Γ sz (setEl l i off ds) ((arr.toList.take (i*sz+off) ++vs++arr.toList.drop (i*sz+off+vs.length)).toArray.toList.take ((setEl l i off ds).length*sz)):=by
 have e:l.getD i .nilp=l[i]:=by simp [List.getD_eq_getElem?_getD,hi]
 have hcl:=r.uni l[i] (List.getElem_mem hi)
 have hsc:=spliceD_cells' (x:=l[i]) (off:=off) (ds:=ds) (by omega) hf
 have hlen:(setEl l i off ds).length=l.length:=by simp [setEl]
 have hscl:(spliceD off ds l[i]).cells.length=sz:=by rw [hsc];simp;omega
 have hmul:(i+1) *sz≤l.length*sz:=Nat.mul_le_mul_right _ hi
 have hmul2:(i+1) *sz=i*sz+sz:=by rw [Nat.add_mul];omega
 have hal:(arr.toList.take (l.length*sz)).length=l.length*sz:=r.vs_len
 have hal2:l.length*sz≤arr.size:=by
  rw [List.length_take] at hal;simp at hal;omega
 have hflat:flatten (setEl l i off ds) =(flatten l).take (i*sz+off) ++ds++(flatten l).drop (i*sz+off+ds.length):=by
  unfold setEl
  rw [e,flatten_set r.uni hi,hsc]
  have hfl:flatten l=(flatten l).take (i*sz) ++l[i].cells++(flatten l).drop ((i+1) *sz):=by
   have:=flatten_set r.uni hi l[i]
   rwa [List.set_getElem_self] at this
  have hfll:=flatten_length r.uni
  have ht:((flatten l).take (i*sz)).length=i*sz:=by rw [List.length_take,hfll];omega
  have h1:(flatten l).take (i*sz+off) =(flatten l).take (i*sz) ++l[i].cells.take off:=by
   conv=>lhs;rw [hfl]
   rw [List.append_assoc,List.take_append,ht,List.take_of_length_le (by rw [ht];omega),show i*sz+off-i*sz=off by omega,List.take_append_of_le_length (by omega)]
  have h2:(flatten l).drop (i*sz+off+ds.length) =l[i].cells.drop (off+ds.length) ++(flatten l).drop ((i+1) *sz):=by
   conv=>lhs;rw [hfl]
   rw [List.append_assoc,List.drop_append,ht,List.drop_of_length_le (by rw [ht];omega),List.nil_append,show i*sz+off+ds.length-i*sz=off+ds.length by omega,List.drop_append_of_le_length (by omega)]
  rw [h1,h2]
  simp [List.append_assoc]
 have hval:(arr.toList.take (i*sz+off) ++vs++arr.toList.drop (i*sz+off+vs.length)).toArray.toList.take ((setEl l i off ds).length*sz) =(arr.toList.take (l.length*sz)).take (i*sz+off) ++vs++(arr.toList.take (l.length*sz)).drop (i*sz+off+vs.length):=by
  rw [hlen]
  have h1:(arr.toList.take (i*sz+off)).length=i*sz+off:=by rw [List.length_take];simp;omega
  simp only [List.append_assoc]
  rw [List.take_append,h1,List.take_take,List.take_take,List.take_append]
  congr 1
  ·congr 1;omega
  ·congr 1
   ·rw [List.take_of_length_le (by omega)]
   ·rw [List.drop_take];congr 1;omega
 rw [hval]
 generalize hL:arr.toList.take (l.length*sz) =L at r hal
 have hfll:=flatten_length r.uni
 refine ⟨fun x hx=> ?_,fun d hd=> ?_, ?_,fun j d u hd hu=> ?_⟩
 ·unfold setEl at hx
  rcases List.mem_or_eq_of_mem_set hx with hx | rfl
  ·exact r.uni x hx
  ·rw [e];exact hscl
 ·rw [hflat] at hd
  simp only [List.mem_append] at hd
  rcases hd with (hd | hd) | hd
  ·exact r.flat d (List.mem_of_mem_take hd)
  ·exact hf d hd
  ·exact r.flat d (List.mem_of_mem_drop hd)
 ·rw [hflat]
  simp only [List.length_append,List.length_take,List.length_drop,hfll,hal]
  omega
 ·rw [hflat] at hd
  have l1:((flatten l).take (i*sz+off)).length=i*sz+off:=by rw [List.length_take,hfll];omega
  have l2:(L.take (i*sz+off)).length=i*sz+off:=by rw [List.length_take,hal];omega
  by_cases c1:j<i*sz+off
  ·rw [List.append_assoc,List.getElem?_append_left (by omega),List.getElem?_take,if_pos c1] at hd hu
   exact r.rep j d u hd hu
  ·rw [List.append_assoc,List.getElem?_append_right (by omega)] at hd hu
   rw [l1] at hd
   rw [l2] at hu
   by_cases c2:j-(i*sz+off) <ds.length
   ·rw [List.getElem?_append_left (by omega)] at hd hu
    exact hrep _ d u hd hu
   ·rw [List.getElem?_append_right (by omega),List.getElem?_drop] at hd hu
    rw [hl] at hu
    exact r.rep _ d u hd hu
theorem SR.setRowEl {Γ:Froz} {ρ:Nat→Role} {bl:Nat→Nat} {st:St} {tmps:Array Value} {w:World} (h:SR Γ ρ bl st tmps w) {k z cap:Nat} {cs:List CV} {l:List D} (hbx:st.bx k=some cs) (hro:rowOf cs=some (z,l)) (hrole:ρ (bl k) = .row k z cap)
  {arr arr':Array Value} {e:TypeId} {fz:Nat×Nat} (h1:w.heap[bl k]? =some (.cells arr e fz)) (hsz:arr'.size=arr.size) (l':List D) (hle:l'.length≤cap) (hrf:RepF Γ z l' (arr'.toList.take (l'.length*z))) :
  SR Γ ρ bl (st.set (.b k) (.agg [.arr z l'])) tmps (w.setRow (bl k) arr')∧Fr w Γ ρ (w.setRow (bl k) arr') Γ ρ:=by
 obtain ⟨arr0,e0,fz0,q1,q2,q3,q4,_,_,q8⟩:=h.real hbx hro hrole
 rw [h1] at q1
 cases q1
 have hsame:=setRow_heap w (bl k) arr arr' e fz h1
 have hoth:=fun j (hj:j≠bl k)=>setRow_other w (bl k) j arr' hj
 have ownk: ∀g (p:Place) i,ρ g= .own p i→ρ g=ρ g∧(w.setRow (bl k) arr').heap[g]? =w.heap[g]? ∧∀o,Γ ⟨g,o,none⟩ =Γ ⟨g,o,none⟩:=fun g p i hg=>
  ⟨rfl,hoth g (by intro e;rw [e,hrole] at hg;cases hg),fun _=>rfl⟩
 refine ⟨⟨fun a v ha=> ?_,h.len,fun i c hc=> ?_,fun j cj hcj hrj=> ?_,fun j cj z' l2 hcj hrj=> ?_,fun g j z' cap' hc=> ?_,fun p j hj=> ?_,fun g hg=>by simpa using h.rho g hg,h.gl,fun j i t cj hcj hj=> ?_⟩,⟨.refl _,by simp,rfl,rfl,rfl,fun g hg hp=>⟨hoth g (by intro e;rw [e,hrole] at hp;cases hp),hp⟩,fun _ _ h=> .inl h,fun _ _ _ _ e _ _=>e⟩⟩
 ·have hne:a.block≠bl k:=by
   intro e'
   have hsp:a.spot=none:=by
    have:=h.agree a v ha
    unfold World.cell? at this
    split at this
    ·split at this
     ·cases this
     ·rename_i hh;simpa using hh
    ·cases this
   rw [Addr.eq_lit a hsp,e',q8] at ha;cases ha
  rw [World.cell?_of_block (hoth _ hne)];exact h.agree a v ha
 ·obtain ⟨v,hv,hrv⟩:=h.slots i c hc
  exact ⟨v,hv,hrv.keep (.refl _) (fun j _ g hg=>ownk g _ _ hg) fun _ _=>RK.refl⟩
 ·rw [St.bx_setBox] at hcj
  split at hcj
  ·obtain rfl: [CV.arr z l']=cj:=by simpa using hcj
   cases hrj
  ·rename_i hne
   obtain ⟨arrk,ek,k1,k2,k3,k4⟩:=h.boxes j cj hcj hrj
   have hbk:bl j≠bl k:=by intro e';rw [e',hrole] at k2;cases k2
   exact ⟨arrk,ek,by rw [hoth _ hbk];exact k1,k2,k3.keep (.refl _) (fun j _ g hg=>ownk g _ _ hg) fun _ _ _ _=>RK.refl,k4⟩
 ·rw [St.bx_setBox] at hcj
  split at hcj
  ·rename_i e';subst e'
   obtain rfl: [CV.arr z l']=cj:=by simpa using hcj
   simp only [rowOf,Option.some.injEq,Prod.mk.injEq] at hrj
   obtain ⟨rfl,rfl⟩:=hrj
   exact .inr ⟨arr',e,fz,cap,hsame,hrole,hle,hrf⟩
  ·rename_i hne
   exact (h.rows j cj z' l2 hcj hrj).keep (.refl _) fun cap' hc=>⟨rfl,hoth _ (by intro e';rw [e',hrole] at hc;injection hc with hc;exact hne hc.symm)⟩
 ·by_cases e':g=bl k
  ·subst e'
   rw [hrole] at hc;cases hc
   exact ⟨arr',e,fz,hsame,by rw [hsz];exact q2,by rw [hsz];exact q3,q4,q8⟩
  ·obtain ⟨arr2,e2,fz2,r1,r2⟩:=h.rowk g j z' cap' hc
   exact ⟨arr2,e2,fz2,by rw [hoth g e'];exact r1,r2⟩
 ·rw [St.get_setBox] at hj
  rw [St.bx_setBox]
  split at hj
  ·obtain ⟨c,hc,hc'⟩:=hj
   simp at hc;subst hc
   exact hc'.elim
  ·split
   ·rfl
   ·exact h.closed p j hj
 ·rw [St.bx_setBox] at hcj
  split at hcj
  ·obtain rfl: [CV.arr z l']=cj:=by simpa using hcj
   cases hj
  ·rename_i hne
   have hrk:rowOf cj=none:=by
    unfold rowOf
    split
    ·simp at hj
    ·rfl
   obtain ⟨arrk,ek,k1,k2,k3,k4⟩:=h.boxes j cj hcj hrk
   have hbk:bl j≠bl k:=by intro e';rw [e',hrole] at k2;cases k2
   rw [hoth _ hbk];exact h.bty j i t cj hcj hj
theorem g_store {x y:Operand} {ax ay:AX} {t:TypeId} {ag:Bool} {n:Nat} {ti:TypeInfo} (nl:Option Nat) (ho:o.op= .store t x y) (hdst:o.dst=none) (hx:trX x=some ax) (hy:trX y=some ay) (hi:P.info? t=some ti) (hn:ti.size=n) (hag1:ag=false→n=1) :
  Good P o ((AI.store ag n ax ay nl).pm C okr okw o.dst):=by
 intro Γ ρ bl st a w h hgz hd K hw Q
 simp only [AI.pm] at hw
 rw [ev_wp,ev_wp] at hw
 have e:=rep_ax hx h
 have ey:=rep_ax hy h
 have my:=fun b hb=>ment_ax (b:=b) hy h hb
 split at hw
 ·rename_i b off hb
  rw [hb] at e
  have e:a.eval x= .pointer (some ⟨bl b,off,none⟩):=e
  split at hw
  ·change (match st.get (.b b) with | .agg cs=>_ | _=>PM.fail).wp K st at hw
   split at hw
   ·rename_i cs hcs
    have hbx:=get_b_agg hcs
    obtain ⟨⟨hlen,hoff,hone,hro⟩,hw⟩:=hw
    obtain ⟨arr,ety,h1,h2,h3,h4⟩:=h.boxes b cs hbx hro
    have hal:arr.size=cs.length:=by have:=h3.1;simpa using this.symm
    have hrunS: ∀vs:List Value,(a.eval y).cells=vs.toArray→vs.length=n→(∀u∈vs,u.oneCell'=true)→(execOp a.eval o).run P w= .ok .skip (w.setRow (bl b) (arr.toList.take off++vs++arr.toList.drop (off+vs.length)).toArray):=by
     intro vs hv hl hu
     have:=run_storeVar (P:=P) (off:=off) hi hn hv hl h1 (by omega) hu
     simp [execOp,ho,Instr.storeAt,e,Instr.sureAddr,this]
    cases ag with
    | true=>
     simp only [if_true] at hw hlen hone
     obtain ⟨vs,hv,hl,hu⟩:=rep_cells ey hone
     have hvl:vs.length=n:=by rw [←hl.1];exact hlen
     have hsp:=h3.splice (new:=(ay.val st).cells.map CV.copyB) (us:=vs) off (by simpa using hl.1) (by simp;omega) fun i c u hc hu=>by
       rw [List.getElem?_map,Option.map_eq_some_iff] at hc
       obtain ⟨c',hc',rfl⟩:=hc
       exact (hl.2 i c' u hc' hu).copyB
     have hs:=h.setBox hbx hro (splice off ((ay.val st).cells.map CV.copyB) cs) (arr.toList.take off++vs++arr.toList.drop (off+vs.length)).toArray hsp (fun c hc k hk=> ?_) (fun k t e=> .inl (splice_sp (fun c hc=>by obtain ⟨c',_,rfl⟩:=List.mem_map.1 hc;exact copyB_sp c') e))
     ·exact After.skip hdst hd (hrunS vs hv hvl hu) ⟨Γ,ρ,bl,_,hw.2,hs.1,hs.2,fun _ _=>rfl⟩
     ·simp only [splice,List.mem_append,List.mem_map] at hc
      rcases hc with (hc | ⟨c',hc',rfl⟩) | hc
      ·exact h.closed (.b b) k (by rw [St.get_bx hbx];exact ⟨c,List.mem_of_mem_take hc,hk⟩)
      ·exact my k (ment_cells hone hc' (copyB_ment1 hk))
      ·exact h.closed (.b b) k (by rw [St.get_bx hbx];exact ⟨c,List.mem_of_mem_drop hc,hk⟩)
    | false=>
     obtain rfl:=hag1 rfl
     simp only [Bool.false_eq_true,if_false,List.all_cons,List.all_nil,Bool.and_true] at hw hone
     have h1c:=one_rep (repC_one ey hone) hone
     have hvc:(a.eval y).cells= [a.eval y].toArray:=by
      generalize a.eval y=u at h1c
      cases u<;>first | rfl | simp [Value.oneCell'] at h1c
     have hrun:=hrunS [a.eval y] hvc rfl (by simpa using h1c)
     have hment: ∀(c:CV) (d:CV),c∈splice off [d] cs→(∀k,d.ment1 k→(st.bx k).isSome=true)→∀k,c.ment1 k→(st.bx k).isSome=true:=by
      intro c d hc hd' k hk
      simp only [splice,List.mem_append,List.mem_singleton] at hc
      rcases hc with (hc | rfl) | hc
      ·exact h.closed (.b b) k (by rw [St.get_bx hbx];exact ⟨c,List.mem_of_mem_take hc,hk⟩)
      ·exact hd' k hk
      ·exact h.closed (.b b) k (by rw [St.get_bx hbx];exact ⟨c,List.mem_of_mem_drop hc,hk⟩)
     have plain: ∀d:CV,isSpC d=false→RepC1 Γ ρ bl w (.b b) off d (a.eval y)→(∀k,d.ment1 k→(st.bx k).isSome=true)→(PM.set (.b b) (.agg (splice off [d] cs)) .done).wp K st→
       o.wp P a w (fun a' w'=>a'.defers= []∧After K Γ ρ bl w st a'.tmps w') Q:=by
      intro d hd0 hd1 hd2 hw
      have hs:=h.setBox hbx hro (splice off [d] cs) (arr.toList.take off++ [a.eval y]++arr.toList.drop (off+1)).toArray (by
       simpa using h3.splice off (new:=[d]) (us:=[a.eval y]) rfl (by simp;omega) fun i c u hc hu=>by
        cases i with
        | zero=>simp at hc hu;subst hc;subst hu;exact hd1
        | succ i=>simp at hc) (fun c hc k hk=>hment c d hc hd2 k hk) (fun k t e=> .inl (splice_sp (by simpa using hd0) e))
      exact After.skip hdst hd hrun ⟨Γ,ρ,bl,_,hw.2,hs.1,hs.2,fun _ _=>rfl⟩
     cases ay with
     | t n=>
      simp only [AX.val] at hw hone ey my
      cases hv:st.get (.s n) with
      | own sz l=>
       simp only [hv,isOwn,if_true] at hw
       obtain ⟨ρ',st',g1,g2,g3,g4,rfl⟩:=strip_sound h hy hv hw (.b b) off
       have hbx':(st.set (.s n) (.d (.slice sz l))).bx b=some cs:=hbx
       have hs:=g1.setBox hbx' hro (splice off [.own sz l] cs) (arr.toList.take off++ [a.eval y]++arr.toList.drop (off+1)).toArray (by
        obtain ⟨arr',e',k1,k2,k3,k4⟩:=g1.boxes b cs hbx' hro
        rw [h1] at k1;cases k1
        simpa using k3.splice off (new:=[.own sz l]) (us:=[a.eval y]) rfl (by simp;omega) fun i c u hc hu=>by
         cases i with
         | zero=>simp at hc hu;subst hc;subst hu;exact g2
         | succ i=>simp at hc) (fun c hc k hk=>hment c (.own sz l) hc (fun _ h=>h.elim) k hk) (fun k t e=> .inl (splice_sp (by simp [isSpC]) e))
       exact After.skip hdst hd hrun ⟨Γ,ρ',bl,_,g4.2,hs.1,g3.trans hs.2,fun _ _=>rfl⟩
      | _=>
       simp only [hv] at hw hone ey my
       exact plain _ (copy1_sp _) ((repC_one ey hone).copy1) (fun k hk=>my k (ment_one hone (copy1_ment1 hk))) hw
     | c v=>
      simp only [AX.val] at hw hone ey my
      cases v with
      | nils=>
       have hv:a.eval y= .slice none 0 0:=ey
       refine plain _ (by cases nl<;>rfl) ?_ ?_ hw
       ·cases nl with
        | none=>exact hv
        | some sz=>exact .inl ⟨0,[],by rw [hv];exact rowS_nil w 0 sz,⟨by simp,by simp [flatten],rfl,by simp [flatten]⟩,by rw [hv];simp [Value.ownBlock]⟩
       ·intro k hk;cases nl<;>exact hk.elim
      | own sz l=>
       exfalso
       cases y with
       | const u=>
        simp only [trX,Option.map_eq_some_iff] at hy
        obtain ⟨c,hc',e'⟩:=hy
        injection e' with e';subst e'
        have:=(cvOf_plain hc').1
        simp [CV.noOwn] at this
       | func f=>simp [trX] at hy
       | tmp n=>simp [trX] at hy
       | global g=>simp [trX] at hy
      | sp k t=>
       exfalso
       cases y with
       | const u=>
        simp only [trX,Option.map_eq_some_iff] at hy
        obtain ⟨c,hc',e'⟩:=hy
        injection e' with e';subst e'
        exact (cvOf_plain hc').2 k rfl
       | func f=>simp [trX] at hy
       | tmp n=>simp [trX] at hy
       | global g=>simp [trX] at hy
      | _=>exact plain _ rfl ((repC_one ey hone).place (by first | rfl | simp [CV.one] at hone)) (fun k hk=>my k (ment_one hone hk)) hw
   ·exact hw.elim
  ·exact hw.elim
 ·rename_i z k i off hb
  rw [hb] at e
  obtain ⟨e,cap,hrole,_⟩ :RowA ρ bl z k i off (a.eval x):=e
  split at hw
  ·change (match rowD (st.get (.b k)) with | some (z',l)=>_ | none=>PM.fail).wp K st at hw
   split at hw
   ·rename_i z' l hrd
    split at hw
    ·rename_i ds hds
     obtain ⟨⟨hdn,hz,hi',hoff⟩,hw⟩:=hw
     subst hz
     obtain ⟨cs,hbx,hro⟩:=get_b_row hrd
     obtain ⟨arr,ety,fz,h1,hfz,hsz,_,hle,hrf,h4⟩:=h.real hbx hro hrole
     obtain ⟨vs,hv,hl,hu,hrep⟩:=allE_rep ey hds
     have hfit:i*z'+off+vs.length≤arr.size:=by
      have:i*z'+z'≤l.length*z':=by rw [←Nat.succ_mul];exact Nat.mul_le_mul_right _ hi'
      have:l.length*z'≤cap*z':=Nat.mul_le_mul_right _ hle
      omega
     have hrun:(execOp a.eval o).run P w= .ok .skip (w.setRow (bl k) (arr.toList.take (i*z'+off) ++vs++arr.toList.drop (i*z'+off+vs.length)).toArray):=by
      have:=run_storeVar_ok (P:=P) (off:=i*z'+off) hi hn hv (by omega) h1 hfz (by omega) hu
      simp [execOp,ho,Instr.storeAt,e,Instr.sureAddr,this]
     obtain ⟨g1,g2⟩:=h.setRowEl hbx hro hrole h1 (arr':=(arr.toList.take (i*z'+off) ++vs++arr.toList.drop (i*z'+off+vs.length)).toArray) (by simp;omega) (setEl l i off ds) (by simp [setEl];exact hle)
      (setEl_rep hrf hi' (by omega) (fun d hd=>(allE_flat hds d hd)) hl hrep hfit)
     exact After.skip hdst hd hrun ⟨Γ,ρ,bl,_,hw.2,g1,g2,fun _ _=>rfl⟩
    ·exact hw.elim
   ·exact hw.elim
  ·exact hw.elim
 ·exact hw.elim
def zchk:CV→Value→Bool
 | .d (.bool b), .bool b'=>b==b'
 | .d (.int k n), .int k' n'=>decide (k=k') &&n==n'
 | .d (.str []), .string s=>s.size==0
 | .own _ [], .slice none 0 0=>true
 | .d (.nils _), .slice none 0 0=>true
 | .d .nilp, .pointer none=>true
 | .d (.fn none), .nilFunc=>true
 | .junk,_=>true
 | .nils, .slice none 0 0=>true
 | .sp _ _, .pointer none=>true
 | .bld _ _ [], .slice none 0 0=>true
 | _,_=>false
def zchkL:List CV→List Value→Bool
 | [],[]=>true
 | c :: r,v :: t=>zchk c v&&zchkL r t
 | _,_=>false
theorem zchk_rep {c:CV} {v:Value} (h:zchk c v=true) (Γ:Froz) (ρ:Nat→Role) (bl:Nat→Nat) (w:World) (p:Place) (i:Nat) :RepC1 Γ ρ bl w p i c v∧∀b,c.ment1 b→∃t,c= .sp b t:=by
 unfold zchk at h
 split at h
 ·simp at h;subst h;exact ⟨.bool _,fun _ h=>h.elim⟩
 ·simp at h;obtain ⟨rfl,rfl⟩:=h;exact ⟨.int _ _,fun _ h=>h.elim⟩
 ·rename_i s
  have:s= ⟨#[]⟩:=by
   have h:s.data.size=0:=by simpa using h
   cases s;simp at h;simp [h]
  subst this;exact ⟨.str [],fun _ h=>h.elim⟩
 ·exact ⟨.inl ⟨0,[],rowS_nil w 0 _,⟨by simp,by simp [flatten],rfl,by simp [flatten]⟩,by simp [Value.ownBlock]⟩,fun _ h=>h.elim⟩
 ·exact ⟨.nils _,fun _ h=>h.elim⟩
 ·exact ⟨.nilp,fun _ h=>h.elim⟩
 ·exact ⟨.nofn,fun _ h=>h.elim⟩
 ·exact ⟨trivial,fun _ h=>h.elim⟩
 ·exact ⟨rfl,fun _ h=>h.elim⟩
 ·exact ⟨.inl rfl,fun b h=>⟨_,by rw [show _=b from h]⟩⟩
 ·exact ⟨⟨fun _=>rfl,World.ownsRowF_nil w 0 _ 1,by simp [Value.ownBlock]⟩,fun _ h=>h.elim⟩
 ·cases h
theorem zchkL_rep {Γ:Froz} {ρ:Nat→Role} {bl:Nat→Nat} {w:World} {p:Place}: ∀{cs:List CV} {vs:List Value},zchkL cs vs=true→cs.length=vs.length∧(∀k (i:Nat) c v,cs[i]? =some c→vs[i]? =some v→RepC1 Γ ρ bl w p (k+i) c v)∧∀c∈cs,∀b,c.ment1 b→∃t,c= .sp b t
 | [],[],_=>⟨rfl,by simp,by simp⟩
 | c :: r,v :: t,h=>by
  simp only [zchkL,Bool.and_eq_true] at h
  obtain ⟨h1,h2,h3⟩:=zchkL_rep (Γ:=Γ) (ρ:=ρ) (bl:=bl) (w:=w) (p:=p) h.2
  refine ⟨by simp [h1],fun k i c' v' hc hv=> ?_,fun c' hc b=> ?_⟩
  ·cases i with
   | zero=>simp at hc hv;subst hc;subst hv;exact (zchk_rep h.1 _ _ _ _ _ _).1
   | succ i=>have:=h2 (k+1) i c' v' hc hv;rwa [show k+1+i=k+(i+1) by omega] at this
  ·rcases List.mem_cons.1 hc with rfl | hc
   ·exact (zchk_rep h.1 (fun _=>none) (fun _=> .plain) id w (.s 0) 0).2 b
   ·exact h3 c' hc b
 | [],_ :: _,h=>by simp [zchkL] at h
 | _ :: _,[],h=>by simp [zchkL] at h
theorem setB_twice (b:Nat) (x y:List CV) : ∀l:List (Nat×List CV),setB b y (setB b x l) =setB b y l
 | []=>by simp [setB]
 | (k,v) :: r=>by
  by_cases e:(b==k) =true
  ·simp [e,setB]
  ·simp [e,setB,setB_twice b x y r]
def unSp:CV→CV
 | .sp _ _=> .junk
 | c=>c
def spOk (d:Option Nat) (t:Nat) :CV→Bool
 | .sp b k=>d==some b&&k==t
 | _=>true
theorem unSp_sp (c:CV) :isSpC (unSp c) =false:=by cases c<;>rfl
theorem unSp_ment {c:CV} {b:Nat} (h:c.ment1 b→∃t,c= .sp b t) : ¬(unSp c).ment1 b:=by
 intro hm
 cases c with
 | sp k t=>exact hm
 | _=>first | exact hm | (obtain ⟨t,e⟩:=h hm;cases e)
theorem unSp_rep {Γ:Froz} {ρ:Nat→Role} {bl:Nat→Nat} {w:World} {p:Place} {i:Nat} {c:CV} {v:Value} (h:RepC1 Γ ρ bl w p i c v) :RepC1 Γ ρ bl w p i (unSp c) v:=by
 cases c with
 | sp k t=>trivial
 | _=>exact h
theorem newBox_fin {K:St→Prop} {Γ:Froz} {ρ:Nat→Role} {bl:Nat→Nat} {st:St} {a:Act} {w:World} {Q:Exit→Act→World→Prop} {d:Nat} {cs:List CV} {arr:Array Value} {e:TypeId} (h:SR Γ ρ bl st a.tmps w) (hd:a.defers= []) (hdst:o.dst=some d)
  (hb:st.bx d=none) (hr:RepL Γ ρ bl w (.b d) cs arr.toList) (hm: ∀c∈cs,∀k,c.ment1 k→(st.bx k).isSome=true) (hsp: ∀k t,cs[0]? ≠some (.sp k t))
  (hrun:(execOp a.eval o).run P w= .ok (.value (.pointer (some ⟨w.heap.size,0,none⟩))) (w.alloc (.cells arr e)))
  (hw:(PM.set (.b d) (.agg cs) (.set (.s d) (.ptr d 0) .done)).wp K st) :o.wp P a w (fun a' w'=>a'.defers= []∧After K Γ ρ bl w st a'.tmps w') Q:=by
 unfold Oper.wp
 rw [hrun,Oper.upon_value]
 obtain ⟨h1,h2⟩:=h.newBox hb cs arr e hr hm hsp
 have h3:=h1.setSlot d (.ptr d 0) (.pointer (some ⟨w.heap.size,0,none⟩)) (by show _=_;rw [upd_same]) (fun b hb'=>by
  have:d=b:=hb'
  subst this;rw [St.bx_setBox,if_pos rfl];rfl)
 exact ⟨by rw [put_defers];exact hd,Γ,_,_,_,hw.2.2,by rw [put_tmps,hdst];exact h3,h2,fun b hb'=>upd_ne _ _ (by rintro rfl;have hb':=hb'.2;rw [hb] at hb';cases hb')⟩
theorem g_alloc {t:TypeId} {ti:TypeInfo} {z:Value} {zs:List CV} (ho:o.op= .alloc t) (hi:P.info? t=some ti) (hz:ti.zero=some z) (hzs:zchkL zs z.cells.toList=true) (hsp:zs.all (spOk o.dst t) =true) :Good P o ((AI.alloc zs).pm C okr okw o.dst):=by
 intro Γ ρ bl st a w h hgz hd K hw Q
 cases hdst:o.dst with
 | none=>rw [hdst] at hw;exact hw.elim
 | some d=>
  rw [hdst] at hw
  change (match st.get (.b d) with | .junk=>_ | _=>PM.fail).wp K st at hw
  split at hw
  ·rename_i hj
   obtain ⟨k1,k2,k3⟩:=zchkL_rep (Γ:=Γ) (ρ:=ρ) (bl:=bl) (w:=w) (p:= .b d) hzs
   have hb:=get_b_junk hj
   have hrun:(execOp a.eval o).run P w= .ok (.value (.pointer (some ⟨w.heap.size,0,none⟩))) (w.alloc (.cells z.cells t)):=by
    simp [execOp,ho,Instr.alloc,zeroValue,typeInfo,hi,hz,newVar,newRow]
   unfold Oper.wp
   rw [hrun,Oper.upon_value]
   have hz0:RepL Γ ρ bl w (.b d) (zs.map unSp) z.cells.toList:=⟨by simpa using k1,fun i c v hc hv=>by
    rw [List.getElem?_map,Option.map_eq_some_iff] at hc
    obtain ⟨c',hc',rfl⟩:=hc
    exact unSp_rep (by simpa using k2 0 i c' v hc' hv)⟩
   obtain ⟨h1,h2⟩:=h.newBox hb (zs.map unSp) z.cells t hz0 (fun c hc k hk=>by
    rw [List.mem_map] at hc
    obtain ⟨c',hc',rfl⟩:=hc
    exact (unSp_ment (k3 c' hc' k) hk).elim) (fun k t' e=>by
    have:=List.mem_of_getElem? e
    obtain ⟨c',_,e2⟩:=List.mem_map.1 this
    have:=unSp_sp c'
    rw [e2] at this;cases this)
   have hb2:(st.set (.b d) (.agg (zs.map unSp))).bx d=some (zs.map unSp):=by rw [St.bx_setBox,if_pos rfl]
   obtain ⟨k1',k2',_⟩:=zchkL_rep (Γ:=Γ) (ρ:=upd ρ w.heap.size (.box d)) (bl:=upd bl d w.heap.size) (w:=w.alloc (.cells z.cells t)) (p:= .b d) hzs
   have h4:=(h1.setBox hb2 hz0.noRow zs z.cells ⟨k1',fun i c v hc hv=>by simpa using k2' 0 i c v hc hv⟩ (fun c hc k hk=>by
    obtain ⟨t',e1⟩:=k3 c hc k hk
    subst e1
    have e2:=List.all_eq_true.1 hsp _ hc
    have:d=k:=by
     simp [spOk,hdst] at e2
     exact e2.1
    subst this
    rw [St.bx_setBox,if_pos rfl];rfl) (fun k t' e=> .inr (by
    have e2:=List.all_eq_true.1 hsp _ (List.mem_of_getElem? e)
    simp [spOk] at e2
    rw [e2.2,upd_same]
    exact ⟨_,_,heap_alloc_new w _⟩))).1
   rw [setRow_self _ _ z.cells t (0,0) (by rw [upd_same];exact heap_alloc_new w _)] at h4
   have hst:(st.set (.b d) (.agg (zs.map unSp))).set (.b d) (.agg zs) =st.set (.b d) (.agg zs):=by simp only [St.set];rw [setB_twice]
   rw [hst] at h4
   have h3:=h4.setSlot d (.ptr d 0) (.pointer (some ⟨w.heap.size,0,none⟩)) (by show _=_;rw [upd_same]) (fun b hb'=>by
    have:d=b:=hb'
    subst this;rw [St.bx_setBox,if_pos rfl];rfl)
   exact ⟨by rw [put_defers];exact hd,Γ,_,_,_,hw.2.2,by rw [put_tmps,hdst];exact h3,h2,fun b hb'=>upd_ne _ _ (by rintro rfl;have hb':=hb'.2;rw [hb] at hb';cases hb')⟩
  ·exact hw.elim
theorem g_box {t:TypeId} {x:Operand} {ax:AX} (n:Nat) (ag:Bool) (ho:o.op= .box t x) (hx:trX x=some ax) :Good P o ((AI.box n ag ax).pm C okr okw o.dst):=by
 intro Γ ρ bl st a w h hgz hd K hw Q
 cases hdst:o.dst with
 | none=>rw [hdst] at hw;exact hw.elim
 | some d=>
  rw [hdst] at hw
  simp only [AI.pm] at hw
  rw [ev_wp] at hw
  change (match st.get (.b d) with | .junk=>_ | _=>PM.fail).wp K st at hw
  split at hw
  ·rename_i hj
   obtain ⟨⟨hl,hone⟩,hw⟩:=hw
   have e:=rep_ax hx h
   have hm:=fun b hb=>ment_ax (b:=b) hx h hb
   have hone':(ax.val st).cells.all CV.one=true:=by
    cases ag with
    | true=>simpa using hone
    | false=>
     simp at hone
     generalize ax.val st=c at hone
     cases c with
     | d x=>cases x<;>first | (simp [CV.one,D.flat] at hone;done) | simp [CV.cells,CV.one,D.flat]
     | _=>first | (simp [CV.one] at hone;done) | simp [CV.cells,CV.one]
   have hcells:(if ag then (ax.val st).cells else [ax.val st]) =(ax.val st).cells:=by
    cases ag with
    | true=>rfl
    | false=>
     simp at hone
     generalize ax.val st=c at hone
     cases c with
     | d x=>cases x<;>first | (simp [CV.one,D.flat] at hone;done) | rfl
     | _=>first | (simp [CV.one] at hone;done) | rfl
   rw [hcells] at hw
   obtain ⟨vs,hv,hr,hu⟩:=rep_cells e hone'
   refine newBox_fin (arr:=vs.toArray) (e:=t) h hd hdst (get_b_junk hj) (by simpa using hr.copyBL (q:= .b d)) (fun c hc k hk=> ?_) (fun k t e=>by
    obtain ⟨c',_,e2⟩:=List.mem_map.1 (List.mem_of_getElem? e)
    have:=copyB_sp c'
    rw [e2] at this;cases this) ?_ hw
   ·rw [List.mem_map] at hc
    obtain ⟨c',hc',rfl⟩:=hc
    exact hm k (ment_cells hone' hc' (copyB_ment1 hk))
   ·simp [execOp,ho,Instr.box,newVar,newRow,hv]
  ·exact hw.elim
end B
end Go.Proofs.YtmkkljbfmdngfaaGreatDoor
namespace Go.Proofs.YtmkkljbfmdngfaaGreatDoor
namespace B
open Go.RowKit
variable {P:Program} {C:CallRel} {okr okw:Nat→Bool} {o:Oper}
theorem run_append_grow_x (w:World) (t tx ty e:TypeId) (i:TypeInfo) (z:Value) (d:TypeDesc) (ht:P.underlying t=some (.slice e)) (htx:P.underlying tx=some d) (hd: ∀k,d≠ .int k) (hi:P.info? e=some i) (hz:i.zero=some z)
  (ba:Option Addr) (sLen sCap m:Nat) (x:Value) (olds news:List Value) (hxl: ∀w',(Builtin.lenOf x).run P w'= .ok m w')
  (hxf:(Builtin.firstCells i.size m x).run P w.drew= .ok news.toArray w.drew) (hof:(Builtin.firstCells i.size sLen (.slice ba sLen sCap)).run P w.drew= .ok olds.toArray w.drew)
  (hg:sCap<sLen+m) (h63:((sLen+m:Nat) :Int)≤9223372036854775807) (hfit:Builtin.nextslicecap (sLen+m) sCap*i.bytes≤281474976710656) :
  (Builtin.append_ #[t,tx] ty #[.slice ba sLen sCap,x]).run P w=
   .ok (.slice (some ⟨w.heap.size,0,none⟩) (sLen+m) (grownCap w (sLen+m) sCap e))
    (w.drew.alloc (.cells (olds.toArray++news.toArray++Builtin.zeroCells z.cells (grownCap w (sLen+m) sCap e-(sLen+m))) e)):=by
 have hn: ¬(sLen+m≤sCap):=by omega
 have h63': ¬(9223372036854775807<((sLen:Int) +(m:Int))):=by omega
 have h48': ¬(281474976710656<Builtin.nextslicecap (sLen+m) sCap*i.bytes):=by omega
 have hdi:(match d with | .int _=>true | _=>false) =false:=by cases d<;>first | rfl | exact absurd rfl (hd _)
 simp [Builtin.append_,run_underlying ht,run_underlying htx,hdi,sizeOf,typeInfo,zeroValue,hi,hz,hxl,hn,h63',h48',Question.forced,hxf,hof,newRow,grownCap]
 try (congr 2;apply Array.ext';simp [List.append_assoc])
theorem run_append_room_x (w:World) (t tx ty e:TypeId) (i:TypeInfo) (d:TypeDesc) (ht:P.underlying t=some (.slice e)) (htx:P.underlying tx=some d) (hd: ∀k,d≠ .int k) (hi:P.info? e=some i)
  (g sLen sCap m:Nat) (cur:Array Value) (e0:TypeId) (fz:Nat×Nat) (hok:OkFz fz cur.size) (hg:w.heap[g]? =some (.cells cur e0 fz)) (x:Value) (news:List Value) (hxl: ∀w',(Builtin.lenOf x).run P w'= .ok m w')
  (hxf:(Builtin.firstCells i.size m x).run P w= .ok news.toArray w) (h1: ∀u∈news,u.oneCell'=true) (hroom:sLen+m≤sCap) (hfit:sLen*i.size+news.length≤cur.size) :
  (Builtin.append_ #[t,tx] ty #[.slice (some ⟨g,0,none⟩) sLen sCap,x]).run P w=
   .ok (.slice (some ⟨g,0,none⟩) (sLen+m) sCap) (w.setRow g (cur.toList.take (sLen*i.size) ++news++cur.toList.drop (sLen*i.size+news.length)).toArray):=by
 have hst:=run_storeCells_ok (P:=P) g (sLen*i.size) e0 fz news 0 cur w hok hg (by simpa using hfit) h1
 simp only [Nat.add_zero] at hst
 have hdi:(match d with | .int _=>true | _=>false) =false:=by cases d<;>first | rfl | exact absurd rfl (hd _)
 simp [Builtin.append_,run_underlying ht,run_underlying htx,hdi,sizeOf,typeInfo,hi,hxl,hroom,hxf,Addr.add_lit,hst]
theorem run_append_room_o (w:World) (t tx ty e:TypeId) (i:TypeInfo) (d:TypeDesc) (ht:P.underlying t=some (.slice e)) (htx:P.underlying tx=some d) (hd: ∀k,d≠ .int k) (hi:P.info? e=some i)
  (g off sLen sCap m:Nat) (cur:Array Value) (e0:TypeId) (fz:Nat×Nat) (hok:OkFz fz cur.size) (hg:w.heap[g]? =some (.cells cur e0 fz)) (x:Value) (news:List Value) (hxl: ∀w',(Builtin.lenOf x).run P w'= .ok m w')
  (hxf:(Builtin.firstCells i.size m x).run P w= .ok news.toArray w) (h1: ∀u∈news,u.oneCell'=true) (hroom:sLen+m≤sCap) (hfit:off+sLen*i.size+news.length≤cur.size) :
  (Builtin.append_ #[t,tx] ty #[.slice (some ⟨g,off,none⟩) sLen sCap,x]).run P w=
   .ok (.slice (some ⟨g,off,none⟩) (sLen+m) sCap) (w.setRow g (cur.toList.take (off+sLen*i.size) ++news++cur.toList.drop (off+sLen*i.size+news.length)).toArray):=by
 have hst:=run_storeCells_ok (P:=P) g (off+sLen*i.size) e0 fz news 0 cur w hok hg (by simpa using hfit) h1
 simp only [Nat.add_zero] at hst
 have hdi:(match d with | .int _=>true | _=>false) =false:=by cases d<;>first | rfl | exact absurd rfl (hd _)
 simp [Builtin.append_,run_underlying ht,run_underlying htx,hdi,sizeOf,typeInfo,hi,hxl,hroom,hxf,Addr.add_lit,hst]
theorem run_append_none_x (w:World) (t tx ty e:TypeId) (i:TypeInfo) (d:TypeDesc) (ht:P.underlying t=some (.slice e)) (htx:P.underlying tx=some d) (hd: ∀k,d≠ .int k) (hi:P.info? e=some i)
  (ba:Option Addr) (x:Value) (hxl: ∀w',(Builtin.lenOf x).run P w'= .ok 0 w') (hxf:(Builtin.firstCells i.size 0 x).run P w= .ok #[] w) :
  (Builtin.append_ #[t,tx] ty #[.slice ba 0 0,x]).run P w= .ok (.slice ba 0 0) w:=by
 have hdi:(match d with | .int _=>true | _=>false) =false:=by cases d<;>first | rfl | exact absurd rfl (hd _)
 cases ba<;>simp [Builtin.append_,run_underlying ht,run_underlying htx,hdi,sizeOf,typeInfo,hi,hxl,hxf,storeCells]
theorem take_setRow (cur:List Value) (news:List Value) (n:Nat) (h:n+news.length≤cur.length) :(cur.take n++news++cur.drop (n+news.length)).take (n+news.length) =cur.take n++news:=by
 rw [List.take_left' (by simp;omega)]
theorem row_size (cur:Array Value) (news:List Value) (n:Nat) (h:n+news.length≤cur.size) :(cur.toList.take n++news++cur.toList.drop (n+news.length)).toArray.size=cur.size:=by
 simp only [List.size_toArray,List.length_append,List.length_take,List.length_drop,Array.length_toList];omega
theorem SR.growOwn {Γ:Froz} {ρ:Nat→Role} {bl:Nat→Nat} {st:St} {tmps:Array Value} {w:World} (h:SR Γ ρ bl st tmps w) {p:Place} {j g:Nat} (hg:ρ g= .own p j) (hh: ¬Holds st p j) {vs:List Value} (hvs: ∀o,Γ ⟨g,o,none⟩ =vs[o]?)
  (arr:Array Value) {cur:Array Value} {e:TypeId} {fz:Nat×Nat} (hheap:w.heap[g]? =some (.cells cur e fz)) (us:List Value) (_: ∀(n:Nat) u,us[n]? =some u→us[n]? =some u) (harr: ∀(n:Nat) u,us[n]? =some u→arr[n]? =some u) (q:Place) (k:Nat)
  (hle: ∀(n:Nat) u,vs[n]? =some u→us[n]? =some u) :SR (freezeRow Γ g us) (upd ρ g (.own q k)) bl st tmps (w.setRow g arr)∧Fr w Γ ρ (w.setRow g arr) (freezeRow Γ g us) (upd ρ g (.own q k)):=by
 have hleΓ:Le Γ (freezeRow Γ g us):=freezeRow_le hvs hle
 have hgl:=h.rho g (by rw [hg];simp)
 have hoth:=fun k' (hk:k'≠g)=>setRow_other w g k' arr hk
 refine ⟨h.keep hleΓ (fun a v ha=> ?_) (fun g' p' i' h1 h2=> ?_) (fun _ _=>rfl) (fun b g' hx=> ?_) (fun g' b z cap e'=> ?_) fun g' hg'=> ?_,⟨hleΓ,by simp,rfl,rfl,rfl,fun g' hg' hp=> ?_,fun a v ha=> ?_,fun g' b z cap e' _ _=>by rw [upd_ne _ _ (by rintro rfl;rw [hg] at e';cases e')];exact e'⟩⟩
 ·unfold freezeRow at ha
  split at ha
  ·rename_i hc
   simp only [World.cell?,hc.1,setRow_heap w g cur arr e fz hheap,hc.2]
   simpa using harr _ _ ha
  ·rename_i hc
   have h3:=h.agree a v ha
   have hsp:a.spot=none:=by
    unfold World.cell? at h3
    split at h3
    ·split at h3
     ·cases h3
     ·rename_i hh;simpa using hh
    ·cases h3
   rw [World.cell?_of_block (hoth a.block fun e'=>hc ⟨e',hsp⟩)];exact h3
 ·have hne:g'≠g:=by rintro rfl;rw [hg] at h1;cases h1;exact hh h2
  exact ⟨upd_ne _ _ hne,hoth g' hne,fun o=>freezeRow_ne _ _ _ hne⟩
 ·have hne:g'≠g:=by rintro rfl;exact hx.no hg
  exact ⟨upd_ne _ _ hne,hoth _ hne,fun o=>freezeRow_ne _ _ _ hne⟩
 ·by_cases e2:g'=g
  ·subst e2;rw [upd_same] at e';cases e'
  ·rw [upd_ne _ _ e2] at e';exact e'
 ·simp only [size_setRow]
  by_cases e':g'=g
  ·subst e';exact hgl
  ·rw [upd_ne _ _ e'] at hg';exact h.rho g' hg'
 ·have hne:g'≠g:=by rintro rfl;rw [hg] at hp;cases hp
  exact ⟨hoth g' hne,by rw [upd_ne _ _ hne];exact hp⟩
 ·unfold freezeRow at ha
  split at ha
  ·rename_i hc;exact .inr (.inr (by rw [hc.1,hg];simp))
  ·exact .inl ha
theorem append_own {Γ:Froz} {ρ:Nat→Role} {bl:Nat→Nat} {st:St} {tmps:Array Value} {w:World} (h:SR Γ ρ bl st tmps w) {p:Place} {j sz:Nat} {l:List D} {v:Value} (ho:Own Γ ρ w p j sz l v) (hh: ¬Holds st p j)
  (t tx ty e:TypeId) (i:TypeInfo) (z:Value) (d:TypeDesc) (ht:P.underlying t=some (.slice e)) (htx:P.underlying tx=some d) (hd: ∀k,d≠ .int k) (hi:P.info? e=some i) (hz:i.zero=some z)
  (hsz:i.size=sz) (hzs:z.cells.size=sz) (hsz0:0<sz) (m:List D) (x:Value) (news:List Value) (hnf:RepF Γ sz m news) (hxl: ∀w',(Builtin.lenOf x).run P w'= .ok m.length w')
  (hxf: ∀w',w'=w∨w'=w.drew→(Builtin.firstCells i.size m.length x).run P w'= .ok news.toArray w') (hbytes:(l.length+m.length) *i.bytes≤140737488355328) (hb0:0<i.bytes) (q:Place) (k:Nat) :
  ∃v' w' Γ' ρ',(Builtin.append_ #[t,tx] ty #[v,x]).run P w= .ok v' w'∧SR Γ' ρ' bl st tmps w'∧Fr w Γ ρ w' Γ' ρ'∧Own Γ' ρ' w' q k sz (l++m) v':=by
 have hlen47:l.length+m.length≤140737488355328:=Nat.le_trans (Nat.le_mul_of_pos_right _ hb0) hbytes
 have hml:(l.length+m.length:Nat)≤maxLen:=by simp only [maxLen];omega
 have hnl:news.length=m.length*sz:=hnf.vs_len
 have grown: ∀(ba:Option Addr) (sCap:Nat) (vs:List Value),v= .slice ba l.length sCap→RepF Γ sz l vs→(Builtin.firstCells i.size l.length (.slice ba l.length sCap)).run P w.drew= .ok vs.toArray w.drew→sCap<l.length+m.length→sCap≤140737488355328→
   ∃v' w' Γ' ρ',(Builtin.append_ #[t,tx] ty #[v,x]).run P w= .ok v' w'∧SR Γ' ρ' bl st tmps w'∧Fr w Γ ρ w' Γ' ρ'∧Own Γ' ρ' w' q k sz (l++m) v':=by
  intro ba sCap vs hv hvf hof hcap hcap2
  have hr:=run_append_grow_x (P:=P) w t tx ty e i z d ht htx hd hi hz ba l.length sCap m.length x vs news hxl (hxf _ (.inr rfl)) hof hcap (by omega) (growslice_fits (by omega) hbytes)
  have hsd:SR Γ ρ bl st tmps w.drew:=h.world (Nat.le_refl _) fun _ _=>rfl
  have hall:=RepF.append hvf hnf
  have hcell: ∀(n:Nat) u,(vs++news)[n]? =some u→(vs.toArray++news.toArray++Builtin.zeroCells z.cells (grownCap w (l.length+m.length) sCap e-(l.length+m.length)))[n]? =some u:=by
   intro n u hn
   rw [Array.getElem?_append_left (by simp;have:=(List.getElem?_eq_some_iff.1 hn).1;simpa using this)]
   simpa using hn
  obtain ⟨g1,g2⟩:=hsd.newOwn (vs.toArray++news.toArray++Builtin.zeroCells z.cells (grownCap w (l.length+m.length) sCap e-(l.length+m.length))) e (vs++news) hcell (.own q k)
  refine ⟨_,_,_,_,by rw [hv];exact hr,g1,⟨g2.le,g2.size,g2.os,g2.tape,g2.output,g2.block,g2.new,g2.row⟩, .inl ⟨e,vs++news, ?_,hall.mono g2.le,fun g hg=> ?_⟩⟩
  ·have hge:=grownCap_ge w (l.length+m.length) sCap e
   refine ⟨by rw [hall.vs_len], .inr ⟨w.heap.size,_,_,by rw [List.length_append],⟨(0,0), .inl rfl,heap_alloc_new w.drew _⟩,by rw [List.length_append];exact hge,grownCap_le_maxLen w _ sCap e hml, ?_, ?_⟩⟩
   ·simp only [Array.size_append,List.size_toArray,size_zeroCells,hzs,hvf.vs_len,hnl,←Nat.add_mul]
    congr 1;omega
   ·simp only [Array.toList_append,List.append_assoc]
    rw [←List.append_assoc,List.length_append,Nat.add_mul,←hvf.vs_len,←hnl,←List.length_append]
    exact List.take_left
  ·have:w.heap.size=g:=by simpa [Value.ownBlock] using hg
   subst this
   exact ⟨upd_same _ _ _,fun o=>freezeRow_at _ _ _ _⟩
 rcases ho with ⟨e',vs,hown,hf,hg⟩ | ⟨rfl,a,rfl,ha⟩
 ·rcases hown.2 with ⟨rfl,h0⟩ | ⟨g,cap,cur,rfl,⟨fz,hok,hheap⟩,hnc,hcm,hcs,htk⟩
  ·obtain rfl:l= []:=List.eq_nil_of_length_eq_zero h0
   have hvs:vs= []:=List.eq_nil_of_length_eq_zero (by rw [hf.vs_len];simp)
   subst hvs
   by_cases hm:m.length=0
   ·obtain rfl:m= []:=List.eq_nil_of_length_eq_zero hm
    have hne:news= []:=List.eq_nil_of_length_eq_zero (by rw [hnl];simp)
    subst hne
    exact ⟨_,_,Γ,ρ,run_append_none_x (P:=P) w t tx ty e i d ht htx hd hi none x hxl (hxf _ (.inl rfl)),h, .refl _ _ _, .inl ⟨e,[],rowS_nil w e sz,⟨by simp,by simp [flatten],rfl,by simp [flatten]⟩,by simp [Value.ownBlock]⟩⟩
   ·exact grown none 0 [] rfl hf (by simp [Builtin.firstCells]) (by simp;omega) (by omega)
  ·
   by_cases hroom:l.length+m.length≤cap
   ·have hgf:=hg g rfl
    have hfit:l.length*i.size+news.length≤cur.size:=by rw [hsz,hnl,hcs,←Nat.add_mul];exact Nat.mul_le_mul_right _ hroom
    have hr:=run_append_room_x (P:=P) w t tx ty e i d ht htx hd hi g l.length cap m.length cur e' fz hok hheap x news hxl (hxf _ (.inl rfl)) hnf.one hroom hfit
    rw [hsz] at hr hfit
    have hall:=RepF.append hf hnf
    have htk2:(cur.toList.take (l.length*sz) ++news++cur.toList.drop (l.length*sz+news.length)).take ((l.length+m.length) *sz) =vs++news:=by
     rw [Nat.add_mul,←hnl,take_setRow _ _ _ (by simpa using hfit),htk]
    obtain ⟨g1,g2⟩:=h.growOwn hgf.1 hh hgf.2 (cur.toList.take (l.length*sz) ++news++cur.toList.drop (l.length*sz+news.length)).toArray hheap (vs++news) (fun n u hn=>by simpa using hn) (fun n u hn=>by
     rw [←htk2] at hn
     rw [List.getElem?_take] at hn
     split at hn
     ·simpa using hn
     ·cases hn) q k (fun n u hn=>by rw [List.getElem?_append_left (List.getElem?_eq_some_iff.1 hn).1];exact hn)
    refine ⟨_,_,_,_,hr,g1,g2, .inl ⟨e',vs++news,⟨by rw [hall.vs_len], .inr ⟨g,cap,_,by rw [List.length_append],⟨fz,(row_size cur news (l.length*sz) (by simpa using hfit)).symm▸hok,setRow_heap w g cur _ e' _ hheap⟩,by rw [List.length_append];exact hroom,hcm, ?_, ?_⟩⟩,hall.mono g2.le,fun g' hg'=> ?_⟩⟩
    ·simp only [List.size_toArray,List.length_append,List.length_take,List.length_drop,Array.length_toList]
     omega
    ·rw [List.length_append];exact htk2
    ·have:g=g':=by simpa [Value.ownBlock] using hg'
     subst this
     exact ⟨upd_same _ _ _,fun o=>freezeRow_at _ _ _ _⟩
   ·have hgf:=hg g rfl
    refine grown (some ⟨g,0,none⟩) cap vs rfl hf ?_ (by omega) (by omega)
    have:=run_firstCells_some (P:=P) w.drew i.size l.length ⟨g,0,none⟩ l.length cap vs (by rw [hsz];exact hf.vs_len) (fun n u hn=>by
     rw [Addr.add_lit',Nat.zero_add]
     exact h.agree _ _ (by rw [hgf.2,hn]))
    exact this
 ·by_cases hm:m.length=0
  ·obtain rfl:m= []:=List.eq_nil_of_length_eq_zero hm
   have hne:news= []:=List.eq_nil_of_length_eq_zero (by rw [hnl];simp)
   subst hne
   exact ⟨_,_,Γ,ρ,run_append_none_x (P:=P) w t tx ty e i d ht htx hd hi (some a) x hxl (hxf _ (.inl rfl)),h, .refl _ _ _, .inr ⟨rfl,a,rfl⟩⟩
  ·exact grown (some a) 0 [] rfl ⟨by simp,by simp [flatten],rfl,by simp [flatten]⟩ (by simp [Builtin.firstCells,loadCells,loadCellsFrom]) (by simp;omega) (by omega)
theorem slice_vals {Γ:Froz} {z:Nat} {l:List D} {v:Value} (h:Rep Γ (.slice z l) v) : ∃ao c vs,v= .slice ao l.length c∧RepF Γ z l vs∧(ao=none→vs= [])∧∀a,ao=some a→(vs≠[]→a.spot=none)∧∀(i:Nat) u,vs[i]? =some u→Γ (a.add i) =some u:=by
 cases h with
 | nil=>exact ⟨none,0,[],rfl,⟨by simp,by simp [flatten],rfl,by simp [flatten]⟩,fun _=>rfl,by simp⟩
 | nil0 _ a=>exact ⟨some a,0,[],rfl,⟨by simp,by simp [flatten],rfl,by simp [flatten]⟩,fun _=>rfl,fun a' _=>⟨fun h=>absurd rfl h,by simp⟩⟩
 | slice _ _ a c vals hs hc hz hf hv hr=>
  refine ⟨some a,c,(List.range (flatten l).length).map vals,rfl,⟨hz,hf,by simp,fun i d u hd hu=> ?_⟩,by simp,fun a' ha'=> ?_⟩
  ·have hi:=(List.getElem?_eq_some_iff.1 hd).1
   simp [hi] at hu;subst hu
   exact hr i d hd
  ·cases ha'
   refine ⟨fun _=>hs,fun i u hu=> ?_⟩
   have hi:i<(flatten l).length:=by have:=(List.getElem?_eq_some_iff.1 hu).1;simpa using this
   simp [hi] at hu;subst hu
   exact hv i _ (List.getElem?_eq_getElem hi)
theorem RepF.retype {Γ:Froz} {z sz:Nat} {l:List D} {vs:List Value} (h:RepF Γ z l vs) (hu: ∀x∈l,x.cells.length=sz) :RepF Γ sz l vs:=⟨hu,h.flat,h.len,h.rep⟩
theorem byte_vals (Γ:Froz) (s:Bytes) :RepF Γ 1 (s.map byteD) (Lib.strCells ⟨s.toArray⟩):=by
 have hfl:flatten (s.map byteD) =s.map byteD:=by
  simp only [flatten]
  induction s with
  | nil=>rfl
  | cons b r ih=>simp only [List.map_cons,List.flatMap_cons];rw [ih];rfl
 have hl:(Lib.strCells ⟨s.toArray⟩).length=s.length:=by rw [Lib.strCells_length,size_mk]
 refine ⟨fun x hx=> ?_,fun d hd=> ?_,by rw [hfl,hl];simp,fun i d u hd hu=> ?_⟩
 ·rw [List.mem_map] at hx;obtain ⟨b,_,rfl⟩:=hx;rfl
 ·rw [hfl,List.mem_map] at hd;obtain ⟨b,_,rfl⟩:=hd;rfl
 ·rw [hfl,List.getElem?_map,Option.map_eq_some_iff] at hd
  obtain ⟨b,hb,rfl⟩:=hd
  simp only [Lib.strCells] at hu
  simp [hb] at hu;subst hu
  exact .int _ _
theorem more_spec {Γ:Froz} {ρ:Nat→Role} {bl:Nat→Nat} {w:World} {p:Place} {u:CV} {x:Value} {m:List D} {sz size:Nat} (h:RepC Γ ρ bl w p u x) (hm:u.more=some m) (hu: ∀y∈m,y.cells.length=sz) (hsz:size=sz) :
  ∃news,RepF Γ sz m news∧(∀w',(Builtin.lenOf x).run P w'= .ok m.length w')∧∀w',(∀a v,Γ a=some v→w'.cell? a=some v)→(Builtin.firstCells size m.length x).run P w'= .ok news.toArray w':=by
 subst hsz
 have slc: ∀z l,Rep Γ (.slice z l) x→m=l→∃news,RepF Γ size m news∧(∀w',(Builtin.lenOf x).run P w'= .ok m.length w')∧∀w',(∀a v,Γ a=some v→w'.cell? a=some v)→(Builtin.firstCells size m.length x).run P w'= .ok news.toArray w':=by
  rintro z l hr rfl
  obtain ⟨ao,c,vs,rfl,hf,hn,ha⟩:=slice_vals hr
  have hf':=hf.retype hu
  refine ⟨vs,hf',fun w'=>by simp [Builtin.lenOf],fun w' hag=> ?_⟩
  cases ao with
  | none=>rw [hn rfl];simp [Builtin.firstCells]
  | some a=>
   obtain ⟨hs,hc⟩:=ha a rfl
   exact run_firstCells_some (P:=P) w' size m.length a m.length c vs hf'.vs_len fun j v hv=>hag _ _ (hc j v hv)
 cases u with
 | d y=>
  cases y with
  | str s=>
   simp only [CV.more,Option.some.injEq] at hm;subst hm
   have e:=rep_str h
   subst e
   have hb:=(byte_vals Γ s).retype hu
   refine ⟨_,hb,fun w'=>by simp [Builtin.lenOf,size_mk],fun w' _=> ?_⟩
   have:=Lib.run_firstCells_string (P:=P) w' size ⟨s.toArray⟩
   rw [size_mk] at this
   rw [List.length_map];exact this
  | slice z l=>
   simp only [CV.more,CV.sl,Option.some.injEq] at hm
   exact slc z l h hm.symm
  | nils z=>
   simp only [CV.more,CV.sl,Option.some.injEq] at hm
   exact slc 0 [] (by have h:Rep Γ (.nils z) x:=h;cases h;exact .nil 0) hm.symm
  | _=>simp [CV.more,CV.sl] at hm
 | own z l=>
  simp only [CV.more,CV.sl,Option.some.injEq] at hm
  exact slc z l (Own.rep h) hm.symm
 | nils=>
  simp only [CV.more,CV.sl,Option.some.injEq] at hm
  have e:x= .slice none 0 0:=h
  exact slc 0 [] (by rw [e];exact .nil 0) hm.symm
 | _=>simp [CV.more,CV.sl] at hm
theorem okz_cells {Γ:Froz} {ρ:Nat→Role} {bl:Nat→Nat} {w:World} {p:Place} {u:CV} {x:Value} {m:List D} {sz:Nat} (h:RepC Γ ρ bl w p u x) (hm:u.more=some m) (hz:u.okz sz=true) : ∀y∈m,y.cells.length=sz:=by
 have slc: ∀z l,Rep Γ (.slice z l) x→z=sz→∀y∈l,y.cells.length=sz:=by
  rintro z l hr rfl
  cases hr with
  | nil=>simp
  | nil0=>simp
  | slice _ _ _ _ _ _ _ hz=>exact hz
 cases u with
 | d y=>
  cases y with
  | str s=>
   simp only [CV.more,Option.some.injEq] at hm;subst hm
   simp only [CV.okz,beq_iff_eq] at hz;subst hz
   intro y hy
   obtain ⟨b,_,rfl⟩:=List.mem_map.1 hy
   rfl
  | slice z l=>
   simp only [CV.more,CV.sl,Option.some.injEq] at hm;subst hm
   exact slc z l h (by simpa [CV.okz] using hz)
  | nils z=>simp only [CV.more,CV.sl,Option.some.injEq] at hm;subst hm;simp
  | _=>simp [CV.more,CV.sl] at hm
 | own z l=>
  simp only [CV.more,CV.sl,Option.some.injEq] at hm;subst hm
  exact slc z l (Own.rep h) (by simpa [CV.okz] using hz)
 | nils=>simp only [CV.more,CV.sl,Option.some.injEq] at hm;subst hm;simp
 | _=>simp [CV.more,CV.sl] at hm
theorem g_append {s x:Operand} {as ax:AX} {t tx e:TypeId} {i:TypeInfo} {z:Value} {d:TypeDesc} {sz bytes:Nat} (ho:o.op= .call {callee:= .builtin .append,args:= #[s,x],argTypes:= #[t,tx]}) (hs:trX s=some as) (hx:trX x=some ax)
  (ht:P.underlying t=some (.slice e)) (htx:P.underlying tx=some d) (hd': ∀k,d≠ .int k) (hi:P.info? e=some i) (hz:i.zero=some z) (hsz:i.size=sz) (hzs:z.cells.size=sz) (hsz0:0<sz) (hby:i.bytes=bytes) (hb0:0<bytes) :
  Good P o ((AI.append sz bytes as ax).pm C okr okw o.dst):=by
 intro Γ ρ bl st a w h hgz hd K hw Q
 subst hby
 simp only [AI.pm] at hw
 rw [ev_wp,ev_wp] at hw
 have es:=rep_ax hs h
 have ex:=rep_ax hx h
 split at hw
 ·rename_i zz l m hv hm
  obtain ⟨⟨rfl,hbytes,hu⟩,hw⟩:=hw
  have hu:=okz_cells ex hm hu
  obtain ⟨news,hnf,hxl,hxf⟩:=more_spec (P:=P) ex hm hu hsz
  have fin: ∀(Γ:Froz) (ρ1:Nat→Role) (st1:St) (p:Place) (j:Nat),SR Γ ρ1 bl st1 a.tmps w→RepF Γ zz m news→(∀w',(∀a v,Γ a=some v→w'.cell? a=some v)→(Builtin.firstCells i.size m.length (a.eval x)).run P w'= .ok news.toArray w')→
    Own Γ ρ1 w p j zz l (a.eval s)→¬Holds st1 p j→(setD o.dst (.own zz (l++m))).wp K st1→
    o.wp P a w (fun a' w'=>a'.defers= []∧∃Γ' ρ' bl' st',K st'∧SR Γ' ρ' bl' st' a'.tmps w'∧Fr w Γ ρ1 w' Γ' ρ'∧∀b,Prot st1 b→bl' b=bl b) Q:=by
   intro Γ ρ1 st1 p j h1 hnf hxf how hh hw
   obtain ⟨v',w',Γ',ρ',hr,g1,g2,g3⟩:=append_own h1 how hh t tx o.type e i z d ht htx hd' hi hz hsz hzs hsz0 m (a.eval x) news hnf hxl (fun w' hw'=>hxf w' (by rcases hw' with rfl | rfl;exact h1.agree;exact h1.agree)) hbytes hb0 (.s (o.dst.getD 0)) 0
   unfold Oper.wp
   have hrun:(execOp a.eval o).run P w= .ok (.value v') w':=by
    simp only [execOp,ho,resolve,invoke,builtin,Sem.run_bind,Sem.run_pure,Result.andThen_ok,List.map_toArray,List.map_cons,List.map_nil,hr]
   rw [hrun,Oper.upon_value]
   obtain ⟨st'',hK,hs'⟩:=setD_sound g1 (dst:=o.dst) (c:= .own zz (l++m)) (v:=v') (fun d' e'=>by rw [e'] at g3;exact g3) (fun b hb=>hb.elim) hw
   exact ⟨by rw [put_defers];exact hd,Γ',ρ',bl,st'',hK,by rw [put_tmps];exact hs',g2,fun _ _=>rfl⟩
  have nilOwn: ∀(ρ1:Nat→Role),a.eval s= .slice none 0 0→Own Γ ρ1 w (.s st.s.length) 0 zz [] (a.eval s):=by
   intro ρ1 hv
   rw [hv]
   exact .inl ⟨0,[],rowS_nil w 0 _,⟨by simp,by simp [flatten],rfl,by simp [flatten]⟩,by simp [Value.ownBlock]⟩
  have noHold: ∀st1:St,st1.s.length=st.s.length→¬Holds st1 (.s st.s.length) 0:=by
   intro st1 hl hH
   unfold Holds at hH
   have:st1.get (.s st.s.length) = .junk:=by simp only [St.get,List.getD_eq_getElem?_getD];rw [List.getElem?_eq_none (by omega)];rfl
   rw [this] at hH;simp [CV.comp,CV.held] at hH
  cases as with
  | c c=>
   simp only [AX.val] at hv es
   have hc:c= .nils∧l= []:=by
    cases s with
    | const u=>
     simp only [trX,Option.map_eq_some_iff] at hs
     obtain ⟨c',hc',e'⟩:=hs
     injection e' with e';subst e'
     have:=(cvOf_plain hc').1
     cases c' with
     | d x=>
      cases x with
      | nils q=>exfalso;unfold cvOf at hc';split at hc'<;>simp_all
      | _=>simp_all [CV.coer,CV.coerA,CV.noOwn]
     | _=>simp_all [CV.coer,CV.coerA,CV.noOwn]
    | func f=>simp only [trX,Option.some.injEq,AX.c.injEq] at hs;subst hs;simp [CV.coer,CV.coerA] at hv
    | tmp n=>simp [trX] at hs
    | global g=>simp [trX] at hs
   obtain ⟨rfl,rfl⟩:=hc
   exact fin Γ ρ st _ _ h hnf hxf (nilOwn ρ es) (noHold st rfl) hw
  | t n=>
   simp only [AX.val] at hv es hw
   cases hc:st.get (.s n) with
   | own z' l'=>
    rw [hc] at hv
    simp only [CV.coer,CV.coerA,CV.own.injEq] at hv
    obtain ⟨rfl,rfl⟩:=hv
    rw [hc] at hw
    obtain ⟨hok,hk⟩:=hw
    have hn:n<st.s.length:=by simpa [Place.ok] using hok
    have es':=es
    simp only [hc] at es'
    have hs1:=h.viewSlot n (.d (.slice z' l')) (fun v hv'=>by
     obtain ⟨u,hu',hru⟩:=h.slots n _ (List.getElem?_eq_getElem hn)
     rw [hv'] at hu';cases hu'
     have e1:st.get (.s n) =st.s[n]:=St.get_slot (List.getElem?_eq_getElem hn)
     rw [←e1,hc] at hru
     exact Own.rep hru) (fun b hb=>hb.elim)
    exact fin Γ ρ (st.set (.s n) (.d (.slice z' l'))) (.s n) 0 hs1 hnf hxf es' (holds_setSlot (c:= .d (.slice z' l')) hn rfl rfl) hk
   | nils=>
    rw [hc] at hv
    simp only [CV.coer,CV.coerA,CV.own.injEq,true_and] at hv
    subst hv
    rw [hc] at hw
    obtain ⟨hok,hk⟩:=hw
    have hn:n<st.s.length:=by simpa [Place.ok] using hok
    have es':=es
    simp only [hc] at es'
    have hs1:=h.viewSlot n .nils (fun v hv'=>by
     obtain ⟨u,hu',hru⟩:=h.slots n _ (List.getElem?_eq_getElem hn)
     rw [hv'] at hu';cases hu'
     have e1:st.get (.s n) =st.s[n]:=St.get_slot (List.getElem?_eq_getElem hn)
     rw [←e1,hc] at hru
     exact hru) (fun b hb=>hb.elim)
    exact fin Γ ρ (st.set (.s n) .nils) _ _ hs1 hnf hxf (nilOwn ρ es') (noHold _ (by simp [St.set])) hk
   | d x=>
    cases x with
    | nils q=>
     rw [hc] at hv
     simp only [CV.coerA,CV.own.injEq] at hv
     obtain ⟨rfl,rfl⟩:=hv
     rw [hc] at hw
     obtain ⟨hok,hk⟩:=hw
     have hn:n<st.s.length:=by simpa [Place.ok] using hok
     have es':=es
     simp only [hc] at es'
     have hs1:=h.viewSlot n (.d (.nils q)) (fun v hv'=>by
      obtain ⟨u,hu',hru⟩:=h.slots n _ (List.getElem?_eq_getElem hn)
      rw [hv'] at hu';cases hu'
      have e1:st.get (.s n) =st.s[n]:=St.get_slot (List.getElem?_eq_getElem hn)
      rw [←e1,hc] at hru
      exact hru) (fun b hb=>hb.elim)
     have es':a.eval s= .slice none 0 0:=by
      have e1:Rep Γ (.nils q) (a.eval s):=es'
      generalize a.eval s=u at e1
      cases e1;rfl
     exact fin Γ ρ (st.set (.s n) (.d (.nils q))) _ _ hs1 hnf hxf (nilOwn ρ es') (noHold _ (by simp [St.set])) hk
    | _=>rw [hc] at hv;simp [CV.coer,CV.coerA] at hv
   | _=>rw [hc] at hv;simp [CV.coer,CV.coerA] at hv
 ·exact hw.elim
end B
end Go.Proofs.YtmkkljbfmdngfaaGreatDoor
