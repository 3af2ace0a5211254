/- Each instruction does what the abstract one says: stores, new boxes. No condition. -/
import Derived.Test.YtmkkljbfmdngfaaGreatDoorB6
set_option linter.all false
namespace Go.Proofs.YtmkkljbfmdngfaaGreatDoor
namespace B
open Go.RowKit
variable {P:Program} {C:CallRel} {okr okw:Nat→Bool} {o:Oper}
theorem RepL.splice {Γ:Froz} {ρ:Nat→Role} {bl:Nat→Nat} {w:World} {p:Place} {cs new:List CV} {vs us:List Value} (h:RepL Γ ρ bl w p cs vs) (off:Nat) (hn:new.length=us.length) (hoff:off+new.length≤cs.length)
  (hr: ∀(i:Nat) c u,new[i]? =some c→us[i]? =some u→RepC1 Γ ρ bl w p (off+i) c u) :RepL Γ ρ bl w p (splice off new cs) (vs.take off++us++vs.drop (off+us.length)):=by
 have hl:=h.1
 refine ⟨by simp [B.splice];omega,fun i c v hc hv=> ?_⟩
 simp only [B.splice] at hc
 have e1:(cs.take off).length=off:=by simp;omega
 have e2:(vs.take off).length=off:=by simp;omega
 by_cases h1:i<off
 ·rw [List.append_assoc,List.getElem?_append_left (by omega)] at hc hv
  rw [List.getElem?_take,if_pos h1] at hc hv
  exact h.2 i c v hc hv
 ·by_cases h2:i<off+new.length
  ·rw [List.append_assoc,List.getElem?_append_right (by omega),List.getElem?_append_left (by omega)] at hc hv
   have:=hr (i-off) c v (by rwa [e1] at hc) (by rwa [e2] at hv)
   rwa [show off+(i-off) =i by omega] at this
  ·rw [List.getElem?_append_right (by simp;omega)] at hc hv
   rw [List.getElem?_drop] at hc hv
   have k1:off+new.length+(i-(cs.take off++new).length) =i:=by simp;omega
   have k2:off+us.length+(i-(vs.take off++us).length) =i:=by simp;omega
   rw [k1] at hc
   rw [k2] at hv
   exact h.2 i c v hc hv
theorem one_rep {Γ:Froz} {ρ:Nat→Role} {bl:Nat→Nat} {w:World} {p:Place} {i:Nat} {c:CV} {v:Value} (h:RepC1 Γ ρ bl w p i c v) (hc:c.one=true) :v.oneCell'=true:=by
 cases c with
 | d x=>exact Rep.one h hc
 | own sz l=>obtain ⟨ao,n,rfl,_⟩:=slice_form (Own.rep h);rfl
 | nils=>have h:v=_:=h;subst h;rfl
 | ptr b o=>have h:v=_:=h;subst h;rfl
 | sp b t=>rcases h with h | h<;>(subst h;rfl)
 | ep cs=>obtain ⟨a,rfl,_⟩:=h;rfl
 | rs z k o n=>rcases (h:RowH ρ bl z k o n v) with ⟨_,rfl | ⟨a,rfl⟩⟩ | ⟨c,cap,rfl,_⟩<;>rfl
 | ea z k i o=>obtain ⟨rfl,_⟩:=(h:RowA ρ bl z k i o v);rfl
 | fn f caps=>have h:v=_:=h;subst h;rfl
 | _=>simp [CV.one] at hc
theorem repC_one {Γ:Froz} {ρ:Nat→Role} {bl:Nat→Nat} {w:World} {p:Place} {c:CV} {v:Value} (h:RepC Γ ρ bl w p c v) (hc:c.one=true) :RepC1 Γ ρ bl w p 0 c v:=by
 cases c<;>first | exact h | simp [CV.one] at hc
theorem ment_one {c:CV} {b:Nat} (hc:c.one=true) (h:c.ment1 b) :c.ment b:=by
 cases c<;>first | exact h | simp [CV.one] at hc
theorem rep_cells {Γ:Froz} {ρ:Nat→Role} {bl:Nat→Nat} {w:World} {p:Place} {c:CV} {v:Value} (h:RepC Γ ρ bl w p c v) (h1:c.cells.all CV.one=true) :
  ∃vs:List Value,v.cells=vs.toArray∧RepL Γ ρ bl w p c.cells vs∧∀u∈vs,u.oneCell'=true:=by
 have key: ∀vs:List Value,RepL Γ ρ bl w p c.cells vs→∀u∈vs,u.oneCell'=true:=by
  intro vs hl u hu
  obtain ⟨i,hi,rfl⟩:=List.mem_iff_getElem.1 hu
  have hi':i<c.cells.length:=by rw [hl.1];exact hi
  exact one_rep (hl.2 i _ _ (List.getElem?_eq_getElem hi') (List.getElem?_eq_getElem hi)) (List.all_eq_true.1 h1 _ (List.getElem_mem hi'))
 have main: ∃vs:List Value,v.cells=vs.toArray∧RepL Γ ρ bl w p c.cells vs:=by
  cases c with
  | d x=>
   cases x with
   | agg ds=>
    have h:Rep Γ (.agg ds) v:=h
    cases h with
    | agg _ vs hl hf hr=>
     refine ⟨vs,rfl,by simpa [CV.cells] using hl,fun i c u hc hu=> ?_⟩
     simp only [CV.cells,List.getElem?_map,Option.map_eq_some_iff] at hc
     obtain ⟨d,hd,rfl⟩:=hc
     exact hr i d u hd hu
   | _=>
    have h:Rep Γ _ v:=h
    refine ⟨[v], ?_,rfl,fun i c u hc hu=> ?_⟩
    ·rw [Rep.cells1 h rfl]
    ·cases i with
     | zero=>simp [CV.cells] at hc hu;subst hc;subst hu;exact h
     | succ i=>simp [CV.cells] at hc
  | agg l=>
   obtain ⟨vs,rfl,hl⟩:=h
   exact ⟨vs,rfl,hl⟩
  | tup l=>simp [CV.cells,CV.one] at h1
  | junk=>simp [CV.cells,CV.one] at h1
  | line z l=>simp [CV.cells,CV.one] at h1
  | bld e f l=>simp [CV.cells,CV.one] at h1
  | arr z l=>simp [CV.cells,CV.one] at h1
  | _=>
   have h2:=one_rep (repC_one h rfl) rfl
   refine ⟨[v], ?_,rfl,fun i c u hc hu=> ?_⟩
   ·cases v<;>first | rfl | simp [Value.oneCell'] at h2
   ·cases i with
    | zero=>simp [CV.cells] at hc hu;subst hc;subst hu;exact repC_one h rfl
    | succ i=>simp [CV.cells] at hc
 obtain ⟨vs,h2,h3⟩:=main
 exact ⟨vs,h2,h3,key vs h3⟩
theorem ment_cells {c:CV} {b:Nat} (h1:c.cells.all CV.one=true) {x:CV} (hx:x∈c.cells) (hm:x.ment1 b) :c.ment b:=by
 cases c with
 | d y=>
  cases y with
  | agg ds=>
   simp only [CV.cells,List.mem_map] at hx
   obtain ⟨d,_,rfl⟩:=hx
   exact hm.elim
  | _=>simp [CV.cells] at hx;subst hx;exact hm.elim
 | agg l=>exact ⟨x,hx,hm⟩
 | tup l=>simp [CV.cells,CV.one] at h1
 | junk=>simp [CV.cells,CV.one] at h1
 | _=>simp [CV.cells] at hx;subst hx;exact hm
theorem run_storeCells_ok (g o:Nat) (t:TypeId) (fz:Nat×Nat) : ∀(vs:List Value) (i:Nat) (cur:Array Value) (w:World),OkFz fz cur.size→w.heap[g]? =some (.cells cur t fz)→o+i+vs.length≤cur.size→(∀v∈vs,v.oneCell'=true)→
  (storeCells ⟨g,o,none⟩ vs i).run P w= .ok () (w.setRow g (cur.toList.take (o+i) ++vs++cur.toList.drop (o+i+vs.length)).toArray)
 | [],i,cur,w,_,hg,_,_=>by
  simp only [storeCells,List.append_nil,List.length_nil,Nat.add_zero,List.take_append_drop,Array.toArray_toList]
  rw [setRow_self w g cur t fz hg]
  rfl
 | v :: rest,i,cur,w,hok,hg,hl,h1=>by
  have hi:o+i<cur.size:=by simp at hl;omega
  have hadd:(⟨g,o,none⟩ :Addr).add i= ⟨g,o+i,none⟩:=by unfold Addr.add;split<;>simp_all
  have hcell:w.cell? ⟨g,o+i,none⟩ =some cur[o+i]:=by simp [World.cell?,hg,hi]
  have hfro:w.frozen? ⟨g,o+i,none⟩ =false:=by
   simp only [World.frozen?,hg]
   rcases hok with rfl | hok
   ·simp
   ·simp;omega
  have hst:(store ((⟨g,o,none⟩ :Addr).add i) v).run P w= .ok () (w.setRow g (cur.setIfInBounds (o+i) v)):=by
   rw [hadd,run_store P w _ v _ (h1 v (by simp)),hcell]
   simp [hfro,setCell_eq_setRow w g (o+i) cur t fz v hg]
  have ih:=run_storeCells_ok g o t fz rest (i+1) (cur.setIfInBounds (o+i) v) (w.setRow g (cur.setIfInBounds (o+i) v)) (by simpa using hok) (setRow_heap w g cur _ t _ hg) (by simp at hl⊢;omega) (fun x hx=>h1 x (by simp [hx]))
  simp only [storeCells,Sem.run_bind,hst,Result.andThen_ok,ih,setRow_setRow]
  congr 3
  have e:=list_seg_step cur.toList (o+i) v rest (by simp at hl⊢;omega)
  simpa [Array.toList_setIfInBounds,Nat.add_assoc] using e
theorem run_storeVar {t:TypeId} {ti:TypeInfo} {v:Value} {vs:List Value} {n g off:Nat} {arr:Array Value} {e:TypeId} {w:World} (hi:P.info? t=some ti) (hn:ti.size=n) (hv:v.cells=vs.toArray) (hl:vs.length=n) (hg:w.heap[g]? =some (.cells arr e (0,0))) (hoff:off+n≤arr.size)
  (h1: ∀u∈vs,u.oneCell'=true) :(storeVar t ⟨g,off,none⟩ v).run P w= .ok () (w.setRow g (arr.toList.take off++vs++arr.toList.drop (off+vs.length)).toArray):=by
 have:=run_storeCells_at P g off e vs 0 arr w hg (by omega) h1
 simp only [Nat.add_zero] at this
 simp [storeVar,sizeOf,typeInfo,hi,hn,hv,hl,this]
theorem After.skip {K:St→Prop} {Γ:Froz} {ρ:Nat→Role} {bl:Nat→Nat} {st:St} {a:Act} {w w':World} {Q:Exit→Act→World→Prop} (hdst:o.dst=none) (hd:a.defers= []) (hrun:(execOp a.eval o).run P w= .ok .skip w') (h:After K Γ ρ bl w st a.tmps w') :
  o.wp P a w (fun a' w'=>a'.defers= []∧After K Γ ρ bl w st a'.tmps w') Q:=by
 unfold Oper.wp
 rw [hrun,Oper.upon_skip]
 exact ⟨by rw [put_defers];exact hd,by rw [put_tmps,hdst];exact h⟩
theorem asE_rep {Γ:Froz} {ρ:Nat→Role} {bl:Nat→Nat} {w:World} {p:Place} {i:Nat} {c:CV} {v:Value} {nl:Option Nat} {d:D} (h:RepC1 Γ ρ bl w p i c v) (hd:c.asE nl=some d) :Rep Γ d v:=by
 have main: ∀x,c.asD=some x→Rep Γ x.norm1 v:=fun x hx=>(rep_asD h hx).norm1
 cases c with
 | nils=>
  simp only [CV.asE,Option.map_eq_some_iff] at hd
  obtain ⟨z,_,rfl⟩:=hd
  have h:v= .slice none 0 0:=h
  rw [h];exact .nil z
 | d x=>simp only [CV.asE,CV.asD,Option.map_some,Option.some.injEq] at hd;subst hd;exact main x rfl
 | own z l=>simp only [CV.asE,CV.asD,Option.map_some,Option.some.injEq] at hd;subst hd;exact main _ rfl
 | fn f caps=>
  cases caps with
  | nil=>simp only [CV.asE,CV.asD,Option.map_some,Option.some.injEq] at hd;subst hd;exact main _ rfl
  | cons _ _=>simp [CV.asE,CV.asD] at hd
 | _=>simp [CV.asE,CV.asD] at hd
theorem asE_one {c:CV} {nl:Option Nat} {d:D} (hd:c.asE nl=some d) (hf:d.flat=true) :c.one=true:=by
 cases c with
 | nils=>rfl
 | d x=>simp only [CV.asE,CV.asD,Option.map_some,Option.some.injEq] at hd;subst hd;rw [norm1_flat] at hf;exact hf
 | own z l=>rfl
 | fn f caps=>rfl
 | _=>simp [CV.asE,CV.asD] at hd
theorem allE_flat {nl:Option Nat}: ∀{cs:List CV} {ds:List D},allE nl cs=some ds→∀d∈ds,d.flat=true
 | [],ds,h=>by simp only [allE,Option.some.injEq] at h;subst h;simp
 | c :: r,ds,h=>by
  simp only [allE] at h
  split at h
  ·rename_i x xs hx hxs
   split at h
   ·rename_i hf
    simp only [Option.some.injEq] at h;subst h
    intro d hd
    rcases List.mem_cons.1 hd with rfl | hd
    ·exact hf
    ·exact allE_flat hxs d hd
   ·cases h
  ·cases h
theorem allE_spec {nl:Option Nat}: ∀{cs:List CV} {ds:List D},allE nl cs=some ds→cs.length=ds.length∧cs.all CV.one=true∧∀(i:Nat) c d,cs[i]? =some c→ds[i]? =some d→c.asE nl=some d
 | [],ds,h=>by simp only [allE,Option.some.injEq] at h;subst h;simp
 | c :: r,ds,h=>by
  simp only [allE] at h
  split at h
  ·rename_i x xs hx hxs
   split at h
   ·rename_i hf
    simp only [Option.some.injEq] at h;subst h
    obtain ⟨h1,h2,h3⟩:=allE_spec hxs
    refine ⟨by simp [h1],by simp [asE_one hx hf];simpa using h2,fun i c' d hc hd=> ?_⟩
    cases i with
    | zero=>simp at hc hd;subst hc;subst hd;exact hx
    | succ i=>exact h3 i c' d hc hd
   ·cases h
  ·cases h
theorem allE_rep {Γ:Froz} {ρ:Nat→Role} {bl:Nat→Nat} {w:World} {p:Place} {c:CV} {v:Value} {nl:Option Nat} {ag:Bool} {ds:List D} (h:RepC Γ ρ bl w p c v) (hd:allE nl (if ag then c.cells else [c]) =some ds) :
  ∃vs:List Value,v.cells=vs.toArray∧vs.length=ds.length∧(∀u∈vs,u.oneCell'=true)∧∀(i:Nat) d u,ds[i]? =some d→vs[i]? =some u→Rep Γ d u:=by
 obtain ⟨h1,h2,h3⟩:=allE_spec hd
 have hcc:(if ag then c.cells else [c]) =c.cells:=by
  cases ag with
  | true=>rfl
  | false=>
   simp at h2
   cases c with
   | d x=>cases x<;>first | (simp [CV.one,D.flat] at h2;done) | rfl
   | _=>first | (simp [CV.one] at h2;done) | rfl
 rw [hcc] at h1 h2 h3
 obtain ⟨vs,hv,hr,hu⟩:=rep_cells h h2
 refine ⟨vs,hv,by rw [←hr.1,h1],hu,fun i d u hdi hui=> ?_⟩
 have hi:i<c.cells.length:=by rw [h1];exact (List.getElem?_eq_some_iff.1 hdi).1
 exact asE_rep (hr.2 i _ u (List.getElem?_eq_getElem hi) hui) (h3 i _ d (List.getElem?_eq_getElem hi) hdi)
theorem run_storeVar_ok {t:TypeId} {ti:TypeInfo} {v:Value} {vs:List Value} {n g off:Nat} {arr:Array Value} {e:TypeId} {fz:Nat×Nat} {w:World} (hi:P.info? t=some ti) (hn:ti.size=n) (hv:v.cells=vs.toArray) (hl:vs.length=n) (hg:w.heap[g]? =some (.cells arr e fz)) (hok:OkFz fz arr.size) (hoff:off+n≤arr.size)
  (h1: ∀u∈vs,u.oneCell'=true) :(storeVar t ⟨g,off,none⟩ v).run P w= .ok () (w.setRow g (arr.toList.take off++vs++arr.toList.drop (off+vs.length)).toArray):=by
 have:=run_storeCells_ok (P:=P) g off e fz vs 0 arr w hok hg (by omega) h1
 simp only [Nat.add_zero] at this
 simp [storeVar,sizeOf,typeInfo,hi,hn,hv,hl,this]
theorem spliceD_cells {off:Nat} {ds:List D} {x:D} (hx:off+ds.length≤x.cells.length) :(spliceD off ds x).cells=x.cells.take off++ds++x.cells.drop (off+ds.length)∨∃d,ds= [d]∧off=0∧x.cells= [x]∧spliceD off ds x=d:=by
 cases x with
 | agg cs=>exact .inl rfl
 | _=>
  simp only [D.cells,List.length_singleton] at hx
  match ds with
  | []=>
   left
   simp only [spliceD,List.getD_nil,D.cells,List.append_nil,List.length_nil,Nat.add_zero,List.take_append_drop]
  | [d]=>
   right
   refine ⟨d,rfl,by simp at hx;omega,rfl,rfl⟩
  | _ :: _ :: _=>simp at hx;omega
theorem spliceD_cells' {off:Nat} {ds:List D} {x:D} (hx:off+ds.length≤x.cells.length) (hf: ∀d∈ds,d.flat=true) :(spliceD off ds x).cells=x.cells.take off++ds++x.cells.drop (off+ds.length):=by
 rcases spliceD_cells hx with h | ⟨d,rfl,rfl,h1,h2⟩
 ·exact h
 ·have hd:=hf d (by simp)
  rw [h2,h1]
  cases d<;>first | rfl | simp [D.flat] at hd
theorem flatten_set {l:List D} {sz:Nat} (h: ∀x∈l,x.cells.length=sz) {i:Nat} (hi:i<l.length) (y:D) :flatten (l.set i y) =(flatten l).take (i*sz) ++y.cells++(flatten l).drop ((i+1) *sz):=by
 rw [List.set_eq_take_append_cons_drop,if_pos hi,flatten_append,←flatten_take h,←flatten_drop h]
 simp [flatten]
theorem setEl_rep {Γ:Froz} {sz i off:Nat} {l ds:List D} {arr:Array Value} {vs:List Value} (r:RepF Γ sz l (arr.toList.take (l.length*sz))) (hi:i<l.length) (hoff:off+ds.length≤sz) (hf: ∀d∈ds,d.flat=true)
  (hl:vs.length=ds.length) (hrep: ∀(j:Nat) d u,ds[j]? =some d→vs[j]? =some u→Rep Γ d u) (hfit:i*sz+off+vs.length≤arr.size) :
  RepF Γ sz (setEl l i off ds) ((arr.toList.take (i*sz+off) ++vs++arr.toList.drop (i*sz+off+vs.length)).toArray.toList.take ((setEl l i off ds).length*sz)):=by
 have e:l.getD i .nilp=l[i]:=by simp [List.getD_eq_getElem?_getD,hi]
 have hcl:=r.uni l[i] (List.getElem_mem hi)
 have hsc:=spliceD_cells' (x:=l[i]) (off:=off) (ds:=ds) (by omega) hf
 have hlen:(setEl l i off ds).length=l.length:=by simp [setEl]
 have hscl:(spliceD off ds l[i]).cells.length=sz:=by rw [hsc];simp;omega
 have hmul:(i+1) *sz≤l.length*sz:=Nat.mul_le_mul_right _ hi
 have hmul2:(i+1) *sz=i*sz+sz:=by rw [Nat.add_mul];omega
 have hal:(arr.toList.take (l.length*sz)).length=l.length*sz:=r.vs_len
 have hal2:l.length*sz≤arr.size:=by
  rw [List.length_take] at hal;simp at hal;omega
 have hflat:flatten (setEl l i off ds) =(flatten l).take (i*sz+off) ++ds++(flatten l).drop (i*sz+off+ds.length):=by
  unfold setEl
  rw [e,flatten_set r.uni hi,hsc]
  have hfl:flatten l=(flatten l).take (i*sz) ++l[i].cells++(flatten l).drop ((i+1) *sz):=by
   have:=flatten_set r.uni hi l[i]
   rwa [List.set_getElem_self] at this
  have hfll:=flatten_length r.uni
  have ht:((flatten l).take (i*sz)).length=i*sz:=by rw [List.length_take,hfll];omega
  have h1:(flatten l).take (i*sz+off) =(flatten l).take (i*sz) ++l[i].cells.take off:=by
   conv=>lhs;rw [hfl]
   rw [List.append_assoc,List.take_append,ht,List.take_of_length_le (by rw [ht];omega),show i*sz+off-i*sz=off by omega,List.take_append_of_le_length (by omega)]
  have h2:(flatten l).drop (i*sz+off+ds.length) =l[i].cells.drop (off+ds.length) ++(flatten l).drop ((i+1) *sz):=by
   conv=>lhs;rw [hfl]
   rw [List.append_assoc,List.drop_append,ht,List.drop_of_length_le (by rw [ht];omega),List.nil_append,show i*sz+off+ds.length-i*sz=off+ds.length by omega,List.drop_append_of_le_length (by omega)]
  rw [h1,h2]
  simp [List.append_assoc]
 have hval:(arr.toList.take (i*sz+off) ++vs++arr.toList.drop (i*sz+off+vs.length)).toArray.toList.take ((setEl l i off ds).length*sz) =(arr.toList.take (l.length*sz)).take (i*sz+off) ++vs++(arr.toList.take (l.length*sz)).drop (i*sz+off+vs.length):=by
  rw [hlen]
  have h1:(arr.toList.take (i*sz+off)).length=i*sz+off:=by rw [List.length_take];simp;omega
  simp only [List.append_assoc]
  rw [List.take_append,h1,List.take_take,List.take_take,List.take_append]
  congr 1
  ·congr 1;omega
  ·congr 1
   ·rw [List.take_of_length_le (by omega)]
   ·rw [List.drop_take];congr 1;omega
 rw [hval]
 generalize hL:arr.toList.take (l.length*sz) =L at r hal
 have hfll:=flatten_length r.uni
 refine ⟨fun x hx=> ?_,fun d hd=> ?_, ?_,fun j d u hd hu=> ?_⟩
 ·unfold setEl at hx
  rcases List.mem_or_eq_of_mem_set hx with hx | rfl
  ·exact r.uni x hx
  ·rw [e];exact hscl
 ·rw [hflat] at hd
  simp only [List.mem_append] at hd
  rcases hd with (hd | hd) | hd
  ·exact r.flat d (List.mem_of_mem_take hd)
  ·exact hf d hd
  ·exact r.flat d (List.mem_of_mem_drop hd)
 ·rw [hflat]
  simp only [List.length_append,List.length_take,List.length_drop,hfll,hal]
  omega
 ·rw [hflat] at hd
  have l1:((flatten l).take (i*sz+off)).length=i*sz+off:=by rw [List.length_take,hfll];omega
  have l2:(L.take (i*sz+off)).length=i*sz+off:=by rw [List.length_take,hal];omega
  by_cases c1:j<i*sz+off
  ·rw [List.append_assoc,List.getElem?_append_left (by omega),List.getElem?_take,if_pos c1] at hd hu
   exact r.rep j d u hd hu
  ·rw [List.append_assoc,List.getElem?_append_right (by omega)] at hd hu
   rw [l1] at hd
   rw [l2] at hu
   by_cases c2:j-(i*sz+off) <ds.length
   ·rw [List.getElem?_append_left (by omega)] at hd hu
    exact hrep _ d u hd hu
   ·rw [List.getElem?_append_right (by omega),List.getElem?_drop] at hd hu
    rw [hl] at hu
    exact r.rep _ d u hd hu
theorem SR.setRowEl {Γ:Froz} {ρ:Nat→Role} {bl:Nat→Nat} {st:St} {tmps:Array Value} {w:World} (h:SR Γ ρ bl st tmps w) {k z cap:Nat} {cs:List CV} {l:List D} (hbx:st.bx k=some cs) (hro:rowOf cs=some (z,l)) (hrole:ρ (bl k) = .row k z cap)
  {arr arr':Array Value} {e:TypeId} {fz:Nat×Nat} (h1:w.heap[bl k]? =some (.cells arr e fz)) (hsz:arr'.size=arr.size) (l':List D) (hle:l'.length≤cap) (hrf:RepF Γ z l' (arr'.toList.take (l'.length*z))) :
  SR Γ ρ bl (st.set (.b k) (.agg [.arr z l'])) tmps (w.setRow (bl k) arr')∧Fr w Γ ρ (w.setRow (bl k) arr') Γ ρ:=by
 obtain ⟨arr0,e0,fz0,q1,q2,q3,q4,_,_,q8⟩:=h.real hbx hro hrole
 rw [h1] at q1
 cases q1
 have hsame:=setRow_heap w (bl k) arr arr' e fz h1
 have hoth:=fun j (hj:j≠bl k)=>setRow_other w (bl k) j arr' hj
 have ownk: ∀g (p:Place) i,ρ g= .own p i→ρ g=ρ g∧(w.setRow (bl k) arr').heap[g]? =w.heap[g]? ∧∀o,Γ ⟨g,o,none⟩ =Γ ⟨g,o,none⟩:=fun g p i hg=>
  ⟨rfl,hoth g (by intro e;rw [e,hrole] at hg;cases hg),fun _=>rfl⟩
 refine ⟨⟨fun a v ha=> ?_,h.len,fun i c hc=> ?_,fun j cj hcj hrj=> ?_,fun j cj z' l2 hcj hrj=> ?_,fun g j z' cap' hc=> ?_,fun p j hj=> ?_,fun g hg=>by simpa using h.rho g hg,h.gl,fun j i t cj hcj hj=> ?_⟩,⟨.refl _,by simp,rfl,rfl,rfl,fun g hg hp=>⟨hoth g (by intro e;rw [e,hrole] at hp;cases hp),hp⟩,fun _ _ h=> .inl h,fun _ _ _ _ e _ _=>e⟩⟩
 ·have hne:a.block≠bl k:=by
   intro e'
   have hsp:a.spot=none:=by
    have:=h.agree a v ha
    unfold World.cell? at this
    split at this
    ·split at this
     ·cases this
     ·rename_i hh;simpa using hh
    ·cases this
   rw [Addr.eq_lit a hsp,e',q8] at ha;cases ha
  rw [World.cell?_of_block (hoth _ hne)];exact h.agree a v ha
 ·obtain ⟨v,hv,hrv⟩:=h.slots i c hc
  exact ⟨v,hv,hrv.keep (.refl _) (fun j _ g hg=>ownk g _ _ hg) fun _ _=>RK.refl⟩
 ·rw [St.bx_setBox] at hcj
  split at hcj
  ·obtain rfl: [CV.arr z l']=cj:=by simpa using hcj
   cases hrj
  ·rename_i hne
   obtain ⟨arrk,ek,k1,k2,k3,k4⟩:=h.boxes j cj hcj hrj
   have hbk:bl j≠bl k:=by intro e';rw [e',hrole] at k2;cases k2
   exact ⟨arrk,ek,by rw [hoth _ hbk];exact k1,k2,k3.keep (.refl _) (fun j _ g hg=>ownk g _ _ hg) fun _ _ _ _=>RK.refl,k4⟩
 ·rw [St.bx_setBox] at hcj
  split at hcj
  ·rename_i e';subst e'
   obtain rfl: [CV.arr z l']=cj:=by simpa using hcj
   simp only [rowOf,Option.some.injEq,Prod.mk.injEq] at hrj
   obtain ⟨rfl,rfl⟩:=hrj
   exact .inr ⟨arr',e,fz,cap,hsame,hrole,hle,hrf⟩
  ·rename_i hne
   exact (h.rows j cj z' l2 hcj hrj).keep (.refl _) fun cap' hc=>⟨rfl,hoth _ (by intro e';rw [e',hrole] at hc;injection hc with hc;exact hne hc.symm)⟩
 ·by_cases e':g=bl k
  ·subst e'
   rw [hrole] at hc;cases hc
   exact ⟨arr',e,fz,hsame,by rw [hsz];exact q2,by rw [hsz];exact q3,q4,q8⟩
  ·obtain ⟨arr2,e2,fz2,r1,r2⟩:=h.rowk g j z' cap' hc
   exact ⟨arr2,e2,fz2,by rw [hoth g e'];exact r1,r2⟩
 ·rw [St.get_setBox] at hj
  rw [St.bx_setBox]
  split at hj
  ·obtain ⟨c,hc,hc'⟩:=hj
   simp at hc;subst hc
   exact hc'.elim
  ·split
   ·rfl
   ·exact h.closed p j hj
 ·rw [St.bx_setBox] at hcj
  split at hcj
  ·obtain rfl: [CV.arr z l']=cj:=by simpa using hcj
   cases hj
  ·rename_i hne
   have hrk:rowOf cj=none:=by
    unfold rowOf
    split
    ·simp at hj
    ·rfl
   obtain ⟨arrk,ek,k1,k2,k3,k4⟩:=h.boxes j cj hcj hrk
   have hbk:bl j≠bl k:=by intro e';rw [e',hrole] at k2;cases k2
   rw [hoth _ hbk];exact h.bty j i t cj hcj hj
theorem g_store {x y:Operand} {ax ay:AX} {t:TypeId} {ag:Bool} {n:Nat} {ti:TypeInfo} (nl:Option Nat) (ho:o.op= .store t x y) (hdst:o.dst=none) (hx:trX x=some ax) (hy:trX y=some ay) (hi:P.info? t=some ti) (hn:ti.size=n) (hag1:ag=false→n=1) :
  Good P o ((AI.store ag n ax ay nl).pm C okr okw o.dst):=by
 intro Γ ρ bl st a w h hgz hd K hw Q
 simp only [AI.pm] at hw
 rw [ev_wp,ev_wp] at hw
 have e:=rep_ax hx h
 have ey:=rep_ax hy h
 have my:=fun b hb=>ment_ax (b:=b) hy h hb
 split at hw
 ·rename_i b off hb
  rw [hb] at e
  have e:a.eval x= .pointer (some ⟨bl b,off,none⟩):=e
  split at hw
  ·change (match st.get (.b b) with | .agg cs=>_ | _=>PM.fail).wp K st at hw
   split at hw
   ·rename_i cs hcs
    have hbx:=get_b_agg hcs
    obtain ⟨⟨hlen,hoff,hone,hro⟩,hw⟩:=hw
    obtain ⟨arr,ety,h1,h2,h3,h4⟩:=h.boxes b cs hbx hro
    have hal:arr.size=cs.length:=by have:=h3.1;simpa using this.symm
    have hrunS: ∀vs:List Value,(a.eval y).cells=vs.toArray→vs.length=n→(∀u∈vs,u.oneCell'=true)→(execOp a.eval o).run P w= .ok .skip (w.setRow (bl b) (arr.toList.take off++vs++arr.toList.drop (off+vs.length)).toArray):=by
     intro vs hv hl hu
     have:=run_storeVar (P:=P) (off:=off) hi hn hv hl h1 (by omega) hu
     simp [execOp,ho,Instr.storeAt,e,Instr.sureAddr,this]
    cases ag with
    | true=>
     simp only [if_true] at hw hlen hone
     obtain ⟨vs,hv,hl,hu⟩:=rep_cells ey hone
     have hvl:vs.length=n:=by rw [←hl.1];exact hlen
     have hsp:=h3.splice (new:=(ay.val st).cells.map CV.copyB) (us:=vs) off (by simpa using hl.1) (by simp;omega) fun i c u hc hu=>by
       rw [List.getElem?_map,Option.map_eq_some_iff] at hc
       obtain ⟨c',hc',rfl⟩:=hc
       exact (hl.2 i c' u hc' hu).copyB
     have hs:=h.setBox hbx hro (splice off ((ay.val st).cells.map CV.copyB) cs) (arr.toList.take off++vs++arr.toList.drop (off+vs.length)).toArray hsp (fun c hc k hk=> ?_) (fun k t e=> .inl (splice_sp (fun c hc=>by obtain ⟨c',_,rfl⟩:=List.mem_map.1 hc;exact copyB_sp c') e))
     ·exact After.skip hdst hd (hrunS vs hv hvl hu) ⟨Γ,ρ,bl,_,hw.2,hs.1,hs.2,fun _ _=>rfl⟩
     ·simp only [splice,List.mem_append,List.mem_map] at hc
      rcases hc with (hc | ⟨c',hc',rfl⟩) | hc
      ·exact h.closed (.b b) k (by rw [St.get_bx hbx];exact ⟨c,List.mem_of_mem_take hc,hk⟩)
      ·exact my k (ment_cells hone hc' (copyB_ment1 hk))
      ·exact h.closed (.b b) k (by rw [St.get_bx hbx];exact ⟨c,List.mem_of_mem_drop hc,hk⟩)
    | false=>
     obtain rfl:=hag1 rfl
     simp only [Bool.false_eq_true,if_false,List.all_cons,List.all_nil,Bool.and_true] at hw hone
     have h1c:=one_rep (repC_one ey hone) hone
     have hvc:(a.eval y).cells= [a.eval y].toArray:=by
      generalize a.eval y=u at h1c
      cases u<;>first | rfl | simp [Value.oneCell'] at h1c
     have hrun:=hrunS [a.eval y] hvc rfl (by simpa using h1c)
     have hment: ∀(c:CV) (d:CV),c∈splice off [d] cs→(∀k,d.ment1 k→(st.bx k).isSome=true)→∀k,c.ment1 k→(st.bx k).isSome=true:=by
      intro c d hc hd' k hk
      simp only [splice,List.mem_append,List.mem_singleton] at hc
      rcases hc with (hc | rfl) | hc
      ·exact h.closed (.b b) k (by rw [St.get_bx hbx];exact ⟨c,List.mem_of_mem_take hc,hk⟩)
      ·exact hd' k hk
      ·exact h.closed (.b b) k (by rw [St.get_bx hbx];exact ⟨c,List.mem_of_mem_drop hc,hk⟩)
     have plain: ∀d:CV,isSpC d=false→RepC1 Γ ρ bl w (.b b) off d (a.eval y)→(∀k,d.ment1 k→(st.bx k).isSome=true)→(PM.set (.b b) (.agg (splice off [d] cs)) .done).wp K st→
       o.wp P a w (fun a' w'=>a'.defers= []∧After K Γ ρ bl w st a'.tmps w') Q:=by
      intro d hd0 hd1 hd2 hw
      have hs:=h.setBox hbx hro (splice off [d] cs) (arr.toList.take off++ [a.eval y]++arr.toList.drop (off+1)).toArray (by
       simpa using h3.splice off (new:=[d]) (us:=[a.eval y]) rfl (by simp;omega) fun i c u hc hu=>by
        cases i with
        | zero=>simp at hc hu;subst hc;subst hu;exact hd1
        | succ i=>simp at hc) (fun c hc k hk=>hment c d hc hd2 k hk) (fun k t e=> .inl (splice_sp (by simpa using hd0) e))
      exact After.skip hdst hd hrun ⟨Γ,ρ,bl,_,hw.2,hs.1,hs.2,fun _ _=>rfl⟩
     cases ay with
     | t n=>
      simp only [AX.val] at hw hone ey my
      cases hv:st.get (.s n) with
      | own sz l=>
       simp only [hv,isOwn,if_true] at hw
       obtain ⟨ρ',st',g1,g2,g3,g4,rfl⟩:=strip_sound h hy hv hw (.b b) off
       have hbx':(st.set (.s n) (.d (.slice sz l))).bx b=some cs:=hbx
       have hs:=g1.setBox hbx' hro (splice off [.own sz l] cs) (arr.toList.take off++ [a.eval y]++arr.toList.drop (off+1)).toArray (by
        obtain ⟨arr',e',k1,k2,k3,k4⟩:=g1.boxes b cs hbx' hro
        rw [h1] at k1;cases k1
        simpa using k3.splice off (new:=[.own sz l]) (us:=[a.eval y]) rfl (by simp;omega) fun i c u hc hu=>by
         cases i with
         | zero=>simp at hc hu;subst hc;subst hu;exact g2
         | succ i=>simp at hc) (fun c hc k hk=>hment c (.own sz l) hc (fun _ h=>h.elim) k hk) (fun k t e=> .inl (splice_sp (by simp [isSpC]) e))
       exact After.skip hdst hd hrun ⟨Γ,ρ',bl,_,g4.2,hs.1,g3.trans hs.2,fun _ _=>rfl⟩
      | _=>
       simp only [hv] at hw hone ey my
       exact plain _ (copy1_sp _) ((repC_one ey hone).copy1) (fun k hk=>my k (ment_one hone (copy1_ment1 hk))) hw
     | c v=>
      simp only [AX.val] at hw hone ey my
      cases v with
      | nils=>
       have hv:a.eval y= .slice none 0 0:=ey
       refine plain _ (by cases nl<;>rfl) ?_ ?_ hw
       ·cases nl with
        | none=>exact hv
        | some sz=>exact .inl ⟨0,[],by rw [hv];exact rowS_nil w 0 sz,⟨by simp,by simp [flatten],rfl,by simp [flatten]⟩,by rw [hv];simp [Value.ownBlock]⟩
       ·intro k hk;cases nl<;>exact hk.elim
      | own sz l=>
       exfalso
       cases y with
       | const u=>
        simp only [trX,Option.map_eq_some_iff] at hy
        obtain ⟨c,hc',e'⟩:=hy
        injection e' with e';subst e'
        have:=(cvOf_plain hc').1
        simp [CV.noOwn] at this
       | func f=>simp [trX] at hy
       | tmp n=>simp [trX] at hy
       | global g=>simp [trX] at hy
      | sp k t=>
       exfalso
       cases y with
       | const u=>
        simp only [trX,Option.map_eq_some_iff] at hy
        obtain ⟨c,hc',e'⟩:=hy
        injection e' with e';subst e'
        exact (cvOf_plain hc').2 k rfl
       | func f=>simp [trX] at hy
       | tmp n=>simp [trX] at hy
       | global g=>simp [trX] at hy
      | _=>exact plain _ rfl ((repC_one ey hone).place (by first | rfl | simp [CV.one] at hone)) (fun k hk=>my k (ment_one hone hk)) hw
   ·exact hw.elim
  ·exact hw.elim
 ·rename_i z k i off hb
  rw [hb] at e
  obtain ⟨e,cap,hrole,_⟩ :RowA ρ bl z k i off (a.eval x):=e
  split at hw
  ·change (match rowD (st.get (.b k)) with | some (z',l)=>_ | none=>PM.fail).wp K st at hw
   split at hw
   ·rename_i z' l hrd
    split at hw
    ·rename_i ds hds
     obtain ⟨⟨hdn,hz,hi',hoff⟩,hw⟩:=hw
     subst hz
     obtain ⟨cs,hbx,hro⟩:=get_b_row hrd
     obtain ⟨arr,ety,fz,h1,hfz,hsz,_,hle,hrf,h4⟩:=h.real hbx hro hrole
     obtain ⟨vs,hv,hl,hu,hrep⟩:=allE_rep ey hds
     have hfit:i*z'+off+vs.length≤arr.size:=by
      have:i*z'+z'≤l.length*z':=by rw [←Nat.succ_mul];exact Nat.mul_le_mul_right _ hi'
      have:l.length*z'≤cap*z':=Nat.mul_le_mul_right _ hle
      omega
     have hrun:(execOp a.eval o).run P w= .ok .skip (w.setRow (bl k) (arr.toList.take (i*z'+off) ++vs++arr.toList.drop (i*z'+off+vs.length)).toArray):=by
      have:=run_storeVar_ok (P:=P) (off:=i*z'+off) hi hn hv (by omega) h1 hfz (by omega) hu
      simp [execOp,ho,Instr.storeAt,e,Instr.sureAddr,this]
     obtain ⟨g1,g2⟩:=h.setRowEl hbx hro hrole h1 (arr':=(arr.toList.take (i*z'+off) ++vs++arr.toList.drop (i*z'+off+vs.length)).toArray) (by simp;omega) (setEl l i off ds) (by simp [setEl];exact hle)
      (setEl_rep hrf hi' (by omega) (fun d hd=>(allE_flat hds d hd)) hl hrep hfit)
     exact After.skip hdst hd hrun ⟨Γ,ρ,bl,_,hw.2,g1,g2,fun _ _=>rfl⟩
    ·exact hw.elim
   ·exact hw.elim
  ·exact hw.elim
 ·exact hw.elim
def zchk:CV→Value→Bool
 | .d (.bool b), .bool b'=>b==b'
 | .d (.int k n), .int k' n'=>decide (k=k') &&n==n'
 | .d (.str []), .string s=>s.size==0
 | .own _ [], .slice none 0 0=>true
 | .d (.nils _), .slice none 0 0=>true
 | .d .nilp, .pointer none=>true
 | .d (.fn none), .nilFunc=>true
 | .junk,_=>true
 | .nils, .slice none 0 0=>true
 | .sp _ _, .pointer none=>true
 | .bld _ _ [], .slice none 0 0=>true
 | _,_=>false
def zchkL:List CV→List Value→Bool
 | [],[]=>true
 | c :: r,v :: t=>zchk c v&&zchkL r t
 | _,_=>false
theorem zchk_rep {c:CV} {v:Value} (h:zchk c v=true) (Γ:Froz) (ρ:Nat→Role) (bl:Nat→Nat) (w:World) (p:Place) (i:Nat) :RepC1 Γ ρ bl w p i c v∧∀b,c.ment1 b→∃t,c= .sp b t:=by
 unfold zchk at h
 split at h
 ·simp at h;subst h;exact ⟨.bool _,fun _ h=>h.elim⟩
 ·simp at h;obtain ⟨rfl,rfl⟩:=h;exact ⟨.int _ _,fun _ h=>h.elim⟩
 ·rename_i s
  have:s= ⟨#[]⟩:=by
   have h:s.data.size=0:=by simpa using h
   cases s;simp at h;simp [h]
  subst this;exact ⟨.str [],fun _ h=>h.elim⟩
 ·exact ⟨.inl ⟨0,[],rowS_nil w 0 _,⟨by simp,by simp [flatten],rfl,by simp [flatten]⟩,by simp [Value.ownBlock]⟩,fun _ h=>h.elim⟩
 ·exact ⟨.nils _,fun _ h=>h.elim⟩
 ·exact ⟨.nilp,fun _ h=>h.elim⟩
 ·exact ⟨.nofn,fun _ h=>h.elim⟩
 ·exact ⟨trivial,fun _ h=>h.elim⟩
 ·exact ⟨rfl,fun _ h=>h.elim⟩
 ·exact ⟨.inl rfl,fun b h=>⟨_,by rw [show _=b from h]⟩⟩
 ·exact ⟨⟨fun _=>rfl,World.ownsRowF_nil w 0 _ 1,by simp [Value.ownBlock]⟩,fun _ h=>h.elim⟩
 ·cases h
theorem zchkL_rep {Γ:Froz} {ρ:Nat→Role} {bl:Nat→Nat} {w:World} {p:Place}: ∀{cs:List CV} {vs:List Value},zchkL cs vs=true→cs.length=vs.length∧(∀k (i:Nat) c v,cs[i]? =some c→vs[i]? =some v→RepC1 Γ ρ bl w p (k+i) c v)∧∀c∈cs,∀b,c.ment1 b→∃t,c= .sp b t
 | [],[],_=>⟨rfl,by simp,by simp⟩
 | c :: r,v :: t,h=>by
  simp only [zchkL,Bool.and_eq_true] at h
  obtain ⟨h1,h2,h3⟩:=zchkL_rep (Γ:=Γ) (ρ:=ρ) (bl:=bl) (w:=w) (p:=p) h.2
  refine ⟨by simp [h1],fun k i c' v' hc hv=> ?_,fun c' hc b=> ?_⟩
  ·cases i with
   | zero=>simp at hc hv;subst hc;subst hv;exact (zchk_rep h.1 _ _ _ _ _ _).1
   | succ i=>have:=h2 (k+1) i c' v' hc hv;rwa [show k+1+i=k+(i+1) by omega] at this
  ·rcases List.mem_cons.1 hc with rfl | hc
   ·exact (zchk_rep h.1 (fun _=>none) (fun _=> .plain) id w (.s 0) 0).2 b
   ·exact h3 c' hc b
 | [],_ :: _,h=>by simp [zchkL] at h
 | _ :: _,[],h=>by simp [zchkL] at h
theorem setB_twice (b:Nat) (x y:List CV) : ∀l:List (Nat×List CV),setB b y (setB b x l) =setB b y l
 | []=>by simp [setB]
 | (k,v) :: r=>by
  by_cases e:(b==k) =true
  ·simp [e,setB]
  ·simp [e,setB,setB_twice b x y r]
def unSp:CV→CV
 | .sp _ _=> .junk
 | c=>c
def spOk (d:Option Nat) (t:Nat) :CV→Bool
 | .sp b k=>d==some b&&k==t
 | _=>true
theorem unSp_sp (c:CV) :isSpC (unSp c) =false:=by cases c<;>rfl
theorem unSp_ment {c:CV} {b:Nat} (h:c.ment1 b→∃t,c= .sp b t) : ¬(unSp c).ment1 b:=by
 intro hm
 cases c with
 | sp k t=>exact hm
 | _=>first | exact hm | (obtain ⟨t,e⟩:=h hm;cases e)
theorem unSp_rep {Γ:Froz} {ρ:Nat→Role} {bl:Nat→Nat} {w:World} {p:Place} {i:Nat} {c:CV} {v:Value} (h:RepC1 Γ ρ bl w p i c v) :RepC1 Γ ρ bl w p i (unSp c) v:=by
 cases c with
 | sp k t=>trivial
 | _=>exact h
theorem newBox_fin {K:St→Prop} {Γ:Froz} {ρ:Nat→Role} {bl:Nat→Nat} {st:St} {a:Act} {w:World} {Q:Exit→Act→World→Prop} {d:Nat} {cs:List CV} {arr:Array Value} {e:TypeId} (h:SR Γ ρ bl st a.tmps w) (hd:a.defers= []) (hdst:o.dst=some d)
  (hb:st.bx d=none) (hr:RepL Γ ρ bl w (.b d) cs arr.toList) (hm: ∀c∈cs,∀k,c.ment1 k→(st.bx k).isSome=true) (hsp: ∀k t,cs[0]? ≠some (.sp k t))
  (hrun:(execOp a.eval o).run P w= .ok (.value (.pointer (some ⟨w.heap.size,0,none⟩))) (w.alloc (.cells arr e)))
  (hw:(PM.set (.b d) (.agg cs) (.set (.s d) (.ptr d 0) .done)).wp K st) :o.wp P a w (fun a' w'=>a'.defers= []∧After K Γ ρ bl w st a'.tmps w') Q:=by
 unfold Oper.wp
 rw [hrun,Oper.upon_value]
 obtain ⟨h1,h2⟩:=h.newBox hb cs arr e hr hm hsp
 have h3:=h1.setSlot d (.ptr d 0) (.pointer (some ⟨w.heap.size,0,none⟩)) (by show _=_;rw [upd_same]) (fun b hb'=>by
  have:d=b:=hb'
  subst this;rw [St.bx_setBox,if_pos rfl];rfl)
 exact ⟨by rw [put_defers];exact hd,Γ,_,_,_,hw.2.2,by rw [put_tmps,hdst];exact h3,h2,fun b hb'=>upd_ne _ _ (by rintro rfl;have hb':=hb'.2;rw [hb] at hb';cases hb')⟩
theorem g_alloc {t:TypeId} {ti:TypeInfo} {z:Value} {zs:List CV} (ho:o.op= .alloc t) (hi:P.info? t=some ti) (hz:ti.zero=some z) (hzs:zchkL zs z.cells.toList=true) (hsp:zs.all (spOk o.dst t) =true) :Good P o ((AI.alloc zs).pm C okr okw o.dst):=by
 intro Γ ρ bl st a w h hgz hd K hw Q
 cases hdst:o.dst with
 | none=>rw [hdst] at hw;exact hw.elim
 | some d=>
  rw [hdst] at hw
  change (match st.get (.b d) with | .junk=>_ | _=>PM.fail).wp K st at hw
  split at hw
  ·rename_i hj
   obtain ⟨k1,k2,k3⟩:=zchkL_rep (Γ:=Γ) (ρ:=ρ) (bl:=bl) (w:=w) (p:= .b d) hzs
   have hb:=get_b_junk hj
   have hrun:(execOp a.eval o).run P w= .ok (.value (.pointer (some ⟨w.heap.size,0,none⟩))) (w.alloc (.cells z.cells t)):=by
    simp [execOp,ho,Instr.alloc,zeroValue,typeInfo,hi,hz,newVar,newRow]
   unfold Oper.wp
   rw [hrun,Oper.upon_value]
   have hz0:RepL Γ ρ bl w (.b d) (zs.map unSp) z.cells.toList:=⟨by simpa using k1,fun i c v hc hv=>by
    rw [List.getElem?_map,Option.map_eq_some_iff] at hc
    obtain ⟨c',hc',rfl⟩:=hc
    exact unSp_rep (by simpa using k2 0 i c' v hc' hv)⟩
   obtain ⟨h1,h2⟩:=h.newBox hb (zs.map unSp) z.cells t hz0 (fun c hc k hk=>by
    rw [List.mem_map] at hc
    obtain ⟨c',hc',rfl⟩:=hc
    exact (unSp_ment (k3 c' hc' k) hk).elim) (fun k t' e=>by
    have:=List.mem_of_getElem? e
    obtain ⟨c',_,e2⟩:=List.mem_map.1 this
    have:=unSp_sp c'
    rw [e2] at this;cases this)
   have hb2:(st.set (.b d) (.agg (zs.map unSp))).bx d=some (zs.map unSp):=by rw [St.bx_setBox,if_pos rfl]
   obtain ⟨k1',k2',_⟩:=zchkL_rep (Γ:=Γ) (ρ:=upd ρ w.heap.size (.box d)) (bl:=upd bl d w.heap.size) (w:=w.alloc (.cells z.cells t)) (p:= .b d) hzs
   have h4:=(h1.setBox hb2 hz0.noRow zs z.cells ⟨k1',fun i c v hc hv=>by simpa using k2' 0 i c v hc hv⟩ (fun c hc k hk=>by
    obtain ⟨t',e1⟩:=k3 c hc k hk
    subst e1
    have e2:=List.all_eq_true.1 hsp _ hc
    have:d=k:=by
     simp [spOk,hdst] at e2
     exact e2.1
    subst this
    rw [St.bx_setBox,if_pos rfl];rfl) (fun k t' e=> .inr (by
    have e2:=List.all_eq_true.1 hsp _ (List.mem_of_getElem? e)
    simp [spOk] at e2
    rw [e2.2,upd_same]
    exact ⟨_,_,heap_alloc_new w _⟩))).1
   rw [setRow_self _ _ z.cells t (0,0) (by rw [upd_same];exact heap_alloc_new w _)] at h4
   have hst:(st.set (.b d) (.agg (zs.map unSp))).set (.b d) (.agg zs) =st.set (.b d) (.agg zs):=by simp only [St.set];rw [setB_twice]
   rw [hst] at h4
   have h3:=h4.setSlot d (.ptr d 0) (.pointer (some ⟨w.heap.size,0,none⟩)) (by show _=_;rw [upd_same]) (fun b hb'=>by
    have:d=b:=hb'
    subst this;rw [St.bx_setBox,if_pos rfl];rfl)
   exact ⟨by rw [put_defers];exact hd,Γ,_,_,_,hw.2.2,by rw [put_tmps,hdst];exact h3,h2,fun b hb'=>upd_ne _ _ (by rintro rfl;have hb':=hb'.2;rw [hb] at hb';cases hb')⟩
  ·exact hw.elim
theorem g_box {t:TypeId} {x:Operand} {ax:AX} (n:Nat) (ag:Bool) (ho:o.op= .box t x) (hx:trX x=some ax) :Good P o ((AI.box n ag ax).pm C okr okw o.dst):=by
 intro Γ ρ bl st a w h hgz hd K hw Q
 cases hdst:o.dst with
 | none=>rw [hdst] at hw;exact hw.elim
 | some d=>
  rw [hdst] at hw
  simp only [AI.pm] at hw
  rw [ev_wp] at hw
  change (match st.get (.b d) with | .junk=>_ | _=>PM.fail).wp K st at hw
  split at hw
  ·rename_i hj
   obtain ⟨⟨hl,hone⟩,hw⟩:=hw
   have e:=rep_ax hx h
   have hm:=fun b hb=>ment_ax (b:=b) hx h hb
   have hone':(ax.val st).cells.all CV.one=true:=by
    cases ag with
    | true=>simpa using hone
    | false=>
     simp at hone
     generalize ax.val st=c at hone
     cases c with
     | d x=>cases x<;>first | (simp [CV.one,D.flat] at hone;done) | simp [CV.cells,CV.one,D.flat]
     | _=>first | (simp [CV.one] at hone;done) | simp [CV.cells,CV.one]
   have hcells:(if ag then (ax.val st).cells else [ax.val st]) =(ax.val st).cells:=by
    cases ag with
    | true=>rfl
    | false=>
     simp at hone
     generalize ax.val st=c at hone
     cases c with
     | d x=>cases x<;>first | (simp [CV.one,D.flat] at hone;done) | rfl
     | _=>first | (simp [CV.one] at hone;done) | rfl
   rw [hcells] at hw
   obtain ⟨vs,hv,hr,hu⟩:=rep_cells e hone'
   refine newBox_fin (arr:=vs.toArray) (e:=t) h hd hdst (get_b_junk hj) (by simpa using hr.copyBL (q:= .b d)) (fun c hc k hk=> ?_) (fun k t e=>by
    obtain ⟨c',_,e2⟩:=List.mem_map.1 (List.mem_of_getElem? e)
    have:=copyB_sp c'
    rw [e2] at this;cases this) ?_ hw
   ·rw [List.mem_map] at hc
    obtain ⟨c',hc',rfl⟩:=hc
    exact hm k (ment_cells hone' hc' (copyB_ment1 hk))
   ·simp [execOp,ho,Instr.box,newVar,newRow,hv]
  ·exact hw.elim
end B
end Go.Proofs.YtmkkljbfmdngfaaGreatDoor
