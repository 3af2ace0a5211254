/- Each instruction does what the abstract one says: the rest. No condition. -/
import Derived.Test.YtmkkljbfmdngfaaGreatDoorB8
import Derived.Laws.Tables
set_option linter.all false
namespace Go.Proofs.YtmkkljbfmdngfaaGreatDoor
namespace B
open Go.RowKit
variable {P:Program} {C:CallRel} {okr okw:Nat→Bool} {o:Oper}
theorem evL_wp {K:St→Prop} {st:St}: ∀{xs:List AX} {k:List CV→PM},(evL xs k).wp K st↔(k (xs.map (AX.val st))).wp K st
 | [],_=>Iff.rfl
 | x :: r,k=>by
  simp only [evL,List.map_cons]
  rw [ev_wp,evL_wp]
theorem newOwn_fin {K:St→Prop} {Γ:Froz} {ρ:Nat→Role} {bl:Nat→Nat} {st:St} {a:Act} {w:World} {Q:Exit→Act→World→Prop} {arr:Array Value} {e:TypeId} {sz n:Nat} {l:List D} {vs:List Value} (h:SR Γ ρ bl st a.tmps w) (hd:a.defers= [])
  (hn:l.length=n) (hf:RepF Γ sz l vs) (harr:arr=vs.toArray) (hmax:n≤maxLen)
  (hrun:(execOp a.eval o).run P w= .ok (.value (.slice (some ⟨w.heap.size,0,none⟩) n n)) (w.alloc (.cells arr e)))
  (hw:(setD o.dst (.own sz l)).wp K st) :o.wp P a w (fun a' w'=>a'.defers= []∧After K Γ ρ bl w st a'.tmps w') Q:=by
 subst harr hn
 obtain ⟨g1,g2⟩:=h.newOwn vs.toArray e vs (fun i u hu=>by simpa using hu) (.own (.s (o.dst.getD 0)) 0)
 unfold Oper.wp
 rw [hrun,Oper.upon_value]
 have how:Own (freezeRow Γ w.heap.size vs) (upd ρ w.heap.size (.own (.s (o.dst.getD 0)) 0)) (w.alloc (.cells vs.toArray e)) (.s (o.dst.getD 0)) 0 sz l (.slice (some ⟨w.heap.size,0,none⟩) l.length l.length):=by
  refine .inl ⟨e,vs,⟨hf.vs_len, .inr ⟨w.heap.size,l.length,vs.toArray,rfl,⟨(0,0), .inl rfl,heap_alloc_new w _⟩,Nat.le_refl _,hmax,by simpa using hf.vs_len,by rw [←hf.vs_len];simp⟩⟩,hf.mono g2.le,fun g hg=> ?_⟩
  have:w.heap.size=g:=by simpa [Value.ownBlock] using hg
  subst this
  exact ⟨upd_same _ _ _,fun o=>freezeRow_at _ _ _ _⟩
 obtain ⟨st'',hK,hs'⟩:=setD_sound g1 (dst:=o.dst) (c:= .own sz l) (v:= .slice (some ⟨w.heap.size,0,none⟩) l.length l.length) (fun d' e'=>by
  have e2:o.dst.getD 0=d':=by rw [e'];rfl
  rw [e2] at how⊢;exact how) (fun b hb=>hb.elim) hw
 exact ⟨by rw [put_defers];exact hd,_,_,bl,st'',hK,by rw [put_tmps];exact hs',g2,fun _ _=>rfl⟩
theorem foldl_sets (vs:List Value) : ∀(off k:Nat) (cells:Array Value),off+k+vs.length≤cells.size→((vs.zipIdx k).foldl (fun cs (c,j)=>cs.setIfInBounds (off+j) c) cells).toList=cells.toList.take (off+k) ++vs++cells.toList.drop (off+k+vs.length):=by
 induction vs with
 | nil=>intro off k cells _;simp
 | cons v r ih=>
  intro off k cells hl
  simp only [List.zipIdx_cons,List.foldl_cons]
  rw [ih off (k+1) _ (by simp at hl⊢;omega)]
  have:=list_seg_step cells.toList (off+k) v r (by simp at hl⊢;omega)
  simpa [Array.toList_setIfInBounds,Nat.add_assoc] using this
theorem fill_step (place:Nat→Option (Nat×Nat)) (cells:Array Value) (i:Nat) (v:Value) (rest:List (Nat×Value)) (off:Nat) (vs:List Value) (hp:place i=some (off,vs.length)) (hv:v.cells=vs.toArray) (hl:off+vs.length≤cells.size) :
  Instr.fill place cells ((i,v) :: rest) =Instr.fill place (cells.toList.take off++vs++cells.toList.drop (off+vs.length)).toArray rest:=by
 have:=foldl_sets vs off 0 cells (by simpa using hl)
 simp only [Nat.add_zero] at this
 have e:(v.cells.zipIdx.foldl (fun cs (c,j)=>cs.setIfInBounds (off+j) c) cells) =(cells.toList.take off++vs++cells.toList.drop (off+vs.length)).toArray:=by
  apply Array.ext'
  rw [←this,hv,←Array.foldl_toList]
  simp
 simp only [Instr.fill,hp]
 rw [if_neg (by simp [hv];omega)]
 rw [e]
theorem fill_slice (ρ:Operand→Value) (size:Nat) : ∀(parts:List (Nat×Operand)) (k:Nat) (vss:List (List Value)) (cells:Array Value) (pre:List Value),parts.map (·.1) =List.range' k parts.length→vss.length=parts.length→
  (∀(i:Nat) x vs,parts[i]? =some x→vss[i]? =some vs→(ρ x.2).cells=vs.toArray∧vs.length=size)→cells.size=(k+parts.length) *size→cells.toList.take (k*size) =pre→pre.length=k*size→
  Instr.fill (fun i=>some (i*size,size)) cells (parts.map fun (i,x)=>(i,ρ x)) =some (pre++vss.flatten).toArray
 | [],k,vss,cells,pre,_,hl,_,hc,ht,_=>by
  obtain rfl:vss= []:=List.eq_nil_of_length_eq_zero hl
  simp only [List.map_nil,Instr.fill,List.flatten_nil,List.append_nil]
  congr 1
  rw [←ht]
  apply Array.ext'
  simp only [List.length_nil,Nat.add_zero] at hc
  rw [←hc,←Array.length_toList,List.take_length]
 | (i,x) :: r,k,vss,cells,pre,hi,hl,hp,hc,ht,hpl=>by
  cases vss with
  | nil=>simp at hl
  | cons vs vss=>
   simp only [List.map_cons,List.length_cons,List.range'_succ,List.cons.injEq] at hi
   obtain ⟨rfl,hi⟩:=hi
   obtain ⟨hv,hvl⟩:=hp 0 (i,x) vs rfl rfl
   simp only [List.map_cons]
   have hsz:i*size+vs.length≤cells.size:=by rw [hc,hvl];simp only [List.length_cons];rw [Nat.add_mul,Nat.add_mul];omega
   rw [fill_step _ cells i (ρ x) _ (i*size) vs (by rw [hvl]) hv hsz]
   rw [fill_slice ρ size r (i+1) vss _ (pre++vs) hi (by simpa using hl) (fun j y us hy hu=>hp (j+1) y us (by simpa using hy) (by simpa using hu)) ?_ ?_ ?_]
   ·simp
   ·simp only [List.size_toArray,List.length_append,List.length_take,List.length_drop,Array.length_toList]
    simp only [List.length_cons] at hc
    rw [hc] at hsz⊢
    rw [show i+1+r.length=i+(r.length+1) by omega]
    omega
   ·simp only
    rw [ht]
    rw [List.take_left' (by rw [List.length_append,hpl,hvl,Nat.add_mul,Nat.one_mul])]
   ·rw [List.length_append,hpl,hvl,Nat.add_mul,Nat.one_mul]
theorem g_buildSl {t e:TypeId} {len sz:Nat} {parts:Array (Nat×Operand)} {aps:List AX} {ti:TypeInfo} {z:Value} (ho:o.op= .buildSlice t len parts) (hp:parts.toList.map (fun x=>trX x.2) =aps.map some) (hix:parts.toList.map (·.1) =List.range len)
  (ht:P.underlying t=some (.slice e)) (hi:P.info? e=some ti) (hz:ti.zero=some z) (hsz:ti.size=sz) (hzs:z.cells.size=sz) (hlim:len*sz≤2 ^ 24) (hlim2:len≤2 ^ 24) :Good P o ((AI.buildSl sz aps).pm C okr okw o.dst):=by
 intro Γ ρ bl st a w h hgz hd K hw Q
 simp only [AI.pm] at hw
 rw [evL_wp] at hw
 have hlen:parts.toList.length=len:=by have:=congrArg List.length hix;simpa using this
 have hpl:aps.length=len:=by have:=congrArg List.length hp;simp at this;rw [←this,←hlen];simp
 split at hw
 ·rename_i ds hds
  obtain ⟨hu,hw⟩:=hw
  have hdl: ∀{cs:List CV} {ds:List D},allD cs=some ds→cs.length=ds.length∧∀(i:Nat) c d,cs[i]? =some c→ds[i]? =some d→∃y,c.asD=some y∧d=y.norm:=by
   intro cs
   induction cs with
   | nil=>intro ds h;simp only [allD,Option.some.injEq] at h;subst h;simp
   | cons c r ih=>
    intro ds h
    simp only [allD] at h
    split at h
    ·rename_i x xs hx hxs
     simp only [Option.some.injEq] at h;subst h
     obtain ⟨h1,h2⟩:=ih hxs
     refine ⟨by simp [h1],fun i c' d hc hd=> ?_⟩
     cases i with
     | zero=>simp at hc hd;subst hc;subst hd;exact ⟨_,hx,rfl⟩
     | succ i=>exact h2 i c' d hc hd
    ·cases h
  obtain ⟨k1,k2⟩:=hdl hds
  have hdsl:ds.length=len:=by rw [←k1];simpa using hpl
  have hpart: ∀i (hi:i<len),∃vs:List Value,(a.eval (parts.toList[i]'(by omega)).2).cells=vs.toArray∧RepF Γ sz [ds[i]'(by omega)] vs:=by
   intro i hil
   have e1:trX (parts.toList[i]'(by omega)).2=some (aps[i]'(by omega)):=by
    have:=congrArg (·[i]?) hp
    simp only [List.getElem?_map] at this
    rw [List.getElem?_eq_getElem (by omega),List.getElem?_eq_getElem (by omega)] at this
    simpa using this
   have hr:=rep_ax e1 h
   have hc:=k2 i _ (ds[i]'(by omega)) (by rw [List.getElem?_map,List.getElem?_eq_getElem (by omega)];rfl) (List.getElem?_eq_getElem (by omega))
   have hrd:Rep Γ (ds[i]'(by omega)) (a.eval (parts.toList[i]'(by omega)).2):=by
    obtain ⟨y,hc,hy⟩:=hc
    rw [hy]
    refine Rep.norm ?_
    generalize (aps[i]'(by omega)).val st=c at hr hc
    have hr1:RepC1 Γ ρ bl w (aps[i]'(by omega)).place 0 c (a.eval (parts.toList[i]'(by omega)).2):=by cases c<;>first | exact hr | (simp [CV.asD] at hc;done)
    exact rep_asD hr1 hc
   have hul:=hu (ds[i]'(by omega)) (List.getElem_mem _)
   generalize ds[i]'(by omega) =x at hrd hul⊢
   generalize a.eval (parts.toList[i]'(by omega)).2=v at hrd⊢
   cases x with
   | agg l=>
    cases hrd with
    | agg _ vs hl hf hrr=>
     refine ⟨vs,rfl,by simpa using hul, ?_,by simpa [flatten,D.cells] using hl, ?_⟩
     ·simpa [flatten,D.cells] using hf
     ·intro j d u hd hu';exact hrr j d u (by simpa [flatten,D.cells] using hd) hu'
   | _=>
    refine ⟨[v],by rw [Rep.cells1 hrd rfl],by simpa using hul,by simp [flatten,D.cells,D.flat],by simp [flatten,D.cells], ?_⟩
    intro j d u hd hu'
    cases j with
    | zero=>simp [flatten,D.cells] at hd hu';subst hd;subst hu';exact hrd
    | succ j=>simp [flatten,D.cells] at hd
  let f:Nat→List Value:=fun i=>if hi:i<len then (hpart i hi).choose else []
  have hf1: ∀i (hi:i<len),(a.eval (parts.toList[i]'(by omega)).2).cells=(f i).toArray∧RepF Γ sz [ds[i]'(by omega)] (f i):=fun i hi=>by
   have:=(hpart i hi).choose_spec
   simp only [f,hi,dif_pos];exact this
  have hrepf: ∀n,n≤len→RepF Γ sz (ds.take n) ((List.range n).map f).flatten:=by
   intro n
   induction n with
   | zero=>intro _;exact ⟨by simp,by simp [flatten],rfl,by simp [flatten]⟩
   | succ n ih=>
    intro hn
    rw [List.take_succ_eq_append_getElem (by omega),List.range_succ,List.map_append,List.flatten_append]
    simpa using (ih (by omega)).append (hf1 n (by omega)).2
  have hall:=hrepf len (Nat.le_refl _)
  rw [List.take_of_length_le (by omega)] at hall
  have hfill:=fill_slice a.eval sz parts.toList 0 ((List.range len).map f) ((Array.range (len*sz)).map (fun i=>z.cells[i % z.cells.size]!)) [] (by rw [hix,hlen,List.range_eq_range']) (by simp [hlen]) (fun i x vs hx hvs=>by
   have hil:i<len:=by have:=(List.getElem?_eq_some_iff.1 hvs).1;simpa using this
   rw [List.getElem?_eq_getElem (by omega)] at hx
   simp [hil] at hvs hx
   subst hx;subst hvs
   exact ⟨by simpa using (hf1 i hil).1,by have:=(hf1 i hil).2.vs_len;simpa using this⟩) (by simp [hlen]) (by simp) (by simp)
  refine newOwn_fin (arr:=((List.range len).map f).flatten.toArray) (e:=e) h hd hdsl hall rfl (by simp only [maxLen];omega) ?_ hw
  have hparts:(parts.map fun x=>(x.1,a.eval x.2)).toList=parts.toList.map fun x=>(x.1,a.eval x.2):=by simp
  by_cases hzero:len*sz=0
  ·have hfill0:Instr.fill (fun i=>some (i*sz,sz)) #[] (parts.toList.map fun x=>(x.1,a.eval x.2)) =some ((List.range len).map f).flatten.toArray:=by
    have e0:(Array.map (fun i=>z.cells[i % z.cells.size]!) (Array.range (len*sz))) = #[]:=by rw [hzero];simp
    rw [e0] at hfill;simpa using hfill
   have hr0: ∀g:Nat→Value,Array.map g (Array.range 0) = #[]:=fun g=>by apply Array.ext';simp
   simp [execOp,ho,Instr.buildSlice,run_underlying ht,sizeOf,typeInfo,hi,hsz,hzero,hr0,hfill0,newRow]
  ·simp only [List.nil_append] at hfill
   have hl24: ¬(2 ^ 24<len*sz):=by omega
   simp [execOp,ho,Instr.buildSlice,run_underlying ht,sizeOf,typeInfo,zeroValue,hi,hsz,hz,hzero,newRow,hfill]
   omega
 ·exact hw.elim
def RepN (Γ:Froz) (ρ:Nat→Role) (bl:Nat→Nat) (w:World) (cs:List CV) (vs:List Value) :Prop:=
 cs.length=vs.length∧∀(i:Nat) c v,cs[i]? =some c→vs[i]? =some v→∀p j,RepC1 Γ ρ bl w p j c v
theorem RepN.splice {Γ:Froz} {ρ:Nat→Role} {bl:Nat→Nat} {w:World} {cs new:List CV} {vs us:List Value} (h:RepN Γ ρ bl w cs vs) (off:Nat) (hn:RepN Γ ρ bl w new us) (hoff:off+new.length≤cs.length) :
  RepN Γ ρ bl w (splice off new cs) (vs.take off++us++vs.drop (off+us.length)):=by
 have h1: ∀p,RepL Γ ρ bl w p cs vs:=fun p=>⟨h.1,fun i c v hc hv=>h.2 i c v hc hv p i⟩
 have h2:=(h1 (.s 0)).splice off hn.1 hoff fun i c u hc hu=>hn.2 i c u hc hu _ _
 refine ⟨h2.1,fun i c v hc hv p j=> ?_⟩
 simp only [B.splice] at hc
 have hl:=h.1
 have e1:(cs.take off).length=off:=by simp;omega
 have e2:(vs.take off).length=off:=by simp;omega
 have hnl:=hn.1
 by_cases k1:i<off
 ·rw [List.append_assoc,List.getElem?_append_left (by omega)] at hc hv
  rw [List.getElem?_take,if_pos k1] at hc hv
  exact h.2 i c v hc hv p j
 ·by_cases k2:i<off+new.length
  ·rw [List.append_assoc,List.getElem?_append_right (by omega),List.getElem?_append_left (by omega)] at hc hv
   exact hn.2 (i-off) c v (by rwa [e1] at hc) (by rwa [e2] at hv) p j
  ·rw [List.getElem?_append_right (by simp;omega)] at hc hv
   rw [List.getElem?_drop] at hc hv
   have k3:off+new.length+(i-(cs.take off++new).length) =i:=by simp;omega
   have k4:off+us.length+(i-(vs.take off++us).length) =i:=by simp;omega
   rw [k3] at hc
   rw [k4] at hv
   exact h.2 i c v hc hv p j
theorem RepL.copyN {Γ:Froz} {ρ:Nat→Role} {bl:Nat→Nat} {w:World} {p:Place} {cs:List CV} {vs:List Value} (h:RepL Γ ρ bl w p cs vs) :RepN Γ ρ bl w (cs.map CV.copy1) vs:=by
 refine ⟨by simpa using h.1,fun i c v hc hv q j=> ?_⟩
 rw [List.getElem?_map,Option.map_eq_some_iff] at hc
 obtain ⟨c',hc',rfl⟩:=hc
 exact (h.2 i c' v hc' hv).copy1
theorem build_spec {Γ:Froz} {ρ:Nat→Role} {bl:Nat→Nat} {st:St} {a:Act} {w:World} (h:SR Γ ρ bl st a.tmps w) (place:Nat→Option (Nat×Nat)) {K:St→Prop} {k:List CV→PM}: ∀(parts:List (Nat×Operand)) (aps:List (Nat×Nat×AX)) (cs:List CV) (cells:Array Value),
  parts.map (fun x=>(place x.1,trX x.2)) =aps.map (fun y=>(some (y.1,y.2.1),some y.2.2))→RepN Γ ρ bl w cs cells.toList→(∀c∈cs,∀b,c.ment1 b→(st.bx b).isSome=true)→(evParts aps cs k).wp K st→
  ∃out cells',Instr.fill place cells (parts.map fun (i,x)=>(i,a.eval x)) =some cells'∧RepN Γ ρ bl w out cells'.toList∧(∀c∈out,∀b,c.ment1 b→(st.bx b).isSome=true)∧(k out).wp K st
 | [],aps,cs,cells,hp,hr,hm,hw=>by
  obtain rfl:aps= []:=by cases aps with | nil=>rfl | cons _ _=>simp at hp
  exact ⟨cs,cells,rfl,hr,hm,hw⟩
 | (i,x) :: r,aps,cs,cells,hp,hr,hm,hw=>by
  cases aps with
  | nil=>simp at hp
  | cons y aps=>
   obtain ⟨off,n,ax⟩:=y
   simp only [List.map_cons,List.cons.injEq,Prod.mk.injEq] at hp
   obtain ⟨⟨hpl,hx⟩,hp⟩:=hp
   simp only [evParts] at hw
   rw [ev_wp] at hw
   obtain ⟨⟨hl,hoff,hone⟩,hw⟩:=hw
   obtain ⟨vs,hv,hrl,_⟩:=rep_cells (rep_ax hx h) hone
   have hvl:vs.length=n:=by rw [←hrl.1];exact hl
   have hcl:cs.length=cells.toList.length:=hr.1
   have hstep:=hr.splice off hrl.copyN (by simp;omega)
   simp only [List.map_cons]
   rw [fill_step place cells i (a.eval x) _ off vs (by rw [hpl,hvl]) hv (by simp at hcl;omega)]
   refine build_spec h place r aps _ _ hp (by simpa using hstep) (fun c hc b hb=> ?_) hw
   simp only [splice,List.mem_append,List.mem_map] at hc
   rcases hc with (hc | ⟨c',hc',rfl⟩) | hc
   ·exact hm c (List.mem_of_mem_take hc) b hb
   ·exact ment_ax hx h (ment_cells hone hc' (copy1_ment1 hb))
   ·exact hm c (List.mem_of_mem_drop hc) b hb
theorem g_build {t:TypeId} {fs:Array Field} {parts:Array (Nat×Operand)} {aps:List (Nat×Nat×AX)} {ti:TypeInfo} {z:Value} {zs:List CV} {places:List (Nat×Nat)} (ho:o.op= .build t parts) (ht:P.underlying t=some (.struct fs)) (hi:P.info? t=some ti) (hz:ti.zero=some z)
  (hzs:zchkL zs z.cells.toList=true) (hsp:zs.all (spOk none 0) =true) (hg:fs.toList.mapM (fun f=>(P.info? f.type).map fun i=>(f.offset,i.size)) =some places)
  (hp:parts.toList.map (fun x=>(places.toArray[x.1]?,trX x.2)) =aps.map (fun y=>(some (y.1,y.2.1),some y.2.2))) :Good P o ((AI.build zs aps).pm C okr okw o.dst):=by
 intro Γ ρ bl st a w h hgz hd K hw Q
 simp only [AI.pm] at hw
 obtain ⟨k1,k2,k3⟩:=zchkL_rep (Γ:=Γ) (ρ:=ρ) (bl:=bl) (w:=w) (p:= .s 0) hzs
 have hzr:RepN Γ ρ bl w zs z.cells.toList:=⟨k1,fun i c v hc hv p j=>by
  have:=(zchkL_rep (Γ:=Γ) (ρ:=ρ) (bl:=bl) (w:=w) (p:=p) hzs)
  have hzc:zchk c v=true:=by
   clear k1 k2 k3 this hw hp hz hsp
   generalize z.cells.toList=L at hzs hv
   induction zs generalizing L i with
   | nil=>simp at hc
   | cons c0 r ih=>
    cases L with
    | nil=>simp at hv
    | cons v0 t=>
     simp only [zchkL,Bool.and_eq_true] at hzs
     cases i with
     | zero=>simp at hc hv;subst hc;subst hv;exact hzs.1
     | succ i=>exact ih i (by simpa using hc) t hzs.2 (by simpa using hv)
  exact (zchk_rep hzc _ _ _ _ _ _).1⟩
 obtain ⟨out,cells',hf,hr,hm,hw⟩:=build_spec h (fun i=>places.toArray[i]?) parts.toList aps zs z.cells hp hzr (fun c hc b hb=>by obtain ⟨t',e1⟩:=k3 c hc b hb;subst e1;have e2:=List.all_eq_true.1 hsp _ hc;simp [spOk] at e2) hw
 refine good_same (p:= .s 0) (v:= .agg cells'.toList.toArray) h hd ?_ (mkAgg_rep (p:= .s 0) ⟨hr.1,fun i c v hc hv=>hr.2 i c v hc hv _ _⟩) (mkAgg_noOwn _) (fun b hb=>by obtain ⟨c,hc,hm'⟩:=mkAgg_ment hb;exact hm c hc b hm') hw
 have hparts:(parts.map fun x=>(x.1,a.eval x.2)).toList=parts.toList.map fun x=>(x.1,a.eval x.2):=by simp
 have hf':Instr.fill (fun x=>places[x]?) z.cells (parts.toList.map fun x=>(x.1,a.eval x.2)) =some cells':=by simpa using hf
 simp [execOp,ho,Instr.build,zeroValue,typeInfo,hi,hz,run_underlying ht,Array.mapM_eq_mapM_toList,Go.run_places w _ _ hg,hf']
end B
end Go.Proofs.YtmkkljbfmdngfaaGreatDoor
