/- Each instruction does what the abstract one says: the rest. No condition. -/
import Derived.Test.YtmkkljbfmdngfaaGreatDoorB7
import Derived.Laws.Tables
import Derived.Laws.StructEq
set_option linter.all false
namespace Go.Proofs.YtmkkljbfmdngfaaGreatDoor
namespace B
open Go.RowKit
variable {P:Program} {C:CallRel} {okr okw:Nat→Bool} {o:Oper}
theorem evL_wp {K:St→Prop} {st:St}: ∀{xs:List AX} {k:List CV→PM},(evL xs k).wp K st↔(k (xs.map (AX.val st))).wp K st
 | [],_=>Iff.rfl
 | x :: r,k=>by
  simp only [evL,List.map_cons]
  rw [ev_wp,evL_wp]
theorem newOwn_fin {K:St→Prop} {Γ:Froz} {ρ:Nat→Role} {bl:Nat→Nat} {st:St} {a:Act} {w:World} {Q:Exit→Act→World→Prop} {arr:Array Value} {e:TypeId} {sz n:Nat} {l:List D} {vs:List Value} (h:SR Γ ρ bl st a.tmps w) (hd:a.defers= [])
  (hn:l.length=n) (hf:RepF Γ sz l vs) (harr:arr=vs.toArray) (hmax:n≤maxLen)
  (hrun:(execOp a.eval o).run P w= .ok (.value (.slice (some ⟨w.heap.size,0,none⟩) n n)) (w.alloc (.cells arr e)))
  (hw:(setD o.dst (.own sz l)).wp K st) :o.wp P a w (fun a' w'=>a'.defers= []∧After K Γ ρ bl w st a'.tmps w') Q:=by
 subst harr hn
 obtain ⟨g1,g2⟩:=h.newOwn vs.toArray e vs (fun i u hu=>by simpa using hu) (.own (.s (o.dst.getD 0)) 0)
 unfold Oper.wp
 rw [hrun,Oper.upon_value]
 have how:Own (freezeRow Γ w.heap.size vs) (upd ρ w.heap.size (.own (.s (o.dst.getD 0)) 0)) (w.alloc (.cells vs.toArray e)) (.s (o.dst.getD 0)) 0 sz l (.slice (some ⟨w.heap.size,0,none⟩) l.length l.length):=by
  refine .inl ⟨e,vs,⟨hf.vs_len, .inr ⟨w.heap.size,l.length,vs.toArray,rfl,⟨(0,0), .inl rfl,heap_alloc_new w _⟩,Nat.le_refl _,hmax,by simpa using hf.vs_len,by rw [←hf.vs_len];simp⟩⟩,hf.mono g2.le,fun g hg=> ?_⟩
  have:w.heap.size=g:=by simpa [Value.ownBlock] using hg
  subst this
  exact ⟨upd_same _ _ _,fun o=>freezeRow_at _ _ _ _⟩
 obtain ⟨st'',hK,hs'⟩:=setD_sound g1 (dst:=o.dst) (c:= .own sz l) (v:= .slice (some ⟨w.heap.size,0,none⟩) l.length l.length) (fun d' e'=>by
  have e2:o.dst.getD 0=d':=by rw [e'];rfl
  rw [e2] at how⊢;exact how) (fun b hb=>hb.elim) hw
 exact ⟨by rw [put_defers];exact hd,_,_,bl,st'',hK,by rw [put_tmps];exact hs',g2,fun _ _=>rfl⟩
theorem foldl_sets (vs:List Value) : ∀(off k:Nat) (cells:Array Value),off+k+vs.length≤cells.size→((vs.zipIdx k).foldl (fun cs (c,j)=>cs.setIfInBounds (off+j) c) cells).toList=cells.toList.take (off+k) ++vs++cells.toList.drop (off+k+vs.length):=by
 induction vs with
 | nil=>intro off k cells _;simp
 | cons v r ih=>
  intro off k cells hl
  simp only [List.zipIdx_cons,List.foldl_cons]
  rw [ih off (k+1) _ (by simp at hl⊢;omega)]
  have:=list_seg_step cells.toList (off+k) v r (by simp at hl⊢;omega)
  simpa [Array.toList_setIfInBounds,Nat.add_assoc] using this
theorem fill_step (place:Nat→Option (Nat×Nat)) (cells:Array Value) (i:Nat) (v:Value) (rest:List (Nat×Value)) (off:Nat) (vs:List Value) (hp:place i=some (off,vs.length)) (hv:v.cells=vs.toArray) (hl:off+vs.length≤cells.size) :
  Instr.fill place cells ((i,v) :: rest) =Instr.fill place (cells.toList.take off++vs++cells.toList.drop (off+vs.length)).toArray rest:=by
 have:=foldl_sets vs off 0 cells (by simpa using hl)
 simp only [Nat.add_zero] at this
 have e:(v.cells.zipIdx.foldl (fun cs (c,j)=>cs.setIfInBounds (off+j) c) cells) =(cells.toList.take off++vs++cells.toList.drop (off+vs.length)).toArray:=by
  apply Array.ext'
  rw [←this,hv,←Array.foldl_toList]
  simp
 simp only [Instr.fill,hp]
 rw [if_neg (by simp [hv];omega)]
 rw [e]
theorem fill_slice (ρ:Operand→Value) (size:Nat) : ∀(parts:List (Nat×Operand)) (k:Nat) (vss:List (List Value)) (cells:Array Value) (pre:List Value),parts.map (·.1) =List.range' k parts.length→vss.length=parts.length→
  (∀(i:Nat) x vs,parts[i]? =some x→vss[i]? =some vs→(ρ x.2).cells=vs.toArray∧vs.length=size)→cells.size=(k+parts.length) *size→cells.toList.take (k*size) =pre→pre.length=k*size→
  Instr.fill (fun i=>some (i*size,size)) cells (parts.map fun (i,x)=>(i,ρ x)) =some (pre++vss.flatten).toArray
 | [],k,vss,cells,pre,_,hl,_,hc,ht,_=>by
  obtain rfl:vss= []:=List.eq_nil_of_length_eq_zero hl
  simp only [List.map_nil,Instr.fill,List.flatten_nil,List.append_nil]
  congr 1
  rw [←ht]
  apply Array.ext'
  simp only [List.length_nil,Nat.add_zero] at hc
  rw [←hc,←Array.length_toList,List.take_length]
 | (i,x) :: r,k,vss,cells,pre,hi,hl,hp,hc,ht,hpl=>by
  cases vss with
  | nil=>simp at hl
  | cons vs vss=>
   simp only [List.map_cons,List.length_cons,List.range'_succ,List.cons.injEq] at hi
   obtain ⟨rfl,hi⟩:=hi
   obtain ⟨hv,hvl⟩:=hp 0 (i,x) vs rfl rfl
   simp only [List.map_cons]
   have hsz:i*size+vs.length≤cells.size:=by rw [hc,hvl];simp only [List.length_cons];rw [Nat.add_mul,Nat.add_mul];omega
   rw [fill_step _ cells i (ρ x) _ (i*size) vs (by rw [hvl]) hv hsz]
   rw [fill_slice ρ size r (i+1) vss _ (pre++vs) hi (by simpa using hl) (fun j y us hy hu=>hp (j+1) y us (by simpa using hy) (by simpa using hu)) ?_ ?_ ?_]
   ·simp
   ·simp only [List.size_toArray,List.length_append,List.length_take,List.length_drop,Array.length_toList]
    simp only [List.length_cons] at hc
    rw [hc] at hsz⊢
    rw [show i+1+r.length=i+(r.length+1) by omega]
    omega
   ·simp only
    rw [ht]
    rw [List.take_left' (by rw [List.length_append,hpl,hvl,Nat.add_mul,Nat.one_mul])]
   ·rw [List.length_append,hpl,hvl,Nat.add_mul,Nat.one_mul]
theorem g_buildSl {t e:TypeId} {len sz:Nat} {parts:Array (Nat×Operand)} {aps:List AX} {ti:TypeInfo} {z:Value} (ho:o.op= .buildSlice t len parts) (hp:parts.toList.map (fun x=>trX x.2) =aps.map some) (hix:parts.toList.map (·.1) =List.range len)
  (ht:P.underlying t=some (.slice e)) (hi:P.info? e=some ti) (hz:ti.zero=some z) (hsz:ti.size=sz) (hzs:z.cells.size=sz) (hlim:len*sz≤2 ^ 24) (hlim2:len≤2 ^ 24) :Good P o ((AI.buildSl sz aps).pm C okr okw o.dst):=by
 intro Γ ρ bl st a w h hgz hd K hw Q
 simp only [AI.pm] at hw
 rw [evL_wp] at hw
 have hlen:parts.toList.length=len:=by have:=congrArg List.length hix;simpa using this
 have hpl:aps.length=len:=by have:=congrArg List.length hp;simp at this;rw [←this,←hlen];simp
 split at hw
 ·rename_i ds hds
  obtain ⟨hu,hw⟩:=hw
  have hdl: ∀{cs:List CV} {ds:List D},allD cs=some ds→cs.length=ds.length∧∀(i:Nat) c d,cs[i]? =some c→ds[i]? =some d→∃y,c.asD=some y∧d=y.norm:=by
   intro cs
   induction cs with
   | nil=>intro ds h;simp only [allD,Option.some.injEq] at h;subst h;simp
   | cons c r ih=>
    intro ds h
    simp only [allD] at h
    split at h
    ·rename_i x xs hx hxs
     simp only [Option.some.injEq] at h;subst h
     obtain ⟨h1,h2⟩:=ih hxs
     refine ⟨by simp [h1],fun i c' d hc hd=> ?_⟩
     cases i with
     | zero=>simp at hc hd;subst hc;subst hd;exact ⟨_,hx,rfl⟩
     | succ i=>exact h2 i c' d hc hd
    ·cases h
  obtain ⟨k1,k2⟩:=hdl hds
  have hdsl:ds.length=len:=by rw [←k1];simpa using hpl
  have hpart: ∀i (hi:i<len),∃vs:List Value,(a.eval (parts.toList[i]'(by omega)).2).cells=vs.toArray∧RepF Γ sz [ds[i]'(by omega)] vs:=by
   intro i hil
   have e1:trX (parts.toList[i]'(by omega)).2=some (aps[i]'(by omega)):=by
    have:=congrArg (·[i]?) hp
    simp only [List.getElem?_map] at this
    rw [List.getElem?_eq_getElem (by omega),List.getElem?_eq_getElem (by omega)] at this
    simpa using this
   have hr:=rep_ax e1 h
   have hc:=k2 i _ (ds[i]'(by omega)) (by rw [List.getElem?_map,List.getElem?_eq_getElem (by omega)];rfl) (List.getElem?_eq_getElem (by omega))
   have hrd:Rep Γ (ds[i]'(by omega)) (a.eval (parts.toList[i]'(by omega)).2):=by
    obtain ⟨y,hc,hy⟩:=hc
    rw [hy]
    refine Rep.norm ?_
    generalize (aps[i]'(by omega)).val st=c at hr hc
    have hr1:RepC1 Γ ρ bl w (aps[i]'(by omega)).place 0 c (a.eval (parts.toList[i]'(by omega)).2):=by cases c<;>first | exact hr | (simp [CV.asD] at hc;done)
    exact rep_asD hr1 hc
   have hul:=hu (ds[i]'(by omega)) (List.getElem_mem _)
   generalize ds[i]'(by omega) =x at hrd hul⊢
   generalize a.eval (parts.toList[i]'(by omega)).2=v at hrd⊢
   cases x with
   | agg l=>
    cases hrd with
    | agg _ vs hl hf hrr=>
     refine ⟨vs,rfl,by simpa using hul, ?_,by simpa [flatten,D.cells] using hl, ?_⟩
     ·simpa [flatten,D.cells] using hf
     ·intro j d u hd hu';exact hrr j d u (by simpa [flatten,D.cells] using hd) hu'
   | _=>
    refine ⟨[v],by rw [Rep.cells1 hrd rfl],by simpa using hul,by simp [flatten,D.cells,D.flat],by simp [flatten,D.cells], ?_⟩
    intro j d u hd hu'
    cases j with
    | zero=>simp [flatten,D.cells] at hd hu';subst hd;subst hu';exact hrd
    | succ j=>simp [flatten,D.cells] at hd
  let f:Nat→List Value:=fun i=>if hi:i<len then (hpart i hi).choose else []
  have hf1: ∀i (hi:i<len),(a.eval (parts.toList[i]'(by omega)).2).cells=(f i).toArray∧RepF Γ sz [ds[i]'(by omega)] (f i):=fun i hi=>by
   have:=(hpart i hi).choose_spec
   simp only [f,hi,dif_pos];exact this
  have hrepf: ∀n,n≤len→RepF Γ sz (ds.take n) ((List.range n).map f).flatten:=by
   intro n
   induction n with
   | zero=>intro _;exact ⟨by simp,by simp [flatten],rfl,by simp [flatten]⟩
   | succ n ih=>
    intro hn
    rw [List.take_succ_eq_append_getElem (by omega),List.range_succ,List.map_append,List.flatten_append]
    simpa using (ih (by omega)).append (hf1 n (by omega)).2
  have hall:=hrepf len (Nat.le_refl _)
  rw [List.take_of_length_le (by omega)] at hall
  have hfill:=fill_slice a.eval sz parts.toList 0 ((List.range len).map f) ((Array.range (len*sz)).map (fun i=>z.cells[i % z.cells.size]!)) [] (by rw [hix,hlen,List.range_eq_range']) (by simp [hlen]) (fun i x vs hx hvs=>by
   have hil:i<len:=by have:=(List.getElem?_eq_some_iff.1 hvs).1;simpa using this
   rw [List.getElem?_eq_getElem (by omega)] at hx
   simp [hil] at hvs hx
   subst hx;subst hvs
   exact ⟨by simpa using (hf1 i hil).1,by have:=(hf1 i hil).2.vs_len;simpa using this⟩) (by simp [hlen]) (by simp) (by simp)
  refine newOwn_fin (arr:=((List.range len).map f).flatten.toArray) (e:=e) h hd hdsl hall rfl (by simp only [maxLen];omega) ?_ hw
  have hparts:(parts.map fun x=>(x.1,a.eval x.2)).toList=parts.toList.map fun x=>(x.1,a.eval x.2):=by simp
  by_cases hzero:len*sz=0
  ·have hfill0:Instr.fill (fun i=>some (i*sz,sz)) #[] (parts.toList.map fun x=>(x.1,a.eval x.2)) =some ((List.range len).map f).flatten.toArray:=by
    have e0:(Array.map (fun i=>z.cells[i % z.cells.size]!) (Array.range (len*sz))) = #[]:=by rw [hzero];simp
    rw [e0] at hfill;simpa using hfill
   have hr0: ∀g:Nat→Value,Array.map g (Array.range 0) = #[]:=fun g=>by apply Array.ext';simp
   simp [execOp,ho,Instr.buildSlice,run_underlying ht,sizeOf,typeInfo,hi,hsz,hzero,hr0,hfill0,newRow]
  ·simp only [List.nil_append] at hfill
   have hl24: ¬(2 ^ 24<len*sz):=by omega
   simp [execOp,ho,Instr.buildSlice,run_underlying ht,sizeOf,typeInfo,zeroValue,hi,hsz,hz,hzero,newRow,hfill]
   omega
 ·exact hw.elim
def RepN (Γ:Froz) (ρ:Nat→Role) (bl:Nat→Nat) (w:World) (cs:List CV) (vs:List Value) :Prop:=
 cs.length=vs.length∧∀(i:Nat) c v,cs[i]? =some c→vs[i]? =some v→∀p j,RepC1 Γ ρ bl w p j c v
theorem RepN.splice {Γ:Froz} {ρ:Nat→Role} {bl:Nat→Nat} {w:World} {cs new:List CV} {vs us:List Value} (h:RepN Γ ρ bl w cs vs) (off:Nat) (hn:RepN Γ ρ bl w new us) (hoff:off+new.length≤cs.length) :
  RepN Γ ρ bl w (splice off new cs) (vs.take off++us++vs.drop (off+us.length)):=by
 have h1: ∀p,RepL Γ ρ bl w p cs vs:=fun p=>⟨h.1,fun i c v hc hv=>h.2 i c v hc hv p i⟩
 have h2:=(h1 (.s 0)).splice off hn.1 hoff fun i c u hc hu=>hn.2 i c u hc hu _ _
 refine ⟨h2.1,fun i c v hc hv p j=> ?_⟩
 simp only [B.splice] at hc
 have hl:=h.1
 have e1:(cs.take off).length=off:=by simp;omega
 have e2:(vs.take off).length=off:=by simp;omega
 have hnl:=hn.1
 by_cases k1:i<off
 ·rw [List.append_assoc,List.getElem?_append_left (by omega)] at hc hv
  rw [List.getElem?_take,if_pos k1] at hc hv
  exact h.2 i c v hc hv p j
 ·by_cases k2:i<off+new.length
  ·rw [List.append_assoc,List.getElem?_append_right (by omega),List.getElem?_append_left (by omega)] at hc hv
   exact hn.2 (i-off) c v (by rwa [e1] at hc) (by rwa [e2] at hv) p j
  ·rw [List.getElem?_append_right (by simp;omega)] at hc hv
   rw [List.getElem?_drop] at hc hv
   have k3:off+new.length+(i-(cs.take off++new).length) =i:=by simp;omega
   have k4:off+us.length+(i-(vs.take off++us).length) =i:=by simp;omega
   rw [k3] at hc
   rw [k4] at hv
   exact h.2 i c v hc hv p j
theorem RepL.copyN {Γ:Froz} {ρ:Nat→Role} {bl:Nat→Nat} {w:World} {p:Place} {cs:List CV} {vs:List Value} (h:RepL Γ ρ bl w p cs vs) :RepN Γ ρ bl w (cs.map CV.copy1) vs:=by
 refine ⟨by simpa using h.1,fun i c v hc hv q j=> ?_⟩
 rw [List.getElem?_map,Option.map_eq_some_iff] at hc
 obtain ⟨c',hc',rfl⟩:=hc
 exact (h.2 i c' v hc' hv).copy1
theorem build_spec {Γ:Froz} {ρ:Nat→Role} {bl:Nat→Nat} {st:St} {a:Act} {w:World} (h:SR Γ ρ bl st a.tmps w) (place:Nat→Option (Nat×Nat)) {K:St→Prop} {k:List CV→PM}: ∀(parts:List (Nat×Operand)) (aps:List (Nat×Nat×AX)) (cs:List CV) (cells:Array Value),
  parts.map (fun x=>(place x.1,trX x.2)) =aps.map (fun y=>(some (y.1,y.2.1),some y.2.2))→RepN Γ ρ bl w cs cells.toList→(∀c∈cs,∀b,c.ment1 b→(st.bx b).isSome=true)→(evParts aps cs k).wp K st→
  ∃out cells',Instr.fill place cells (parts.map fun (i,x)=>(i,a.eval x)) =some cells'∧RepN Γ ρ bl w out cells'.toList∧(∀c∈out,∀b,c.ment1 b→(st.bx b).isSome=true)∧(k out).wp K st
 | [],aps,cs,cells,hp,hr,hm,hw=>by
  obtain rfl:aps= []:=by cases aps with | nil=>rfl | cons _ _=>simp at hp
  exact ⟨cs,cells,rfl,hr,hm,hw⟩
 | (i,x) :: r,aps,cs,cells,hp,hr,hm,hw=>by
  cases aps with
  | nil=>simp at hp
  | cons y aps=>
   obtain ⟨off,n,ax⟩:=y
   simp only [List.map_cons,List.cons.injEq,Prod.mk.injEq] at hp
   obtain ⟨⟨hpl,hx⟩,hp⟩:=hp
   simp only [evParts] at hw
   rw [ev_wp] at hw
   obtain ⟨⟨hl,hoff,hone⟩,hw⟩:=hw
   obtain ⟨vs,hv,hrl,_⟩:=rep_cells (rep_ax hx h) hone
   have hvl:vs.length=n:=by rw [←hrl.1];exact hl
   have hcl:cs.length=cells.toList.length:=hr.1
   have hstep:=hr.splice off hrl.copyN (by simp;omega)
   simp only [List.map_cons]
   rw [fill_step place cells i (a.eval x) _ off vs (by rw [hpl,hvl]) hv (by simp at hcl;omega)]
   refine build_spec h place r aps _ _ hp (by simpa using hstep) (fun c hc b hb=> ?_) hw
   simp only [splice,List.mem_append,List.mem_map] at hc
   rcases hc with (hc | ⟨c',hc',rfl⟩) | hc
   ·exact hm c (List.mem_of_mem_take hc) b hb
   ·exact ment_ax hx h (ment_cells hone hc' (copy1_ment1 hb))
   ·exact hm c (List.mem_of_mem_drop hc) b hb
theorem g_build {t:TypeId} {fs:Array Field} {parts:Array (Nat×Operand)} {aps:List (Nat×Nat×AX)} {ti:TypeInfo} {z:Value} {zs:List CV} {places:List (Nat×Nat)} (ho:o.op= .build t parts) (ht:P.underlying t=some (.struct fs)) (hi:P.info? t=some ti) (hz:ti.zero=some z)
  (hzs:zchkL zs z.cells.toList=true) (hsp:zs.all (spOk none 0) =true) (hg:fs.toList.mapM (fun f=>(P.info? f.type).map fun i=>(f.offset,i.size)) =some places)
  (hp:parts.toList.map (fun x=>(places.toArray[x.1]?,trX x.2)) =aps.map (fun y=>(some (y.1,y.2.1),some y.2.2))) :Good P o ((AI.build zs aps).pm C okr okw o.dst):=by
 intro Γ ρ bl st a w h hgz hd K hw Q
 simp only [AI.pm] at hw
 obtain ⟨k1,k2,k3⟩:=zchkL_rep (Γ:=Γ) (ρ:=ρ) (bl:=bl) (w:=w) (p:= .s 0) hzs
 have hzr:RepN Γ ρ bl w zs z.cells.toList:=⟨k1,fun i c v hc hv p j=>by
  have:=(zchkL_rep (Γ:=Γ) (ρ:=ρ) (bl:=bl) (w:=w) (p:=p) hzs)
  have hzc:zchk c v=true:=by
   clear k1 k2 k3 this hw hp hz hsp
   generalize z.cells.toList=L at hzs hv
   induction zs generalizing L i with
   | nil=>simp at hc
   | cons c0 r ih=>
    cases L with
    | nil=>simp at hv
    | cons v0 t=>
     simp only [zchkL,Bool.and_eq_true] at hzs
     cases i with
     | zero=>simp at hc hv;subst hc;subst hv;exact hzs.1
     | succ i=>exact ih i (by simpa using hc) t hzs.2 (by simpa using hv)
  exact (zchk_rep hzc _ _ _ _ _ _).1⟩
 obtain ⟨out,cells',hf,hr,hm,hw⟩:=build_spec h (fun i=>places.toArray[i]?) parts.toList aps zs z.cells hp hzr (fun c hc b hb=>by obtain ⟨t',e1⟩:=k3 c hc b hb;subst e1;have e2:=List.all_eq_true.1 hsp _ hc;simp [spOk] at e2) hw
 refine good_same (p:= .s 0) (v:= .agg cells'.toList.toArray) h hd ?_ (mkAgg_rep (p:= .s 0) ⟨hr.1,fun i c v hc hv=>hr.2 i c v hc hv _ _⟩) (mkAgg_noOwn _) (fun b hb=>by obtain ⟨c,hc,hm'⟩:=mkAgg_ment hb;exact hm c hc b hm') hw
 have hparts:(parts.map fun x=>(x.1,a.eval x.2)).toList=parts.toList.map fun x=>(x.1,a.eval x.2):=by simp
 have hf':Instr.fill (fun x=>places[x]?) z.cells (parts.toList.map fun x=>(x.1,a.eval x.2)) =some cells':=by simpa using hf
 simp [execOp,ho,Instr.build,zeroValue,typeInfo,hi,hz,run_underlying ht,Array.mapM_eq_mapM_toList,Go.run_places w _ _ hg,hf']
end B
end Go.Proofs.YtmkkljbfmdngfaaGreatDoor
namespace Go.Proofs.YtmkkljbfmdngfaaGreatDoor
namespace B
open Go.RowKit
variable {P:Program} {C:CallRel} {okr okw:Nat→Bool} {o:Oper}
theorem g_toBytes {x:Operand} {ax:AX} {s t e:TypeId} {u:TypeDesc} (ho:o.op= .convert s t x) (hs:P.underlying s=some u) (ht:P.underlying t=some (.slice e)) (he:P.underlying e=some (.int .u8)) (hx:trX x=some ax) :Good P o ((AI.toBytes ax).pm C okr okw o.dst):=by
 intro Γ ρ bl st a w h hgz hd K hw Q
 simp only [AI.pm] at hw
 rw [ev_wp] at hw
 split at hw
 ·rename_i b hb
  obtain ⟨hlen,hw⟩:=hw
  have e1:=rep_ax hx h
  rw [hb] at e1
  have e1:=rep_str e1
  have hrun:(execOp a.eval o).run P w= .ok (.value (.slice (some ⟨w.heap.size,0,none⟩) b.length (grownCap w b.length 0 e))) (Lib.bytesWorld w e ⟨b.toArray⟩):=by
   have:=Lib.run_convert_string_bytes (P:=P) w s t e ⟨b.toArray⟩ hs ht he
   rw [size_mk] at this
   simp [execOp,ho,e1,this]
  have hbv:=byte_vals Γ b
  have hle:Le Γ (freezeRow Γ w.heap.size (Lib.strCells ⟨b.toArray⟩)):=freezeRow_le (vs:=[]) (fun o=>by rw [h.none_new (Nat.le_refl _)];rfl) (by simp)
  have hold:=fun k hk=>Lib.bytesWorld_at_old w e ⟨b.toArray⟩ k hk
  have hnew: ∀i u,(Lib.strCells ⟨b.toArray⟩)[i]? =some u→(Lib.bytesWorld w e ⟨b.toArray⟩).cell? ⟨w.heap.size,i,none⟩ =some u:=by
   intro i u hu
   have hi:i<b.length:=by have:=(List.getElem?_eq_some_iff.1 hu).1;rwa [Lib.strCells_length,size_mk] at this
   rw [Lib.bytesWorld_cell w e _ i (by rw [size_mk];exact hi)]
   simp [Lib.strCells,hi] at hu
   subst hu
   simp [List.getD_eq_getElem?_getD,hi]
  have hb0:ρ w.heap.size= .plain:=h.plain_new (Nat.le_refl _)
  have hs1:SR (freezeRow Γ w.heap.size (Lib.strCells ⟨b.toArray⟩)) (upd ρ w.heap.size (.own (.s (o.dst.getD 0)) 0)) bl st a.tmps (Lib.bytesWorld w e ⟨b.toArray⟩):=by
   refine h.keep hle (fun ad v ha=> ?_) (fun g p i h1 _=> ?_) (fun _ _=>rfl) (fun b' g hx=> ?_) (fun g b' z cap e'=> ?_) fun g hg=> ?_
   ·unfold freezeRow at ha
    split at ha
    ·rename_i hc
     rw [Addr.eq_lit ad hc.2,hc.1];exact hnew _ _ ha
    ·have:=h.agree ad v ha
     rw [World.cell?_of_block (hold ad.block (block_lt_of_cell this))];exact this
   ·have hg:=h.rho g (by rw [h1];simp)
    exact ⟨upd_ne _ _ (by omega),hold g hg,fun o=>freezeRow_ne _ _ _ (by omega)⟩
   ·have hg:=h.rho g hx.np
    exact ⟨upd_ne _ _ (by omega),hold _ hg,fun o=>freezeRow_ne _ _ _ (by omega)⟩
   ·by_cases e2:g=w.heap.size
    ·subst e2;rw [upd_same] at e';cases e'
    ·rw [upd_ne _ _ e2] at e';exact e'
   ·rw [Lib.bytesWorld_size]
    by_cases e2:g=w.heap.size
    ·omega
    ·rw [upd_ne _ _ e2] at hg;have:=h.rho g hg;omega
  have hf:Fr w Γ ρ (Lib.bytesWorld w e ⟨b.toArray⟩) (freezeRow Γ w.heap.size (Lib.strCells ⟨b.toArray⟩)) (upd ρ w.heap.size (.own (.s (o.dst.getD 0)) 0)):=by
   refine ⟨hle,by rw [Lib.bytesWorld_size];omega,rfl,rfl,rfl,fun g hg hp=>⟨hold g hg,by rw [upd_ne _ _ (by omega)];exact hp⟩,fun ad v ha=> ?_,fun g b z cap e' _ _=>by rw [upd_ne _ _ (by have:=h.rho g (by rw [e'];simp);omega)];exact e'⟩
   unfold freezeRow at ha
   split at ha
   ·rename_i hc;exact .inr (.inl (by rw [hc.1];exact Nat.le_refl _))
   ·exact .inl ha
  have hge:=grownCap_ge w b.length 0 e
  have how:Own (freezeRow Γ w.heap.size (Lib.strCells ⟨b.toArray⟩)) (upd ρ w.heap.size (.own (.s (o.dst.getD 0)) 0)) (Lib.bytesWorld w e ⟨b.toArray⟩) (.s (o.dst.getD 0)) 0 1 (b.map byteD) (.slice (some ⟨w.heap.size,0,none⟩) b.length (grownCap w b.length 0 e)):=by
   refine .inl ⟨e,Lib.strCells ⟨b.toArray⟩,⟨by rw [Lib.strCells_length,size_mk];simp, .inr ⟨w.heap.size,_,Lib.bytesCells w e ⟨b.toArray⟩,by rw [List.length_map],⟨_, .inr (Nat.le_refl _),Lib.bytesWorld_at_new w e _⟩,by simpa using hge,grownCap_le_maxLen w _ 0 e (by simp only [maxLen];omega), ?_, ?_⟩⟩,hbv.mono hle,fun g hg=> ?_⟩
   ·simp only [Lib.bytesCells]
    simp [size_mk];omega
   ·simp only [Lib.bytesCells,List.length_map,Nat.mul_one,Array.toList_append,Lib.strCells]
    rw [List.take_append_of_le_length (by simp)]
    simp only [Array.toList_map]
    exact List.take_of_length_le (by simp)
   ·have:w.heap.size=g:=by simpa [Value.ownBlock] using hg
    subst this
    exact ⟨upd_same _ _ _,fun o=>freezeRow_at _ _ _ _⟩
  unfold Oper.wp
  rw [hrun,Oper.upon_value]
  obtain ⟨st'',hK,hs'⟩:=setD_sound hs1 (dst:=o.dst) (c:= .own 1 (b.map byteD)) (v:= .slice (some ⟨w.heap.size,0,none⟩) b.length (grownCap w b.length 0 e)) (fun d' e'=>by
   have e2:o.dst.getD 0=d':=by rw [e'];rfl
   rw [e2] at how⊢;exact how) (fun b hb=>hb.elim) hw
  exact ⟨by rw [put_defers];exact hd,_,_,bl,st'',hK,by rw [put_tmps];exact hs',hf,fun _ _=>rfl⟩
 ·exact hw.elim
theorem flatten_bytes (b:Bytes) :flatten (b.map byteD) =b.map byteD:=by
 simp only [flatten]
 induction b with
 | nil=>rfl
 | cons y r ih=>simp only [List.map_cons,List.flatMap_cons];rw [ih];rfl
theorem g_toStr {x:Operand} {ax:AX} {s t e:TypeId} (ho:o.op= .convert s t x) (hs:P.underlying s=some (.slice e)) (he:P.underlying e=some (.int .u8)) (ht:P.underlying t=some .string) (hx:trX x=some ax) :Good P o ((AI.toStr ax).pm C okr okw o.dst):=by
 intro Γ ρ bl st a w h hgz hd K hw Q
 simp only [AI.pm] at hw
 rw [ev_wp] at hw
 have e1:=rep_ax hx h
 have core: ∀(b:Bytes) (Γ1:Froz) (hag: ∀a v,Γ1 a=some v→w.cell? a=some v) (z:Nat),Rep Γ1 (.slice z (b.map byteD)) (a.eval x)→(setD o.dst (.d (.str b))).wp K st→o.wp P a w (fun a' w'=>a'.defers= []∧After K Γ ρ bl w st a'.tmps w') Q:=by
  intro b Γ1 hag z hr hw
  have nilc: ∀n c,a.eval x= .slice none n c→b= []→o.wp P a w (fun a' w'=>a'.defers= []∧After K Γ ρ bl w st a'.tmps w') Q:=by
   rintro n c hv rfl
   refine good_data (v:= .string ⟨#[]⟩) h hd ?_ (.str []) hw
   have:=run_convert_bytes_nil (P:=P) w s e hs he n c t ht
   simp [execOp,ho,hv,this];rfl
  obtain ⟨ao,c,vs,hv,hf,hn,ha⟩:=slice_vals hr
  cases ao with
  | none=>
   refine nilc _ _ hv ?_
   have h1:=hf.len
   rw [hn rfl] at h1
   have hb:=(byte_vals Γ b).len
   rw [h1,Lib.strCells_length,size_mk] at hb
   exact List.eq_nil_of_length_eq_zero (by simpa using hb.symm)
  | some ad=>
   obtain ⟨hsp,hc⟩:=ha ad rfl
   have hfl:=flatten_bytes b
   by_cases hb0:b= []
   ·subst hb0
    refine good_data (v:= .string ⟨#[]⟩) h hd ?_ (.str []) hw
    have:=run_convert_bytes_string w s t e (some ad) 0 c hs he ht
    rw [run_bytesToString w ad 0 c [] (by simp [loadCells,loadCellsFrom])] at this
    simp only [List.map_nil,List.length_nil] at hv
    simp [execOp,ho,hv,this];rfl
   have hsp:ad.spot=none:=hsp (by
    intro e
    have h1:=hf.len
    rw [e,hfl] at h1
    exact hb0 (List.eq_nil_of_length_eq_zero (by simpa using h1)))
   refine good_data (v:= .string ⟨b.toArray⟩) h hd ?_ (.str b) hw
   have:=run_convert_bytes_arg (P:=P) w s e hs he ad.block ad.off b.length c (b.map fun y=>(y.toNat:Int)) (by simp) (fun i hi=>by
    have hiv:i<vs.length:=by rw [←hf.len,hfl];simpa using hi
    have h1:=hag _ _ (hc i _ (List.getElem?_eq_getElem hiv))
    have h2:=hf.rep i (byteD b[i]) vs[i] (by rw [hfl];simp [hi]) (List.getElem?_eq_getElem hiv)
    rw [Addr.eq_lit ad hsp,Addr.add_lit'] at h1
    rw [h1]
    generalize vs[i]=q at h2
    cases h2
    simp [hi]) t ht
   rw [←Addr.eq_lit ad hsp] at this
   have hstr:strOfNums (b.map fun y=>(y.toNat:Int)) = ⟨b.toArray⟩:=by
    unfold strOfNums
    have hh: ∀x y:ByteArray,x.data=y.data→x=y:=fun x y h=>by cases x;cases y;simp_all
    apply hh
    have hid:((fun n:Int=>UInt8.ofNat n.toNat) ∘fun y:UInt8=>(y.toNat:Int)) =id:=by funext y;simp
    simp [hid]
   rw [hstr] at this
   simp [execOp,ho,hv,this]
 revert hw e1
 have hrow: ∀z k oo n,ax.val st= .rs z k oo n→RowH ρ bl z k oo n (a.eval x):=fun z k oo n hv=>by have e1:=rep_ax hx h;rw [hv] at e1;exact e1
 revert hrow
 generalize ax.val st=u;generalize ax.place=pl
 intro hrow hw e1
 split at hw
 ·rename_i z k oo n
  have e1:=hrow z k oo n rfl
  split at hw
  ·change (match rowD (st.get (.b k)) with | some (z',l)=>_ | none=>PM.fail).wp K st at hw
   split at hw
   ·rename_i z' l hrd
    obtain ⟨b,⟨hz,hn,hb⟩,hw⟩:=hw
    subst hz
    obtain ⟨cs,hbx,hro⟩:=get_b_row hrd
    by_cases hn0:n=0
    ·subst hn0
     rw [List.take_zero] at hb
     have hb0:b= []:=by cases b with | nil=>rfl | cons _ _=>cases hb
     subst hb0
     rcases e1 with ⟨_,e1⟩ | ⟨c,cap,e1,_,hrole,_⟩
     ·refine core [] (fun _=>none) (fun _ _ h=>by cases h) z' ?_ hw
      rcases e1 with e1 | ⟨ad,e1⟩
      ·rw [e1];exact .nil z'
      ·rw [e1];exact .nil0 z' ad
     ·obtain ⟨arr,ety,fz,h1,_,_,_,_,hrf,h4⟩:=h.real hbx hro hrole
      have:=row_rep (.inr ⟨c,cap,e1,Nat.zero_le _,hrole,by assumption⟩) h4 hrf (show oo+0≤l.length by omega)
      rw [List.take_zero] at this
      exact core [] _ (row_agree h.agree h1 fun i u hu=>take_arr hu) z' this hw
    ·rcases e1 with ⟨e0,_⟩ | ⟨c,cap,e1,hc1,hrole,hc2⟩
     ·exact absurd e0 hn0
     ·obtain ⟨arr,ety,fz,h1,_,_,_,_,hrf,h4⟩:=h.real hbx hro hrole
      have:=row_rep (.inr ⟨c,cap,e1,hc1,hrole,hc2⟩) h4 hrf hn
      rw [hb] at this
      exact core b _ (row_agree h.agree h1 fun i u hu=>take_arr hu) z' this hw
   ·exact hw.elim
  ·exact hw.elim
 split at hw
 ·rename_i l hl
  obtain ⟨b,rfl,hw⟩:=hw
  have main: ∀z,Rep Γ (.slice z (b.map byteD)) (a.eval x)→o.wp P a w (fun a' w'=>a'.defers= []∧After K Γ ρ bl w st a'.tmps w') Q:=fun z hr=>core b Γ h.agree z hr hw
  cases u with
  | d y=>
   cases y with
   | slice z l=>simp only [CV.sl,Option.some.injEq] at hl;subst hl;exact main z e1
   | nils z=>
    simp only [CV.sl,Option.some.injEq] at hl
    have e2:a.eval x= .slice none 0 0:=by
     have e1:Rep Γ (.nils z) (a.eval x):=e1
     generalize a.eval x=u at e1
     cases e1;rfl
    exact main 0 (by rw [e2,←hl];exact .nil 0)
   | _=>simp [CV.sl] at hl
  | own z l=>simp only [CV.sl,Option.some.injEq] at hl;subst hl;exact main z (Own.rep e1)
  | nils=>
   simp only [CV.sl,Option.some.injEq] at hl
   exact main 0 (by rw [show a.eval x= .slice none 0 0 from e1,←hl];exact .nil 0)
  | _=>simp [CV.sl] at hl
 ·exact hw.elim
theorem g_extract {x:Operand} {ax:AX} {i:Nat} {cp:Bool} (ho:o.op= .extract x i) (hx:trX x=some ax) :Good P o ((AI.extract ax i cp).pm C okr okw o.dst):=by
 intro Γ ρ bl st a w h hgz hd K hw Q
 simp only [AI.pm] at hw
 rw [ev_wp] at hw
 have e1:=rep_ax hx h
 have m1:=fun b hb=>ment_ax (b:=b) hx h hb
 split at hw
 ·rename_i l hl
  obtain ⟨hi,hw⟩:=hw
  rw [hl] at e1 m1
  obtain ⟨vs,hv,hlen,hr⟩:=e1
  have hci:l[i]? =some (l.getD i .junk):=by simp [List.getD_eq_getElem?_getD,hi]
  have hvi:i<vs.length:=by omega
  have hri:=hr i _ vs[i] hci (List.getElem?_eq_getElem hvi)
  have hrun:(execOp a.eval o).run P w= .ok (.value vs[i]) w:=by
   simp [execOp,ho,hv,Instr.extract,hvi]
  have hment: ∀k,(l.getD i .junk).ment1 k→(st.bx k).isSome=true:=fun k hk=>m1 k ⟨_,List.mem_of_getElem? hci,hk⟩
  generalize hcc:l.getD i .junk=c at*
  split at hw
  ·rename_i hown
   cases c with
   | own sz xs=>
    cases ax with
    | c cv=>
     simp only [AX.val] at hl
     cases x with
     | const u=>
      simp only [trX,Option.map_eq_some_iff] at hx
      obtain ⟨c',hc',e'⟩:=hx
      injection e' with e';subst e'
      rw [hl] at hc'
      exact absurd hc' (by unfold cvOf;split<;>simp)
     | func f=>simp only [trX,Option.some.injEq,AX.c.injEq] at hx;rw [←hx] at hl;cases hl
     | tmp n=>simp [trX] at hx
     | global g=>simp [trX] at hx
    | t n=>
     simp only [AX.val] at hl
     obtain ⟨hok,hw⟩:=hw
     have hn:n<st.s.length:=by simpa [Place.ok] using hok
     have hx':a.tmps[n]? =some (a.eval x):=by
      simp only [trX,Option.some.injEq,AX.t.injEq] at hx
      cases x with
      | tmp k=>
       simp only [trX,Option.some.injEq,AX.t.injEq] at hx;subst hx
       have:k<a.tmps.size:=by rw [h.len];exact hn
       simp [Act.eval,this]
      | _=>simp [trX] at hx
     have hs1:=h.viewSlot n (.tup (l.set i (CV.own sz xs).copy1)) (fun v hv'=>by
      rw [hx'] at hv';cases hv'
      refine ⟨vs,hv,by simpa using hlen,fun j c'' v' hc'' hv'=> ?_⟩
      rw [List.getElem?_set] at hc''
      split at hc''
      ·rename_i hj;subst hj
       cases hc''
       rw [List.getElem?_eq_getElem hvi] at hv';cases hv'
       exact Own.rep hri
      ·exact hr j c'' v' hc'' hv') (fun b hb=>by
      obtain ⟨c'',hc'',hm⟩:=hb
      rcases List.mem_or_eq_of_mem_set hc'' with hc'' | rfl
      ·exact m1 b ⟨c'',hc'',hm⟩
      ·exact hm.elim)
     have hh: ¬Holds (st.set (.s n) (.tup (l.set i (CV.own sz xs).copy1))) (.s n) i:=by
      intro hH
      unfold Holds at hH
      rw [St.get_setSlot,if_pos ⟨rfl,hn⟩] at hH
      simp [CV.comp,List.getD_eq_getElem?_getD,hi,CV.copy1,CV.held] at hH
     have hpl:(AX.t n).place= .s n:=rfl
     rw [hpl] at hri
     obtain ⟨ρ',g1,g2,g3⟩:=hs1.give hri hh (.s (o.dst.getD 0)) 0
     unfold Oper.wp;rw [hrun,Oper.upon_value]
     obtain ⟨st'',hK,hs'⟩:=setD_sound g1 (dst:=o.dst) (c:= .own sz xs) (v:=vs[i]) (fun d' e'=>by
      have e2:o.dst.getD 0=d':=by rw [e'];rfl
      rw [e2] at g2;exact g2) (fun b hb=>hb.elim) hw
     exact ⟨by rw [put_defers];exact hd,Γ,ρ',bl,st'',hK,by rw [put_tmps];exact hs',g3,fun _ _=>rfl⟩
   | _=>simp [isOwn] at hown
  ·rename_i hno
   refine good_same (p:= .s 0) (c:=c.copy1) h hd hrun ?_ ?_ (fun k hk=>hment k (by cases c<;>first | exact hk | exact hk.elim | exact hri.elim)) hw
   ·have:=hri.copy1 (q:= .s 0) (j:=0)
    cases c<;>first | exact this | exact hri.elim
   ·cases c<;>first | rfl | exact hri.elim
 ·exact hw.elim
theorem g_mkfn {f:FuncId} {caps:Array Operand} {acs:List AX} (ho:o.op= .makeFunc (.func f) #[] caps) (hc:caps.toList.map trX=acs.map some) :Good P o ((AI.mkfn f acs).pm C okr okw o.dst):=by
 intro Γ ρ bl st a w h hgz hd K hw Q
 simp only [AI.pm] at hw
 rw [evL_wp] at hw
 obtain ⟨bs,hbs,hw⟩:=hw
 have hl:acs.length=caps.size:=by have:=congrArg List.length hc;simpa using this.symm
 have hl2:bs.length=caps.size:=by have:=congrArg List.length hbs;simp at this;omega
 have hev:caps.map a.eval=(bs.map fun b=>Value.pointer (some ⟨bl b,0,none⟩)).toArray∧∀b∈bs,(st.bx b).isSome=true:=by
  have key: ∀i (hi:i<bs.length),a.eval (caps[i]'(by omega)) = .pointer (some ⟨bl bs[i],0,none⟩)∧(st.bx bs[i]).isSome=true:=by
   intro i hi
   have e1:trX (caps[i]'(by omega)) =some (acs[i]'(by omega)):=by
    have:=congrArg (·[i]?) hc
    simp only [List.getElem?_map] at this
    rw [Array.getElem?_toList,Array.getElem?_eq_getElem (by omega),List.getElem?_eq_getElem (by omega)] at this
    simpa using this
   have e2:(acs[i]'(by omega)).val st= .ptr bs[i] 0:=by
    have:=congrArg (·[i]?) hbs
    simp only [List.getElem?_map] at this
    rw [List.getElem?_eq_getElem (by omega),List.getElem?_eq_getElem hi] at this
    simpa using this
   have hr:=rep_ax e1 h
   rw [e2] at hr
   exact ⟨hr,ment_ax e1 h (by rw [e2];rfl)⟩
  refine ⟨?_,fun b hb=> ?_⟩
  ·apply Array.ext
   ·simp;omega
   ·intro i h1 h2
    simp at h1 h2⊢
    exact (key i h2).1
  ·obtain ⟨i,hi,rfl⟩:=List.mem_iff_getElem.1 hb
   exact (key i hi).2
 exact good_same (p:= .s 0) (c:= .fn f bs) (v:= .func (.func f) #[] (caps.map a.eval)) h hd (by simp [execOp,ho,Instr.makeFunc]) (by rw [hev.1];rfl) rfl (fun b hb=>hev.2 b hb) hw
theorem g_mm {x y:Operand} {ax ay:AX} {ts:Array TypeId} (isMax:Bool) (ho:o.op= .call {callee:= .builtin (if isMax then .max else .min),args:= #[x,y],argTypes:=ts}) (hx:trX x=some ax) (hy:trX y=some ay) :Good P o ((AI.mm isMax ax ay).pm C okr okw o.dst):=by
 intro Γ ρ bl st a w h hgz hd K hw Q
 simp only [AI.pm] at hw
 rw [ev_wp,ev_wp] at hw
 split at hw
 ·rename_i k m k' n h1 h2
  have e1:=rep_ax hx h
  rw [h1] at e1
  have e1:=rep_int e1
  have e2:=rep_ax hy h
  rw [h2] at e2
  have e2:=rep_int e2
  refine good_data (v:= .int k (if isMax then (if n>m then n else m) else (if n<m then n else m))) h hd ?_ (.int _ _) hw
  cases isMax
  ·simp [execOp,ho,resolve,invoke,builtin,e1,e2,run_min_int2]
  ·simp [execOp,ho,resolve,invoke,builtin,e1,e2,run_max_int2]
 ·exact hw.elim
theorem g_mm3 {x y z:Operand} {ax ay az:AX} {ts:Array TypeId} (ho:o.op= .call {callee:= .builtin .max,args:= #[x,y,z],argTypes:=ts}) (hx:trX x=some ax) (hy:trX y=some ay) (hz:trX z=some az) :Good P o ((AI.mm3 ax ay az).pm C okr okw o.dst):=by
 intro Γ ρ bl st a w h hgz hd K hw Q
 simp only [AI.pm] at hw
 rw [ev_wp,ev_wp,ev_wp] at hw
 split at hw
 ·rename_i k m k' n k'' l h1 h2 h3
  have e1:=rep_ax hx h
  rw [h1] at e1
  have e1:=rep_int e1
  have e2:=rep_ax hy h
  rw [h2] at e2
  have e2:=rep_int e2
  have e3:=rep_ax hz h
  rw [h3] at e3
  have e3:=rep_int e3
  refine good_data h hd ?_ (.int _ _) hw
  simp [execOp,ho,resolve,invoke,builtin,e1,e2,e3,run_max_int3]
 ·exact hw.elim
end B
end Go.Proofs.YtmkkljbfmdngfaaGreatDoor
namespace Go.Proofs.YtmkkljbfmdngfaaGreatDoor
namespace B
open Go.RowKit
variable {P:Program} {C:CallRel} {okr okw:Nat→Bool} {o:Oper}
def kdT (P:Program) (t:TypeId) :Option Nat:=match P.underlying t with
 | some (.int _)=>some 0
 | some .string=>some 1
 | some .bool=>some 2
 | _=>none
theorem run_eqFields {Γ:Froz} (w:World) (d:Nat) (xs ys:List Value) : ∀(fs:List Field) (k:Nat) (p q:List D) (ks:List Nat) (r:Bool),eqCells p q=some r→p.map D.kd=ks→q.map D.kd=ks→fs.map (fun f=>(f.offset,kdT P f.type,f.name=="_")) =(ks.zipIdx k).map (fun y=>(y.2,some y.1,false))→
  (∀(i:Nat) x v,p[i]? =some x→xs[k+i]? =some v→Rep Γ x v)→(∀(i:Nat) x v,q[i]? =some x→ys[k+i]? =some v→Rep Γ x v)→k+p.length=xs.length→k+q.length=ys.length→
  (Op.eqFields (d+1) xs.toArray ys.toArray fs).run P w= .ok r w
 | fs,k,[],q,ks,r,he,hp,hq,hf,hx,hy,hlx,hly=>by
  subst hp
  obtain rfl:fs= []:=by simpa using hf
  obtain rfl:q= []:=by simpa using hq
  simp only [eqCells,Option.some.injEq] at he;subst he
  simp [Op.eqFields]
 | fs,k,x :: p,q,ks,r,he,hp,hq,hf,hx,hy,hlx,hly=>by
  subst hp
  cases q with
  | nil=>simp [eqCells] at he
  | cons y q=>
   cases fs with
   | nil=>simp at hf
   | cons f fs=>
    simp only [List.map_cons,List.zipIdx_cons,List.cons.injEq,Prod.mk.injEq] at hf hq
    obtain ⟨⟨ho,hk,hn⟩,hf⟩:=hf
    obtain ⟨hq0,hq⟩:=hq
    simp only [eqCells] at he
    split at he
    ·rename_i a b ha hb
     simp only [Option.some.injEq] at he;subst he
     have hkx:k<xs.length:=by rw [←hlx];simp
     have hky:k<ys.length:=by rw [←hly];simp
     have rx:=hx 0 x xs[k] rfl (List.getElem?_eq_getElem hkx)
     have ry:=hy 0 y ys[k] rfl (List.getElem?_eq_getElem hky)
     have ih:=run_eqFields w d xs ys fs (k+1) p q _ b hb rfl hq hf (fun i z v h1 h2=>hx (i+1) z v h1 (by rwa [show k+1+i=k+(i+1) by omega] at h2)) (fun i z v h1 h2=>hy (i+1) z v h1 (by rwa [show k+1+i=k+(i+1) by omega] at h2)) (by simp at hlx;omega) (by simp at hly;omega)
     have hn':f.name≠"_":=by simpa using hn
     have hag:isAggT P f.type=some false:=by
      unfold kdT at hk;unfold isAggT
      cases hu:P.underlying f.type with
      | none=>rw [hu] at hk;cases hk
      | some u=>rw [hu] at hk;cases u<;>first | rfl | cases hk
     have px:(part f.type xs.toArray f.offset).run P w= .ok xs[k] w:=by simp [part,run_isAgg hag,ho,hkx]
     have py:(part f.type ys.toArray f.offset).run P w= .ok ys[k] w:=by simp [part,run_isAgg hag,ho,hky]
     have heq:(Op.equalIn (d+1) f.type xs[k] ys[k]).run P w= .ok a w:=by
      generalize xs[k]=u at rx⊢;generalize ys[k]=v at ry⊢
      unfold kdT at hk
      cases x<;>cases y<;>simp only [eqCell] at ha<;>(try cases ha)<;>cases rx<;>cases ry
      ·simp only [D.kd] at hk
       cases hu:P.underlying f.type with
       | none=>rw [hu] at hk;cases hk
       | some t=>rw [hu] at hk;cases t<;>simp at hk;exact run_equalIn_bool w d f.type _ _ hu
      ·simp only [D.kd] at hk
       split at ha
       ·rename_i hkk;subst hkk;cases ha
        cases hu:P.underlying f.type with
        | none=>rw [hu] at hk;cases hk
        | some t=>rw [hu] at hk;cases t<;>simp at hk;exact run_equalIn_int w d f.type _ _ _ _ hu
       ·cases ha
      ·simp only [D.kd] at hk
       cases hu:P.underlying f.type with
       | none=>rw [hu] at hk;cases hk
       | some t=>
        rw [hu] at hk;cases t<;>simp at hk
        rw [run_equalIn_string w d f.type _ _ hu,toList_mk,toList_mk]
     rw [Op.eqFields]
     simp only [if_pos hn',Sem.run_bind,px,py,heq,Result.andThen_ok]
     cases a
     ·simp
     ·simpa using ih
    ·cases he
theorem g_eqAgg {x y:Operand} {ax ay:AX} {t t':TypeId} {fs:Array Field} {ks:List Nat} (ng:Bool) (ho:o.op= .binOp (if ng then .neq else .eql) t x y t') (hx:trX x=some ax) (hy:trX y=some ay) (ht:P.underlying t=some (.struct fs)) (hs:P.stoodInHeld t=false) (hg:P.eqGuardType P.depth t=false)
  (hf:fs.toList.map (fun f=>(f.offset,kdT P f.type,f.name=="_")) =ks.zipIdx.map (fun y=>(y.2,some y.1,false))) :Good P o ((AI.eqAgg ng ks ax ay).pm C okr okw o.dst):=by
 intro Γ ρ bl st a w h hgz hd K hw Q
 simp only [AI.pm] at hw
 rw [ev_wp,ev_wp] at hw
 split at hw
 ·rename_i p q h1 h2
  split at hw
  ·rename_i r hr
   obtain ⟨⟨hp,hq⟩,hw⟩:=hw
   have e1:=rep_ax hx h
   rw [h1] at e1
   have e1:Rep Γ (.agg p) (a.eval x):=e1
   have e2:=rep_ax hy h
   rw [h2] at e2
   have e2:Rep Γ (.agg q) (a.eval y):=e2
   generalize hu:a.eval x=u at e1
   generalize hv:a.eval y=v at e2
   cases e1 with
   | agg _ xs hl1 hf1 hr1=>
    cases e2 with
    | agg _ ys hl2 hf2 hr2=>
     have hfo:P.fieldsOf t=fs:=by simp [Program.fieldsOf,ht]
     have hrun:=run_eqFields (P:=P) w 9998 xs ys fs.toList 0 p q ks r hr hp hq hf (fun i x v a b=>hr1 i x v a (by simpa using b)) (fun i x v a b=>hr2 i x v a (by simpa using b)) (by simpa using hl1) (by simpa using hl2)
     have heq:=run_equalIn_struct (P:=P) w 9999 t xs.toArray ys.toArray (by rw [hfo];exact ht) hs
     rw [hfo,hrun] at heq
     refine good_data (v:= .bool (r !=ng)) h hd ?_ (.bool _) hw
     cases ng
     ·simp only [execOp,ho,hu,hv,Sem.run_bind,Bool.false_eq_true,if_false,run_eqGuard_agg w _ t x y _ _ hg,Result.andThen_ok,run_eql_struct,heq]
      simp
     ·simp only [execOp,ho,hu,hv,Sem.run_bind,if_true,run_eqGuard_agg w _ t x y _ _ hg,Result.andThen_ok,run_neq_struct,heq]
      simp
  ·exact hw.elim
 ·exact hw.elim
theorem g_stringish {x:Operand} {ax:AX} {t e:TypeId} (ho:o.op= .convert t t x) (ht:P.underlying t=some (.slice e)) (he:P.underlying e=some (.int .u8)) (hx:trX x=some ax) :Good P o ((AI.stringish ax).pm C okr okw o.dst):=by
 intro Γ ρ bl st a w h hgz hd K hw Q
 simp only [AI.pm] at hw
 rw [ev_wp] at hw
 split at hw
 ·rename_i sz l hl
  obtain ⟨hne,hw⟩:=hw
  cases ax with
  | c cv=>
   simp only [AX.val] at hl
   cases x with
   | const u=>
    simp only [trX,Option.map_eq_some_iff] at hx
    obtain ⟨c',hc',e'⟩:=hx
    injection e' with e';subst e'
    rw [hl] at hc'
    exact absurd hc' (by unfold cvOf;split<;>simp)
   | func f=>simp only [trX,Option.some.injEq,AX.c.injEq] at hx;rw [←hx] at hl;cases hl
   | tmp n=>simp [trX] at hx
   | global g=>simp [trX] at hx
  | t n=>
   simp only [AX.val] at hl hw
   rw [hl] at hw
   have hn:n<st.s.length:=by have:=hw.1;simpa [Place.ok] using this
   obtain ⟨ρ',st',g1,g2,g3,g4,hst'⟩:=strip_sound h hx hl hw (.s n) 1
   rcases g2 with ⟨e',vs,hown,hf,hg⟩ | ⟨h0,_⟩
   ·rcases hown.2 with ⟨_,h0⟩ | ⟨g,cap,cur,hv,⟨fz,hok,hheap⟩,hnc,hcm,hcs,htk⟩
    ·exact absurd (List.eq_nil_of_length_eq_zero h0) hne
    ·obtain ⟨hr,hΓ⟩:=hg g (by rw [hv];rfl)
     have hsh:w.shape? g=some (e',cur.size):=by simp [World.shape?,hheap]
     have hrun:(execOp a.eval o).run P w= .ok (.value (a.eval x)) (w.freeze ⟨g,cur.size,none⟩ 1):=by
      simp [execOp,ho,hv,convert,run_underlying ht,run_underlying he,markStringish,hsh]
     have hfz: ∃fz',OkFz fz' cur.size∧(w.freeze ⟨g,cur.size,none⟩ 1).heap[g]? =some (.cells cur e' fz'):=by
      refine ⟨if fz.1=fz.2 then (cur.size,cur.size+1) else (min fz.1 cur.size,max fz.2 (cur.size+1)), ?_, ?_⟩
      ·split
       ·exact .inr (Nat.le_refl _)
       ·rename_i hne'
        rcases hok with rfl | hok
        ·exact absurd rfl hne'
        ·exact .inr (by simp only;omega)
      ·simp only [World.freeze]
       rw [if_neg (by decide)]
       simp [Array.getElem?_modify,hheap]
     obtain ⟨fz',hok',hfz⟩:=hfz
     have hoth: ∀k,k≠g→(w.freeze ⟨g,cur.size,none⟩ 1).heap[k]? =w.heap[k]? :=by
      intro k hk
      simp only [World.freeze]
      rw [if_neg (by decide)]
      simp only [Array.getElem?_modify]
      rw [if_neg (Ne.symm hk)]
     have hsize:(w.freeze ⟨g,cur.size,none⟩ 1).heap.size=w.heap.size:=by
      simp only [World.freeze];rw [if_neg (by decide)];simp
     have hcell: ∀ad v,w.cell? ad=some v→(w.freeze ⟨g,cur.size,none⟩ 1).cell? ad=some v:=by
      intro ad v hv'
      by_cases hb:ad.block=g
      ·simp only [World.cell?,hb,hheap] at hv'
       simp only [World.cell?,hb,hfz];exact hv'
      ·rw [World.cell?_of_block (hoth _ hb)];exact hv'
     have hnh: ∀g' p i,ρ' g'= .own p i→Holds st' p i→g'≠g:=by
      rintro g' p i h1 h2 rfl
      rw [hr] at h1;cases h1
      unfold Holds at h2
      rw [hst',St.get_setSlot,if_pos ⟨rfl,hn⟩] at h2
      cases h2
     have hs1:SR Γ ρ' bl st' a.tmps (w.freeze ⟨g,cur.size,none⟩ 1):=by
      refine g1.keep (.refl _) (fun ad v ha=>hcell _ _ (g1.agree ad v ha)) (fun g' p i h1 h2=>⟨rfl,hoth _ (hnh g' p i h1 h2),fun _=>rfl⟩) (fun _ _=>rfl) (fun b g' hx=>⟨rfl,hoth _ (by rintro rfl;exact hx.no hr),fun _=>rfl⟩) (fun _ _ _ _ e=>e) fun g' hg'=>by rw [hsize];exact g1.rho g' hg'
     have hfr:Fr w Γ ρ' (w.freeze ⟨g,cur.size,none⟩ 1) Γ ρ':=by
      have hos:(w.freeze ⟨g,cur.size,none⟩ 1).os=w.os∧(w.freeze ⟨g,cur.size,none⟩ 1).tape=w.tape∧(w.freeze ⟨g,cur.size,none⟩ 1).output=w.output:=by
       simp only [World.freeze];rw [if_neg (by decide)];exact ⟨rfl,rfl,rfl⟩
      exact ⟨.refl _,by rw [hsize];exact Nat.le_refl _,hos.1,hos.2.1,hos.2.2,fun g' _ hp=>⟨hoth _ (by rintro rfl;rw [hr] at hp;cases hp),hp⟩,fun _ _ h=> .inl h,fun _ _ _ _ e _ _=>e⟩
     have how:Own Γ ρ' (w.freeze ⟨g,cur.size,none⟩ 1) (.s n) 1 sz l (a.eval x):= .inl ⟨e',vs,⟨hown.1, .inr ⟨g,cap,cur,hv,⟨_,hok',hfz⟩,hnc,hcm,hcs,htk⟩⟩,hf,hg⟩
     have hnh1: ¬Holds st' (.s n) 1:=by
      unfold Holds
      rw [hst',St.get_setSlot,if_pos ⟨rfl,hn⟩]
      simp [CV.comp,CV.held]
     obtain ⟨ρ2,k1,k2,k3⟩:=hs1.give how hnh1 (.s (o.dst.getD 0)) 0
     unfold Oper.wp;rw [hrun,Oper.upon_value]
     obtain ⟨st'',hK,hs'⟩:=setD_sound k1 (dst:=o.dst) (c:= .own sz l) (v:=a.eval x) (fun d' e'=>by
      have e2:o.dst.getD 0=d':=by rw [e'];rfl
      rw [e2] at k2;exact k2) (fun b hb=>hb.elim) g4
     exact ⟨by rw [put_defers];exact hd,Γ,ρ2,bl,st'',hK,by rw [put_tmps];exact hs',(g3.trans hfr).trans k3,fun _ _=>rfl⟩
   ·exact absurd h0 hne
 ·exact hw.elim
end B
end Go.Proofs.YtmkkljbfmdngfaaGreatDoor
