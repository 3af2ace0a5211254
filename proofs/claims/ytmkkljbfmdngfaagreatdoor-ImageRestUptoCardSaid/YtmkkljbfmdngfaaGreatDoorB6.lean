/- Each instruction does what the abstract one says: boxes, conversions. No condition. -/
import Derived.Test.YtmkkljbfmdngfaaGreatDoorB5
import Derived.Lib.ConvBytes
set_option linter.all false
namespace Go.Proofs.YtmkkljbfmdngfaaGreatDoor
namespace B
open Go.RowKit
variable {P:Program} {C:CallRel} {okr okw:Nat→Bool} {o:Oper}
def isAggT (P:Program) (t:TypeId) :Option Bool:=match P.underlying t with
 | some (.struct _) | some (.array _ _)=>some true
 | some _=>some false
 | none=>none
theorem run_isAgg {t:TypeId} {b:Bool} (h:isAggT P t=some b) (w:World) :(isAgg t).run P w= .ok b w:=by
 unfold isAggT at h
 cases hd:P.underlying t with
 | none=>rw [hd] at h;cases h
 | some d=>rw [hd] at h;cases d<;>simp at h<;>subst h<;>simp [isAgg,run_underlying hd]
theorem rep_asD {Γ:Froz} {ρ:Nat→Role} {bl:Nat→Nat} {w:World} {p:Place} {i:Nat} {c:CV} {v:Value} {x:D} (h:RepC1 Γ ρ bl w p i c v) (hx:c.asD=some x) :Rep Γ x v:=by
 cases c<;>simp [CV.asD] at hx
 ·subst hx;exact h
 ·subst hx;exact Own.rep h
 ·rename_i f caps
  cases caps with
  | nil=>simp at hx;subst hx;rw [show v= .func (.func f) #[] #[] from h];exact .fn f
  | cons _ _=>simp at hx
theorem allF_spec: ∀{cs:List CV} {ds:List D},allF cs=some ds→cs.length=ds.length∧(∀d∈ds,d.flat=true)∧∀(i:Nat) c d,cs[i]? =some c→ds[i]? =some d→c.asD=some d
 | [],ds,h=>by simp only [allF,Option.some.injEq] at h;subst h;simp
 | c :: r,ds,h=>by
  simp only [allF] at h
  split at h
  ·rename_i x xs hx hxs
   split at h
   ·rename_i hf
    simp only [Option.some.injEq] at h;subst h
    obtain ⟨h1,h2,h3⟩:=allF_spec hxs
    refine ⟨by simp [h1],fun d hd=> ?_,fun i c' d hc hd=> ?_⟩
    ·rcases List.mem_cons.1 hd with rfl | hd;exact hf;exact h2 d hd
    ·cases i with
     | zero=>simp at hc hd;subst hc;subst hd;exact hx
     | succ i=>exact h3 i c' d hc hd
   ·cases h
  ·cases h
theorem mkAgg_rep {Γ:Froz} {ρ:Nat→Role} {bl:Nat→Nat} {w:World} {p q:Place} {cs:List CV} {vs:List Value} (h:RepL Γ ρ bl w p cs vs) :RepC Γ ρ bl w q (mkAgg cs) (.agg vs.toArray):=by
 unfold mkAgg
 split
 ·rename_i ds hds
  obtain ⟨h1,h2,h3⟩:=allF_spec hds
  refine Rep.agg ds vs (by rw [←h1,h.1]) h2 fun i d v hd hv=> ?_
  have hi:i<cs.length:=by rw [h.1];exact (List.getElem?_eq_some_iff.1 hv).1
  exact rep_asD (h.2 i _ v (List.getElem?_eq_getElem hi) hv) (h3 i _ d (List.getElem?_eq_getElem hi) hd)
 ·exact ⟨vs,rfl,h.copy⟩
theorem mkAgg_noOwn (cs:List CV) :(mkAgg cs).noOwn=true:=by
 unfold mkAgg;split
 ·rfl
 ·simp [CV.noOwn,copy1_held]
theorem mkAgg_ment {cs:List CV} {b:Nat} (h:(mkAgg cs).ment b) : ∃c∈cs,c.ment1 b:=by
 unfold mkAgg at h;split at h
 ·exact h.elim
 ·obtain ⟨c,hc,hm⟩:=h
  rw [List.mem_map] at hc
  obtain ⟨c',hc',rfl⟩:=hc
  exact ⟨c',hc',copy1_ment1 hm⟩
theorem RepL.cut {Γ:Froz} {ρ:Nat→Role} {bl:Nat→Nat} {w:World} {p:Place} {cs:List CV} {vs:List Value} (h:RepL Γ ρ bl w p cs vs) (off n:Nat) :
  ((cs.drop off).take n).length=((vs.drop off).take n).length∧∀(i:Nat) c v,((cs.drop off).take n)[i]? =some c→((vs.drop off).take n)[i]? =some v→RepC1 Γ ρ bl w p (off+i) c v:=by
 refine ⟨by simp [h.1],fun i c v hc hv=> ?_⟩
 rw [List.getElem?_take] at hc hv
 split at hc
 ·rename_i hi
  rw [if_pos hi] at hv
  rw [List.getElem?_drop] at hc hv
  exact h.2 _ c v hc hv
 ·cases hc
theorem mkAgg_rep' {Γ:Froz} {ρ:Nat→Role} {bl:Nat→Nat} {w:World} {p q:Place} {k:Nat} {cs:List CV} {vs:List Value} (hl:cs.length=vs.length) (h: ∀(i:Nat) c v,cs[i]? =some c→vs[i]? =some v→RepC1 Γ ρ bl w p (k+i) c v) :RepC Γ ρ bl w q (mkAgg cs) (.agg vs.toArray):=by
 unfold mkAgg
 split
 ·rename_i ds hds
  obtain ⟨h1,h2,h3⟩:=allF_spec hds
  refine Rep.agg ds vs (by rw [←h1,hl]) h2 fun i d v hd hv=> ?_
  have hi:i<cs.length:=by rw [hl];exact (List.getElem?_eq_some_iff.1 hv).1
  exact rep_asD (h i _ v (List.getElem?_eq_getElem hi) hv) (h3 i _ d (List.getElem?_eq_getElem hi) hd)
 ·refine ⟨vs,rfl,by simpa using hl,fun i c v hc hv=> ?_⟩
  rw [List.getElem?_map,Option.map_eq_some_iff] at hc
  obtain ⟨c',hc',rfl⟩:=hc
  exact (h i c' v hc' hv).copy1
def isSpC:CV→Bool
 | .sp _ _=>true
 | _=>false
theorem RepC1.copyB {Γ:Froz} {ρ:Nat→Role} {bl:Nat→Nat} {w:World} {p q:Place} {i j:Nat} {c:CV} {v:Value} (h:RepC1 Γ ρ bl w p i c v) :RepC1 Γ ρ bl w q j c.copyB v:=by
 have h:=h.copy1 (q:=q) (j:=j)
 unfold CV.copyB
 split
 ·rename_i z e
  rw [e] at h
  have h:Rep Γ (.nils z) v:=h
  cases h
  exact .inl ⟨0,[],rowS_nil w 0 z,⟨by simp,by simp [flatten],rfl,by simp [flatten]⟩,by simp [Value.ownBlock]⟩
 ·exact h
theorem RepL.copyBL {Γ:Froz} {ρ:Nat→Role} {bl:Nat→Nat} {w:World} {p q:Place} {cs:List CV} {vs:List Value} (h:RepL Γ ρ bl w p cs vs) :RepL Γ ρ bl w q (cs.map CV.copyB) vs:=by
 refine ⟨by simpa using h.1,fun i c v hc hv=> ?_⟩
 rw [List.getElem?_map,Option.map_eq_some_iff] at hc
 obtain ⟨c',hc',rfl⟩:=hc
 exact (h.2 i c' v hc' hv).copyB
theorem copyB_ment1 {c:CV} {b:Nat} (h:c.copyB.ment1 b) :c.ment1 b:=by
 unfold CV.copyB at h
 split at h
 ·exact h.elim
 ·exact copy1_ment1 h
theorem copyB_sp (c:CV) :isSpC c.copyB=false:=by
 unfold CV.copyB
 split
 ·rfl
 ·cases c<;>rfl
theorem copy1_sp (c:CV) :isSpC c.copy1=false:=by cases c<;>rfl
theorem splice_sp {off:Nat} {new cs:List CV} (hn: ∀c∈new,isSpC c=false) {k t:Nat} (h:(splice off new cs)[0]? =some (.sp k t)) :cs[0]? =some (.sp k t):=by
 unfold splice at h
 cases cs with
 | nil=>
  cases new with
  | nil=>simp at h
  | cons c r=>
   simp at h;subst h
   exact absurd (hn (.sp k t) (by simp)) (by simp [isSpC])
 | cons c0 r=>
  cases off with
  | zero=>
   cases new with
   | nil=>simpa using h
   | cons c r=>
    simp at h;subst h
    exact absurd (hn (.sp k t) (by simp)) (by simp [isSpC])
  | succ off=>simpa using h
theorem SR.viewBox {Γ:Froz} {ρ:Nat→Role} {bl:Nat→Nat} {st:St} {tmps:Array Value} {w:World} (h:SR Γ ρ bl st tmps w) {b:Nat} {cs:List CV} (hcs:st.bx b=some cs) (hro:rowOf cs=none) (cs':List CV)
  (hr: ∀vs,RepL Γ ρ bl w (.b b) cs vs→RepL Γ ρ bl w (.b b) cs' vs) (hm: ∀c∈cs',∀k,c.ment1 k→(st.bx k).isSome=true)
  (hsp: ∀k t,cs'[0]? =some (.sp k t)→cs[0]? =some (.sp k t)) :
  SR Γ ρ bl (st.set (.b b) (.agg cs')) tmps w:=by
 obtain ⟨arr,e,h1,h2,h3,h4⟩:=h.boxes b cs hcs hro
 have:=(h.setBox hcs hro cs' arr (hr _ h3) hm fun k t e=> .inl (hsp k t e)).1
 rwa [setRow_self w (bl b) arr e (0,0) h1] at this
theorem get_b_agg {st:St} {b:Nat} {cs:List CV} (h:st.get (.b b) = .agg cs) :st.bx b=some cs:=by
 simp only [St.get] at h
 split at h
 ·rename_i cs' hcs;cases h;exact hcs
 ·cases h
theorem get_b_junk {st:St} {b:Nat} (h:st.get (.b b) = .junk) :st.bx b=none:=by
 simp only [St.get] at h
 split at h
 ·cases h
 ·rename_i hn;exact hn
theorem mem_drop_take {α:Type} {l:List α} {x:α} {i j:Nat} (h:x∈(l.drop i).take j) :x∈l:=List.mem_of_mem_drop (List.mem_of_mem_take h)
theorem cut_get {α:Type} {l:List α} {off n j:Nat} {v:α} (h:((l.drop off).take n)[j]? =some v) :l[off+j]? =some v:=by
 rw [List.getElem?_take] at h
 split at h
 ·rwa [List.getElem?_drop] at h
 ·cases h
theorem cell_row {w:World} {g:Nat} {arr:Array Value} {e:TypeId} {fr:Nat×Nat} (h:w.heap[g]? =some (.cells arr e fr)) (j:Nat) :w.cell? ⟨g,j,none⟩ =arr[j]? :=by simp [World.cell?,h]
theorem splice_one {off:Nat} {v:CV} {cs:List CV} (h:off<cs.length) :splice off [v] cs=cs.set off v:=by
 simp only [splice,List.length_singleton]
 rw [List.set_eq_take_append_cons_drop,if_pos h];simp
theorem get_b_row {st:St} {k z:Nat} {l:List D} (h:rowD (st.get (.b k)) =some (z,l)) : ∃cs,st.bx k=some cs∧rowOf cs=some (z,l):=by
 simp only [St.get] at h
 cases e:st.bx k with
 | none=>rw [e] at h;cases h
 | some cs=>rw [e] at h;exact ⟨cs,rfl,h⟩
theorem SR.real {Γ:Froz} {ρ:Nat→Role} {bl:Nat→Nat} {st:St} {tmps:Array Value} {w:World} (h:SR Γ ρ bl st tmps w) {k sz cap:Nat} {cs:List CV} {l:List D} (hbx:st.bx k=some cs) (hro:rowOf cs=some (sz,l)) (hr:ρ (bl k) = .row k sz cap) :
  ∃arr e fz,w.heap[bl k]? =some (.cells arr e fz)∧OkFz fz arr.size∧arr.size=cap*sz∧cap≤maxLen∧l.length≤cap∧RepF Γ sz l (arr.toList.take (l.length*sz))∧∀o,Γ ⟨bl k,o,none⟩ =none:=by
 obtain ⟨arr,e,fz,q1,q2,q3,q4,q5⟩:=h.rowk _ _ _ _ hr
 rcases h.rows k cs sz l hbx hro with rfl | ⟨arr',e',fz',cap',h1,h3,h6,h7⟩
 ·exact ⟨arr,e,fz,q1,q2,q3,q4,Nat.zero_le _,⟨by simp,by simp [flatten],by simp [flatten],by simp [flatten]⟩,q5⟩
 ·rw [q1] at h1;cases h1
  rw [hr] at h3
  injection h3 with _ _ h3
  subst h3
  exact ⟨arr,e,fz,q1,q2,q3,q4,h6,h7,q5⟩
theorem RepF.elem {Γ:Froz} {sz:Nat} {l:List D} {vs:List Value} (r:RepF Γ sz l vs) {i j:Nat} (hi:i<l.length) (hj:j<sz) : ∃u,vs[i*sz+j]? =some u∧Rep Γ ((l.getD i .nilp).cells.getD j .nilp) u∧((l.getD i .nilp).cells.getD j .nilp).flat=true:=by
 have e:l.getD i .nilp=l[i]:=by simp [List.getD_eq_getElem?_getD,hi]
 have hl:=r.uni l[i] (List.getElem_mem hi)
 have h1:=flatten_get r.uni i j hj
 have hjc:j<l[i].cells.length:=by omega
 rw [List.getElem?_eq_getElem hi,Option.bind_some,List.getElem?_eq_getElem hjc] at h1
 have e2:l[i].cells.getD j .nilp=l[i].cells[j]:=by simp [List.getD_eq_getElem?_getD,hjc]
 rw [e,e2]
 have hlt:i*sz+j<vs.length:=by rw [←r.len];exact (List.getElem?_eq_some_iff.1 h1).1
 exact ⟨vs[i*sz+j],List.getElem?_eq_getElem hlt,r.rep _ _ _ h1 (List.getElem?_eq_getElem hlt),r.flat _ (List.mem_of_getElem? h1)⟩
theorem row_cell {Γ:Froz} {w:World} {g sz:Nat} {l:List D} {arr:Array Value} {e:TypeId} {fz:Nat×Nat} (h1:w.heap[g]? =some (.cells arr e fz)) (r:RepF Γ sz l (arr.toList.take (l.length*sz))) {i j:Nat} (hi:i<l.length) (hj:j<sz) :
  ∃u,w.cell? ⟨g,i*sz+j,none⟩ =some u∧Rep Γ ((l.getD i .nilp).cells.getD j .nilp) u∧((l.getD i .nilp).cells.getD j .nilp).flat=true:=by
 obtain ⟨u,hu,h2,h3⟩:=r.elem hi hj
 refine ⟨u, ?_,h2,h3⟩
 rw [cell_row h1]
 rw [List.getElem?_take] at hu
 split at hu
 ·simpa using hu
 ·cases hu
theorem el_len {Γ:Froz} {sz:Nat} {l:List D} {vs:List Value} (r:RepF Γ sz l vs) {i:Nat} (hi:i<l.length) :(l.getD i .nilp).cells.length=sz:=by
 have e:l.getD i .nilp=l[i]:=by simp [List.getD_eq_getElem?_getD,hi]
 rw [e];exact r.uni l[i] (List.getElem_mem hi)
theorem freezeRow_none {Γ:Froz} {g:Nat} (vs:List Value) (h: ∀o,Γ ⟨g,o,none⟩ =none) :Le Γ (freezeRow Γ g vs):=freezeRow_le (vs:=[]) (fun o=>by rw [h o];rfl) (by simp)
theorem row_rep {Γ:Froz} {ρ:Nat→Role} {bl:Nat→Nat} {k z o n:Nat} {l:List D} {vs:List Value} {v:Value} (hv:RowH ρ bl z k o n v) (hΓ: ∀o,Γ ⟨bl k,o,none⟩ =none) (r:RepF Γ z l vs) (hn:o+n≤l.length) :
  Rep (freezeRow Γ (bl k) vs) (.slice z ((l.drop o).take n)) v:=by
 have hle:=freezeRow_none vs hΓ
 rcases hv with ⟨rfl,hv⟩ | ⟨c,cap,rfl,h2,_,_⟩
 ·rw [List.take_zero]
  rcases hv with rfl | ⟨a,rfl⟩
  ·exact .nil z
  ·exact .nil0 z a
 have hL:((l.drop o).take n).length=n:=by simp;omega
 have huni: ∀x∈l.drop o,x.cells.length=z:=fun x hx=>r.uni x (List.mem_of_mem_drop hx)
 have hfl:flatten ((l.drop o).take n) =((flatten l).drop (o*z)).take (n*z):=by rw [flatten_take huni,flatten_drop r.uni]
 have key:=Rep.slice (Γ:=freezeRow Γ (bl k) vs) z ((l.drop o).take n) ⟨bl k,o*z,none⟩ c (fun i=>vs.getD (o*z+i) undef) rfl (by omega) (fun x hx=>huni x (List.mem_of_mem_take hx)) (fun d hd=> ?_) (fun i d hd=> ?_) (fun i d hd=> ?_)
 ·rw [hL] at key;exact key
 ·rw [hfl] at hd;exact r.flat d (List.mem_of_mem_drop (List.mem_of_mem_take hd))
 ·rw [hfl] at hd
  have h5:=cut_get hd
  have hlt:o*z+i<vs.length:=by rw [←r.len];exact (List.getElem?_eq_some_iff.1 h5).1
  rw [Addr.add_lit',freezeRow_at]
  simp [List.getD_eq_getElem?_getD,hlt]
 ·rw [hfl] at hd
  have h5:=cut_get hd
  have hlt:o*z+i<vs.length:=by rw [←r.len];exact (List.getElem?_eq_some_iff.1 h5).1
  refine (r.rep _ d _ h5 ?_).mono hle
  simp [List.getD_eq_getElem?_getD,hlt]
theorem row_agree {Γ:Froz} {w:World} {g:Nat} {vs:List Value} {arr:Array Value} {e:TypeId} {fz:Nat×Nat} (h: ∀a v,Γ a=some v→w.cell? a=some v) (h1:w.heap[g]? =some (.cells arr e fz)) (hp: ∀(i:Nat) u,vs[i]? =some u→arr[i]? =some u) :
  ∀a v,freezeRow Γ g vs a=some v→w.cell? a=some v:=by
 intro a v ha
 unfold freezeRow at ha
 split at ha
 ·rename_i hc
  rw [Addr.eq_lit a hc.2,hc.1,cell_row h1]
  exact hp _ _ ha
 ·exact h a v ha
theorem take_arr {arr:Array Value} {n i:Nat} {u:Value} (h:(arr.toList.take n)[i]? =some u) :arr[i]? =some u:=by
 rw [List.getElem?_take] at h
 split at h
 ·simpa using h
 ·cases h
theorem g_load {x:Operand} {ax:AX} {t:TypeId} {ag:Bool} {n:Nat} {ti:TypeInfo} (xf:Bool) (ho:o.op= .load t x) (hx:trX x=some ax) (hag:isAggT P t=some ag) (hi:P.info? t=some ti) (hn:ti.size=n) (hag1:ag=false→n=1) :
  Good P o ((AI.load ag n ax xf).pm C okr okw o.dst):=by
 intro Γ ρ bl st a w h hgz hd K hw Q
 simp only [AI.pm] at hw
 rw [ev_wp] at hw
 have e:=rep_ax hx h
 split at hw
 ·rename_i b off hb
  rw [hb] at e
  have e:a.eval x= .pointer (some ⟨bl b,off,none⟩):=e
  split at hw
  ·change (match st.get (.b b) with | .agg cs=>_ | _=>PM.fail).wp K st at hw
   split at hw
   ·rename_i cs hcs
    have hbx:=get_b_agg hcs
    obtain ⟨⟨hlen,hro⟩,hw⟩:=hw
    obtain ⟨arr,ety,h1,h2,h3,h4⟩:=h.boxes b cs hbx hro
    have hal:arr.toList.length=cs.length:=h3.1.symm
    cases ag with
    | true=>
     simp only [if_true] at hw
     have hrun:(execOp a.eval o).run P w= .ok (.value (.agg ((arr.toList.drop off).take n).toArray)) w:=by
      have hl:((arr.toList.drop off).take n).length=n:=by simp;simp at hal;omega
      have:=run_loadCells_list (P:=P) w ⟨bl b,off,none⟩ ((arr.toList.drop off).take n) (fun j v hj=>by
       rw [Addr.add_lit',cell_row h1,←Array.getElem?_toList];exact cut_get hj)
      rw [hl] at this
      simp [execOp,ho,Instr.loadAt,e,Instr.sureAddr,loadVar,run_isAgg hag,sizeOf,typeInfo,hi,hn,this]
     obtain ⟨k1,k2⟩:=h3.cut off n
     exact good_same (p:= .s 0) h hd hrun (mkAgg_rep' k1 k2) (mkAgg_noOwn _) (fun k hk=>by
      obtain ⟨c,hc,hm⟩:=mkAgg_ment hk
      exact h.closed (.b b) k (by rw [St.get_bx hbx];exact ⟨c,mem_drop_take hc,hm⟩)) hw
    | false=>
     obtain rfl:=hag1 rfl
     have hoff:off<arr.size:=by simp at hal;omega
     have hc:cs[off]? =some (cs.getD off .junk):=by
      have:off<cs.length:=by simp at hal;omega
      simp [List.getD_eq_getElem?_getD,this]
     have hr:=h3.2 off _ arr[off] hc (by simp [hoff])
     have hrun:(execOp a.eval o).run P w= .ok (.value arr[off]) w:=by
      simp [execOp,ho,Instr.loadAt,e,Instr.sureAddr,loadVar,run_isAgg hag,cell_row h1,hoff]
     have hment: ∀k,(cs.getD off .junk).ment1 k→(st.bx k).isSome=true:=fun k hk=>h.closed (.b b) k (by rw [St.get_bx hbx];exact ⟨_,List.mem_of_getElem? hc,hk⟩)
     generalize hcc:cs.getD off .junk=c at*
     simp only [Bool.false_eq_true,if_false] at hw
     have hna:c.isAggr=false:=by cases c<;>first | rfl | exact hr.elim
     split at hw
     ·rename_i hxf
      simp only [Bool.and_eq_true] at hxf
      cases c with
      | own sz l=>
       obtain ⟨hokw,_,hw⟩:=hw
       have hs:=h.viewBox hbx hro (splice off [(CV.own sz l).copy1] cs) (fun vs hvs=> ?_) (fun c' hc' k hk=> ?_) (fun k t e=>splice_sp (by simp [CV.copy1,isSpC]) e)
       ·have hh: ¬Holds (st.set (.b b) (.agg (splice off [(CV.own sz l).copy1] cs))) (.b b) off:=by
         intro hH
         unfold Holds at hH
         rw [St.get_setBox,if_pos rfl] at hH
         have hll:off<cs.length:=by simp at hal;omega
         rw [splice_one hll] at hH
         simp [CV.comp,List.getD_eq_getElem?_getD,hll,CV.copy1,CV.held] at hH
        obtain ⟨ρ',g1,g2,g3⟩:=hs.give hr hh (.s (o.dst.getD 0)) 0
        unfold Oper.wp;rw [hrun]
        obtain ⟨st'',hK,hs'⟩:=setD_sound g1 (dst:=o.dst) (c:= .own sz l) (v:=arr[off]) (fun d' e'=>by rw [e'] at g2;exact g2) (fun b hb=>hb.elim) hw
        exact ⟨by rw [put_defers];exact hd,Γ,ρ',bl,st'',hK,by rw [put_tmps];exact hs',g3,fun _ _=>rfl⟩
       ·have hll:off<cs.length:=by simp at hal;omega
        have hsp:=splice_one (v:=(CV.own sz l).copy1) hll
        rw [hsp]
        refine ⟨by simpa using hvs.1,fun i c' v' hc' hv'=> ?_⟩
        rw [List.getElem?_set] at hc'
        split at hc'
        ·rename_i heq;subst heq
         cases hc';exact (hvs.2 off _ v' hc hv').copy1
        ·exact hvs.2 i c' v' hc' hv'
       ·have hll:off<cs.length:=by simp at hal;omega
        have hsp:=splice_one (v:=(CV.own sz l).copy1) hll
        rw [hsp] at hc'
        rcases List.mem_or_eq_of_mem_set hc' with hc' | rfl
        ·exact h.closed (.b b) k (by rw [St.get_bx hbx];exact ⟨c',hc',hk⟩)
        ·exact hk.elim
      | _=>simp [isOwn] at hxf
     ·exact good_same (p:= .s 0) (c:=c.copy1) h hd hrun (by
       have:=hr.copy1 (q:= .s 0) (j:=0)
       cases c<;>first | exact this | simp [CV.isAggr] at hna) (by cases c<;>first | rfl | simp [CV.isAggr] at hna) (fun k hk=>hment k (by cases c<;>first | exact hk | exact hk.elim | simp [CV.isAggr] at hna)) hw
   ·exact hw.elim
  ·exact hw.elim
 ·rename_i cs hb
  rw [hb] at e
  obtain ⟨ad,e,hs,hf,hc⟩ :RepC1 Γ ρ bl w ax.place 0 (.ep cs) (a.eval x):=e
  obtain ⟨hlen,hw⟩:=hw
  cases ag with
  | true=>
   simp only [if_true] at hw
   have hex: ∀i,i<n→∃u,w.cell? (ad.add i) =some u∧Rep Γ (cs.getD i .nilp) u:=fun i hin=>by
    have hil:i<cs.length:=by omega
    obtain ⟨u,hu,hr⟩:=hc i _ (List.getElem?_eq_getElem hil)
    refine ⟨u,h.agree _ _ hu, ?_⟩
    simpa [List.getD_eq_getElem?_getD,hil] using hr
   let f:Nat→Value:=fun i=>if hin:i<n then (hex i hin).choose else undef
   have hf1: ∀i (hin:i<n),w.cell? (ad.add i) =some (f i)∧Rep Γ (cs.getD i .nilp) (f i):=fun i hin=>by
    have:=(hex i hin).choose_spec
    simp only [f,hin,dif_pos];exact this
   have hrun:(execOp a.eval o).run P w= .ok (.value (.agg ((List.range n).map f).toArray)) w:=by
    have:=run_loadCells (P:=P) w ad n f (fun j hj=>(hf1 j hj).1)
    simp [execOp,ho,Instr.loadAt,e,Instr.sureAddr,loadVar,run_isAgg hag,sizeOf,typeInfo,hi,hn,this]
   refine good_data h hd hrun (.agg _ _ (by simp;omega) (fun d hd=>hf d (List.mem_of_mem_take hd)) fun i d v hd hv=> ?_) hw
   rw [List.getElem?_take] at hd
   split at hd
   ·rename_i hin
    simp [hin] at hv;subst hv
    have:=(hf1 i hin).2
    simpa [List.getD_eq_getElem?_getD,hd] using this
   ·cases hd
  | false=>
   obtain rfl:=hag1 rfl
   simp only [Bool.false_eq_true,if_false] at hw
   obtain ⟨u,hu,hr⟩:=hc 0 _ (List.getElem?_eq_getElem (by omega))
   have hu':=h.agree _ _ hu
   have h0:ad.add 0=ad:=by simp [Addr.add]
   rw [h0] at hu'
   refine good_data (v:=u) h hd (by simp [execOp,ho,Instr.loadAt,e,Instr.sureAddr,loadVar,run_isAgg hag,hu']) ?_ hw
   simpa [List.getD_eq_getElem?_getD,show 0<cs.length by omega] using hr
 ·rename_i z k i off hb
  rw [hb] at e
  obtain ⟨e,cap,hrole,_⟩ :RowA ρ bl z k i off (a.eval x):=e
  split at hw
  ·change (match rowD (st.get (.b k)) with | some (z',l)=>_ | none=>PM.fail).wp K st at hw
   split at hw
   ·rename_i z' l hrd
    obtain ⟨⟨hz,hi',hoff⟩,hw⟩:=hw
    subst hz
    obtain ⟨cs,hbx,hro⟩:=get_b_row hrd
    obtain ⟨arr,ety,fz,h1,_,_,_,_,hrf,h4⟩:=h.real hbx hro hrole
    have hel:=el_len hrf hi'
    cases ag with
    | true=>
     simp only [if_true] at hw
     have hex: ∀j,j<n→∃u,w.cell? ((⟨bl k,i*z'+off,none⟩ :Addr).add j) =some u∧Rep Γ ((l.getD i .nilp).cells.getD (off+j) .nilp) u∧((l.getD i .nilp).cells.getD (off+j) .nilp).flat=true:=fun j hj=>by
      rw [Addr.add_lit',Nat.add_assoc]
      exact row_cell h1 hrf hi' (by omega)
     let f:Nat→Value:=fun j=>if hin:j<n then (hex j hin).choose else undef
     have hf1: ∀j (hin:j<n),w.cell? ((⟨bl k,i*z'+off,none⟩ :Addr).add j) =some (f j)∧Rep Γ ((l.getD i .nilp).cells.getD (off+j) .nilp) (f j)∧((l.getD i .nilp).cells.getD (off+j) .nilp).flat=true:=fun j hin=>by
      have:=(hex j hin).choose_spec
      simp only [f,hin,dif_pos];exact this
     have hrun:(execOp a.eval o).run P w= .ok (.value (.agg ((List.range n).map f).toArray)) w:=by
      have:=run_loadCells (P:=P) w ⟨bl k,i*z'+off,none⟩ n f (fun j hj=>(hf1 j hj).1)
      simp [execOp,ho,Instr.loadAt,e,Instr.sureAddr,loadVar,run_isAgg hag,sizeOf,typeInfo,hi,hn,this]
     have hget: ∀(j:Nat) (d:D),(((l.getD i .nilp).cells.drop off).take n)[j]? =some d→j<n∧(l.getD i .nilp).cells.getD (off+j) .nilp=d:=fun j d hd=>by
      have h5:=cut_get hd
      refine ⟨?_,by rw [List.getD_eq_getElem?_getD,h5];rfl⟩
      have:=(List.getElem?_eq_some_iff.1 hd).1
      rw [List.length_take] at this;omega
     refine good_data h hd hrun (.agg _ _ (by simp only [List.length_take,List.length_drop,List.length_map,List.length_range];omega) (fun d hd=> ?_) fun j d v hd hv=> ?_) hw
     ·obtain ⟨j,hj,rfl⟩:=List.mem_iff_getElem.1 hd
      obtain ⟨q1,q2⟩:=hget j _ (List.getElem?_eq_getElem hj)
      rw [←q2];exact (hf1 j q1).2.2
     ·obtain ⟨q1,q2⟩:=hget j _ hd
      simp [q1] at hv;subst hv;subst q2
      exact (hf1 j q1).2.1
    | false=>
     obtain rfl:=hag1 rfl
     simp only [Bool.false_eq_true,if_false] at hw
     obtain ⟨u,hu,hr,_⟩:=row_cell h1 hrf hi' (show off<z' by omega)
     exact good_data (v:=u) h hd (by simp [execOp,ho,Instr.loadAt,e,Instr.sureAddr,loadVar,run_isAgg hag,hu]) hr hw
   ·exact hw.elim
  ·exact hw.elim
 ·exact hw.elim
end B
end Go.Proofs.YtmkkljbfmdngfaaGreatDoor
