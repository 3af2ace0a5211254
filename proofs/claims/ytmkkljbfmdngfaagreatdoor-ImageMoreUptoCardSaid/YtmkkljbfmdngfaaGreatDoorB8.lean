/- Each instruction does what the abstract one says: append. No condition. -/
import Derived.Test.YtmkkljbfmdngfaaGreatDoorB7
import Derived.Lib.AppendStr
import Derived.Maps.AppendAt
set_option linter.all false
namespace Go.Proofs.YtmkkljbfmdngfaaGreatDoor
namespace B
open Go.RowKit
variable {P:Program} {C:CallRel} {okr okw:Nat→Bool} {o:Oper}
theorem run_append_grow_x (w:World) (t tx ty e:TypeId) (i:TypeInfo) (z:Value) (d:TypeDesc) (ht:P.underlying t=some (.slice e)) (htx:P.underlying tx=some d) (hd: ∀k,d≠ .int k) (hi:P.info? e=some i) (hz:i.zero=some z)
  (ba:Option Addr) (sLen sCap m:Nat) (x:Value) (olds news:List Value) (hxl: ∀w',(Builtin.lenOf x).run P w'= .ok m w')
  (hxf:(Builtin.firstCells i.size m x).run P w.drew= .ok news.toArray w.drew) (hof:(Builtin.firstCells i.size sLen (.slice ba sLen sCap)).run P w.drew= .ok olds.toArray w.drew)
  (hg:sCap<sLen+m) (h63:((sLen+m:Nat) :Int)≤9223372036854775807) (hfit:Builtin.nextslicecap (sLen+m) sCap*i.bytes≤281474976710656) :
  (Builtin.append_ #[t,tx] ty #[.slice ba sLen sCap,x]).run P w=
   .ok (.slice (some ⟨w.heap.size,0,none⟩) (sLen+m) (grownCap w (sLen+m) sCap e))
    (w.drew.alloc (.cells (olds.toArray++news.toArray++Builtin.zeroCells z.cells (grownCap w (sLen+m) sCap e-(sLen+m))) e)):=by
 have hn: ¬(sLen+m≤sCap):=by omega
 have h63': ¬(9223372036854775807<((sLen:Int) +(m:Int))):=by omega
 have h48': ¬(281474976710656<Builtin.nextslicecap (sLen+m) sCap*i.bytes):=by omega
 have hdi:(match d with | .int _=>true | _=>false) =false:=by cases d<;>first | rfl | exact absurd rfl (hd _)
 simp [Builtin.append_,run_underlying ht,run_underlying htx,hdi,sizeOf,typeInfo,zeroValue,hi,hz,hxl,hn,h63',h48',Question.forced,hxf,hof,newRow,grownCap]
 try (congr 2;apply Array.ext';simp [List.append_assoc])
theorem run_append_room_x (w:World) (t tx ty e:TypeId) (i:TypeInfo) (d:TypeDesc) (ht:P.underlying t=some (.slice e)) (htx:P.underlying tx=some d) (hd: ∀k,d≠ .int k) (hi:P.info? e=some i)
  (g sLen sCap m:Nat) (cur:Array Value) (e0:TypeId) (fz:Nat×Nat) (hok:OkFz fz cur.size) (hg:w.heap[g]? =some (.cells cur e0 fz)) (x:Value) (news:List Value) (hxl: ∀w',(Builtin.lenOf x).run P w'= .ok m w')
  (hxf:(Builtin.firstCells i.size m x).run P w= .ok news.toArray w) (h1: ∀u∈news,u.oneCell'=true) (hroom:sLen+m≤sCap) (hfit:sLen*i.size+news.length≤cur.size) :
  (Builtin.append_ #[t,tx] ty #[.slice (some ⟨g,0,none⟩) sLen sCap,x]).run P w=
   .ok (.slice (some ⟨g,0,none⟩) (sLen+m) sCap) (w.setRow g (cur.toList.take (sLen*i.size) ++news++cur.toList.drop (sLen*i.size+news.length)).toArray):=by
 have hst:=run_storeCells_ok (P:=P) g (sLen*i.size) e0 fz news 0 cur w hok hg (by simpa using hfit) h1
 simp only [Nat.add_zero] at hst
 have hdi:(match d with | .int _=>true | _=>false) =false:=by cases d<;>first | rfl | exact absurd rfl (hd _)
 simp [Builtin.append_,run_underlying ht,run_underlying htx,hdi,sizeOf,typeInfo,hi,hxl,hroom,hxf,Addr.add_lit,hst]
theorem run_append_room_o (w:World) (t tx ty e:TypeId) (i:TypeInfo) (d:TypeDesc) (ht:P.underlying t=some (.slice e)) (htx:P.underlying tx=some d) (hd: ∀k,d≠ .int k) (hi:P.info? e=some i)
  (g off sLen sCap m:Nat) (cur:Array Value) (e0:TypeId) (fz:Nat×Nat) (hok:OkFz fz cur.size) (hg:w.heap[g]? =some (.cells cur e0 fz)) (x:Value) (news:List Value) (hxl: ∀w',(Builtin.lenOf x).run P w'= .ok m w')
  (hxf:(Builtin.firstCells i.size m x).run P w= .ok news.toArray w) (h1: ∀u∈news,u.oneCell'=true) (hroom:sLen+m≤sCap) (hfit:off+sLen*i.size+news.length≤cur.size) :
  (Builtin.append_ #[t,tx] ty #[.slice (some ⟨g,off,none⟩) sLen sCap,x]).run P w=
   .ok (.slice (some ⟨g,off,none⟩) (sLen+m) sCap) (w.setRow g (cur.toList.take (off+sLen*i.size) ++news++cur.toList.drop (off+sLen*i.size+news.length)).toArray):=by
 have hst:=run_storeCells_ok (P:=P) g (off+sLen*i.size) e0 fz news 0 cur w hok hg (by simpa using hfit) h1
 simp only [Nat.add_zero] at hst
 have hdi:(match d with | .int _=>true | _=>false) =false:=by cases d<;>first | rfl | exact absurd rfl (hd _)
 simp [Builtin.append_,run_underlying ht,run_underlying htx,hdi,sizeOf,typeInfo,hi,hxl,hroom,hxf,Addr.add_lit,hst]
theorem run_append_none_x (w:World) (t tx ty e:TypeId) (i:TypeInfo) (d:TypeDesc) (ht:P.underlying t=some (.slice e)) (htx:P.underlying tx=some d) (hd: ∀k,d≠ .int k) (hi:P.info? e=some i)
  (ba:Option Addr) (x:Value) (hxl: ∀w',(Builtin.lenOf x).run P w'= .ok 0 w') (hxf:(Builtin.firstCells i.size 0 x).run P w= .ok #[] w) :
  (Builtin.append_ #[t,tx] ty #[.slice ba 0 0,x]).run P w= .ok (.slice ba 0 0) w:=by
 have hdi:(match d with | .int _=>true | _=>false) =false:=by cases d<;>first | rfl | exact absurd rfl (hd _)
 cases ba<;>simp [Builtin.append_,run_underlying ht,run_underlying htx,hdi,sizeOf,typeInfo,hi,hxl,hxf,storeCells]
theorem take_setRow (cur:List Value) (news:List Value) (n:Nat) (h:n+news.length≤cur.length) :(cur.take n++news++cur.drop (n+news.length)).take (n+news.length) =cur.take n++news:=by
 rw [List.take_left' (by simp;omega)]
theorem row_size (cur:Array Value) (news:List Value) (n:Nat) (h:n+news.length≤cur.size) :(cur.toList.take n++news++cur.toList.drop (n+news.length)).toArray.size=cur.size:=by
 simp only [List.size_toArray,List.length_append,List.length_take,List.length_drop,Array.length_toList];omega
theorem SR.growOwn {Γ:Froz} {ρ:Nat→Role} {bl:Nat→Nat} {st:St} {tmps:Array Value} {w:World} (h:SR Γ ρ bl st tmps w) {p:Place} {j g:Nat} (hg:ρ g= .own p j) (hh: ¬Holds st p j) {vs:List Value} (hvs: ∀o,Γ ⟨g,o,none⟩ =vs[o]?)
  (arr:Array Value) {cur:Array Value} {e:TypeId} {fz:Nat×Nat} (hheap:w.heap[g]? =some (.cells cur e fz)) (us:List Value) (_: ∀(n:Nat) u,us[n]? =some u→us[n]? =some u) (harr: ∀(n:Nat) u,us[n]? =some u→arr[n]? =some u) (q:Place) (k:Nat)
  (hle: ∀(n:Nat) u,vs[n]? =some u→us[n]? =some u) :SR (freezeRow Γ g us) (upd ρ g (.own q k)) bl st tmps (w.setRow g arr)∧Fr w Γ ρ (w.setRow g arr) (freezeRow Γ g us) (upd ρ g (.own q k)):=by
 have hleΓ:Le Γ (freezeRow Γ g us):=freezeRow_le hvs hle
 have hgl:=h.rho g (by rw [hg];simp)
 have hoth:=fun k' (hk:k'≠g)=>setRow_other w g k' arr hk
 refine ⟨h.keep hleΓ (fun a v ha=> ?_) (fun g' p' i' h1 h2=> ?_) (fun _ _=>rfl) (fun b g' hx=> ?_) (fun g' b z cap e'=> ?_) fun g' hg'=> ?_,⟨hleΓ,by simp,rfl,rfl,rfl,fun g' hg' hp=> ?_,fun a v ha=> ?_,fun g' b z cap e' _ _=>by rw [upd_ne _ _ (by rintro rfl;rw [hg] at e';cases e')];exact e'⟩⟩
 ·unfold freezeRow at ha
  split at ha
  ·rename_i hc
   simp only [World.cell?,hc.1,setRow_heap w g cur arr e fz hheap,hc.2]
   simpa using harr _ _ ha
  ·rename_i hc
   have h3:=h.agree a v ha
   have hsp:a.spot=none:=by
    unfold World.cell? at h3
    split at h3
    ·split at h3
     ·cases h3
     ·rename_i hh;simpa using hh
    ·cases h3
   rw [World.cell?_of_block (hoth a.block fun e'=>hc ⟨e',hsp⟩)];exact h3
 ·have hne:g'≠g:=by rintro rfl;rw [hg] at h1;cases h1;exact hh h2
  exact ⟨upd_ne _ _ hne,hoth g' hne,fun o=>freezeRow_ne _ _ _ hne⟩
 ·have hne:g'≠g:=by rintro rfl;exact hx.no hg
  exact ⟨upd_ne _ _ hne,hoth _ hne,fun o=>freezeRow_ne _ _ _ hne⟩
 ·by_cases e2:g'=g
  ·subst e2;rw [upd_same] at e';cases e'
  ·rw [upd_ne _ _ e2] at e';exact e'
 ·simp only [size_setRow]
  by_cases e':g'=g
  ·subst e';exact hgl
  ·rw [upd_ne _ _ e'] at hg';exact h.rho g' hg'
 ·have hne:g'≠g:=by rintro rfl;rw [hg] at hp;cases hp
  exact ⟨hoth g' hne,by rw [upd_ne _ _ hne];exact hp⟩
 ·unfold freezeRow at ha
  split at ha
  ·rename_i hc;exact .inr (.inr (by rw [hc.1,hg];simp))
  ·exact .inl ha
theorem append_own {Γ:Froz} {ρ:Nat→Role} {bl:Nat→Nat} {st:St} {tmps:Array Value} {w:World} (h:SR Γ ρ bl st tmps w) {p:Place} {j sz:Nat} {l:List D} {v:Value} (ho:Own Γ ρ w p j sz l v) (hh: ¬Holds st p j)
  (t tx ty e:TypeId) (i:TypeInfo) (z:Value) (d:TypeDesc) (ht:P.underlying t=some (.slice e)) (htx:P.underlying tx=some d) (hd: ∀k,d≠ .int k) (hi:P.info? e=some i) (hz:i.zero=some z)
  (hsz:i.size=sz) (hzs:z.cells.size=sz) (hsz0:0<sz) (m:List D) (x:Value) (news:List Value) (hnf:RepF Γ sz m news) (hxl: ∀w',(Builtin.lenOf x).run P w'= .ok m.length w')
  (hxf: ∀w',w'=w∨w'=w.drew→(Builtin.firstCells i.size m.length x).run P w'= .ok news.toArray w') (hbytes:(l.length+m.length) *i.bytes≤140737488355328) (hb0:0<i.bytes) (q:Place) (k:Nat) :
  ∃v' w' Γ' ρ',(Builtin.append_ #[t,tx] ty #[v,x]).run P w= .ok v' w'∧SR Γ' ρ' bl st tmps w'∧Fr w Γ ρ w' Γ' ρ'∧Own Γ' ρ' w' q k sz (l++m) v':=by
 have hlen47:l.length+m.length≤140737488355328:=Nat.le_trans (Nat.le_mul_of_pos_right _ hb0) hbytes
 have hml:(l.length+m.length:Nat)≤maxLen:=by simp only [maxLen];omega
 have hnl:news.length=m.length*sz:=hnf.vs_len
 have grown: ∀(ba:Option Addr) (sCap:Nat) (vs:List Value),v= .slice ba l.length sCap→RepF Γ sz l vs→(Builtin.firstCells i.size l.length (.slice ba l.length sCap)).run P w.drew= .ok vs.toArray w.drew→sCap<l.length+m.length→sCap≤140737488355328→
   ∃v' w' Γ' ρ',(Builtin.append_ #[t,tx] ty #[v,x]).run P w= .ok v' w'∧SR Γ' ρ' bl st tmps w'∧Fr w Γ ρ w' Γ' ρ'∧Own Γ' ρ' w' q k sz (l++m) v':=by
  intro ba sCap vs hv hvf hof hcap hcap2
  have hr:=run_append_grow_x (P:=P) w t tx ty e i z d ht htx hd hi hz ba l.length sCap m.length x vs news hxl (hxf _ (.inr rfl)) hof hcap (by omega) (growslice_fits (by omega) hbytes)
  have hsd:SR Γ ρ bl st tmps w.drew:=h.world (Nat.le_refl _) fun _ _=>rfl
  have hall:=RepF.append hvf hnf
  have hcell: ∀(n:Nat) u,(vs++news)[n]? =some u→(vs.toArray++news.toArray++Builtin.zeroCells z.cells (grownCap w (l.length+m.length) sCap e-(l.length+m.length)))[n]? =some u:=by
   intro n u hn
   rw [Array.getElem?_append_left (by simp;have:=(List.getElem?_eq_some_iff.1 hn).1;simpa using this)]
   simpa using hn
  obtain ⟨g1,g2⟩:=hsd.newOwn (vs.toArray++news.toArray++Builtin.zeroCells z.cells (grownCap w (l.length+m.length) sCap e-(l.length+m.length))) e (vs++news) hcell (.own q k)
  refine ⟨_,_,_,_,by rw [hv];exact hr,g1,⟨g2.le,g2.size,g2.os,g2.tape,g2.output,g2.block,g2.new,g2.row⟩, .inl ⟨e,vs++news, ?_,hall.mono g2.le,fun g hg=> ?_⟩⟩
  ·have hge:=grownCap_ge w (l.length+m.length) sCap e
   refine ⟨by rw [hall.vs_len], .inr ⟨w.heap.size,_,_,by rw [List.length_append],⟨(0,0), .inl rfl,heap_alloc_new w.drew _⟩,by rw [List.length_append];exact hge,grownCap_le_maxLen w _ sCap e hml, ?_, ?_⟩⟩
   ·simp only [Array.size_append,List.size_toArray,size_zeroCells,hzs,hvf.vs_len,hnl,←Nat.add_mul]
    congr 1;omega
   ·simp only [Array.toList_append,List.append_assoc]
    rw [←List.append_assoc,List.length_append,Nat.add_mul,←hvf.vs_len,←hnl,←List.length_append]
    exact List.take_left
  ·have:w.heap.size=g:=by simpa [Value.ownBlock] using hg
   subst this
   exact ⟨upd_same _ _ _,fun o=>freezeRow_at _ _ _ _⟩
 rcases ho with ⟨e',vs,hown,hf,hg⟩ | ⟨rfl,a,rfl,ha⟩
 ·rcases hown.2 with ⟨rfl,h0⟩ | ⟨g,cap,cur,rfl,⟨fz,hok,hheap⟩,hnc,hcm,hcs,htk⟩
  ·obtain rfl:l= []:=List.eq_nil_of_length_eq_zero h0
   have hvs:vs= []:=List.eq_nil_of_length_eq_zero (by rw [hf.vs_len];simp)
   subst hvs
   by_cases hm:m.length=0
   ·obtain rfl:m= []:=List.eq_nil_of_length_eq_zero hm
    have hne:news= []:=List.eq_nil_of_length_eq_zero (by rw [hnl];simp)
    subst hne
    exact ⟨_,_,Γ,ρ,run_append_none_x (P:=P) w t tx ty e i d ht htx hd hi none x hxl (hxf _ (.inl rfl)),h, .refl _ _ _, .inl ⟨e,[],rowS_nil w e sz,⟨by simp,by simp [flatten],rfl,by simp [flatten]⟩,by simp [Value.ownBlock]⟩⟩
   ·exact grown none 0 [] rfl hf (by simp [Builtin.firstCells]) (by simp;omega) (by omega)
  ·
   by_cases hroom:l.length+m.length≤cap
   ·have hgf:=hg g rfl
    have hfit:l.length*i.size+news.length≤cur.size:=by rw [hsz,hnl,hcs,←Nat.add_mul];exact Nat.mul_le_mul_right _ hroom
    have hr:=run_append_room_x (P:=P) w t tx ty e i d ht htx hd hi g l.length cap m.length cur e' fz hok hheap x news hxl (hxf _ (.inl rfl)) hnf.one hroom hfit
    rw [hsz] at hr hfit
    have hall:=RepF.append hf hnf
    have htk2:(cur.toList.take (l.length*sz) ++news++cur.toList.drop (l.length*sz+news.length)).take ((l.length+m.length) *sz) =vs++news:=by
     rw [Nat.add_mul,←hnl,take_setRow _ _ _ (by simpa using hfit),htk]
    obtain ⟨g1,g2⟩:=h.growOwn hgf.1 hh hgf.2 (cur.toList.take (l.length*sz) ++news++cur.toList.drop (l.length*sz+news.length)).toArray hheap (vs++news) (fun n u hn=>by simpa using hn) (fun n u hn=>by
     rw [←htk2] at hn
     rw [List.getElem?_take] at hn
     split at hn
     ·simpa using hn
     ·cases hn) q k (fun n u hn=>by rw [List.getElem?_append_left (List.getElem?_eq_some_iff.1 hn).1];exact hn)
    refine ⟨_,_,_,_,hr,g1,g2, .inl ⟨e',vs++news,⟨by rw [hall.vs_len], .inr ⟨g,cap,_,by rw [List.length_append],⟨fz,(row_size cur news (l.length*sz) (by simpa using hfit)).symm▸hok,setRow_heap w g cur _ e' _ hheap⟩,by rw [List.length_append];exact hroom,hcm, ?_, ?_⟩⟩,hall.mono g2.le,fun g' hg'=> ?_⟩⟩
    ·simp only [List.size_toArray,List.length_append,List.length_take,List.length_drop,Array.length_toList]
     omega
    ·rw [List.length_append];exact htk2
    ·have:g=g':=by simpa [Value.ownBlock] using hg'
     subst this
     exact ⟨upd_same _ _ _,fun o=>freezeRow_at _ _ _ _⟩
   ·have hgf:=hg g rfl
    refine grown (some ⟨g,0,none⟩) cap vs rfl hf ?_ (by omega) (by omega)
    have:=run_firstCells_some (P:=P) w.drew i.size l.length ⟨g,0,none⟩ l.length cap vs (by rw [hsz];exact hf.vs_len) (fun n u hn=>by
     rw [Addr.add_lit',Nat.zero_add]
     exact h.agree _ _ (by rw [hgf.2,hn]))
    exact this
 ·by_cases hm:m.length=0
  ·obtain rfl:m= []:=List.eq_nil_of_length_eq_zero hm
   have hne:news= []:=List.eq_nil_of_length_eq_zero (by rw [hnl];simp)
   subst hne
   exact ⟨_,_,Γ,ρ,run_append_none_x (P:=P) w t tx ty e i d ht htx hd hi (some a) x hxl (hxf _ (.inl rfl)),h, .refl _ _ _, .inr ⟨rfl,a,rfl⟩⟩
  ·exact grown (some a) 0 [] rfl ⟨by simp,by simp [flatten],rfl,by simp [flatten]⟩ (by simp [Builtin.firstCells,loadCells,loadCellsFrom]) (by simp;omega) (by omega)
theorem slice_vals {Γ:Froz} {z:Nat} {l:List D} {v:Value} (h:Rep Γ (.slice z l) v) : ∃ao c vs,v= .slice ao l.length c∧RepF Γ z l vs∧(ao=none→vs= [])∧∀a,ao=some a→(vs≠[]→a.spot=none)∧∀(i:Nat) u,vs[i]? =some u→Γ (a.add i) =some u:=by
 cases h with
 | nil=>exact ⟨none,0,[],rfl,⟨by simp,by simp [flatten],rfl,by simp [flatten]⟩,fun _=>rfl,by simp⟩
 | nil0 _ a=>exact ⟨some a,0,[],rfl,⟨by simp,by simp [flatten],rfl,by simp [flatten]⟩,fun _=>rfl,fun a' _=>⟨fun h=>absurd rfl h,by simp⟩⟩
 | slice _ _ a c vals hs hc hz hf hv hr=>
  refine ⟨some a,c,(List.range (flatten l).length).map vals,rfl,⟨hz,hf,by simp,fun i d u hd hu=> ?_⟩,by simp,fun a' ha'=> ?_⟩
  ·have hi:=(List.getElem?_eq_some_iff.1 hd).1
   simp [hi] at hu;subst hu
   exact hr i d hd
  ·cases ha'
   refine ⟨fun _=>hs,fun i u hu=> ?_⟩
   have hi:i<(flatten l).length:=by have:=(List.getElem?_eq_some_iff.1 hu).1;simpa using this
   simp [hi] at hu;subst hu
   exact hv i _ (List.getElem?_eq_getElem hi)
theorem RepF.retype {Γ:Froz} {z sz:Nat} {l:List D} {vs:List Value} (h:RepF Γ z l vs) (hu: ∀x∈l,x.cells.length=sz) :RepF Γ sz l vs:=⟨hu,h.flat,h.len,h.rep⟩
theorem byte_vals (Γ:Froz) (s:Bytes) :RepF Γ 1 (s.map byteD) (Lib.strCells ⟨s.toArray⟩):=by
 have hfl:flatten (s.map byteD) =s.map byteD:=by
  simp only [flatten]
  induction s with
  | nil=>rfl
  | cons b r ih=>simp only [List.map_cons,List.flatMap_cons];rw [ih];rfl
 have hl:(Lib.strCells ⟨s.toArray⟩).length=s.length:=by rw [Lib.strCells_length,size_mk]
 refine ⟨fun x hx=> ?_,fun d hd=> ?_,by rw [hfl,hl];simp,fun i d u hd hu=> ?_⟩
 ·rw [List.mem_map] at hx;obtain ⟨b,_,rfl⟩:=hx;rfl
 ·rw [hfl,List.mem_map] at hd;obtain ⟨b,_,rfl⟩:=hd;rfl
 ·rw [hfl,List.getElem?_map,Option.map_eq_some_iff] at hd
  obtain ⟨b,hb,rfl⟩:=hd
  simp only [Lib.strCells] at hu
  simp [hb] at hu;subst hu
  exact .int _ _
theorem more_spec {Γ:Froz} {ρ:Nat→Role} {bl:Nat→Nat} {w:World} {p:Place} {u:CV} {x:Value} {m:List D} {sz size:Nat} (h:RepC Γ ρ bl w p u x) (hm:u.more=some m) (hu: ∀y∈m,y.cells.length=sz) (hsz:size=sz) :
  ∃news,RepF Γ sz m news∧(∀w',(Builtin.lenOf x).run P w'= .ok m.length w')∧∀w',(∀a v,Γ a=some v→w'.cell? a=some v)→(Builtin.firstCells size m.length x).run P w'= .ok news.toArray w':=by
 subst hsz
 have slc: ∀z l,Rep Γ (.slice z l) x→m=l→∃news,RepF Γ size m news∧(∀w',(Builtin.lenOf x).run P w'= .ok m.length w')∧∀w',(∀a v,Γ a=some v→w'.cell? a=some v)→(Builtin.firstCells size m.length x).run P w'= .ok news.toArray w':=by
  rintro z l hr rfl
  obtain ⟨ao,c,vs,rfl,hf,hn,ha⟩:=slice_vals hr
  have hf':=hf.retype hu
  refine ⟨vs,hf',fun w'=>by simp [Builtin.lenOf],fun w' hag=> ?_⟩
  cases ao with
  | none=>rw [hn rfl];simp [Builtin.firstCells]
  | some a=>
   obtain ⟨hs,hc⟩:=ha a rfl
   exact run_firstCells_some (P:=P) w' size m.length a m.length c vs hf'.vs_len fun j v hv=>hag _ _ (hc j v hv)
 cases u with
 | d y=>
  cases y with
  | str s=>
   simp only [CV.more,Option.some.injEq] at hm;subst hm
   have e:=rep_str h
   subst e
   have hb:=(byte_vals Γ s).retype hu
   refine ⟨_,hb,fun w'=>by simp [Builtin.lenOf,size_mk],fun w' _=> ?_⟩
   have:=Lib.run_firstCells_string (P:=P) w' size ⟨s.toArray⟩
   rw [size_mk] at this
   rw [List.length_map];exact this
  | slice z l=>
   simp only [CV.more,CV.sl,Option.some.injEq] at hm
   exact slc z l h hm.symm
  | nils z=>
   simp only [CV.more,CV.sl,Option.some.injEq] at hm
   exact slc 0 [] (by have h:Rep Γ (.nils z) x:=h;cases h;exact .nil 0) hm.symm
  | _=>simp [CV.more,CV.sl] at hm
 | own z l=>
  simp only [CV.more,CV.sl,Option.some.injEq] at hm
  exact slc z l (Own.rep h) hm.symm
 | nils=>
  simp only [CV.more,CV.sl,Option.some.injEq] at hm
  have e:x= .slice none 0 0:=h
  exact slc 0 [] (by rw [e];exact .nil 0) hm.symm
 | _=>simp [CV.more,CV.sl] at hm
theorem okz_cells {Γ:Froz} {ρ:Nat→Role} {bl:Nat→Nat} {w:World} {p:Place} {u:CV} {x:Value} {m:List D} {sz:Nat} (h:RepC Γ ρ bl w p u x) (hm:u.more=some m) (hz:u.okz sz=true) : ∀y∈m,y.cells.length=sz:=by
 have slc: ∀z l,Rep Γ (.slice z l) x→z=sz→∀y∈l,y.cells.length=sz:=by
  rintro z l hr rfl
  cases hr with
  | nil=>simp
  | nil0=>simp
  | slice _ _ _ _ _ _ _ hz=>exact hz
 cases u with
 | d y=>
  cases y with
  | str s=>
   simp only [CV.more,Option.some.injEq] at hm;subst hm
   simp only [CV.okz,beq_iff_eq] at hz;subst hz
   intro y hy
   obtain ⟨b,_,rfl⟩:=List.mem_map.1 hy
   rfl
  | slice z l=>
   simp only [CV.more,CV.sl,Option.some.injEq] at hm;subst hm
   exact slc z l h (by simpa [CV.okz] using hz)
  | nils z=>simp only [CV.more,CV.sl,Option.some.injEq] at hm;subst hm;simp
  | _=>simp [CV.more,CV.sl] at hm
 | own z l=>
  simp only [CV.more,CV.sl,Option.some.injEq] at hm;subst hm
  exact slc z l (Own.rep h) (by simpa [CV.okz] using hz)
 | nils=>simp only [CV.more,CV.sl,Option.some.injEq] at hm;subst hm;simp
 | _=>simp [CV.more,CV.sl] at hm
theorem g_append {s x:Operand} {as ax:AX} {t tx e:TypeId} {i:TypeInfo} {z:Value} {d:TypeDesc} {sz bytes:Nat} (ho:o.op= .call {callee:= .builtin .append,args:= #[s,x],argTypes:= #[t,tx]}) (hs:trX s=some as) (hx:trX x=some ax)
  (ht:P.underlying t=some (.slice e)) (htx:P.underlying tx=some d) (hd': ∀k,d≠ .int k) (hi:P.info? e=some i) (hz:i.zero=some z) (hsz:i.size=sz) (hzs:z.cells.size=sz) (hsz0:0<sz) (hby:i.bytes=bytes) (hb0:0<bytes) :
  Good P o ((AI.append sz bytes as ax).pm C okr okw o.dst):=by
 intro Γ ρ bl st a w h hgz hd K hw Q
 subst hby
 simp only [AI.pm] at hw
 rw [ev_wp,ev_wp] at hw
 have es:=rep_ax hs h
 have ex:=rep_ax hx h
 split at hw
 ·rename_i zz l m hv hm
  obtain ⟨⟨rfl,hbytes,hu⟩,hw⟩:=hw
  have hu:=okz_cells ex hm hu
  obtain ⟨news,hnf,hxl,hxf⟩:=more_spec (P:=P) ex hm hu hsz
  have fin: ∀(Γ:Froz) (ρ1:Nat→Role) (st1:St) (p:Place) (j:Nat),SR Γ ρ1 bl st1 a.tmps w→RepF Γ zz m news→(∀w',(∀a v,Γ a=some v→w'.cell? a=some v)→(Builtin.firstCells i.size m.length (a.eval x)).run P w'= .ok news.toArray w')→
    Own Γ ρ1 w p j zz l (a.eval s)→¬Holds st1 p j→(setD o.dst (.own zz (l++m))).wp K st1→
    o.wp P a w (fun a' w'=>a'.defers= []∧∃Γ' ρ' bl' st',K st'∧SR Γ' ρ' bl' st' a'.tmps w'∧Fr w Γ ρ1 w' Γ' ρ'∧∀b,Prot st1 b→bl' b=bl b) Q:=by
   intro Γ ρ1 st1 p j h1 hnf hxf how hh hw
   obtain ⟨v',w',Γ',ρ',hr,g1,g2,g3⟩:=append_own h1 how hh t tx o.type e i z d ht htx hd' hi hz hsz hzs hsz0 m (a.eval x) news hnf hxl (fun w' hw'=>hxf w' (by rcases hw' with rfl | rfl;exact h1.agree;exact h1.agree)) hbytes hb0 (.s (o.dst.getD 0)) 0
   unfold Oper.wp
   have hrun:(execOp a.eval o).run P w= .ok (.value v') w':=by
    simp only [execOp,ho,resolve,invoke,builtin,Sem.run_bind,Sem.run_pure,Result.andThen_ok,List.map_toArray,List.map_cons,List.map_nil,hr]
   rw [hrun,Oper.upon_value]
   obtain ⟨st'',hK,hs'⟩:=setD_sound g1 (dst:=o.dst) (c:= .own zz (l++m)) (v:=v') (fun d' e'=>by rw [e'] at g3;exact g3) (fun b hb=>hb.elim) hw
   exact ⟨by rw [put_defers];exact hd,Γ',ρ',bl,st'',hK,by rw [put_tmps];exact hs',g2,fun _ _=>rfl⟩
  have nilOwn: ∀(ρ1:Nat→Role),a.eval s= .slice none 0 0→Own Γ ρ1 w (.s st.s.length) 0 zz [] (a.eval s):=by
   intro ρ1 hv
   rw [hv]
   exact .inl ⟨0,[],rowS_nil w 0 _,⟨by simp,by simp [flatten],rfl,by simp [flatten]⟩,by simp [Value.ownBlock]⟩
  have noHold: ∀st1:St,st1.s.length=st.s.length→¬Holds st1 (.s st.s.length) 0:=by
   intro st1 hl hH
   unfold Holds at hH
   have:st1.get (.s st.s.length) = .junk:=by simp only [St.get,List.getD_eq_getElem?_getD];rw [List.getElem?_eq_none (by omega)];rfl
   rw [this] at hH;simp [CV.comp,CV.held] at hH
  cases as with
  | c c=>
   simp only [AX.val] at hv es
   have hc:c= .nils∧l= []:=by
    cases s with
    | const u=>
     simp only [trX,Option.map_eq_some_iff] at hs
     obtain ⟨c',hc',e'⟩:=hs
     injection e' with e';subst e'
     have:=(cvOf_plain hc').1
     cases c' with
     | d x=>
      cases x with
      | nils q=>exfalso;unfold cvOf at hc';split at hc'<;>simp_all
      | _=>simp_all [CV.coer,CV.coerA,CV.noOwn]
     | _=>simp_all [CV.coer,CV.coerA,CV.noOwn]
    | func f=>simp only [trX,Option.some.injEq,AX.c.injEq] at hs;subst hs;simp [CV.coer,CV.coerA] at hv
    | tmp n=>simp [trX] at hs
    | global g=>simp [trX] at hs
   obtain ⟨rfl,rfl⟩:=hc
   exact fin Γ ρ st _ _ h hnf hxf (nilOwn ρ es) (noHold st rfl) hw
  | t n=>
   simp only [AX.val] at hv es hw
   cases hc:st.get (.s n) with
   | own z' l'=>
    rw [hc] at hv
    simp only [CV.coer,CV.coerA,CV.own.injEq] at hv
    obtain ⟨rfl,rfl⟩:=hv
    rw [hc] at hw
    obtain ⟨hok,hk⟩:=hw
    have hn:n<st.s.length:=by simpa [Place.ok] using hok
    have es':=es
    simp only [hc] at es'
    have hs1:=h.viewSlot n (.d (.slice z' l')) (fun v hv'=>by
     obtain ⟨u,hu',hru⟩:=h.slots n _ (List.getElem?_eq_getElem hn)
     rw [hv'] at hu';cases hu'
     have e1:st.get (.s n) =st.s[n]:=St.get_slot (List.getElem?_eq_getElem hn)
     rw [←e1,hc] at hru
     exact Own.rep hru) (fun b hb=>hb.elim)
    exact fin Γ ρ (st.set (.s n) (.d (.slice z' l'))) (.s n) 0 hs1 hnf hxf es' (holds_setSlot (c:= .d (.slice z' l')) hn rfl rfl) hk
   | nils=>
    rw [hc] at hv
    simp only [CV.coer,CV.coerA,CV.own.injEq,true_and] at hv
    subst hv
    rw [hc] at hw
    obtain ⟨hok,hk⟩:=hw
    have hn:n<st.s.length:=by simpa [Place.ok] using hok
    have es':=es
    simp only [hc] at es'
    have hs1:=h.viewSlot n .nils (fun v hv'=>by
     obtain ⟨u,hu',hru⟩:=h.slots n _ (List.getElem?_eq_getElem hn)
     rw [hv'] at hu';cases hu'
     have e1:st.get (.s n) =st.s[n]:=St.get_slot (List.getElem?_eq_getElem hn)
     rw [←e1,hc] at hru
     exact hru) (fun b hb=>hb.elim)
    exact fin Γ ρ (st.set (.s n) .nils) _ _ hs1 hnf hxf (nilOwn ρ es') (noHold _ (by simp [St.set])) hk
   | d x=>
    cases x with
    | nils q=>
     rw [hc] at hv
     simp only [CV.coerA,CV.own.injEq] at hv
     obtain ⟨rfl,rfl⟩:=hv
     rw [hc] at hw
     obtain ⟨hok,hk⟩:=hw
     have hn:n<st.s.length:=by simpa [Place.ok] using hok
     have es':=es
     simp only [hc] at es'
     have hs1:=h.viewSlot n (.d (.nils q)) (fun v hv'=>by
      obtain ⟨u,hu',hru⟩:=h.slots n _ (List.getElem?_eq_getElem hn)
      rw [hv'] at hu';cases hu'
      have e1:st.get (.s n) =st.s[n]:=St.get_slot (List.getElem?_eq_getElem hn)
      rw [←e1,hc] at hru
      exact hru) (fun b hb=>hb.elim)
     have es':a.eval s= .slice none 0 0:=by
      have e1:Rep Γ (.nils q) (a.eval s):=es'
      generalize a.eval s=u at e1
      cases e1;rfl
     exact fin Γ ρ (st.set (.s n) (.d (.nils q))) _ _ hs1 hnf hxf (nilOwn ρ es') (noHold _ (by simp [St.set])) hk
    | _=>rw [hc] at hv;simp [CV.coer,CV.coerA] at hv
   | _=>rw [hc] at hv;simp [CV.coer,CV.coerA] at hv
 ·exact hw.elim
end B
end Go.Proofs.YtmkkljbfmdngfaaGreatDoor
