/- slices.Delete of one element, whatever cells an element has. Condition: the element's type has so many cells, and its zero value. -/
import Derived.Shelf.SlLaysE0
import Derived.Shelf.SlicesE.Kit
import Derived.Shelf.RegionOpenPlain
import Derived.WalkKit
import Derived.Deep.LoopGhost
import Derived.Deep.RegionLaw
import Derived.Lib.Walk
import Derived.Sort.WalkB12
import Derived.Lib.SliceRun
import Derived.Lib.SlicesDelete
import Derived.Shelf.SlicesE.Clone
set_option linter.all false
namespace Go.Proofs.YtmkkljbfmdngfaaGreatDoor
namespace SD
open Go.Shelf Go.RowKit Go.Lib Go.Sort Go.Proofs
variable {P:Program} {ρ:Ren}
theorem delete_cells (d:Array Value) (a b:Nat) (zs:List Value) (hab:a≤b) (hb:b≤d.size) (hz:zs.length=b-a) :
  lay (lay d a (d.toList.drop b)) (a+(d.size-b)) zs=(d.toList.take a++d.toList.drop b++zs).toArray:=by
 apply Array.ext_getElem?
 intro t
 have l1:(d.toList.take a).length=a:=by simp;omega
 have l2:(d.toList.drop b).length=d.size-b:=by simp
 rw [lay_get? _ _ _ _ (by rw [lay_size];omega),lay_get? _ _ _ _ (by rw [l2];omega),show (d.toList.take a++d.toList.drop b++zs).toArray[t]? =(d.toList.take a++d.toList.drop b++zs)[t]? from List.getElem?_toArray]
 simp only [l2]
 by_cases c1:t<a
 ·rw [if_neg (by omega),if_neg (by omega),List.getElem?_append_left (by simp;omega),List.getElem?_append_left (by omega),List.getElem?_take,if_pos c1,Array.getElem?_toList]
 ·by_cases c2:t<a+(d.size-b)
  ·rw [if_neg (by omega),if_pos (by omega),List.getElem?_append_left (by simp;omega),List.getElem?_append_right (by omega),l1]
  ·rw [List.getElem?_append_right (by simp;omega)]
   simp only [List.length_append,l1,l2]
   by_cases c3:t<d.size
   ·rw [if_pos (by omega)]
   ·rw [if_neg (by omega),if_neg (by omega),Array.getElem?_eq_none (by omega),List.getElem?_eq_none (by omega)]
theorem zeroCells_len (z:Array Value) (n:Nat) :(Builtin.zeroCells z n).toList.length=n*z.size:=by simp [Builtin.zeroCells]
theorem zeroCells_one (z:Array Value) (n:Nat) (h: ∀u∈z,u.oneCell'=true) : ∀u∈(Builtin.zeroCells z n).toList,u.oneCell'=true:=by
 intro u hu
 simp only [Builtin.zeroCells,Array.toList_map,List.mem_map] at hu
 obtain ⟨i,hi,rfl⟩:=hu
 have hi:i<n*z.size:=by simpa using hi
 have hp:0<z.size:=by
  rcases Nat.eq_zero_or_pos z.size with h0 | h0
  ·rw [h0] at hi;omega
  ·exact h0
 have hm:=Nat.mod_lt i hp
 rw [getElem!_pos z (i % z.size) hm]
 exact h _ (Array.getElem_mem hm)
theorem run_clear (w:World) (t e ty:TypeId) (z:Value) (ht:P.underlying t=some (.slice e)) (hv: ∀w,(zeroValue e).run P w= .ok z w) (h1: ∀u∈z.cells,u.oneCell'=true) (b o n c:Nat) (hn:0<n)
  (hc: ∀j,j<n*z.cells.size→(w.cell? ⟨b,o+j,none⟩).isSome=true) (hf: ∀j,j<n*z.cells.size→w.frozen? ⟨b,o+j,none⟩ =false) :
  (Builtin.clear_ #[t] ty #[.slice (some ⟨b,o,none⟩) n c]).run P w= .ok (.tuple #[]) (w.setCells b o (Builtin.zeroCells z.cells n).toList):=by
 have hst:=run_storeCells_cells (P:=P) b o (Builtin.zeroCells z.cells n).toList 0 w (by rw [zeroCells_len];simpa using hc) (by rw [zeroCells_len];simpa using hf) (zeroCells_one _ _ h1)
 simp only [Nat.add_zero] at hst
 obtain ⟨m,rfl⟩ : ∃m,n=m+1:=⟨n- 1,by omega⟩
 simp [Builtin.clear_,run_underlying ht,hv,hst]
set_option maxHeartbeats 4000000 in
set_option maxRecDepth 1000000 in
theorem slices_Delete (L:SlLaysE0.n45 P ρ) (sz:Nat) (hsz:0<sz) (zc:Array Value) (z23: ∀w,(Go.sizeOf (ρ.t 23)).run P w= .ok sz w) (v23: ∀w,(zeroValue (ρ.t 23)).run P w= .ok (.agg zc) w) (hzs:(Value.agg zc).cells.size=sz) (hz1: ∀u∈(Value.agg zc).cells,u.oneCell'=true)
  (i0:TypeInfo) (hi0:P.info? (ρ.t 23) =some i0) (hi1:i0.size=sz) (blk cap n i:Nat) (d:Array Value) (w:World) (hH:Holds id w blk 0 d) (hd:d.size=n*sz) (h1: ∀u∈d,u.oneCell'=true) (hcap:n≤cap) (hm:cap≤9223372036854775807) (j:Nat) (hji:Hid (j=i+1)) (hij:i<j) (hj:j≤n) :
  Calls P (ρ.f 45) #[.slice (some ⟨blk,0,none⟩) n cap, .int .i64 i, .int .i64 j] w fun e w'=>e= .returned (.slice (some ⟨blk,0,none⟩) (n- 1) cap)∧∃q,w'=putRow id (Sort.ahead w q) blk 0 (d.toList.take (i*sz) ++d.toList.drop (j*sz) ++(Builtin.zeroCells (Value.agg zc).cells 1).toList).toArray:=by
 have mixed:=L.mixed;have t0:=L.t0;have a0:=L.a0;have z0:=L.z0;have v0:=L.v0;have t3:=L.t3;have a3:=L.a3;have z3:=L.z3;have v3:=L.v3;have t4:=L.t4;have a4:=L.a4;have z4:=L.z4;have v4:=L.v4;have t22:=L.t22;have a22:=L.a22;have z22:=L.z22;have v22:=L.v22
 have hji':j=i+1:=hji.out
 have hmul:j*sz≤n*sz:=Nat.mul_le_mul_right _ hj
 have hmul2:j*sz=i*sz+sz:=by rw [hji.out];exact Nat.succ_mul _ _
 have hn1:(n- 1) *sz=n*sz-sz:=by rw [Nat.sub_mul,Nat.one_mul]
 have hn2:sz≤n*sz:=Nat.le_mul_of_pos_left _ (by omega)
 have hadd:(i+(n-j)) *sz=n*sz-sz:=by rw [show i+(n-j) =n- 1 by omega,hn1]
 have hsub:(n-j) *sz=n*sz-j*sz:=Nat.sub_mul _ _ _
 obtain ⟨news,hnews⟩ : ∃news,news=d.toList.drop (j*sz):=⟨_,rfl⟩
 have hlen:news.length=n*sz-j*sz:=by rw [hnews];simp [hd]
 have hget: ∀t,t<n*sz-j*sz→news[t]? =d[j*sz+t]? :=by
  intro t ht
  rw [hnews,List.getElem?_drop,Array.getElem?_toList]
 obtain ⟨A,hA,hsrc⟩ : ∃A:Addr,(if cap=j then some (⟨blk,0,none⟩ :Addr) else some ⟨blk,j*sz,none⟩) =some A∧Hid (∀t u,news[t]? =some u→w.drew.cell? (A.add t) =some u):=by
  by_cases h:cap=j
  ·refine ⟨⟨blk,0,none⟩,by simp [h],fun t u hu=> ?_⟩
   have h0:news.length=0:=by rw [hlen,show n=j by omega];omega
   rw [List.length_eq_zero_iff.1 h0] at hu
   simp at hu
  ·refine ⟨⟨blk,j*sz,none⟩,by simp [h],fun t u hu=> ?_⟩
   have ht:t<n*sz-j*sz:=by
    have:=(List.getElem?_eq_some_iff.1 hu).1
    rwa [hlen] at this
   rw [hget t ht,Array.getElem?_eq_getElem (by omega)] at hu
   cases hu
   rw [Addr.add_lit]
   have:=(hH (j*sz+t) (by omega)).1
   rw [getElem!_pos d _ (by omega),Nat.zero_add] at this
   exact this
 have s1':news.length=(n-j) *sz:=by rw [hlen,hsub]
 have s1:Hid (news.length=(n-j) *sz):=s1'
 have s2:Hid (∀u∈news,u.oneCell'=true):=by
  intro u hu
  rw [hnews] at hu
  exact h1 u (by simpa using List.mem_of_mem_drop hu)
 have s3:Hid (∀t,t<news.length→(w.drew.cell? ⟨blk,0+i*sz+t,none⟩).isSome=true∧w.drew.frozen? ⟨blk,0+i*sz+t,none⟩ =false):=by
  intro t ht
  rw [hlen] at ht
  rw [Nat.add_assoc]
  exact ⟨by show (w.cell? _).isSome=true;rw [(hH (i*sz+t) (by omega)).1];rfl,(hH (i*sz+t) (by omega)).2⟩
 obtain ⟨W1,hW1⟩ : ∃W1,W1=w.drew.setCells blk (0+i*sz) news:=⟨_,rfl⟩
 have hW1':W1=putRow id (Sort.ahead w 1) blk 0 (lay d (i*sz) (d.toList.drop (j*sz))):=by
  rw [hW1,hnews,←putRow_setCells id (Sort.ahead w 1) blk 0 _ d (i*sz) (by simp;omega),putRow_self id (Sort.ahead w 1) blk 0 d (holds_ahead id w 1 blk 0 d hH),List.map_id]
  rfl
 have hH1:Holds id W1 blk 0 (lay d (i*sz) (d.toList.drop (j*sz))):=by rw [hW1'];exact holds_putRow id _ blk 0 d _ (holds_ahead id w 1 blk 0 d hH) (lay_size _ _ _)
 have hcl: ∀ty,(Builtin.clear_ #[ρ.t 22] ty #[.slice (some ⟨blk,(i+(n-j)) *sz,none⟩) (n-(i+(n-j))) (cap-(i+(n-j)))]).run P W1= .ok (.tuple #[]) (W1.setCells blk ((i+(n-j)) *sz) (Builtin.zeroCells (Value.agg zc).cells (n-(i+(n-j)))).toList):=
  fun ty=>run_clear W1 _ _ ty _ t22 v23 hz1 blk ((i+(n-j)) *sz) _ _ (by omega)
   (fun t ht=>by rw [hzs,show n-(i+(n-j)) =1 by omega,Nat.one_mul] at ht;rw [hadd,show (n*sz-sz) +t=0+(n*sz-sz+t) by omega,(hH1 _ (by rw [lay_size];omega)).1];rfl)
   (fun t ht=>by rw [hzs,show n-(i+(n-j)) =1 by omega,Nat.one_mul] at ht;rw [hadd,show (n*sz-sz) +t=0+(n*sz-sz+t) by omega];exact (hH1 _ (by rw [lay_size];omega)).2)
 have X:Aside (W1=putRow id (Sort.ahead w 1) blk 0 (lay d (i*sz) (d.toList.drop (j*sz)))):=hW1'
 have hW:Hid (W1=w.drew.setCells blk (0+i*sz) news):=hW1
 have Y:Aside (∀t:Nat,(i+(n-j)) *sz=n*sz-sz∧j*sz≤n*sz∧j*sz=i*sz+sz∧sz≤n*sz∧t=t):=fun t=>⟨hadd,hmul,hmul2,hn2,rfl⟩
 have hic:i≤cap:=by omega
 have hjc:j≤cap:=by omega
 clear hW1 hW1' hH1 hH hget hnews hlen hmul hmul2 hn1 hn2 hadd hsub s1' hji'
 obtain ⟨_,_,FG⟩:=L.f45
 go_enter FG,SlBodyN.n45_ntmps ρ
 go_wp2_with fail
 go_region_law_o (refine step_append_room rfl (.tmp 22) (.tmp 25) (ρ.t 22) rfl (ρ.t 23) i0 sz t22 hi0 hi1 blk 0 i cap (by simp [Act.eval,Act.put]) A (n-j) (cap-j) news (by simp [Act.eval,Act.put]) s1.out hsrc.out s2.out (by omega) s3.out ?_;rw [←hW.out])
 go_wp2
 go_ret
 have hji':=hji.out
 refine ⟨by rw [show n- 1=i+(n-j) by omega];rfl,1, ?_⟩
 obtain ⟨y1,y2,y3,y4,_⟩:=Y.out 0
 have hzl:=zeroCells_len (Value.agg zc).cells 1
 rw [hzs,Nat.one_mul] at hzl
 have key:=putRow_setCells id (Sort.ahead w 1) blk 0 (Builtin.zeroCells (Value.agg zc).cells 1).toList (lay d (i*sz) (d.toList.drop (j*sz))) (n*sz-sz) (by rw [lay_size,hzl];omega)
 rw [List.map_id,Nat.zero_add] at key
 rw [←delete_cells d (i*sz) (j*sz) _ (by omega) (by omega) (by rw [hzl];omega),show i*sz+(d.size-j*sz) =n*sz-sz by omega,←key,←X.out,show n-(i+(n-j)) =1 by omega,y1]
 rfl
set_option maxHeartbeats 2000000 in
set_option maxRecDepth 100000 in
theorem slices_CloneA (L:SlLaysE0.n41 P ρ) (i0:TypeInfo) (z:Value) (size bytes:Nat) (hi:P.info? (ρ.t 23) =some i0) (hz0:i0.zero=some z) (hz1:i0.size=size) (hz2:i0.bytes=bytes) (hzs:z.cells.size=size) (hsz:0<size)
  (z23: ∀w,(Go.sizeOf (ρ.t 23)).run P w= .ok size w) (ad:Addr) (n c:Nat) (news:List Value) (w:World) (hl:news.length=n*size) (hn:n≤maxLen) (hbig:n*bytes≤140737488355328)
  (hc: ∀j u,news[j]? =some u→w.cell? (ad.add j) =some u) (h1: ∀u∈news,u.oneCell'=true) :
  Calls P (ρ.f 41) #[.slice (some ad) n c] w fun e w'=>∃v',e= .returned v'∧w'.ownsRow w.heap.size (ρ.t 23) size v' n news∧v'≠ .slice none 0 0∧Below w.heap.size w w':=by
 have mixed:=L.mixed;have t4:=L.t4;have a4:=L.a4;have z4:=L.z4;have v4:=L.v4;have t22:=L.t22;have a22:=L.a22;have z22:=L.z22;have v22:=L.v22
 have q22: ∀(w:World) (a:Option Addr) (n c n' c':Nat),(binOp .eql (ρ.t 22) (.slice a n c) (.slice none n' c')).run P w= .ok (.bool a.isNone) w:=fun w a n c n' c'=>Lib.run_eql_slice_nil w _ _ a n c n' c' L.t22
 have u22: ∀w,Sem.run P (underlying (ρ.t 22)) w= .ok (TypeDesc.slice (ρ.t 23)) w:=run_underlying t22
 have A:Aside (∀j u,news[j]? =some u→w.cell? (ad.add j) =some u):=hc
 clear hc
 obtain ⟨_,_,FG⟩:=L.f41
 go_enter FG,SlBodyN.n41_ntmps ρ
 go_wp2_with (at_builtin;refine wpList_append_own _ rfl _ _ (ρ.t 22) rfl w.heap.size (ρ.t 23) i0 z size bytes t22 hi hz0 hz1 hz2 hzs hsz _ _ _ rfl (World.ownsRow_made w #[] 0 (Nat.le_refl _) (Nat.zero_le _) (by simp)) ad n c news rfl ?qc1 ?qc2 ?qc3 ?qc4 ?qc5 ?qc6 ?_)
 case qc1=>exact hl
 case qc2=>
  intro j u hj
  exact Lib.cell?_alloc_some _ (A.out j u hj)
 case qc3=>exact h1
 case qc4=>rw [Nat.zero_add];exact hn
 case qc5=>rw [Nat.zero_add];exact hbig
 case qc6=>simp
 intro v' w1 hown hgrow hnil
 go_wp2
 go_ret
 refine ⟨v',rfl,by simpa using hown, ?_, ?_⟩
 ·exact hnil
 ·exact ((Below.refl _ w).alloc (Nat.le_refl _) _).grown hgrow (by simp) (by intro k hk;simp [Value.ownBlock] at hk;omega)
end SD
end Go.Proofs.YtmkkljbfmdngfaaGreatDoor
