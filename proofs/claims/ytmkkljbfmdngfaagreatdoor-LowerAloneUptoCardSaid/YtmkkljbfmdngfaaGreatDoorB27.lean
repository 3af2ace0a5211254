/- From what a row hands over to data, and back: a law's statement out of its function's contract. No condition. -/
import Derived.Test.YtmkkljbfmdngfaaGreatDoorB26
import Derived.Deep.Slices
import Derived.ReadAgain
import Derived.ChangeStays
import Derived.ChangeSame
import Derived.RowKit
import Derived.OpenShut
import Derived.Below
import Derived.Conc.LoneCalls
set_option linter.all false
namespace Go.Proofs.YtmkkljbfmdngfaaGreatDoor
namespace B
open Go.RowKit Go.WideShapes Go.ChangeShapes
variable {P:Program} {H:Type} {enc:TypeId×Value→H} {w:World}
def mkEl (P:Program) (t:TypeId) (cs:List D) :D:=match P.underlying t with
 | some (.struct _)=> .agg cs
 | _=>cs.headD .nilp
def Ty (P:Program) :Nat→TypeId→List D→Prop
 | 0,_,_=>False
 | n+1,t,ds=>match P.underlying t with
  | some .bool=>∃b,ds= [.bool b]
  | some (.int k)=>∃x,ds= [.int k x]∧k.min≤x∧x≤k.max
  | some .string=>∃s:Bytes,ds= [.str s]∧s.length≤maxLen
  | some (.slice e)=>∃l,ds= [.slice (P.cellsOf e) l]∧l.length≤maxLen∧∀x∈l,Ty P n e x.cells∧x=mkEl P e x.cells
  | some (.struct fs)=>∃parts:List (List D),ds=parts.flatten∧parts.length=fs.toList.length∧∀(i:Nat) f p,fs.toList[i]? =some f→parts[i]? =some p→Ty P n f.type p
  | _=>False
def plainT (P:Program) :Nat→TypeId→Bool
 | 0,_=>false
 | n+1,t=>match P.underlying t with
  | some .bool=>true
  | some (.int _)=>true
  | some .string=>true
  | some (.slice e)=>decide (0<P.cellsOf e) &&plainT P n e
  | some (.struct fs)=>fs.toList.all fun f=>plainT P n f.type
  | _=>false
structure RepCs (Γ:Froz) (ds:List D) (cs:List Value) :Prop where
 len:ds.length=cs.length
 flat: ∀x∈ds,x.flat=true
 rep: ∀(i:Nat) x v,ds[i]? =some x→cs[i]? =some v→Rep Γ x v
theorem RepCs.one {Γ:Froz} {x:D} {v:Value} (hf:x.flat=true) (h:Rep Γ x v) :RepCs Γ [x] [v]:=
 ⟨rfl,by simpa using hf,fun i y u hy hu=>by cases i<;>simp_all⟩
theorem RepCs.nil (Γ:Froz) :RepCs Γ [] []:=⟨rfl,by simp,by simp⟩
theorem RepCs.append {Γ:Froz} {ds ds':List D} {cs cs':List Value} (h:RepCs Γ ds cs) (h':RepCs Γ ds' cs') :RepCs Γ (ds++ds') (cs++cs'):=by
 refine ⟨by simp [h.len,h'.len],fun x hx=> ?_,fun i x v hx hv=> ?_⟩
 ·rcases List.mem_append.1 hx with hx | hx;exact h.flat x hx;exact h'.flat x hx
 ·by_cases hi:i<ds.length
  ·rw [List.getElem?_append_left hi] at hx
   rw [List.getElem?_append_left (by rw [←h.len];exact hi)] at hv
   exact h.rep i x v hx hv
  ·rw [List.getElem?_append_right (by omega)] at hx
   rw [List.getElem?_append_right (by rw [←h.len];omega),←h.len] at hv
   exact h'.rep _ x v hx hv
def cellsF (w:World) :Froz:=fun a=>w.cell? a
theorem mapM_cons_some {α β:Type} {f:α→Option β} {x:α} {l:List α} {r:List β} (h:(x :: l).mapM f=some r) : ∃y ys,f x=some y∧l.mapM f=some ys∧r=y :: ys:=by
 rw [List.mapM_cons] at h
 cases hx:f x with
 | none=>simp [hx] at h
 | some y=>
  cases hl:l.mapM f with
  | none=>simp [hx,hl] at h
  | some ys=>simp [hx,hl] at h;exact ⟨y,ys,rfl,rfl,h.symm⟩
mutual
def D.bulk:D→Nat
 | .bool _=>1
 | .int _ _=>1
 | .str s=>s.length+1
 | .slice _ l=>bulkL l+1
 | .agg l=>bulkL l
 | .nilp=>1
 | .nils _=>1
 | .fn _=>1
def bulkL:List D→Nat
 | []=>0
 | x :: r=>x.bulk+bulkL r
end
mutual
def bulkW {H:Type}:DataW H→Nat
 | .lit (.string bytes)=>bytes.length+1
 | .lit _=>1
 | .nil=>1
 | .ptr d=>bulkW d+1
 | .slice elems spare=>bulkWL elems+bulkWL spare+1
 | .agg parts=>bulkWL parts+1
 | .iface _ d=>bulkW d+1
 | .map entries=>bulkWE entries+1
 | .held _=>1
def bulkWL {H:Type}:List (DataW H)→Nat
 | []=>0
 | d :: r=>bulkW d+bulkWL r
def bulkWE {H:Type}:List (Lit×DataW H)→Nat
 | []=>0
 | x :: r=>bulkW1 x+bulkWE r
def bulkW1 {H:Type}:Lit×DataW H→Nat
 | (.string bytes,d)=>bytes.length+bulkW d+1
 | (_,d)=>bulkW d+1
end
theorem bulkL_append: ∀l m:List D,bulkL (l++m) =bulkL l+bulkL m
 | [],m=>by simp [bulkL]
 | x :: r,m=>by simp only [List.cons_append,bulkL,bulkL_append r m];omega
theorem bulkL_map {α:Type} {H:Type} (g:α→D) (g':α→DataW H) : ∀l:List α,(∀x∈l,(g x).bulk≤bulkW (g' x))→bulkL (l.map g)≤bulkWL (l.map g')
 | [],_=>by simp [bulkL,bulkWL]
 | x :: r,h=>by
  have:=h x (by simp)
  have:=bulkL_map g g' r fun y hy=>h y (by simp [hy])
  simp only [List.map_cons,bulkL,bulkWL];omega
theorem fields_rep (P:Program) {g:Field→List Value→Option (DataW H×List MemPlace)} {T:Field→List D→Prop} {Γ:Froz}: ∀(fs:List Field) (o:Nat) (cs:List Value) (xs:List (DataW H×List MemPlace)),
  (∀f∈fs,∀cs x,g f cs=some x→∃ds,RepCs Γ ds cs∧T f ds∧bulkL ds≤bulkW x.1)→
  (∀(j:Nat) f,fs[j]? =some f→f.offset=o+((fs.take j).map fun f=>P.cellsOf f.type).sum)→cs.length=o+(fs.map fun f=>P.cellsOf f.type).sum→
  (fs.mapM fun f=>g f ((cs.drop f.offset).take (P.cellsOf f.type))) =some xs→
  ∃parts:List (List D),RepCs Γ parts.flatten (cs.drop o)∧parts.length=fs.length∧(∀(i:Nat) f p,fs[i]? =some f→parts[i]? =some p→T f p)∧bulkL parts.flatten≤bulkWL (xs.map (·.1))
 | [],o,cs,xs,_,_,hl,_=>by
  have:cs.drop o= []:=by apply List.drop_of_length_le;simp at hl;omega
  rw [this]
  exact ⟨[],RepCs.nil _,rfl,by simp,by simp [bulkL]⟩
 | f :: fs,o,cs,xs,hg,ho,hl,h=>by
  obtain ⟨y,ys,h1,h2,rfl⟩:=mapM_cons_some h
  obtain ⟨d,hd,hT,hb⟩:=hg f (by simp) _ _ h1
  have o0:=ho 0 f rfl
  simp only [List.take_zero,List.map_nil,List.sum_nil,Nat.add_zero] at o0
  rw [o0] at hd
  simp only [List.map_cons,List.sum_cons] at hl
  obtain ⟨parts,p1,p2,p3,p4⟩:=fields_rep P fs (o+P.cellsOf f.type) cs ys (fun f' hf'=>hg f' (by simp [hf'])) (fun j f' hj=>by
   have:=ho (j+1) f' hj
   simp only [List.take_succ_cons,List.map_cons,List.sum_cons] at this
   omega) (by omega) h2
  refine ⟨d :: parts, ?_,by simp [p2],fun i f' p hf hp=> ?_, ?_⟩
  ·have:cs.drop o=(cs.drop o).take (P.cellsOf f.type) ++cs.drop (o+P.cellsOf f.type):=by
    rw [←List.drop_drop,List.take_append_drop]
   rw [this,List.flatten_cons]
   exact hd.append p1
  ·cases i with
   | zero=>simp at hf hp;subst hf;subst hp;exact hT
   | succ i=>exact p3 i f' p (by simpa using hf) (by simpa using hp)
  ·simp only [List.flatten_cons,bulkL_append,List.map_cons,bulkWL];omega
theorem toList_ba (s:ByteArray) :s= ⟨(s.data.toList).toArray⟩:=by cases s;simp
theorem mkEl_cells {P:Program} {n:Nat} {e:TypeId} {ds:List D} (h:Ty P n e ds) (hf: ∀x∈ds,x.flat=true) :(mkEl P e ds).cells=ds:=by
 cases n with
 | zero=>exact h.elim
 | succ n=>
  unfold Ty at h
  unfold mkEl
  cases ht:P.underlying e with
  | none=>rw [ht] at h;exact h.elim
  | some u=>
   rw [ht] at h
   cases u with
   | bool=>obtain ⟨b,rfl⟩:=h;rfl
   | int k=>obtain ⟨x,rfl,_⟩:=h;rfl
   | string=>obtain ⟨s,rfl,_⟩:=h;rfl
   | slice e=>obtain ⟨l,rfl,_⟩:=h;rfl
   | struct fs=>rfl
   | _=>exact h.elim
theorem mkEl_bulk {P:Program} {n:Nat} {e:TypeId} {ds:List D} (h:Ty P n e ds) :(mkEl P e ds).bulk=bulkL ds:=by
 cases n with
 | zero=>exact h.elim
 | succ n=>
  unfold Ty at h
  unfold mkEl
  cases ht:P.underlying e with
  | none=>rw [ht] at h;exact h.elim
  | some u=>
   rw [ht] at h
   cases u with
   | bool=>obtain ⟨b,rfl⟩:=h;simp [bulkL,D.bulk]
   | int k=>obtain ⟨x,rfl,_⟩:=h;simp [bulkL,D.bulk]
   | string=>obtain ⟨s,rfl,_⟩:=h;simp [bulkL,D.bulk]
   | slice e=>obtain ⟨l,rfl,_⟩:=h;simp [bulkL,D.bulk]
   | struct fs=>simp [D.bulk]
   | _=>exact h.elim
theorem mapM_of_get {α β:Type} {f:α→Option β}: ∀{l:List α} {r:List β},r.length=l.length→(∀(i:Nat) x,l[i]? =some x→f x=r[i]?)→l.mapM f=some r
 | [],r,hl,_=>by
  have:r= []:=List.eq_nil_of_length_eq_zero (by simpa using hl)
  subst this;rfl
 | x :: l,[],hl,_=>by simp at hl
 | x :: l,y :: r,hl,h=>by
  have h0:f x=some y:=h 0 x rfl
  have h1:=mapM_of_get (l:=l) (r:=r) (f:=f) (by simpa using hl) fun i z hz=>h (i+1) z (by simpa using hz)
  rw [List.mapM_cons,h0,h1];rfl
theorem rep_of_trod (K:Kids P (· <P.types.size)) : ∀(n m:Nat) (t:TypeId) (cs:List Value) (x:DataW H×List MemPlace),t<P.types.size→plainT P n t=true→DataW.trod enc P w 0 (fun _=>true) true m t cs=some x→
  ∃ds,RepCs (cellsF w) ds cs∧Ty P n t ds∧bulkL ds≤bulkW x.1:=by
 intro n
 induction n with
 | zero=>intro m t cs x _ h;simp [plainT] at h
 | succ n ih=>
  intro m t cs x hlt hp h
  have hp':(match P.underlying t with
   | some .bool=>true
   | some (.int _)=>true
   | some .string=>true
   | some (.slice e)=>decide (0<P.cellsOf e) &&plainT P n e
   | some (.struct fs)=>fs.toList.all fun f=>plainT P n f.type
   | _=>false) =true:=hp
  clear hp
  unfold Ty
  cases ht:P.underlying t with
  | none=>rw [ht] at hp';cases hp'
  | some u=>
  rw [ht] at hp'
  cases u with
  | bool=>
   obtain ⟨b,rfl,rfl⟩:=DataW.trod_bool ht h
   exact ⟨[.bool b],RepCs.one rfl (.bool b),⟨b,rfl⟩,by simp [bulkL,bulkW,D.bulk]⟩
  | int k=>
   obtain ⟨y,rfl,rfl,hw⟩:=DataW.trod_int ht h
   refine ⟨[.int k y],RepCs.one rfl (.int k y),⟨y,rfl, ?_⟩,by simp [bulkL,bulkW,D.bulk]⟩
   simpa [Lit.wf] using hw
  | string=>
   obtain ⟨s,rfl,rfl,hs⟩:=DataW.trod_string ht h
   refine ⟨[.str s.data.toList],RepCs.one rfl ?_,⟨s.data.toList,rfl, ?_⟩,by simp [bulkL,bulkW,D.bulk]⟩
   ·have:=Rep.str (Γ:=cellsF w) s.data.toList
    rwa [←toList_ba] at this
   ·rw [Array.length_toList];exact hs
  | slice e=>
   simp only [Bool.and_eq_true,decide_eq_true_eq] at hp'
   rcases Deep.open_slice ht h with ⟨rfl,rfl⟩ | ⟨a,len,cap,mm,q,Dt,Pl,rfl,_,hlc,hcm,hmm,rfl,hel⟩
   ·exact ⟨[.slice (P.cellsOf e) []],RepCs.one rfl (.nil _),⟨[],rfl,Nat.zero_le _,fun x hx=>by cases hx⟩,by simp [bulkL,bulkW,D.bulk]⟩
   ·simp only [if_true] at hmm
    subst hmm
    have hlte:e<P.types.size:=K.slice hlt ht
    have hch: ∀i,i<mm→∃y:List Value×List D,w.cells? 0 (a.add (i*P.cellsOf e)) (P.cellsOf e) =some y.1∧RepCs (cellsF w) y.2 y.1∧Ty P n e y.2∧bulkL y.2≤bulkW (Dt i):=by
     intro i hi
     obtain ⟨cs',h1,h2⟩:=hel i hi
     obtain ⟨ds,h3,h4,h5⟩:=ih q e cs' _ hlte hp'.2 h2
     exact ⟨(cs',ds),h1,h3,h4,h5⟩
    obtain ⟨f,hf⟩:=Deep.choose_lt hch
    by_cases hc0:mm=0
    ·subst hc0
     obtain rfl:len=0:=by omega
     exact ⟨[.slice (P.cellsOf e) []],RepCs.one rfl (.nil0 _ a),⟨[],rfl,Nat.zero_le _,fun x hx=>by cases hx⟩,by simp [bulkL,bulkW,D.bulk]⟩
    ·have hspot:a.spot=none:=by
      obtain ⟨h1,_⟩:=hf 0 (by omega)
      have hc:=World.cells?_some h1
      cases hs:a.spot with
      | none=>rfl
      | some q=>
       exfalso
       have h2:=hc.2.2 0 hp'.1
       have e0:(a.add (0*P.cellsOf e)).add 0=a:=by simp [Addr.add]
       rw [e0] at h2
       have h3:w.cell? a=none:=by
        unfold World.cell?
        split
        ·simp [hs]
        ·rfl
       rw [h3] at h2
       have:0<(f 0).1.length:=by rw [hc.2.1];exact hp'.1
       rw [List.getElem?_eq_getElem this] at h2
       cases h2
     have hcells: ∀i,i<mm→(mkEl P e (f i).2).cells=(f i).2∧(f i).2.length=P.cellsOf e:=by
      intro i hi
      obtain ⟨h1,h2,h3,_⟩:=hf i hi
      have hlen:=(World.cells?_some h1).2.1
      rw [←h2.len] at hlen
      exact ⟨mkEl_cells h3 h2.flat,hlen⟩
     have hunif: ∀x∈(List.range len).map (fun i=>mkEl P e (f i).2),x.cells.length=P.cellsOf e:=by
      intro x hx
      obtain ⟨i,hi,rfl⟩:=List.mem_map.1 hx
      have hi:i<len:=by simpa using hi
      rw [(hcells i (by omega)).1];exact (hcells i (by omega)).2
     have hget: ∀(i:Nat) d,(flatten ((List.range len).map fun i=>mkEl P e (f i).2))[i]? =some d→i / P.cellsOf e<len∧(f (i / P.cellsOf e)).2[i % P.cellsOf e]? =some d:=by
      intro i d hd
      have hlt:i<len*P.cellsOf e:=by
       have:=(List.getElem?_eq_some_iff.1 hd).1
       rw [flatten_length hunif] at this
       simpa using this
      have h1:i / P.cellsOf e<len:=Nat.div_lt_of_lt_mul (by rw [Nat.mul_comm];exact hlt)
      refine ⟨h1, ?_⟩
      have h2:=flatten_get hunif (i / P.cellsOf e) (i % P.cellsOf e) (Nat.mod_lt _ hp'.1)
      rw [Nat.mul_comm,Nat.div_add_mod] at h2
      rw [hd] at h2
      simp only [List.getElem?_map,List.getElem?_range h1,Option.map_some,Option.bind_some] at h2
      rw [(hcells _ (by omega)).1] at h2
      exact h2.symm
     refine ⟨[.slice (P.cellsOf e) ((List.range len).map fun i=>mkEl P e (f i).2)],RepCs.one rfl ?_,⟨_,rfl,by simp;omega,fun x hx=> ?_⟩, ?_⟩
     ·have:=Rep.slice (Γ:=cellsF w) (P.cellsOf e) ((List.range len).map fun i=>mkEl P e (f i).2) a mm (fun i=>(w.cell? (a.add i)).getD default) hspot (by simpa using hlc) hunif (fun d hd=> ?_) (fun i d hd=> ?_) (fun i d hd=> ?_)
      ·simpa using this
      ·obtain ⟨i,hi,hd⟩:=List.mem_iff_getElem.1 hd
       obtain ⟨h1,h2⟩:=hget i d (by rw [List.getElem?_eq_getElem hi,hd])
       exact (hf _ (by omega)).2.1.flat d (List.mem_of_getElem? h2)
      ·obtain ⟨h1,h2⟩:=hget i d hd
       obtain ⟨k1,k2,_⟩:=hf (i / P.cellsOf e) (by omega)
       have k3:=(World.cells?_some k1).2.2 (i % P.cellsOf e) (Nat.mod_lt _ hp'.1)
       rw [Deep.add_add,Nat.mul_comm,Nat.div_add_mod] at k3
       show w.cell? (a.add i) =_
       rw [k3]
       have:i % P.cellsOf e<(f (i / P.cellsOf e)).1.length:=by rw [←k2.len];exact (List.getElem?_eq_some_iff.1 h2).1
       rw [List.getElem?_eq_getElem this];rfl
      ·obtain ⟨h1,h2⟩:=hget i d hd
       obtain ⟨k1,k2,_⟩:=hf (i / P.cellsOf e) (by omega)
       have k3:=(World.cells?_some k1).2.2 (i % P.cellsOf e) (Nat.mod_lt _ hp'.1)
       rw [Deep.add_add,Nat.mul_comm,Nat.div_add_mod] at k3
       have h4:i % P.cellsOf e<(f (i / P.cellsOf e)).1.length:=by rw [←k2.len];exact (List.getElem?_eq_some_iff.1 h2).1
       refine k2.rep _ d _ h2 ?_
       simp only [k3,List.getElem?_eq_getElem h4,Option.getD_some]
     ·obtain ⟨i,hi,rfl⟩:=List.mem_map.1 hx
      have hi:i<len:=by simpa using hi
      obtain ⟨h1,h2,h3,_⟩:=hf i (by omega)
      rw [(hcells i (by omega)).1]
      exact ⟨h3,rfl⟩
     ·have:=bulkL_map (fun i=>mkEl P e (f i).2) Dt (List.range len) (fun i hi=>by
       have hi:i<len:=by simpa using hi
       obtain ⟨h1,h2,h3,h4⟩:=hf i (by omega)
       rw [mkEl_bulk h3];exact h4)
      simp only [bulkL,bulkW,D.bulk];omega
  | struct fs=>
   obtain ⟨xs,q,rfl,rfl,hl,hxl,hxs⟩:=DataW.trod_struct ht h
   obtain ⟨k1,k2,k3⟩:=K.struct hlt ht
   have hp': ∀f∈fs.toList,plainT P n f.type=true:=fun f hf=>List.all_eq_true.1 hp' f hf
   have hm:(fs.toList.mapM fun f=>DataW.trod enc P w 0 (fun _=>true) true q f.type ((cs.drop f.offset).take (P.cellsOf f.type))) =some xs:=
    mapM_of_get (by rw [hxl];simp) fun i f hf=>hxs i f (by simpa using hf)
   obtain ⟨parts,p1,p2,p3,p4⟩:=fields_rep P (g:=fun f cs=>DataW.trod enc P w 0 (fun _=>true) true q f.type cs) (T:=fun f d=>Ty P n f.type d) fs.toList 0 cs xs (fun f hf cs x hx=>ih q f.type cs x (k1 f hf) (hp' f hf) hx) (fun j f hj=>by rw [k3 j f hj];omega) (by rw [hl,k2];omega) hm
   exact ⟨parts.flatten,by simpa using p1,⟨parts,rfl,p2,p3⟩,by simp only [bulkW];omega⟩
  | _=>cases hp'
end B
end Go.Proofs.YtmkkljbfmdngfaaGreatDoor
namespace Go.Proofs.YtmkkljbfmdngfaaGreatDoor
namespace B
open Go.RowKit Go.WideShapes Go.ChangeShapes
variable {P:Program} {H:Type} {enc:TypeId×Value→H} {w:World}
def TyAll (P:Program) (n:Nat) :List TypeId→List D→Prop
 | [],[]=>True
 | t :: ts,x :: xs=>(Ty P n t x.cells∧x=mkEl P t x.cells)∧TyAll P n ts xs
 | _,_=>False
theorem rep_val {n base:Nat} {t:TypeId} {v:Value} {ds:List D} {Γ:Froz} (hok:Value.okWide P w .any base t v) (hT:Ty P n t ds) (h:RepCs Γ ds v.cells.toList) :Rep Γ (mkEl P t ds) v:=by
 cases n with
 | zero=>exact hT.elim
 | succ n=>
  unfold Ty at hT
  unfold mkEl
  unfold Value.okWide at hok
  cases ht:P.underlying t with
  | none=>rw [ht] at hT;exact hT.elim
  | some u=>
   rw [ht] at hT hok
   have one: ∀x,ds= [x]→v.cells= #[v]→Rep Γ (ds.headD .nilp) v:=by
    rintro x rfl hv
    exact h.rep 0 x v rfl (by rw [hv];rfl)
   cases u with
   | bool=>
    obtain ⟨b,rfl⟩:=hT
    refine one _ rfl ?_
    have hok2:Cell.ok P w .any base t v:=by
     have hok:Cell.okWide P w .any base t v:=hok
     unfold Cell.okWide at hok
     rw [ht] at hok
     cases v<;>exact hok
    unfold Cell.ok at hok2
    rw [ht] at hok2
    cases v<;>first | rfl | exact hok2.elim
   | int k=>
    obtain ⟨x,rfl,_⟩:=hT
    refine one _ rfl ?_
    have hok2:Cell.ok P w .any base t v:=by
     have hok:Cell.okWide P w .any base t v:=hok
     unfold Cell.okWide at hok
     rw [ht] at hok
     cases v<;>exact hok
    unfold Cell.ok at hok2
    rw [ht] at hok2
    cases v<;>first | rfl | exact hok2.elim
   | string=>
    obtain ⟨s,rfl,_⟩:=hT
    refine one _ rfl ?_
    have hok2:Cell.ok P w .any base t v:=by
     have hok:Cell.okWide P w .any base t v:=hok
     unfold Cell.okWide at hok
     rw [ht] at hok
     cases v<;>exact hok
    unfold Cell.ok at hok2
    rw [ht] at hok2
    cases v<;>first | rfl | exact hok2.elim
   | slice e=>
    obtain ⟨l,rfl,_⟩:=hT
    refine one _ rfl ?_
    have hok2:Cell.ok P w .any base t v:=by
     have hok:Cell.okWide P w .any base t v:=hok
     unfold Cell.okWide at hok
     rw [ht] at hok
     cases v<;>exact hok
    unfold Cell.ok at hok2
    rw [ht] at hok2
    cases v<;>first | rfl | exact hok2.elim
   | struct fs=>
    obtain ⟨cs,rfl,_,_⟩:=hok
    have:=Rep.agg (Γ:=Γ) ds cs.toList (by simpa [Value.cells] using h.len) h.flat (fun i d v hd hv=>h.rep i d v hd (by simpa [Value.cells] using hv))
    simpa using this
   | _=>exact hT.elim
theorem args_rep (K:Kids P (· <P.types.size)) {n base:Nat}: ∀{ts:List TypeId} {vs:List Value} {ds:List (DataW H)} {ps:List MemPlace},
  (∀t∈ts,t<P.types.size∧plainT P n t=true)→(∀(j:Nat) t v,ts[j]? =some t→vs[j]? =some v→Value.okWide P w .any base t v)→
  DataW.TrodAll enc P w 0 (fun _=>true) true ts vs ds ps→
  ∃xs,TyAll P n ts xs∧xs.length=vs.length∧(∀(i:Nat) x v,xs[i]? =some x→vs[i]? =some v→Rep (cellsF w) x v)∧bulkL xs≤bulkWL ds
 | [],vs,ds,ps,_,_,h=>by
  obtain ⟨rfl,rfl,rfl⟩:=trodAll_nil h
  exact ⟨[],trivial,rfl,by simp,by simp [bulkL]⟩
 | t :: ts,vs,ds,ps,hT,hok,h=>by
  obtain ⟨v,vs1,d,ds1,p,q,rfl,rfl,rfl,⟨m,h1⟩,h2⟩:=trodAll_cons h
  obtain ⟨x0,k1,k2,k3⟩:=rep_of_trod K n m t _ _ (hT t (by simp)).1 (hT t (by simp)).2 h1
  obtain ⟨xs,x1,x2,x3,x4⟩:=args_rep K (fun t' ht'=>hT t' (by simp [ht'])) (fun j t' v' ht' hv'=>hok (j+1) t' v' (by simpa using ht') (by simpa using hv')) h2
  have hc:=mkEl_cells k2 k1.flat
  refine ⟨mkEl P t x0 :: xs,⟨⟨by rw [hc];exact k2,by rw [hc]⟩,x1⟩,by simp [x2],fun i x v' hx hv'=> ?_, ?_⟩
  ·cases i with
   | zero=>simp at hx hv';subst hx;subst hv';exact rep_val (hok 0 t v rfl rfl) k2 k1
   | succ i=>exact x3 i x v' (by simpa using hx) (by simpa using hv')
  ·simp only [bulkL,bulkWL,mkEl_bulk k2];simp only at k3;omega
theorem trodAll_stays {w':World} (K:Kids P (· <P.types.size)) (hz: ∀t e,t<P.types.size→P.underlying t=some (.slice e)→0<P.cellsOf e) {sp:Nat→Bool}: ∀{ts:List TypeId} {vs:List Value} {ds:List (DataW H)} {ps:List MemPlace},
  (∀t∈ts,t<P.types.size)→DataW.TrodAll enc P w 0 (fun _=>true) true ts vs ds ps→(∀p∈ps,w.sameAt w' p)→(∀p∈ps,sp p.block=true)→DataW.TrodAll enc P w' 0 sp true ts vs ds ps
 | [],vs,ds,ps,_,h,_,_=>by
  obtain ⟨rfl,rfl,rfl⟩:=trodAll_nil h
  exact trodAll_mk0
 | t :: ts,vs,ds,ps,hT,h,hs,hp=>by
  obtain ⟨v,vs1,d,ds1,p,q,rfl,rfl,rfl,⟨m,h1⟩,h2⟩:=trodAll_cons h
  refine ⟨p,q,⟨m,DataW.trod_stays K (fun ht he=>hz _ _ ht he) (fun h=>by cases h) (hT t (by simp)) h1 (fun x hx=>hs x (List.mem_append_left _ hx)) fun x hx=>hp x (List.mem_append_left _ hx)⟩, ?_,rfl⟩
  exact trodAll_stays K hz (fun t' ht'=>hT t' (by simp [ht'])) h2 (fun x hx=>hs x (List.mem_append_right _ hx)) fun x hx=>hp x (List.mem_append_right _ hx)
theorem post_of_below {f:Func} {s:ChangeSpec} {apart fresh handsOn again:Bool} {W W':World} {args:Array Value} {v:Value} {ds gs:List (DataW H)} {before pa pv:List MemPlace}
  (hW:DataW.Whole enc P f.params.toList s.vars apart W args.toList ds gs before)
  (hres: ∀(b:Nat) (sp:Nat→Bool) (hd:Bool),DataW.TrodAll enc P W' b sp hd f.resultTypes.toList (v.resultList f.resultTypes.size) (s.fn H (ds++gs)).results [])
  (hargs: ∀sp:Nat→Bool,(∀p∈before,sp p.block=true)→DataW.TrodAll enc P W' 0 sp true f.params.toList args.toList (s.fn H (ds++gs)).args pa)
  (hvars: ∀sp:Nat→Bool,(∀p∈before,sp p.block=true)→DataW.TrodVars enc P W' sp s.vars (s.fn H (ds++gs)).vars pv)
  (hps:before=pa++pv) (hb:Below W.heap.size W W')
  (hok: ∀(j:Nat) (t:TypeId) (r:Value),f.resultTypes[j]? =some t→(v.resultList f.resultTypes.size)[j]? =some r→Value.okWide P W' .any 0 t r) :
  s.post enc P f apart fresh handsOn again W args v W':=by
 have hlt: ∀p∈before,p.block<W.heap.size:=fun p hp=>hW.lt p hp
 have hold: ∀p∈before,(fun b=>decide (b<W.heap.size)) p.block=true:=fun p hp=>by simpa using hlt p hp
 refine ⟨ds,gs,before,[],pa,pv,hW,hres _ _ _,hargs _ hold,hvars _ hold,World.keptBut_mono (fun p hp=>⟨hp, ?_⟩) (hb.frame (· ∈before)),fun _=> ?_⟩
 ·rw [hps,List.mem_append] at hp
  exact Or.inr hp
 ·obtain ⟨_,_,_,_,_,hz,hn⟩:=hW
  refine ⟨hok,_,_,([]++pa) ++pv,⟨[]++pa,pv,trodAll_append (hargs _ (fun _ _=>rfl)) (hres _ _ _),hvars _ (fun _ _=>rfl),rfl, ?_, ?_⟩, ?_⟩
  ·intro b off hp
   have hin:MemPlace.cell b off∈before:=by rw [hps];simpa using hp
   rw [hb.frozen (hlt _ hin)]
   exact hz b off hin
  ·intro ha
   have:=hn ha
   rw [hps] at this
   simpa using this
  ·intro p hp _
   rw [hps]
   simpa using hp
theorem trodAll_len: ∀{ts:List TypeId} {vs:List Value} {ds:List (DataW H)} {ps:List MemPlace},DataW.TrodAll enc P w 0 (fun _=>true) true ts vs ds ps→ds.length=ts.length
 | [],vs,ds,ps,h=>by obtain ⟨rfl,rfl,rfl⟩:=trodAll_nil h;rfl
 | t :: ts,vs,ds,ps,h=>by
  obtain ⟨v,vs1,d,ds1,p,q,rfl,rfl,rfl,_,h2⟩:=trodAll_cons h
  simp [trodAll_len h2]
end B
end Go.Proofs.YtmkkljbfmdngfaaGreatDoor
namespace Go.Proofs.YtmkkljbfmdngfaaGreatDoor
namespace B
open Go.RowKit
variable {P:Program} {Γ:Froz} {ρ:Nat→Role} {bl:Nat→Nat} {w w':World}
theorem SR.result {args:List CV} {objs:List (Nat×List CV)} {vals:Array Value} {res:CV} {v:Value} (h:SR Γ ρ bl ⟨args,objs⟩ vals w) (hr:RepC Γ ρ bl w (.s 0) res v) (hm: ∀b,res.ment b→(objs.lookup b).isSome=true) :SR Γ ρ bl ⟨[res],objs⟩ #[v] w:=by
 refine ⟨h.agree,rfl,fun i c hc=> ?_,h.boxes,h.rows,h.rowk,fun p b hb=> ?_,h.rho,h.gl,h.bty⟩
 ·cases i with
  | zero=>simp at hc;subst hc;exact ⟨v,rfl,hr⟩
  | succ i=>simp at hc
 ·cases p with
  | s n=>
   cases n with
   | zero=>exact hm b hb
   | succ n=>exact hb.elim
  | b n=>exact h.closed (.b n) b hb
theorem SR.line {st:St} {tmps:Array Value} (h:SR Γ ρ bl st tmps w) {b cap:Nat} {l:List D} (hb:st.bx b=some [.line cap l]) : ∃g buf s r e,w.heap[bl b]? =some (.cells #[.chan (some g)] e (0,0))∧w.cell? ⟨bl b,0,none⟩ =some (.chan (some g))∧
  w.heap[g]? =some (.chan cap buf false s r false)∧ρ g= .own (.b b) 0∧(∀o,Γ ⟨g,o,none⟩ =none)∧buf.size=l.length∧∀(k:Nat) d u,l[k]? =some d→buf[k]? =some u→Rep Γ d u:=by
 obtain ⟨arr,e,h1,h2,h3,h4⟩:=h.boxes b _ hb rfl
 obtain ⟨arr⟩:=arr
 obtain ⟨k1,k2⟩:=h3
 match arr,k1,k2 with
 | [v],_,k2=>
  obtain ⟨g,buf,s,r,rfl,j2,j3,j4,j5,j6⟩:=k2 0 _ v rfl rfl
  exact ⟨g,buf,s,r,e,h1,by simp [World.cell?,h1],j2,j3,j4,j5,j6⟩
end B
end Go.Proofs.YtmkkljbfmdngfaaGreatDoor
