/- A law's contract: what its row asks. No condition. -/
import Derived.Test.YtmkkljbfmdngfaaGreatDoorB27
import Derived.Below
set_option linter.all false
namespace Go.Proofs.YtmkkljbfmdngfaaGreatDoor
namespace B
open Go.RowKit Go.WideShapes Go.ChangeShapes
variable {P:Program} {H:Type} {enc:TypeId×Value→H} {w:World}
def TyAll (P:Program) (n:Nat) :List TypeId→List D→Prop
 | [],[]=>True
 | t :: ts,x :: xs=>(Ty P n t x.cells∧x=mkEl P t x.cells)∧TyAll P n ts xs
 | _,_=>False
theorem rep_val {n base:Nat} {t:TypeId} {v:Value} {ds:List D} {Γ:Froz} (hok:Value.okWide P w .any base t v) (hT:Ty P n t ds) (h:RepCs Γ ds v.cells.toList) :Rep Γ (mkEl P t ds) v:=by
 cases n with
 | zero=>exact hT.elim
 | succ n=>
  unfold Ty at hT
  unfold mkEl
  unfold Value.okWide at hok
  cases ht:P.underlying t with
  | none=>rw [ht] at hT;exact hT.elim
  | some u=>
   rw [ht] at hT hok
   have one: ∀x,ds= [x]→v.cells= #[v]→Rep Γ (ds.headD .nilp) v:=by
    rintro x rfl hv
    exact h.rep 0 x v rfl (by rw [hv];rfl)
   cases u with
   | bool=>
    obtain ⟨b,rfl⟩:=hT
    refine one _ rfl ?_
    have hok2:Cell.ok P w .any base t v:=by
     have hok:Cell.okWide P w .any base t v:=hok
     unfold Cell.okWide at hok
     rw [ht] at hok
     cases v<;>exact hok
    unfold Cell.ok at hok2
    rw [ht] at hok2
    cases v<;>first | rfl | exact hok2.elim
   | int k=>
    obtain ⟨x,rfl,_⟩:=hT
    refine one _ rfl ?_
    have hok2:Cell.ok P w .any base t v:=by
     have hok:Cell.okWide P w .any base t v:=hok
     unfold Cell.okWide at hok
     rw [ht] at hok
     cases v<;>exact hok
    unfold Cell.ok at hok2
    rw [ht] at hok2
    cases v<;>first | rfl | exact hok2.elim
   | string=>
    obtain ⟨s,rfl,_⟩:=hT
    refine one _ rfl ?_
    have hok2:Cell.ok P w .any base t v:=by
     have hok:Cell.okWide P w .any base t v:=hok
     unfold Cell.okWide at hok
     rw [ht] at hok
     cases v<;>exact hok
    unfold Cell.ok at hok2
    rw [ht] at hok2
    cases v<;>first | rfl | exact hok2.elim
   | slice e=>
    obtain ⟨l,rfl,_⟩:=hT
    refine one _ rfl ?_
    have hok2:Cell.ok P w .any base t v:=by
     have hok:Cell.okWide P w .any base t v:=hok
     unfold Cell.okWide at hok
     rw [ht] at hok
     cases v<;>exact hok
    unfold Cell.ok at hok2
    rw [ht] at hok2
    cases v<;>first | rfl | exact hok2.elim
   | struct fs=>
    obtain ⟨cs,rfl,_,_⟩:=hok
    have:=Rep.agg (Γ:=Γ) ds cs.toList (by simpa [Value.cells] using h.len) h.flat (fun i d v hd hv=>h.rep i d v hd (by simpa [Value.cells] using hv))
    simpa using this
   | _=>exact hT.elim
theorem args_rep (K:Kids P (· <P.types.size)) {n base:Nat}: ∀{ts:List TypeId} {vs:List Value} {ds:List (DataW H)} {ps:List MemPlace},
  (∀t∈ts,t<P.types.size∧plainT P n t=true)→(∀(j:Nat) t v,ts[j]? =some t→vs[j]? =some v→Value.okWide P w .any base t v)→
  DataW.TrodAll enc P w 0 (fun _=>true) true ts vs ds ps→
  ∃xs,TyAll P n ts xs∧xs.length=vs.length∧(∀(i:Nat) x v,xs[i]? =some x→vs[i]? =some v→Rep (cellsF w) x v)∧bulkL xs≤bulkWL ds
 | [],vs,ds,ps,_,_,h=>by
  obtain ⟨rfl,rfl,rfl⟩:=trodAll_nil h
  exact ⟨[],trivial,rfl,by simp,by simp [bulkL]⟩
 | t :: ts,vs,ds,ps,hT,hok,h=>by
  obtain ⟨v,vs1,d,ds1,p,q,rfl,rfl,rfl,⟨m,h1⟩,h2⟩:=trodAll_cons h
  obtain ⟨x0,k1,k2,k3⟩:=rep_of_trod K n m t _ _ (hT t (by simp)).1 (hT t (by simp)).2 h1
  obtain ⟨xs,x1,x2,x3,x4⟩:=args_rep K (fun t' ht'=>hT t' (by simp [ht'])) (fun j t' v' ht' hv'=>hok (j+1) t' v' (by simpa using ht') (by simpa using hv')) h2
  have hc:=mkEl_cells k2 k1.flat
  refine ⟨mkEl P t x0 :: xs,⟨⟨by rw [hc];exact k2,by rw [hc]⟩,x1⟩,by simp [x2],fun i x v' hx hv'=> ?_, ?_⟩
  ·cases i with
   | zero=>simp at hx hv';subst hx;subst hv';exact rep_val (hok 0 t v rfl rfl) k2 k1
   | succ i=>exact x3 i x v' (by simpa using hx) (by simpa using hv')
  ·simp only [bulkL,bulkWL,mkEl_bulk k2];simp only at k3;omega
theorem trodAll_stays {w':World} (K:Kids P (· <P.types.size)) (hz: ∀t e,t<P.types.size→P.underlying t=some (.slice e)→0<P.cellsOf e) {sp:Nat→Bool}: ∀{ts:List TypeId} {vs:List Value} {ds:List (DataW H)} {ps:List MemPlace},
  (∀t∈ts,t<P.types.size)→DataW.TrodAll enc P w 0 (fun _=>true) true ts vs ds ps→(∀p∈ps,w.sameAt w' p)→(∀p∈ps,sp p.block=true)→DataW.TrodAll enc P w' 0 sp true ts vs ds ps
 | [],vs,ds,ps,_,h,_,_=>by
  obtain ⟨rfl,rfl,rfl⟩:=trodAll_nil h
  exact trodAll_mk0
 | t :: ts,vs,ds,ps,hT,h,hs,hp=>by
  obtain ⟨v,vs1,d,ds1,p,q,rfl,rfl,rfl,⟨m,h1⟩,h2⟩:=trodAll_cons h
  refine ⟨p,q,⟨m,DataW.trod_stays K (fun ht he=>hz _ _ ht he) (fun h=>by cases h) (hT t (by simp)) h1 (fun x hx=>hs x (List.mem_append_left _ hx)) fun x hx=>hp x (List.mem_append_left _ hx)⟩, ?_,rfl⟩
  exact trodAll_stays K hz (fun t' ht'=>hT t' (by simp [ht'])) h2 (fun x hx=>hs x (List.mem_append_right _ hx)) fun x hx=>hp x (List.mem_append_right _ hx)
theorem post_of_below {f:Func} {s:ChangeSpec} {apart fresh handsOn again:Bool} {W W':World} {args:Array Value} {v:Value} {ds gs:List (DataW H)} {before pa pv:List MemPlace}
  (hW:DataW.Whole enc P f.params.toList s.vars apart W args.toList ds gs before)
  (hres: ∀(b:Nat) (sp:Nat→Bool) (hd:Bool),DataW.TrodAll enc P W' b sp hd f.resultTypes.toList (v.resultList f.resultTypes.size) (s.fn H (ds++gs)).results [])
  (hargs: ∀sp:Nat→Bool,(∀p∈before,sp p.block=true)→DataW.TrodAll enc P W' 0 sp true f.params.toList args.toList (s.fn H (ds++gs)).args pa)
  (hvars: ∀sp:Nat→Bool,(∀p∈before,sp p.block=true)→DataW.TrodVars enc P W' sp s.vars (s.fn H (ds++gs)).vars pv)
  (hps:before=pa++pv) (hb:Below W.heap.size W W')
  (hok: ∀(j:Nat) (t:TypeId) (r:Value),f.resultTypes[j]? =some t→(v.resultList f.resultTypes.size)[j]? =some r→Value.okWide P W' .any 0 t r) :
  s.post enc P f apart fresh handsOn again W args v W':=by
 have hlt: ∀p∈before,p.block<W.heap.size:=fun p hp=>hW.lt p hp
 have hold: ∀p∈before,(fun b=>decide (b<W.heap.size)) p.block=true:=fun p hp=>by simpa using hlt p hp
 refine ⟨ds,gs,before,[],pa,pv,hW,hres _ _ _,hargs _ hold,hvars _ hold,World.keptBut_mono (fun p hp=>⟨hp, ?_⟩) (hb.frame (· ∈before)),fun _=> ?_⟩
 ·rw [hps,List.mem_append] at hp
  exact Or.inr hp
 ·obtain ⟨_,_,_,_,_,hz,hn⟩:=hW
  refine ⟨hok,_,_,([]++pa) ++pv,⟨[]++pa,pv,trodAll_append (hargs _ (fun _ _=>rfl)) (hres _ _ _),hvars _ (fun _ _=>rfl),rfl, ?_, ?_⟩, ?_⟩
  ·intro b off hp
   have hin:MemPlace.cell b off∈before:=by rw [hps];simpa using hp
   rw [hb.frozen (hlt _ hin)]
   exact hz b off hin
  ·intro ha
   have:=hn ha
   rw [hps] at this
   simpa using this
  ·intro p hp _
   rw [hps]
   simpa using hp
theorem trodAll_len: ∀{ts:List TypeId} {vs:List Value} {ds:List (DataW H)} {ps:List MemPlace},DataW.TrodAll enc P w 0 (fun _=>true) true ts vs ds ps→ds.length=ts.length
 | [],vs,ds,ps,h=>by obtain ⟨rfl,rfl,rfl⟩:=trodAll_nil h;rfl
 | t :: ts,vs,ds,ps,h=>by
  obtain ⟨v,vs1,d,ds1,p,q,rfl,rfl,rfl,_,h2⟩:=trodAll_cons h
  simp [trodAll_len h2]
end B
end Go.Proofs.YtmkkljbfmdngfaaGreatDoor
