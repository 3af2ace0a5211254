/- Rows: slices whose elements are written. No condition. -/
import Derived.Test.YtmkkljbfmdngfaaGreatDoorB9
set_option linter.all false
namespace Go.Proofs.YtmkkljbfmdngfaaGreatDoor
namespace B
open Go.RowKit
variable {P:Program} {C:CallRel} {okr okw:Nat→Bool} {o:Oper}
theorem kill1_ment {b k:Nat} {c:CV} (h:(c.kill1 b).ment1 k) :c.ment1 k∧k≠b:=by
 cases c with
 | ptr j o=>simp only [CV.kill1] at h;split at h;exact h.elim;rename_i hn;exact ⟨h,by rw [←show j=k from h];exact hn⟩
 | sp j o=>simp only [CV.kill1] at h;split at h;exact h.elim;rename_i hn;exact ⟨h,by rw [←show j=k from h];exact hn⟩
 | rs z j o n=>simp only [CV.kill1] at h;split at h;exact h.elim;rename_i hn;exact ⟨h,by rw [←show j=k from h];exact hn⟩
 | ea z j o n=>simp only [CV.kill1] at h;split at h;exact h.elim;rename_i hn;exact ⟨h,by rw [←show j=k from h];exact hn⟩
 | fn f caps=>
  simp only [CV.kill1] at h
  split at h
  ·exact h.elim
  ·rename_i hn
   refine ⟨h, ?_⟩
   rintro rfl
   exact hn (by simpa using (show k∈caps from h))
 | _=>exact h.elim
theorem kill_ment {b k:Nat} {c:CV} (h:(c.kill b).ment k) :c.ment k∧k≠b:=by
 cases c with
 | tup l=>
  obtain ⟨x,hx,hm⟩:=h
  obtain ⟨y,hy,rfl⟩:=List.mem_map.1 hx
  exact ⟨⟨y,hy,(kill1_ment hm).1⟩,(kill1_ment hm).2⟩
 | agg l=>
  obtain ⟨x,hx,hm⟩:=h
  obtain ⟨y,hy,rfl⟩:=List.mem_map.1 hx
  exact ⟨⟨y,hy,(kill1_ment hm).1⟩,(kill1_ment hm).2⟩
 | ptr j o=>simp only [CV.kill] at h;have:=kill1_ment (c:= .ptr j o) (b:=b) (k:=k) (by simp only [CV.kill1] at h⊢;split at h<;>simp_all [CV.ment]);exact this
 | sp j o=>simp only [CV.kill] at h;have:=kill1_ment (c:= .sp j o) (b:=b) (k:=k) (by simp only [CV.kill1] at h⊢;split at h<;>simp_all [CV.ment]);exact this
 | rs z j o n=>simp only [CV.kill] at h;have:=kill1_ment (c:= .rs z j o n) (b:=b) (k:=k) (by simp only [CV.kill1] at h⊢;split at h<;>simp_all [CV.ment]);exact this
 | ea z j o n=>simp only [CV.kill] at h;have:=kill1_ment (c:= .ea z j o n) (b:=b) (k:=k) (by simp only [CV.kill1] at h⊢;split at h<;>simp_all [CV.ment]);exact this
 | fn f caps=>simp only [CV.kill] at h;have:=kill1_ment (c:= .fn f caps) (b:=b) (k:=k) (by simp only [CV.kill1] at h⊢;split at h<;>simp_all [CV.ment]);exact this
 | _=>exact h.elim
theorem RepC1.kill {Γ:Froz} {ρ:Nat→Role} {bl:Nat→Nat} {w:World} {p:Place} {i b:Nat} {c:CV} {v:Value} (h:RepC1 Γ ρ bl w p i c v) :RepC1 Γ ρ bl w p i (c.kill1 b) v:=by
 cases c<;>simp only [CV.kill1]<;>first | exact h | (split<;>first | trivial | exact h)
theorem RepC.kill {Γ:Froz} {ρ:Nat→Role} {bl:Nat→Nat} {w:World} {p:Place} {b:Nat} {c:CV} {v:Value} (h:RepC Γ ρ bl w p c v) :RepC Γ ρ bl w p (c.kill b) v:=by
 have main: ∀l vs,RepL Γ ρ bl w p l vs→RepL Γ ρ bl w p (l.map (CV.kill1 b)) vs:=fun l vs h=>⟨by simpa using h.1,fun i c v hc hv=>by
  rw [List.getElem?_map,Option.map_eq_some_iff] at hc
  obtain ⟨c',hc',rfl⟩:=hc
  exact (h.2 i c' v hc' hv).kill⟩
 cases c with
 | tup l=>obtain ⟨vs,h1,h2⟩:=h;exact ⟨vs,h1,main _ _ h2⟩
 | agg l=>obtain ⟨vs,h1,h2⟩:=h;exact ⟨vs,h1,main _ _ h2⟩
 | _=>simp only [CV.kill,CV.kill1]<;>first | exact h | (split<;>first | trivial | exact h)
theorem St.kill_bx (st:St) (b k:Nat) :(st.kill b).bx k=(st.bx k).map fun cs=>cs.map (CV.kill1 b):=by
 simp only [St.kill,St.bx]
 induction st.b with
 | nil=>rfl
 | cons x r ih=>
  obtain ⟨j,cs⟩:=x
  simp only [List.map_cons,List.lookup]
  split
  ·rfl
  ·exact ih
theorem St.kill_get (st:St) (b:Nat) (p:Place) :(st.kill b).get p=(st.get p).kill b:=by
 cases p with
 | s n=>
  simp only [St.get,St.kill,List.getD_eq_getElem?_getD,List.getElem?_map]
  cases st.s[n]? <;>rfl
 | b n=>
  simp only [St.get,St.kill_bx]
  cases st.bx n<;>rfl
theorem rowOf_kill (b:Nat) (cs:List CV) :rowOf (cs.map (CV.kill1 b)) =rowOf cs:=by
 match cs with
 | []=>rfl
 | [c]=>
  cases c<;>simp only [List.map_cons,List.map_nil,CV.kill1]<;>first | rfl | (split<;>rfl)
 | a :: b' :: r=>
  have e1: ∀(x y:CV) (t:List CV),rowOf (x :: y :: t) =none:=fun x y t=>by cases x<;>rfl
  simp only [List.map_cons,e1]
theorem SR.kill {Γ:Froz} {ρ:Nat→Role} {bl:Nat→Nat} {st:St} {tmps:Array Value} {w:World} (h:SR Γ ρ bl st tmps w) (b:Nat) :SR Γ ρ bl (st.kill b) tmps w:=by
 refine ⟨h.agree,by simp [St.kill,h.len],fun i c hc=> ?_,fun k cs hcs hro=> ?_,fun k cs z l hcs hro=> ?_,h.rowk,fun p k hm=> ?_,h.rho,h.gl,fun k j t cs hcs hj=> ?_⟩
 ·simp only [St.kill,List.getElem?_map,Option.map_eq_some_iff] at hc
  obtain ⟨c',hc',rfl⟩:=hc
  obtain ⟨v,hv,hr⟩:=h.slots i c' hc'
  exact ⟨v,hv,hr.kill⟩
 ·rw [St.kill_bx,Option.map_eq_some_iff] at hcs
  obtain ⟨cs',hcs',rfl⟩:=hcs
  rw [rowOf_kill] at hro
  obtain ⟨arr,e,h1,h2,h3,h4⟩:=h.boxes k cs' hcs' hro
  exact ⟨arr,e,h1,h2,⟨by simpa using h3.1,fun i c v hc hv=>by
   rw [List.getElem?_map,Option.map_eq_some_iff] at hc
   obtain ⟨c',hc',rfl⟩:=hc
   exact (h3.2 i c' v hc' hv).kill⟩,h4⟩
 ·rw [St.kill_bx,Option.map_eq_some_iff] at hcs
  obtain ⟨cs',hcs',rfl⟩:=hcs
  rw [rowOf_kill] at hro
  exact h.rows k cs' z l hcs' hro
 ·rw [St.kill_get] at hm
  have:=h.closed p k (kill_ment hm).1
  rw [St.kill_bx];simpa using this
 ·rw [St.kill_bx,Option.map_eq_some_iff] at hcs
  obtain ⟨cs',hcs',rfl⟩:=hcs
  rw [List.getElem?_map,Option.map_eq_some_iff] at hj
  obtain ⟨c,hc,hk⟩:=hj
  refine h.bty k j t cs' hcs' ?_
  rw [hc]
  cases c<;>simp only [CV.kill1] at hk<;>first | (exact congrArg some hk) | (split at hk<;>first | (exact congrArg some hk) | cases hk)
theorem kill_no (st:St) (b:Nat) (p:Place) : ¬((st.kill b).get p).ment b:=by
 intro h
 rw [St.kill_get] at h
 exact (kill_ment h).2 rfl
theorem ment_setRow {st:St} {k z:Nat} {l:List D} {p:Place} {j:Nat} (h:((st.set (.b k) (.agg [.arr z l])).get p).ment j) :(st.get p).ment j:=by
 rw [St.get_setBox] at h
 split at h
 ·obtain ⟨c,hc,hm⟩:=h
  simp at hc;subst hc;exact hm.elim
 ·exact h
theorem SR.virtRow {Γ:Froz} {ρ:Nat→Role} {bl:Nat→Nat} {st:St} {tmps:Array Value} {w:World} (h:SR Γ ρ bl st tmps w) {k:Nat} (sz:Nat) (hno: ∀p,¬(st.get p).ment k) :
  SR Γ ρ (upd bl k w.heap.size) (st.set (.b k) (.agg [.arr sz []])) tmps w:=by
 have rk: ∀p j,(st.get p).ment j→RK ρ ρ bl (upd bl k w.heap.size) j:=fun p j hm=>⟨upd_ne _ _ (by rintro rfl;exact hno p hm),fun _ _ e=>e⟩
 have ownk: ∀g (p:Place) i,ρ g= .own p i→ρ g=ρ g∧w.heap[g]? =w.heap[g]? ∧∀o,Γ ⟨g,o,none⟩ =Γ ⟨g,o,none⟩:=fun _ _ _ _=>⟨rfl,rfl,fun _=>rfl⟩
 refine ⟨h.agree,h.len,fun i c hc=> ?_,fun j cs hcs hro=> ?_,fun j cs z l hcs hro=> ?_,h.rowk,fun p j hm=> ?_,h.rho,h.gl,fun j i t cs hcs hj=> ?_⟩
 ·obtain ⟨v,hv,hr⟩:=h.slots i c hc
  exact ⟨v,hv,hr.keep (.refl _) (fun j _ g hg=>ownk g _ _ hg) fun b hm=>rk (.s i) b (by rw [St.get_slot (st:=st) hc];exact hm)⟩
 ·rw [St.bx_setBox] at hcs
  split at hcs
  ·obtain rfl: [CV.arr sz []]=cs:=by simpa using hcs
   cases hro
  ·rename_i hne
   obtain ⟨arr,e,h1,h2,h3,h4⟩:=h.boxes j cs hcs hro
   rw [upd_ne _ _ hne]
   exact ⟨arr,e,h1,h2,h3.keep (.refl _) (fun j _ g hg=>ownk g _ _ hg) fun c hc b hm=>rk (.b j) b (by rw [St.get_bx hcs];exact ⟨c,hc,hm⟩),h4⟩
 ·rw [St.bx_setBox] at hcs
  split at hcs
  ·rename_i e';subst e'
   obtain rfl: [CV.arr sz []]=cs:=by simpa using hcs
   simp only [rowOf,Option.some.injEq,Prod.mk.injEq] at hro
   obtain ⟨rfl,rfl⟩:=hro
   rw [upd_same]
   exact .inl rfl
  ·rename_i hne
   rw [upd_ne _ _ hne]
   exact h.rows j cs z l hcs hro
 ·have:=h.closed p j (ment_setRow hm)
  rw [St.bx_setBox];split
  ·rfl
  ·exact this
 ·rw [St.bx_setBox] at hcs
  split at hcs
  ·obtain rfl: [CV.arr sz []]=cs:=by simpa using hcs
   cases hj
  ·rename_i hne
   rw [upd_ne _ _ hne]
   exact h.bty j i t cs hcs hj
theorem SR.newRow {Γ:Froz} {ρ:Nat→Role} {bl:Nat→Nat} {st:St} {tmps:Array Value} {w w':World} (h:SR Γ ρ bl st tmps w) {k sz cap:Nat} {l:List D} (hno: ∀p,¬(st.get p).ment k) {arr:Array Value} {e:TypeId} {fz:Nat×Nat}
  (hold: ∀g,g<w.heap.size→w'.heap[g]? =w.heap[g]?) (hsz:w'.heap.size=w.heap.size+1) (hnew:w'.heap[w.heap.size]? =some (.cells arr e fz)) (hos:w'.os=w.os) (htp:w'.tape=w.tape) (hou:w'.output=w.output)
  (hok:OkFz fz arr.size) (hc:arr.size=cap*sz) (hcm:cap≤maxLen) (hl:l.length≤cap) (hr:RepF Γ sz l (arr.toList.take (l.length*sz))) :
  SR Γ (upd ρ w.heap.size (.row k sz cap)) (upd bl k w.heap.size) (st.set (.b k) (.agg [.arr sz l])) tmps w'∧Fr w Γ ρ w' Γ (upd ρ w.heap.size (.row k sz cap)):=by
 have rk: ∀p j,(st.get p).ment j→RK ρ (upd ρ w.heap.size (.row k sz cap)) bl (upd bl k w.heap.size) j:=fun p j hm=>⟨upd_ne _ _ (by rintro rfl;exact hno p hm),fun z c e=>by
  have:=h.rho _ (show ρ (bl j)≠ .plain by rw [e];simp)
  rw [upd_ne _ _ (by omega)];exact e⟩
 have ownk: ∀g (p:Place) i,ρ g= .own p i→upd ρ w.heap.size (.row k sz cap) g=ρ g∧w'.heap[g]? =w.heap[g]? ∧∀o,Γ ⟨g,o,none⟩ =Γ ⟨g,o,none⟩:=fun g p i hg=>by
  have:=h.rho g (by rw [hg];simp)
  exact ⟨upd_ne _ _ (by omega),hold g this,fun _=>rfl⟩
 refine ⟨⟨fun a v ha=> ?_,h.len,fun i c hc=> ?_,fun j cs hcs hro=> ?_,fun j cs z l2 hcs hro=> ?_,fun g j z c2 hc2=> ?_,fun p j hm=> ?_,fun g hg=> ?_,h.gl,fun j i t cs hcs hj=> ?_⟩,⟨.refl _,by omega,hos,htp,hou,fun g hg hp=>⟨hold g hg,by rw [upd_ne _ _ (by omega)];exact hp⟩,fun _ _ h=> .inl h,fun g b z cap e' _ _=>by rw [upd_ne _ _ (by have:=h.rho g (by rw [e'];simp);omega)];exact e'⟩⟩
 ·have:=h.agree a v ha
  rw [World.cell?_of_block (hold a.block (block_lt_of_cell this))];exact this
 ·obtain ⟨v,hv,hr⟩:=h.slots i c hc
  exact ⟨v,hv,hr.keep (.refl _) (fun j _ g hg=>ownk g _ _ hg) fun b hm=>rk (.s i) b (by rw [St.get_slot (st:=st) hc];exact hm)⟩
 ·rw [St.bx_setBox] at hcs
  split at hcs
  ·obtain rfl: [CV.arr sz l]=cs:=by simpa using hcs
   cases hro
  ·rename_i hne
   obtain ⟨arr,e,h1,h2,h3,h4⟩:=h.boxes j cs hcs hro
   have hl:=h.rho (bl j) (by rw [h2];simp)
   rw [upd_ne _ _ hne]
   exact ⟨arr,e,by rw [hold _ hl];exact h1,by rw [upd_ne _ _ (by omega)];exact h2,h3.keep (.refl _) (fun j _ g hg=>ownk g _ _ hg) fun c hc b hm=>rk (.b j) b (by rw [St.get_bx hcs];exact ⟨c,hc,hm⟩),h4⟩
 ·rw [St.bx_setBox] at hcs
  split at hcs
  ·rename_i e';subst e'
   obtain rfl: [CV.arr sz l]=cs:=by simpa using hcs
   simp only [rowOf,Option.some.injEq,Prod.mk.injEq] at hro
   obtain ⟨rfl,rfl⟩:=hro
   rw [upd_same]
   exact .inr ⟨arr,e,fz,cap,hnew,upd_same _ _ _,hl,hr⟩
  ·rename_i hne
   rw [upd_ne _ _ hne]
   refine (h.rows j cs z l2 hcs hro).keep (.refl _) fun c e=> ?_
   have:=h.rho _ (show ρ (bl j)≠ .plain by rw [e];simp)
   exact ⟨upd_ne _ _ (by omega),hold _ this⟩
 ·by_cases e2:g=w.heap.size
  ·subst e2
   rw [upd_same] at hc2;cases hc2
   exact ⟨arr,e,fz,hnew,hok,hc,hcm,fun o=>h.none_new (Nat.le_refl _) o⟩
  ·rw [upd_ne _ _ e2] at hc2
   have hl:=h.rho g (by rw [hc2];simp)
   obtain ⟨arr2,e3,fz2,q1,q2⟩:=h.rowk g j z c2 hc2
   exact ⟨arr2,e3,fz2,by rw [hold g hl];exact q1,q2⟩
 ·have:=h.closed p j (ment_setRow hm)
  rw [St.bx_setBox];split
  ·rfl
  ·exact this
 ·by_cases e':g=w.heap.size
  ·omega
  ·rw [upd_ne _ _ e'] at hg;have:=h.rho g hg;omega
 ·rw [St.bx_setBox] at hcs
  split at hcs
  ·obtain rfl: [CV.arr sz l]=cs:=by simpa using hcs
   cases hj
  ·rename_i hne
   rw [upd_ne _ _ hne]
   have hro:rowOf cs=none:=by
    unfold rowOf
    split
    ·simp at hj
    ·rfl
   obtain ⟨_,_,_,h2,_⟩:=h.boxes j cs hcs hro
   have hl:=h.rho (bl j) (by rw [h2];simp)
   rw [hold _ hl]
   exact h.bty j i t cs hcs hj
theorem newR_sound {d:Nat} {c v:CV} {K:St→Prop} {Γ:Froz} {ρ:Nat→Role} {bl:Nat→Nat} {st:St} {tmps:Array Value} {w:World} (h:SR Γ ρ bl st tmps w) (hw:(newR d c v).wp K st) :
  ∃st1,SR Γ ρ bl st1 tmps w∧(∀p,¬(st1.get p).ment d)∧K ((st1.set (.b d) (.agg [c])).set (.s d) v)∧∀b,Prot st b→b≠d:=by
 change (match st.get (.b d) with | .junk=>_ | _=>_:PM).wp K st at hw
 split at hw
 ·rename_i hj
  have hb:=get_b_junk hj
  refine ⟨st,h,fun p hm=> ?_,hw.2.2,fun b hp e=> ?_⟩
  ·have:=h.closed p d hm
   rw [hb] at this;cases this
  ·subst e;have:=hp.2;rw [hb] at this;cases this
 ·obtain ⟨h1,hw⟩:=hw
  exact ⟨st.kill d,h.kill d,kill_no st d,hw.2.2,fun b hp e=>by subst e;exact mvb_no h1 hp.1⟩
theorem g_rowN' {sz:Nat} (hrun: ∀(a:Act) (w:World) (st:St) (Γ:Froz) (ρ:Nat→Role) (bl:Nat→Nat),SR Γ ρ bl st a.tmps w→∀K:St→Prop,((AI.rowN sz).pm C okr okw o.dst).wp K st→∃u,(execOp a.eval o).run P w= .ok (.value u) w∧(u= .slice none 0 0∨∃ad:Addr,u= .slice (some ad) 0 0)) :Good P o ((AI.rowN sz).pm C okr okw o.dst):=by
 intro Γ ρ bl st a w h hgz hd K hw Q
 obtain ⟨u,hr,hu⟩:=hrun a w st Γ ρ bl h K hw
 cases hdst:o.dst with
 | none=>rw [hdst] at hw;exact hw.elim
 | some d=>
  rw [hdst] at hw
  obtain ⟨st1,h1,hno,hK,hpr⟩:=newR_sound h hw
  have h2:=h1.virtRow sz hno
  have h3:=h2.setSlot d (.rs sz d 0 0) u (.inl ⟨rfl,hu⟩) (fun b hb=>by
   have:d=b:=hb
   subst this;rw [St.bx_setBox,if_pos rfl];rfl)
  unfold Oper.wp;rw [hr,Oper.upon_value]
  exact ⟨by rw [put_defers];exact hd,Γ,ρ,_,_,hK,by rw [put_tmps,hdst];exact h3, .refl _ _ _,fun b hb=>upd_ne _ _ (hpr b hb)⟩
theorem g_rowNm {k:Operand} {sz:Nat} (ho:o.op= .move k∨o.op= .assign k) (hk:k= .const (.slice none 0 0)) :Good P o ((AI.rowN sz).pm C okr okw o.dst):=by
 subst hk
 refine g_rowN' fun a w st Γ ρ bl h K hw=>⟨.slice none 0 0, ?_, .inl rfl⟩
 have hc: ∀v,a.eval (.const v) =v:=fun _=>rfl
 rcases ho with ho | ho<;>simp [execOp,ho,hc]
theorem g_row0 {x:Operand} {ax:AX} {t e:TypeId} {sz:Nat} {ti:TypeInfo} {k1 k2:IntKind} (ho:o.op= .slice t x none (some (.const (.int k1 0))) (some (.const (.int k2 0)))) (hx:trX x=some ax)
  (ht:P.underlying t=some (.slice e)) (hi':P.info? e=some ti) :Good P o ((AI.row0 sz ax).pm C okr okw o.dst):=by
 intro Γ ρ bl st a w h hgz hd K hw Q
 simp only [AI.pm] at hw
 rw [ev_wp] at hw
 have main: ∀(ao:Option Addr) (n c:Nat),a.eval x= .slice ao n c→(execOp a.eval o).run P w= .ok (.value (.slice ao 0 0)) w:=by
  intro ao n c hv
  have hc: ∀v,a.eval (.const v) =v:=fun _=>rfl
  simp [execOp,ho,Instr.sliceAt,Instr.slice,run_underlying ht,hv,hc,Instr.sliceBounds,Instr.sliceBound,asIntOf,sizeOf,typeInfo,hi']
 have fin: ∀ao:Option Addr,(execOp a.eval o).run P w= .ok (.value (.slice ao 0 0)) w→((AI.rowN sz).pm C okr okw o.dst).wp K st→o.wp P a w (fun a' w'=>a'.defers= []∧After K Γ ρ bl w st a'.tmps w') Q:=by
  intro ao hr hw
  cases hdst:o.dst with
  | none=>rw [hdst] at hw;exact hw.elim
  | some d=>
   rw [hdst] at hw
   obtain ⟨st1,h1,hno,hK,hpr⟩:=newR_sound h hw
   have h2:=h1.virtRow sz hno
   have h3:=h2.setSlot d (.rs sz d 0 0) (.slice ao 0 0) (.inl ⟨rfl,by cases ao with | none=>exact .inl rfl | some ad=>exact .inr ⟨ad,rfl⟩⟩) (fun b hb=>by
    have:d=b:=hb
    subst this;rw [St.bx_setBox,if_pos rfl];rfl)
   unfold Oper.wp;rw [hr,Oper.upon_value]
   exact ⟨by rw [put_defers];exact hd,Γ,ρ,_,_,hK,by rw [put_tmps,hdst];exact h3, .refl _ _ _,fun b hb=>upd_ne _ _ (hpr b hb)⟩
 have e1:=rep_ax hx h
 split at hw
 ·rename_i zz kk oo m hv
  rw [hv] at e1
  rcases (e1:RowH ρ bl zz kk oo m (a.eval x)) with ⟨rfl,e1⟩ | ⟨c,cap,e1,_⟩
  ·rcases e1 with e1 | ⟨ad,e1⟩
   ·exact fin _ (main _ _ _ e1) hw
   ·exact fin _ (main _ _ _ e1) hw
  ·exact fin _ (main _ _ _ e1) hw
 split at hw
 ·rename_i zx hxs
  obtain ⟨z,xs⟩:=zx
  have e1:=rep_sl e1 hxs
  obtain ⟨ao,c,hv,hlc⟩:=slice_form e1
  exact fin _ (main _ _ _ hv) hw
 ·exact hw.elim
theorem g_rowB {x:Operand} {ax:AX} {s t e:TypeId} {u:TypeDesc} (ho:o.op= .convert s t x) (hs:P.underlying s=some u) (ht:P.underlying t=some (.slice e)) (he:P.underlying e=some (.int .u8)) (hx:trX x=some ax) :Good P o ((AI.rowB ax).pm C okr okw o.dst):=by
 intro Γ ρ bl st a w h hgz hd K hw Q
 cases hdst:o.dst with
 | none=>rw [hdst] at hw;exact hw.elim
 | some d=>
 rw [hdst] at hw
 simp only [AI.pm] at hw
 rw [ev_wp] at hw
 split at hw
 ·rename_i b hb
  obtain ⟨hlen,hw⟩:=hw
  have e1:=rep_ax hx h
  rw [hb] at e1
  have e1:=rep_str e1
  have hrun:(execOp a.eval o).run P w= .ok (.value (.slice (some ⟨w.heap.size,0,none⟩) b.length (grownCap w b.length 0 e))) (Lib.bytesWorld w e ⟨b.toArray⟩):=by
   have:=Lib.run_convert_string_bytes (P:=P) w s t e ⟨b.toArray⟩ hs ht he
   rw [size_mk] at this
   simp [execOp,ho,e1,this]
  have hbv:=byte_vals Γ b
  have hge:=grownCap_ge w b.length 0 e
  obtain ⟨st1,h1,hno,hK,hpr⟩:=newR_sound h hw
  have htk:(Lib.bytesCells w e ⟨b.toArray⟩).toList.take ((b.map byteD).length*1) =Lib.strCells ⟨b.toArray⟩:=by
   simp only [Lib.bytesCells,List.length_map,Nat.mul_one,Array.toList_append,Lib.strCells]
   rw [List.take_append_of_le_length (by simp)]
   simp only [Array.toList_map]
   exact List.take_of_length_le (by simp)
  obtain ⟨g1,g2⟩:=h1.newRow (k:=d) (sz:=1) (cap:=grownCap w b.length 0 e) (l:=b.map byteD) (w':=Lib.bytesWorld w e ⟨b.toArray⟩) hno (fun g hg=>Lib.bytesWorld_at_old w e ⟨b.toArray⟩ g hg) (Lib.bytesWorld_size w e _) (Lib.bytesWorld_at_new w e _) rfl rfl rfl
   (.inr (Nat.le_refl _)) (by simp only [Lib.bytesCells];simp [size_mk];omega) (grownCap_le_maxLen w _ 0 e (by simp only [maxLen];omega)) (by simpa using hge) (by rw [htk];exact hbv)
  have h3:=g1.setSlot d (.rs 1 d 0 b.length) (.slice (some ⟨w.heap.size,0,none⟩) b.length (grownCap w b.length 0 e)) (.inr ⟨_,_,by rw [upd_same,Nat.zero_mul],hge,by rw [upd_same,upd_same],by omega⟩) (fun b hb=>by
   have:d=b:=hb
   subst this;rw [St.bx_setBox,if_pos rfl];rfl)
  unfold Oper.wp;rw [hrun,Oper.upon_value]
  exact ⟨by rw [put_defers];exact hd,Γ,_,_,_,hK,by rw [put_tmps,hdst];exact h3,g2,fun b hb=>upd_ne _ _ (hpr b hb)⟩
 ·exact hw.elim
theorem g_appR {s x:Operand} {as ax:AX} {t tx e:TypeId} {i:TypeInfo} {z:Value} {d:TypeDesc} {sz bytes:Nat} (ho:o.op= .call {callee:= .builtin .append,args:= #[s,x],argTypes:= #[t,tx]}) (hs:trX s=some as) (hx:trX x=some ax)
  (ht:P.underlying t=some (.slice e)) (htx:P.underlying tx=some d) (hd': ∀k,d≠ .int k) (hi:P.info? e=some i) (hz:i.zero=some z) (hsz:i.size=sz) (hzs:z.cells.size=sz) (hsz0:0<sz) (hby:i.bytes=bytes) (hb0:0<bytes) :
  Good P o ((AI.appR sz bytes as ax).pm C okr okw o.dst):=by
 intro Γ ρ bl st a w h hgz hd K hw Q
 subst hby
 simp only [AI.pm] at hw
 rw [ev_wp,ev_wp] at hw
 have es:=rep_ax hs h
 have ex:=rep_ax hx h
 split at hw
 ·rename_i zz k oo n m hv hm
  change (match rowD (st.get (.b k)) with | some (z',l)=>_ | none=>PM.fail).wp K st at hw
  split at hw
  ·rename_i z' l hrd
   obtain ⟨⟨q1,q2,q3,q4,hbytes,hu⟩,hw⟩:=hw
   subst q2;subst q1;subst q3;subst q4
   obtain ⟨hk,hw⟩:=hw
   rw [hv] at es
   obtain ⟨cs,hbx,hro⟩:=get_b_row hrd
   have hu:=okz_cells ex hm hu
   obtain ⟨news,hnf,hxl,hxf⟩:=more_spec (P:=P) ex hm hu hsz
   have h1:=h.kill k
   have hno:=kill_no st k
   have hlen47:l.length+m.length≤140737488355328:=Nat.le_trans (Nat.le_mul_of_pos_right _ hb0) hbytes
   have hml:(l.length+m.length:Nat)≤maxLen:=by simp only [maxLen];omega
   have hnl:news.length=m.length*zz:=hnf.vs_len
   have hrunA: ∀v' w',(Builtin.append_ #[t,tx] o.type #[a.eval s,a.eval x]).run P w= .ok v' w'→(execOp a.eval o).run P w= .ok (.value v') w':=fun v' w' hr=>by
    simp only [execOp,ho,resolve,invoke,builtin,Sem.run_bind,Sem.run_pure,Result.andThen_ok,List.map_toArray,List.map_cons,List.map_nil,hr]
   have fin: ∀v' w' ρ' bl',(Builtin.append_ #[t,tx] o.type #[a.eval s,a.eval x]).run P w= .ok v' w'→SR Γ ρ' bl' ((st.kill k).set (.b k) (.agg [.arr zz (l++m)])) a.tmps w'→Fr w Γ ρ w' Γ ρ'→RowH ρ' bl' zz k 0 (l.length+m.length) v'→(∀b,b≠k→bl' b=bl b)→
     o.wp P a w (fun a' w'=>a'.defers= []∧After K Γ ρ bl w st a'.tmps w') Q:=by
    intro v' w' ρ' bl' hr g1 g2 g3 g4
    unfold Oper.wp;rw [hrunA _ _ hr,Oper.upon_value]
    obtain ⟨st'',hK,hs'⟩:=setD_sound g1 (dst:=o.dst) (c:= .rs zz k 0 (l.length+m.length)) (v:=v') (fun d' e'=>g3) (fun b hb=>by
     have:k=b:=hb
     subst this;rw [St.bx_setBox,if_pos rfl];rfl) hw.2
    exact ⟨by rw [put_defers];exact hd,Γ,ρ',bl',st'',hK,by rw [put_tmps];exact hs',g2,fun b hb=>g4 b (by rintro rfl;exact mvb_no hk hb.1)⟩
   have grown: ∀(ba:Option Addr) (sCap:Nat) (vs:List Value),a.eval s= .slice ba l.length sCap→RepF Γ zz l vs→(Builtin.firstCells i.size l.length (.slice ba l.length sCap)).run P w.drew= .ok vs.toArray w.drew→sCap<l.length+m.length→sCap≤140737488355328→
     o.wp P a w (fun a' w'=>a'.defers= []∧After K Γ ρ bl w st a'.tmps w') Q:=by
    intro ba sCap vs hv hvf hof hcap hcap2
    have hr:=run_append_grow_x (P:=P) w t tx o.type e i z d ht htx hd' hi hz ba l.length sCap m.length (a.eval x) vs news hxl (hxf _ h.agree) hof hcap (by omega) (growslice_fits (by omega) hbytes)
    have hall:=RepF.append hvf hnf
    have hge:=grownCap_ge w (l.length+m.length) sCap e
    obtain ⟨g1,g2⟩:=h1.newRow (k:=k) (sz:=zz) (cap:=grownCap w (l.length+m.length) sCap e) (l:=l++m) (w':=w.drew.alloc (.cells (vs.toArray++news.toArray++Builtin.zeroCells z.cells (grownCap w (l.length+m.length) sCap e-(l.length+m.length))) e)) hno
     (fun g hg=>heap_alloc_old w.drew _ g hg) (by simp) (heap_alloc_new w.drew _) rfl rfl rfl (.inl rfl) (by
      simp only [Array.size_append,List.size_toArray,size_zeroCells,hzs,hvf.vs_len,hnl,←Nat.add_mul]
      congr 1;omega) (grownCap_le_maxLen w _ sCap e hml) (by rw [List.length_append];exact hge) (by
      have e3:(vs.toArray++news.toArray++Builtin.zeroCells z.cells (grownCap w (l.length+m.length) sCap e-(l.length+m.length))).toList.take ((l++m).length*zz) =vs++news:=by
       simp only [Array.toList_append,List.append_assoc]
       rw [←List.append_assoc,List.length_append,Nat.add_mul,←hvf.vs_len,←hnl,←List.length_append]
       exact List.take_left
      rw [e3];exact hall)
    exact fin _ _ _ _ (by rw [hv];exact hr) g1 g2 (.inr ⟨_,_,by rw [upd_same,Nat.zero_mul],hge,by rw [upd_same,upd_same],by omega⟩) fun b hb=>upd_ne _ _ hb
   have hk1:(st.kill k).bx k=some (cs.map (CV.kill1 k)):=by rw [St.kill_bx,hbx];rfl
   have hro1:rowOf (cs.map (CV.kill1 k)) =some (zz,l):=by rw [rowOf_kill];exact hro
   rcases (es:RowH ρ bl zz k 0 l.length (a.eval s)) with ⟨hl0,hv'⟩ | ⟨c,cap,hv',hc1,hrole,hc2⟩
   ·obtain rfl:l= []:=List.eq_nil_of_length_eq_zero hl0
    obtain ⟨ao,hv'⟩ : ∃ao,a.eval s= .slice ao 0 0:=by
     rcases hv' with hv' | ⟨ad,hv'⟩
     ·exact ⟨_,hv'⟩
     ·exact ⟨_,hv'⟩
    by_cases hm0:m.length=0
    ·obtain rfl:m= []:=List.eq_nil_of_length_eq_zero hm0
     have hne:news= []:=List.eq_nil_of_length_eq_zero (by rw [hnl];simp)
     subst hne
     have h2:=h1.virtRow zz hno
     have hr:=run_append_none_x (P:=P) w t tx o.type e i d ht htx hd' hi ao (a.eval x) hxl (hxf _ h.agree)
     refine fin _ _ ρ _ (by rw [hv'];exact hr) h2 (.refl _ _ _) (.inl ⟨rfl, ?_⟩) fun b hb=>upd_ne _ _ hb
     cases ao with
     | none=>exact .inl rfl
     | some ad=>exact .inr ⟨ad,rfl⟩
    ·refine grown ao 0 [] hv' ⟨by simp,by simp [flatten],rfl,by simp [flatten]⟩ ?_ (by simp;omega) (by omega)
     cases ao with
     | none=>simp [Builtin.firstCells]
     | some ad=>simp [Builtin.firstCells,loadCells,loadCellsFrom]
   ·obtain ⟨arr,ety,fz,hh,hfz,hcs,hcm,hle,hrf,h4⟩:=h.real hbx hro hrole
    rw [Nat.zero_mul] at hv'
    by_cases hroom:l.length+m.length≤c
    ·have hmul:(l.length+m.length) *zz≤cap*zz:=Nat.mul_le_mul_right _ (by omega)
     have hfit:l.length*i.size+news.length≤arr.size:=by rw [hsz,hnl,hcs,←Nat.add_mul];exact hmul
     have hr:=run_append_room_x (P:=P) w t tx o.type e i d ht htx hd' hi (bl k) l.length c m.length arr ety fz hfz hh (a.eval x) news hxl (hxf _ h.agree) hnf.one hroom hfit
     rw [hsz] at hr hfit
     have htk2:(arr.toList.take (l.length*zz) ++news++arr.toList.drop (l.length*zz+news.length)).take ((l++m).length*zz) =arr.toList.take (l.length*zz) ++news:=by
      rw [List.length_append,Nat.add_mul,←hnl,take_setRow _ _ _ (by simpa using hfit)]
     obtain ⟨g1,g2⟩:=h1.setRowEl hk1 hro1 hrole hh (arr':=(arr.toList.take (l.length*zz) ++news++arr.toList.drop (l.length*zz+news.length)).toArray) (by simp;omega) (l++m) (by rw [List.length_append];omega) (by
      show RepF Γ zz (l++m) ((arr.toList.take (l.length*zz) ++news++arr.toList.drop (l.length*zz+news.length)).take ((l++m).length*zz))
      rw [htk2];exact RepF.append hrf hnf)
     exact fin _ _ _ _ (by rw [hv'];exact hr) g1 g2 (.inr ⟨c,cap,by rw [Nat.zero_mul],hroom,hrole,hc2⟩) fun _ _=>rfl
    ·refine grown (some ⟨bl k,0,none⟩) c _ hv' hrf ?_ (by omega) (by simp only [maxLen] at hcm;omega)
     exact run_firstCells_some (P:=P) w.drew i.size l.length ⟨bl k,0,none⟩ l.length c _ (by rw [hsz];exact hrf.vs_len) (fun j u hj=>by
      rw [Addr.add_lit',Nat.zero_add]
      show w.cell? _=_
      rw [cell_row hh];exact take_arr hj)
  ·exact hw.elim
 ·exact hw.elim
theorem newB_sound {d:Nat} {c:CV} {k:PM} {K:St→Prop} {Γ:Froz} {ρ:Nat→Role} {bl:Nat→Nat} {st:St} {tmps:Array Value} {w:World} (h:SR Γ ρ bl st tmps w) (hw:(newB d c k).wp K st) :
  ∃st1,SR Γ ρ bl st1 tmps w∧(∀p,¬(st1.get p).ment d)∧k.wp K (st1.set (.b d) (.agg [c]))∧∀b,Prot st b→b≠d:=by
 change (match st.get (.b d) with | .junk=>_ | _=>_:PM).wp K st at hw
 split at hw
 ·rename_i hj
  have hb:=get_b_junk hj
  refine ⟨st,h,fun p hm=> ?_,hw.2,fun b hp e=> ?_⟩
  ·have:=h.closed p d hm
   rw [hb] at this;cases this
  ·subst e;have:=hp.2;rw [hb] at this;cases this
 ·obtain ⟨h1,hw⟩:=hw
  exact ⟨st.kill d,h.kill d,kill_no st d,hw.2,fun b hp e=>by subst e;exact mvb_no h1 hp.1⟩
theorem g_rowS {x y:Operand} {ax:AX} {t:TypeId} {ti:TypeInfo} (d sz:Nat) (ho:o.op= .store t x y) (hy:y= .const (.slice none 0 0)) (hdst:o.dst=none) (hx:trX x=some ax) (hi:P.info? t=some ti) (hn:ti.size=1) :
  Good P o ((AI.rowS d sz ax).pm C okr okw o.dst):=by
 subst hy
 intro Γ ρ bl st a w h hgz hd K hw Q
 simp only [AI.pm] at hw
 rw [ev_wp] at hw
 have e:=rep_ax hx h
 split at hw
 ·rename_i b off hb
  rw [hb] at e
  have e:a.eval x= .pointer (some ⟨bl b,off,none⟩):=e
  split at hw
  ·obtain ⟨st1,h1,hno,hw,hpr⟩:=newB_sound h hw
   change (match (st1.set (.b d) (.agg [.arr sz []])).get (.b b) with | .agg cs=>_ | _=>PM.fail).wp K _ at hw
   split at hw
   ·rename_i cs hcs
    obtain ⟨⟨hoff,hro,hne⟩,hw⟩:=hw
    have h2:=h1.virtRow sz hno
    have hbx:=get_b_agg hcs
    have hbl:upd bl d w.heap.size b=bl b:=upd_ne _ _ (Ne.symm hne)
    obtain ⟨arr,ety,k1,k2,k3,k4⟩:=h2.boxes b cs hbx hro
    have hal:arr.size=cs.length:=by have:=k3.1;simpa using this.symm
    have hs:=h2.setBox hbx hro (splice off [.rs sz d 0 0] cs) (arr.toList.take off++ [Value.slice none 0 0]++arr.toList.drop (off+1)).toArray (by
     simpa using k3.splice off (new:=[.rs sz d 0 0]) (us:=[.slice none 0 0]) rfl (by simp;omega) fun i c u hc hu=>by
      cases i with
      | zero=>simp at hc hu;subst hc;subst hu;exact .inl ⟨rfl, .inl rfl⟩
      | succ i=>simp at hc) (fun c hc k hk=>by
     simp only [splice,List.mem_append,List.mem_singleton] at hc
     rcases hc with (hc | rfl) | hc
     ·exact h2.closed (.b b) k (by rw [St.get_bx hbx];exact ⟨c,List.mem_of_mem_take hc,hk⟩)
     ·have:d=k:=hk
      subst this;rw [St.bx_setBox,if_pos rfl];rfl
     ·exact h2.closed (.b b) k (by rw [St.get_bx hbx];exact ⟨c,List.mem_of_mem_drop hc,hk⟩)) (fun k t e=> .inl (splice_sp (by simp [isSpC]) e))
    rw [hbl] at k1 hs
    have hrun:(execOp a.eval o).run P w= .ok .skip (w.setRow (bl b) (arr.toList.take off++ [Value.slice none 0 0]++arr.toList.drop (off+1)).toArray):=by
     have hc:a.eval (.const (.slice none 0 0)) = .slice none 0 0:=rfl
     have:=run_storeVar (P:=P) (off:=off) (v:= .slice none 0 0) (vs:=[.slice none 0 0]) hi hn rfl rfl k1 (by omega) (by simp [Value.oneCell'])
     simp [execOp,ho,Instr.storeAt,e,Instr.sureAddr,hc,this]
    exact After.skip hdst hd hrun ⟨Γ,ρ,_,_,hw.2,hs.1,hs.2,fun b' hb'=>upd_ne _ _ (hpr b' hb')⟩
   ·exact hw.elim
  ·exact hw.elim
 ·exact hw.elim
theorem SR.freeze {Γ:Froz} {ρ:Nat→Role} {bl:Nat→Nat} {st:St} {tmps:Array Value} {w:World} (h:SR Γ ρ bl st tmps w) {g k z cap:Nat} {vs:List Value} {arr:Array Value} {e:TypeId} {fz:Nat×Nat} (hg:ρ g= .row k z cap) (hk:mvb k=true) (hno: ∀p,¬(st.get p).ment k) (hgk:bl k≠g)
  (h1:w.heap[g]? =some (.cells arr e fz)) (hp: ∀(i:Nat) u,vs[i]? =some u→arr[i]? =some u) :SR (freezeRow Γ g vs) (upd ρ g .plain) bl st tmps w∧Fr w Γ ρ w (freezeRow Γ g vs) (upd ρ g .plain):=by
 obtain ⟨_,_,_,_,_,_,_,hΓ⟩:=h.rowk _ _ _ _ hg
 have hle:=freezeRow_none vs hΓ
 have hne: ∀g' r,ρ g'=r→r≠ .row k z cap→g'≠g:=fun g' r hr hh=>by rintro rfl;exact hh (by rw [←hr,hg])
 have rk: ∀p j,(st.get p).ment j→RK ρ (upd ρ g .plain) bl bl j:=fun p j hm=>⟨rfl,fun z' c' e'=>by
  have:j≠k:=by rintro rfl;exact hno p hm
  rw [upd_ne _ _ (hne _ _ e' (by intro q;injection q with q;exact this q))];exact e'⟩
 have ownk: ∀g' (p:Place) i,ρ g'= .own p i→upd ρ g .plain g'=ρ g'∧w.heap[g']? =w.heap[g']? ∧∀o,freezeRow Γ g vs ⟨g',o,none⟩ =Γ ⟨g',o,none⟩:=fun g' p i hg'=>
  ⟨upd_ne _ _ (hne _ _ hg' (by simp)),rfl,fun o=>freezeRow_ne _ _ _ (hne _ _ hg' (by simp))⟩
 refine ⟨⟨row_agree h.agree h1 hp,h.len,fun i c hc=> ?_,fun j cs hcs hro=> ?_,fun j cs z' l hcs hro=> ?_,fun g' j z' c' hc=> ?_,h.closed,fun g' hg'=> ?_,h.gl.trans hle,h.bty⟩,⟨hle,Nat.le_refl _,rfl,rfl,rfl,fun g' _ hp'=>⟨rfl, ?_⟩,fun a v ha=> ?_,fun g' j z' c' e' hj h5=> ?_⟩⟩
 ·obtain ⟨v,hv,hr⟩:=h.slots i c hc
  exact ⟨v,hv,hr.keep hle (fun j _ g hg=>ownk g _ _ hg) fun b hm=>rk (.s i) b (by rw [St.get_slot (st:=st) hc];exact hm)⟩
 ·obtain ⟨arr',e',q1,q2,q3,q4⟩:=h.boxes j cs hcs hro
  have:=hne _ _ q2 (by simp)
  exact ⟨arr',e',q1,by rw [upd_ne _ _ this];exact q2,q3.keep hle (fun j _ g hg=>ownk g _ _ hg) fun c hc b hm=>rk (.b j) b (by rw [St.get_bx hcs];exact ⟨c,hc,hm⟩),fun o=>by rw [freezeRow_ne _ _ _ this];exact q4 o⟩
 ·refine (h.rows j cs z' l hcs hro).keep hle fun c' e'=> ?_
  have:bl j≠g:=by
   by_cases q:j=k
   ·subst q;exact hgk
   ·exact hne _ _ e' (by intro q2;injection q2 with q2;exact q q2)
  exact ⟨upd_ne _ _ this,rfl⟩
 ·by_cases q:g'=g
  ·subst q;rw [upd_same] at hc;cases hc
  ·rw [upd_ne _ _ q] at hc
   obtain ⟨arr',e',fz',q1,q2,q3,q4,q5⟩:=h.rowk g' j z' c' hc
   exact ⟨arr',e',fz',q1,q2,q3,q4,fun o=>by rw [freezeRow_ne _ _ _ q];exact q5 o⟩
 ·by_cases q:g'=g
  ·subst q;rw [upd_same] at hg';exact absurd rfl hg'
  ·rw [upd_ne _ _ q] at hg';exact h.rho g' hg'
 ·rw [upd_ne _ _ (by rintro rfl;rw [hg] at hp';cases hp')];exact hp'
 ·unfold freezeRow at ha
  split at ha
  ·rename_i hc;exact .inr (.inr (by rw [hc.1,hg];simp))
  ·exact .inl ha
 ·rw [upd_ne _ _ (hne _ _ e' (by intro q;injection q with q;subst q;exact mvb_no hk ⟨by assumption,by assumption⟩))];exact e'
theorem rsIn_spec: ∀{cs:List CV} {j i z k m:Nat},rsIn j cs=some (i,z,k,m)→j≤i∧cs[i-j]? =some (.rs z k 0 m)
 | [],j,i,z,k,m,h=>by cases h
 | c :: r,j,i,z,k,m,h=>by
  simp only [rsIn] at h
  split at h
  ·simp only [Option.some.injEq,Prod.mk.injEq] at h
   obtain ⟨rfl,rfl,rfl,rfl⟩:=h
   exact ⟨Nat.le_refl _,by simp⟩
  ·obtain ⟨h1,h2⟩:=rsIn_spec h
   refine ⟨by omega, ?_⟩
   rw [show i-j=(i-(j+1)) +1 by omega]
   simpa using h2
theorem SR.viewBoxA {Γ:Froz} {ρ:Nat→Role} {bl:Nat→Nat} {st:St} {tmps:Array Value} {w:World} (h:SR Γ ρ bl st tmps w) {b:Nat} {cs:List CV} (hcs:st.bx b=some cs) (hro:rowOf cs=none) {arr:Array Value} {e:TypeId} (h1:w.heap[bl b]? =some (.cells arr e (0,0))) (cs':List CV)
  (hr:RepL Γ ρ bl w (.b b) cs' arr.toList) (hm: ∀c∈cs',∀k,c.ment1 k→(st.bx k).isSome=true) (hsp: ∀k t,cs'[0]? =some (.sp k t)→cs[0]? =some (.sp k t)) :SR Γ ρ bl (st.set (.b b) (.agg cs')) tmps w:=by
 have:=(h.setBox hcs hro cs' arr hr hm fun k t e=> .inl (hsp k t e)).1
 rwa [setRow_self w (bl b) arr e (0,0) h1] at this
theorem frzK_sound {Γ:Froz} {ρ:Nat→Role} {bl:Nat→Nat} {st:St} {tmps:Array Value} {w:World} {b:Nat} {m:PM} {K:St→Prop} (h:SR Γ ρ bl st tmps w) (hw:(frzK b m).wp K st) :
  ∃Γ' ρ' bl' st',SR Γ' ρ' bl' st' tmps w∧Fr w Γ ρ w Γ' ρ'∧m.wp K st'∧bl' b=bl b∧∀j,Prot st j→bl' j=bl j∧Prot st' j:=by
 change (match st.get (.b b) with | .agg cs=>_ | _=>PM.fail).wp K st at hw
 split at hw
 ·rename_i cs hcs
  split at hw
  ·rename_i i z k n hrs
   change (match rowD (st.get (.b k)) with | some (z',l)=>_ | none=>PM.fail).wp K st at hw
   split at hw
   ·rename_i z' l hrd
    obtain ⟨⟨hro,hz,hml,hkb⟩,hw⟩:=hw
    subst hz;subst hml
    obtain ⟨hk,hw⟩:=hw
    have hw:=hw.2.2
    obtain ⟨_,hci⟩:=rsIn_spec hrs
    rw [Nat.sub_zero] at hci
    have hbx:=get_b_agg hcs
    obtain ⟨ck,hbk,hrk⟩:=get_b_row hrd
    obtain ⟨arr,ety,h1,h2,h3,h4⟩:=h.boxes b cs hbx hro
    have hal:arr.toList.length=cs.length:=h3.1.symm
    have hil:i<cs.length:=(List.getElem?_eq_some_iff.1 hci).1
    have hia:i<arr.size:=by simp at hal;omega
    have hrow:=h3.2 i _ arr[i] hci (by simp [hia])
    have g1:=h.kill k
    have hno1:=kill_no st k
    have g2:=g1.virtRow z' hno1
    have hno2: ∀p,¬(((st.kill k).set (.b k) (.agg [.arr z' []])).get p).ment k:=fun p hm=>hno1 p (ment_setRow hm)
    have hbl: ∀j,j≠k→upd bl k w.heap.size j=bl j:=fun j hj=>upd_ne _ _ hj
    have hb2:((st.kill k).set (.b k) (.agg [.arr z' []])).bx b=some (cs.map (CV.kill1 k)):=by
     rw [St.bx_setBox,if_neg (Ne.symm hkb),St.kill_bx,hbx];rfl
    have hro2:rowOf (cs.map (CV.kill1 k)) =none:=by rw [rowOf_kill];exact hro
    have fin: ∀Γ' ρ',SR Γ' ρ' (upd bl k w.heap.size) ((st.kill k).set (.b k) (.agg [.arr z' []])) tmps w→Fr w Γ ρ w Γ' ρ'→Rep Γ' (.slice z' l) arr[i]→∃Γ' ρ' bl' st',SR Γ' ρ' bl' st' tmps w∧Fr w Γ ρ w Γ' ρ'∧m.wp K st'∧bl' b=bl b∧∀j,Prot st j→bl' j=bl j∧Prot st' j:=by
     intro Γ' ρ' g3 hf hrep
     obtain ⟨arr',ety',q1,q2,q3,q4⟩:=g3.boxes b _ hb2 hro2
     rw [hbl b (Ne.symm hkb),h1] at q1
     cases q1
     have hL:RepL Γ' ρ' (upd bl k w.heap.size) w (.b b) (frz i z' k l cs) arr.toList:=by
      refine ⟨by simp [frz];simpa using hal.symm,fun j c v hc hv=> ?_⟩
      unfold frz at hc
      rw [List.getElem?_set] at hc
      split at hc
      ·rename_i hij
       subst hij
       split at hc
       ·cases hc
        have:v=arr[i]:=by simp [hia] at hv;exact hv.symm
        subst this;exact hrep
       ·cases hc
      ·exact q3.2 j c v hc hv
     have g4:=g3.viewBoxA hb2 hro2 (by rw [hbl b (Ne.symm hkb)];exact h1) (frz i z' k l cs) hL (fun c hc j hj=>by
      unfold frz at hc
      rcases List.mem_or_eq_of_mem_set hc with hc | rfl
      ·exact g3.closed (.b b) j (by rw [St.get_bx hb2];exact ⟨c,hc,hj⟩)
      ·exact hj.elim) (fun j t hj=>by
      unfold frz at hj
      rw [List.getElem?_set] at hj
      split at hj
      ·split at hj<;>cases hj
      ·exact hj)
     refine ⟨Γ',ρ',_,_,g4,hf,hw,hbl b (Ne.symm hkb),fun j hj=>⟨hbl j (by rintro rfl;exact mvb_no hk hj.1),hj.1, ?_⟩⟩
     rw [St.bx_setBox]
     split
     ·rfl
     ·rw [St.bx_setBox]
      split
      ·rfl
      ·rw [St.kill_bx];simpa using hj.2
    rcases (hrow:RowH ρ bl z' k 0 l.length arr[i]) with ⟨hl0,hv⟩ | ⟨c,cap,hv,hc1,hrole,hc2⟩
    ·obtain rfl:l= []:=List.eq_nil_of_length_eq_zero hl0
     refine fin Γ ρ g2 (.refl _ _ _) ?_
     rcases hv with hv | ⟨ad,hv⟩
     ·rw [hv];exact .nil z'
     ·rw [hv];exact .nil0 z' ad
    ·obtain ⟨arrk,ek,fzk,r1,r2,r3,r4,r5,r6,r7⟩:=h.real hbk hrk hrole
     have hgk:upd bl k w.heap.size k≠bl k:=by
      rw [upd_same]
      have:=h.rho (bl k) (by rw [hrole];simp)
      omega
     obtain ⟨g3,f3⟩:=g2.freeze (vs:=arrk.toList.take (l.length*z')) hrole hk hno2 hgk r1 (fun j u hu=>take_arr hu)
     refine fin _ _ g3 f3 ?_
     have:=row_rep (.inr ⟨c,cap,hv,hc1,hrole,hc2⟩) r7 r6 (show 0+l.length≤l.length by omega)
     rwa [List.drop_zero,List.take_length] at this
   ·exact hw.elim
  ·exact ⟨Γ,ρ,bl,st,h, .refl _ _ _,hw,rfl,fun j hj=>⟨rfl,hj⟩⟩
 ·exact hw.elim
theorem g_loadF {x:Operand} {ax:AX} {t:TypeId} {n:Nat} {ti:TypeInfo} (ho:o.op= .load t x) (hx:trX x=some ax) (hag:isAggT P t=some true) (hi:P.info? t=some ti) (hn:ti.size=n) :
  Good P o ((AI.loadF n ax).pm C okr okw o.dst):=by
 intro Γ ρ bl st a w h hgz hd K hw Q
 simp only [AI.pm] at hw
 rw [ev_wp] at hw
 have e:=rep_ax hx h
 split at hw
 ·rename_i b off hb
  rw [hb] at e
  have e:a.eval x= .pointer (some ⟨bl b,off,none⟩):=e
  split at hw
  ·obtain ⟨Γ1,ρ1,bl1,st1,s1,f1,hw,e1,p1⟩:=frzK_sound h hw
   obtain ⟨Γ2,ρ2,bl2,st2,s2,f2,hw,e2,p2⟩:=frzK_sound s1 hw
   change (match st2.get (.b b) with | .agg cs=>_ | _=>PM.fail).wp K st2 at hw
   split at hw
   ·rename_i cs hcs
    obtain ⟨⟨hlen,hro⟩,hw⟩:=hw
    have hbx:=get_b_agg hcs
    obtain ⟨arr,ety,h1,h2,h3,h4⟩:=s2.boxes b cs hbx hro
    rw [e2,e1] at h1
    have hal:arr.toList.length=cs.length:=h3.1.symm
    have hrun:(execOp a.eval o).run P w= .ok (.value (.agg ((arr.toList.drop off).take n).toArray)) w:=by
     have hl:((arr.toList.drop off).take n).length=n:=by simp;simp at hal;omega
     have:=run_loadCells_list (P:=P) w ⟨bl b,off,none⟩ ((arr.toList.drop off).take n) (fun j v hj=>by
      rw [Addr.add_lit',cell_row h1,←Array.getElem?_toList];exact cut_get hj)
     rw [hl] at this
     simp [execOp,ho,Instr.loadAt,e,Instr.sureAddr,loadVar,run_isAgg hag,sizeOf,typeInfo,hi,hn,this]
    obtain ⟨k1,k2⟩:=h3.cut off n
    unfold Oper.wp;rw [hrun,Oper.upon_value]
    obtain ⟨st'',hK,hs'⟩:=setD_sound s2 (dst:=o.dst) (c:=mkAgg ((cs.drop off).take n)) (v:= .agg ((arr.toList.drop off).take n).toArray) (fun d' e'=>mkAgg_rep' k1 k2) (fun j hj=>by
     obtain ⟨c,hc,hm⟩:=mkAgg_ment hj
     exact s2.closed (.b b) j (by rw [St.get_bx hbx];exact ⟨c,mem_drop_take hc,hm⟩)) hw
    exact ⟨by rw [put_defers];exact hd,Γ2,ρ2,_,st'',hK,by rw [put_tmps];exact hs',f1.trans f2,fun j hj=>((p2 j (p1 j hj).2).1).trans (p1 j hj).1⟩
   ·exact hw.elim
  ·exact hw.elim
 ·exact hw.elim
theorem RepF.take {Γ:Froz} {sz:Nat} {l:List D} {vs:List Value} (r:RepF Γ sz l vs) (i:Nat) :RepF Γ sz (l.take i) (vs.take (i*sz)):=by
 refine ⟨fun x hx=>r.uni x (List.mem_of_mem_take hx),fun d hd=> ?_, ?_,fun j d u h1 h2=> ?_⟩
 ·rw [flatten_take r.uni] at hd;exact r.flat d (List.mem_of_mem_take hd)
 ·rw [flatten_take r.uni,List.length_take,List.length_take,r.len]
 ·rw [flatten_take r.uni,List.getElem?_take] at h1
  rw [List.getElem?_take] at h2
  split at h1
  ·rename_i c;rw [if_pos c] at h2;exact r.rep j d u h1 h2
  ·cases h1
theorem RepF.drop {Γ:Froz} {sz:Nat} {l:List D} {vs:List Value} (r:RepF Γ sz l vs) (i:Nat) :RepF Γ sz (l.drop i) (vs.drop (i*sz)):=by
 refine ⟨fun x hx=>r.uni x (List.mem_of_mem_drop hx),fun d hd=> ?_, ?_,fun j d u h1 h2=> ?_⟩
 ·rw [flatten_drop r.uni] at hd;exact r.flat d (List.mem_of_mem_drop hd)
 ·rw [flatten_drop r.uni,List.length_drop,List.length_drop,r.len]
 ·rw [flatten_drop r.uni,List.getElem?_drop] at h1
  rw [List.getElem?_drop] at h2
  exact r.rep _ d u h1 h2
theorem rep_zeros (Γ:Froz) (k:IntKind) (n:Nat) :RepF Γ 1 (List.replicate n (.int k 0)) (List.replicate n (.int k 0)):=by
 have hfl:flatten (List.replicate n (D.int k 0)) =List.replicate n (D.int k 0):=by
  induction n with
  | zero=>rfl
  | succ n ih=>rw [List.replicate_succ];unfold flatten at ih⊢;rw [List.flatMap_cons,ih];rfl
 refine ⟨fun x hx=> ?_,fun d hd=> ?_,by rw [hfl];simp,fun i d u hd hu=> ?_⟩
 ·rw [List.eq_of_mem_replicate hx];rfl
 ·rw [hfl] at hd;rw [List.eq_of_mem_replicate hd];rfl
 ·rw [hfl] at hd
  rw [List.eq_of_mem_replicate (List.mem_of_getElem? hd),List.eq_of_mem_replicate (List.mem_of_getElem? hu)]
  exact .int k 0
theorem setB_id {b:Nat} {cs:List CV}: ∀{l:List (Nat×List CV)},l.lookup b=some cs→setB b cs l=l
 | [],h=>by cases h
 | (k,v) :: r,h=>by
  simp only [List.lookup] at h
  simp only [setB]
  split at h
  ·rename_i e;cases h;simp at e;subst e;simp
  ·rename_i e;rw [e];simp only [Bool.false_eq_true,if_false];rw [setB_id h]
theorem g_clr {x:Operand} {ax:AX} {t et:TypeId} {k:IntKind} {i0:TypeInfo} (ho:o.op= .call {callee:= .builtin .clear,args:= #[x],argTypes:= #[t]}) (hx:trX x=some ax) (ht:P.underlying t=some (.slice et)) (hi:P.info? et=some i0) (hz:i0.zero=some (.int k 0)) :
  Good P o ((AI.clr (.int k 0) ax).pm C okr okw o.dst):=by
 intro Γ ρ bl st a w h hgz hd K hw Q
 simp only [AI.pm] at hw
 rw [ev_wp] at hw
 have e:=rep_ax hx h
 have hzv: ∀w,(zeroValue et).run P w= .ok (.int k 0) w:=fun w=>by simp [zeroValue,typeInfo,hi,hz]
 split at hw
 ·rename_i z b o' n hv
  rw [hv] at e
  have e:RowH ρ bl z b o' n (a.eval x):=e
  split at hw
  ·change (match rowD (st.get (.b b)) with | some (z',l)=>_ | none=>PM.fail).wp K st at hw
   split at hw
   ·rename_i z' l hrd
    obtain ⟨⟨hz1,hz2,hle⟩,hw⟩:=hw
    subst hz1;subst hz2
    obtain ⟨ck,hbk,hrk⟩:=get_b_row hrd
    have hw:=hw.2
    have fin: ∀w',(execOp a.eval o).run P w= .ok (.value (.tuple #[])) w'→SR Γ ρ bl (st.set (.b b) (.agg [.arr 1 (l.take o'++List.replicate n (D.int k 0) ++l.drop (o'+n))])) a.tmps w'→Fr w Γ ρ w' Γ ρ→o.wp P a w (fun a' w'=>a'.defers= []∧After K Γ ρ bl w st a'.tmps w') Q:=by
     intro w' hrun hs hf
     unfold Oper.wp;rw [hrun,Oper.upon_value]
     obtain ⟨st'',hK,hs'⟩:=setD_sound hs (dst:=o.dst) (c:= .tup []) (v:= .tuple #[]) (fun d' e'=>⟨[],rfl,rfl,fun i c v hc=>by simp at hc⟩) (fun b hb=>by obtain ⟨c,hc,_⟩:=hb;cases hc) hw
     exact ⟨by rw [put_defers];exact hd,Γ,ρ,bl,st'',hK,by rw [put_tmps];exact hs',hf,fun _ _=>rfl⟩
    have hck:ck= [.arr 1 l]:=by
     unfold rowOf at hrk
     split at hrk
     ·simp at hrk;obtain ⟨rfl,rfl⟩:=hrk;rfl
     ·cases hrk
    by_cases hn:n=0
    ·subst hn
     obtain ⟨ao,cc,hval⟩ : ∃ao cc,a.eval x= .slice ao 0 cc:=by
      rcases e with ⟨_,hv0 | ⟨ad,hv0⟩⟩ | ⟨c,cap,hv0,_⟩
      ·exact ⟨_,_,hv0⟩
      ·exact ⟨_,_,hv0⟩
      ·exact ⟨_,_,hv0⟩
     have hst:st.set (.b b) (.agg [.arr 1 (l.take o'++List.replicate 0 (D.int k 0) ++l.drop (o'+0))]) =st:=by
      have e1:l.take o'++List.replicate 0 (D.int k 0) ++l.drop (o'+0) =l:=by simp
      rw [e1]
      simp only [St.set]
      rw [setB_id (by rw [←hck];exact hbk)]
     refine fin w ?_ (by rw [hst];exact h) (.refl _ _ _)
     simp only [execOp,ho,resolve,invoke,builtin,Sem.run_bind,Sem.run_pure,Result.andThen_ok,List.map_toArray,List.map_cons,List.map_nil,hval]
     cases ao<;>simp [Builtin.clear_,run_underlying ht]
    ·rcases e with ⟨h0,_⟩ | ⟨c,cap,hv0,hc1,hrole,hc2⟩
     ·exact absurd h0 hn
     ·obtain ⟨arr,ety,fz,r1,r2,r3,r4,r5,r6,r7⟩:=h.real hbk hrk hrole
      rw [Nat.mul_one] at r3
      rw [Nat.mul_one] at hv0
      have hzc:(Builtin.zeroCells (Value.int k 0).cells n).toList=List.replicate n (Value.int k 0):=by
       have e1:(Value.int k 0).cells= #[.int k 0]:=rfl
       rw [e1]
       apply List.ext_getElem
       ·simp [Builtin.zeroCells]
       ·intro i h1 h2
        simp [Builtin.zeroCells,Nat.mod_one]
      have hst:=run_storeCells_ok (P:=P) (bl b) o' ety fz (List.replicate n (Value.int k 0)) 0 arr w r2 r1 (by rw [List.length_replicate];omega) (fun v hv=>by rw [List.eq_of_mem_replicate hv];rfl)
      rw [Nat.add_zero,List.length_replicate] at hst
      obtain ⟨m,hm⟩ : ∃m,n=m+1:=⟨n- 1,by omega⟩
      have hl:l.length≤arr.toList.length:=by simp;omega
      obtain ⟨g1,g2⟩:=h.setRowEl hbk hrk hrole r1 (arr':=(arr.toList.take o'++List.replicate n (Value.int k 0) ++arr.toList.drop (o'+n)).toArray) (by simp;omega) (l.take o'++List.replicate n (D.int k 0) ++l.drop (o'+n)) (by simp;omega) (by
       rw [Nat.mul_one] at r6
       have q:=((r6.take o').append (rep_zeros Γ k n)).append (r6.drop (o'+n))
       rw [Nat.mul_one,Nat.mul_one] at q
       have e2:(arr.toList.take o'++List.replicate n (Value.int k 0) ++arr.toList.drop (o'+n)).toArray.toList.take ((l.take o'++List.replicate n (D.int k 0) ++l.drop (o'+n)).length*1) =(arr.toList.take l.length).take o'++List.replicate n (Value.int k 0) ++(arr.toList.take l.length).drop (o'+n):=by
        have e3:(l.take o'++List.replicate n (D.int k 0) ++l.drop (o'+n)).length*1=l.length:=by simp;omega
        rw [e3]
        apply List.ext_getElem?
        intro i
        simp only [List.getElem?_take,List.getElem?_append,List.length_append,List.length_take,List.length_replicate,List.getElem?_drop,Array.length_toList]
        have hla:l.length≤arr.size:=by simpa using hl
        rw [Nat.min_eq_left (show o'≤arr.size by omega),Nat.min_eq_left (show l.length≤arr.size by omega),Nat.min_eq_left (show o'≤l.length by omega)]
        by_cases c1:i<o'
        ·simp [c1,show i<o'+n by omega,show i<l.length by omega]
        ·by_cases c2:i<o'+n
         ·simp [c1,c2,show i<l.length by omega]
         ·by_cases c3:i<l.length
          ·simp [c1,c2,c3,show o'+n+(i-(o'+n)) <l.length by omega]
          ·simp [c1,c2,c3,show ¬(o'+n+(i-(o'+n)) <l.length) by omega]
       rw [e2];exact q)
      refine fin _ ?_ g1 g2
      have hclr: ∀ty,(Builtin.clear_ #[t] ty #[.slice (some ⟨bl b,o',none⟩) n c]).run P w= .ok (.tuple #[]) (w.setRow (bl b) (arr.toList.take o'++List.replicate n (Value.int k 0) ++arr.toList.drop (o'+n)).toArray):=by
       intro ty
       subst hm
       simp [Builtin.clear_,run_underlying ht,hzv,hzc,hst]
      simp only [execOp,ho,resolve,invoke,builtin,Sem.run_bind,Sem.run_pure,Result.andThen_ok,List.map_toArray,List.map_cons,List.map_nil,hv0,hclr]
   ·exact hw.elim
  ·exact hw.elim
 ·exact hw.elim
theorem g_frzM {x:Operand} {ax:AX} (ho:o.op= .move x∨o.op= .assign x) (hx:trX x=some ax) :Good P o ((AI.frzM ax).pm C okr okw o.dst):=by
 intro Γ ρ bl st a w h hgz hd K hw Q
 have hrun:(execOp a.eval o).run P w= .ok (.value (a.eval x)) w:=by rcases ho with ho | ho<;>simp [execOp,ho]
 simp only [AI.pm] at hw
 rw [ev_wp] at hw
 have e:=rep_ax hx h
 split at hw
 ·rename_i z k n hv
  rw [hv] at e
  have e:RowH ρ bl z k 0 n (a.eval x):=e
  change (match rowD (st.get (.b k)) with | some (z',l)=>_ | none=>PM.fail).wp K st at hw
  split at hw
  ·rename_i z' l hrd
   obtain ⟨⟨hz,hml⟩,hw⟩:=hw
   subst hz
   obtain ⟨hk,hw⟩:=hw
   have hw:=hw.2
   obtain ⟨ck,hbk,hrk⟩:=get_b_row hrd
   have g1:=h.kill k
   have hno1:=kill_no st k
   have g2:=g1.virtRow z' hno1
   have hno2: ∀p,¬(((st.kill k).set (.b k) (.agg [.arr z' []])).get p).ment k:=fun p hm=>hno1 p (ment_setRow hm)
   have hbl: ∀j,j≠k→upd bl k w.heap.size j=bl j:=fun j hj=>upd_ne _ _ hj
   have fin: ∀Γ' ρ',SR Γ' ρ' (upd bl k w.heap.size) ((st.kill k).set (.b k) (.agg [.arr z' []])) a.tmps w→Fr w Γ ρ w Γ' ρ'→Rep Γ' (.slice z' (l.take n)) (a.eval x)→o.wp P a w (fun a' w'=>a'.defers= []∧After K Γ ρ bl w st a'.tmps w') Q:=by
    intro Γ' ρ' g3 hf hrep
    unfold Oper.wp;rw [hrun,Oper.upon_value]
    obtain ⟨st'',hK,hs'⟩:=setD_sound g3 (dst:=o.dst) (c:= .d (.slice z' (l.take n))) (v:=a.eval x) (fun d' e'=>hrep) (fun b hb=>hb.elim) hw
    exact ⟨by rw [put_defers];exact hd,Γ',ρ',_,st'',hK,by rw [put_tmps];exact hs',hf,fun b' hb'=>hbl b' (by rintro rfl;exact mvb_no hk hb'.1)⟩
   rcases e with ⟨hl0,hv0⟩ | ⟨c,cap,hv0,hc1,hrole,hc2⟩
   ·subst hl0
    refine fin Γ ρ g2 (.refl _ _ _) ?_
    rw [List.take_zero]
    rcases hv0 with hv0 | ⟨ad,hv0⟩
    ·rw [hv0];exact .nil z'
    ·rw [hv0];exact .nil0 z' ad
   ·obtain ⟨arrk,ek,fzk,r1,r2,r3,r4,r5,r6,r7⟩:=h.real hbk hrk hrole
    have hgk:upd bl k w.heap.size k≠bl k:=by
     rw [upd_same]
     have:=h.rho (bl k) (by rw [hrole];simp)
     omega
    obtain ⟨g3,f3⟩:=g2.freeze (vs:=arrk.toList.take (l.length*z')) hrole hk hno2 hgk r1 (fun j u hu=>take_arr hu)
    refine fin _ _ g3 f3 ?_
    have:=row_rep (.inr ⟨c,cap,hv0,hc1,hrole,hc2⟩) r7 r6 (show 0+n≤l.length by omega)
    rwa [List.drop_zero] at this
  ·exact hw.elim
 ·exact hw.elim
theorem g_appO {s x:Operand} {as ax:AX} {t tx e:TypeId} {i:TypeInfo} {z:Value} {d:TypeDesc} {sz bytes:Nat} (ho:o.op= .call {callee:= .builtin .append,args:= #[s,x],argTypes:= #[t,tx]}) (hs:trX s=some as) (hx:trX x=some ax)
  (ht:P.underlying t=some (.slice e)) (htx:P.underlying tx=some d) (hd': ∀k,d≠ .int k) (hi:P.info? e=some i) (hz:i.zero=some z) (hsz:i.size=sz) (hzs:z.cells.size=sz) (hsz0:0<sz) (hby:i.bytes=bytes) (hb0:0<bytes) :
  Good P o ((AI.appO sz bytes as ax).pm C okr okw o.dst):=by
 intro Γ ρ bl st a w h hgz hd K hw Q
 subst hby
 simp only [AI.pm] at hw
 rw [ev_wp,ev_wp] at hw
 have es:=rep_ax hs h
 have ex:=rep_ax hx h
 split at hw
 ·rename_i zz k oo n m hv hm
  change (match rowD (st.get (.b k)) with | some (z',l)=>_ | none=>PM.fail).wp K st at hw
  split at hw
  ·rename_i z' l hrd
   obtain ⟨⟨q1,q2,q4,hbytes,hu⟩,hw⟩:=hw
   subst q2;subst q1
   have hw: ∀g:Bool,mvb k=true∧(Place.ok (st.kill k) (.b k) =true∧(setD o.dst (.rs zz k (cond g oo 0) (n+m.length))).wp K ((st.kill k).set (.b k) (.agg [.arr zz (cond g l (l.drop oo) ++m)]))):=hw
   have hk:=(hw true).1
   rw [hv] at es
   obtain ⟨cs,hbx,hro⟩:=get_b_row hrd
   have hu:=okz_cells ex hm hu
   obtain ⟨news,hnf,hxl,hxf⟩:=more_spec (P:=P) ex hm hu hsz
   have h1:=h.kill k
   have hno:=kill_no st k
   have hdl:(l.drop oo).length=n:=by rw [List.length_drop];omega
   have hlen47:n+m.length≤140737488355328:=Nat.le_trans (Nat.le_mul_of_pos_right _ hb0) hbytes
   have hml:(n+m.length:Nat)≤maxLen:=by simp only [maxLen];omega
   have hnl:news.length=m.length*zz:=hnf.vs_len
   have hrunA: ∀v' w',(Builtin.append_ #[t,tx] o.type #[a.eval s,a.eval x]).run P w= .ok v' w'→(execOp a.eval o).run P w= .ok (.value v') w':=fun v' w' hr=>by
    simp only [execOp,ho,resolve,invoke,builtin,Sem.run_bind,Sem.run_pure,Result.andThen_ok,List.map_toArray,List.map_cons,List.map_nil,hr]
   have fin: ∀(g:Bool) v' w' ρ' bl',(Builtin.append_ #[t,tx] o.type #[a.eval s,a.eval x]).run P w= .ok v' w'→SR Γ ρ' bl' ((st.kill k).set (.b k) (.agg [.arr zz (cond g l (l.drop oo) ++m)])) a.tmps w'→Fr w Γ ρ w' Γ ρ'→RowH ρ' bl' zz k (cond g oo 0) (n+m.length) v'→(∀b,b≠k→bl' b=bl b)→
     o.wp P a w (fun a' w'=>a'.defers= []∧After K Γ ρ bl w st a'.tmps w') Q:=by
    intro g v' w' ρ' bl' hr g1 g2 g3 g4
    unfold Oper.wp;rw [hrunA _ _ hr,Oper.upon_value]
    obtain ⟨st'',hK,hs'⟩:=setD_sound g1 (dst:=o.dst) (c:= .rs zz k (cond g oo 0) (n+m.length)) (v:=v') (fun d' e'=>g3) (fun b hb=>by
     have:k=b:=hb
     subst this;rw [St.bx_setBox,if_pos rfl];rfl) (hw g).2.2
    exact ⟨by rw [put_defers];exact hd,Γ,ρ',bl',st'',hK,by rw [put_tmps];exact hs',g2,fun b hb=>g4 b (by rintro rfl;exact mvb_no hk hb.1)⟩
   have grown: ∀(ba:Option Addr) (sCap:Nat) (vs:List Value),a.eval s= .slice ba n sCap→RepF Γ zz (l.drop oo) vs→(Builtin.firstCells i.size n (.slice ba n sCap)).run P w.drew= .ok vs.toArray w.drew→sCap<n+m.length→sCap≤9223372036854775807→
     o.wp P a w (fun a' w'=>a'.defers= []∧After K Γ ρ bl w st a'.tmps w') Q:=by
    intro ba sCap vs hv hvf hof hcap hcap2
    have hr:=run_append_grow_x (P:=P) w t tx o.type e i z d ht htx hd' hi hz ba n sCap m.length (a.eval x) vs news hxl (hxf _ h.agree) hof hcap (by omega) (growslice_fits (by omega) hbytes)
    have hall:=RepF.append hvf hnf
    have hge:=grownCap_ge w (n+m.length) sCap e
    obtain ⟨g1,g2⟩:=h1.newRow (k:=k) (sz:=zz) (cap:=grownCap w (n+m.length) sCap e) (l:=l.drop oo++m) (w':=w.drew.alloc (.cells (vs.toArray++news.toArray++Builtin.zeroCells z.cells (grownCap w (n+m.length) sCap e-(n+m.length))) e)) hno
     (fun g hg=>heap_alloc_old w.drew _ g hg) (by simp) (heap_alloc_new w.drew _) rfl rfl rfl (.inl rfl) (by
      simp only [Array.size_append,List.size_toArray,size_zeroCells,hzs,hvf.vs_len,hnl,hdl,←Nat.add_mul]
      congr 1;omega) (grownCap_le_maxLen w _ sCap e hml) (by rw [List.length_append,hdl];exact hge) (by
      have e3:(vs.toArray++news.toArray++Builtin.zeroCells z.cells (grownCap w (n+m.length) sCap e-(n+m.length))).toList.take ((l.drop oo++m).length*zz) =vs++news:=by
       simp only [Array.toList_append,List.append_assoc]
       rw [←List.append_assoc,List.length_append,Nat.add_mul,←hvf.vs_len,←hnl,←List.length_append]
       exact List.take_left
      rw [e3];exact hall)
    exact fin false _ _ _ _ (by rw [hv];exact hr) g1 g2 (.inr ⟨_,_,by show _=Value.slice (some ⟨_,0*zz,none⟩) _ _;rw [upd_same,Nat.zero_mul],hge,by rw [upd_same,upd_same],by show 0+_=_;omega⟩) fun b hb=>upd_ne _ _ hb
   have hk1:(st.kill k).bx k=some (cs.map (CV.kill1 k)):=by rw [St.kill_bx,hbx];rfl
   have hro1:rowOf (cs.map (CV.kill1 k)) =some (zz,l):=by rw [rowOf_kill];exact hro
   rcases (es:RowH ρ bl zz k oo n (a.eval s)) with ⟨hl0,hv'⟩ | ⟨c,cap,hv',hc1,hrole,hc2⟩
   ·subst hl0
    have hd0:l.drop oo= []:=List.eq_nil_of_length_eq_zero hdl
    obtain ⟨ao,hv'⟩ : ∃ao,a.eval s= .slice ao 0 0:=by
     rcases hv' with hv' | ⟨ad,hv'⟩
     ·exact ⟨_,hv'⟩
     ·exact ⟨_,hv'⟩
    by_cases hm0:m.length=0
    ·obtain rfl:m= []:=List.eq_nil_of_length_eq_zero hm0
     have hne:news= []:=List.eq_nil_of_length_eq_zero (by rw [hnl];simp)
     subst hne
     have h2:=h1.virtRow zz hno
     have hr:=run_append_none_x (P:=P) w t tx o.type e i d ht htx hd' hi ao (a.eval x) hxl (hxf _ h.agree)
     refine fin false _ _ ρ _ (by rw [hv'];exact hr) (by show SR _ _ _ ((st.kill k).set (.b k) (.agg [.arr zz (l.drop oo++ [])])) _ _;rw [hd0];exact h2) (.refl _ _ _) (.inl ⟨rfl, ?_⟩) fun b hb=>upd_ne _ _ hb
     cases ao with
     | none=>exact .inl rfl
     | some ad=>exact .inr ⟨ad,rfl⟩
    ·refine grown ao 0 [] hv' (by rw [hd0];exact ⟨by simp,by simp [flatten],rfl,by simp [flatten]⟩) ?_ (by simp;omega) (by omega)
     cases ao with
     | none=>simp [Builtin.firstCells]
     | some ad=>simp [Builtin.firstCells,loadCells,loadCellsFrom]
   ·obtain ⟨arr,ety,fz,hh,hfz,hcs,hcm,hle,hrf,h4⟩:=h.real hbx hro hrole
    have hmul0:oo*zz+n*zz=l.length*zz:=by rw [←Nat.add_mul,q4]
    by_cases hroom:n+m.length≤c
    ·have hmul:(l.length+m.length) *zz≤cap*zz:=Nat.mul_le_mul_right _ (by omega)
     have hfit:oo*zz+n*i.size+news.length≤arr.size:=by rw [hsz,hnl,hcs,hmul0,←Nat.add_mul];exact hmul
     have hr:=run_append_room_o (P:=P) w t tx o.type e i d ht htx hd' hi (bl k) (oo*zz) n c m.length arr ety fz hfz hh (a.eval x) news hxl (hxf _ h.agree) hnf.one hroom hfit
     rw [hsz,hmul0] at hr hfit
     have htk2:(arr.toList.take (l.length*zz) ++news++arr.toList.drop (l.length*zz+news.length)).take ((l++m).length*zz) =arr.toList.take (l.length*zz) ++news:=by
      rw [List.length_append,Nat.add_mul,←hnl,take_setRow _ _ _ (by simpa using hfit)]
     obtain ⟨g1,g2⟩:=h1.setRowEl hk1 hro1 hrole hh (arr':=(arr.toList.take (l.length*zz) ++news++arr.toList.drop (l.length*zz+news.length)).toArray) (by simp;omega) (l++m) (by rw [List.length_append];omega) (by
      show RepF Γ zz (l++m) ((arr.toList.take (l.length*zz) ++news++arr.toList.drop (l.length*zz+news.length)).take ((l++m).length*zz))
      rw [htk2];exact RepF.append hrf hnf)
     exact fin true _ _ _ _ (by rw [hv'];exact hr) g1 g2 (.inr ⟨c,cap,rfl,hroom,hrole,hc2⟩) fun _ _=>rfl
    ·refine grown (some ⟨bl k,oo*zz,none⟩) c _ hv' (hrf.drop oo) ?_ (by omega) (by simp only [maxLen] at hcm;omega)
     refine run_firstCells_some (P:=P) w.drew i.size n ⟨bl k,oo*zz,none⟩ n c _ (by rw [hsz,(hrf.drop oo).vs_len,hdl]) (fun j u hj=> ?_)
     rw [Addr.add_lit']
     show w.cell? _=_
     rw [List.getElem?_drop] at hj
     rw [cell_row hh];exact take_arr hj
  ·exact hw.elim
 ·exact hw.elim
theorem g_rowNK {k:Operand} {b sz:Nat} (ho:o.op= .move k∨o.op= .assign k) (hk:k= .const (.slice none 0 0)) :Good P o ((AI.rowNK b sz).pm C okr okw o.dst):=by
 subst hk
 intro Γ ρ bl st a w h hgz hd K hw Q
 simp only [AI.pm] at hw
 have hc: ∀v,a.eval (.const v) =v:=fun _=>rfl
 have hr:(execOp a.eval o).run P w= .ok (.value (.slice none 0 0)) w:=by rcases ho with ho | ho<;>simp [execOp,ho,hc]
 obtain ⟨st1,h1,hno,hw,hpr⟩:=newB_sound h hw
 have h2:=h1.virtRow sz hno
 unfold Oper.wp;rw [hr,Oper.upon_value]
 obtain ⟨st'',hK,hs'⟩:=setD_sound h2 (dst:=o.dst) (c:= .rs sz b 0 0) (v:= .slice none 0 0) (fun d' e'=> .inl ⟨rfl, .inl rfl⟩) (fun b' hb=>by
  have:b=b':=hb
  subst this;rw [St.bx_setBox,if_pos rfl];rfl) hw
 exact ⟨by rw [put_defers];exact hd,Γ,ρ,_,st'',hK,by rw [put_tmps];exact hs', .refl _ _ _,fun b' hb=>upd_ne _ _ (hpr b' hb)⟩
theorem mv1_ment1 {c:CV} {b:Nat} (h:c.mv1.ment1 b) :c.ment1 b:=by cases c<;>first | exact h | exact h.elim
theorem SR.moveT {Γ:Froz} {ρ:Nat→Role} {bl:Nat→Nat} {st:St} {tmps:Array Value} {w:World} (h:SR Γ ρ bl st tmps w) {p:Place} (hh: ∀i,¬Holds st p i) (q:Place) :
  ∃ρ':Nat→Role,SR Γ ρ' bl st tmps w∧Fr w Γ ρ w Γ ρ'∧(∀g i,ρ g= .own p i→ρ' g= .own q i)∧(∀g b z cap,ρ g= .row b z cap→ρ' g= .row b z cap):=by
 obtain ⟨ρ',hρ⟩ : ∃ρ':Nat→Role,ρ'=fun g=>match ρ g with | .own p' i=>if p'=p then .own q i else .own p' i | r=>r:=⟨_,rfl⟩
 have own: ∀g i,ρ g= .own p i→ρ' g= .own q i:=fun g i e=>by rw [hρ];simp [e]
 have row: ∀g b z cap,ρ g= .row b z cap→ρ' g= .row b z cap:=fun g b z cap e=>by rw [hρ];simp [e]
 have row': ∀g b z cap,ρ' g= .row b z cap→ρ g= .row b z cap:=fun g b z cap e=>by
  rw [hρ] at e
  simp only at e
  split at e
  ·split at e<;>cases e
  ·exact e
 have pl: ∀g,ρ g= .plain→ρ' g= .plain:=fun g e=>by rw [hρ];simp [e]
 refine ⟨ρ',h.keep (.refl _) h.agree (fun g p' i h1 h2=> ?_) (fun _ _=>rfl) (fun b g hb=> ?_) row' (fun g hg=> ?_),⟨.refl _,Nat.le_refl _,rfl,rfl,rfl,fun g _ hp=>⟨rfl,pl g hp⟩,fun _ _ h=> .inl h,fun g b z cap e _ _=>row g b z cap e⟩,own,row⟩
 ·have hne:p'≠p:=by rintro rfl;exact hh i h2
  refine ⟨?_,rfl,fun _=>rfl⟩
  rw [hρ];simp [h1,hne]
 ·refine ⟨?_,rfl,fun _=>rfl⟩
  have hno: ∀p i,ρ g≠ .own p i:=fun p i e=>hb.no e
  cases e:ρ g with
  | own p' i=>exact absurd e (hno _ _)
  | _=>rw [hρ];simp [e]
 ·refine h.rho g fun e=>hg (pl g e)
theorem RepC1.mv {Γ:Froz} {ρ ρ':Nat→Role} {bl:Nat→Nat} {w:World} {p q:Place} {i:Nat} {c:CV} {v:Value} (own: ∀g i,ρ g= .own p i→ρ' g= .own q i) (row: ∀g b z cap,ρ g= .row b z cap→ρ' g= .row b z cap) (h:RepC1 Γ ρ bl w p i c v) :RepC1 Γ ρ' bl w q i c.mv1 v:=by
 cases c with
 | own sz l=>
  rcases h with ⟨e,vs,h1,h2,h3⟩ | h
  ·exact .inl ⟨e,vs,h1,h2,fun g hg=>⟨own g i (h3 g hg).1,(h3 g hg).2⟩⟩
  ·exact .inr h
 | rs z k o n=>
  rcases h with h | ⟨c,cap,h1,h2,h3,h4⟩
  ·exact .inl h
  ·exact .inr ⟨c,cap,h1,h2,row _ _ _ _ h3,h4⟩
 | ea z k i off=>
  obtain ⟨h1,cap,h2,h3⟩:=h
  exact ⟨h1,cap,row _ _ _ _ h2,h3⟩
 | line cap l=>trivial
 | bld e f l=>trivial
 | sp b t=>trivial
 | arr z l=>trivial
 | _=>exact h
theorem g_movT {x:Operand} {ax:AX} (ho:o.op= .move x∨o.op= .assign x) (hx:trX x=some ax) :Good P o ((AI.movT ax).pm C okr okw o.dst):=by
 intro Γ ρ bl st a w h hgz hd K hw Q
 have hrun:(execOp a.eval o).run P w= .ok (.value (a.eval x)) w:=by rcases ho with ho | ho<;>simp [execOp,ho]
 simp only [AI.pm] at hw
 rw [ev_wp] at hw
 have e1:=rep_ax hx h
 have m1:=fun b hb=>ment_ax (b:=b) hx h hb
 split at hw
 ·rename_i l hl
  rw [hl] at e1 m1
  cases ax with
  | c cv=>
   simp only [AX.val] at hl
   cases x with
   | const u=>
    simp only [trX,Option.map_eq_some_iff] at hx
    obtain ⟨c',hc',e'⟩:=hx
    injection e' with e';subst e'
    rw [hl] at hc'
    exact absurd hc' (by unfold cvOf;split<;>simp)
   | func f=>simp only [trX,Option.some.injEq,AX.c.injEq] at hx;rw [←hx] at hl;cases hl
   | tmp n=>simp [trX] at hx
   | global g=>simp [trX] at hx
  | t n=>
   simp only [AX.val] at hl
   obtain ⟨hok,hw⟩:=hw
   have hn:n<st.s.length:=by simpa [Place.ok] using hok
   have hx':a.tmps[n]? =some (a.eval x):=by
    simp only [trX,Option.some.injEq,AX.t.injEq] at hx
    cases x with
    | tmp k=>
     simp only [trX,Option.some.injEq,AX.t.injEq] at hx;subst hx
     have:k<a.tmps.size:=by rw [h.len];exact hn
     simp [Act.eval,this]
    | _=>simp [trX] at hx
   have hs1:=h.viewSlot n (.tup (l.map CV.copy1)) (fun v hv'=>by
    rw [hx'] at hv';cases hv'
    exact RepC.copy (c:= .tup l) e1) (fun b hb=>m1 b (copy_ment (c:= .tup l) hb))
   have hh: ∀i,¬Holds (st.set (.s n) (.tup (l.map CV.copy1))) (.s n) i:=by
    intro i hi
    unfold Holds at hi
    rw [St.get_setSlot,if_pos ⟨rfl,hn⟩] at hi
    simp only [CV.comp,List.getD_eq_getElem?_getD,List.getElem?_map] at hi
    cases e:l[i]? with
    | none=>rw [e] at hi;simp [CV.held] at hi
    | some c=>rw [e] at hi;simp [copy1_held] at hi
   have fin: ∀q,∃ρ',SR Γ ρ' bl (st.set (.s n) (.tup (l.map CV.copy1))) a.tmps w∧Fr w Γ ρ w Γ ρ'∧RepC Γ ρ' bl w q (.tup (l.map CV.mv1)) (a.eval x):=by
    intro q
    obtain ⟨ρ',g1,g2,g3,g4⟩:=hs1.moveT hh q
    obtain ⟨vs,hv,hlen,hr⟩:=e1
    refine ⟨ρ',g1,g2,vs,hv,by simpa using hlen,fun i c v hc hv=> ?_⟩
    rw [List.getElem?_map,Option.map_eq_some_iff] at hc
    obtain ⟨c',hc',rfl⟩:=hc
    exact (hr i c' v hc' hv).mv g3 g4
   have hm: ∀b,CV.ment b (.tup (l.map CV.mv1))→((st.set (.s n) (.tup (l.map CV.copy1))).bx b).isSome=true:=fun b hb=>by
    obtain ⟨c,hc,hm⟩:=hb
    rw [List.mem_map] at hc
    obtain ⟨c',hc',rfl⟩:=hc
    exact m1 b ⟨c',hc',mv1_ment1 hm⟩
   cases hdst:o.dst with
   | none=>
    rw [hdst] at hw
    obtain ⟨ρ',g1,g2,_⟩:=fin (.s 0)
    unfold Oper.wp;rw [hrun]
    exact ⟨by rw [put_defers];exact hd,Γ,ρ',bl,_,hw,by rw [put_tmps,hdst];exact g1,g2,fun _ _=>rfl⟩
   | some d=>
    rw [hdst] at hw
    obtain ⟨ρ',g1,g2,g3⟩:=fin (.s d)
    unfold Oper.wp;rw [hrun]
    obtain ⟨st'',hK,hs⟩:=setD_sound g1 (dst:=some d) (c:= .tup (l.map CV.mv1)) (v:=a.eval x) (fun d' e=>by cases e;exact g3) hm hw
    exact ⟨by rw [put_defers];exact hd,Γ,ρ',bl,st'',hK,by rw [put_tmps,hdst];exact hs,g2,fun _ _=>rfl⟩
 ·exact hw.elim
end B
end Go.Proofs.YtmkkljbfmdngfaaGreatDoor
