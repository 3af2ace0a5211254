/- Each instruction does what the abstract one says: equality of structs, a mark. No condition. -/
import Derived.Test.YtmkkljbfmdngfaaGreatDoorB10
import Derived.Laws.StructEq
set_option linter.all false
namespace Go.Proofs.YtmkkljbfmdngfaaGreatDoor
namespace B
open Go.RowKit
variable {P:Program} {C:CallRel} {okr okw:Nat→Bool} {o:Oper}
def kdT (P:Program) (t:TypeId) :Option Nat:=match P.underlying t with
 | some (.int _)=>some 0
 | some .string=>some 1
 | some .bool=>some 2
 | _=>none
theorem run_eqFields {Γ:Froz} (w:World) (d:Nat) (xs ys:List Value) : ∀(fs:List Field) (k:Nat) (p q:List D) (ks:List Nat) (r:Bool),eqCells p q=some r→p.map D.kd=ks→q.map D.kd=ks→fs.map (fun f=>(f.offset,kdT P f.type,f.name=="_")) =(ks.zipIdx k).map (fun y=>(y.2,some y.1,false))→
  (∀(i:Nat) x v,p[i]? =some x→xs[k+i]? =some v→Rep Γ x v)→(∀(i:Nat) x v,q[i]? =some x→ys[k+i]? =some v→Rep Γ x v)→k+p.length=xs.length→k+q.length=ys.length→
  (Op.eqFields (d+1) xs.toArray ys.toArray fs).run P w= .ok r w
 | fs,k,[],q,ks,r,he,hp,hq,hf,hx,hy,hlx,hly=>by
  subst hp
  obtain rfl:fs= []:=by simpa using hf
  obtain rfl:q= []:=by simpa using hq
  simp only [eqCells,Option.some.injEq] at he;subst he
  simp [Op.eqFields]
 | fs,k,x :: p,q,ks,r,he,hp,hq,hf,hx,hy,hlx,hly=>by
  subst hp
  cases q with
  | nil=>simp [eqCells] at he
  | cons y q=>
   cases fs with
   | nil=>simp at hf
   | cons f fs=>
    simp only [List.map_cons,List.zipIdx_cons,List.cons.injEq,Prod.mk.injEq] at hf hq
    obtain ⟨⟨ho,hk,hn⟩,hf⟩:=hf
    obtain ⟨hq0,hq⟩:=hq
    simp only [eqCells] at he
    split at he
    ·rename_i a b ha hb
     simp only [Option.some.injEq] at he;subst he
     have hkx:k<xs.length:=by rw [←hlx];simp
     have hky:k<ys.length:=by rw [←hly];simp
     have rx:=hx 0 x xs[k] rfl (List.getElem?_eq_getElem hkx)
     have ry:=hy 0 y ys[k] rfl (List.getElem?_eq_getElem hky)
     have ih:=run_eqFields w d xs ys fs (k+1) p q _ b hb rfl hq hf (fun i z v h1 h2=>hx (i+1) z v h1 (by rwa [show k+1+i=k+(i+1) by omega] at h2)) (fun i z v h1 h2=>hy (i+1) z v h1 (by rwa [show k+1+i=k+(i+1) by omega] at h2)) (by simp at hlx;omega) (by simp at hly;omega)
     have hn':f.name≠"_":=by simpa using hn
     have hag:isAggT P f.type=some false:=by
      unfold kdT at hk;unfold isAggT
      cases hu:P.underlying f.type with
      | none=>rw [hu] at hk;cases hk
      | some u=>rw [hu] at hk;cases u<;>first | rfl | cases hk
     have px:(part f.type xs.toArray f.offset).run P w= .ok xs[k] w:=by simp [part,run_isAgg hag,ho,hkx]
     have py:(part f.type ys.toArray f.offset).run P w= .ok ys[k] w:=by simp [part,run_isAgg hag,ho,hky]
     have heq:(Op.equalIn (d+1) f.type xs[k] ys[k]).run P w= .ok a w:=by
      generalize xs[k]=u at rx⊢;generalize ys[k]=v at ry⊢
      unfold kdT at hk
      cases x<;>cases y<;>simp only [eqCell] at ha<;>(try cases ha)<;>cases rx<;>cases ry
      ·simp only [D.kd] at hk
       cases hu:P.underlying f.type with
       | none=>rw [hu] at hk;cases hk
       | some t=>rw [hu] at hk;cases t<;>simp at hk;exact run_equalIn_bool w d f.type _ _ hu
      ·simp only [D.kd] at hk
       split at ha
       ·rename_i hkk;subst hkk;cases ha
        cases hu:P.underlying f.type with
        | none=>rw [hu] at hk;cases hk
        | some t=>rw [hu] at hk;cases t<;>simp at hk;exact run_equalIn_int w d f.type _ _ _ _ hu
       ·cases ha
      ·simp only [D.kd] at hk
       cases hu:P.underlying f.type with
       | none=>rw [hu] at hk;cases hk
       | some t=>
        rw [hu] at hk;cases t<;>simp at hk
        rw [run_equalIn_string w d f.type _ _ hu,toList_mk,toList_mk]
     rw [Op.eqFields]
     simp only [if_pos hn',Sem.run_bind,px,py,heq,Result.andThen_ok]
     cases a
     ·simp
     ·simpa using ih
    ·cases he
theorem g_eqAgg {x y:Operand} {ax ay:AX} {t t':TypeId} {fs:Array Field} {ks:List Nat} (ng:Bool) (ho:o.op= .binOp (if ng then .neq else .eql) t x y t') (hx:trX x=some ax) (hy:trX y=some ay) (ht:P.underlying t=some (.struct fs)) (hs:P.stoodInHeld t=false) (hg:P.eqGuardType P.depth t=false)
  (hf:fs.toList.map (fun f=>(f.offset,kdT P f.type,f.name=="_")) =ks.zipIdx.map (fun y=>(y.2,some y.1,false))) :Good P o ((AI.eqAgg ng ks ax ay).pm C okr okw o.dst):=by
 intro Γ ρ bl st a w h hgz hd K hw Q
 simp only [AI.pm] at hw
 rw [ev_wp,ev_wp] at hw
 split at hw
 ·rename_i p q h1 h2
  split at hw
  ·rename_i r hr
   obtain ⟨⟨hp,hq⟩,hw⟩:=hw
   have e1:=rep_ax hx h
   rw [h1] at e1
   have e1:Rep Γ (.agg p) (a.eval x):=e1
   have e2:=rep_ax hy h
   rw [h2] at e2
   have e2:Rep Γ (.agg q) (a.eval y):=e2
   generalize hu:a.eval x=u at e1
   generalize hv:a.eval y=v at e2
   cases e1 with
   | agg _ xs hl1 hf1 hr1=>
    cases e2 with
    | agg _ ys hl2 hf2 hr2=>
     have hfo:P.fieldsOf t=fs:=by simp [Program.fieldsOf,ht]
     have hrun:=run_eqFields (P:=P) w 9998 xs ys fs.toList 0 p q ks r hr hp hq hf (fun i x v a b=>hr1 i x v a (by simpa using b)) (fun i x v a b=>hr2 i x v a (by simpa using b)) (by simpa using hl1) (by simpa using hl2)
     have heq:=run_equalIn_struct (P:=P) w 9999 t xs.toArray ys.toArray (by rw [hfo];exact ht) hs
     rw [hfo,hrun] at heq
     refine good_data (v:= .bool (r !=ng)) h hd ?_ (.bool _) hw
     cases ng
     ·simp only [execOp,ho,hu,hv,Sem.run_bind,Bool.false_eq_true,if_false,run_eqGuard_agg w _ t x y _ _ hg,Result.andThen_ok,run_eql_struct,heq]
      simp
     ·simp only [execOp,ho,hu,hv,Sem.run_bind,if_true,run_eqGuard_agg w _ t x y _ _ hg,Result.andThen_ok,run_neq_struct,heq]
      simp
  ·exact hw.elim
 ·exact hw.elim
theorem g_stringish {x:Operand} {ax:AX} {t e:TypeId} (ho:o.op= .convert t t x) (ht:P.underlying t=some (.slice e)) (he:P.underlying e=some (.int .u8)) (hx:trX x=some ax) :Good P o ((AI.stringish ax).pm C okr okw o.dst):=by
 intro Γ ρ bl st a w h hgz hd K hw Q
 simp only [AI.pm] at hw
 rw [ev_wp] at hw
 split at hw
 ·rename_i sz l hl
  obtain ⟨hne,hw⟩:=hw
  cases ax with
  | c cv=>
   simp only [AX.val] at hl
   cases x with
   | const u=>
    simp only [trX,Option.map_eq_some_iff] at hx
    obtain ⟨c',hc',e'⟩:=hx
    injection e' with e';subst e'
    rw [hl] at hc'
    exact absurd hc' (by unfold cvOf;split<;>simp)
   | func f=>simp only [trX,Option.some.injEq,AX.c.injEq] at hx;rw [←hx] at hl;cases hl
   | tmp n=>simp [trX] at hx
   | global g=>simp [trX] at hx
  | t n=>
   simp only [AX.val] at hl hw
   rw [hl] at hw
   have hn:n<st.s.length:=by have:=hw.1;simpa [Place.ok] using this
   obtain ⟨ρ',st',g1,g2,g3,g4,hst'⟩:=strip_sound h hx hl hw (.s n) 1
   rcases g2 with ⟨e',vs,hown,hf,hg⟩ | ⟨h0,_⟩
   ·rcases hown.2 with ⟨_,h0⟩ | ⟨g,cap,cur,hv,⟨fz,hok,hheap⟩,hnc,hcm,hcs,htk⟩
    ·exact absurd (List.eq_nil_of_length_eq_zero h0) hne
    ·obtain ⟨hr,hΓ⟩:=hg g (by rw [hv];rfl)
     have hsh:w.shape? g=some (e',cur.size):=by simp [World.shape?,hheap]
     have hrun:(execOp a.eval o).run P w= .ok (.value (a.eval x)) (w.freeze ⟨g,cur.size,none⟩ 1):=by
      simp [execOp,ho,hv,convert,run_underlying ht,run_underlying he,markStringish,hsh]
     have hfz: ∃fz',OkFz fz' cur.size∧(w.freeze ⟨g,cur.size,none⟩ 1).heap[g]? =some (.cells cur e' fz'):=by
      refine ⟨if fz.1=fz.2 then (cur.size,cur.size+1) else (min fz.1 cur.size,max fz.2 (cur.size+1)), ?_, ?_⟩
      ·split
       ·exact .inr (Nat.le_refl _)
       ·rename_i hne'
        rcases hok with rfl | hok
        ·exact absurd rfl hne'
        ·exact .inr (by simp only;omega)
      ·simp only [World.freeze]
       rw [if_neg (by decide)]
       simp [Array.getElem?_modify,hheap]
     obtain ⟨fz',hok',hfz⟩:=hfz
     have hoth: ∀k,k≠g→(w.freeze ⟨g,cur.size,none⟩ 1).heap[k]? =w.heap[k]? :=by
      intro k hk
      simp only [World.freeze]
      rw [if_neg (by decide)]
      simp only [Array.getElem?_modify]
      rw [if_neg (Ne.symm hk)]
     have hsize:(w.freeze ⟨g,cur.size,none⟩ 1).heap.size=w.heap.size:=by
      simp only [World.freeze];rw [if_neg (by decide)];simp
     have hcell: ∀ad v,w.cell? ad=some v→(w.freeze ⟨g,cur.size,none⟩ 1).cell? ad=some v:=by
      intro ad v hv'
      by_cases hb:ad.block=g
      ·simp only [World.cell?,hb,hheap] at hv'
       simp only [World.cell?,hb,hfz];exact hv'
      ·rw [World.cell?_of_block (hoth _ hb)];exact hv'
     have hnh: ∀g' p i,ρ' g'= .own p i→Holds st' p i→g'≠g:=by
      rintro g' p i h1 h2 rfl
      rw [hr] at h1;cases h1
      unfold Holds at h2
      rw [hst',St.get_setSlot,if_pos ⟨rfl,hn⟩] at h2
      cases h2
     have hs1:SR Γ ρ' bl st' a.tmps (w.freeze ⟨g,cur.size,none⟩ 1):=by
      refine g1.keep (.refl _) (fun ad v ha=>hcell _ _ (g1.agree ad v ha)) (fun g' p i h1 h2=>⟨rfl,hoth _ (hnh g' p i h1 h2),fun _=>rfl⟩) (fun _ _=>rfl) (fun b g' hx=>⟨rfl,hoth _ (by rintro rfl;exact hx.no hr),fun _=>rfl⟩) (fun _ _ _ _ e=>e) fun g' hg'=>by rw [hsize];exact g1.rho g' hg'
     have hfr:Fr w Γ ρ' (w.freeze ⟨g,cur.size,none⟩ 1) Γ ρ':=by
      have hos:(w.freeze ⟨g,cur.size,none⟩ 1).os=w.os∧(w.freeze ⟨g,cur.size,none⟩ 1).tape=w.tape∧(w.freeze ⟨g,cur.size,none⟩ 1).output=w.output:=by
       simp only [World.freeze];rw [if_neg (by decide)];exact ⟨rfl,rfl,rfl⟩
      exact ⟨.refl _,by rw [hsize];exact Nat.le_refl _,hos.1,hos.2.1,hos.2.2,fun g' _ hp=>⟨hoth _ (by rintro rfl;rw [hr] at hp;cases hp),hp⟩,fun _ _ h=> .inl h,fun _ _ _ _ e _ _=>e⟩
     have how:Own Γ ρ' (w.freeze ⟨g,cur.size,none⟩ 1) (.s n) 1 sz l (a.eval x):= .inl ⟨e',vs,⟨hown.1, .inr ⟨g,cap,cur,hv,⟨_,hok',hfz⟩,hnc,hcm,hcs,htk⟩⟩,hf,hg⟩
     have hnh1: ¬Holds st' (.s n) 1:=by
      unfold Holds
      rw [hst',St.get_setSlot,if_pos ⟨rfl,hn⟩]
      simp [CV.comp,CV.held]
     obtain ⟨ρ2,k1,k2,k3⟩:=hs1.give how hnh1 (.s (o.dst.getD 0)) 0
     unfold Oper.wp;rw [hrun,Oper.upon_value]
     obtain ⟨st'',hK,hs'⟩:=setD_sound k1 (dst:=o.dst) (c:= .own sz l) (v:=a.eval x) (fun d' e'=>by
      have e2:o.dst.getD 0=d':=by rw [e'];rfl
      rw [e2] at k2;exact k2) (fun b hb=>hb.elim) g4
     exact ⟨by rw [put_defers];exact hd,Γ,ρ2,bl,st'',hK,by rw [put_tmps];exact hs',(g3.trans hfr).trans k3,fun _ _=>rfl⟩
   ·exact absurd h0 hne
 ·exact hw.elim
end B
end Go.Proofs.YtmkkljbfmdngfaaGreatDoor
