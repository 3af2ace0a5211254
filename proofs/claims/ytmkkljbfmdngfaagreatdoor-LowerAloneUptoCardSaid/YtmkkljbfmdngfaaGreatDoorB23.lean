/- The evaluator for walks: guarded operations, lists of operations. No condition. -/
import Derived.Test.YtmkkljbfmdngfaaGreatDoorB22
set_option linter.all false
namespace Go.Proofs.YtmkkljbfmdngfaaGreatDoor
namespace B
variable {P:Program} {C:CallRel} {okr okw:Nat→Bool} {T:Tb} {dst:Option Nat} {es:ES} {st0:St} {K:ES→Prop} {Kst:St→Prop}
theorem callA_some {rs:List RC} {f:Nat} {args:List CV} {bs:List (Nat×List CV)} {W:Prop→Prop} {ro:Bool} {K:CV→List (Nat×List CV)→Prop} (h:callA C okr okw rs dst f args bs W ro K) : ∃r l,K r l:=by
 unfold callA at h
 generalize idsOf bs args=ids at h
 unfold callE at h
 split at h
 ·split at h
  ·split at h
   ·split at h
    ·exact h.elim
    obtain ⟨r,fr,h⟩:=exR_ex h
    split at h
    ·exact ⟨_,_,h.2⟩
    ·exact h.elim
   ·obtain ⟨objs',h⟩:=exObjs_ex h
    obtain ⟨r,fr,h⟩:=exR_ex h
    split at h
    ·exact ⟨_,_,h.2⟩
    ·exact h.elim
  ·exact h.elim
 ·exact h.elim
theorem callW_no {c:Bool} {rs:List RC} {f:Nat} {args:List CV} {bs:List (Nat×List CV)} {ids:List Nat} {K:CV→List (Nat×List CV)→Prop} (h:callW C okr okw rs dst f args bs ids c K) :killL f ids= []:=by
 unfold callW at h
 split at h
 ·split at h
  ·rename_i hc
   simp only [Bool.and_eq_true] at hc
   exact List.isEmpty_iff.1 hc.2
  ·exact h.elim
 ·exact h.elim
theorem callW_true {rs:List RC} {f:Nat} {args:List CV} {bs:List (Nat×List CV)} {ids:List Nat} {K:CV→List (Nat×List CV)→Prop} (h:callW C okr okw rs dst f args bs ids true K) :callE C okr okw rs dst f args bs ids (fun p=>p) false K:=by
 unfold callW at h
 unfold callE
 split at h
 ·rename_i objs ho
  split at h
  ·rename_i hc
   simp only [Bool.and_eq_true] at hc
   have hno:(killL f ids).isEmpty=true:=hc.2
   rw [if_pos (by simp only [Bool.and_eq_true];exact hc.1.1),if_neg (by simp [hc.1.2])]
   have ho:=getO_spec ho
   refine exObjs_mono (fun objs' h=>exR_mono (fun r fr h=> ?_) h) h
   cases fr with
   | nil=>
    change (if (objs'.map (·.1) ==ids) =true then _ else False) at h
    split at h
    ·rename_i hk
     rw [if_pos (by simp only [List.map_nil,List.append_nil,List.all_nil,Bool.true_and,Bool.and_eq_true,hno,Bool.true_or,and_true];exact ⟨by simpa using hc.1.1.2,hk⟩)]
     simp only [List.append_nil]
     exact ⟨h.1 rfl,h.2.2⟩
    ·exact h.elim
   | cons x l=>exact h.elim
  ·exact h.elim
 ·exact h.elim
theorem callW_false {rs:List RC} {f:Nat} {args:List CV} {bs:List (Nat×List CV)} {ids:List Nat} {K:CV→List (Nat×List CV)→Prop} (h:callW C okr okw rs dst f args bs ids false K) : ∃r l,(∀x∈l,bs.lookup x.1=some x.2)∧K r l:=by
 unfold callW at h
 split at h
 ·rename_i objs ho
  split at h
  ·obtain ⟨objs',h⟩:=exObjs_ex h
   obtain ⟨r,fr,h⟩:=exR_ex h
   cases fr with
   | nil=>
    change (if (objs'.map (·.1) ==ids) =true then _ else False) at h
    split at h
    ·obtain ⟨_,h2,h3⟩:=h
     have:=h2 rfl
     subst this
     exact ⟨r,_,(getO_spec ho).2,h3⟩
    ·exact h.elim
   | cons x l=>exact h.elim
  ·exact h.elim
 ·exact h.elim
theorem setB_same {b:Nat} {cs:List CV}: ∀{l:List (Nat×List CV)},l.lookup b=some cs→setB b cs l=l
 | [],h=>by cases h
 | (k,v) :: r,h=>by
  simp only [List.lookup] at h
  simp only [setB]
  split at h
  ·rename_i e;cases h;simp at e;subst e;simp
  ·rename_i e;rw [e];simp only [Bool.false_eq_true,if_false];rw [setB_same h]
theorem setAll_same: ∀{l:List (Nat×List CV)} {st:St},(∀x∈l,st.b.lookup x.1=some x.2)→setAll st l=st
 | [],_,_=>rfl
 | (b,cs) :: r,st,h=>by
  have e:st.set (.b b) (.agg cs) =st:=by
   simp only [St.set]
   rw [setB_same (h (b,cs) (by simp))]
  show setAll (st.set (.b b) (.agg cs)) r=st
  rw [e]
  exact setAll_same fun x hx=>h x (by simp [hx])
theorem setBs_guard (g:Nat) (w:Bool) : ∀(l:List (Nat×List CV)) (es:ES),(es.setBs l).guard g w=es.guard g w
 | [],_=>rfl
 | (b,cs) :: r,es=>(setBs_guard g w r (es.setB1 b cs)).trans rfl
theorem callG {f:Nat} {args:List CV} {rs:List RC} {p:Path} (hi:Inv st0 es) (hc: ∀v,K (es.putO dst (.cnd p true v))→Kst (es.den.setO dst v)) (h:callA C okr okw rs dst f args es.b (fun q=>true=true→q) true fun r l=>match l with | []=>K (es.putO dst (.cnd p true r)) | _=>False) :(callPM C okr okw dst f args).w0 Kst es.den:=by
 unfold callA at h
 generalize idsOf es.b args=ids at h
 refine callE_w0 (st:=es.den) (W:=fun q=>true=true→q) (K:=fun r l=>match l with | []=>K (es.putO dst (.cnd p true r)) | _=>False) (fun _ h=>h rfl) (fun r l hno hr=> ?_) h
 rw [hno rfl]
 cases l with
 | nil=>exact hc _ hr
 | cons x r=>exact hr.elim
theorem evO_w0 (hi:Inv st0 es) (hK: ∀es',Inv st0 es'→K es'→Kst es'.den) {o:AOp} (h:evO C okr okw T o es K) :o.w0 C okr okw Kst es.den:=by
 obtain ⟨dst,i,g⟩:=o
 unfold evO at h
 unfold AOp.w0
 cases g with
 | none=>exact evU_w0 hi hK h
 | some gw=>
  obtain ⟨g,w⟩:=gw
  dsimp only at h⊢
  split at h
  ·rename_i p c hg
   obtain ⟨r,hr,hrc⟩:=guard_spec hg
   rw [hr]
   dsimp only
   rw [hrc]
   cases c with
   | false=>
    rw [if_neg (by decide)]
    have fin: ∀v,K (es.putO dst (.cnd p false v))→(setD dst undefC).w0 Kst es.den:=fun v hv=>setD_w0.2 (by
     have:=hK _ (hi.putO_cnd dst hg v) hv
     rw [ES.putO_den] at this
     exact this)
    unfold evG at h
    split at h
    ·split at h
     ·exact fin _ (h true)
     ·exact fin _ (h true)
     ·exact fin _ h
     ·exact fin _ h
     ·exact fin _ (h true)
     ·exact h.elim
    ·split at h
     ·exact h.elim
     split at h
     ·obtain ⟨r,l,hl,h⟩:=callW_false h
      have:=hK _ ((hi.setBs l).putO_cnd dst (by rw [setBs_guard];exact hg) r) h
      rw [ES.putO_den,ES.setBs_den,setAll_same (st:=es.den) hl] at this
      exact setD_w0.2 this
     ·obtain ⟨r,l,h⟩:=callA_some h
      cases l with
      | nil=>exact fin _ h
      | cons x l=>exact h.elim
    ·split at h
     ·obtain ⟨r,l,h⟩:=callA_some h
      cases l with
      | nil=>exact fin _ h
      | cons x l=>exact h.elim
     ·obtain ⟨f,_,h⟩:=h
      obtain ⟨r,l,h⟩:=callA_some h
      cases l with
      | nil=>exact fin _ h
      | cons x l=>exact h.elim
     ·exact h.elim
    ·obtain ⟨v,hv⟩:=pv_some h
     have hv:=nameK_spec hv
     exact fin v hv
   | true=>
    rw [if_pos rfl]
    have hrd: ∀x,es.rd p x=x.val es.den:=rd_guard hi.i0 hg
    have fin: ∀v,K (es.putO dst (.cnd p true v))→Kst (es.den.setO dst v):=fun v hv=>by
     have:=hK _ (hi.putO_cnd dst hg v) hv
     rw [ES.putO_den] at this
     exact this
    unfold evG at h
    split at h
    ·simp only [AI.pm]
     rw [ev_w0,←hrd]
     split at h
     ·rename_i e;rw [e];exact fun b=>setD_w0.2 (fin _ (h b))
     ·rename_i e;rw [e];exact fun b=>setD_w0.2 (fin _ (h b))
     ·rename_i e;rw [e];exact setD_w0.2 (fin _ h)
     ·rename_i e;rw [e];exact setD_w0.2 (fin _ h)
     ·rename_i e;rw [e];exact fun b=>setD_w0.2 (fin _ (h b))
     ·exact h.elim
    ·rename_i f args oi
     split at h
     ·exact h.elim
     ·rename_i hov
      simp only [AI.pm]
      rw [evL_w0]
      have e1:(args.map (·.1)).map (AX.val es.den) =args.map fun a=>es.rd p a.1:=by simp [hrd]
      rw [e1]
      have strp: ∀{k:PM},k.w0 Kst es.den→(stripA oi args (args.map fun a=>es.rd p a.1) k).w0 Kst es.den:=by
       intro k hk
       cases oi with
       | none=>exact hk
       | some i=>
        simp only [stripA]
        simp only [overA] at hov
        rw [if_neg hov]
        exact hk
      refine strp ?_
      split at h
      ·have h2: ∀(r:CV) (l:List (Nat×List CV)),K ((es.setBs l).putO dst (.cnd p true r))→Kst ((setAll es.den l).setO dst r):=by
        intro r l hr
        have:=hK _ ((hi.setBs l).putO_cnd dst (by rw [setBs_guard];exact hg) r) hr
        rwa [ES.putO_den,ES.setBs_den] at this
       have hno:=callW_no h
       have h3:=callW_true h
       generalize idsOf es.b _=ids at h3 hno
       exact callE_w0 (st:=es.den) (W:=fun p=>p) (K:=fun r l=>K ((es.setBs l).putO dst (.cnd p true r))) (fun _ h=>h) (fun r l _ hr=>by rw [hno];exact h2 r l hr) h3
      ·exact callG hi fin h
    ·simp only [AI.pm]
     rw [ev_w0,evL_w0,←argsV_eq hrd,←hrd]
     split at h
     ·rename_i f caps e
      rw [e]
      exact callG hi fin h
     ·rename_i y e
      obtain ⟨f,h1,h⟩:=h
      rw [e,h1 rfl]
      exact callG hi fin h
     ·exact h.elim
    ·exact pv_w0 (rd:=fun q=>es.rd (p++q)) (W:=fun q=>true=true→q) (K:=fun v=>nameK i v fun v=>K (es.putO dst (.cnd p true v))) (fun _ h=>h rfl) (fun x=>by simp only [List.append_nil];exact hrd x) (fun s t ht x=>rd_pick hi.i0 (.inr ⟨g,w,hg⟩) ht x) (fun v hv=>fin v (nameK_spec hv)) h
  ·exact h.elim
theorem evOps_w0: ∀(l:List AOp) (es:ES),Inv st0 es→(∀es',Inv st0 es'→K es'→Kst es'.den)→evOps C T l K es→opsW0 C l Kst es.den
 | [],es,hi,hK,h=>hK es hi h
 | o :: r,es,hi,hK,h=>by
  show o.w0 C okT okT (opsW0 C r Kst) es.den
  exact evO_w0 (K:=fun es=>forceE es (evOps C T r K)) hi (fun es' hi' h'=>evOps_w0 r es' hi' hK (by rwa [forceE_eq] at h')) h
theorem evDraw_w0 {M A:List Nat}: ∀(l:List AOp) (cls:List Nat) (es:ES),Inv st0 es→(∀es',Inv st0 es'→K es'→Kst es'.den)→evDraw C T M A l cls K es→drawW0 C M A l cls Kst es.den
 | [],_,es,hi,hK,h=>hK es hi h
 | o :: r,cls,es,hi,hK,h=>by
  show o.w0 C (okrOf M A (cls.headD 0)) (okwOf M A (cls.headD 0)) (drawW0 C M A r cls.tail Kst) es.den
  exact evO_w0 (K:=fun es=>forceE es (evDraw C T M A r cls.tail K)) hi (fun es' hi' h'=>evDraw_w0 r cls.tail es' hi' hK (by rwa [forceE_eq] at h')) h
end B
end Go.Proofs.YtmkkljbfmdngfaaGreatDoor
