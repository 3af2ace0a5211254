/- The evaluator for walks is right. No condition. -/
import Derived.Test.YtmkkljbfmdngfaaGreatDoorB24
set_option linter.all false
namespace Go.Proofs.YtmkkljbfmdngfaaGreatDoor
namespace B
variable {P:Program} {C:CallRel} {T:Tb} {An:Nat→AC→ES→Option Hd} {X:List Nat}
theorem ES.den_bx (es:ES) (b:Nat) :es.den.bx b=es.b.lookup b:=rfl
theorem getK_none {k:Key}: ∀{l:List (Key×Sh)} {cs:List CV},exact1 (l.map (·.2)) cs→(getK k l cs=none↔k∉l.map (·.1))
 | [],[],_=>by simp [getK]
 | [],_ :: _,h=>h.elim
 | _ :: _,[],h=>h.elim
 | (k',s) :: r,c :: cs,h=>by
  simp only [getK,List.map_cons,List.mem_cons,not_or]
  by_cases e:k'=k
  ·simp [e]
  ·rw [if_neg e,getK_none h.2]
   constructor
   ·exact fun h=>⟨fun hh=>e hh.symm,h⟩
   ·exact fun h=>h.2
structure Base (es:ES) (hd:Hd) (st0:St) :Prop where
 len:st0.s.length=es.s.length
 sl: ∀n,n∉hd.md→st0.get (.s n) =es.den.get (.s n)
 bx: ∀b,b∉hd.bs→st0.bx b=es.b.lookup b
theorem headE_len (es:ES) (hd:Hd) (cs:List CV) :(headE es hd cs).s.length=es.s.length:=by simp [headE]
theorem headE_at (es:ES) (hd:Hd) (cs:List CV) (n:Nat) (h:n<es.s.length) :(headE es hd cs).at n=headS es hd cs n:=by
 simp [headE,ES.at,List.getD_eq_getElem?_getD,h]
theorem headE_bx (es:ES) (hd:Hd) (cs:List CV) (b:Nat) :(headE es hd cs).b.lookup b=(es.b.lookup b).map fun l=>l.zipIdx.map fun y=>headC hd cs b y.2 y.1:=by
 simp only [headE]
 induction es.b with
 | nil=>rfl
 | cons x r ih=>
  obtain ⟨k,l⟩:=x
  simp only [List.map_cons,List.lookup]
  split
  ·rename_i e
   have:b=k:=by simpa using e
   subst this;rfl
  ·exact ih
theorem zipIdx_id (l:List CV) (k:Nat) :(l.zipIdx k).map (fun y=>y.1) =l:=by
 induction l generalizing k with
 | nil=>rfl
 | cons x r ih=>simp [List.zipIdx_cons,ih]
theorem headE_bx_same (es:ES) (hd:Hd) (cs:List CV) (b:Nat) (h:b∉hd.bs) :(headE es hd cs).b.lookup b=es.b.lookup b:=by
 rw [headE_bx]
 have: ∀l:List CV,(l.zipIdx.map fun y=>headC hd cs b y.2 y.1) =l:=fun l=>by
  have e:(fun y:CV×Nat=>headC hd cs b y.2 y.1) =fun y=>y.1:=by
   funext y
   unfold headC
   rw [if_neg (by simpa using h)]
  rw [e,zipIdx_id]
 cases es.b.lookup b with
 | none=>rfl
 | some l=>simp [this]
theorem base_self (es:ES) (hd:Hd) :Base es hd es.den:=⟨by simp [ES.den],fun _ _=>rfl,fun _ _=>rfl⟩
theorem crOk {hd:Hd} (h:(hd.cr.all fun x=>match x.1 with | .s n=>hd.md.contains n | .c b _=>hd.bs.contains b) =true) :(∀n,Key.s n∈hd.cr.map (·.1)→n∈hd.md):=by
 intro n hn
 obtain ⟨x,hx,e⟩:=List.mem_map.1 hn
 have:=List.all_eq_true.1 h x hx
 rw [e] at this
 simpa using this
theorem headE_get (es:ES) (hd:Hd) (cs:List CV) (hcr: ∀n,Key.s n∈hd.cr.map (·.1)→n∈hd.md) (he:exact1 (hd.cr.map (·.2)) cs) (n:Nat) (hn:n∉hd.md) :(headE es hd cs).den.get (.s n) =es.den.get (.s n):=by
 rw [ES.den_get,ES.den_get]
 by_cases h:n<es.s.length
 ·rw [headE_at es hd cs n h]
  have:getK (.s n) hd.cr cs=none:=(getK_none he).2 fun hm=>hn (hcr n hm)
  simp only [headS,this]
  rw [if_neg (by simpa using hn)]
  rfl
 ·have e1:(headE es hd cs).at n= .v .junk:=by
   simp only [ES.at,List.getD_eq_getElem?_getD]
   rw [List.getElem?_eq_none (by rw [headE_len];omega)];rfl
  have e2:es.at n= .v .junk:=by
   simp only [ES.at,List.getD_eq_getElem?_getD]
   rw [List.getElem?_eq_none (by omega)];rfl
  rw [e1,e2]
theorem base_head (es:ES) (hd:Hd) (cs:List CV) (hcr: ∀n,Key.s n∈hd.cr.map (·.1)→n∈hd.md) (he:exact1 (hd.cr.map (·.2)) cs) :Base es hd (headE es hd cs).den:=
 ⟨by simp [ES.den,headE_len],fun n hn=>headE_get es hd cs hcr he n hn,fun b hb=>headE_bx_same es hd cs b hb⟩
theorem inv_head (es:ES) (hd:Hd) (cs:List CV) :Inv (headE es hd cs).den (headE es hd cs):=by
 refine ⟨fun n p c x hn=> ?_,by simp [ES.den],fun _ _=>rfl,fun _ _=>rfl⟩
 exfalso
 by_cases h:n<es.s.length
 ·rw [headE_at es hd cs n h] at hn
  unfold headS at hn
  split at hn
  ·cases hn
  ·split at hn<;>cases hn
 ·have e1:(headE es hd cs).at n= .v .junk:=by
   simp only [ES.at,List.getD_eq_getElem?_getD]
   rw [List.getElem?_eq_none (by rw [headE_len];omega)];rfl
  rw [e1] at hn;cases hn
theorem keptE_spec {es es':ES} {K:Prop}: ∀{l:List (Nat×Nat)},keptE es es' l K→(∀x∈l,keyV es' (.c x.1 x.2) =keyV es (.c x.1 x.2))∧K
 | [],h=>⟨by simp,h⟩
 | (b,i) :: r,h=>by
  obtain ⟨h1,h2⟩:=h
  obtain ⟨h3,h4⟩:=keptE_spec h2
  exact ⟨fun x hx=>by rcases List.mem_cons.1 hx with rfl | hx;exact h1;exact h3 x hx,h4⟩
theorem WcL_of {l m:List CV} (hl:l.length=m.length) (h: ∀(i:Nat) (c c':CV),l[i]? =some c→m[i]? =some c'→Wc c c') :WcL l m:=by
 induction l generalizing m with
 | nil=>cases m with
  | nil=>trivial
  | cons _ _=>simp at hl
 | cons c r ih=>cases m with
  | nil=>simp at hl
  | cons c' r'=>exact ⟨h 0 c c' rfl rfl,ih (by simpa using hl) fun i a b ha hb=>h (i+1) a b (by simpa using ha) (by simpa using hb)⟩
theorem WcB_of {bs:List (Nat×List CV)}: ∀{l:List (Nat×List CV)},(∀x∈l,∃cs',bs.lookup x.1=some cs'∧WcR cs' x.2)→WcB bs l
 | [],_=>trivial
 | (b,cs) :: r,h=>by
  obtain ⟨cs',h1,h2⟩:=h (b,cs) (by simp)
  exact ⟨by rw [h1];exact h2,WcB_of fun x hx=>h x (by simp [hx])⟩
theorem lookup_of_mem {l:List (Nat×List CV)} (hn:(l.map (·.1)).Nodup) {x:Nat×List CV} (h:x∈l) :l.lookup x.1=some x.2:=lookup_nodup hn h
theorem cloH_spec {es:ES} {hd:Hd} {cs:List CV} (h:cloH es hd cs=true) :(headE es hd cs).den.clo=true:=by
 have hk:(headE es hd cs).b.map (·.1) =es.b.map (·.1):=by simp [headE]
 simp only [cloH,Bool.and_eq_true] at h
 have hk2:(headE es hd cs).den.b.map (·.1) =es.b.map (·.1):=hk
 simp only [St.clo,Bool.and_eq_true,hk2]
 refine ⟨?_,h.2⟩
 rw [List.all_eq_true]
 intro c hc
 have hc:c∈((List.range es.s.length).map (headS es hd cs)).map EC.den:=hc
 rw [List.map_map,List.mem_map] at hc
 obtain ⟨n,hn,rfl⟩:=hc
 have hn:=List.all_eq_true.1 h.1 n hn
 simp only [Function.comp,headS]
 split at hn
 ·exact hn
 ·split
  ·rfl
  ·rename_i hmd
   have hmd:hd.md.contains n=false:=by simpa using hmd
   rw [hmd,Bool.false_or] at hn
   show CV.inB _ (es.at n).den=true
   unfold EC.inB at hn
   split at hn
   ·rename_i x e2;rw [e2];exact hn
   ·rename_i p c x e2
    rw [e2]
    simp only [EC.den]
    split
    ·exact hn
    ·rfl
def isArr:CV→Bool
 | .arr _ _=>true
 | _=>false
theorem normV_arr {s:Sh} {c c':CV} (h:normV s c=some c') (ha:isArr c=true∨isArr c'=true) :c=c':=by
 unfold normV at h
 split at h<;>first
  | (split at h<;>first | (cases h;simp [isArr] at ha;done) | (rename_i e;subst e;cases h;rfl) | cases h)
  | (cases h;simp [isArr] at ha;done)
  | (cases h;rfl)
  | cases h
theorem getK_norm {es:ES} {k:Key} {c:CV}: ∀{l:List (Key×Sh)} {cs:List CV},curV es l=some cs→getK k l cs=some c→∃s,normV s (keyV es k) =some c
 | [],cs,h,hk=>by cases hk
 | (k',s) :: r,cs,h,hk=>by
  simp only [curV] at h
  split at h
  ·rename_i c' cs' hc hcs
   cases h
   simp only [getK] at hk
   split at hk
   ·rename_i e;subst e;cases hk;exact ⟨s,hc⟩
   ·exact getK_norm hcs hk
  ·cases h
theorem row_eq {l m:List CV} (hl:l.length=m.length) (h: ∀c c',l= [c]→m= [c']→(isArr c=true∨isArr c'=true)→c=c') :rowOf l=rowOf m:=by
 match l,m,hl with
 | [],[],_=>rfl
 | [c],[c'],_=>
  by_cases ha:isArr c=true∨isArr c'=true
  ·rw [h c c' rfl rfl ha]
  ·have n1: ∀x:CV,¬isArr x=true→rowOf [x]=none:=by
    intro x hx
    cases x<;>first | rfl | exact absurd rfl hx
   rw [n1 c fun e=>ha (.inl e),n1 c' fun e=>ha (.inr e)]
 | a :: b :: r,a' :: b' :: r',_=>
  have n2: ∀(x y:CV) (t:List CV),rowOf (x :: y :: t) =none:=fun x y t=>by cases x<;>rfl
  rw [n2,n2]
theorem toHead_spec {es es':ES} {hd:Hd} {st0:St} {K:List CV→Prop} (hb:Base es hd st0) (hi:Inv st0 es') (h:toHead X es hd es' K) :
  (∀n,Key.s n∈hd.cr.map (·.1)→n∈hd.md)∧∃cs,exact1 (hd.cr.map (·.2)) cs∧K cs∧Wk X es'.den (headE es hd cs).den:=by
 unfold toHead at h
 split at h
 ·rename_i cs hcs
  split at h
  ·rename_i hc
   simp only [Bool.and_eq_true,decide_eq_true_eq] at hc
   obtain ⟨⟨⟨⟨⟨⟨⟨c1,c2⟩,c3⟩,c4⟩,c5⟩,c8⟩,c6⟩,c7⟩:=hc
   obtain ⟨hk,hK⟩:=keptE_spec h
   have hex:=curV_exact hcs
   have hcr:=crOk c6
   refine ⟨hcr,cs,hex,hK, ?_, ?_,cloH_spec c3, ?_⟩
   ·refine WcL_of (by simp [ES.den,headE_len,hi.len,hb.len]) fun n c c' h1 h2=> ?_
    have e1:es'.den.get (.s n) =c:=by simp only [St.get,List.getD_eq_getElem?_getD,h1,Option.getD_some]
    have e2:(headE es hd cs).den.get (.s n) =c':=by simp only [St.get,List.getD_eq_getElem?_getD,h2,Option.getD_some]
    have hn:n<es.s.length:=by
     have:=(List.getElem?_eq_some_iff.1 h2).1
     simpa [ES.den,headE_len] using this
    rw [←e1,←e2,ES.den_get (headE es hd cs),headE_at es hd cs n hn]
    unfold headS
    split
    ·rename_i c0 hk0
     have:=getK_cur hcs hk0
     rw [ES.den_get]
     exact this
    ·rename_i hk0
     split
     ·trivial
     ·rename_i hmd
      have hmd:n∉hd.md:=by simpa using hmd
      have hw:n∉es'.w:=fun hh=>hmd (by have:=List.all_eq_true.1 c1 n hh;simpa using this)
      rw [hi.sl n hw,hb.sl n hmd,ES.den_get]
      exact Wc_refl _
   ·refine WcB_of fun x hx=> ?_
    simp only [headE,List.mem_map,ES.den] at hx
    obtain ⟨y,hy,rfl⟩:=hx
    have hly:=lookup_of_mem c5 hy
    have h7:=List.all_eq_true.1 c7 y hy
    show ∃cs',es'.b.lookup y.1=some cs'∧_
    by_cases hbs:y.1∈hd.bs
    ·split at h7
     ·rename_i l hl
      have hlen:l.length=y.2.length:=by simpa using h7
      refine ⟨l,hl,WcL_of (by simp [hlen]) fun i c c' g1 g2=> ?_,row_eq (by simp [hlen]) fun c c' g1 g2 ha=> ?_⟩
      rotate_left
      ·have hl1:y.2.length=1:=by rw [←hlen,g1];rfl
       obtain ⟨c0,hc0⟩ : ∃c0,y.2= [c0]:=by
        match y.2,hl1 with
        | [c0],_=>exact ⟨c0,rfl⟩
       rw [hc0] at g2
       simp only [List.zipIdx_cons,List.zipIdx_nil,List.map_cons,List.map_nil,List.cons.injEq,and_true] at g2
       have hkv:keyV es' (.c y.1 0) =c:=by simp only [keyV,hl,g1];rfl
       unfold headC at g2
       rw [if_pos (by simpa using hbs)] at g2
       split at g2
       ·rename_i c1' hk1
        subst g2
        obtain ⟨s0,hs0⟩:=getK_norm hcs hk1
        rw [hkv] at hs0
        exact normV_arr hs0 ha
       ·rename_i hk1
        split at g2
        ·rename_i hkp
         have:=hk (y.1,0) (by simpa using hkp)
         have hkv2:keyV es (.c y.1 0) =c0:=by simp only [keyV,hly,hc0];rfl
         rw [←hkv,←g2,←hkv2,this]
        ·rename_i hkp
         exfalso
         have hm:=List.all_eq_true.1 c8 (y.1,l) (lookup_mem hl)
         rw [g1] at hm
         have hkp':hd.kp.contains (y.1,0) =false:=by simpa using hkp
         rw [show getK (.c y.1 0) hd.cr cs=none from hk1] at hm
         simp only [hkp',Option.isSome_none,Bool.or_false,Bool.or_eq_true,Bool.not_eq_true',List.contains_eq_mem,decide_eq_false_iff_not] at hm
         rcases hm with hm | hm
         ·subst g2
          rcases ha with ha | ha
          ·cases c<;>first | (simp [rowOf] at hm;done) | simp [isArr] at ha
          ·simp [isArr] at ha
         ·exact hm hbs
      have hkv:keyV es' (.c y.1 i) =c:=by simp only [keyV,hl,List.getD_eq_getElem?_getD,g1,Option.getD_some]
      simp only [List.getElem?_map,Option.map_eq_some_iff] at g2
      obtain ⟨z,hz,rfl⟩:=g2
      rw [List.getElem?_zipIdx] at hz
      simp only [Option.map_eq_some_iff,Nat.zero_add] at hz
      obtain ⟨c0,hc0,rfl⟩:=hz
      unfold headC
      rw [if_pos (by simpa using hbs)]
      dsimp only
      split
      ·rename_i c1' hk1
       rw [←hkv];exact getK_cur hcs hk1
      ·split
       ·rename_i hkp
        have:=hk (y.1,i) (by simpa using hkp)
        have hkv2:keyV es (.c y.1 i) =c0:=by simp only [keyV,hly,List.getD_eq_getElem?_getD,hc0,Option.getD_some]
        rw [←hkv,←hkv2,this]
        exact Wc_refl _
       ·trivial
     ·cases h7
    ·have hwb:y.1∉es'.wb:=fun hh=>by
      have:=List.all_eq_true.1 c2 y.1 hh
      simp only [Bool.or_eq_true,List.contains_iff_mem,hbs,false_or,Bool.not_eq_true',List.any_eq_false] at this
      exact this y hy (by simp)
     refine ⟨y.2,by rw [hi.bx _ hwb,hb.bx _ hbs,hly], ?_⟩
     have:(y.2.zipIdx.map fun z=>headC hd cs y.1 z.2 z.1) =y.2:=by
      have e:=headE_bx es hd cs y.1
      rw [headE_bx_same es hd cs y.1 hbs,hly] at e
      simpa using e.symm
     rw [this]
     exact WcL_refl _
   ·rw [List.all_eq_true] at c4⊢
    intro b hb'
    exact c4 b hb'
  ·exact h.elim
 ·exact h.elim
theorem ev_aw {a:AC}: ∀{k:Nat} {Q:AExit→ES→Prop} {Qst:AExit→St→Prop} {es:ES} {st0:St},Inv st0 es→(∀e es',Inv st0 es'→Q e es'→Qst e es'.den)→ev C T An X k a Q es→aw C X a Qst es.den:=by
 induction a with
 | skip=>intro k Q Qst es st0 hi hQ h;exact hQ _ _ hi h
 | ops l=>intro k Q Qst es st0 hi hQ h;exact evOps_w0 l es hi (fun es' hi' hk=>hQ _ es' hi' hk) h
 | draw l cls M=>intro k Q Qst es st0 hi hQ h;exact evDraw_w0 l cls es hi (fun es' hi' hk=>hQ _ es' hi' hk) h
 | seq a b iha ihb=>
  intro k Q Qst es st0 hi hQ h
  refine iha hi (fun e es' hi' he=> ?_) h
  cases e with
  | normal=>exact ihb hi' hQ he
  | exit id=>exact hQ _ _ hi' he
  | ret=>exact hQ _ _ hi' he
 | cond c a b iha ihb=>
  intro k Q Qst es st0 hi hQ h
  simp only [ev] at h
  simp only [aw]
  rw [←rd_nil hi.i0]
  split at h
  ·rename_i t ht
   rw [ht]
   dsimp only
   cases t with
   | true=>rw [if_pos rfl];exact iha hi hQ (h.1 rfl)
   | false=>rw [if_neg (by decide)];exact ihb hi hQ (h.2 rfl)
  ·exact h.elim
 | block id a iha=>
  intro k Q Qst es st0 hi hQ h
  refine iha hi (fun e es' hi' he=> ?_) h
  cases e with
  | normal=>exact hQ _ _ hi' he
  | exit j=>
   simp only [blkQ,inBlk] at he⊢
   split at he
   ·rename_i e;rw [if_pos e];exact hQ _ _ hi' he
   ·rename_i e;rw [if_neg e];exact hQ _ _ hi' he
  | ret=>exact hQ _ _ hi' he
 | loop a iha=>
  intro k Q Qst es st0 hi hQ h
  simp only [ev] at h
  split at h
  ·rename_i hd _
   obtain ⟨I,h0,hr⟩:=h
   have hi0:Inv es.den ⟨es.s,es.b,[],[]⟩:=⟨hi.i0,by simp [ES.den],fun _ _=>rfl,fun _ _=>rfl⟩
   obtain ⟨hcr,cs0,he0,⟨n0,ha0⟩,hw0⟩:=toHead_spec (base_self es hd) hi0 h0
   refine ⟨fun st n=>∃cs,exact1 (hd.cr.map (·.2)) cs∧appI (hd.cr.map (·.2)) I cs n∧st=(headE es hd cs).den,⟨_,n0,hw0,cs0,he0,ha0,rfl⟩, ?_⟩
   rintro st n ⟨cs,hex,ha,rfl⟩
   have hbody:=allI_app hr hex ha
   rw [forceE_eq] at hbody
   refine iha (inv_head es hd cs) (fun e es' hi' he=> ?_) hbody
   have hout:Inv st0 (es'.out (hd.md++es.w) (hd.bs++es.wb)):=by
    refine ⟨hi'.i0,by rw [←hi.len];have:=hi'.len;simpa [ES.out,ES.den,headE_len] using this,fun n hn=> ?_,fun b hb=> ?_⟩
    ·have hn:n∉es'.w++(hd.md++es.w):=hn
     simp only [List.mem_append,not_or] at hn
     have e1:(es'.out (hd.md++es.w) (hd.bs++es.wb)).den=es'.den:=rfl
     rw [e1,hi'.sl n hn.1,headE_get es hd cs hcr hex n hn.2.1,hi.sl n hn.2.2]
    ·have hb:b∉es'.wb++(hd.bs++es.wb):=hb
     simp only [List.mem_append,not_or] at hb
     show es'.b.lookup b=_
     rw [hi'.bx b hb.1,ES.den_bx,headE_bx_same es hd cs b hb.2.1,hi.bx b hb.2.2]
   cases e with
   | normal=>
    obtain ⟨_,cs',hex',⟨m,hm,ha'⟩,hw'⟩:=toHead_spec (base_head es hd cs hcr hex) hi' he
    exact ⟨_,m,hm,hw',cs',hex',ha',rfl⟩
   | exit id=>exact hQ (.exit id) (es'.out (hd.md++es.w) (hd.bs++es.wb)) hout he
   | ret=>exact hQ .ret (es'.out (hd.md++es.w) (hd.bs++es.wb)) hout he
  ·exact h.elim
 | exit id=>intro k Q Qst es st0 hi hQ h;exact hQ _ _ hi h
 | ret=>intro k Q Qst es st0 hi hQ h;exact hQ _ _ hi h
theorem runs2 {f:Nat} {H:Hint} {af:AF} {args:List CV} {objs objs':List (Nat×List CV)} {res:CV} (T:Tb) (An:Nat→AC→ES→Option Hd) (hf:trF P H f=some af) (hb:(af.ac.bnd af.n&&decide (af.np≤af.n)) =true) (hargs:args.length=af.np) (hobj:(objs.map (·.1)).Nodup∧((objs.map (·.1)).all fun b=>decide (1000≤b) &&(decide (b<5000) ||mvF f)) =true)
  {Q:AExit→ES→Prop} (hQ: ∀e es,Q e es→retQ af.rs res objs' e es.den) (h:ev (Runs P) T An (objs.map (·.1)) 0 af.ac Q ⟨(args++List.replicate (af.n-args.length) CV.junk).map EC.v,objs,[],[]⟩) :Runs P f args objs res objs':=by
 refine runs0 hf (by simp only [Bool.and_eq_true] at hb⊢;exact ⟨hb,by simp [hargs]⟩) hobj ?_
 have hden:(⟨(args++List.replicate (af.n-args.length) CV.junk).map EC.v,objs,[],[]⟩ :ES).den= ⟨args++List.replicate (af.n-args.length) CV.junk,objs⟩:=by
  simp only [ES.den,List.map_map]
  congr 1
  have:(EC.den∘EC.v) =id:=rfl
  rw [this,List.map_id]
 have hi:Inv (⟨(args++List.replicate (af.n-args.length) CV.junk).map EC.v,objs,[],[]⟩ :ES).den ⟨(args++List.replicate (af.n-args.length) CV.junk).map EC.v,objs,[],[]⟩:=by
  refine ⟨fun n p c x hn=> ?_,by simp [ES.den],fun _ _=>rfl,fun _ _=>rfl⟩
  exfalso
  simp only [ES.at,List.getD_eq_getElem?_getD,List.getElem?_map] at hn
  cases e:(args++List.replicate (af.n-args.length) CV.junk)[n]? with
  | none=>rw [e] at hn;cases hn
  | some y=>rw [e] at hn;cases hn
 have:=ev_aw hi (Qst:=retQ af.rs res objs') (fun e es' _ he=>hQ e es' he) h
 rwa [hden] at this
end B
end Go.Proofs.YtmkkljbfmdngfaaGreatDoor
