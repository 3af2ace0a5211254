/- The evaluator for walks: operations. No condition. -/
import Derived.Test.YtmkkljbfmdngfaaGreatDoorB21
set_option linter.all false
namespace Go.Proofs.YtmkkljbfmdngfaaGreatDoor
namespace B
variable {P:Program}
structure Tb where
 fr:Nat→List RC
 ix:Nat→List Sh
 gw:Nat→Bool
def ES.setBs (es:ES) :List (Nat×List CV)→ES
 | []=>es
 | (b,cs) :: r=>(es.setB1 b cs).setBs r
theorem ES.setBs_den: ∀(l:List (Nat×List CV)) (es:ES),(es.setBs l).den=setAll es.den l
 | [],_=>rfl
 | (b,cs) :: r,es=>ES.setBs_den r (es.setB1 b cs)
theorem Inv.setBs {st0:St}: ∀(l:List (Nat×List CV)) {es:ES},Inv st0 es→Inv st0 (es.setBs l)
 | [],_,h=>h
 | (b,cs) :: r,_,h=>Inv.setBs r (h.setBx b cs)
def argsV (rd:AX→CV) (as:List (AX×Option Nat)) :List CV:=as.map fun a=>(rd a.1).asArg a.2
@[irreducible] def idsOf (bs:List (Nat×List CV)) (args:List CV) :List Nat:=reach bs 9 (addNew [] (args.flatMap CV.ments))
def hiOf (f:Nat) (bs:List (Nat×List CV)) (args:List CV) :List Nat:=killL f (idsOf bs args)
def callA (C:CallRel) (okr okw:Nat→Bool) (rs:List RC) (dst:Option Nat) (f:Nat) (args:List CV) (bs:List (Nat×List CV)) (W:Prop→Prop) (ro:Bool) (K:CV→List (Nat×List CV)→Prop) :Prop:=
 callE C okr okw rs dst f args bs (idsOf bs args) W ro K
def frzE (b:Nat) (es:ES) (K:ES→Prop) :Prop:=match es.b.lookup b with
 | some cs=>match rsIn 0 cs with
  | some (i,z,k,m)=>match es.b.lookup k with
   | some ck=>match rowOf ck with
    | some (z',l)=>if ((rowOf cs).isNone&&decide (z'=z) &&decide (k≠b) &&mvb k) =true then m=l.length∧K (((es.kill k).setB1 k [.arr z []]).setB1 b (frz i z k l cs)) else False
    | none=>False
   | none=>False
  | none=>K es
 | none=>False
def stripE (oi:Option Nat) (args:List (AX×Option Nat)) (es:ES) :ES:=match oi with
 | some i=>match (args.getD i (.c .junk,none)).1 with
  | .t n=>match es.rd [] (.t n) with
   | .own z l=>es.put n (.v (.d (.slice z l)))
   | _=>es
  | .c _=>es
 | none=>es
def overA (oi:Option Nat) (vs:List CV) :Bool:=match oi with
 | some i=>isOwn (vs.getD i .junk)
 | none=>false
def newE (es:ES) (d:Nat) (K:ES→Prop) :Prop:=match es.b.lookup d with
 | none=>K es
 | some _=>if d<1000 then K (es.kill d) else False
def storeE (okr okw:Nat→Bool) (es:ES) (n z k i off:Nat) (o:Option (List D)) (K:ES→Prop) :Prop:=
 if (okr k&&okw k) =true then match es.b.lookup k with
  | some cs=>match rowOf cs with
   | some (z',l)=>match o with
    | some ds=>if (decide (ds.length=n) &&decide (z'=z) &&decide (off+n≤z)) =true then i<l.length∧∀l':List D,setEl l i off ds=l'→K (es.setB1 k [.arr z l']) else False
    | none=>False
   | none=>False
  | none=>False
 else False
def evU (C:CallRel) (okr okw:Nat→Bool) (T:Tb) (dst:Option Nat) (i:AI) (es:ES) (K:ES→Prop) :Prop:=match i with
 | .mov (.t n) true _=>match es.rd [] (.t n) with
  | .own z l=>K ((es.put n (.v (.d (.slice z l)))).putO dst (.v (.own z l)))
  | v=>K (es.putO dst (.v v.copy))
 | .alloc zs=>match dst with
  | some d=>match es.b.lookup d with
   | none=>K ((es.setB1 d zs).put d (.v (.ptr d 0)))
   | some _=>False
  | none=>False
 | .box n ag x=>match dst with
  | some d=>match es.b.lookup d with
   | none=>if (((if ag=true then (es.rd [] x).cells else [es.rd [] x]).length==n) &&(if ag=true then (es.rd [] x).cells else [es.rd [] x]).all CV.one) =true then K ((es.setB1 d ((if ag=true then (es.rd [] x).cells else [es.rd [] x]).map CV.copyB)).put d (.v (.ptr d 0))) else False
   | some _=>False
  | none=>False
 | .load false n a true=>match es.rd [] a with
  | .ptr b off=>if okr b=true then match es.b.lookup b with
    | some cs=>if (decide (off+n≤cs.length) &&(rowOf cs).isNone) =true then match cs.getD off .junk with
      | .own z l=>if okw b=true then K ((es.setB1 b (splice off [.d (.slice z l)] cs)).putO dst (.v (.own z l))) else False
      | v=>K (es.putO dst (.v v.copy1))
     else False
    | none=>False
   else False
  | .ep cs=>if n≤cs.length then K (es.putO dst (.v (.d (cs.getD 0 .nilp)))) else False
  | .ea _ _ _ _=>pv (T.ix (dst.getD 0)) (fun b=>es.b.lookup b) okr es.rd (fun p=>p) (.load false n a false) fun v=>K (es.putO dst (.v v))
  | _=>False
 | .store true n a x nl=>match es.rd [] a with
  | .ptr b off=>if (okr b&&okw b) =true then match es.b.lookup b with
    | some cs=>if ((es.rd [] x).cells.length==n&&decide (off+n≤cs.length) &&(es.rd [] x).cells.all CV.one&&(rowOf cs).isNone) =true then K (es.setB1 b (splice off ((es.rd [] x).cells.map CV.copyB) cs)) else False
    | none=>False
   else False
  | .ea z k i off=>storeE okr okw es n z k i off (allE nl (es.rd [] x).cells) K
  | _=>False
 | .store false n a (.t m) nl=>match es.rd [] a with
  | .ptr b off=>if (okr b&&okw b) =true then match es.b.lookup b with
    | some cs=>if (n==1&&decide (off+n≤cs.length) &&(es.rd [] (.t m)).one&&(rowOf cs).isNone) =true then match es.rd [] (.t m) with
      | .own z l=>K ((es.put m (.v (.d (.slice z l)))).setB1 b (splice off [.own z l] cs))
      | v=>K (es.setB1 b (splice off [v.copy1] cs))
     else False
    | none=>False
   else False
  | .ea z k i off=>storeE okr okw es n z k i off (allE nl [es.rd [] (.t m)]) K
  | _=>False
 | .store false n a (.c v) nl=>match es.rd [] a with
  | .ptr b off=>if (okr b&&okw b) =true then match es.b.lookup b with
    | some cs=>if (n==1&&decide (off+n≤cs.length) &&v.one&&(rowOf cs).isNone) =true then K (es.setB1 b (splice off [v.coer nl] cs)) else False
    | none=>False
   else False
  | .ea z k i off=>storeE okr okw es n z k i off (allE nl [v]) K
  | _=>False
 | .slNil ng x=>match es.rd [] x with
  | .d (.slice _ l)=>∀b:Bool,K (es.putO dst (.v (.d (.bool ((b&&l.isEmpty) !=ng)))))
  | .own _ l=>∀b:Bool,K (es.putO dst (.v (.d (.bool ((b&&l.isEmpty) !=ng)))))
  | .nils=>K (es.putO dst (.v (.d (.bool (!ng)))))
  | .d (.nils _)=>K (es.putO dst (.v (.d (.bool (!ng)))))
  | .rs _ _ _ n=>∀b:Bool,K (es.putO dst (.v (.d (.bool ((b&&n==0) !=ng)))))
  | _=>False
 | .rowN sz=>match dst with
  | some d=>newE es d fun es=>K ((es.setB1 d [.arr sz []]).put d (.v (.rs sz d 0 0)))
  | none=>False
 | .row0 sz x=>match dst with
  | some d=>match es.rd [] x with
   | .rs _ _ _ _=>newE es d fun es=>K ((es.setB1 d [.arr sz []]).put d (.v (.rs sz d 0 0)))
   | v=>match v.slz with
    | some _=>newE es d fun es=>K ((es.setB1 d [.arr sz []]).put d (.v (.rs sz d 0 0)))
    | none=>False
  | none=>False
 | .rowB x=>match dst with
  | some d=>match es.rd [] x with
   | .d (.str s)=>s.length≤140737488355328∧newE es d fun es=>K ((es.setB1 d [.arr 1 (s.map byteD)]).put d (.v (.rs 1 d 0 s.length)))
   | _=>False
  | none=>False
 | .rowS d sz a=>match es.rd [] a with
  | .ptr b off=>if (okr b&&okw b) =true then newE es d fun es=>match (es.setB1 d [.arr sz []]).b.lookup b with
    | some cs=>if (decide (off<cs.length) &&(rowOf cs).isNone&&decide (d≠b)) =true then K ((es.setB1 d [.arr sz []]).setB1 b (splice off [.rs sz d 0 0] cs)) else False
    | none=>False
   else False
  | _=>False
 | .loadF n a=>match es.rd [] a with
  | .ptr b off=>if (okr b&&okw b) =true then frzE b es fun es=>frzE b es fun es=>match es.b.lookup b with
    | some cs=>if (decide (off+n≤cs.length) &&(rowOf cs).isNone) =true then K (es.putO dst (.v (mkAgg ((cs.drop off).take n)))) else False
    | none=>False
   else False
  | _=>False
 | .appR sz bytes s x=>match es.rd [] s,(es.rd [] x).more with
  | .rs z k o n,some m=>match es.b.lookup k with
   | some cs=>match rowOf cs with
    | some (z',l)=>if (decide (z=sz) &&decide (z'=sz) &&decide (o=0) &&(es.rd [] x).okz sz&&mvb k) =true then n=l.length∧(n+m.length) *bytes≤140737488355328∧∀l':List D,l++m=l'→K (((es.kill k).setB1 k [.arr sz l']).putO dst (.v (.rs sz k 0 (n+m.length)))) else False
    | none=>False
   | none=>False
  | _,_=>False
 | .stringish (.t n)=>match es.rd [] (.t n) with
  | .own z l=>l≠[]∧K ((es.put n (.v (.d (.slice z l)))).putO dst (.v (.own z l)))
  | _=>False
 | .extract (.t n) i cp=>match es.rd [] (.t n) with
  | .tup l=>if i<l.length then if cp then K (es.putO dst (.v (l.getD i .junk).copy1)) else match l.getD i .junk with
    | .own z l'=>K ((es.put n (.v (.tup (l.set i (.d (.slice z l')))))).putO dst (.v (.own z l')))
    | v=>K (es.putO dst (.v v.copy1))
   else False
  | _=>False
 | .append sz bytes (.t n) x=>match (es.rd [] (.t n)).coerA (some sz),(es.rd [] x).more with
  | .own z l,some m=>if (decide (z=sz) &&(es.rd [] x).okz sz) =true then (l.length+m.length) *bytes≤140737488355328∧K ((es.put n (.v (es.rd [] (.t n)).copy)).putO dst (.v (.own sz (l++m)))) else False
  | _,_=>False
 | .append sz bytes (.c .nils) x=>match (es.rd [] x).more with
  | some m=>if (es.rd [] x).okz sz=true then m.length*bytes≤140737488355328∧K (es.putO dst (.v (.own sz m))) else False
  | _=>False
 | .call f args oi=>callA C okr okw (T.fr f) dst f (argL oi 0 (args.map fun a=>es.rd [] a.1) args) (stripE oi args es).b (fun p=>p) false fun r l=>K ((((stripE oi args es).killAll (hiOf f (stripE oi args es).b (argL oi 0 (args.map fun a=>es.rd [] a.1) args))).setBs l).putO dst (.v r))
 | .callv x args=>match es.rd [] x with
  | .fn f caps=>callA C okr okw (T.fr f) dst f (argsV (es.rd []) args++caps.map (.ptr · 0)) es.b (fun p=>p) false fun r l=>K (((es.killAll (hiOf f es.b (argsV (es.rd []) args++caps.map (.ptr · 0)))).setBs l).putO dst (.v r))
  | .d x=>∃f:Nat,x= .fn (some f)∧callA C okr okw (T.fr (1000000+dst.getD 0)) dst f (argsV (es.rd []) args) es.b (fun p=>p) false fun r l=>K (((es.killAll (hiOf f es.b (argsV (es.rd []) args))).setBs l).putO dst (.v r))
  | _=>False
 | .clr z0 x=>match es.rd [] x with
  | .rs z k o n=>if (okr k&&okw k) =true then match es.b.lookup k with
    | some cs=>match rowOf cs with
     | some (z',l)=>if (decide (z=1) &&decide (z'=1)) =true then o+n≤l.length∧∀l':List D,l.take o++List.replicate n z0++l.drop (o+n) =l'→K ((es.setB1 k [.arr 1 l']).putO dst (.v (.tup []))) else False
     | none=>False
    | none=>False
   else False
  | _=>False
 | .rowNK b sz=>newE es b fun es=>K ((es.setB1 b [.arr sz []]).putO dst (.v (.rs sz b 0 0)))
 | .appO sz bytes s x=>match es.rd [] s,(es.rd [] x).more with
  | .rs z k o n,some m=>match es.b.lookup k with
   | some cs=>match rowOf cs with
    | some (z',l)=>if (decide (z=sz) &&decide (z'=sz) &&(es.rd [] x).okz sz&&mvb k) =true then o+n=l.length∧(n+m.length) *bytes≤140737488355328∧∀g:Bool,(g=true→∀l':List D,l++m=l'→K (((es.kill k).setB1 k [.arr sz l']).putO dst (.v (.rs sz k o (n+m.length)))))∧(g=false→∀l':List D,l.drop o++m=l'→K (((es.kill k).setB1 k [.arr sz l']).putO dst (.v (.rs sz k 0 (n+m.length))))) else False
    | none=>False
   | none=>False
  | _,_=>False
 | .movT (.t n)=>match es.rd [] (.t n) with
  | .tup l=>K ((es.put n (.v (.tup (l.map CV.copy1)))).putO dst (.v (.tup (l.map CV.mv1))))
  | _=>False
 | .frzM x=>match es.rd [] x with
  | .rs z k 0 n=>match es.b.lookup k with
   | some cs=>match rowOf cs with
    | some (z',l)=>if (decide (z'=z) &&mvb k) =true then n≤l.length∧K (((es.kill k).setB1 k [.arr z []]).putO dst (.v (.d (.slice z (l.take n))))) else False
    | none=>False
   | none=>False
  | _=>False
 | i=>pv (T.ix (dst.getD 0)) (fun b=>es.b.lookup b) okr es.rd (fun p=>p) i fun v=>nameK i v fun v=>K (es.putO dst (.v v))
def evG (C:CallRel) (okr okw:Nat→Bool) (T:Tb) (dst:Option Nat) (i:AI) (p:Path) (c:Bool) (es:ES) (K:ES→Prop) :Prop:=match i with
 | .slNil ng x=>match es.rd p x with
  | .d (.slice _ l)=>∀b:Bool,K (es.putO dst (.cnd p c (.d (.bool ((b&&l.isEmpty) !=ng)))))
  | .own _ l=>∀b:Bool,K (es.putO dst (.cnd p c (.d (.bool ((b&&l.isEmpty) !=ng)))))
  | .nils=>K (es.putO dst (.cnd p c (.d (.bool (!ng)))))
  | .d (.nils _)=>K (es.putO dst (.cnd p c (.d (.bool (!ng)))))
  | .rs _ _ _ n=>∀b:Bool,K (es.putO dst (.cnd p c (.d (.bool ((b&&n==0) !=ng)))))
  | _=>False
 | .call f args oi=>if overA oi (args.map fun a=>es.rd p a.1) =true then False else if T.gw f=true then callW C okr okw (T.fr f) dst f (argL oi 0 (args.map fun a=>es.rd p a.1) args) es.b (idsOf es.b (argL oi 0 (args.map fun a=>es.rd p a.1) args)) c fun r l=>K ((es.setBs l).putO dst (.cnd p c r)) else callA C okr okw (T.fr f) dst f (argL oi 0 (args.map fun a=>es.rd p a.1) args) es.b (fun q=>c=true→q) true fun r l=>match l with
  | []=>K (es.putO dst (.cnd p c r))
  | _=>False
 | .callv x args=>match es.rd p x with
  | .fn f caps=>callA C okr okw (T.fr f) dst f (argsV (es.rd p) args++caps.map (.ptr · 0)) es.b (fun q=>c=true→q) true fun r l=>match l with
   | []=>K (es.putO dst (.cnd p c r))
   | _=>False
  | .d x=>∃f:Nat,(c=true→x= .fn (some f))∧callA C okr okw (T.fr (1000000+dst.getD 0)) dst f (argsV (es.rd p) args) es.b (fun q=>c=true→q) true fun r l=>match l with
   | []=>K (es.putO dst (.cnd p c r))
   | _=>False
  | _=>False
 | i=>pv (T.ix (dst.getD 0)) (fun b=>es.b.lookup b) okr (fun q=>es.rd (p++q)) (fun q=>c=true→q) i fun v=>nameK i v fun v=>K (es.putO dst (.cnd p c v))
def evO (C:CallRel) (okr okw:Nat→Bool) (T:Tb) (o:AOp) (es:ES) (K:ES→Prop) :Prop:=match o.g with
 | none=>evU C okr okw T o.dst o.i es K
 | some (g,w)=>match es.guard g w with
  | some (p,c)=>evG C okr okw T o.dst o.i p c es K
  | none=>False
def forceC (c:CV) (k:CV→Prop) :Prop:=match c with
 | .d x=>k (.d x)
 | .own z l=>k (.own z l)
 | .nils=>k .nils
 | .ptr b o=>k (.ptr b o)
 | .ep l=>k (.ep l)
 | .fn f l=>k (.fn f l)
 | .tup l=>k (.tup l)
 | .agg l=>k (.agg l)
 | .junk=>k .junk
 | .line z l=>k (.line z l)
 | .bld e f l=>k (.bld e f l)
 | .sp b t=>k (.sp b t)
 | .rs z b o n=>k (.rs z b o n)
 | .ea z b i o=>k (.ea z b i o)
 | .arr z l=>k (.arr z l)
def forceCs:List CV→(List CV→Prop)→Prop
 | [],k=>k []
 | c :: r,k=>forceC c fun c=>forceCs r fun r=>k (c :: r)
def forceS:List EC→(List EC→Prop)→Prop
 | [],k=>k []
 | .v x :: r,k=>forceC x fun x=>forceS r fun r=>k (.v x :: r)
 | .cnd p c x :: r,k=>forceC x fun x=>forceS r fun r=>k (.cnd p c x :: r)
def forceB:List (Nat×List CV)→(List (Nat×List CV)→Prop)→Prop
 | [],k=>k []
 | (b,cs) :: r,k=>forceCs cs fun cs=>forceB r fun r=>k ((b,cs) :: r)
def forceN:List Nat→(List Nat→Prop)→Prop
 | [],k=>k []
 | b :: r,k=>forceN r fun r=>k (b :: r)
def forceE (es:ES) (k:ES→Prop) :Prop:=forceS es.s fun s=>forceB es.b fun b=>forceN es.w fun w=>forceN es.wb fun wb=>k ⟨s,b,w,wb⟩
theorem forceC_eq (c:CV) (k:CV→Prop) :forceC c k=k c:=by cases c<;>rfl
theorem forceCs_eq: ∀(l:List CV) (k:List CV→Prop),forceCs l k=k l
 | [],_=>rfl
 | c :: r,k=>by simp only [forceCs,forceC_eq,forceCs_eq r]
theorem forceS_eq: ∀(l:List EC) (k:List EC→Prop),forceS l k=k l
 | [],_=>rfl
 | .v x :: r,k=>by simp only [forceS,forceC_eq,forceS_eq r]
 | .cnd p c x :: r,k=>by simp only [forceS,forceC_eq,forceS_eq r]
theorem forceB_eq: ∀(l:List (Nat×List CV)) (k:List (Nat×List CV)→Prop),forceB l k=k l
 | [],_=>rfl
 | (b,cs) :: r,k=>by simp only [forceB,forceCs_eq,forceB_eq r]
theorem forceN_eq: ∀(l:List Nat) (k:List Nat→Prop),forceN l k=k l
 | [],_=>rfl
 | b :: r,k=>by simp only [forceN,forceN_eq r]
theorem forceE_eq (es:ES) (k:ES→Prop) :forceE es k=k es:=by simp only [forceE,forceS_eq,forceB_eq,forceN_eq]
def evOps (C:CallRel) (T:Tb) :List AOp→(ES→Prop)→ES→Prop
 | [],K,es=>K es
 | o :: r,K,es=>evO C okT okT T o es fun es=>forceE es (evOps C T r K)
def evDraw (C:CallRel) (T:Tb) (M A:List Nat) :List AOp→List Nat→(ES→Prop)→ES→Prop
 | [],_,K,es=>K es
 | o :: r,cls,K,es=>evO C (okrOf M A (cls.headD 0)) (okwOf M A (cls.headD 0)) T o es fun es=>forceE es (evDraw C T M A r cls.tail K)
section
variable {C:CallRel} {okr okw:Nat→Bool} {T:Tb} {dst:Option Nat} {es:ES} {st0:St} {K:ES→Prop} {Kst:St→Prop}
theorem argsV_eq {rd:AX→CV} {st:St} (hrd: ∀x,rd x=x.val st) (as:List (AX×Option Nat)) :argsV rd as=(((as.map (·.1)).map (AX.val st)).zipWith (fun v a=>v.asArg a.2) as):=by
 unfold argsV
 induction as with
 | nil=>rfl
 | cons a r ih=>
  simp only [List.map_cons,List.zipWith_cons_cons]
  rw [ih,hrd]
theorem pv_done (hi:Inv st0 es) (hK: ∀es',Inv st0 es'→K es'→Kst es'.den) {i:AI} (h:pv (T.ix (dst.getD 0)) (fun b=>es.b.lookup b) okr es.rd (fun p=>p) i fun v=>nameK i v fun v=>K (es.putO dst (.v v))) :(i.pm C okr okw dst).w0 Kst es.den:=
 pv_w0 (rd:=es.rd) (W:=fun p=>p) (K:=fun v=>nameK i v fun v=>K (es.putO dst (.v v))) (fun _ h=>h) (rd_nil hi.i0) (fun s t ht x=>rd_pick (p:=[]) hi.i0 (.inl rfl) ht x) (fun v hv=>by
   have hv:=nameK_spec hv
   have:=hK _ (hi.putO_v dst _) hv
   rwa [ES.putO_den] at this) h
theorem call_done (hi:Inv st0 es) (hK: ∀es',Inv st0 es'→K es'→Kst es'.den) {f:Nat} {args:List CV} {rs:List RC} (h:callA C okr okw rs dst f args es.b (fun p=>p) false fun r l=>K (((es.killAll (hiOf f es.b args)).setBs l).putO dst (.v r))) :(callPM C okr okw dst f args).w0 Kst es.den:=by
 unfold hiOf callA at h
 generalize idsOf es.b args=ids at h
 have h2: ∀(r:CV) (l:List (Nat×List CV)),(false=true→killL f ids= [])→K (((es.killAll (killL f ids)).setBs l).putO dst (.v r))→Kst ((setAll (B.killAll es.den (killL f ids)) l).setO dst r):=by
  intro r l _ hr
  have:=hK _ (((hi.killAll _).setBs l).putO_v dst _) hr
  rwa [ES.putO_den,ES.setBs_den,ES.killAll_den] at this
 have h3: ∀p:Prop,(fun p:Prop=>p) p→p:=fun _ h=>h
 exact callE_w0 (st:=es.den) (W:=fun p=>p) (K:=fun r l=>K (((es.killAll (killL f ids)).setBs l).putO dst (.v r))) h3 h2 h
theorem mvb_low {k:Nat} (h:k<1000) :mvb k=true:=by simp [mvb,h]
theorem frzE_w0 {b:Nat} {m:PM} {K':ES→Prop} (h2: ∀es',Inv st0 es'→K' es'→m.w0 Kst es'.den) {es:ES} (hi:Inv st0 es) (h:frzE b es K') :(frzK b m).w0 Kst es.den:=by
 unfold frzE at h
 split at h
 ·rename_i cs hcs
  show PM.w0 (match es.den.get (.b b) with | .agg cs=>_ | _=>_) Kst es.den
  rw [St.get_bx (st:=es.den) hcs]
  dsimp only
  split at h
  ·rename_i i z k n hrs
   rw [hrs]
   split at h
   ·rename_i ck hck
    split at h
    ·rename_i z' l hro
     split at h
     ·rename_i hc
      simp only [Bool.and_eq_true,decide_eq_true_eq,Option.isNone_iff_eq_none] at hc
      show PM.w0 (match rowD (es.den.get (.b k)) with | some (z',l)=>_ | none=>_) Kst es.den
      rw [St.get_bx (st:=es.den) hck,show rowD (.agg ck) =some (z',l) from hro]
      refine ⟨⟨hc.1.1.1,hc.1.1.2,h.1,hc.1.2⟩,hc.2, ?_⟩
      have:=h2 _ (((hi.kill k).setBx k _).setBx b _) h.2
      rw [ES.setB1_den,ES.setB1_den,ES.kill_den] at this
      exact this
     ·exact h.elim
    ·exact h.elim
   ·exact h.elim
  ·rename_i hrs
   rw [hrs]
   exact h2 _ hi h
 ·exact h.elim
theorem newE_w0 (hi:Inv st0 es) {d:Nat} {c v:CV} {k:ES→Prop} (h2: ∀es',Inv st0 es'→k es'→Kst (((es'.den).set (.b d) (.agg [c])).set (.s d) v)) (h:newE es d k) :(newR d c v).w0 Kst es.den:=by
 unfold newE at h
 show PM.w0 (match es.den.get (.b d) with | .junk=>_ | _=>_) Kst es.den
 split at h
 ·rename_i hb
  have:es.den.get (.b d) = .junk:=by show (match es.b.lookup d with | some cs=>CV.agg cs | none=> .junk) =_;rw [hb]
  rw [this]
  exact h2 _ hi h
 ·rename_i cs hb
  have:es.den.get (.b d) = .agg cs:=by show (match es.b.lookup d with | some cs=>CV.agg cs | none=> .junk) =_;rw [hb]
  rw [this]
  split at h
  ·rename_i hd
   refine ⟨mvb_low hd, ?_⟩
   have:=h2 _ (hi.kill d) h
   rw [ES.kill_den] at this
   exact this
  ·exact h.elim
theorem newEB_w0 (hi:Inv st0 es) {d:Nat} {c:CV} {m:PM} {k:ES→Prop} (h2: ∀es',Inv st0 es'→k es'→m.w0 Kst (es'.setB1 d [c]).den) (h:newE es d k) :(newB d c m).w0 Kst es.den:=by
 unfold newE at h
 show PM.w0 (match es.den.get (.b d) with | .junk=>_ | _=>_) Kst es.den
 split at h
 ·rename_i hb
  have:es.den.get (.b d) = .junk:=by show (match es.b.lookup d with | some cs=>CV.agg cs | none=> .junk) =_;rw [hb]
  rw [this]
  exact h2 _ hi h
 ·rename_i cs hb
  have:es.den.get (.b d) = .agg cs:=by show (match es.b.lookup d with | some cs=>CV.agg cs | none=> .junk) =_;rw [hb]
  rw [this]
  split at h
  ·rename_i hd
   refine ⟨mvb_low hd, ?_⟩
   have:=h2 _ (hi.kill d) h
   rw [ES.setB1_den,ES.kill_den] at this
   exact this
  ·exact h.elim
theorem storeE_w0 (hi:Inv st0 es) (hK: ∀es',Inv st0 es'→K es'→Kst es'.den) {n z k i off:Nat} {o:Option (List D)}:storeE okr okw es n z k i off o K→
  (if okr k&&okw k then PM.get (.b k) fun u=>match rowD u with
    | some (z',l)=>match o with
     | some ds=> .req (ds.length=n∧z'=z∧i<l.length∧off+n≤z) (.set (.b k) (.agg [.arr z (setEl l i off ds)]) .done)
     | none=> .fail
    | none=> .fail
   else .fail).w0 Kst es.den:=by
 intro h
 unfold storeE at h
 split at h
 ·rename_i hok
  rw [if_pos hok]
  split at h
  ·rename_i cs hcs
   split at h
   ·rename_i z' l hro
    split at h
    ·rename_i ds
     split at h
     ·rename_i hc
      simp only [Bool.and_eq_true,decide_eq_true_eq] at hc
      show PM.w0 (match rowD (es.den.get (.b k)) with | some (z',l)=>_ | none=>_) Kst es.den
      rw [St.get_bx (st:=es.den) hcs,show rowD (.agg cs) =some (z',l) from hro]
      refine ⟨⟨hc.1.1,hc.1.2,h.1,hc.2⟩, ?_⟩
      exact hK _ (hi.setBx k _) (h.2 _ rfl)
     ·exact h.elim
    ·exact h.elim
   ·exact h.elim
  ·exact h.elim
 ·exact h.elim
theorem evU_w0 (hi:Inv st0 es) (hK: ∀es',Inv st0 es'→K es'→Kst es'.den) {i:AI} (h:evU C okr okw T dst i es K) :(i.pm C okr okw dst).w0 Kst es.den:=by
 have hrd:=rd_nil hi.i0
 have done: ∀{v:CV},K (es.putO dst (.v v))→(setD dst v).w0 Kst es.den:=fun hv=>setD_w0.2 (by
  have:=hK _ (hi.putO_v dst _) hv
  rwa [ES.putO_den] at this)
 unfold evU at h
 split at h
 ·
  rename_i n nl
  simp only [AI.pm]
  rw [ev_w0,←hrd]
  split at h
  ·rename_i z l e
   rw [e]
   simp only [isOwn,Bool.and_self,if_true]
   have:=hK _ ((hi.put_v n _).putO_v dst _) h
   rw [ES.putO_den,ES.put_den] at this
   exact setD_w0.2 this
  ·rename_i hno
   rw [if_neg (by intro hh;simp only [Bool.true_and] at hh;unfold isOwn at hh;split at hh;rename_i z l e;exact hno z l e;cases hh)]
   exact done h
 ·rename_i zs
  simp only [AI.pm]
  split at h
  ·rename_i d
   split at h
   ·rename_i hb
    show PM.w0 (match es.den.get (.b d) with | .junk=>_ | _=>_) Kst es.den
    have:es.den.get (.b d) = .junk:=by show (match es.b.lookup d with | some cs=>CV.agg cs | none=> .junk) =_;rw [hb]
    rw [this]
    have:=hK _ ((hi.setBx d zs).put_v d _) h
    rw [ES.put_den] at this
    exact this
   ·exact h.elim
  ·exact h.elim
 ·rename_i n ag x
  simp only [AI.pm]
  split at h
  ·rename_i d
   rw [ev_w0,←hrd]
   split at h
   ·rename_i hb
    by_cases hc:(((if ag=true then (es.rd [] x).cells else [es.rd [] x]).length==n) &&(if ag=true then (es.rd [] x).cells else [es.rd [] x]).all CV.one) =true
    ·rw [if_pos hc] at h
     simp only [Bool.and_eq_true,beq_iff_eq] at hc
     show PM.w0 (match es.den.get (.b d) with | .junk=>_ | _=>_) Kst es.den
     have:es.den.get (.b d) = .junk:=by show (match es.b.lookup d with | some cs=>CV.agg cs | none=> .junk) =_;rw [hb]
     rw [this]
     refine ⟨hc, ?_⟩
     have:=hK _ ((hi.setBx d _).put_v d _) h
     rw [ES.put_den] at this
     exact this
    ·rw [if_neg hc] at h;exact h.elim
   ·exact h.elim
  ·exact h.elim
 ·
  rename_i n a
  simp only [AI.pm]
  rw [ev_w0,←hrd]
  split at h
  ·rename_i b off e
   rw [e]
   split at h
   ·rename_i hok
    simp only [hok,if_true]
    split at h
    ·rename_i cs hcs
     split at h
     ·rename_i hn
      simp only [Bool.and_eq_true,decide_eq_true_eq,Option.isNone_iff_eq_none] at hn
      show PM.w0 (match es.den.get (.b b) with | .agg cs=>_ | _=>_) Kst es.den
      rw [St.get_bx (st:=es.den) hcs]
      refine ⟨hn, ?_⟩
      simp only [Bool.false_eq_true,if_false,Bool.true_and]
      split at h
      ·rename_i z l e2
       rw [e2]
       simp only [isOwn,if_true]
       split at h
       ·rename_i hw
        refine ⟨hw, ?_⟩
        have:=hK _ ((hi.setBx b (splice off [.d (.slice z l)] cs)).putO_v dst _) h
        rw [ES.putO_den] at this
        exact setD_w0.2 this
       ·exact h.elim
      ·rename_i hno
       rw [if_neg (by intro hh;unfold isOwn at hh;split at hh;rename_i z l e;exact hno z l e;cases hh)]
       exact done h
     ·exact h.elim
    ·exact h.elim
   ·exact h.elim
  ·rename_i cs e
   rw [e]
   split at h
   ·rename_i hn
    exact ⟨hn,by simp only [Bool.false_eq_true,if_false];exact done h⟩
   ·exact h.elim
  ·rename_i z k i off e
   have h9:=pv_w0 (C:=C) (okw:=okw) (dst:=dst) (Kst:=Kst) (st:=es.den) (rd:=es.rd) (W:=fun p=>p) (K:=fun v=>K (es.putO dst (.v v))) (fun _ h=>h) (rd_nil hi.i0) (fun s t ht x=>rd_pick (p:=[]) hi.i0 (.inl rfl) ht x) (fun v hv=>by
    have:=hK _ (hi.putO_v dst _) hv
    rwa [ES.putO_den] at this) h
   simp only [AI.pm] at h9
   rw [ev_w0,←hrd,e] at h9
   rw [e]
   exact h9
  ·exact h.elim
 ·
  rename_i n a x nl
  simp only [AI.pm]
  rw [ev_w0,ev_w0,←hrd,←hrd]
  split at h
  ·rename_i b off e
   rw [e]
   split at h
   ·rename_i hok
    simp only [hok,if_true]
    split at h
    ·rename_i cs hcs
     split at h
     ·rename_i hc
      simp only [Bool.and_eq_true,beq_iff_eq,decide_eq_true_eq,Option.isNone_iff_eq_none] at hc
      show PM.w0 (match es.den.get (.b b) with | .agg cs=>_ | _=>_) Kst es.den
      rw [St.get_bx (st:=es.den) hcs]
      refine ⟨⟨hc.1.1.1,hc.1.1.2,hc.1.2,hc.2⟩, ?_⟩
      exact hK _ (hi.setBx b _) h
     ·exact h.elim
    ·exact h.elim
   ·exact h.elim
  ·rename_i z k i off e
   rw [e]
   exact storeE_w0 (st0:=st0) (K:=K) hi hK h
  ·exact h.elim
 ·rename_i n a m nl
  simp only [AI.pm]
  rw [ev_w0,ev_w0,←hrd,←hrd]
  split at h
  ·rename_i b off e
   rw [e]
   split at h
   ·rename_i hok
    simp only [hok,if_true]
    split at h
    ·rename_i cs hcs
     split at h
     ·rename_i hc
      simp only [Bool.and_eq_true,beq_iff_eq,decide_eq_true_eq,Option.isNone_iff_eq_none] at hc
      show PM.w0 (match es.den.get (.b b) with | .agg cs=>_ | _=>_) Kst es.den
      rw [St.get_bx (st:=es.den) hcs]
      refine ⟨⟨by simp [hc.1.1.1],hc.1.1.2,by simp [hc.1.2],hc.2⟩, ?_⟩
      simp only [Bool.false_eq_true,if_false]
      split at h
      ·rename_i z l e2
       rw [e2]
       simp only [isOwn,if_true]
       have:=hK _ ((hi.put_v m (.d (.slice z l))).setBx b _) h
       rw [ES.setB1_den,ES.put_den] at this
       exact this
      ·rename_i hno
       rw [if_neg (by intro hh;unfold isOwn at hh;split at hh;rename_i z l e;exact hno z l e;cases hh)]
       exact hK _ (hi.setBx b _) h
     ·exact h.elim
    ·exact h.elim
   ·exact h.elim
  ·rename_i z k i off e
   rw [e]
   exact storeE_w0 (st0:=st0) (K:=K) hi hK h
  ·exact h.elim
 ·rename_i n a v nl
  simp only [AI.pm]
  rw [ev_w0,ev_w0,←hrd]
  split at h
  ·rename_i b off e
   rw [e]
   split at h
   ·rename_i hok
    simp only [hok,if_true]
    split at h
    ·rename_i cs hcs
     split at h
     ·rename_i hc
      simp only [Bool.and_eq_true,beq_iff_eq,decide_eq_true_eq,Option.isNone_iff_eq_none] at hc
      show PM.w0 (match es.den.get (.b b) with | .agg cs=>_ | _=>_) Kst es.den
      rw [St.get_bx (st:=es.den) hcs]
      refine ⟨⟨by simp [hc.1.1.1],hc.1.1.2,by simpa [AX.val] using hc.1.2,hc.2⟩, ?_⟩
      exact hK _ (hi.setBx b _) h
     ·exact h.elim
    ·exact h.elim
   ·exact h.elim
  ·rename_i z k i off e
   rw [e]
   exact storeE_w0 (st0:=st0) (K:=K) hi hK h
  ·exact h.elim
 ·rename_i ng x
  simp only [AI.pm]
  rw [ev_w0,←hrd]
  split at h
  ·rename_i e;rw [e];exact fun b=>done (h b)
  ·rename_i e;rw [e];exact fun b=>done (h b)
  ·rename_i e;rw [e];exact done h
  ·rename_i e;rw [e];exact done h
  ·rename_i e;rw [e];exact fun b=>done (h b)
  ·exact h.elim
 ·simp only [AI.pm]
  split at h
  ·rename_i d
   exact newE_w0 hi (fun es' hi' h'=>by
    have:=hK _ ((hi'.setBx d _).put_v d _) h'
    rw [ES.put_den] at this
    exact this) h
  ·exact h.elim
 ·rename_i sz x
  simp only [AI.pm]
  rw [ev_w0,←hrd]
  split at h
  ·rename_i d
   have fin:(newE es d fun es=>K ((es.setB1 d [.arr sz []]).put d (.v (.rs sz d 0 0))))→(newR d (.arr sz []) (.rs sz d 0 0)).w0 Kst es.den:=fun h=>newE_w0 hi (fun es' hi' h'=>by
    have:=hK _ ((hi'.setBx d _).put_v d _) h'
    rw [ES.put_den] at this
    exact this) h
   split at h
   ·rename_i e;rw [e];exact fin h
   ·rename_i v hv
    split at h
    ·rename_i q e
     split
     ·rename_i q2;exact (hv _ _ _ _ q2).elim
     ·rw [e];exact fin h
    ·exact h.elim
  ·exact h.elim
 ·rename_i x
  simp only [AI.pm]
  split at h
  ·rename_i d
   rw [ev_w0,←hrd]
   split at h
   ·rename_i s e
    rw [e]
    exact ⟨h.1,newE_w0 hi (fun es' hi' h'=>by
     have:=hK _ ((hi'.setBx d _).put_v d _) h'
     rw [ES.put_den] at this
     exact this) h.2⟩
   ·exact h.elim
  ·exact h.elim
 ·rename_i d sz a
  simp only [AI.pm]
  rw [ev_w0,←hrd]
  split at h
  ·rename_i b off e
   rw [e]
   split at h
   ·rename_i hok
    simp only [hok,if_true]
    refine newEB_w0 hi (fun es' hi' h'=> ?_) h
    split at h'
    ·rename_i cs hcs
     split at h'
     ·rename_i hc
      simp only [Bool.and_eq_true,decide_eq_true_eq,Option.isNone_iff_eq_none] at hc
      show PM.w0 (match (es'.setB1 d [.arr sz []]).den.get (.b b) with | .agg cs=>_ | _=>_) Kst _
      rw [St.get_bx (st:=(es'.setB1 d [.arr sz []]).den) hcs]
      exact ⟨⟨hc.1.1,hc.1.2,hc.2⟩,hK _ ((hi'.setBx d _).setBx b _) h'⟩
     ·exact h'.elim
    ·exact h'.elim
   ·exact h.elim
  ·exact h.elim
 ·rename_i n a
  simp only [AI.pm]
  rw [ev_w0,←hrd]
  split at h
  ·rename_i b off e
   rw [e]
   split at h
   ·rename_i hok
    simp only [hok,if_true]
    refine frzE_w0 (fun es1 hi1 h=>frzE_w0 (fun es2 hi2 h=> ?_) hi1 h) hi h
    split at h
    ·rename_i cs hcs
     split at h
     ·rename_i hc
      simp only [Bool.and_eq_true,decide_eq_true_eq,Option.isNone_iff_eq_none] at hc
      show PM.w0 (match es2.den.get (.b b) with | .agg cs=>_ | _=>_) Kst es2.den
      rw [St.get_bx (st:=es2.den) hcs]
      refine ⟨hc, ?_⟩
      have:=hK _ (hi2.putO_v dst _) h
      rw [ES.putO_den] at this
      exact setD_w0.2 this
     ·exact h.elim
    ·exact h.elim
   ·exact h.elim
  ·exact h.elim
 ·rename_i sz bytes s x
  simp only [AI.pm]
  rw [ev_w0,ev_w0,←hrd,←hrd]
  split at h
  ·rename_i z k o n m e1 e2
   rw [e1,e2]
   split at h
   ·rename_i cs hcs
    split at h
    ·rename_i z' l hro
     split at h
     ·rename_i hc
      simp only [Bool.and_eq_true,decide_eq_true_eq] at hc
      show PM.w0 (match rowD (es.den.get (.b k)) with | some (z',l)=>_ | none=>_) Kst es.den
      rw [St.get_bx (st:=es.den) hcs,show rowD (.agg cs) =some (z',l) from hro]
      refine ⟨⟨hc.1.1.1.1,hc.1.1.1.2,hc.1.1.2,h.1,h.2.1,hc.1.2⟩,hc.2, ?_⟩
      have:=hK _ (((hi.kill k).setBx k _).putO_v dst _) (h.2.2 _ rfl)
      rw [ES.putO_den,ES.setB1_den,ES.kill_den] at this
      exact setD_w0.2 this
     ·exact h.elim
    ·exact h.elim
   ·exact h.elim
  ·exact h.elim
 ·rename_i n
  simp only [AI.pm]
  rw [ev_w0,←hrd]
  split at h
  ·rename_i z l e
   rw [e]
   refine ⟨h.1, ?_⟩
   have:=hK _ ((hi.put_v n _).putO_v dst _) h.2
   rw [ES.putO_den,ES.put_den] at this
   exact setD_w0.2 this
  ·exact h.elim
 ·rename_i n j cp
  simp only [AI.pm]
  rw [ev_w0,←hrd]
  split at h
  ·rename_i l e
   rw [e]
   split at h
   ·rename_i hl
    refine ⟨hl, ?_⟩
    split at h
    ·rename_i hcp
     rw [if_neg (by rw [hcp];simp)]
     exact done h
    rename_i hcp
    have hcp:cp=false:=by simpa using hcp
    subst hcp
    split at h
    ·rename_i z l' e2
     rw [e2]
     simp only [isOwn,Bool.not_false,Bool.and_self,if_true]
     have:=hK _ ((hi.put_v n _).putO_v dst _) h
     rw [ES.putO_den,ES.put_den] at this
     exact setD_w0.2 this
    ·rename_i hno
     rw [if_neg (by intro hh;simp only [Bool.not_false,Bool.and_true] at hh;unfold isOwn at hh;split at hh;rename_i z l e;exact hno z l e;cases hh)]
     exact done h
   ·exact h.elim
  ·exact h.elim
 ·rename_i sz bytes n x
  simp only [AI.pm]
  rw [ev_w0,ev_w0,←hrd,←hrd]
  split at h
  ·rename_i z l m e1 e2
   rw [e1,e2]
   split at h
   ·rename_i hc
    simp only [Bool.and_eq_true,decide_eq_true_eq] at hc
    refine ⟨⟨hc.1,h.1,hc.2⟩, ?_⟩
    have:=hK _ ((hi.put_v n _).putO_v dst _) h.2
    rw [ES.putO_den,ES.put_den] at this
    exact setD_w0.2 this
   ·exact h.elim
  ·exact h.elim
 ·rename_i sz bytes x
  simp only [AI.pm]
  rw [ev_w0,ev_w0,←hrd x]
  split at h
  ·rename_i m e2
   rw [e2]
   split at h
   ·rename_i hc
    refine ⟨⟨rfl,by simpa using h.1,hc⟩, ?_⟩
    exact done h.2
   ·exact h.elim
  ·exact h.elim
 ·rename_i f args oi
  simp only [AI.pm]
  rw [evL_w0]
  have e1:(args.map (·.1)).map (AX.val es.den) =args.map fun a=>es.rd [] a.1:=by simp [hrd]
  rw [e1]
  cases oi with
  | none=>exact call_done hi hK h
  | some i=>
   simp only [stripA]
   have e2: ∀y,args[i]? =some y→(args.map fun a=>es.rd [] a.1).getD i .junk=es.rd [] y.1:=by
    intro y hy;simp [List.getD_eq_getElem?_getD,hy]
   cases ha:args[i]? with
   | none=>
    have e3:(args.map fun a=>es.rd [] a.1).getD i .junk= .junk:=by simp [List.getD_eq_getElem?_getD,ha]
    rw [e3,if_neg (by decide)]
    have e4:stripE (some i) args es=es:=by simp [stripE,List.getD_eq_getElem?_getD,ha]
    rw [e4] at h
    exact call_done hi hK h
   | some y=>
    obtain ⟨ax,nl⟩:=y
    have e5:args.getD i (AX.c .junk,none) =(ax,nl):=by simp [List.getD_eq_getElem?_getD,ha]
    rw [e2 _ ha,e5]
    simp only
    cases ax with
    | c v=>
     have e4:stripE (some i) args es=es:=by simp only [stripE,e5]
     rw [e4] at h
     split
     ·exact call_done hi hK h
     ·exact call_done hi hK h
    | t n=>
     cases ev:es.rd [] (.t n) with
     | own z l=>
      have e4:stripE (some i) args es=es.put n (.v (.d (.slice z l))):=by simp only [stripE,e5,ev]
      rw [e4] at h
      rw [if_pos (show isOwn (.own z l) =true from rfl)]
      have:=call_done (hi.put_v n (.d (.slice z l))) hK h
      rw [ES.put_den] at this
      exact this
     | _=>
      have e4:stripE (some i) args es=es:=by simp only [stripE,e5,ev]
      rw [e4] at h
      rw [if_neg (by simp [isOwn])]
      exact call_done hi hK h
 ·rename_i x args
  simp only [AI.pm]
  rw [ev_w0,evL_w0,←argsV_eq hrd,←hrd]
  split at h
  ·rename_i f caps e
   rw [e]
   exact call_done hi hK h
  ·rename_i y e
   obtain ⟨f,rfl,h⟩:=h
   rw [e]
   exact call_done hi hK h
  ·exact h.elim
 ·rename_i z0 x
  simp only [AI.pm]
  rw [ev_w0,←hrd]
  split at h
  ·rename_i z k o n e
   rw [e]
   split at h
   ·rename_i hok
    simp only [hok,if_true]
    split at h
    ·rename_i cs hcs
     split at h
     ·rename_i z' l hro
      split at h
      ·rename_i hc
       simp only [Bool.and_eq_true,decide_eq_true_eq] at hc
       show PM.w0 (match rowD (es.den.get (.b k)) with | some (z',l)=>_ | none=>_) Kst es.den
       rw [St.get_bx (st:=es.den) hcs,show rowD (.agg cs) =some (z',l) from hro]
       refine ⟨⟨hc.1,hc.2,h.1⟩, ?_⟩
       have:=hK _ ((hi.setBx k _).putO_v dst _) (h.2 _ rfl)
       rw [ES.putO_den,ES.setB1_den] at this
       exact setD_w0.2 this
      ·exact h.elim
     ·exact h.elim
    ·exact h.elim
   ·exact h.elim
  ·exact h.elim
 ·rename_i b sz
  simp only [AI.pm]
  refine newEB_w0 hi (fun es' hi' h'=> ?_) h
  have:=hK _ ((hi'.setBx b _).putO_v dst _) h'
  rw [ES.putO_den] at this
  exact setD_w0.2 this
 ·rename_i sz bytes s x
  simp only [AI.pm]
  rw [ev_w0,ev_w0,←hrd,←hrd]
  split at h
  ·rename_i z k o n m e1 e2
   rw [e1,e2]
   split at h
   ·rename_i cs hcs
    split at h
    ·rename_i z' l hro
     split at h
     ·rename_i hc
      simp only [Bool.and_eq_true,decide_eq_true_eq] at hc
      show PM.w0 (match rowD (es.den.get (.b k)) with | some (z',l)=>_ | none=>_) Kst es.den
      rw [St.get_bx (st:=es.den) hcs,show rowD (.agg cs) =some (z',l) from hro]
      refine ⟨⟨hc.1.1.1,hc.1.1.2,h.1,h.2.1,hc.1.2⟩,fun g=>⟨hc.2, ?_⟩⟩
      cases g with
      | true=>
       have:=hK _ (((hi.kill k).setBx k _).putO_v dst _) ((h.2.2 true).1 rfl _ rfl)
       rw [ES.putO_den,ES.setB1_den,ES.kill_den] at this
       exact setD_w0.2 this
      | false=>
       have:=hK _ (((hi.kill k).setBx k _).putO_v dst _) ((h.2.2 false).2 rfl _ rfl)
       rw [ES.putO_den,ES.setB1_den,ES.kill_den] at this
       exact setD_w0.2 this
     ·exact h.elim
    ·exact h.elim
   ·exact h.elim
  ·exact h.elim
 ·rename_i n
  simp only [AI.pm]
  rw [ev_w0,←hrd]
  split at h
  ·rename_i l e
   rw [e]
   have:=hK _ ((hi.put_v n _).putO_v dst _) h
   rw [ES.putO_den,ES.put_den] at this
   exact setD_w0.2 this
  ·exact h.elim
 ·rename_i x
  simp only [AI.pm]
  rw [ev_w0,←hrd]
  split at h
  ·rename_i z k n e
   rw [e]
   split at h
   ·rename_i cs hcs
    split at h
    ·rename_i z' l hro
     split at h
     ·rename_i hc
      simp only [Bool.and_eq_true,decide_eq_true_eq] at hc
      show PM.w0 (match rowD (es.den.get (.b k)) with | some (z',l)=>_ | none=>_) Kst es.den
      rw [St.get_bx (st:=es.den) hcs,show rowD (.agg cs) =some (z',l) from hro]
      refine ⟨⟨hc.1,h.1⟩,hc.2, ?_⟩
      have:=hK _ (((hi.kill k).setBx k _).putO_v dst _) h.2
      rw [ES.putO_den,ES.setB1_den,ES.kill_den] at this
      exact setD_w0.2 this
     ·exact h.elim
    ·exact h.elim
   ·exact h.elim
  ·exact h.elim
 ·exact pv_done hi hK h
end
end B
end Go.Proofs.YtmkkljbfmdngfaaGreatDoor
