/- The evaluator for walks: code, loops. No condition. -/
import Derived.Test.YtmkkljbfmdngfaaGreatDoorB23
set_option linter.all false
namespace Go.Proofs.YtmkkljbfmdngfaaGreatDoor
namespace B
variable {P:Program}
def EndR (c res:CV) (bs objs':List (Nat×List CV)) :Prop:=Wr c res∧WcB bs objs'∧(⟨[res],objs'⟩ :St).clo=true
theorem Wc_refl (c:CV) :Wc c c:=by
 cases c with
 | d x=>cases x<;>first | rfl | exact .inl rfl
 | _=>first | trivial | rfl | (unfold Wc;split<;>first | trivial | rfl | simp_all)
theorem Wc_norm {c c':CV} (h:Wc c.norm1 c') :Wc c c':=by
 cases c with
 | d x=>
  cases x with
  | nils z=>
   have h:Wc (.d (.slice z [])) c':=h
   unfold Wc at h⊢
   cases c'<;>simp_all
  | agg l=>
   have h:Wc (.d (.agg (l.map D.norm1))) c':=h
   have e:(l.map D.norm1).map D.norm1=l.map D.norm1:=by
    rw [List.map_map];exact List.map_congr_left fun x _=>by cases x<;>rfl
   unfold Wc at h⊢
   cases c' with
   | d y=>
    cases y with
    | agg l2=>
     have h:D.agg l2= .agg (l.map D.norm1)∨D.agg l2= .agg ((l.map D.norm1).map D.norm1):=h
     rw [e] at h
     exact Or.inr (h.elim id id)
    | _=>simp_all
   | _=>simp_all
  | _=>exact h
 | _=>exact h
theorem WcL_norm: ∀{l m:List CV},WcL (l.map CV.norm1) m→WcL l m
 | [],[],_=>trivial
 | [],_ :: _,h=>h.elim
 | _ :: _,[],h=>h.elim
 | _ :: _,_ :: _,h=>⟨Wc_norm h.1,WcL_norm h.2⟩
theorem WcL_rfl: ∀l:List CV,WcL l l
 | []=>trivial
 | c :: r=>⟨Wc_refl c,WcL_rfl r⟩
theorem WcL_refl (l:List CV) :WcR l l:=⟨WcL_rfl l,rfl⟩
theorem Wr_refl (c:CV) :Wr c c:=by
 cases c with
 | tup l=>exact WcL_rfl l
 | d x=>exact Wc_refl (.d x)
 | own z l=>exact Wc_refl (.own z l)
 | nils=>exact Wc_refl .nils
 | ptr b o=>exact Wc_refl (.ptr b o)
 | ep l=>exact Wc_refl (.ep l)
 | fn f l=>exact Wc_refl (.fn f l)
 | agg l=>exact Wc_refl (.agg l)
 | junk=>exact Wc_refl .junk
 | line z l=>exact Wc_refl (.line z l)
 | bld e f l=>exact Wc_refl (.bld e f l)
 | sp b t=>exact Wc_refl (.sp b t)
 | rs z k o n=>exact Wc_refl (.rs z k o n)
 | ea z k o n=>exact Wc_refl (.ea z k o n)
 | arr z l=>exact Wc_refl (.arr z l)
theorem end0 {c res:CV} {bs:List (Nat×List CV)} (h:c=res) (hc:res.inB []=true) :EndR c res bs []:=by
 subst h
 exact ⟨Wr_refl c,trivial,by simpa [St.clo] using hc⟩
inductive Key where
 | s (n:Nat)
 | c (b i:Nat)
 deriving DecidableEq
structure Hd where
 cr:List (Key×Sh)
 md:List Nat
 bs:List Nat
 kp:List (Nat×Nat)
def predT:List Sh→Type
 | []=>Nat→Prop
 | .int _ :: r=>Int→predT r
 | .bool :: r=>Bool→predT r
 | .str :: r=>Bytes→predT r
 | .slice _ :: r=>List D→predT r
 | .own _ :: r=>List D→predT r
 | .nilp :: r=>predT r
 | .any :: r=>CV→predT r
 | .line :: r=>Nat→List D→predT r
 | .bld _ :: r=>Bytes→predT r
 | .arr _ :: r=>List D→predT r
 | .rs _ _ :: r=>Nat→predT r
 | .rso _ _ :: r=>Nat→Nat→predT r
 | .fn :: r=>Option Nat→predT r
def normV:Sh→CV→Option CV
 | .int k, .d (.int k' n)=>if k=k' then some (.d (.int k n)) else none
 | .bool, .d (.bool b)=>some (.d (.bool b))
 | .str, .d (.str s)=>some (.d (.str s))
 | .slice z, .d (.slice z' l)=>if z=z' then some (.d (.slice z l)) else none
 | .slice z, .own z' l=>if z=z' then some (.d (.slice z l)) else none
 | .slice z, .nils=>some (.d (.slice z []))
 | .slice z, .d (.nils z')=>if z=z' then some (.d (.slice z [])) else none
 | .own z, .d (.nils z')=>if z=z' then some (.own z []) else none
 | .own z, .own z' l=>if z=z' then some (.own z l) else none
 | .own z, .nils=>some (.own z [])
 | .nilp, .d .nilp=>some (.d .nilp)
 | .any,c=>some c
 | .line, .line c l=>some (.line c l)
 | .bld e, .bld e' _ l=>if e=e' then some (.bld e false l) else none
 | .arr z, .arr z' l=>if z=z' then some (.arr z l) else none
 | .rs z k, .rs z' k' 0 n=>if z=z'∧k=k' then some (.rs z k 0 n) else none
 | .rso z k, .rs z' k' o n=>if z=z'∧k=k' then some (.rs z k o n) else none
 | .fn, .d (.fn o)=>some (.d (.fn o))
 | _,_=>none
theorem normV_wc {s:Sh} {c c':CV} (h:normV s c=some c') :Wc c c':=by
 unfold normV at h
 split at h<;>first
  | (split at h<;>first | (rename_i e;obtain ⟨e,e'⟩:=e;subst e;subst e';cases h;exact Wc_refl _) | (rename_i e;subst e;cases h;exact .inr rfl) | (rename_i e;subst e;cases h;exact ⟨rfl,rfl⟩) | (rename_i e;subst e;cases h;exact Wc_refl _) | (rename_i e;subst e;cases h;rfl) | cases h)
  | (cases h;exact Wc_refl _)
  | (cases h;rfl)
  | cases h
def appI:(l:List Sh)→predT l→List CV→Nat→Prop
 | [],I,[],n=>I n
 | .int _ :: r,I, .d (.int _ x) :: cs,n=>appI r (I x) cs n
 | .bool :: r,I, .d (.bool x) :: cs,n=>appI r (I x) cs n
 | .str :: r,I, .d (.str x) :: cs,n=>appI r (I x) cs n
 | .slice _ :: r,I, .d (.slice _ x) :: cs,n=>appI r (I x) cs n
 | .own _ :: r,I, .own _ x :: cs,n=>appI r (I x) cs n
 | .nilp :: r,I,_ :: cs,n=>appI r I cs n
 | .any :: r,I,c :: cs,n=>appI r (I c) cs n
 | .line :: r,I, .line c l :: cs,n=>appI r (I c l) cs n
 | .bld _ :: r,I, .bld _ _ l :: cs,n=>appI r (I l) cs n
 | .arr _ :: r,I, .arr _ l :: cs,n=>appI r (I l) cs n
 | .rs _ _ :: r,I, .rs _ _ _ x :: cs,n=>appI r (I x) cs n
 | .rso _ _ :: r,I, .rs _ _ o x :: cs,n=>appI r (I o x) cs n
 | .fn :: r,I, .d (.fn o) :: cs,n=>appI r (I o) cs n
 | _,_,_,_=>False
def allI:(l:List Sh)→predT l→(List CV→Nat→Prop)→Prop
 | [],I,F=>∀n,I n→F [] n
 | .int k :: r,I,F=>∀x:Int,allI r (I x) fun cs n=>F (.d (.int k x) :: cs) n
 | .bool :: r,I,F=>∀x:Bool,allI r (I x) fun cs n=>F (.d (.bool x) :: cs) n
 | .str :: r,I,F=>∀x:Bytes,allI r (I x) fun cs n=>F (.d (.str x) :: cs) n
 | .slice z :: r,I,F=>∀x:List D,allI r (I x) fun cs n=>F (.d (.slice z x) :: cs) n
 | .own z :: r,I,F=>∀x:List D,allI r (I x) fun cs n=>F (.own z x :: cs) n
 | .nilp :: r,I,F=>allI r I fun cs n=>F (.d .nilp :: cs) n
 | .any :: r,I,F=>∀x:CV,allI r (I x) fun cs n=>F (x :: cs) n
 | .line :: r,I,F=>∀(c:Nat) (x:List D),allI r (I c x) fun cs n=>F (.line c x :: cs) n
 | .bld e :: r,I,F=>∀x:Bytes,allI r (I x) fun cs n=>F (.bld e false x :: cs) n
 | .arr z :: r,I,F=>∀x:List D,allI r (I x) fun cs n=>F (.arr z x :: cs) n
 | .rs z k :: r,I,F=>∀x:Nat,allI r (I x) fun cs n=>F (.rs z k 0 x :: cs) n
 | .rso z k :: r,I,F=>∀o x:Nat,allI r (I o x) fun cs n=>F (.rs z k o x :: cs) n
 | .fn :: r,I,F=>∀o:Option Nat,allI r (I o) fun cs n=>F (.d (.fn o) :: cs) n
def exact1:List Sh→List CV→Prop
 | [],[]=>True
 | s :: r,c :: cs=>normV s c=some c∧exact1 r cs
 | _,_=>False
theorem allI_app: ∀{l:List Sh} {I:predT l} {F:List CV→Nat→Prop},allI l I F→∀{cs:List CV} {n:Nat},exact1 l cs→appI l I cs n→F cs n:=by
 intro l
 induction l with
 | nil=>
  intro I F h cs n he ha
  cases cs with
  | nil=>exact h n ha
  | cons c cs=>exact he.elim
 | cons s r ih=>
  intro I F h cs n he ha
  cases cs with
  | nil=>exact he.elim
  | cons c cs=>
   obtain ⟨h1,h2⟩:=he
   cases s with
   | any=>exact ih (F:=fun cs n=>F (c :: cs) n) (h c) h2 ha
   | line=>
    cases c with
    | line cap x=>exact ih (F:=fun cs n=>F (.line cap x :: cs) n) (h cap x) h2 ha
    | _=>simp [normV] at h1
   | arr z=>
    cases c with
    | arr z' x=>
     simp only [normV] at h1
     split at h1
     ·rename_i q;subst q
      exact ih (F:=fun cs n=>F (.arr z x :: cs) n) (h x) h2 ha
     ·cases h1
    | _=>simp [normV] at h1
   | rs z k=>
    cases c with
    | rs z' k' o x=>
     cases o with
     | zero=>
      simp only [normV] at h1
      split at h1
      ·rename_i q;obtain ⟨q,q'⟩:=q;subst q;subst q'
       exact ih (F:=fun cs n=>F (.rs z k 0 x :: cs) n) (h x) h2 ha
      ·cases h1
     | succ o=>simp [normV] at h1
    | _=>simp [normV] at h1
   | rso z k=>
    cases c with
    | rs z' k' o x=>
     simp only [normV] at h1
     split at h1
     ·rename_i q;obtain ⟨q,q'⟩:=q;subst q;subst q'
      exact ih (F:=fun cs n=>F (.rs z k o x :: cs) n) (h o x) h2 ha
     ·cases h1
    | _=>simp [normV] at h1
   | bld e=>
    cases c with
    | bld e' f x=>
     simp only [normV] at h1
     split at h1
     ·rename_i q;subst q
      injection h1 with h1;injection h1 with _ h1 _;subst h1
      exact ih (F:=fun cs n=>F (.bld e false x :: cs) n) (h x) h2 ha
     ·cases h1
    | _=>simp [normV] at h1
   | fn=>
    cases c with
    | d y=>
     cases y with
     | fn o=>exact ih (F:=fun cs n=>F (.d (.fn o) :: cs) n) (h o) h2 ha
     | _=>simp [normV] at h1
    | _=>simp [normV] at h1
   | nilp=>
    unfold normV at h1
    split at h1<;>first
     | (cases h1;done)
     | (split at h1<;>cases h1;done)
     | skip
    all_goals first
     | (rename_i e _;cases e;done)
     | (rename_i e;cases e;done)
     | skip
    all_goals exact ih (F:=fun cs n=>F (.d .nilp :: cs) n) h h2 ha
   | int k=>
    cases c with
    | d y=>
     cases y with
     | int k' x=>
      simp only [normV] at h1
      split at h1
      ·rename_i e;subst e
       exact ih (F:=fun cs n=>F (.d (.int k x) :: cs) n) (h x) h2 ha
      ·cases h1
     | _=>simp [normV] at h1
    | _=>simp [normV] at h1
   | bool=>
    cases c with
    | d y=>
     cases y with
     | bool x=>exact ih (F:=fun cs n=>F (.d (.bool x) :: cs) n) (h x) h2 ha
     | _=>simp [normV] at h1
    | _=>simp [normV] at h1
   | str=>
    cases c with
    | d y=>
     cases y with
     | str x=>exact ih (F:=fun cs n=>F (.d (.str x) :: cs) n) (h x) h2 ha
     | _=>simp [normV] at h1
    | _=>simp [normV] at h1
   | slice z=>
    cases c with
    | d y=>
     cases y with
     | slice z' x=>
      simp only [normV] at h1
      split at h1
      ·rename_i e;subst e
       exact ih (F:=fun cs n=>F (.d (.slice z x) :: cs) n) (h x) h2 ha
      ·cases h1
     | _=>simp [normV] at h1
    | own z' x=>
     simp only [normV] at h1
     split at h1<;>simp at h1
    | _=>simp [normV] at h1
   | own z=>
    cases c with
    | own z' x=>
     simp only [normV] at h1
     split at h1
     ·rename_i e;subst e
      exact ih (F:=fun cs n=>F (.own z x :: cs) n) (h x) h2 ha
     ·cases h1
    | d y=>cases y<;>simp [normV] at h1
    | _=>simp [normV] at h1
theorem normV_idem {s:Sh} {c c':CV} (h:normV s c=some c') :normV s c'=some c':=by
 unfold normV at h
 split at h<;>first
  | (split at h<;>first | (cases h;simp [normV];done) | cases h)
  | (cases h;simp [normV];done)
  | cases h
def keyV (es:ES) :Key→CV
 | .s n=>(es.at n).den
 | .c b i=>match es.b.lookup b with | some cs=>cs.getD i .junk | none=> .junk
def curV (es:ES) :List (Key×Sh)→Option (List CV)
 | []=>some []
 | (k,s) :: r=>match normV s (keyV es k),curV es r with
  | some c,some cs=>some (c :: cs)
  | _,_=>none
theorem curV_exact {es:ES}: ∀{l:List (Key×Sh)} {cs:List CV},curV es l=some cs→exact1 (l.map (·.2)) cs
 | [],cs,h=>by simp only [curV,Option.some.injEq] at h;subst h;trivial
 | (k,s) :: r,cs,h=>by
  simp only [curV] at h
  split at h
  ·rename_i c cs' hc hcs
   cases h
   exact ⟨normV_idem hc,curV_exact hcs⟩
  ·cases h
def getK (k:Key) :List (Key×Sh)→List CV→Option CV
 | (k',_) :: r,c :: cs=>if k'=k then some c else getK k r cs
 | _,_=>none
theorem getK_cur {es:ES} {k:Key} {c:CV}: ∀{l:List (Key×Sh)} {cs:List CV},curV es l=some cs→getK k l cs=some c→Wc (keyV es k) c
 | [],cs,h,hk=>by cases hk
 | (k',s) :: r,cs,h,hk=>by
  simp only [curV] at h
  split at h
  ·rename_i c' cs' hc hcs
   cases h
   simp only [getK] at hk
   split at hk
   ·rename_i e;subst e;cases hk;exact normV_wc hc
   ·exact getK_cur hcs hk
  ·cases h
def headS (es:ES) (hd:Hd) (cs:List CV) (n:Nat) :EC:=match getK (.s n) hd.cr cs with
 | some c=> .v c
 | none=>if hd.md.contains n=true then .v .junk else .v (es.at n).den
def headC (hd:Hd) (cs:List CV) (b:Nat) (i:Nat) (c:CV) :CV:=if hd.bs.contains b=true then (match getK (.c b i) hd.cr cs with
 | some c=>c
 | none=>if hd.kp.contains (b,i) =true then c else .junk) else c
def headE (es:ES) (hd:Hd) (cs:List CV) :ES:=
 ⟨(List.range es.s.length).map (headS es hd cs),es.b.map fun x=>(x.1,x.2.zipIdx.map fun y=>headC hd cs x.1 y.2 y.1),[],[]⟩
def keptE (es es':ES) :List (Nat×Nat)→Prop→Prop
 | [],K=>K
 | (b,i) :: r,K=>keyV es' (.c b i) =keyV es (.c b i)∧keptE es es' r K
def EC.inB (ids:List Nat) :EC→Bool
 | .v x=>x.inB ids
 | .cnd _ _ x=>x.inB ids
def cloH (es:ES) (hd:Hd) (cs:List CV) :Bool:=
 ((List.range es.s.length).all fun n=>match getK (.s n) hd.cr cs with
  | some c=>c.inB (es.b.map (·.1))
  | none=>hd.md.contains n||(es.at n).inB (es.b.map (·.1))) &&
 (headE es hd cs).b.all fun x=>x.2.all (CV.in1 (es.b.map (·.1)))
def toHead (X:List Nat) (es:ES) (hd:Hd) (es':ES) (I:List CV→Prop) :Prop:=match curV es' hd.cr with
 | some cs=>if (es'.w.all (fun n=>hd.md.contains n) &&es'.wb.all (fun b=>hd.bs.contains b|| !(es.b.any fun x=>x.1==b)) &&cloH es hd cs&&(X.all fun b=>((headE es hd cs).b.lookup b).isSome) &&decide (es.b.map (·.1)).Nodup
   &&es'.b.all (fun x=>(rowOf x.2).isNone|| !hd.bs.contains x.1||(getK (.c x.1 0) hd.cr cs).isSome||hd.kp.contains (x.1,0))
   &&hd.cr.all (fun x=>match x.1 with | .s n=>hd.md.contains n | .c b _=>hd.bs.contains b)
   &&es.b.all (fun x=>match es'.b.lookup x.1 with | some l=>l.length==x.2.length | none=>false)) =true then keptE es es' hd.kp (I cs) else False
 | none=>False
def minus (a b:List Nat) :List Nat:=a.filter fun x=> !b.contains x
def union (a b:List Nat) :List Nat:=a++minus b a
def lvOps:List AOp→List Nat→List Nat
 | [],out=>out
 | o :: r,out=>union o.rd (minus (lvOps r out) o.dst.toList)
def wrOps (l:List AOp) :List Nat:=l.flatMap AOp.wr
def AC.wr:AC→List Nat
 | .ops l=>wrOps l
 | .draw l _ _=>wrOps l
 | .seq a b=>union a.wr b.wr
 | .cond _ a b=>union a.wr b.wr
 | .block _ a=>a.wr
 | .loop a=>a.wr
 | _=>[]
def lv (ret:List Nat) (ex:List (Nat×List Nat)) :AC→List Nat→List Nat
 | .skip,out=>out
 | .ops l,out=>lvOps l out
 | .draw l _ _,out=>lvOps l out
 | .seq a b,out=>lv ret ex a (lv ret ex b out)
 | .cond c a b,out=>union c.sl (union (lv ret ex a out) (lv ret ex b out))
 | .block id a,out=>lv ret ((id,out) :: ex) a out
 | .loop a,_=>lv ret ex a (lv ret ex a (lv ret ex a []))
 | .exit id,_=>match ex.lookup id with | some l=>l | none=>[]
 | .ret,_=>ret
def lvT (ret:List Nat) :Nat→List (Nat×List Nat)→AC→List Nat→List (Nat×List Nat)
 | k,ex, .seq a b,out=>lvT ret k ex a (lv ret ex b out) ++lvT ret k ex b out
 | k,ex, .cond _ a b,out=>lvT ret k ex a out++lvT ret k ex b out
 | _,ex, .block id a,out=>lvT ret id ((id,out) :: ex) a out
 | k,ex, .loop a,out=>(k,lv ret ex (.loop a) out) :: lvT ret k ex a (lv ret ex (.loop a) out)
 | _,_,_,_=>[]
def ptsOps (m:List (Nat×Nat×Nat)) (l:List AOp) :List (Nat×Nat×Nat):=l.foldl (fun m o=>match o.dst,o.i with
 | some d, .alloc _=>(d,d,0) :: m
 | some d, .box _ _ _=>(d,d,0) :: m
 | some d, .call _ _ _=>(d,d,0) :: m
 | some d, .callv _ _=>(d,d,0) :: m
 | some d, .rowN _=>(d,d,0) :: m
 | some d, .rowNK b _=>(d,b,0) :: m
 | none, .rowS d _ (.t a)=>match m.lookup a with | some (b,o)=>(100000+b*100+o,d,0) :: m | none=>m
 | some d, .row0 _ _=>(d,d,0) :: m
 | some d, .rowB _=>(d,d,0) :: m
 | some d, .appR _ _ (.t x) _=>match m.lookup x with | some p=>(d,p) :: m | none=>m
 | some d, .appO _ _ (.t x) _=>match m.lookup x with | some p=>(d,p) :: m | none=>m
 | some d, .idxA _ (.t x) _=>match m.lookup x with | some p=>(d,p) :: m | none=>m
 | some d, .slice _ (.t x) _ _=>match m.lookup x with | some p=>(d,p) :: m | none=>m
 | some d, .extract (.t x) _ _=>match m.lookup x with | some p=>(d,p) :: m | none=>m
 | some d, .fieldA off (.t x)=>match m.lookup x with | some (b,o)=>(d,b,o+off) :: m | none=>m
 | some d, .movT (.t x)=>match m.lookup x with | some p=>(d,p) :: m | none=>m
 | some d, .mov (.t x) _ _=>match m.lookup x with | some p=>(d,p) :: m | none=>m
 | some d, .nilCk (.t x)=>match m.lookup x with | some p=>(d,p) :: m | none=>m
 | none, .store ag n (.t a) (.t x) _=>match m.lookup a,m.lookup x with
  | some (b,o),some p=>((List.range (if ag=true then n else 1)).map fun i=>(100000+b*100+o+i,p)) ++m
  | _,_=>m
 | some d, .load _ _ (.t x) _=>match m.lookup x with | some (b,o)=>(match m.lookup (100000+b*100+o) with | some p=>(d,p) :: m | none=>m) | none=>m
 | _,_=>m) m
def AC.pts:AC→List (Nat×Nat×Nat)→List (Nat×Nat×Nat)
 | .ops l,m=>ptsOps m l
 | .draw l _ _,m=>ptsOps m l
 | .seq a b,m=>b.pts (a.pts m)
 | .cond _ a b,m=>b.pts (a.pts m)
 | .block _ a,m=>a.pts m
 | .loop a,m=>a.pts m
 | _,m=>m
def deepB (m:List (Nat×Nat×Nat)) (b:Nat) :List (Nat×Option (Nat×Nat)):=(b,none) :: (m.filter fun x=>decide (100000+b*100≤x.1) &&decide (x.1<100000+b*100+100)).map fun x=>(x.2.1,none)
def wcOps (m:List (Nat×Nat×Nat)) (l:List AOp) :List (Nat×Option (Nat×Nat)):=l.flatMap fun o=>match o.i with
 | .store _ n (.t a) _ _=>match m.lookup a with | some (b,o)=>[(b,some (o,n))] | none=>[]
 | .load _ n (.t a) true=>match m.lookup a with | some (b,o)=>[(b,some (o,n))] | none=>[]
 | .appR _ _ (.t a) _=>match m.lookup a with | some (b,_)=>[(b,none)] | none=>[]
 | .appO _ _ (.t a) _=>match m.lookup a with | some (b,_)=>[(b,none)] | none=>[]
 | .rowNK b _=>[(b,none)]
 | .rowS d _ (.t a)=>match m.lookup a with | some (b,o)=>[(b,some (o,1)),(d,none)] | none=>[]
 | .loadF n (.t a)=>match m.lookup a with | some (b,o)=>[(b,some (o,n))] | none=>[]
 | .clr _ (.t a)=>match m.lookup a with | some (b,_)=>[(b,none)] | none=>[]
 | .frzM (.t a)=>match m.lookup a with | some (b,_)=>[(b,none)] | none=>[]
 | .call _ args _=>args.flatMap fun x=>match x.1 with | .t a=>(match m.lookup a with | some (b,_)=>deepB m b | none=>[]) | _=>[]
 | .callv _ args=>args.flatMap fun x=>match x.1 with | .t a=>(match m.lookup a with | some (b,_)=>[(b,none)] | none=>[]) | _=>[]
 | _=>[]
def AC.wc (m:List (Nat×Nat×Nat)) :AC→List (Nat×Option (Nat×Nat))
 | .ops l=>wcOps m l
 | .draw l _ _=>wcOps m l
 | .seq a b=>a.wc m++b.wc m
 | .cond _ a b=>a.wc m++b.wc m
 | .block _ a=>a.wc m
 | .loop a=>a.wc m
 | _=>[]
def AC.hasV:AC→Bool
 | .ops l=>l.any fun o=>match o.i with | .callv _ _=>true | _=>false
 | .draw l _ _=>l.any fun o=>match o.i with | .callv _ _=>true | _=>false
 | .seq a b=>a.hasV||b.hasV
 | .cond _ a b=>a.hasV||b.hasV
 | .block _ a=>a.hasV
 | .loop a=>a.hasV
 | _=>false
def fnCaps:CV→List Nat
 | .fn _ caps=>caps
 | _=>[]
def fnBoxes (es:ES) :List Nat:=(es.s.flatMap fun x=>match x with | .v c=>fnCaps c | .cnd _ _ c=>fnCaps c) ++es.b.flatMap fun x=>x.2.flatMap fnCaps
def shOf:CV→Sh
 | .d (.int k _)=> .int k
 | .d (.bool _)=> .bool
 | .d (.str _)=> .str
 | .d (.slice z _)=> .slice z
 | .d .nilp=> .nilp
 | .d (.fn _)=> .fn
 | .own z _=> .own z
 | .line _ _=> .line
 | .bld e _ _=> .bld e
 | .arr z _=> .arr z
 | .rs z k _ _=> .rs z k
 | .nils=> .own 1
 | .d (.nils z)=> .own z
 | _=> .any
def isSp:CV→Bool
 | .sp _ _=>true
 | .ptr _ _=>true
 | .fn _ _=>true
 | _=>false
def autoHd (pts:List (Nat×Nat×Nat)) (live:List Nat) (a:AC) (es:ES) :Hd:=
 let md:=(a.wr++(List.range es.s.length).filter fun n=>match es.at n with | .cnd _ _ _=>true | .v x=>x.ments.any hiB).eraseDups
 let wc0:=(a.wc pts++(if a.hasV then (fnBoxes es).map (fun (b:Nat)=>((b,none) :Nat×Option (Nat×Nat))) else [])).filter fun x=>es.b.any fun y=>y.1==x.1
 let wc:=wc0++(wc0.filter fun x=>x.2.isNone).flatMap fun x=>((reach es.b 9 [x.1]).filter hiB).map (fun (b:Nat)=>((b,none) :Nat×Option (Nat×Nat)))
 let bs:=(wc.map (·.1)).eraseDups
 let cells:=bs.flatMap fun b=>match es.b.lookup b with
  | some cs=>(List.range cs.length).map fun i=>(b,i)
  | none=>[]
 let hit:=fun (x:Nat×Nat)=>wc.any fun y=>y.1==x.1&&(rowOf ((es.b.lookup x.1).getD [])).isSome||y.1==x.1&&match y.2 with | some (o,n)=>decide (o≤x.2) &&decide (x.2<o+n) | none=> !isSp (((es.b.lookup x.1).getD []).getD x.2 .junk)
 let ks:=((md.filter live.contains).map Key.s) ++(cells.filter hit).map fun x=>Key.c x.1 x.2
 let sh:=fun (c:CV)=>match c with | .rs z k _ _=>if pts.any (fun x=>x.1==777777&&x.2.1==k) =true then Sh.rso z k else .rs z k | c=>shOf c
 ⟨ks.map fun k=>(k,sh (keyV es k)),md,bs,cells.filter fun x=> !hit x⟩
inductive Ex where
 | normal
 | exit (id:Nat)
 | ret
def ES.out (es:ES) (w wb:List Nat) :ES:=⟨es.s,es.b,es.w++w,es.wb++wb⟩
def seqQ (K:ES→Prop) (Q:AExit→ES→Prop) :AExit→ES→Prop
 | .normal,es=>K es
 | e,es=>Q e es
def blkQ (id:Nat) (Q:AExit→ES→Prop) :AExit→ES→Prop
 | .exit k,es=>if k=id then Q .normal es else Q (.exit k) es
 | e,es=>Q e es
def loopQ (K:ES→Prop) (Q:AExit→ES→Prop) (w wb:List Nat) :AExit→ES→Prop
 | .normal,es=>K es
 | e,es=>Q e (es.out w wb)
def ev (C:CallRel) (T:Tb) (An:Nat→AC→ES→Option Hd) (X:List Nat) :Nat→AC→(AExit→ES→Prop)→ES→Prop
 | _, .skip,Q,es=>Q .normal es
 | _, .ops l,Q,es=>evOps C T l (Q .normal) es
 | _, .draw l cls M,Q,es=>evDraw C T M (dsts M l) l cls (Q .normal) es
 | k, .seq a b,Q,es=>ev C T An X k a (seqQ (ev C T An X k b Q) Q) es
 | k, .cond c a b,Q,es=>match es.rd [] c with
  | .d (.bool t)=>(t=true→ev C T An X k a Q es)∧(t=false→ev C T An X k b Q es)
  | _=>False
 | _, .block id a,Q,es=>ev C T An X id a (blkQ id Q) es
 | k, .loop a,Q,es=>match An k a es with
  | some hd=>∃I:predT (hd.cr.map (·.2)),toHead X es hd ⟨es.s,es.b,[],[]⟩ (fun cs=>∃n,appI (hd.cr.map (·.2)) I cs n)∧
    allI (hd.cr.map (·.2)) I fun cs n=>forceE (headE es hd cs) (ev C T An X k a (loopQ (fun es'=>toHead X es hd es' fun cs'=>∃m,m<n∧appI (hd.cr.map (·.2)) I cs' m) Q (hd.md++es.w) (hd.bs++es.wb)))
  | none=>False
 | _, .exit id,Q,es=>Q (.exit id) es
 | _, .ret,Q,es=>Q .ret es
end B
end Go.Proofs.YtmkkljbfmdngfaaGreatDoor
