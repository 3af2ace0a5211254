/- A function's walk, as one proposition that the kernel reckons. No condition. -/
import Derived.Test.YtmkkljbfmdngfaaGreatDoorB25
set_option linter.all false
namespace Go.Proofs.YtmkkljbfmdngfaaGreatDoor
namespace B
variable {P:Program}
abbrev nI (n:Nat) :Int:=(n:Int)
def shT (P:Program) :Nat→TypeId→List Sh
 | 0,_=>[.any]
 | n+1,t=>match P.underlying t with
  | some .bool=>[.bool]
  | some (.int k)=>[.int k]
  | some .string=>[.str]
  | some (.slice e)=>[.slice (szOf P e)]
  | some (.struct fs)=>fs.toList.flatMap fun f=>shT P n f.type
  | some (.array k e)=>(List.replicate k (shT P n e)).flatten
  | some (.chan _ _)=>[.line]
  | some (.func _ _ _)=>[.fn]
  | _=>[.any]
def ownSh (own:Bool) :Sh→Sh
 | .slice z=>if own=true then .own z else .slice z
 | s=>s
def rowSh (z:Nat) :Sh→Sh
 | .slice z'=>if z % 100=z'∨(z / 100≠0∧z / 100=z') then .arr z' else .slice z'
 | s=>s
def rcR (P:Program) (h:Bool) (z:Nat) (t:TypeId) :RC:=match P.underlying t with
 | some (.struct _)=>if h=true then .agrh ((shT P 9 t).map (rowSh z)) else .agr ((shT P 9 t).map (rowSh z))
 | some (.slice _)=>if h=true then .rwh z else .rw z
 | _=>match shT P 9 t with
  | [s]=> .sc s
  | _=> .sc .any
def rcT (P:Program) (own:Bool) (t:TypeId) :RC:=match P.underlying t with
 | some (.struct _)=> .ag (shT P 9 t)
 | some (.array _ _)=> .ag (shT P 9 t)
 | some (.pointer e)=> .np ((shT P 9 e).map (ownSh own))
 | _=>match shT P 9 t with
  | [s]=> .sc (ownSh own s)
  | _=> .sc .any
def tbOf (P:Program) (own gw:List Nat) (c:Code) :Tb where
 gw:=fun f=>gw.contains f
 fr:=fun f=>match P.funcs[if f<1000000 then f else match own.find? (fun x=>decide (2000000000≤x) &&(x / 1000) % 1000000==f- 1000000) with | some x=>x % 1000 | none=>f]? with
  | some fn=>match own.find? (fun x=>decide (1000000≤x) &&decide (x<1000000000) &&x % 500000==f) with
   | some x=>fn.resultTypes.toList.map (rcR P (decide (500000≤x % 1000000)) (x / 1000000))
   | none=>match own.find? (fun x=>decide (1000000000≤x) &&decide (x<2000000000) &&x % 1000==f) with
    | some x=>[.sc (.rs (x / 10000000 % 100) (x / 1000 % 10000))]
    | none=>fn.resultTypes.toList.map (rcT P (own.contains f))
  | none=>[]
 ix:=fun d=>match (Code.opers c).find? (fun o=>o.dst==some d) with
  | some o=>match o.op with
   | .indexAddr t _ _=>match P.underlying t with
    | some (.slice e)=>shT P 9 e
    | _=>[]
   | .load t _=>shT P 9 t
   | _=>[]
  | none=>[]
def CV.normR:CV→CV
 | .tup l=> .tup (l.map CV.norm1)
 | .d x=> .d x.norm
 | v=>v
def endE (rs:List AR) (res:CV) (objs':List (Nat×List CV)) :AExit→ES→Prop
 | .exit _,_=>False
 | _,es=>match valsOf es.den rs with
  | some cs=>if (cs.length==1||cs.all fun c=> !c.isAggr) =true then EndR (packR cs).normR res (es.b.map fun x=>(x.1,x.2.map CV.norm1)) objs' else False
  | none=>False
theorem lookup_norm (b:Nat) : ∀l:List (Nat×List CV),(l.map fun x=>(x.1,x.2.map CV.norm1)).lookup b=(l.lookup b).map fun cs=>cs.map CV.norm1
 | []=>rfl
 | (k,v) :: r=>by
  simp only [List.map_cons,List.lookup]
  split
  ·rfl
  ·exact lookup_norm b r
theorem rowOf_norm (cs:List CV) :rowOf (cs.map CV.norm1) =rowOf cs:=by
 match cs with
 | []=>rfl
 | [c]=>cases c<;>rfl
 | a :: b :: r=>
  have n2: ∀(x y:CV) (t:List CV),rowOf (x :: y :: t) =none:=fun x y t=>by cases x<;>rfl
  simp only [List.map_cons,n2]
theorem WcB_norm {bs:List (Nat×List CV)}: ∀{l:List (Nat×List CV)},WcB (bs.map fun x=>(x.1,x.2.map CV.norm1)) l→WcB bs l
 | [],_=>trivial
 | (b,cs) :: r,h=>by
  refine ⟨?_,WcB_norm h.2⟩
  have h1:=h.1
  rw [lookup_norm] at h1
  cases e:bs.lookup b with
  | none=>rw [e] at h1;exact h1
  | some cs'=>rw [e] at h1;exact ⟨WcL_norm h1.1,by rw [←rowOf_norm];exact h1.2⟩
theorem Wr_norm {c c':CV} (h:Wr c.normR c') :Wr c c':=by
 cases c with
 | tup l=>
  cases c' with
  | tup m=>exact WcL_norm h
  | junk=>trivial
  | d y=>cases y<;>cases h
  | bld e f l=>cases f<;>cases h
  | _=>cases h
 | d x=>exact Wc_norm h
 | _=>exact h
theorem endE_ret {rs:List AR} {res:CV} {objs':List (Nat×List CV)} {e:AExit} {es:ES} (h:endE rs res objs' e es) :retQ rs res objs' e es.den:=by
 have key:(match valsOf es.den rs with | some cs=>if (cs.length==1||cs.all fun c=> !c.isAggr) =true then EndR (packR cs).normR res (es.b.map fun x=>(x.1,x.2.map CV.norm1)) objs' else False | none=>False)→EndQ rs res objs' es.den:=by
  intro h
  split at h
  ·rename_i cs hcs
   split at h
   ·rename_i hc
    simp only [Bool.or_eq_true,beq_iff_eq] at hc
    exact ⟨cs,hcs,hc,Wr_norm h.1,WcB_norm h.2.1,h.2.2⟩
   ·exact h.elim
  ·exact h.elim
 cases e with
 | normal=>exact key h
 | exit id=>exact h.elim
 | ret=>exact key h
def initE (n:Nat) (args:List CV) (objs:List (Nat×List CV)) :ES:=⟨(args++List.replicate (n-args.length) CV.junk).map EC.v,objs,[],[]⟩
def walkA (P:Program) (T:Tb) (An:Nat→AC→ES→Option Hd) (af:AF) (args:List CV) (objs:List (Nat×List CV)) (Q:List AR→AExit→ES→Prop) :Prop:=forceE (initE af.n args objs) (ev (Runs P) T An (objs.map (·.1)) 0 af.ac (Q af.rs))
def tbF (P:Program) (own gw:List Nat) (f:Nat) :Tb:=match (P.funcs[f]?).bind (·.body) with
 | some c=>tbOf P own gw c
 | none=>⟨fun _=>[],fun _=>[],fun _=>false⟩
def afOf (P:Program) (H:Hint) (f:Nat) :AF:=match trF P H f with
 | some a=>a
 | none=>⟨.skip,[],0,0⟩
def anOf (af:AF) (nobj:List (Nat×Nat×Nat)) :Nat→AC→ES→Option Hd:=
 let ret:=af.rs.flatMap fun r=>match r with | .tm n=>[n] | .ce a _ _=>[a]
 let t:=lvT ret 0 [] af.ac ret
 let p:=af.ac.pts nobj
 fun k a es=>match t.lookup k with
  | some live=>some (autoHd p live a es)
  | none=>none
theorem runs_walkA {H:Hint} {af:AF} {T:Tb} {An:Nat→AC→ES→Option Hd} {f:Nat} {args:List CV} {objs objs':List (Nat×List CV)} {res:CV} {V:Prop} (haf:trF P H f=some af) (hok:(af.ac.bnd af.n&&decide (af.np≤af.n) &&(args.length==af.np)) =true) (hv:walkA P T An af args objs (fun rs=>endE rs res objs') =V) (hobj:(objs.map (·.1)).Nodup∧((objs.map (·.1)).all fun b=>decide (1000≤b) &&(decide (b<5000) ||mvF f)) =true) (h:V) :Runs P f args objs res objs':=by
 rw [←hv] at h
 unfold walkA at h
 rw [forceE_eq] at h
 simp only [Bool.and_eq_true,beq_iff_eq] at hok
 exact runs2 T An haf (by simp only [Bool.and_eq_true];exact hok.1) hok.2 hobj (fun e es he=>endE_ret he) h
def okF (P:Program) (H:Hint) (f n:Nat) :Bool:=match trF P H f with
 | some af=>af.ac.bnd af.n&&decide (af.np≤af.n) &&(n==af.np)
 | none=>false
theorem runs_walkZ {H:Hint} {T:Tb} {An:Nat→AC→ES→Option Hd} {f n:Nat} {args:List CV} {objs objs':List (Nat×List CV)} {res:CV} {V:Prop} (hok:okF P H f n=true) (hv:walkA P T An (afOf P H f) args objs (fun rs=>endE rs res objs') =V) (hn:args.length=n) (hobj:(objs.map (·.1)).Nodup∧((objs.map (·.1)).all fun b=>decide (1000≤b) &&(decide (b<5000) ||mvF f)) =true) (h:V) :Runs P f args objs res objs':=by
 unfold okF at hok
 unfold afOf at hv
 split at hok
 ·rename_i af haf
  rw [haf] at hv
  exact runs_walkA haf (by rw [hn];exact hok) hv hobj h
 ·cases hok
end B
end Go.Proofs.YtmkkljbfmdngfaaGreatDoor
