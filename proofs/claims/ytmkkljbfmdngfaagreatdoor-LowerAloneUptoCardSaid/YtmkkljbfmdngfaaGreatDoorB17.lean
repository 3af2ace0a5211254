/- From a function's text to the abstract machine's, by computation. No condition. -/
import Derived.Test.YtmkkljbfmdngfaaGreatDoorB15
set_option linter.all false
namespace Go.Proofs.YtmkkljbfmdngfaaGreatDoor
namespace B
variable {P:Program} {C:CallRel} {okr okw:Nat→Bool} {o:Oper}
def mapO {α β:Type} (f:α→Option β) :List α→Option (List β)
 | []=>some []
 | x :: r=>match f x,mapO f r with
  | some y,some ys=>some (y :: ys)
  | _,_=>none
theorem mapO_spec {α β:Type} {f:α→Option β}: ∀{l:List α} {r:List β},mapO f l=some r→l.map f=r.map some
 | [],r,h=>by simp only [mapO,Option.some.injEq] at h;subst h;rfl
 | x :: l,r,h=>by
  simp only [mapO] at h
  split at h
  ·rename_i y ys hy hys
   cases h
   simp [hy,mapO_spec hys]
  ·cases h
def elSz (P:Program) (t:TypeId) :Option Nat:=match P.underlying t with
 | some (.slice e)=>(P.info? e).map (·.size)
 | _=>none
def szOf (P:Program) (t:TypeId) :Nat:=match P.info? t with | some ti=>ti.size | none=>0
def zsOf (P:Program) :Nat→TypeId→List CV
 | 0,_=>[]
 | n+1,t=>match P.underlying t with
  | some .bool=>[.d (.bool false)]
  | some (.int k)=>[.d (.int k 0)]
  | some .string=>[.d (.str [])]
  | some (.slice e)=>[.own (szOf P e) []]
  | some (.pointer _)=>[.d .nilp]
  | some (.func _ _ _)=>[.d (.fn none)]
  | some (.struct fs)=>fs.toList.flatMap fun f=>zsOf P n f.type
  | some (.array k e)=>(List.replicate k (zsOf P n e)).flatten
  | _=>List.replicate (szOf P t) .junk
structure Hint where
 Ms:Nat→Nat→List Nat
 ow:Nat→Option Nat
structure Cx where
 mv:List Nat
 vars:List Nat
 ow:Nat→Option Nat
 dr:Bool:=false
 rows:List Nat:=[]
 frz:List Nat:=[]
def Cx.xf (cx:Cx) (x:Operand) (dst:Option Nat) :Bool:=
 (match x with | .tmp n=> !cx.vars.contains n | _=>false) ||(match dst with | some d=>cx.mv.contains d | none=>false)
def zsSelf (P:Program) (dst:Option Nat) (t:TypeId) :List CV:=match P.underlying t,dst with
 | some (.struct fs),some d=>if fs.toList.any (fun f=>match P.underlying f.type with | some (.pointer k)=>k==t | _=>false)
  then fs.toList.flatMap (fun f=>match P.underlying f.type with
   | some (.pointer k)=>if k==t then [.sp d t] else zsOf P 9 f.type
   | some (.slice k)=>[.bld k true []]
   | _=>zsOf P 9 f.type)
  else zsOf P 9 t
 | _,_=>zsOf P 9 t
def isNilS:Operand→Bool
 | .const (.slice none 0 0)=>true
 | _=>false
def trMove (P:Program) (cx:Cx) (o:Oper) (x:Operand) :AI:=match trX x with
 | some ax=> .mov ax (cx.xf x o.dst) (elSz P o.type)
 | none=> .bad
def trAssign (P:Program) (o:Oper) (x:Operand) :AI:=match trX x with
 | some ax=> .mov ax true (elSz P o.type)
 | none=> .bad
def frzX (cx:Cx) (x:Operand) :Option AX:=match trX x with
 | some (.t n)=>if cx.frz.contains (3000000+n) =true then some (.t n) else none
 | _=>none
def tupX (cx:Cx) (x:Operand) :Option AX:=match trX x with
 | some (.t n)=>if cx.frz.contains (4000000+n) =true then some (.t n) else none
 | _=>none
def nilX (P:Program) (cx:Cx) (o:Oper) (x:Operand) :Option Nat:=match o.dst with
 | some d=>if (isNilS x&&cx.frz.contains (7000000+d)) =true then elSz P o.type else none
 | none=>none
def trMoveF (P:Program) (cx:Cx) (o:Oper) (x:Operand) :AI:=match frzX cx x with
 | some ax=> .frzM ax
 | none=>match tupX cx x with
  | some ax=> .movT ax
  | none=>match nilX P cx o x with
   | some z=> .mov (.c (.d (.slice z []))) true none
   | none=>trMove P cx o x
def trAssignF (P:Program) (cx:Cx) (o:Oper) (x:Operand) :AI:=match frzX cx x with
 | some ax=> .frzM ax
 | none=>match tupX cx x with
  | some ax=> .movT ax
  | none=>match nilX P cx o x with
   | some z=> .mov (.c (.d (.slice z []))) true none
   | none=>trAssign P o x
theorem nilX_spec {cx:Cx} {x:Operand} {z:Nat} (h:nilX P cx o x=some z) :x= .const (.slice none 0 0):=by
 unfold nilX at h
 split at h
 ·split at h
  ·rename_i h1
   rw [Bool.and_eq_true] at h1
   have h1:=h1.1
   unfold isNilS at h1
   split at h1
   ·rfl
   ·cases h1
  ·cases h
 ·cases h
theorem g_movN {x:Operand} {z:Nat} (ho:o.op= .move x∨o.op= .assign x) (hx:x= .const (.slice none 0 0)) :Good P o ((AI.mov (.c (.d (.slice z []))) true none).pm C okr okw o.dst):=by
 subst hx
 intro Γ ρ bl st a w h hgz hd K hw Q
 have hrun:(execOp a.eval o).run P w= .ok (.value (.slice none 0 0)) w:=by rcases ho with ho | ho<;>simp [execOp,ho,Act.eval]
 exact good_data h hd hrun (.nil z) hw
theorem frzX_spec {cx:Cx} {x:Operand} {ax:AX} (h:frzX cx x=some ax) :trX x=some ax:=by
 unfold frzX at h
 split at h
 ·rename_i n hx
  split at h
  ·rw [hx];exact h
  ·cases h
 ·cases h
theorem tupX_spec {cx:Cx} {x:Operand} {ax:AX} (h:tupX cx x=some ax) :trX x=some ax:=by
 unfold tupX at h
 split at h
 ·rename_i n hx
  split at h
  ·rw [hx];exact h
  ·cases h
 ·cases h
def trPick (x y z:Operand) :AI:=match trX x,trX y,trX z with
 | some a,some b,some c=> .pick a b c
 | _,_,_=> .bad
def trAlloc (P:Program) (dst:Option Nat) (t:TypeId) :AI:=match P.info? t with
 | some ti=>match ti.zero with
  | some z=>if zchkL (zsSelf P dst t) z.cells.toList&&(zsSelf P dst t).all (spOk dst t) then .alloc (zsSelf P dst t) else .bad
  | none=> .bad
 | none=> .bad
def trBox (P:Program) (t:TypeId) (x:Operand) :AI:=match trX x,isAggT P t with
 | some ax,some ag=> .box (szOf P t) ag ax
 | _,_=> .bad
def toNils:CV→CV
 | .own z []=> .d (.nils z)
 | c=>c
def trBuild (P:Program) (t:TypeId) (parts:Array (Nat×Operand)) :AI:=match P.underlying t,P.info? t with
 | some (.struct fs),some ti=>match ti.zero with
  | some z=>match fs.toList.mapM (fun f=>(P.info? f.type).map fun i=>(f.offset,i.size)) with
   | some places=>match mapO (fun x:Nat×Operand=>match places.toArray[x.1]?,trX x.2 with | some p,some ax=>some (p.1,p.2,ax) | _,_=>none) parts.toList with
    | some aps=>if zchkL ((zsOf P 9 t).map toNils) z.cells.toList&&((zsOf P 9 t).map toNils).all (spOk none 0) then .build ((zsOf P 9 t).map toNils) aps else .bad
    | none=> .bad
   | none=> .bad
  | none=> .bad
 | _,_=> .bad
def trBuildSl (P:Program) (t:TypeId) (len:Nat) (parts:Array (Nat×Operand)) :AI:=match P.underlying t with
 | some (.slice e)=>match P.info? e,mapO (fun x:Nat×Operand=>trX x.2) parts.toList with
  | some ti,some aps=>match ti.zero with
   | some z=>if z.cells.size==ti.size&&(parts.toList.map (·.1) ==List.range len) &&decide (len*ti.size≤2 ^ 24) &&decide (len≤2 ^ 24) then .buildSl ti.size aps else .bad
   | none=> .bad
  | _,_=> .bad
 | _=> .bad
def trLoad (P:Program) (cx:Cx) (o:Oper) (t:TypeId) (x:Operand) :AI:=match trX x,isAggT P t,P.info? t with
 | some ax,some ag,some ti=>if ag||ti.size==1 then .load ag ti.size ax (match o.dst with | some d=>cx.mv.contains d | none=>false) else .bad
 | _,_,_=> .bad
def trStore (P:Program) (o:Oper) (t:TypeId) (x y:Operand) :AI:=match trX x,trX y,isAggT P t,P.info? t with
 | some ax,some ay,some ag,some ti=>if (ag||ti.size==1) &&o.dst.isNone then .store ag ti.size ax ay (elSz P t) else .bad
 | _,_,_,_=> .bad
def isNilP:Operand→Bool
 | .const (.pointer none)=>true
 | _=>false
def eqKs (P:Program) (fs:Array Field) :Option (List Nat):=mapO (fun f=>kdT P f.type) fs.toList
def trBin (P:Program) (op:BinOp) (t:TypeId) (x y:Operand) :AI:=match trX x,trX y with
 | some ax,some ay=> .bin (match P.underlying t with | some .bool=>true | _=>false) op ax ay
 | _,_=> .bad
def trEq (P:Program) (ng:Bool) (t:TypeId) (x y:Operand) :AI:=match P.underlying t with
 | some (.struct fs)=>match trX x,trX y,eqKs P fs with
  | some ax,some ay,some ks=>if !P.stoodInHeld t&& !P.eqGuardType P.depth t&&(fs.toList.map (fun f=>(f.offset,kdT P f.type,f.name=="_")) ==ks.zipIdx.map (fun y=>(y.2,some y.1,false))) then .eqAgg ng ks ax ay else .bad
  | _,_,_=> .bad
 | some (.pointer _)=>match trX x with
  | some ax=>if isNilP y then .ptrNil ng ax else .bad
  | none=> .bad
 | some (.slice _)=>match trX x with
  | some ax=>if isNilS y then .slNil ng ax else .bad
  | none=> .bad
 | _=>trBin P (if ng then .neq else .eql) t x y
def trConv (P:Program) (s t:TypeId) (x:Operand) :AI:=match trX x,P.underlying s,P.underlying t with
 | some ax,some ds,some dt=>match ds,dt with
  | _, .int k=> .convInt k ax
  | .slice e, .string=>match P.underlying e with
   | some (.int .u8)=> .toStr ax
   | _=> .bad
  | .string, .string=> .convId ax
  | .string, .slice e=>match P.underlying e with
   | some (.int .u8)=> .toBytes ax
   | _=> .bad
  | .slice e, .slice _=>match P.underlying e with
   | some (.int .u8)=>if s==t then .stringish ax else .bad
   | _=> .bad
  | _,_=> .bad
 | _,_,_=> .bad
def trSlice (P:Program) (t:TypeId) (x:Operand) (lo hi mx:Option Operand) :AI:=match trX x,mx with
 | some ax,none=>match P.underlying t with
  | some (.slice e)=>match P.info? e,trO lo,trO hi with
   | some ti,some al,some ah=> .slice ti.size ax al ah
   | _,_,_=> .bad
  | some .string=>match trO lo,trO hi with
   | some al,some ah=> .sliceS ax al ah
   | _,_=> .bad
  | _=> .bad
 | some ax,some (.const (.int _ 0))=>match P.underlying t,lo,hi with
  | some (.slice e),none,some (.const (.int _ 0))=>match P.info? e with
   | some ti=> .slice0 ti.size ax
   | none=> .bad
  | _,_,_=> .bad
 | _,_=> .bad
def trFieldA (P:Program) (t:TypeId) (x:Operand) (i:Nat) :AI:=match trX x,P.underlying t with
 | some ax,some (.struct fs)=>match fs[i]? with
  | some f=>match P.info? f.type with
   | some ti=>if ti.size==0 then .bad else .fieldA f.offset ax
   | none=> .bad
  | none=> .bad
 | _,_=> .bad
def trIdxA (P:Program) (t:TypeId) (x y:Operand) :AI:=match trX x,trX y,P.underlying t with
 | some ax,some ay,some (.slice e)=>match P.info? e with
  | some ti=> .idxA ti.size ax ay
  | none=> .bad
 | _,_,_=> .bad
def trIdx (P:Program) (t:TypeId) (x y:Operand) :AI:=match trX x,trX y,P.underlying t with
 | some ax,some ay,some .string=> .idxS ax ay
 | _,_,_=> .bad
def trUn (op:UnOp) (x:Operand) :AI:=match trX x,op with
 | some ax, .not=> .not ax
 | some ax, .neg=> .neg ax
 | _,_=> .bad
def trLen (P:Program) (t:TypeId) (x:Operand) :AI:=match trX x,P.underlying t with
 | some ax,some (.slice _)=> .len ax
 | some ax,some .string=> .lenS ax
 | _,_=> .bad
def notInt:TypeDesc→Bool
 | .int _=>false
 | _=>true
def trAppend (P:Program) (t tx:TypeId) (s x:Operand) :AI:=match trX s,trX x,P.underlying t,P.underlying tx with
 | some as,some ax,some (.slice e),some d=>match P.info? e with
  | some ti=>match ti.zero with
   | some z=>if notInt d&&z.cells.size==ti.size&&decide (0<ti.size) &&decide (0<ti.bytes) then .append ti.size ti.bytes as ax else .bad
   | none=> .bad
  | none=> .bad
 | _,_,_,_=> .bad
def trArgs (P:Program) :List Operand→List TypeId→Option (List (AX×Option Nat))
 | [],[]=>some []
 | x :: r,t :: ts=>match trX x,trArgs P r ts with
  | some ax,some l=>some ((ax,elSz P t) :: l)
  | _,_=>none
 | _,_=>none
def trClear (P:Program) (t:TypeId) (x:Operand) :AI:=match trX x,P.underlying t with
 | some ax,some (.slice e)=>match P.info? e with
  | some i=>match i.zero with
   | some (.int k 0)=> .clr (.int k 0) ax
   | _=> .bad
  | none=> .bad
 | _,_=> .bad
def trCall (P:Program) (cx:Cx) (c:Call) :AI:=match c.callee with
 | .value (.func f)=>match trArgs P c.args.toList c.argTypes.toList with
  | some as=> .call f (if cx.frz.contains (f+2000000) =true then as.map fun a=>(a.1,none) else as) (cx.ow f)
  | none=> .bad
 | .value (.tmp n)=>match trArgs P c.args.toList c.argTypes.toList with
  | some as=> .callv (.t n) as
  | none=> .bad
 | .builtin .len=>match c.args.toList,c.argTypes.toList with
  | [x],[t]=>trLen P t x
  | _,_=> .bad
 | .builtin .append=>match c.args.toList,c.argTypes.toList with
  | [s,x],[t,tx]=>trAppend P t tx s x
  | _,_=> .bad
 | .builtin .max=>match c.args.toList with
  | [x,y]=>match trX x,trX y with
   | some ax,some ay=> .mm true ax ay
   | _,_=> .bad
  | [x,y,z]=>match trX x,trX y,trX z with
   | some ax,some ay,some az=> .mm3 ax ay az
   | _,_,_=> .bad
  | _=> .bad
 | .builtin .min=>match c.args.toList with
  | [x,y]=>match trX x,trX y with
   | some ax,some ay=> .mm false ax ay
   | _,_=> .bad
  | _=> .bad
 | .builtin .clear=>match c.args.toList,c.argTypes.toList with
  | [x],[t]=>trClear P t x
  | _,_=> .bad
 | _=> .bad
def trI0 (P:Program) (cx:Cx) (o:Oper) :AI:=match o.op with
 | .move x=>trMoveF P cx o x
 | .assign x=>trAssignF P cx o x
 | .pick x y z=>trPick x y z
 | .alloc t=>trAlloc P o.dst t
 | .box t x=>trBox P t x
 | .build t parts=>trBuild P t parts
 | .buildSlice t len parts=>trBuildSl P t len parts
 | .load t x=>trLoad P cx o t x
 | .store t x y=>trStore P o t x y
 | .nilCheck x=>match trX x with | some ax=> .nilCk ax | none=> .bad
 | .binOp op t x y _=>match op with
  | .eql=>trEq P false t x y
  | .neq=>trEq P true t x y
  | op=>trBin P op t x y
 | .unOp op _ x=>trUn op x
 | .convert s t x=>trConv P s t x
 | .slice t x lo hi mx=>trSlice P t x lo hi mx
 | .fieldAddr t x i=>trFieldA P t x i
 | .indexAddr t x y=>trIdxA P t x y
 | .index t x y=>trIdx P t x y
 | .extract x i=>match trX x with | some ax=> .extract ax i cx.dr | none=> .bad
 | .call c=>trCall P cx c
 | .makeFunc (.func f) first caps=>match first.toList,mapO trX caps.toList with
  | [],some acs=> .mkfn f acs
  | _,_=> .bad
 | _=> .bad
def trAppR (P:Program) (fl:Bool) (t tx:TypeId) (s x:Operand) :AI:=match trX s,trX x,P.underlying t,P.underlying tx with
 | some as,some ax,some (.slice e),some d=>match P.info? e with
  | some ti=>match ti.zero with
   | some z=>if notInt d&&z.cells.size==ti.size&&decide (0<ti.size) &&decide (0<ti.bytes) then (if fl=true then .appO ti.size ti.bytes as ax else .appR ti.size ti.bytes as ax) else .bad
   | none=> .bad
  | none=> .bad
 | _,_,_,_=> .bad
def flO (cx:Cx) (o:Oper) :Bool:=match o.dst with
 | some d=>cx.frz.contains (6000000+d)
 | none=>false
def boxK (cx:Cx) (o:Oper) :Option Nat:=match o.dst with
 | some d=>(cx.frz.find? fun e=>decide (5000000≤e) &&decide (e<6000000) &&(e- 5000000) % 1000==d).map fun e=>(e- 5000000) / 1000
 | none=>none
def trNilR (P:Program) (cx:Cx) (o:Oper) (x:Operand) :AI:=match isNilS x,elSz P o.type with
 | true,some sz=>match boxK cx o with
  | some b=> .rowNK b sz
  | none=> .rowN sz
 | _,_=> .bad
def trRow (P:Program) (cx:Cx) (o:Oper) :AI:=match o.op with
 | .move x=>if isNilS x then trNilR P cx o x else trI0 P cx o
 | .assign x=>if isNilS x then trNilR P cx o x else trI0 P cx o
 | .slice t x none (some (.const (.int _ 0))) (some (.const (.int _ 0)))=>match trX x,P.underlying t with
  | some ax,some (.slice e)=>match P.info? e with
   | some ti=> .row0 ti.size ax
   | none=> .bad
  | _,_=> .bad
 | .convert s t x=>match trX x,P.underlying s,P.underlying t with
  | some ax,some .string,some (.slice e)=>match P.underlying e with
   | some (.int .u8)=> .rowB ax
   | _=> .bad
  | _,_,_=> .bad
 | .call {callee:= .builtin .append,args:=args,argTypes:=ts}=>match args.toList,ts.toList with
  | [s,x],[t,tx]=>trAppR P (flO cx o) t tx s x
  | _,_=> .bad
 | _=>trI0 P cx o
def trRow2 (P:Program) (cx:Cx) (o:Oper) :AI:=match o.op with
 | .store t x y=>match x with
  | .tmp d=>match isNilS y&&cx.rows.contains d&&o.dst.isNone,elSz P t,P.info? t with
   | true,some sz,some ti=>if ti.size=1 then .rowS d sz (.t d) else .bad
   | _,_,_=>trI0 P cx o
  | _=>trI0 P cx o
 | .load t x=>match o.dst with
  | some d=>if cx.frz.contains d=true then match trX x,isAggT P t,P.info? t with
    | some ax,some true,some ti=> .loadF ti.size ax
    | _,_,_=> .bad
   else trI0 P cx o
  | none=>trI0 P cx o
 | _=>trI0 P cx o
def trI (P:Program) (cx:Cx) (o:Oper) :AI:=if (match o.dst with | some d=>cx.rows.contains d | none=>false) =true then trRow P cx o else trRow2 P cx o
theorem g_bad:Good P o (AI.bad.pm C okr okw o.dst):=fun _ _ _ _ _ _ _ _ _ _ h=>h.elim
theorem trBin_good {op:BinOp} {t t':TypeId} {x y:Operand} (ho:o.op= .binOp op t x y t') :Good P o ((trBin P op t x y).pm C okr okw o.dst):=by
 unfold trBin
 split
 ·rename_i ax ay hx hy
  refine g_bin _ ho hx hy fun h=> ?_
  split at h
  ·assumption
  ·cases h
 ·exact g_bad
theorem trEq_good {ng:Bool} {t t':TypeId} {x y:Operand} (ho:o.op= .binOp (if ng then .neq else .eql) t x y t') :Good P o ((trEq P ng t x y).pm C okr okw o.dst):=by
 unfold trEq
 split
 ·rename_i fs ht
  split
  ·rename_i ax ay ks hx hy hks
   split
   ·rename_i h
    simp only [Bool.and_eq_true,Bool.not_eq_true',beq_iff_eq] at h
    exact g_eqAgg ng ho hx hy ht h.1.1 h.1.2 h.2
   ·exact g_bad
  ·exact g_bad
 ·rename_i e ht
  split
  ·rename_i ax hx
   split
   ·rename_i h
    refine g_ptrNil ng ho ?_ hx ht
    unfold isNilP at h
    split at h
    ·rfl
    ·cases h
   ·exact g_bad
  ·exact g_bad
 ·rename_i e ht
  split
  ·rename_i ax hx
   split
   ·rename_i h
    refine g_slNil ng ho ?_ hx ht
    unfold isNilS at h
    split at h
    ·rfl
    ·cases h
   ·exact g_bad
  ·exact g_bad
 ·exact trBin_good ho
theorem trArgs_spec: ∀{xs:List Operand} {ts:List TypeId} {as:List (AX×Option Nat)},trArgs P xs ts=some as→xs.map trX=as.map fun y=>some y.1
 | [],[],as,h=>by simp only [trArgs,Option.some.injEq] at h;subst h;rfl
 | x :: r,t :: ts,as,h=>by
  simp only [trArgs] at h
  split at h
  ·rename_i ax l hx hl
   cases h
   simp [hx,trArgs_spec hl]
  ·cases h
 | [],_ :: _,_,h=>by cases h
 | _ :: _,[],_,h=>by cases h
theorem eq_arr {α:Type} {a:Array α} {l:List α} (h:a.toList=l) :a=l.toArray:=by cases a;simp at h;simp [h]
theorem trLen_good {t:TypeId} {x:Operand} (ho:o.op= .call {callee:= .builtin .len,args:= #[x],argTypes:= #[t]}) :Good P o ((trLen P t x).pm C okr okw o.dst):=by
 unfold trLen
 split
 ·rename_i hx ht;exact g_len ho hx ht
 ·rename_i hx ht;exact g_lenS ho hx ht
 ·exact g_bad
theorem trAppend_good {t tx:TypeId} {s x:Operand} (ho:o.op= .call {callee:= .builtin .append,args:= #[s,x],argTypes:= #[t,tx]}) :Good P o ((trAppend P t tx s x).pm C okr okw o.dst):=by
 unfold trAppend
 split
 ·rename_i as ax e d hs hx ht htx
  split
  ·rename_i ti hi
   split
   ·rename_i z hz
    split
    ·rename_i h
     simp only [Bool.and_eq_true,beq_iff_eq,decide_eq_true_eq] at h
     refine g_append ho hs hx ht htx (fun k e=> ?_) hi hz rfl h.1.1.2 h.1.2 rfl h.2
     subst e;simp [notInt] at h
    ·exact g_bad
   ·exact g_bad
  ·exact g_bad
 ·exact g_bad
theorem trCall_good (cx:Cx) {c:Call} (ho:o.op= .call c) :Good P o ((trCall P cx c).pm (Runs P) okr okw o.dst):=by
 obtain ⟨callee,args,argTypes⟩:=c
 unfold trCall
 dsimp only
 split
 ·rename_i f
  split
  ·rename_i as has
   refine g_call _ ho ?_
   split
   ·rw [List.map_map];exact trArgs_spec has
   ·exact trArgs_spec has
  ·exact g_bad
 ·rename_i n
  split
  ·rename_i as has
   exact g_callv ho rfl (trArgs_spec has)
  ·exact g_bad
 ·split
  ·rename_i x t hx ht
   rw [eq_arr hx,eq_arr ht] at ho
   exact trLen_good ho
  ·exact g_bad
 ·split
  ·rename_i s x t tx hx ht
   rw [eq_arr hx,eq_arr ht] at ho
   exact trAppend_good ho
  ·exact g_bad
 ·split
  ·rename_i x y hx
   rw [eq_arr hx] at ho
   split
   ·rename_i ax ay hx hy;exact g_mm true ho hx hy
   ·exact g_bad
  ·rename_i x y z hx
   rw [eq_arr hx] at ho
   split
   ·rename_i ax ay az hx hy hz;exact g_mm3 ho hx hy hz
   ·exact g_bad
  ·exact g_bad
 ·split
  ·rename_i x y hx
   rw [eq_arr hx] at ho
   split
   ·rename_i ax ay hx hy;exact g_mm false ho hx hy
   ·exact g_bad
  ·exact g_bad
 ·split
  ·rename_i x t hx ht
   rw [eq_arr hx,eq_arr ht] at ho
   unfold trClear
   split
   ·rename_i ax e hx ht
    split
    ·rename_i i hi
     split
     ·rename_i k hz;exact g_clr ho hx ht hi hz
     ·exact g_bad
    ·exact g_bad
   ·exact g_bad
  ·exact g_bad
 ·exact g_bad
theorem trConv_good {s t:TypeId} {x:Operand} (ho:o.op= .convert s t x) :Good P o ((trConv P s t x).pm C okr okw o.dst):=by
 unfold trConv
 split
 ·rename_i ax ds dt hx hs ht
  split
  ·exact g_convInt ho (by rw [hs];rfl) ht hx
  ·split
   ·rename_i he;exact g_toStr ho hs he ht hx
   ·exact g_bad
  ·exact g_convId ho (by rw [hs];rfl) ht hx
  ·split
   ·rename_i he;exact g_toBytes ho hs ht he hx
   ·exact g_bad
  ·split
   ·rename_i he
    split
    ·rename_i h
     have h:s=t:=by simpa using h
     subst h
     exact g_stringish ho hs he hx
    ·exact g_bad
   ·exact g_bad
  ·exact g_bad
 ·exact g_bad
theorem trSlice_good {t:TypeId} {x:Operand} {lo hi mx:Option Operand} (ho:o.op= .slice t x lo hi mx) :Good P o ((trSlice P t x lo hi mx).pm C okr okw o.dst):=by
 unfold trSlice
 split
 ·rename_i ax hx
  split
  ·rename_i e ht
   split
   ·rename_i ti al ah hi' hl hh;exact g_slice ho hx hl hh ht hi' rfl
   ·exact g_bad
  ·rename_i ht
   split
   ·rename_i al ah hl hh;exact g_sliceS ho hx hl hh ht
   ·exact g_bad
  ·exact g_bad
 ·rename_i ax hx
  split
  ·rename_i e ht
   split
   ·rename_i ti hi';exact g_slice0 ho hx ht hi'
   ·exact g_bad
  ·exact g_bad
 ·exact g_bad
theorem trI0_good (cx:Cx) :Good P o ((trI0 P cx o).pm (Runs P) okr okw o.dst):=by
 unfold trI0
 split
 ·rename_i x ho
  unfold trMoveF
  split
  ·rename_i ax hx;exact g_frzM (.inl ho) (frzX_spec hx)
  split
  ·rename_i ax hx;exact g_movT (.inl ho) (tupX_spec hx)
  split
  ·rename_i z hx;exact g_movN (.inl ho) (nilX_spec hx)
  unfold trMove
  split
  ·rename_i ax hx;exact g_mov _ _ (.inl ho) hx
  ·exact g_bad
 ·rename_i x ho
  unfold trAssignF
  split
  ·rename_i ax hx;exact g_frzM (.inr ho) (frzX_spec hx)
  split
  ·rename_i ax hx;exact g_movT (.inr ho) (tupX_spec hx)
  split
  ·rename_i z hx;exact g_movN (.inr ho) (nilX_spec hx)
  unfold trAssign
  split
  ·rename_i ax hx;exact g_mov _ _ (.inr ho) hx
  ·exact g_bad
 ·rename_i x y z ho
  unfold trPick
  split
  ·rename_i a b c ha hb hc;exact g_pick ho ha hb hc
  ·exact g_bad
 ·rename_i t ho
  unfold trAlloc
  split
  ·rename_i ti hi
   split
   ·rename_i z hz
    split
    ·rename_i h;rw [Bool.and_eq_true] at h;exact g_alloc ho hi hz h.1 h.2
    ·exact g_bad
   ·exact g_bad
  ·exact g_bad
 ·rename_i t x ho
  unfold trBox
  split
  ·rename_i ax ag hx hag;exact g_box _ _ ho hx
  ·exact g_bad
 ·rename_i t parts ho
  unfold trBuild
  split
  ·rename_i fs ti ht hi
   split
   ·rename_i z hz
    split
    ·rename_i places hp
     split
     ·rename_i aps haps
      split
      ·rename_i h
       rw [Bool.and_eq_true] at h
       refine g_build ho ht hi hz h.1 h.2 hp ?_
       have:=mapO_spec haps
       have key: ∀(l:List (Nat×Operand)) (r:List (Nat×Nat×AX)),(l.map fun x=>match places.toArray[x.1]?,trX x.2 with | some p,some ax=>some (p.1,p.2,ax) | _,_=>none) =r.map some→l.map (fun x=>(places.toArray[x.1]?,trX x.2)) =r.map (fun y=>(some (y.1,y.2.1),some y.2.2)):=by
        intro l
        induction l with
        | nil=>intro r h;cases r<;>simp at h⊢
        | cons a l ih=>
         intro r h
         cases r with
         | nil=>simp at h
         | cons b r=>
          simp only [List.map_cons,List.cons.injEq] at h⊢
          refine ⟨?_,ih r h.2⟩
          have h1:=h.1
          split at h1
          ·rename_i p ax hp hax;cases h1;simp only [hp,hax]
          ·cases h1
       exact key _ _ this
      ·exact g_bad
     ·exact g_bad
    ·exact g_bad
   ·exact g_bad
  ·exact g_bad
 ·rename_i t len parts ho
  unfold trBuildSl
  split
  ·rename_i e ht
   split
   ·rename_i ti aps hi haps
    split
    ·rename_i z hz
     split
     ·rename_i h
      simp only [Bool.and_eq_true,beq_iff_eq,decide_eq_true_eq] at h
      exact g_buildSl ho (mapO_spec haps) h.1.1.2 ht hi hz rfl h.1.1.1 h.1.2 h.2
     ·exact g_bad
    ·exact g_bad
   ·exact g_bad
  ·exact g_bad
 ·rename_i t x ho
  unfold trLoad
  split
  ·rename_i ax ag ti hx hag hi
   split
   ·rename_i h
    refine g_load _ ho hx hag hi rfl fun e=> ?_
    subst e;simpa using h
   ·exact g_bad
  ·exact g_bad
 ·rename_i t x y ho
  unfold trStore
  split
  ·rename_i ax ay ag ti hx hy hag hi
   split
   ·rename_i h
    simp only [Bool.and_eq_true,Bool.or_eq_true] at h
    refine g_store _ ho (by simpa using h.2) hx hy hi rfl fun e=> ?_
    subst e;simpa using h.1
   ·exact g_bad
  ·exact g_bad
 ·rename_i x ho
  split
  ·rename_i ax hx;exact g_nilCk ho hx
  ·exact g_bad
 ·rename_i op t x y t' ho
  split
  ·exact trEq_good (ng:=false) ho
  ·exact trEq_good (ng:=true) ho
  ·exact trBin_good ho
 ·rename_i op t x ho
  unfold trUn
  split
  ·rename_i ax hx;exact g_not ho hx
  ·rename_i ax hx;exact g_neg ho hx
  ·exact g_bad
 ·rename_i s t x ho;exact trConv_good ho
 ·rename_i t x lo hi mx ho;exact trSlice_good ho
 ·rename_i t x i ho
  unfold trFieldA
  split
  ·rename_i ax fs hx ht
   split
   ·rename_i f hf
    split
    ·rename_i ti hi
     split
     ·exact g_bad
     ·rename_i hz
      have hz:ti.size≠0:=by simpa using hz
      exact g_fieldA (n:=ti.size- 1) ho hx fs f ti ht hf rfl hi (by omega)
    ·exact g_bad
   ·exact g_bad
  ·exact g_bad
 ·rename_i t x y ho
  unfold trIdxA
  split
  ·rename_i ax ay e hx hy ht
   split
   ·rename_i ti hi;exact g_idxA ho hx hy ht hi rfl
   ·exact g_bad
  ·exact g_bad
 ·rename_i t x y ho
  unfold trIdx
  split
  ·rename_i ax ay hx hy ht;exact g_idxS ho hx hy ht
  ·exact g_bad
 ·rename_i x i ho
  split
  ·rename_i ax hx;exact g_extract ho hx
  ·exact g_bad
 ·rename_i c ho;exact trCall_good cx ho
 ·rename_i f first caps ho
  split
  ·rename_i acs hf hc
   rw [show first= #[] by simpa using hf] at ho
   exact g_mkfn ho (mapO_spec hc)
  ·exact g_bad
 ·exact g_bad
theorem isNilS_eq {x:Operand} (h:isNilS x=true) :x= .const (.slice none 0 0):=by
 unfold isNilS at h
 split at h
 ·rfl
 ·cases h
theorem trNilR_good {cx:Cx} {x:Operand} (ho:o.op= .move x∨o.op= .assign x) :Good P o ((trNilR P cx o x).pm C okr okw o.dst):=by
 unfold trNilR
 split
 ·rename_i sz h _
  split
  ·exact g_rowNK ho (isNilS_eq h)
  ·exact g_rowNm ho (isNilS_eq h)
 ·exact g_bad
theorem trAppR_good {fl:Bool} {t tx:TypeId} {s x:Operand} (ho:o.op= .call {callee:= .builtin .append,args:= #[s,x],argTypes:= #[t,tx]}) :Good P o ((trAppR P fl t tx s x).pm C okr okw o.dst):=by
 unfold trAppR
 split
 ·rename_i as ax e d hs hx ht htx
  split
  ·rename_i ti hi
   split
   ·rename_i z hz
    split
    ·rename_i h
     simp only [Bool.and_eq_true,beq_iff_eq,decide_eq_true_eq] at h
     have hni: ∀k,d≠ .int k:=fun k e=>by subst e;simp [notInt] at h
     cases fl with
     | true=>exact g_appO ho hs hx ht htx hni hi hz rfl h.1.1.2 h.1.2 rfl h.2
     | false=>exact g_appR ho hs hx ht htx hni hi hz rfl h.1.1.2 h.1.2 rfl h.2
    ·exact g_bad
   ·exact g_bad
  ·exact g_bad
 ·exact g_bad
theorem trRow_good (cx:Cx) :Good P o ((trRow P cx o).pm (Runs P) okr okw o.dst):=by
 unfold trRow
 split
 ·rename_i x ho
  split
  ·exact trNilR_good (.inl ho)
  ·exact trI0_good cx
 ·rename_i x ho
  split
  ·exact trNilR_good (.inr ho)
  ·exact trI0_good cx
 ·rename_i t x k1 k2 ho
  split
  ·rename_i ax e hx ht
   split
   ·rename_i ti hi';exact g_row0 ho hx ht hi'
   ·exact g_bad
  ·exact g_bad
 ·rename_i s t x ho
  split
  ·rename_i ax e hx hs ht
   split
   ·rename_i he;exact g_rowB ho hs ht he hx
   ·exact g_bad
  ·exact g_bad
 ·rename_i args ts ho
  split
  ·rename_i s x t tx hx ht
   rw [eq_arr hx,eq_arr ht] at ho
   exact trAppR_good ho
  ·exact g_bad
 ·exact trI0_good cx
theorem trRow2_good (cx:Cx) :Good P o ((trRow2 P cx o).pm (Runs P) okr okw o.dst):=by
 unfold trRow2
 split
 ·rename_i t x y ho
  split
  ·rename_i d
   split
   ·rename_i sz ti hb hsz hi
    simp only [Bool.and_eq_true] at hb
    split
    ·rename_i hn
     exact g_rowS d sz ho (isNilS_eq hb.1.1) (by simpa using hb.2) rfl hi hn
    ·exact g_bad
   ·exact trI0_good cx
  ·exact trI0_good cx
 ·rename_i t x ho
  split
  ·split
   ·split
    ·rename_i ax ti hx hag hi;exact g_loadF ho hx hag hi rfl
    ·exact g_bad
   ·exact trI0_good cx
  ·exact trI0_good cx
 ·exact trI0_good cx
theorem trI_good (cx:Cx) :Good P o ((trI P cx o).pm (Runs P) okr okw o.dst):=by
 unfold trI
 have h1:=trRow_good (P:=P) (okr:=okr) (okw:=okw) (o:=o) cx
 have h2:=trRow2_good (P:=P) (okr:=okr) (okw:=okw) (o:=o) cx
 generalize (match o.dst with | some d=>cx.rows.contains d | none=>false) =b
 cases b with
 | true=>exact h1
 | false=>exact h2
def Code.opers:Code→List Oper
 | .region _ ops _=>ops.toList
 | .seq a b=>Code.opers a++Code.opers b
 | .cond _ a b=>Code.opers a++Code.opers b
 | .block _ a=>Code.opers a
 | .loop a=>Code.opers a
 | _=>[]
def resSlots:List ResultVar→List Nat
 | []=>[]
 | .tmp t :: r=>t :: resSlots r
 | _ :: r=>resSlots r
def cxOf (ow:Nat→Option Nat) (rs:List Nat) (c:Code) (np:Nat) :Cx where
 ow:=ow
 mv:=(Code.opers c).filterMap fun o=>match o.op with
  | .call {callee:= .builtin .append,args:=args, .. }=>match args.toList with
   | Operand.tmp n :: _=>some n
   | _=>none
  | .call {callee:= .value (.func f),args:=args, .. }=>match ow f with
   | some i=>match args[i]? with
    | some (Operand.tmp n)=>some n
    | _=>none
   | none=>none
  | .assign (.tmp t)=>match o.dst with
   | some d=>if rs.contains d then some t else none
   | none=>none
  | _=>none
 vars:=List.range np++(Code.opers c).filterMap fun o=>match o.op with
  | .assign _=>o.dst
  | _=>none
def trOp (P:Program) (cx:Cx) (ops:Array Oper) (o:Oper) :AOp where
 dst:=o.dst
 i:=trI P cx o
 g:=match o.guard with
  | none=>none
  | some (j,b)=>match (ops[j]?).bind (·.dst) with
   | some d=>some (d,b)
   | none=>none
def guardsOk (ops:Array Oper) :Bool:=ops.toList.all fun o=>match o.guard with
 | none=>true
 | some (j,_)=>((ops[j]?).bind (·.dst)).isSome
def trOps (P:Program) (cx:Cx) (ops:Array Oper) :List AOp:=ops.toList.map (trOp P cx ops)
def befOf (ops:List Oper) :List (List Nat):=ops.foldl (fun acc o=>acc++ [((o.after.toList.filter fun e=>Region.binds .any e).flatMap fun e=>e.on :: acc.getD e.on []).eraseDups]) []
def clsOf (ops:List AOp) (bef:List (List Nat)) (M:List Nat) :List Nat:=
 (List.range ops.length).map fun i=>
  if (List.range ops.length).all fun j=>j==i||(if j<i then (bef.getD i []).contains j else (bef.getD j []).contains i) then 3
  else match M.find? (fun v=>decide (1000000≤v) &&(v- 1000000) / 10000==i) with
  | some v=>(v- 1000000) % 10000
  | none=>if M.isEmpty then 0 else match ops[i]? with
   | some ⟨_, .call _ _ _,_⟩ | some ⟨_, .callv _ _,_⟩=>if M.contains 99999 then 0 else 2
   | some ⟨_, .store _ _ _ _ _,_⟩=>2
   | _=>0
def trC (P:Program) (cx:Cx) (Ms:Nat→List Nat) :Code→Option AC
 | .skip=>some .skip
 | .region id ops draw=>if guardsOk ops then
   if draw then
    if P.follows .mixedOrders&&befB ops (befOf ops.toList) &&drawB (Ms id) (trOps P {cx with dr:=true} ops) (clsOf (trOps P {cx with dr:=true} ops) (befOf ops.toList) (Ms id)) (befOf ops.toList) then some (.draw (trOps P {cx with dr:=true} ops) (clsOf (trOps P {cx with dr:=true} ops) (befOf ops.toList) (Ms id)) (Ms id)) else none
   else some (.ops (trOps P cx ops))
  else none
 | .seq a b=>match trC P cx Ms a,trC P cx Ms b with
  | some x,some y=>some (.seq x y)
  | _,_=>none
 | .cond c a b=>match trX c,trC P cx Ms a,trC P cx Ms b with
  | some ac,some x,some y=>some (.cond ac x y)
  | _,_,_=>none
 | .block id a=>match trC P cx Ms a with
  | some x=>some (.block id x)
  | none=>none
 | .loop a=>match trC P cx Ms a with
  | some x=>some (.loop x)
  | none=>none
 | .exit id=>some (.exit id)
 | .ret=>some .ret
 | _=>none
theorem trOp_fits {ops:Array Oper} (hg:guardsOk ops=true) {cx:Cx} (i:Nat) (o:Oper) (ao:AOp) (ho:ops[i]? =some o) (ha:(trOps P cx ops)[i]? =some ao) :AOpFits P ops o ao:=by
 have hao:ao=trOp P cx ops o:=by
  simp only [trOps,List.getElem?_map,Array.getElem?_toList,ho,Option.map_some,Option.some.injEq] at ha
  exact ha.symm
 subst hao
 refine ⟨rfl,fun okr okw=>trI_good cx, ?_⟩
 have:=List.all_eq_true.1 hg o (by rw [Array.mem_toList_iff];exact Array.mem_of_getElem? ho)
 cases hgd:o.guard with
 | none=>simp only [trOp,hgd]
 | some jb=>
  obtain ⟨j,b⟩:=jb
  simp only [hgd] at this
  obtain ⟨d,hd⟩:=Option.isSome_iff_exists.1 this
  exact ⟨d,hd,by simp only [trOp,hgd,hd]⟩
theorem trC_fits {cx:Cx} {Ms:Nat→List Nat}: ∀{c:Code} {ac:AC},trC P cx Ms c=some ac→Fits P c ac:=by
 intro c
 induction c with
 | skip=>intro ac h;simp only [trC,Option.some.injEq] at h;subst h;exact .skip
 | region id ops draw=>
  intro ac h
  simp only [trC] at h
  split at h
  ·rename_i hg
   split at h
   ·rename_i hd
    subst hd
    split at h
    ·rename_i hc
     simp only [Bool.and_eq_true] at hc
     cases h
     exact fits_draw _ hc.1.1 (by simp [trOps]) (trOp_fits hg) hc.1.2 hc.2
    ·cases h
   ·rename_i hd
    cases h
    simp only [Bool.not_eq_true] at hd
    subst hd
    exact .ops (by simp [trOps]) (trOp_fits hg)
  ·cases h
 | seq a b iha ihb=>
  intro ac h
  simp only [trC] at h
  split at h
  ·rename_i x y hx hy;cases h;exact .seq (iha hx) (ihb hy)
  ·cases h
 | cond c a b iha ihb=>
  intro ac h
  simp only [trC] at h
  split at h
  ·rename_i ac x y hc hx hy;cases h;exact .cond hc (iha hx) (ihb hy)
  ·cases h
 | block id a iha=>
  intro ac h
  simp only [trC] at h
  split at h
  ·rename_i x hx;cases h;exact .block (iha hx)
  ·cases h
 | loop a iha=>
  intro ac h
  simp only [trC] at h
  split at h
  ·rename_i x hx;cases h;exact .loop (iha hx)
  ·cases h
 | exit id=>intro ac h;simp only [trC,Option.some.injEq] at h;subst h;exact .exit
 | ret=>intro ac h;simp only [trC,Option.some.injEq] at h;subst h;exact .ret
 | _=>intro ac h;simp [trC] at h
def trR (P:Program) :ResultVar→Option AR
 | .tmp t=>some (.tm t)
 | .cell a ty=>match isAggT P ty,P.info? ty with
  | some ag,some ti=>if ag||ti.size==1 then some (.ce a ag ti.size) else none
  | _,_=>none
theorem trR_fits {rv:ResultVar} {ar:AR} (h:trR P rv=some ar) :AR.fits P rv ar:=by
 cases rv with
 | tmp t=>simp only [trR,Option.some.injEq] at h;subst h;rfl
 | cell a ty=>
  simp only [trR] at h
  split at h
  ·rename_i ag ti hag hi
   split at h
   ·rename_i hc
    cases h
    exact ⟨rfl,hag,⟨ti,hi,rfl⟩,fun e=>by subst e;simpa using hc⟩
   ·cases h
  ·cases h
structure AF where
 ac:AC
 rs:List AR
 np:Nat
 n:Nat
def trF (P:Program) (H:Hint) (f:Nat) :Option AF:=match P.funcs[f]? with
 | some fn=>if fn.name=="runtime.NumGoroutine" then none else match fn.body with
  | some c=>match trC P {cxOf H.ow (resSlots fn.results.toList) c (fn.params.size+fn.nfree) with rows:=H.Ms f 1000000,frz:=H.Ms f 1000001} (H.Ms f) c,mapO (trR P) fn.results.toList with
   | some ac,some rs=>if decide (rs.flatMap AR.slot).Nodup then some ⟨ac,rs,fn.params.size+fn.nfree,fn.ntmps⟩ else none
   | _,_=>none
  | none=>none
 | none=>none
theorem runs_of {f:Nat} {H:Hint} {af:AF} {args:List CV} {objs objs':List (Nat×List CV)} {res:CV} (hf:trF P H f=some af) (hobj:(objs.map (·.1)).Nodup∧((objs.map (·.1)).all fun b=>decide (1000≤b) &&(decide (b<5000) ||mvF f)) =true)
  (h:awp (Runs P) (objs.map (·.1)) af.ac (retQ af.rs res objs') ⟨args++List.replicate (af.n-args.length) .junk,objs⟩) :Runs P f args objs res objs':=by
 unfold trF at hf
 split at hf
 ·rename_i fn hfn
  split at hf
  ·cases hf
  ·rename_i hname
   split at hf
   ·rename_i c hc
    split at hf
    ·rename_i ac rs hac hrs
     split at hf
     ·rename_i hnd
      cases hf
      have hm:=mapO_spec hrs
      refine runs_of_body hfn (by simpa using hname) hc (trC_fits hac) (by simpa using congrArg List.length hm) (fun i rv ar h1 h2=>trR_fits ?_) (by simpa using hnd) hobj h
      have:=congrArg (·[i]?) hm
      simp only [List.getElem?_map,h1,h2,Option.map_some,Option.some.injEq] at this
      exact this
     ·cases hf
    ·cases hf
   ·cases hf
 ·cases hf
end B
end Go.Proofs.YtmkkljbfmdngfaaGreatDoor
