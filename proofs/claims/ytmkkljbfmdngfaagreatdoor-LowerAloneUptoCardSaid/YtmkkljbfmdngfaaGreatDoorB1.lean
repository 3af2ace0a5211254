/- The abstract machine: data, stores, instructions. No condition. -/
import Derived.Test.YtmkkljbfmdngfaaGreatDoorB0
import Derived.Calls
import Derived.Orders
import Derived.Laws.AppendOwn
import Derived.Lib.FrozenHead
import Derived.Laws.OwnMore
import Derived.Laws.MakeOwn
import Derived.Laws.Rows
import Derived.Laws.CopyRow
import Derived.Laws.Slices
import Derived.Laws.Entries
import Derived.Laws.BytesArg
import Derived.Laws.Small
import Derived.Laws.Cover1
import Derived.Laws.Strings
import Derived.Laws.Cover3
import Derived.Laws.Pointers
import Derived.Below
import Derived.Deep.Draws
import Derived.KernelRfl
set_option linter.all false
namespace Go.Proofs.YtmkkljbfmdngfaaGreatDoor
namespace B
abbrev Bytes:=List UInt8
inductive D where
 | bool (b:Bool)
 | int (k:IntKind) (n:Int)
 | str (s:Bytes)
 | slice (sz:Nat) (l:List D)
 | agg (l:List D)
 | nilp
 | nils (sz:Nat)
 | fn (o:Option Nat)
 deriving Inhabited
def D.cells:D→List D
 | .agg l=>l
 | x=>[x]
def D.flat:D→Bool
 | .agg _=>false
 | _=>true
def D.norm1:D→D
 | .nils z=> .slice z []
 | x=>x
def D.norm:D→D
 | .agg l=> .agg (l.map D.norm1)
 | x=>x.norm1
def flatten (l:List D) :List D:=l.flatMap D.cells
inductive CV where
 | d (x:D)
 | own (sz:Nat) (l:List D)
 | nils
 | ptr (b off:Nat)
 | ep (cs:List D)
 | fn (f:Nat) (caps:List Nat)
 | tup (l:List CV)
 | agg (l:List CV)
 | junk
 | line (cap:Nat) (l:List D)
 | sp (b t:Nat)
 | bld (e:Nat) (f:Bool) (l:Bytes)
 | rs (sz k o n:Nat)
 | ea (sz k i off:Nat)
 | arr (sz:Nat) (l:List D)
 deriving Inhabited
inductive Place where
 | s (n:Nat)
 | b (n:Nat)
 deriving DecidableEq
structure St where
 s:List CV
 b:List (Nat×List CV)
def St.bx (st:St) (b:Nat) :Option (List CV):=st.b.lookup b
def St.get (st:St) :Place→CV
 | .s n=>st.s.getD n .junk
 | .b n=>match st.bx n with | some cs=> .agg cs | none=> .junk
def setB (b:Nat) (cs:List CV) :List (Nat×List CV)→List (Nat×List CV)
 | []=>[(b,cs)]
 | (k,v) :: r=>if b==k then (b,cs) :: r else (k,v) :: setB b cs r
def St.set (st:St) :Place→CV→St
 | .s n,v=>{st with s:=st.s.set n v}
 | .b n, .agg cs=>{st with b:=setB n cs st.b}
 | .b _,_=>st
def CV.kill1 (b:Nat) :CV→CV
 | .ptr k o=>if k=b then .junk else .ptr k o
 | .sp k t=>if k=b then .junk else .sp k t
 | .rs z k o n=>if k=b then .junk else .rs z k o n
 | .ea z k i o=>if k=b then .junk else .ea z k i o
 | .fn f caps=>if caps.contains b=true then .junk else .fn f caps
 | c=>c
def CV.kill (b:Nat) :CV→CV
 | .tup l=> .tup (l.map (CV.kill1 b))
 | .agg l=> .agg (l.map (CV.kill1 b))
 | c=>c.kill1 b
def St.kill (st:St) (b:Nat) :St:=⟨st.s.map (CV.kill b),st.b.map fun x=>(x.1,x.2.map (CV.kill1 b))⟩
def rowOf:List CV→Option (Nat×List D)
 | [.arr z l]=>some (z,l)
 | _=>none
def rowD:CV→Option (Nat×List D)
 | .agg cs=>rowOf cs
 | _=>none
def addO:Nat→Nat→Nat
 | 0,j=>j
 | o+1,j=>o+1+j
def mvb (b:Nat) :Bool:=decide (b<1000) ||decide (5000≤b)
def hiB (b:Nat) :Bool:=decide (5000≤b)
inductive PM:Type 1 where
 | done
 | kill (b:Nat) (k:PM)
 | get (p:Place) (k:CV→PM)
 | set (p:Place) (v:CV) (k:PM)
 | ex (β:Type) (k:β→PM)
 | req (c:Prop) (k:PM)
 | all (k:Bool→PM)
 | fail
def Place.ok (st:St) :Place→Bool
 | .s n=>decide (n<st.s.length)
 | .b _=>true
def PM.wp:PM→(St→Prop)→St→Prop
 | .done,Q,st=>Q st
 | .kill b k,Q,st=>mvb b=true∧k.wp Q (st.kill b)
 | .get p k,Q,st=>(k (st.get p)).wp Q st
 | .set p v k,Q,st=>p.ok st=true∧k.wp Q (st.set p v)
 | .ex β k,Q,st=>∃x:β,(k x).wp Q st
 | .req c k,Q,st=>c∧k.wp Q st
 | .all k,Q,st=>∀x:Bool,(k x).wp Q st
 | .fail,_,_=>False
theorem PM.wp_mono {Q Q':St→Prop} (h: ∀st,Q st→Q' st) : ∀(m:PM) (st:St),m.wp Q st→m.wp Q' st
 | .done,_,hh=>h _ hh
 | .kill _ k,_,hh=>⟨hh.1,PM.wp_mono h k _ hh.2⟩
 | .get _ k,_,hh=>PM.wp_mono h (k _) _ hh
 | .set _ _ k,_,hh=>⟨hh.1,PM.wp_mono h k _ hh.2⟩
 | .ex _ k,_,⟨x,hh⟩=>⟨x,PM.wp_mono h (k x) _ hh⟩
 | .req _ k,_,hh=>⟨hh.1,PM.wp_mono h k _ hh.2⟩
 | .all k,_,hh=>fun x=>PM.wp_mono h (k x) _ (hh x)
 | .fail,_,hh=>hh.elim
inductive AX where
 | t (n:Nat)
 | c (v:CV)
def AX.ev:AX→(CV→PM)→PM
 | .t n,k=> .get (.s n) k
 | .c v,k=>k v
def evL:List AX→(List CV→PM)→PM
 | [],k=>k []
 | x :: r,k=>x.ev fun v=>evL r fun vs=>k (v :: vs)
def CV.held:CV→Bool
 | .own _ _=>true
 | .line _ _=>true
 | .bld _ _ _=>true
 | _=>false
def CV.copy1:CV→CV
 | .own sz l=> .d (.slice sz l)
 | .line _ _=> .junk
 | .bld _ _ _=> .junk
 | .sp _ _=> .junk
 | .arr _ _=> .junk
 | v=>v
def CV.copyB (c:CV) :CV:=match c.copy1 with
 | .d (.nils z)=> .own z []
 | v=>v
def CV.mv1:CV→CV
 | .own sz l=> .own sz l
 | v=>v.copy1
def CV.copy:CV→CV
 | .tup l=> .tup (l.map CV.copy1)
 | .agg l=> .agg (l.map CV.copy1)
 | v=>v.copy1
def CV.coer (nl:Option Nat) :CV→CV
 | .nils=>match nl with | some sz=> .own sz [] | none=> .nils
 | v=>v
def CV.coerA (nl:Option Nat) :CV→CV
 | .d (.nils z)=> .own z []
 | v=>v.coer nl
def CV.asD:CV→Option D
 | .d x=>some x
 | .own sz l=>some (.slice sz l)
 | .fn f []=>some (.fn (some f))
 | _=>none
def CV.norm1:CV→CV
 | .d x=> .d x.norm
 | v=>v
def CV.norm:CV→CV
 | .tup l=> .tup (l.map CV.norm1)
 | .agg l=> .agg (l.map CV.norm1)
 | v=>v.norm1
def CV.asArg (nl:Option Nat) :CV→CV
 | .nils=>match nl with | some sz=> .d (.slice sz []) | none=> .nils
 | v=>v.copy.norm
def CV.in1 (ids:List Nat) :CV→Bool
 | .ptr b _=>ids.contains b
 | .sp b _=>ids.contains b
 | .rs _ b _ _=>ids.contains b
 | .ea _ b _ _=>ids.contains b
 | .fn _ caps=>caps.all ids.contains
 | _=>true
def CV.inB (ids:List Nat) :CV→Bool
 | .tup l=>l.all (CV.in1 ids)
 | .agg l=>l.all (CV.in1 ids)
 | c=>c.in1 ids
def allD:List CV→Option (List D)
 | []=>some []
 | c :: r=>match c.asD,allD r with
  | some x,some xs=>some (x.norm :: xs)
  | _,_=>none
def allF:List CV→Option (List D)
 | []=>some []
 | c :: r=>match c.asD,allF r with
  | some x,some xs=>if x.flat then some (x :: xs) else none
  | _,_=>none
def mkAgg (cs:List CV) :CV:=match allF cs with | some ds=> .d (.agg ds) | none=> .agg (cs.map CV.copy1)
def CV.one:CV→Bool
 | .d x=>x.flat
 | .junk | .tup _ | .agg _ | .line _ _ | .bld _ _ _ | .arr _ _=>false
 | _=>true
def CV.cells:CV→List CV
 | .d (.agg ds)=>ds.map .d
 | .agg cs=>cs
 | v=>[v]
def CV.sl:CV→Option (List D)
 | .d (.slice _ l)=>some l
 | .d (.nils _)=>some []
 | .own _ l=>some l
 | .nils=>some []
 | _=>none
def byteD (b:UInt8) :D:= .int .u8 b.toNat
def CV.slz:CV→Option (Nat×List D)
 | .d (.slice z l)=>some (z,l)
 | .d (.nils z)=>some (z,[])
 | .own z l=>some (z,l)
 | _=>none
def CV.more:CV→Option (List D)
 | .d (.str s)=>some (s.map byteD)
 | v=>v.sl
def splice (off:Nat) (new:List CV) (cs:List CV) :List CV:=cs.take off++new++cs.drop (off+new.length)
def binD (op:BinOp) :D→D→Option D
 | .int k a, .int k' b=>
  match op with
  | .shl=>if b<0 then none else some (.int k (k.wrap (a*2 ^ (min b.toNat k.bits))))
  | .shr=>if b<0 then none else some (.int k (a.fdiv (2 ^ (min b.toNat k.bits))))
  | op=>if k=k' then
    match op with
    | .add=>some (.int k (k.wrap (a+b)))
    | .sub=>some (.int k (k.wrap (a-b)))
    | .mul=>some (.int k (k.wrap (a*b)))
    | .quo=>if b=0 then none else some (.int k (k.wrap (a.tdiv b)))
    | .rem=>if b=0 then none else some (.int k (a.tmod b))
    | .and=>some (.int k (k.wrap ((BitVec.ofInt k.bits a) &&& (BitVec.ofInt k.bits b)).toNat))
    | .or=>some (.int k (k.wrap ((BitVec.ofInt k.bits a) ||| (BitVec.ofInt k.bits b)).toNat))
    | .xor=>some (.int k (k.wrap ((BitVec.ofInt k.bits a) ^^^ (BitVec.ofInt k.bits b)).toNat))
    | .andNot=>some (.int k (k.wrap ((BitVec.ofInt k.bits a) &&& ~~~(BitVec.ofInt k.bits b)).toNat))
    | .eql=>some (.bool (a==b))
    | .neq=>some (.bool (a !=b))
    | .lss=>some (.bool (decide (a<b)))
    | .leq=>some (.bool (decide (a≤b)))
    | .gtr=>some (.bool (decide (a>b)))
    | .geq=>some (.bool (decide (a≥b)))
    | _=>none
   else none
 | .str a, .str b=>
  match op with
  | .add=>some (.str (a++b))
  | .eql=>some (.bool (a==b))
  | .neq=>some (.bool (!(a==b)))
  | .lss=>some (.bool (Op.bytesLess a b))
  | .leq=>some (.bool (Op.bytesLess a b||a==b))
  | .gtr=>some (.bool (!(Op.bytesLess a b||a==b)))
  | .geq=>some (.bool (!Op.bytesLess a b))
  | _=>none
 | .bool a, .bool b=>
  match op with
  | .eql=>some (.bool (a==b))
  | .neq=>some (.bool (!(a==b)))
  | _=>none
 | _,_=>none
def D.isBool:D→Bool
 | .bool _=>true
 | _=>false
def binReq (op:BinOp) :D→D→Prop
 | .str a, .str b=>match op with | .add=>((a.length+b.length:Nat) :Int)≤IntKind.i64.max | _=>True
 | _,_=>True
def D.kd:D→Nat
 | .int _ _=>0
 | .str _=>1
 | .bool _=>2
 | _=>3
def eqCell:D→D→Option Bool
 | .int k a, .int k' b=>if k=k' then some (a==b) else none
 | .str a, .str b=>some (a==b)
 | .bool a, .bool b=>some (a==b)
 | _,_=>none
def eqCells:List D→List D→Option Bool
 | [],[]=>some true
 | a :: r,b :: t=>match eqCell a b,eqCells r t with
  | some x,some y=>some (x&&y)
  | _,_=>none
 | _,_=>none
def slD (sz:Nat) (l:List D) (lo hi:Nat) :D:= .slice sz ((l.take hi).drop lo)
def intOf:CV→Option Int
 | .d (.int _ n)=>some n
 | _=>none
def boolOf:CV→Option Bool
 | .d (.bool b)=>some b
 | _=>none
def CV.asE (nl:Option Nat) :CV→Option D
 | .nils=>nl.map fun sz=> .slice sz []
 | v=>v.asD.map D.norm1
def allE (nl:Option Nat) :List CV→Option (List D)
 | []=>some []
 | c :: r=>match c.asE nl,allE nl r with
  | some x,some xs=>if x.flat then some (x :: xs) else none
  | _,_=>none
def spliceD (off:Nat) (ds:List D) :D→D
 | .agg cs=> .agg (cs.take off++ds++cs.drop (off+ds.length))
 | x=>ds.getD 0 x
def setEl (l:List D) (i off:Nat) (ds:List D) :List D:=l.set i (spliceD off ds (l.getD i .nilp))
inductive AI where
 | rowN (sz:Nat)
 | row0 (sz:Nat) (x:AX)
 | rowB (x:AX)
 | rowS (d sz:Nat) (a:AX)
 | loadF (n:Nat) (a:AX)
 | appR (sz bytes:Nat) (s x:AX)
 | mov (x:AX) (xf:Bool) (nl:Option Nat)
 | pick (c a b:AX)
 | alloc (zs:List CV)
 | box (n:Nat) (ag:Bool) (x:AX)
 | build (zs:List CV) (parts:List (Nat×Nat×AX))
 | buildSl (sz:Nat) (parts:List AX)
 | load (ag:Bool) (n:Nat) (a:AX) (xf:Bool)
 | store (ag:Bool) (n:Nat) (a x:AX) (nl:Option Nat)
 | nilCk (x:AX)
 | bin (bo:Bool) (op:BinOp) (x y:AX)
 | eqAgg (neg:Bool) (ks:List Nat) (x y:AX)
 | slNil (neg:Bool) (x:AX)
 | ptrNil (neg:Bool) (x:AX)
 | not (x:AX)
 | neg (x:AX)
 | convInt (k:IntKind) (x:AX)
 | convId (x:AX)
 | toBytes (x:AX)
 | toStr (x:AX)
 | stringish (x:AX)
 | slice (sz:Nat) (x:AX) (lo hi:Option AX)
 | slice0 (sz:Nat) (x:AX)
 | sliceS (x:AX) (lo hi:Option AX)
 | fieldA (off:Nat) (x:AX)
 | idxA (sz:Nat) (x i:AX)
 | idxS (x i:AX)
 | extract (x:AX) (i:Nat) (cp:Bool)
 | call (f:Nat) (args:List (AX×Option Nat)) (oi:Option Nat)
 | callv (x:AX) (args:List (AX×Option Nat))
 | len (x:AX)
 | lenS (x:AX)
 | append (sz bytes:Nat) (s x:AX)
 | mm (isMax:Bool) (x y:AX)
 | mm3 (x y z:AX)
 | mkfn (f:Nat) (caps:List AX)
 | clr (z0:D) (x:AX)
 | frzM (x:AX)
 | movT (x:AX)
 | rowNK (b sz:Nat)
 | appO (sz bytes:Nat) (s x:AX)
 | bad
structure AOp where
 dst:Option Nat
 i:AI
 g:Option (Nat×Bool)
inductive AC where
 | skip
 | ops (l:List AOp)
 | draw (l:List AOp) (cls:List Nat) (M:List Nat)
 | seq (a b:AC)
 | cond (c:AX) (a b:AC)
 | block (id:Nat) (a:AC)
 | loop (a:AC)
 | exit (id:Nat)
 | ret
abbrev CallRel:=Nat→List CV→List (Nat×List CV)→CV→List (Nat×List CV)→Prop
def getBs:List Nat→(List (Nat×List CV)→PM)→PM
 | [],k=>k []
 | b :: r,k=> .get (.b b) fun v=>match v with
  | .agg cs=>getBs r fun l=>k ((b,cs) :: l)
  | _=> .fail
def setBs:List (Nat×List CV)→PM→PM
 | [],k=>k
 | (b,cs) :: r,k=> .set (.b b) (.agg cs) (setBs r k)
def newBs:List Nat→PM→PM
 | [],k=>k
 | b :: r,k=> .get (.b b) fun v=>match v with
  | .junk=>newBs r k
  | _=> .fail
def setD (dst:Option Nat) (v:CV) :PM:=match dst with | some d=> .set (.s d) v .done | none=> .done
structure Wit where
 ids:List Nat
 objs:List (Nat×List CV)
 res:CV
 objs':List (Nat×List CV)
 fresh:List Nat
def lowB (f b:Nat) :Bool:= !(mvF f&&hiB b)
def killL (f:Nat) (ids:List Nat) :List Nat:=ids.filter fun b=> !lowB f b
def killBs:List Nat→PM→PM
 | [],k=>k
 | b :: r,k=> .kill b (killBs r k)
def isFr (dst:Option Nat) (b:Nat) :Bool:=some b==dst||some b==dst.map (· +5000) ||some b==dst.map (· +10000)
def callPM (C:CallRel) (okr okw:Nat→Bool) (dst:Option Nat) (f:Nat) (args:List CV) :PM:=
 .ex Wit fun t=> .req (((t.ids.all okr) &&(t.fresh.all (isFr dst)) &&(args.all (CV.inB t.ids)) &&((killL f t.ids++t.fresh).all fun b=> !hiB b||(okw 4999&&okr b&&okw b)) &&((killL f t.ids).isEmpty||t.ids.all okw)) =true) <| getBs t.ids fun objs=>newBs t.fresh <|
  .req (C f args objs t.res t.objs'∧t.objs'.map (·.1) =t.ids++t.fresh∧(t.ids++t.fresh).Nodup∧(objs.all fun x=>x.2.all (CV.in1 t.ids)) =true∧∀x∈objs,okw x.1=false→t.objs'.lookup x.1=some x.2) <|
  killBs (killL f t.ids) (setBs (t.objs'.filter fun x=>okw x.1||t.fresh.contains x.1) (setD dst t.res))
def optEv:Option AX→(Option CV→PM)→PM
 | none,k=>k none
 | some x,k=>x.ev fun v=>k (some v)
def bound (dflt:Nat) :Option CV→Option Int
 | none=>some dflt
 | some v=>intOf v
def evParts:List (Nat×Nat×AX)→List CV→(List CV→PM)→PM
 | [],cs,k=>k cs
 | (off,n,x) :: r,cs,k=>x.ev fun v=>
  .req (v.cells.length=n∧off+n≤cs.length∧v.cells.all CV.one=true) (evParts r (splice off (v.cells.map CV.copy1) cs) k)
def strip (x:AX) (v:CV) (k:PM) :PM:=match x with
 | .t n=> .set (.s n) v.copy k
 | .c _=>k
def stripT (x:AX) (v:CV) (k:PM) :PM:=match x with
 | .t n=> .set (.s n) v k
 | .c _=>k
def isOwn:CV→Bool
 | .own _ _=>true
 | _=>false
def CV.asOwn (a:AX) (nl:Option Nat) (v:CV) :CV:=match a with
 | .t _=>if isOwn v=true then v else v.asArg nl
 | .c _=>v.coer nl
def argL (oi:Option Nat) :Nat→List CV→List (AX×Option Nat)→List CV
 | i,v :: vs,a :: as=>(if (oi==some i) =true then v.asOwn a.1 a.2 else v.asArg a.2) :: argL oi (i+1) vs as
 | _,_,_=>[]
def stripA (oi:Option Nat) (args:List (AX×Option Nat)) (vs:List CV) (k:PM) :PM:=match oi with
 | some i=>if isOwn (vs.getD i .junk) =true then strip ((args.getD i (.c .junk,none)).1) (vs.getD i .junk) k else k
 | none=>k
def CV.okz (sz:Nat) :CV→Bool
 | .d (.str _)=>sz==1
 | .d (.slice z _)=>z==sz
 | .d (.nils z)=>z==sz
 | .own z _=>z==sz
 | .nils=>true
 | _=>false
def newR (d:Nat) (c v:CV) :PM:= .get (.b d) fun u=>match u with
 | .junk=> .set (.b d) (.agg [c]) (.set (.s d) v .done)
 | _=> .kill d (.set (.b d) (.agg [c]) (.set (.s d) v .done))
def newB (d:Nat) (c:CV) (k:PM) :PM:= .get (.b d) fun u=>match u with
 | .junk=> .set (.b d) (.agg [c]) k
 | _=> .kill d (.set (.b d) (.agg [c]) k)
def rsIn:Nat→List CV→Option (Nat×Nat×Nat×Nat)
 | _,[]=>none
 | i,c :: r=>match c with
  | .rs z k 0 m=>some (i,z,k,m)
  | _=>rsIn (i+1) r
def frz (i z k:Nat) (l:List D) (cs:List CV) :List CV:=(cs.map (CV.kill1 k)).set i (.d (.slice z l))
def frzK (b:Nat) (m:PM) :PM:= .get (.b b) fun u=>match u with
 | .agg cs=>match rsIn 0 cs with
  | some (i,z,k,n)=> .get (.b k) fun r=>match rowD r with
   | some (z',l)=> .req (rowOf cs=none∧z'=z∧n=l.length∧k≠b) (.kill k (.set (.b k) (.agg [.arr z []]) (.set (.b b) (.agg (frz i z k l cs)) m)))
   | none=> .fail
  | none=>m
 | _=> .fail
def AI.pm (C:CallRel) (okr okw:Nat→Bool) (dst:Option Nat) :AI→PM
 | .mov x xf nl=>x.ev fun v=>
  if xf&&isOwn v then strip x v (setD dst v) else setD dst (match x with | .c _=>v.coer nl | .t _=>v.copy)
 | .pick c a b=>c.ev fun vc=>a.ev fun va=>b.ev fun vb=>match boolOf vc with
  | some t=>setD dst (if t then va.copy else vb.copy)
  | none=> .fail
 | .alloc zs=>match dst with
  | some d=> .get (.b d) fun v=>match v with
   | .junk=> .set (.b d) (.agg zs) (.set (.s d) (.ptr d 0) .done)
   | _=> .fail
  | none=> .fail
 | .box n ag x=>match dst with
  | some d=>x.ev fun v=> .get (.b d) fun u=>match u with
   | .junk=> .req ((if ag then v.cells else [v]).length=n∧(if ag then v.cells else [v]).all CV.one=true) <| .set (.b d) (.agg ((if ag then v.cells else [v]).map CV.copyB)) (.set (.s d) (.ptr d 0) .done)
   | _=> .fail
  | none=> .fail
 | .build zs parts=>evParts parts zs fun cs=>setD dst (mkAgg cs)
 | .buildSl sz parts=>evL parts fun vs=>match allD vs with
  | some ds=> .req (∀x∈ds,x.cells.length=sz) (setD dst (.own sz ds))
  | none=> .fail
 | .load ag n a xf=>a.ev fun p=>match p with
  | .ptr b off=>if okr b then .get (.b b) fun u=>match u with
    | .agg cs=> .req (off+n≤cs.length∧rowOf cs=none) <|
     if ag then setD dst (mkAgg ((cs.drop off).take n))
     else if xf&&isOwn (cs.getD off .junk) then .req (okw b=true) (.set (.b b) (.agg (splice off [(cs.getD off .junk).copy1] cs)) (setD dst (cs.getD off .junk)))
     else setD dst (cs.getD off .junk).copy1
    | _=> .fail
   else .fail
  | .ep cs=> .req (n≤cs.length) (if ag then setD dst (.d (.agg (cs.take n))) else setD dst (.d (cs.getD 0 .nilp)))
  | .ea z k i off=>if okr k then .get (.b k) fun u=>match rowD u with
    | some (z',l)=> .req (z'=z∧i<l.length∧off+n≤z) (if ag then setD dst (.d (.agg (((l.getD i .nilp).cells.drop off).take n))) else setD dst (.d ((l.getD i .nilp).cells.getD off .nilp)))
    | none=> .fail
   else .fail
  | _=> .fail
 | .store ag n a x nl=>a.ev fun p=>x.ev fun v=>match p with
  | .ptr b off=>if okr b&&okw b then .get (.b b) fun u=>match u with
    | .agg cs=> .req ((if ag then v.cells else [v]).length=n∧off+n≤cs.length∧(if ag then v.cells else [v]).all CV.one=true∧rowOf cs=none) <|
     if ag then .set (.b b) (.agg (splice off (v.cells.map CV.copyB) cs)) .done
     else match x with
      | .t _=>if isOwn v then strip x v (.set (.b b) (.agg (splice off [v] cs)) .done) else .set (.b b) (.agg (splice off [v.copy1] cs)) .done
      | .c _=> .set (.b b) (.agg (splice off [v.coer nl] cs)) .done
    | _=> .fail
   else .fail
  | .ea z k i off=>if okr k&&okw k then .get (.b k) fun u=>match rowD u with
    | some (z',l)=>match allE nl (if ag then v.cells else [v]) with
     | some ds=> .req (ds.length=n∧z'=z∧i<l.length∧off+n≤z) (.set (.b k) (.agg [.arr z (setEl l i off ds)]) .done)
     | none=> .fail
    | none=> .fail
   else .fail
  | _=> .fail
 | .nilCk x=>x.ev fun v=>match v with
  | .ptr b o=>setD dst (.ptr b o)
  | .ep cs=>setD dst (.ep cs)
  | .fn f c=>setD dst (.fn f c)
  | .d (.fn (some f))=>setD dst (.d (.fn (some f)))
  | .ea z k i o=>setD dst (.ea z k i o)
  | _=> .fail
 | .bin bo op x y=>x.ev fun a=>y.ev fun b=>match a,b with
  | .d a, .d b=>match binD op a b with
   | some r=> .req (a.isBool=bo∧binReq op a b) (setD dst (.d r))
   | none=> .fail
  | _,_=> .fail
 | .eqAgg ng ks x y=>x.ev fun a=>y.ev fun b=>match a,b with
  | .d (.agg p), .d (.agg q)=>match eqCells p q with
   | some r=> .req (p.map D.kd=ks∧q.map D.kd=ks) (setD dst (.d (.bool (r !=ng))))
   | none=> .fail
  | _,_=> .fail
 | .slNil ng x=>x.ev fun v=>match v with
  | .d (.slice _ l)=> .all fun b=>setD dst (.d (.bool ((b&&l.isEmpty) !=ng)))
  | .own _ l=> .all fun b=>setD dst (.d (.bool ((b&&l.isEmpty) !=ng)))
  | .nils=>setD dst (.d (.bool (!ng)))
  | .d (.nils _)=>setD dst (.d (.bool (!ng)))
  | .rs _ _ _ n=> .all fun b=>setD dst (.d (.bool ((b&&n==0) !=ng)))
  | _=> .fail
 | .ptrNil ng x=>x.ev fun v=>match v with
  | .ptr _ _=>setD dst (.d (.bool ng))
  | .ep _=>setD dst (.d (.bool ng))
  | .ea _ _ _ _=>setD dst (.d (.bool ng))
  | .d .nilp=>setD dst (.d (.bool (!ng)))
  | _=> .fail
 | .not x=>x.ev fun v=>match boolOf v with
  | some b=>setD dst (.d (.bool (!b)))
  | none=> .fail
 | .neg x=>x.ev fun v=>match v with
  | .d (.int k n)=>setD dst (.d (.int k (k.wrap (0-n))))
  | _=> .fail
 | .convInt k x=>x.ev fun v=>match intOf v with
  | some n=>setD dst (.d (.int k (k.wrap n)))
  | none=> .fail
 | .convId x=>x.ev fun v=>match v with
  | .d (.str s)=>setD dst (.d (.str s))
  | _=> .fail
 | .toBytes x=>x.ev fun v=>match v with
  | .d (.str s)=> .req (s.length≤140737488355328) (setD dst (.own 1 (s.map byteD)))
  | _=> .fail
 | .toStr x=>x.ev fun v=>match v with
  | .rs z k o n=>if okr k then .get (.b k) fun u=>match rowD u with
    | some (z',l)=> .ex Bytes fun s=> .req (z'=z∧o+n≤l.length∧(l.drop o).take n=s.map byteD) (setD dst (.d (.str s)))
    | none=> .fail
   else .fail
  | v=>match v.sl with
   | some l=> .ex Bytes fun s=> .req (l=s.map byteD) (setD dst (.d (.str s)))
   | none=> .fail
 | .stringish x=>x.ev fun v=>match v with
  | .own sz l=> .req (l≠[]) (strip x v (setD dst (.own sz l)))
  | _=> .fail
 | .slice sz x lo hi=>x.ev fun v=>optEv lo fun l=>optEv hi fun h=>match v with
  | .rs z k o n=>match bound 0 l,bound n h with
   | some a,some b=> .req (z=sz∧0≤a∧a≤b∧b≤n) (setD dst (.rs z k (addO o a.toNat) (b.toNat-a.toNat)))
   | _,_=> .fail
  | v=>match v.slz with
   | some (z,xs)=>match bound 0 l,bound xs.length h with
    | some a,some b=> .req (z=sz∧0≤a∧a≤b∧b≤xs.length) (setD dst (.d (slD sz xs a.toNat b.toNat)))
    | _,_=> .fail
   | none=> .fail
 | .slice0 sz x=>x.ev fun v=>match v.slz with
  | some _=>setD dst (.own sz [])
  | none=> .fail
 | .sliceS x lo hi=>x.ev fun v=>optEv lo fun l=>optEv hi fun h=>match v with
  | .d (.str s)=>match bound 0 l,bound s.length h with
   | some a,some b=> .req (0≤a∧a≤b∧b≤s.length) (setD dst (.d (.str ((s.take b.toNat).drop a.toNat))))
   | _,_=> .fail
  | _=> .fail
 | .fieldA off x=>x.ev fun v=>match v with
  | .ptr b o=>setD dst (.ptr b (o+off))
  | .ep cs=>setD dst (.ep (cs.drop off))
  | .ea z k i o=>setD dst (.ea z k i (o+off))
  | _=> .fail
 | .idxA sz x i=>x.ev fun v=>i.ev fun j=>match v with
  | .rs z k o m=>match intOf j with
   | some n=> .req (z=sz∧0≤n∧n<m) (setD dst (.ea z k (addO o n.toNat) 0))
   | none=> .fail
  | v=>match v.slz,intOf j with
   | some (z,l),some n=> .req (z=sz∧0≤n∧n<l.length) (setD dst (.ep ((l.getD n.toNat .nilp).cells)))
   | _,_=> .fail
 | .idxS x i=>x.ev fun v=>i.ev fun j=>match v,intOf j with
  | .d (.str s),some n=> .req (0≤n∧n<s.length) (setD dst (.d (byteD (s.getD n.toNat 0))))
  | _,_=> .fail
 | .extract x i cp=>x.ev fun v=>match v with
  | .tup l=> .req (i<l.length) <| if (isOwn (l.getD i .junk) && !cp) =true then stripT x (.tup (l.set i (l.getD i .junk).copy1)) (setD dst (l.getD i .junk)) else setD dst (l.getD i .junk).copy1
  | _=> .fail
 | .call f args oi=>evL (args.map (·.1)) fun vs=>stripA oi args vs (callPM C okr okw dst f (argL oi 0 vs args))
 | .callv x args=>x.ev fun v=>evL (args.map (·.1)) fun vs=>match v with
  | .fn f caps=>callPM C okr okw dst f (vs.zipWith (fun v a=>v.asArg a.2) args++caps.map (.ptr · 0))
  | .d (.fn (some f))=>callPM C okr okw dst f (vs.zipWith (fun v a=>v.asArg a.2) args)
  | _=> .fail
 | .len x=>x.ev fun v=>match v with
  | .rs _ _ _ n=>setD dst (.d (.int .i64 n))
  | v=>match v.sl with
   | some l=>setD dst (.d (.int .i64 l.length))
   | none=> .fail
 | .lenS x=>x.ev fun v=>match v with
  | .d (.str s)=>setD dst (.d (.int .i64 s.length))
  | _=> .fail
 | .append sz bytes s x=>s.ev fun v=>x.ev fun u=>match v.coerA (some sz),u.more with
  | .own z l,some m=> .req (z=sz∧(l.length+m.length) *bytes≤140737488355328∧u.okz sz=true) (strip s v (setD dst (.own sz (l++m))))
  | _,_=> .fail
 | .mm isMax x y=>x.ev fun a=>y.ev fun b=>match a,b with
  | .d (.int k m), .d (.int _ n)=>setD dst (.d (.int k (if isMax then (if n>m then n else m) else (if n<m then n else m))))
  | _,_=> .fail
 | .mm3 x y z=>x.ev fun a=>y.ev fun b=>z.ev fun c=>match a,b,c with
  | .d (.int k m), .d (.int _ n), .d (.int _ l)=>setD dst (.d (.int k (if l>(if n>m then n else m) then l else (if n>m then n else m))))
  | _,_,_=> .fail
 | .mkfn f caps=>evL caps fun vs=> .ex (List Nat) fun bs=> .req (vs=bs.map (.ptr · 0)) (setD dst (.fn f bs))
 | .rowN sz=>match dst with
  | some d=>newR d (.arr sz []) (.rs sz d 0 0)
  | none=> .fail
 | .row0 sz x=>x.ev fun v=>match v with
  | .rs _ _ _ _=>match dst with
   | some d=>newR d (.arr sz []) (.rs sz d 0 0)
   | none=> .fail
  | v=>match v.slz with
   | some _=>match dst with
    | some d=>newR d (.arr sz []) (.rs sz d 0 0)
    | none=> .fail
   | none=> .fail
 | .rowB x=>match dst with
  | some d=>x.ev fun v=>match v with
   | .d (.str s)=> .req (s.length≤140737488355328) (newR d (.arr 1 (s.map byteD)) (.rs 1 d 0 s.length))
   | _=> .fail
  | none=> .fail
 | .appR sz bytes s x=>s.ev fun v=>x.ev fun u=>match v,u.more with
  | .rs z k o n,some m=> .get (.b k) fun b=>match rowD b with
   | some (z',l)=> .req (z=sz∧z'=sz∧o=0∧n=l.length∧(n+m.length) *bytes≤140737488355328∧u.okz sz=true) (.kill k (.set (.b k) (.agg [.arr sz (l++m)]) (setD dst (.rs sz k 0 (n+m.length)))))
   | none=> .fail
  | _,_=> .fail
 | .rowS d sz a=>a.ev fun p=>match p with
  | .ptr b off=>if okr b&&okw b then newB d (.arr sz []) (.get (.b b) fun u=>match u with
    | .agg cs=> .req (off<cs.length∧rowOf cs=none∧d≠b) (.set (.b b) (.agg (splice off [.rs sz d 0 0] cs)) .done)
    | _=> .fail)
   else .fail
  | _=> .fail
 | .loadF n a=>a.ev fun p=>match p with
  | .ptr b off=>if okr b&&okw b then frzK b (frzK b (.get (.b b) fun u=>match u with
    | .agg cs=> .req (off+n≤cs.length∧rowOf cs=none) (setD dst (mkAgg ((cs.drop off).take n)))
    | _=> .fail))
   else .fail
  | _=> .fail
 | .clr z0 x=>x.ev fun v=>match v with
  | .rs z k o n=>if okr k&&okw k then .get (.b k) fun u=>match rowD u with
    | some (z',l)=> .req (z=1∧z'=1∧o+n≤l.length) (.set (.b k) (.agg [.arr 1 (l.take o++List.replicate n z0++l.drop (o+n))]) (setD dst (.tup [])))
    | none=> .fail
   else .fail
  | _=> .fail
 | .rowNK b sz=>newB b (.arr sz []) (setD dst (.rs sz b 0 0))
 | .appO sz bytes s x=>s.ev fun v=>x.ev fun u=>match v,u.more with
  | .rs z k o n,some m=> .get (.b k) fun b=>match rowD b with
   | some (z',l)=> .req (z=sz∧z'=sz∧o+n=l.length∧(n+m.length) *bytes≤140737488355328∧u.okz sz=true) (.all fun g=> .kill k (.set (.b k) (.agg [.arr sz (cond g l (l.drop o) ++m)]) (setD dst (.rs sz k (cond g o 0) (n+m.length)))))
   | none=> .fail
  | _,_=> .fail
 | .movT x=>x.ev fun v=>match v with
  | .tup l=>stripT x (.tup (l.map CV.copy1)) (setD dst (.tup (l.map CV.mv1)))
  | _=> .fail
 | .frzM x=>x.ev fun v=>match v with
  | .rs z k 0 n=> .get (.b k) fun u=>match rowD u with
   | some (z',l)=> .req (z'=z∧n≤l.length) (.kill k (.set (.b k) (.agg [.arr z []]) (setD dst (.d (.slice z (l.take n))))))
   | none=> .fail
  | _=> .fail
 | .bad=> .fail
abbrev undefC:CV:= .tup []
def guardOf:CV→Option (Option Bool)
 | .d (.bool b)=>some (some b)
 | .tup []=>some none
 | _=>none
def AOp.pm (C:CallRel) (okr okw:Nat→Bool) (o:AOp) :PM:=match o.g with
 | none=>o.i.pm C okr okw o.dst
 | some (g,want)=> .get (.s g) fun v=>match guardOf v with
  | some r=>if r==some want then o.i.pm C okr okw o.dst else setD o.dst undefC
  | none=> .fail
end B
end Go.Proofs.YtmkkljbfmdngfaaGreatDoor
