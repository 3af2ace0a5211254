/- What the cards of rows share: the laid tables, boxes that come in. No condition. -/
import Derived.Test.YtmkkljbfmdngfaaGreatDoorCards
import Derived.Test.YtmkkljbfmdngfaaGreatDoorTie
import Derived.Test.YtmkkljbfmdngfaaGreatDoorQC
import Derived.Test.YtmkkljbfmdngfaaGreatDoorB30
import Derived.ProofKit
import Derived.OpenShut
import Derived.Deep.DeepHandedRow
import Derived.JoinedCond
import Derived.LaidLaws
import Derived.Lib.LaidTab
set_option linter.all false
namespace Go.Proofs.YtmkkljbfmdngfaaGreatDoor
open Go.ChangeShapes Go.WideShapes Go.ChangeAt Go.RowKit
theorem own:ownKnob Tryz.prog.godebug=none:=by kernel_rfl
theorem laidOut:laidOutB Tryz.prog=true:=by kernel_rfl
theorem rowed:mapsRowed Tryz.prog=true:=by kernel_rfl
theorem full:((List.range Tryz.prog.types.size).all fun t=>match Tryz.prog.underlying t with | some (.slice e)=>decide (0<Tryz.prog.cellsOf e) | _=>true) =true:=by kernel_rfl
abbrev lays:List (String×DataW Unit):=[("math/bits.deBruijn32tab",Rows.laid_math_bits_deBruijn32tab),("math/bits.deBruijn64tab",Rows.laid_math_bits_deBruijn64tab),("internal/strconv.uint64pow10",Rows.laid_internal_strconv_uint64pow10)]
theorem laidMet_tail {P:Program} {x:String×DataW Unit} {r:List (String×DataW Unit)} {W:World} (h:laidMet P (x :: r) W) :laidMet P r W:=by
 obtain ⟨ps,⟨g',t',cs,fuel,p,q,hg',ht',hvar,hd,hq,rfl⟩,hn,hm⟩:=h
 exact ⟨q,hq,(List.nodup_append.1 hn).2.1,fun b off hb=>hm b off (List.mem_append_right _ hb)⟩
theorem gTab:Tryz.prog.globalNamed "internal/strconv.uint64pow10"=some 0:=by kernel_rfl
theorem gTabType:(Tryz.prog.globals[0]?).map (·.type) =some 211:=by kernel_rfl
theorem under168:Tryz.prog.underlying 211=some (.array 20 30):=by kernel_rfl
theorem under45:Tryz.prog.underlying 30=some (.int .u64):=by kernel_rfl
theorem cells45:Tryz.prog.cellsOf 30=1:=by kernel_rfl
theorem cells168:Tryz.prog.cellsOf 211=20:=by kernel_rfl
theorem begin1:((begin Tryz.prog (fun _ _=>0) default).world.heap[1]?).bind Obj.row? =some (#[.int .i64 0],3):=by kernel_rfl
theorem gz (W:World) (hL:laidMetH Tryz.prog lays W) (hS:W.ShapedOpen Tryz.prog) :B.GzOk (fun _=> .plain) W:=by
 have h1:laidMet Tryz.prog lays W:=hL
 obtain ⟨m,hm⟩ : ∃m,W.cell? ⟨1,0,none⟩ =some (.int .i64 m):=Go.Proofs.cell_of_shapedOpen_int (zero:= #[.int .i64 0]) (t:=3) hS (of_decide_eq_true (by kernel_rfl)) (by kernel_rfl) rfl (by kernel_rfl) (by kernel_rfl) Tryz.underlying3
 obtain ⟨cs,hh,hsz,_⟩:=hS.1 1 #[.int .i64 0] 3 (of_decide_eq_true (by kernel_rfl)) begin1
 have hcs:cs= #[.int .i64 m]:=by
  have hsz:cs.size=1:=hsz
  simp only [World.cell?,hh] at hm
  refine Array.ext (by simp [hsz]) fun i h1 h2=> ?_
  simp at h2;subst h2
  have:=Array.getElem?_eq_getElem h1
  simp at hm
  rw [hm] at this;simpa using this.symm
 refine ⟨m,fun g row hg=> ?_⟩
 unfold B.GzRow at hg
 split at hg
 ·rename_i e;subst e
  injection hg with hg;subst hg
  exact ⟨rfl,_,_,by rw [hh,hcs]⟩
 ·split at hg
  ·rename_i e;subst e
   injection hg with hg;subst hg
   refine ⟨rfl, ?_⟩
   have h2:=laidMet_tail (laidMet_tail h1)
   have h3:=Lib.tabIs_of_head (k:= .u64) (zs:=Lib.pow10Tab) gTab gTabType under168 under45 cells45 cells168 h2
   unfold Lib.TabIs World.var? at h3
   rw [gTab] at h3
   simp only [Option.bind_some] at h3
   split at h3
   ·rename_i cs' t' fz' e
    injection h3 with h3
    exact ⟨_,_,by rw [e,h3]⟩
   ·cases h3
  ·cases hg
def cellsD {H:Type}:Nat→DataW H→List Value
 | _, .lit (.int k n)=>[.int k n]
 | n+1, .agg l=>l.flatMap (cellsD n)
 | _,_=>[]
noncomputable def layAt (g:Nat) (l:List Value) (w:World) :World:=
 {w with heap:=w.heap.modify g fun
   | .cells _ t frozen=> .cells l.toArray t frozen
   | o=>o}
noncomputable def laidWorld (os:Os) :World:=
 layAt 2 (cellsD 3 (Rows.laid_math_bits_deBruijn32tab (H:=Unit))) <| layAt 3 (cellsD 3 (Rows.laid_math_bits_deBruijn64tab (H:=Unit))) <| layAt 0 (cellsD 3 (Rows.laid_internal_strconv_uint64pow10 (H:=Unit))) <| World.holding Tryz.prog os ⟨#[], #[],[]⟩
namespace B
mutual
theorem bulkW_eq {H:Type}: ∀d:DataW H,bulkW d=Rows.uptoBulk d
 | .lit l=>by cases l<;>simp [bulkW,Rows.uptoBulk]
 | .nil=>by simp [bulkW,Rows.uptoBulk]
 | .ptr d=>by simp only [bulkW,Rows.uptoBulk,bulkW_eq d]
 | .slice elems spare=>by simp only [bulkW,Rows.uptoBulk,bulkWL_eq elems,bulkWL_eq spare]
 | .agg parts=>by simp only [bulkW,Rows.uptoBulk,bulkWL_eq parts]
 | .iface _ d=>by simp only [bulkW,Rows.uptoBulk,bulkW_eq d]
 | .map entries=>by simp only [bulkW,Rows.uptoBulk,bulkWE_eq entries]
 | .held _=>by simp [bulkW,Rows.uptoBulk]
theorem bulkWL_eq {H:Type}: ∀l:List (DataW H),bulkWL l=Rows.uptoBulkAll l
 | []=>by simp [bulkWL,Rows.uptoBulkAll]
 | d :: r=>by simp only [bulkWL,Rows.uptoBulkAll,bulkW_eq d,bulkWL_eq r]
theorem bulkWE_eq {H:Type}: ∀l:List (Lit×DataW H),bulkWE l=Rows.uptoBulkEntries l
 | []=>by simp [bulkWE,Rows.uptoBulkEntries]
 | x :: r=>by simp only [bulkWE,Rows.uptoBulkEntries,bulkW1_eq x,bulkWE_eq r]
theorem bulkW1_eq {H:Type}: ∀x:Lit×DataW H,bulkW1 x=Rows.uptoBulkEntry x
 | (l,d)=>by cases l<;>simp only [bulkW1,Rows.uptoBulkEntry,bulkW_eq d]
end
theorem bulk_small {H:Type} {ds:List (DataW H)} (h:Rows.uptoSmall H ds=true) :bulkWL ds≤1048576:=by
 rw [bulkWL_eq];exact of_decide_eq_true h
theorem bulk_ints: ∀l:List Int,bulkL (ints l) =l.length
 | []=>rfl
 | x :: r=>by
  have:=bulk_ints r
  unfold ints at this⊢
  simp only [List.map_cons,bulkL,D.bulk,this,List.length_cons];omega
theorem bulk_strs: ∀l:List Bytes,bulkL (strs l) =szW l+l.length
 | []=>rfl
 | x :: r=>by
  have:=bulk_strs r
  unfold strs szW at this⊢
  simp only [List.map_cons,bulkL,D.bulk,this,List.length_cons,List.sum_cons];omega
theorem bulk_msg (m:Msg) :m.d.bulk=szM m+7:=by
 unfold Msg.d Msg.cs szM
 simp only [D.bulk,bulkL,bulk_ints];omega
theorem bulk_msgs: ∀l:List Msg,bulkL (l.map Msg.d) =szMs l+7*l.length
 | []=>rfl
 | x :: r=>by
  have:=bulk_msgs r
  unfold szMs at this⊢
  simp only [List.map_cons,bulkL,bulk_msg,this,List.length_cons,List.sum_cons];omega
theorem bulk_box (b:Box) :szBox b≤b.d.bulk:=by
 unfold Box.d Box.cs szBox
 simp only [D.bulk,bulkL,bulk_strs,bulk_msgs];omega
theorem le_szW: ∀{l:List Bytes} {w:Bytes},w∈l→w.length≤szW l
 | x :: r,w,h=>by
  unfold szW
  simp only [List.map_cons,List.sum_cons]
  rcases List.mem_cons.1 h with rfl | h
  ·omega
  ·have:=le_szW h;unfold szW at this;omega
theorem le_szMs: ∀{l:List Msg} {m:Msg},m∈l→szM m≤szMs l
 | x :: r,w,h=>by
  unfold szMs
  simp only [List.map_cons,List.sum_cons]
  rcases List.mem_cons.1 h with rfl | h
  ·omega
  ·have:=le_szMs h;unfold szMs at this;omega
theorem boxIn {b:Box} (h:b.d.bulk≤1048576) :BoxIn b:=by
 have h:=Nat.le_trans (bulk_box b) h
 have h2:=h
 unfold szBox at h2
 refine ⟨⟨by omega,by omega,by omega,fun w hw=> ?_,fun m hm=> ?_⟩,by omega⟩
 ·have:=le_szW hw;omega
 ·have:=le_szMs hm
  unfold szM at this
  exact ⟨by omega,by omega⟩
theorem tyI {n:Nat} {p:List D} (h:Ty P (n+1) 3 p) : ∃y,p= [iD y]:=by
 unfold Ty at h
 rw [show P.underlying 3=_ from Tryz.underlying3] at h
 obtain ⟨y,rfl,_⟩:=h
 exact ⟨y,rfl⟩
theorem tyS {n:Nat} {p:List D} (h:Ty P (n+1) 9 p) : ∃y,p= [.str y]:=by
 unfold Ty at h
 rw [show P.underlying 9=_ from Tryz.underlying9] at h
 obtain ⟨y,rfl,_⟩:=h
 exact ⟨y,rfl⟩
end B
end Go.Proofs.YtmkkljbfmdngfaaGreatDoor
namespace Go.Proofs.YtmkkljbfmdngfaaGreatDoor
namespace B
open Go.RowKit
set_option maxRecDepth 100000
theorem tySl {n:Nat} {t e:TypeId} {p:List D} (hu:P.underlying t=some (.slice e)) (h:Ty P (n+1) t p) : ∃l,p= [.slice (P.cellsOf e) l]∧∀y∈l,TyV P n e y:=by
 unfold Ty at h
 rw [hu] at h
 obtain ⟨l,rfl,_,h⟩:=h
 exact ⟨l,rfl,h⟩
theorem cells3':P.cellsOf 3=1:=by kernel_rfl
theorem cells9':P.cellsOf 9=1:=by kernel_rfl
theorem cells42':P.cellsOf 44=7:=by kernel_rfl
theorem tyIs {n:Nat} {p:List D} (h:Ty P (n+2) 42 p) : ∃l:List Int,p= [.slice 1 (ints l)]:=by
 obtain ⟨l,rfl,hl⟩:=tySl Tryz.underlying42 h
 obtain ⟨zs,rfl⟩:=ty_list (f:=iD) fun y hy=>by obtain ⟨k,hk,_⟩:=ty_int Tryz.underlying3 (hl y hy);exact ⟨k,hk⟩
 exact ⟨zs,by rw [cells3'];rfl⟩
theorem tySs {n:Nat} {p:List D} (h:Ty P (n+2) 22 p) : ∃l:List Bytes,p= [.slice 1 (strs l)]:=by
 obtain ⟨l,rfl,hl⟩:=tySl Tryz.underlying22 h
 obtain ⟨zs,rfl⟩:=ty_list (f:=D.str) fun y hy=>by obtain ⟨k,hk,_⟩:=ty_str Tryz.underlying9 (hl y hy);exact ⟨k,hk⟩
 exact ⟨zs,by rw [cells9'];rfl⟩
set_option maxRecDepth 100000 in
theorem msg_of {n:Nat} {x:D} (h:TyV P (n+3) 44 x) : ∃m:Msg,x=m.d:=by
 obtain ⟨parts,rfl,hl,hp⟩:=ty_struct Tryz.underlying44 h
 have hl:parts.length=7:=hl
 match parts,hl with
 | [a0,a1,a2,a3,a4,a5,a6],_=>
  obtain ⟨y0,rfl⟩:=tyI (n:=n+1) (hp 0 _ a0 rfl rfl)
  obtain ⟨y1,rfl⟩:=tyI (n:=n+1) (hp 1 _ a1 rfl rfl)
  obtain ⟨y2,rfl⟩:=tyI (n:=n+1) (hp 2 _ a2 rfl rfl)
  obtain ⟨y3,rfl⟩:=tyS (n:=n+1) (hp 3 _ a3 rfl rfl)
  obtain ⟨y4,rfl⟩:=tyI (n:=n+1) (hp 4 _ a4 rfl rfl)
  obtain ⟨y5,rfl⟩:=tyIs (n:=n) (hp 5 _ a5 rfl rfl)
  obtain ⟨y6,rfl⟩:=tyS (n:=n+1) (hp 6 _ a6 rfl rfl)
  exact ⟨⟨y0,y1,y2,y3,y4,y5,y6⟩,rfl⟩
theorem tyMs {n:Nat} {p:List D} (h:Ty P (n+4) 23 p) : ∃l:List Msg,p= [.slice 7 (l.map Msg.d)]:=by
 obtain ⟨l,rfl,hl⟩:=tySl Tryz.underlying23 h
 obtain ⟨zs,rfl⟩:=ty_list (f:=Msg.d) fun y hy=>msg_of (hl y hy)
 exact ⟨zs,by rw [cells42']⟩
set_option maxRecDepth 100000 in
theorem box_of {n:Nat} {x:D} (h:TyV P (n+5) 25 x) : ∃b:Box,x=b.d:=by
 obtain ⟨parts,rfl,hl,hp⟩:=ty_struct Tryz.underlying25 h
 have hl:parts.length=6:=hl
 match parts,hl with
 | [a0,a1,a2,a3,a4,a5],_=>
  obtain ⟨y0,rfl⟩:=tyS (n:=n+3) (hp 0 _ a0 rfl rfl)
  obtain ⟨y1,rfl⟩:=tyI (n:=n+3) (hp 1 _ a1 rfl rfl)
  obtain ⟨y2,rfl⟩:=tyI (n:=n+3) (hp 2 _ a2 rfl rfl)
  obtain ⟨y3,rfl⟩:=tyI (n:=n+3) (hp 3 _ a3 rfl rfl)
  obtain ⟨y4,rfl⟩:=tySs (n:=n+2) (hp 4 _ a4 rfl rfl)
  obtain ⟨y5,rfl⟩:=tyMs (n:=n) (hp 5 _ a5 rfl rfl)
  exact ⟨⟨y0,y1,y2,y3,y4,y5⟩,rfl⟩
structure StrIn (l:List Bytes) :Prop where
 n:l.length≤1048576
 sz: ∀w∈l,w.length≤1048576
end B
end Go.Proofs.YtmkkljbfmdngfaaGreatDoor
