/- Each instruction does what the abstract one says: data. No condition. -/
import Derived.Test.YtmkkljbfmdngfaaGreatDoorB4
set_option linter.all false
namespace Go.Proofs.YtmkkljbfmdngfaaGreatDoor
namespace B
open Go.RowKit
variable {P:Program} {C:CallRel} {okr okw:Nat→Bool} {o:Oper}
theorem eqGuard_run {op:BinOp} {t:TypeId} {x y:Operand} {u v:Value} (w:World) (h1: ∀cs,u≠ .agg cs) (h2:u≠ .nilIface) :(eqGuard op t x y u v).run P w= .ok () w:=by
 unfold eqGuard
 cases op<;>simp<;>(cases u<;>simp at h1 h2⊢)
theorem g_bin {x y:Operand} {ax ay:AX} {op:BinOp} {t t':TypeId} (bo:Bool) (ho:o.op= .binOp op t x y t') (hx:trX x=some ax) (hy:trX y=some ay)
  (ht:bo=true→P.underlying t=some .bool) :Good P o ((AI.bin bo op ax ay).pm C okr okw o.dst):=by
 intro Γ ρ bl st a w h hgz hd K hw Q
 simp only [AI.pm] at hw
 rw [ev_wp,ev_wp] at hw
 have e1:=rep_ax hx h
 have e2:=rep_ax hy h
 revert hw e1 e2
 generalize ax.val st=p;generalize ay.val st=q;generalize ax.place=pl;generalize ay.place=pl'
 intro hw e1 e2
 split at hw
 ·rename_i p q
  split at hw
  ·rename_i r hr
   obtain ⟨⟨hb,hreq⟩,hw⟩:=hw
   have e1:Rep Γ p (a.eval x):=e1
   have e2:Rep Γ q (a.eval y):=e2
   have hrun:(binOp op t (a.eval x) (a.eval y)).run P w= .ok (valD r) w∧Rep Γ r (valD r)∧(∀cs,a.eval x≠ .agg cs)∧a.eval x≠ .nilIface:=by
    generalize a.eval x=u at e1⊢;generalize a.eval y=v at e2⊢
    cases p<;>cases q<;>simp only [binD] at hr<;>(try cases hr)<;>cases e1<;>cases e2
    ·have hty:=ht (hb.symm)
     refine ⟨?_, ?_,by simp,by simp⟩<;>cases op<;>simp at hr<;>subst hr
     ·exact run_eql_bool w t _ _ hty
     ·exact run_neq_bool w t _ _ hty
     ·exact .bool _
     ·exact .bool _
    ·exact ⟨(run_intInt op t _ _ _ _ hr w).1,(run_intInt (P:=P) op t _ _ _ _ hr w).2 Γ,by simp,by simp⟩
    ·exact ⟨(run_strStr op t _ _ hr hreq w).1,(run_strStr (P:=P) op t _ _ hr hreq w).2 Γ,by simp,by simp⟩
   exact good_data h hd (v:=valD r) (by simp [execOp,ho,Sem.run_bind,eqGuard_run w hrun.2.2.1 hrun.2.2.2,hrun.1]) hrun.2.1 hw
  ·exact hw.elim
 ·exact hw.elim
theorem g_not {x:Operand} {ax:AX} {t:TypeId} (ho:o.op= .unOp .not t x) (hx:trX x=some ax) :Good P o ((AI.not ax).pm C okr okw o.dst):=by
 intro Γ ρ bl st a w h hgz hd K hw Q
 simp only [AI.pm] at hw
 rw [ev_wp] at hw
 split at hw
 ·rename_i b hb
  have e:=rep_ax hx h
  rw [boolOf_eq hb] at e
  have e:=rep_bool e
  exact good_data h hd (v:= .bool !b) (by simp [execOp,ho,e,Op.unary]) (.bool _) hw
 ·exact hw.elim
theorem g_neg {x:Operand} {ax:AX} {t:TypeId} (ho:o.op= .unOp .neg t x) (hx:trX x=some ax) :Good P o ((AI.neg ax).pm C okr okw o.dst):=by
 intro Γ ρ bl st a w h hgz hd K hw Q
 simp only [AI.pm] at hw
 rw [ev_wp] at hw
 split at hw
 ·rename_i k n hb
  have e:=rep_ax hx h
  rw [hb] at e
  have e:=rep_int e
  exact good_data h hd (v:= .int k (k.wrap (0-n))) (by simp [execOp,ho,e,Op.unary,Op.intArith]) (.int _ _) hw
 ·exact hw.elim
theorem g_convInt {x:Operand} {ax:AX} {s t:TypeId} {k:IntKind} (ho:o.op= .convert s t x) (hs:(P.underlying s).isSome=true) (ht:P.underlying t=some (.int k)) (hx:trX x=some ax) :Good P o ((AI.convInt k ax).pm C okr okw o.dst):=by
 intro Γ ρ bl st a w h hgz hd K hw Q
 simp only [AI.pm] at hw
 rw [ev_wp] at hw
 split at hw
 ·rename_i n hb
  obtain ⟨k',hb⟩:=intOf_eq hb
  have e:=rep_ax hx h
  rw [hb] at e
  have e:=rep_int e
  obtain ⟨d,hd'⟩:=Option.isSome_iff_exists.1 hs
  exact good_data h hd (v:= .int k (k.wrap n)) (by cases d<;>simp [execOp,ho,e,convert,run_underlying hd',run_underlying ht,Conv.intToInt]) (.int _ _) hw
 ·exact hw.elim
theorem g_convId {x:Operand} {ax:AX} {s t:TypeId} (ho:o.op= .convert s t x) (hs:(P.underlying s).isSome=true) (ht:P.underlying t=some .string) (hx:trX x=some ax) :Good P o ((AI.convId ax).pm C okr okw o.dst):=by
 intro Γ ρ bl st a w h hgz hd K hw Q
 simp only [AI.pm] at hw
 rw [ev_wp] at hw
 split at hw
 ·rename_i n hb
  have e:=rep_ax hx h
  rw [hb] at e
  have e:=rep_str e
  obtain ⟨d,hd'⟩:=Option.isSome_iff_exists.1 hs
  exact good_data h hd (v:= .string ⟨n.toArray⟩) (by cases d<;>simp [execOp,ho,e,convert,run_underlying hd',run_underlying ht]) (.str _) hw
 ·exact hw.elim
theorem g_fieldA {x:Operand} {ax:AX} {t:TypeId} {i off n:Nat} (ho:o.op= .fieldAddr t x i) (hx:trX x=some ax) (fs:Array Field) (f:Field) (ti:TypeInfo)
  (ht:P.underlying t=some (.struct fs)) (hf:fs[i]? =some f) (ho2:f.offset=off) (hi:P.info? f.type=some ti) (hn:ti.size=n+1) :Good P o ((AI.fieldA off ax).pm C okr okw o.dst):=by
 intro Γ ρ bl st a w h hgz hd K hw Q
 simp only [AI.pm] at hw
 rw [ev_wp] at hw
 have e:=rep_ax hx h
 have hm:=fun b hb=>ment_ax (b:=b) hx h hb
 have hrun: ∀ad:Addr,a.eval x= .pointer (some ad)→(execOp a.eval o).run P w= .ok (.value (.pointer (some (ad.add off)))) w:=by
  intro ad he
  subst ho2
  simp [execOp,ho,Instr.fieldAt,run_underlying ht,he,Instr.sureAddr,hf,fieldPlace,sizeOf,typeInfo,hi,hn]
 split at hw
 ·rename_i b p hb
  rw [hb] at e
  have e:a.eval x= .pointer (some ⟨bl b,p,none⟩):=e
  refine good_same (p:= .s 0) h hd (hrun _ e) ?_ rfl (fun k hk=>hm k (by rw [hb];exact hk)) hw
  show Value.pointer (some _) = .pointer (some _)
  rw [Addr.add_lit']
 ·rename_i cs hb
  rw [hb] at e
  obtain ⟨ad,e,hs,hfl,hc⟩ :RepC1 Γ ρ bl w ax.place 0 (.ep cs) (a.eval x):=e
  refine good_same (p:= .s 0) (c:= .ep (cs.drop off)) h hd (hrun _ e) ⟨_,rfl,Addr.add_spot _ hs _,fun d hd=>hfl d (List.mem_of_mem_drop hd),fun k d hd=> ?_⟩ rfl (fun k hk=>hk.elim) hw
  rw [Addr.add_add _ hs]
  rw [List.getElem?_drop] at hd
  exact hc _ d hd
 ·rename_i z k i p hb
  rw [hb] at e
  obtain ⟨e,hc⟩ :RowA ρ bl z k i p (a.eval x):=e
  refine good_same (p:= .s 0) (c:= .ea z k i (p+off)) h hd (hrun _ e) ⟨?_,hc⟩ rfl (fun k hk=>hm k (by rw [hb];exact hk)) hw
  rw [Addr.add_lit',Nat.add_assoc]
 ·exact hw.elim
theorem rep_elem {Γ:Froz} {z:Nat} {l:List D} {ao:Option Addr} {len cap:Nat} (h:Rep Γ (.slice z l) (.slice ao len cap)) (j:Nat) (hj:j<l.length) :
  len=l.length∧∃a:Addr,ao=some a∧a.spot=none∧(∀d∈(l.getD j .nilp).cells,d.flat=true)∧∀k d,(l.getD j .nilp).cells[k]? =some d→∃u,Γ ((a.add (j*z)).add k) =some u∧Rep Γ d u:=by
 cases h with
 | nil=>simp at hj
 | nil0=>simp at hj
 | slice _ _ a _ vals hs hc hz hf hv hr=>
  refine ⟨rfl,a,rfl,hs,fun d hd=>hf d ?_,fun k d hd=> ?_⟩
  ·simp only [flatten,List.mem_flatMap]
   exact ⟨l.getD j .nilp,by simp [List.getD_eq_getElem?_getD,hj],hd⟩
  ·have hk:k<z:=by
    have:=hz (l.getD j .nilp) (by simp [List.getD_eq_getElem?_getD,hj])
    rw [←this];exact (List.getElem?_eq_some_iff.1 hd).1
   have:=flatten_get hz j k hk
   rw [List.getElem?_eq_getElem hj] at this
   have e:l.getD j .nilp=l[j]:=by simp [List.getD_eq_getElem?_getD,hj]
   rw [e] at hd
   simp only [Option.bind_some,hd] at this
   refine ⟨_, ?_,hr _ d this⟩
   rw [Addr.add_add _ hs];exact hv _ d this
theorem slice_form {Γ:Froz} {z:Nat} {l:List D} {v:Value} (h:Rep Γ (.slice z l) v) : ∃ao n,v= .slice ao l.length n∧l.length≤n:=by
 cases h with
 | nil=>exact ⟨none,0,rfl,Nat.le_refl _⟩
 | nil0 _ a=>exact ⟨some a,0,rfl,Nat.le_refl _⟩
 | slice _ _ a c _ hs hc=>exact ⟨some a,c,rfl,hc⟩
theorem addO_eq (o j:Nat) :addO o j=o+j:=by cases o<;>simp [addO]
theorem g_idxA {x y:Operand} {ax ay:AX} {t e:TypeId} {sz:Nat} {ti:TypeInfo} (ho:o.op= .indexAddr t x y) (hx:trX x=some ax) (hy:trX y=some ay)
  (ht:P.underlying t=some (.slice e)) (hi:P.info? e=some ti) (hsz:ti.size=sz) :Good P o ((AI.idxA sz ax ay).pm C okr okw o.dst):=by
 intro Γ ρ bl st a w h hgz hd K hw Q
 simp only [AI.pm] at hw
 rw [ev_wp,ev_wp] at hw
 split at hw
 ·rename_i z kk oo m hv
  split at hw
  ·rename_i n hn
   obtain ⟨⟨rfl,h0,h1⟩,hw⟩:=hw
   obtain ⟨k,hk⟩:=intOf_eq hn
   have e2:=rep_ax hy h
   rw [hk] at e2
   have e2:=rep_int e2
   have e1:=rep_ax hx h
   rw [hv] at e1
   rcases (e1:RowH ρ bl z kk oo m (a.eval x)) with ⟨h2,_⟩ | ⟨c,cap,e1,h2,h3,h4⟩
   ·omega
   refine good_same (p:= .s 0) (v:= .pointer (some ⟨bl kk,oo*z+n.toNat*z,none⟩)) (c:= .ea z kk (addO oo n.toNat) 0) h hd ?_ ⟨?_,cap,h3, ?_⟩ rfl (fun k hk=>ment_ax hx h (by rw [hv];exact hk)) hw
   ·simp [execOp,ho,Instr.indexAt,e1,e2,asIntOf,run_underlying ht,h0,h1,sizeOf,typeInfo,hi,hsz,Addr.add_lit']
   ·rw [addO_eq,Nat.add_mul];rfl
   ·rw [addO_eq];omega
  ·exact hw.elim
 split at hw
 ·rename_i z l n hl hn
  obtain ⟨⟨rfl,h0,h1⟩,hw⟩:=hw
  obtain ⟨k,hk⟩:=intOf_eq hn
  have e2:=rep_ax hy h
  rw [hk] at e2
  have e2:=rep_int e2
  have e1:=rep_sl (rep_ax hx h) hl
  obtain ⟨ao,c,hv,_⟩:=slice_form e1
  rw [hv] at e1
  obtain ⟨_,ad,rfl,hs,hf,hc⟩:=rep_elem e1 n.toNat (by omega)
  refine good_same (p:= .s 0) (v:= .pointer (some (ad.add (n.toNat*z)))) (c:= .ep (l.getD n.toNat .nilp).cells) h hd ?_ ⟨_,rfl,Addr.add_spot _ hs _,hf,hc⟩ rfl (fun k hk=>hk.elim) hw
  simp [execOp,ho,Instr.indexAt,hv,e2,asIntOf,run_underlying ht,h0,h1,sizeOf,typeInfo,hi,hsz]
 ·exact hw.elim
theorem g_idxS {x y:Operand} {ax ay:AX} {t:TypeId} (ho:o.op= .index t x y) (hx:trX x=some ax) (hy:trX y=some ay)
  (ht:P.underlying t=some .string) :Good P o ((AI.idxS ax ay).pm C okr okw o.dst):=by
 intro Γ ρ bl st a w h hgz hd K hw Q
 simp only [AI.pm] at hw
 rw [ev_wp,ev_wp] at hw
 split at hw
 ·rename_i s n hl hn
  obtain ⟨⟨h0,h1⟩,hw⟩:=hw
  obtain ⟨k,hk⟩:=intOf_eq hn
  have e2:=rep_ax hy h
  rw [hk] at e2
  have e2:=rep_int e2
  have e1:=rep_ax hx h
  rw [hl] at e1
  have e1:=rep_str e1
  have hlt:n.toNat<s.length:=by omega
  refine good_data (v:= .int .u8 (s.getD n.toNat 0).toNat) h hd ?_ (.int _ _) hw
  have hb:(⟨s.toArray⟩ :ByteArray)[n.toNat]? =some (s.getD n.toNat 0):=by
   rw [getElem?_pos _ _ (by show n.toNat<(⟨s.toArray⟩ :ByteArray).size;rw [size_mk];exact hlt)]
   simp [List.getD_eq_getElem?_getD,hlt]
   rfl
  simp [execOp,ho,Instr.index,e1,e2,asIntOf,run_underlying ht,h0,hb]
 ·exact hw.elim
theorem optEv_wp {x:Option AX} {k:Option CV→PM} {K:St→Prop} {st:St}:(optEv x k).wp K st↔(k (x.map (AX.val st))).wp K st:=by
 cases x with
 | none=>rfl
 | some x=>exact ev_wp
def trO:Option Operand→Option (Option AX)
 | none=>some none
 | some x=>(trX x).map some
theorem bound_rep {x:Option Operand} {ax:Option AX} (hx:trO x=some ax) {Γ:Froz} {ρ:Nat→Role} {bl:Nat→Nat} {st:St} {a:Act} {w:World} (h:SR Γ ρ bl st a.tmps w) {df:Nat} {n:Int} (hb:bound df (ax.map (AX.val st)) =some n) :
  (x=none∧n=df)∨∃k y,x=some y∧a.eval y= .int k n:=by
 cases x with
 | none=>simp only [trO,Option.some.injEq] at hx;subst hx;simp only [Option.map_none,bound,Option.some.injEq] at hb;exact .inl ⟨rfl,hb.symm⟩
 | some y=>
  simp only [trO,Option.map_eq_some_iff] at hx
  obtain ⟨ay,hy,rfl⟩:=hx
  simp only [Option.map_some,bound] at hb
  obtain ⟨k,hk⟩:=intOf_eq hb
  have e:=rep_ax hy h
  rw [hk] at e
  exact .inr ⟨k,y,rfl,rep_int e⟩
theorem run_bounds (w:World) (ρ:Operand→Value) (isS:Bool) (len cap:Nat) (lo hi:Option Operand) (i j:Int) (hl:(lo=none∧i=(0:Nat))∨∃k y,lo=some y∧ρ y= .int k i) (hh:(hi=none∧j=len)∨∃k y,hi=some y∧ρ y= .int k j)
  (h0:0≤i) (h1:i≤j) (h2:j≤cap) :(Instr.sliceBounds isS len cap (lo.map ρ) (hi.map ρ) none).run P w= .ok (i.toNat,j.toNat,cap) w:=by
 rcases hl with ⟨rfl,rfl⟩ | ⟨k,y,rfl,hk⟩<;>rcases hh with ⟨rfl,rfl⟩ | ⟨k',y',rfl,hk'⟩
 ·simp [Instr.sliceBounds]
 ·simp [Instr.sliceBounds,Instr.sliceBound,hk',asIntOf,show 0≤j by omega,h2]
 ·simp [Instr.sliceBounds,Instr.sliceBound,hk,asIntOf,h0,h1]
 ·simp [Instr.sliceBounds,Instr.sliceBound,hk,hk',asIntOf,h0,show 0≤j by omega,h2,Int.toNat_of_nonneg (show 0≤j by omega),h1]
theorem rep_cut {Γ:Froz} {z:Nat} {l:List D} {ao:Option Addr} {c:Nat} (h:Rep Γ (.slice z l) (.slice ao l.length c)) (i j:Nat) (h1:i≤j) (h2:j≤l.length) :
  Rep Γ (slD z l i j) (.slice (if c=i then ao else ao.map (·.add (i*z))) (j-i) (c-i)):=by
 have hlen:((l.take j).drop i).length=j-i:=by simp;omega
 generalize hL:l.length=L at h
 cases h with
 | nil=>
  simp only [List.length_nil,Nat.le_zero] at h2
  subst h2
  obtain rfl:i=0:=by omega
  exact .nil z
 | nil0 _ a=>
  simp only [List.length_nil,Nat.le_zero] at h2
  subst h2
  obtain rfl:i=0:=by omega
  rw [if_pos rfl]
  exact .nil0 z a
 | slice _ _ a _ vals hs hc hz hf hv hr=>
  have hz': ∀x∈(l.take j).drop i,x.cells.length=z:=fun x hx=>hz x (List.mem_of_mem_take (List.mem_of_mem_drop hx))
  have hfl:flatten ((l.take j).drop i) =((flatten l).take (j*z)).drop (i*z):=by
   rw [flatten_drop (fun x hx=>hz x (List.mem_of_mem_take hx)),flatten_take hz]
  have key: ∀a':Addr,a'.spot=none→(a'=a.add (i*z)∨j-i=0)→Rep Γ (slD z l i j) (.slice (some a') (j-i) (c-i)):=by
   intro a' hs' ha'
   have:=Rep.slice (Γ:=Γ) z ((l.take j).drop i) a' (c-i) (fun n=>vals (i*z+n)) hs' (by rw [hlen];omega) hz' (fun d hd=>hf d ?_) (fun n d hd=> ?_) (fun n d hd=> ?_)
   ·rw [hlen] at this;exact this
   ·rw [hfl] at hd;exact List.mem_of_mem_take (List.mem_of_mem_drop hd)
   ·rw [hfl,List.getElem?_drop] at hd
    rcases ha' with rfl | h0
    ·rw [Addr.add_add _ hs]
     exact hv _ d (by rw [List.getElem?_take] at hd;split at hd;exact hd;cases hd)
    ·have:(flatten ((l.take j).drop i)).length=0:=by rw [flatten_length hz',hlen,h0,Nat.zero_mul]
     rw [hfl] at this
     have h3:=(List.getElem?_eq_some_iff.1 hd).1
     simp only [List.length_drop] at this
     omega
   ·rw [hfl,List.getElem?_drop] at hd
    exact hr _ d (by rw [List.getElem?_take] at hd;split at hd;exact hd;cases hd)
  by_cases hci:c=i
  ·rw [if_pos hci]
   exact key a hs (.inr (by omega))
  ·rw [if_neg hci]
   exact key _ (Addr.add_spot _ hs _) (.inl rfl)
theorem g_slice {x:Operand} {ax:AX} {lo hi:Option Operand} {al ah:Option AX} {t e:TypeId} {sz:Nat} {ti:TypeInfo} (ho:o.op= .slice t x lo hi none) (hx:trX x=some ax) (hl:trO lo=some al) (hh:trO hi=some ah)
  (ht:P.underlying t=some (.slice e)) (hi':P.info? e=some ti) (hsz:ti.size=sz) :Good P o ((AI.slice sz ax al ah).pm C okr okw o.dst):=by
 intro Γ ρ bl st a w h hgz hd K hw Q
 simp only [AI.pm] at hw
 rw [ev_wp,optEv_wp,optEv_wp] at hw
 split at hw
 ·rename_i z kk oo m hv
  split at hw
  ·rename_i i j hbi hbj
   obtain ⟨⟨rfl,h0,h1,h2⟩,hw⟩:=hw
   have e1:=rep_ax hx h
   rw [hv] at e1
   have hm: ∀k,(CV.rs z kk (addO oo i.toNat) (j.toNat-i.toNat)).ment k→(st.bx k).isSome=true:=fun k hk=>ment_ax hx h (by rw [hv];exact hk)
   rcases (e1:RowH ρ bl z kk oo m (a.eval x)) with ⟨rfl,e1⟩ | ⟨c,cap,e1,k2,k3,k4⟩
   ·obtain ⟨ao,hv'⟩ : ∃ao,a.eval x= .slice ao 0 0:=by
     rcases e1 with e1 | ⟨ad,e1⟩
     ·exact ⟨_,e1⟩
     ·exact ⟨_,e1⟩
    have hb:=run_bounds (P:=P) w a.eval true 0 0 lo hi i j (bound_rep hl h hbi) (bound_rep hh h hbj) h0 h1 (by omega)
    have hi0:i.toNat=0:=by omega
    have hj0:j.toNat=0:=by omega
    refine good_same (p:= .s 0) (c:= .rs z kk (addO oo i.toNat) (j.toNat-i.toNat)) (v:= .slice ao 0 0) h hd ?_ (Or.inl ⟨by omega, ?_⟩) rfl hm hw
    ·rw [hi0,hj0] at hb
     simp [execOp,ho,Instr.sliceAt,Instr.slice,run_underlying ht,hv',hb,sizeOf,typeInfo,hi',hsz]
    ·cases ao with
     | none=>exact .inl rfl
     | some ad=>exact .inr ⟨ad,rfl⟩
   ·have hb:=run_bounds (P:=P) w a.eval true m c lo hi i j (bound_rep hl h hbi) (bound_rep hh h hbj) h0 h1 (by omega)
    refine good_same (p:= .s 0) (c:= .rs z kk (addO oo i.toNat) (j.toNat-i.toNat)) (v:= .slice (if c=i.toNat then some ⟨bl kk,oo*z,none⟩ else some ⟨bl kk,oo*z+i.toNat*z,none⟩) (j.toNat-i.toNat) (c-i.toNat)) h hd ?_ ?_ rfl hm hw
    ·by_cases hci:c=i.toNat
     ·subst hci
      simp [execOp,ho,Instr.sliceAt,Instr.slice,run_underlying ht,e1,hb,sizeOf,typeInfo,hi',hsz]
     ·simp [execOp,ho,Instr.sliceAt,Instr.slice,run_underlying ht,e1,hb,sizeOf,typeInfo,hi',hsz,hci,Addr.add_lit']
    ·by_cases hci:c=i.toNat
     ·rw [if_pos hci]
      refine Or.inl ⟨by omega, .inr ⟨⟨bl kk,oo*z,none⟩, ?_⟩⟩
      rw [show j.toNat-i.toNat=0 by omega,show c-i.toNat=0 by omega]
     ·rw [if_neg hci]
      exact Or.inr ⟨c-i.toNat,cap,by rw [addO_eq,Nat.add_mul],by omega,k3,by rw [addO_eq];omega⟩
  ·exact hw.elim
 split at hw
 ·rename_i z xs hxs
  split at hw
  ·rename_i i j hbi hbj
   obtain ⟨⟨rfl,h0,h1,h2⟩,hw⟩:=hw
   have e1:=rep_sl (rep_ax hx h) hxs
   obtain ⟨ao,c,hv,hlc⟩:=slice_form e1
   rw [hv] at e1
   have hb:=run_bounds (P:=P) w a.eval true xs.length c lo hi i j (bound_rep hl h hbi) (bound_rep hh h hbj) h0 h1 (by omega)
   refine good_data (v:= .slice (if c=i.toNat then ao else ao.map (·.add (i.toNat*z))) (j.toNat-i.toNat) (c-i.toNat)) h hd ?_ (rep_cut e1 i.toNat j.toNat (by omega) (by omega)) hw
   simp [execOp,ho,Instr.sliceAt,Instr.slice,run_underlying ht,hv,hb,sizeOf,typeInfo,hi',hsz]
  ·exact hw.elim
 ·exact hw.elim
theorem g_sliceS {x:Operand} {ax:AX} {lo hi:Option Operand} {al ah:Option AX} {t:TypeId} (ho:o.op= .slice t x lo hi none) (hx:trX x=some ax) (hl:trO lo=some al) (hh:trO hi=some ah)
  (ht:P.underlying t=some .string) :Good P o ((AI.sliceS ax al ah).pm C okr okw o.dst):=by
 intro Γ ρ bl st a w h hgz hd K hw Q
 simp only [AI.pm] at hw
 rw [ev_wp,optEv_wp,optEv_wp] at hw
 split at hw
 ·rename_i s hs
  split at hw
  ·rename_i i j hbi hbj
   obtain ⟨⟨h0,h1,h2⟩,hw⟩:=hw
   have e1:=rep_ax hx h
   rw [hs] at e1
   have e1:=rep_str e1
   have hb:=run_bounds (P:=P) w a.eval false s.length s.length lo hi i j (bound_rep hl h hbi) (bound_rep hh h hbj) h0 h1 h2
   have hx:(⟨s.toArray⟩ :ByteArray).extract i.toNat j.toNat= ⟨((s.take j.toNat).drop i.toNat).toArray⟩:=by
    have hh: ∀x y:ByteArray,x.data=y.data→x=y:=fun x y h=>by cases x;cases y;simp_all
    apply hh
    rw [ByteArray.data_extract]
    apply Array.ext'
    rw [Array.toList_extract]
    simp only [List.extract_eq_take_drop,List.drop_take]
   refine good_data (v:= .string ⟨((s.take j.toNat).drop i.toNat).toArray⟩) h hd ?_ (.str _) hw
   simp [execOp,ho,Instr.sliceAt,Instr.slice,run_underlying ht,e1,hb,size_mk,hx]
  ·exact hw.elim
 ·exact hw.elim
theorem g_slice0 {x:Operand} {ax:AX} {t e:TypeId} {sz:Nat} {ti:TypeInfo} {k1 k2:IntKind} (ho:o.op= .slice t x none (some (.const (.int k1 0))) (some (.const (.int k2 0)))) (hx:trX x=some ax)
  (ht:P.underlying t=some (.slice e)) (hi':P.info? e=some ti) :Good P o ((AI.slice0 sz ax).pm C okr okw o.dst):=by
 intro Γ ρ bl st a w h hgz hd K hw Q
 simp only [AI.pm] at hw
 rw [ev_wp] at hw
 split at hw
 ·rename_i zx hxs
  obtain ⟨z,xs⟩:=zx
  have e1:=rep_sl (rep_ax hx h) hxs
  obtain ⟨ao,c,hv,hlc⟩:=slice_form e1
  have hrun:(execOp a.eval o).run P w= .ok (.value (.slice ao 0 0)) w:=by
   have hc: ∀v,a.eval (.const v) =v:=fun _=>rfl
   simp [execOp,ho,Instr.sliceAt,Instr.slice,run_underlying ht,hv,hc,Instr.sliceBounds,Instr.sliceBound,asIntOf,sizeOf,typeInfo,hi']
  have how: ∀d,Own Γ ρ w (.s d) 0 sz [] (.slice ao 0 0):=by
   intro d
   cases ao with
   | none=>exact .inl ⟨0,[],rowS_nil w 0 sz,⟨by simp,by simp [flatten],rfl,by simp [flatten]⟩,by simp [Value.ownBlock]⟩
   | some ad=>exact .inr ⟨rfl,ad,rfl⟩
  unfold Oper.wp;rw [hrun]
  obtain ⟨st',hK,hs⟩:=setD_sound h (dst:=o.dst) (c:= .own sz []) (v:= .slice ao 0 0) (fun d' _=>how d') (fun b hb=>hb.elim) hw
  exact ⟨by rw [put_defers];exact hd,Γ,ρ,bl,st',hK,by rw [put_tmps];exact hs, .refl _ _ _,fun _ _=>rfl⟩
 ·exact hw.elim
theorem g_len {x:Operand} {ax:AX} {t e:TypeId} (ho:o.op= .call {callee:= .builtin .len,args:= #[x],argTypes:= #[t]}) (hx:trX x=some ax)
  (ht:P.underlying t=some (.slice e)) :Good P o ((AI.len ax).pm C okr okw o.dst):=by
 intro Γ ρ bl st a w h hgz hd K hw Q
 simp only [AI.pm] at hw
 rw [ev_wp] at hw
 split at hw
 ·rename_i z kk oo m hv
  have e1:=rep_ax hx h
  rw [hv] at e1
  have: ∃ao c,a.eval x= .slice ao m c:=by
   rcases (e1:RowH ρ bl z kk oo m (a.eval x)) with ⟨rfl,e1⟩ | ⟨c,cap,e1,k2,k3,k4⟩
   ·rcases e1 with e1 | ⟨ad,e1⟩
    ·exact ⟨_,_,e1⟩
    ·exact ⟨_,_,e1⟩
   ·exact ⟨_,_,e1⟩
  obtain ⟨ao,c,hv'⟩:=this
  exact good_data (v:= .int .i64 m) h hd (by simp [execOp,ho,resolve,invoke,builtin,Builtin.len_,run_underlying ht,hv',goInt]) (.int _ _) hw
 split at hw
 ·rename_i l hl
  obtain ⟨ad,n,hv⟩:=sl_len (rep_ax hx h) hl
  exact good_data (v:= .int .i64 l.length) h hd (by simp [execOp,ho,resolve,invoke,builtin,Builtin.len_,run_underlying ht,hv,goInt]) (.int _ _) hw
 ·exact hw.elim
theorem g_lenS {x:Operand} {ax:AX} {t:TypeId} (ho:o.op= .call {callee:= .builtin .len,args:= #[x],argTypes:= #[t]}) (hx:trX x=some ax)
  (ht:P.underlying t=some .string) :Good P o ((AI.lenS ax).pm C okr okw o.dst):=by
 intro Γ ρ bl st a w h hgz hd K hw Q
 simp only [AI.pm] at hw
 rw [ev_wp] at hw
 split at hw
 ·rename_i s hs
  have e:=rep_ax hx h
  rw [hs] at e
  have e:=rep_str e
  exact good_data (v:= .int .i64 s.length) h hd (by simp [execOp,ho,resolve,invoke,builtin,Builtin.len_,run_underlying ht,e,goInt,size_mk]) (.int _ _) hw
 ·exact hw.elim
theorem g_nilCk {x:Operand} {ax:AX} (ho:o.op= .nilCheck x) (hx:trX x=some ax) :Good P o ((AI.nilCk ax).pm C okr okw o.dst):=by
 intro Γ ρ bl st a w h hgz hd K hw Q
 simp only [AI.pm] at hw
 rw [ev_wp] at hw
 have e:=rep_ax hx h
 have hm:=fun b hb=>ment_ax (b:=b) hx h hb
 split at hw
 ·rename_i b p hb
  rw [hb] at e hm
  have e':a.eval x= .pointer (some ⟨bl b,p,none⟩):=e
  exact good_same (c:= .ptr b p) h hd (v:=a.eval x) (by simp [execOp,ho,e']) e rfl hm hw
 ·rename_i cs hb
  rw [hb] at e hm
  obtain ⟨ad,e',_⟩:=id e
  exact good_same (c:= .ep cs) h hd (v:=a.eval x) (by simp [execOp,ho,e']) e rfl hm hw
 ·rename_i f cs hb
  rw [hb] at e hm
  have e':a.eval x= .func (.func f) #[] _:=e
  exact good_same (c:= .fn f cs) h hd (v:=a.eval x) (by simp [execOp,ho,e']) e rfl hm hw
 ·rename_i f hb
  rw [hb] at e hm
  have e1:Rep Γ (.fn (some f)) (a.eval x):=e
  have e':a.eval x= .func (.func f) #[] #[]:=by
   generalize a.eval x=u at e1
   cases e1;rfl
  exact good_same (c:= .d (.fn (some f))) h hd (v:=a.eval x) (by simp [execOp,ho,e']) e rfl hm hw
 ·rename_i z k i p hb
  rw [hb] at e hm
  obtain ⟨e',_⟩ :RowA ρ bl z k i p (a.eval x):=id e
  exact good_same (c:= .ea z k i p) h hd (v:=a.eval x) (by simp [execOp,ho,e']) e rfl hm hw
 ·exact hw.elim
theorem g_ptrNil {x y:Operand} {ax:AX} {t t' e:TypeId} (ng:Bool) (ho:o.op= .binOp (if ng then .neq else .eql) t x y t') (hy:y= .const (.pointer none)) (hx:trX x=some ax) (ht:P.underlying t=some (.pointer e)) :
  Good P o ((AI.ptrNil ng ax).pm C okr okw o.dst):=by
 subst hy
 intro Γ ρ bl st a w h hgz hd K hw Q
 simp only [AI.pm] at hw
 rw [ev_wp] at hw
 have e1:=rep_ax hx h
 have ht':P.underlying t=some (.pointer (P.pointee t)):=by rw [ht];simp [Program.pointee,ht]
 have hrun: ∀p:Option Addr,a.eval x= .pointer p→(execOp a.eval o).run P w= .ok (.value (.bool (p.isNone !=ng))) w:=by
  intro p hp
  have hg:=fun op=>eqGuard_run (P:=P) (op:=op) (t:=t) (x:=x) (y:= .const (.pointer none)) (u:= .pointer p) (v:= .pointer none) w (by simp) (by simp)
  have hc: ∀v,a.eval (.const v) =v:=fun _=>rfl
  cases ng
  ·simp only [execOp,ho,hp,hc,Sem.run_bind,Bool.false_eq_true,if_false,hg,Result.andThen_ok,run_eql_pointer_nil w t p ht']
   simp
  ·simp only [execOp,ho,hp,hc,Sem.run_bind,if_true,hg,Result.andThen_ok,run_neq_pointer_nil w t p ht']
   simp
 split at hw
 ·rename_i b p hb
  rw [hb] at e1
  exact good_data h hd (hrun _ e1) (by simp;exact .bool _) hw
 ·rename_i cs hb
  rw [hb] at e1
  obtain ⟨ad,e',_⟩:=e1
  exact good_data h hd (hrun _ e') (by simp;exact .bool _) hw
 ·rename_i z k i p hb
  rw [hb] at e1
  obtain ⟨e',_⟩ :RowA ρ bl z k i p (a.eval x):=e1
  exact good_data h hd (hrun _ e') (by simp;exact .bool _) hw
 ·rename_i hb
  rw [hb] at e1
  have e1:Rep Γ .nilp (a.eval x):=e1
  generalize hu:a.eval x=u at e1
  cases e1
  exact good_data h hd (hrun _ hu) (by simp;exact .bool _) hw
 ·exact hw.elim
theorem g_slNil {x y:Operand} {ax:AX} {t t' e:TypeId} (ng:Bool) (ho:o.op= .binOp (if ng then .neq else .eql) t x y t') (hy:y= .const (.slice none 0 0)) (hx:trX x=some ax) (ht:P.underlying t=some (.slice e)) :
  Good P o ((AI.slNil ng ax).pm C okr okw o.dst):=by
 subst hy
 intro Γ ρ bl st a w h hgz hd K hw Q
 simp only [AI.pm] at hw
 rw [ev_wp] at hw
 have hrun: ∀(p:Option Addr) (l c:Nat),a.eval x= .slice p l c→(execOp a.eval o).run P w= .ok (.value (.bool (p.isNone !=ng))) w:=by
  intro p l c hp
  have hg:=fun op=>eqGuard_run (P:=P) (op:=op) (t:=t) (x:=x) (y:= .const (.slice none 0 0)) (u:= .slice p l c) (v:= .slice none 0 0) w (by simp) (by simp)
  have he:(Op.equal t (.slice p l c) (.slice none 0 0)).run P w= .ok p.isNone w:=run_equal_slice_nil w t e p l c ht
  have hc: ∀v,a.eval (.const v) =v:=fun _=>rfl
  cases ng
  ·simp only [execOp,ho,hp,hc,Sem.run_bind,Bool.false_eq_true,if_false,hg,Result.andThen_ok]
   simp [binOp,he]
  ·simp only [execOp,ho,hp,hc,Sem.run_bind,if_true,hg,Result.andThen_ok]
   simp [binOp,he]
 have key: ∀z l,Rep Γ (.slice z l) (a.eval x)→(PM.all fun b=>setD o.dst (.d (.bool ((b&&l.isEmpty) !=ng)))).wp K st→o.wp P a w (fun a' w'=>a'.defers= []∧After K Γ ρ bl w st a'.tmps w') Q:=by
  intro z l e1 hw
  obtain ⟨ao,c,hv,_⟩:=slice_form e1
  have hw':=hw ao.isNone
  cases ao with
  | none=>
   rw [hv] at e1
   have hl:l= []:=by
    generalize hL:l.length=L at e1
    cases e1;rfl
   subst hl
   simp only [Option.isNone_none,List.isEmpty_nil,Bool.and_self] at hw'
   exact good_data h hd (hrun _ _ _ hv) (by simp only [Option.isNone_none];exact .bool _) hw'
  | some ad=>
   simp only [Option.isNone_some,Bool.false_and] at hw'
   exact good_data h hd (hrun _ _ _ hv) (by simp only [Option.isNone_some];exact .bool _) hw'
 have e1:=rep_ax hx h
 split at hw
 ·rename_i z l hb
  rw [hb] at e1
  exact key z l e1 hw
 ·rename_i z l hb
  rw [hb] at e1
  exact key z l (Own.rep e1) hw
 ·rename_i hb
  rw [hb] at e1
  have hv:a.eval x= .slice none 0 0:=e1
  exact good_data h hd (hrun _ _ _ hv) (by simp;exact .bool _) hw
 ·rename_i z hb
  rw [hb] at e1
  have hv:a.eval x= .slice none 0 0:=by
   have e1:Rep Γ (.nils z) (a.eval x):=e1
   generalize a.eval x=u at e1
   cases e1;rfl
  exact good_data h hd (hrun _ _ _ hv) (by simp;exact .bool _) hw
 ·rename_i z kk oo m hb
  rw [hb] at e1
  rcases (e1:RowH ρ bl z kk oo m (a.eval x)) with ⟨rfl,e1⟩ | ⟨c,cap,e1,k2,k3,k4⟩
  ·rcases e1 with e1 | ⟨ad,e1⟩
   ·have hw:=hw true
    exact good_data h hd (hrun _ _ _ e1) (by simp;exact .bool _) hw
   ·have hw:=hw false
    exact good_data h hd (hrun _ _ _ e1) (by simp;exact .bool _) hw
  ·have hw:=hw false
   exact good_data h hd (hrun _ _ _ e1) (by simp;exact .bool _) hw
 ·exact hw.elim
end B
end Go.Proofs.YtmkkljbfmdngfaaGreatDoor
