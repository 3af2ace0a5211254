/- Each instruction does what the abstract one says: conversions, tuples, closures. No condition. -/
import Derived.Test.YtmkkljbfmdngfaaGreatDoorB9
set_option linter.all false
namespace Go.Proofs.YtmkkljbfmdngfaaGreatDoor
namespace B
open Go.RowKit
variable {P:Program} {C:CallRel} {okr okw:Nat→Bool} {o:Oper}
theorem g_toBytes {x:Operand} {ax:AX} {s t e:TypeId} {u:TypeDesc} (ho:o.op= .convert s t x) (hs:P.underlying s=some u) (ht:P.underlying t=some (.slice e)) (he:P.underlying e=some (.int .u8)) (hx:trX x=some ax) :Good P o ((AI.toBytes ax).pm C okr okw o.dst):=by
 intro Γ ρ bl st a w h hgz hd K hw Q
 simp only [AI.pm] at hw
 rw [ev_wp] at hw
 split at hw
 ·rename_i b hb
  obtain ⟨hlen,hw⟩:=hw
  have e1:=rep_ax hx h
  rw [hb] at e1
  have e1:=rep_str e1
  have hrun:(execOp a.eval o).run P w= .ok (.value (.slice (some ⟨w.heap.size,0,none⟩) b.length (grownCap w b.length 0 e))) (Lib.bytesWorld w e ⟨b.toArray⟩):=by
   have:=Lib.run_convert_string_bytes (P:=P) w s t e ⟨b.toArray⟩ hs ht he
   rw [size_mk] at this
   simp [execOp,ho,e1,this]
  have hbv:=byte_vals Γ b
  have hle:Le Γ (freezeRow Γ w.heap.size (Lib.strCells ⟨b.toArray⟩)):=freezeRow_le (vs:=[]) (fun o=>by rw [h.none_new (Nat.le_refl _)];rfl) (by simp)
  have hold:=fun k hk=>Lib.bytesWorld_at_old w e ⟨b.toArray⟩ k hk
  have hnew: ∀i u,(Lib.strCells ⟨b.toArray⟩)[i]? =some u→(Lib.bytesWorld w e ⟨b.toArray⟩).cell? ⟨w.heap.size,i,none⟩ =some u:=by
   intro i u hu
   have hi:i<b.length:=by have:=(List.getElem?_eq_some_iff.1 hu).1;rwa [Lib.strCells_length,size_mk] at this
   rw [Lib.bytesWorld_cell w e _ i (by rw [size_mk];exact hi)]
   simp [Lib.strCells,hi] at hu
   subst hu
   simp [List.getD_eq_getElem?_getD,hi]
  have hb0:ρ w.heap.size= .plain:=h.plain_new (Nat.le_refl _)
  have hs1:SR (freezeRow Γ w.heap.size (Lib.strCells ⟨b.toArray⟩)) (upd ρ w.heap.size (.own (.s (o.dst.getD 0)) 0)) bl st a.tmps (Lib.bytesWorld w e ⟨b.toArray⟩):=by
   refine h.keep hle (fun ad v ha=> ?_) (fun g p i h1 _=> ?_) (fun _ _=>rfl) (fun b' g hx=> ?_) (fun g b' z cap e'=> ?_) fun g hg=> ?_
   ·unfold freezeRow at ha
    split at ha
    ·rename_i hc
     rw [Addr.eq_lit ad hc.2,hc.1];exact hnew _ _ ha
    ·have:=h.agree ad v ha
     rw [World.cell?_of_block (hold ad.block (block_lt_of_cell this))];exact this
   ·have hg:=h.rho g (by rw [h1];simp)
    exact ⟨upd_ne _ _ (by omega),hold g hg,fun o=>freezeRow_ne _ _ _ (by omega)⟩
   ·have hg:=h.rho g hx.np
    exact ⟨upd_ne _ _ (by omega),hold _ hg,fun o=>freezeRow_ne _ _ _ (by omega)⟩
   ·by_cases e2:g=w.heap.size
    ·subst e2;rw [upd_same] at e';cases e'
    ·rw [upd_ne _ _ e2] at e';exact e'
   ·rw [Lib.bytesWorld_size]
    by_cases e2:g=w.heap.size
    ·omega
    ·rw [upd_ne _ _ e2] at hg;have:=h.rho g hg;omega
  have hf:Fr w Γ ρ (Lib.bytesWorld w e ⟨b.toArray⟩) (freezeRow Γ w.heap.size (Lib.strCells ⟨b.toArray⟩)) (upd ρ w.heap.size (.own (.s (o.dst.getD 0)) 0)):=by
   refine ⟨hle,by rw [Lib.bytesWorld_size];omega,rfl,rfl,rfl,fun g hg hp=>⟨hold g hg,by rw [upd_ne _ _ (by omega)];exact hp⟩,fun ad v ha=> ?_,fun g b z cap e' _ _=>by rw [upd_ne _ _ (by have:=h.rho g (by rw [e'];simp);omega)];exact e'⟩
   unfold freezeRow at ha
   split at ha
   ·rename_i hc;exact .inr (.inl (by rw [hc.1];exact Nat.le_refl _))
   ·exact .inl ha
  have hge:=grownCap_ge w b.length 0 e
  have how:Own (freezeRow Γ w.heap.size (Lib.strCells ⟨b.toArray⟩)) (upd ρ w.heap.size (.own (.s (o.dst.getD 0)) 0)) (Lib.bytesWorld w e ⟨b.toArray⟩) (.s (o.dst.getD 0)) 0 1 (b.map byteD) (.slice (some ⟨w.heap.size,0,none⟩) b.length (grownCap w b.length 0 e)):=by
   refine .inl ⟨e,Lib.strCells ⟨b.toArray⟩,⟨by rw [Lib.strCells_length,size_mk];simp, .inr ⟨w.heap.size,_,Lib.bytesCells w e ⟨b.toArray⟩,by rw [List.length_map],⟨_, .inr (Nat.le_refl _),Lib.bytesWorld_at_new w e _⟩,by simpa using hge,grownCap_le_maxLen w _ 0 e (by simp only [maxLen];omega), ?_, ?_⟩⟩,hbv.mono hle,fun g hg=> ?_⟩
   ·simp only [Lib.bytesCells]
    simp [size_mk];omega
   ·simp only [Lib.bytesCells,List.length_map,Nat.mul_one,Array.toList_append,Lib.strCells]
    rw [List.take_append_of_le_length (by simp)]
    simp only [Array.toList_map]
    exact List.take_of_length_le (by simp)
   ·have:w.heap.size=g:=by simpa [Value.ownBlock] using hg
    subst this
    exact ⟨upd_same _ _ _,fun o=>freezeRow_at _ _ _ _⟩
  unfold Oper.wp
  rw [hrun,Oper.upon_value]
  obtain ⟨st'',hK,hs'⟩:=setD_sound hs1 (dst:=o.dst) (c:= .own 1 (b.map byteD)) (v:= .slice (some ⟨w.heap.size,0,none⟩) b.length (grownCap w b.length 0 e)) (fun d' e'=>by
   have e2:o.dst.getD 0=d':=by rw [e'];rfl
   rw [e2] at how⊢;exact how) (fun b hb=>hb.elim) hw
  exact ⟨by rw [put_defers];exact hd,_,_,bl,st'',hK,by rw [put_tmps];exact hs',hf,fun _ _=>rfl⟩
 ·exact hw.elim
theorem flatten_bytes (b:Bytes) :flatten (b.map byteD) =b.map byteD:=by
 simp only [flatten]
 induction b with
 | nil=>rfl
 | cons y r ih=>simp only [List.map_cons,List.flatMap_cons];rw [ih];rfl
theorem g_toStr {x:Operand} {ax:AX} {s t e:TypeId} (ho:o.op= .convert s t x) (hs:P.underlying s=some (.slice e)) (he:P.underlying e=some (.int .u8)) (ht:P.underlying t=some .string) (hx:trX x=some ax) :Good P o ((AI.toStr ax).pm C okr okw o.dst):=by
 intro Γ ρ bl st a w h hgz hd K hw Q
 simp only [AI.pm] at hw
 rw [ev_wp] at hw
 have e1:=rep_ax hx h
 have core: ∀(b:Bytes) (Γ1:Froz) (hag: ∀a v,Γ1 a=some v→w.cell? a=some v) (z:Nat),Rep Γ1 (.slice z (b.map byteD)) (a.eval x)→(setD o.dst (.d (.str b))).wp K st→o.wp P a w (fun a' w'=>a'.defers= []∧After K Γ ρ bl w st a'.tmps w') Q:=by
  intro b Γ1 hag z hr hw
  have nilc: ∀n c,a.eval x= .slice none n c→b= []→o.wp P a w (fun a' w'=>a'.defers= []∧After K Γ ρ bl w st a'.tmps w') Q:=by
   rintro n c hv rfl
   refine good_data (v:= .string ⟨#[]⟩) h hd ?_ (.str []) hw
   have:=run_convert_bytes_nil (P:=P) w s e hs he n c t ht
   simp [execOp,ho,hv,this];rfl
  obtain ⟨ao,c,vs,hv,hf,hn,ha⟩:=slice_vals hr
  cases ao with
  | none=>
   refine nilc _ _ hv ?_
   have h1:=hf.len
   rw [hn rfl] at h1
   have hb:=(byte_vals Γ b).len
   rw [h1,Lib.strCells_length,size_mk] at hb
   exact List.eq_nil_of_length_eq_zero (by simpa using hb.symm)
  | some ad=>
   obtain ⟨hsp,hc⟩:=ha ad rfl
   have hfl:=flatten_bytes b
   by_cases hb0:b= []
   ·subst hb0
    refine good_data (v:= .string ⟨#[]⟩) h hd ?_ (.str []) hw
    have:=run_convert_bytes_string w s t e (some ad) 0 c hs he ht
    rw [run_bytesToString w ad 0 c [] (by simp [loadCells,loadCellsFrom])] at this
    simp only [List.map_nil,List.length_nil] at hv
    simp [execOp,ho,hv,this];rfl
   have hsp:ad.spot=none:=hsp (by
    intro e
    have h1:=hf.len
    rw [e,hfl] at h1
    exact hb0 (List.eq_nil_of_length_eq_zero (by simpa using h1)))
   refine good_data (v:= .string ⟨b.toArray⟩) h hd ?_ (.str b) hw
   have:=run_convert_bytes_arg (P:=P) w s e hs he ad.block ad.off b.length c (b.map fun y=>(y.toNat:Int)) (by simp) (fun i hi=>by
    have hiv:i<vs.length:=by rw [←hf.len,hfl];simpa using hi
    have h1:=hag _ _ (hc i _ (List.getElem?_eq_getElem hiv))
    have h2:=hf.rep i (byteD b[i]) vs[i] (by rw [hfl];simp [hi]) (List.getElem?_eq_getElem hiv)
    rw [Addr.eq_lit ad hsp,Addr.add_lit'] at h1
    rw [h1]
    generalize vs[i]=q at h2
    cases h2
    simp [hi]) t ht
   rw [←Addr.eq_lit ad hsp] at this
   have hstr:strOfNums (b.map fun y=>(y.toNat:Int)) = ⟨b.toArray⟩:=by
    unfold strOfNums
    have hh: ∀x y:ByteArray,x.data=y.data→x=y:=fun x y h=>by cases x;cases y;simp_all
    apply hh
    have hid:((fun n:Int=>UInt8.ofNat n.toNat) ∘fun y:UInt8=>(y.toNat:Int)) =id:=by funext y;simp
    simp [hid]
   rw [hstr] at this
   simp [execOp,ho,hv,this]
 revert hw e1
 have hrow: ∀z k oo n,ax.val st= .rs z k oo n→RowH ρ bl z k oo n (a.eval x):=fun z k oo n hv=>by have e1:=rep_ax hx h;rw [hv] at e1;exact e1
 revert hrow
 generalize ax.val st=u;generalize ax.place=pl
 intro hrow hw e1
 split at hw
 ·rename_i z k oo n
  have e1:=hrow z k oo n rfl
  split at hw
  ·change (match rowD (st.get (.b k)) with | some (z',l)=>_ | none=>PM.fail).wp K st at hw
   split at hw
   ·rename_i z' l hrd
    obtain ⟨b,⟨hz,hn,hb⟩,hw⟩:=hw
    subst hz
    obtain ⟨cs,hbx,hro⟩:=get_b_row hrd
    by_cases hn0:n=0
    ·subst hn0
     rw [List.take_zero] at hb
     have hb0:b= []:=by cases b with | nil=>rfl | cons _ _=>cases hb
     subst hb0
     rcases e1 with ⟨_,e1⟩ | ⟨c,cap,e1,_,hrole,_⟩
     ·refine core [] (fun _=>none) (fun _ _ h=>by cases h) z' ?_ hw
      rcases e1 with e1 | ⟨ad,e1⟩
      ·rw [e1];exact .nil z'
      ·rw [e1];exact .nil0 z' ad
     ·obtain ⟨arr,ety,fz,h1,_,_,_,_,hrf,h4⟩:=h.real hbx hro hrole
      have:=row_rep (.inr ⟨c,cap,e1,Nat.zero_le _,hrole,by assumption⟩) h4 hrf (show oo+0≤l.length by omega)
      rw [List.take_zero] at this
      exact core [] _ (row_agree h.agree h1 fun i u hu=>take_arr hu) z' this hw
    ·rcases e1 with ⟨e0,_⟩ | ⟨c,cap,e1,hc1,hrole,hc2⟩
     ·exact absurd e0 hn0
     ·obtain ⟨arr,ety,fz,h1,_,_,_,_,hrf,h4⟩:=h.real hbx hro hrole
      have:=row_rep (.inr ⟨c,cap,e1,hc1,hrole,hc2⟩) h4 hrf hn
      rw [hb] at this
      exact core b _ (row_agree h.agree h1 fun i u hu=>take_arr hu) z' this hw
   ·exact hw.elim
  ·exact hw.elim
 split at hw
 ·rename_i l hl
  obtain ⟨b,rfl,hw⟩:=hw
  have main: ∀z,Rep Γ (.slice z (b.map byteD)) (a.eval x)→o.wp P a w (fun a' w'=>a'.defers= []∧After K Γ ρ bl w st a'.tmps w') Q:=fun z hr=>core b Γ h.agree z hr hw
  cases u with
  | d y=>
   cases y with
   | slice z l=>simp only [CV.sl,Option.some.injEq] at hl;subst hl;exact main z e1
   | nils z=>
    simp only [CV.sl,Option.some.injEq] at hl
    have e2:a.eval x= .slice none 0 0:=by
     have e1:Rep Γ (.nils z) (a.eval x):=e1
     generalize a.eval x=u at e1
     cases e1;rfl
    exact main 0 (by rw [e2,←hl];exact .nil 0)
   | _=>simp [CV.sl] at hl
  | own z l=>simp only [CV.sl,Option.some.injEq] at hl;subst hl;exact main z (Own.rep e1)
  | nils=>
   simp only [CV.sl,Option.some.injEq] at hl
   exact main 0 (by rw [show a.eval x= .slice none 0 0 from e1,←hl];exact .nil 0)
  | _=>simp [CV.sl] at hl
 ·exact hw.elim
theorem g_extract {x:Operand} {ax:AX} {i:Nat} {cp:Bool} (ho:o.op= .extract x i) (hx:trX x=some ax) :Good P o ((AI.extract ax i cp).pm C okr okw o.dst):=by
 intro Γ ρ bl st a w h hgz hd K hw Q
 simp only [AI.pm] at hw
 rw [ev_wp] at hw
 have e1:=rep_ax hx h
 have m1:=fun b hb=>ment_ax (b:=b) hx h hb
 split at hw
 ·rename_i l hl
  obtain ⟨hi,hw⟩:=hw
  rw [hl] at e1 m1
  obtain ⟨vs,hv,hlen,hr⟩:=e1
  have hci:l[i]? =some (l.getD i .junk):=by simp [List.getD_eq_getElem?_getD,hi]
  have hvi:i<vs.length:=by omega
  have hri:=hr i _ vs[i] hci (List.getElem?_eq_getElem hvi)
  have hrun:(execOp a.eval o).run P w= .ok (.value vs[i]) w:=by
   simp [execOp,ho,hv,Instr.extract,hvi]
  have hment: ∀k,(l.getD i .junk).ment1 k→(st.bx k).isSome=true:=fun k hk=>m1 k ⟨_,List.mem_of_getElem? hci,hk⟩
  generalize hcc:l.getD i .junk=c at*
  split at hw
  ·rename_i hown
   cases c with
   | own sz xs=>
    cases ax with
    | c cv=>
     simp only [AX.val] at hl
     cases x with
     | const u=>
      simp only [trX,Option.map_eq_some_iff] at hx
      obtain ⟨c',hc',e'⟩:=hx
      injection e' with e';subst e'
      rw [hl] at hc'
      exact absurd hc' (by unfold cvOf;split<;>simp)
     | func f=>simp only [trX,Option.some.injEq,AX.c.injEq] at hx;rw [←hx] at hl;cases hl
     | tmp n=>simp [trX] at hx
     | global g=>simp [trX] at hx
    | t n=>
     simp only [AX.val] at hl
     obtain ⟨hok,hw⟩:=hw
     have hn:n<st.s.length:=by simpa [Place.ok] using hok
     have hx':a.tmps[n]? =some (a.eval x):=by
      simp only [trX,Option.some.injEq,AX.t.injEq] at hx
      cases x with
      | tmp k=>
       simp only [trX,Option.some.injEq,AX.t.injEq] at hx;subst hx
       have:k<a.tmps.size:=by rw [h.len];exact hn
       simp [Act.eval,this]
      | _=>simp [trX] at hx
     have hs1:=h.viewSlot n (.tup (l.set i (CV.own sz xs).copy1)) (fun v hv'=>by
      rw [hx'] at hv';cases hv'
      refine ⟨vs,hv,by simpa using hlen,fun j c'' v' hc'' hv'=> ?_⟩
      rw [List.getElem?_set] at hc''
      split at hc''
      ·rename_i hj;subst hj
       cases hc''
       rw [List.getElem?_eq_getElem hvi] at hv';cases hv'
       exact Own.rep hri
      ·exact hr j c'' v' hc'' hv') (fun b hb=>by
      obtain ⟨c'',hc'',hm⟩:=hb
      rcases List.mem_or_eq_of_mem_set hc'' with hc'' | rfl
      ·exact m1 b ⟨c'',hc'',hm⟩
      ·exact hm.elim)
     have hh: ¬Holds (st.set (.s n) (.tup (l.set i (CV.own sz xs).copy1))) (.s n) i:=by
      intro hH
      unfold Holds at hH
      rw [St.get_setSlot,if_pos ⟨rfl,hn⟩] at hH
      simp [CV.comp,List.getD_eq_getElem?_getD,hi,CV.copy1,CV.held] at hH
     have hpl:(AX.t n).place= .s n:=rfl
     rw [hpl] at hri
     obtain ⟨ρ',g1,g2,g3⟩:=hs1.give hri hh (.s (o.dst.getD 0)) 0
     unfold Oper.wp;rw [hrun,Oper.upon_value]
     obtain ⟨st'',hK,hs'⟩:=setD_sound g1 (dst:=o.dst) (c:= .own sz xs) (v:=vs[i]) (fun d' e'=>by
      have e2:o.dst.getD 0=d':=by rw [e'];rfl
      rw [e2] at g2;exact g2) (fun b hb=>hb.elim) hw
     exact ⟨by rw [put_defers];exact hd,Γ,ρ',bl,st'',hK,by rw [put_tmps];exact hs',g3,fun _ _=>rfl⟩
   | _=>simp [isOwn] at hown
  ·rename_i hno
   refine good_same (p:= .s 0) (c:=c.copy1) h hd hrun ?_ ?_ (fun k hk=>hment k (by cases c<;>first | exact hk | exact hk.elim | exact hri.elim)) hw
   ·have:=hri.copy1 (q:= .s 0) (j:=0)
    cases c<;>first | exact this | exact hri.elim
   ·cases c<;>first | rfl | exact hri.elim
 ·exact hw.elim
theorem g_mkfn {f:FuncId} {caps:Array Operand} {acs:List AX} (ho:o.op= .makeFunc (.func f) #[] caps) (hc:caps.toList.map trX=acs.map some) :Good P o ((AI.mkfn f acs).pm C okr okw o.dst):=by
 intro Γ ρ bl st a w h hgz hd K hw Q
 simp only [AI.pm] at hw
 rw [evL_wp] at hw
 obtain ⟨bs,hbs,hw⟩:=hw
 have hl:acs.length=caps.size:=by have:=congrArg List.length hc;simpa using this.symm
 have hl2:bs.length=caps.size:=by have:=congrArg List.length hbs;simp at this;omega
 have hev:caps.map a.eval=(bs.map fun b=>Value.pointer (some ⟨bl b,0,none⟩)).toArray∧∀b∈bs,(st.bx b).isSome=true:=by
  have key: ∀i (hi:i<bs.length),a.eval (caps[i]'(by omega)) = .pointer (some ⟨bl bs[i],0,none⟩)∧(st.bx bs[i]).isSome=true:=by
   intro i hi
   have e1:trX (caps[i]'(by omega)) =some (acs[i]'(by omega)):=by
    have:=congrArg (·[i]?) hc
    simp only [List.getElem?_map] at this
    rw [Array.getElem?_toList,Array.getElem?_eq_getElem (by omega),List.getElem?_eq_getElem (by omega)] at this
    simpa using this
   have e2:(acs[i]'(by omega)).val st= .ptr bs[i] 0:=by
    have:=congrArg (·[i]?) hbs
    simp only [List.getElem?_map] at this
    rw [List.getElem?_eq_getElem (by omega),List.getElem?_eq_getElem hi] at this
    simpa using this
   have hr:=rep_ax e1 h
   rw [e2] at hr
   exact ⟨hr,ment_ax e1 h (by rw [e2];rfl)⟩
  refine ⟨?_,fun b hb=> ?_⟩
  ·apply Array.ext
   ·simp;omega
   ·intro i h1 h2
    simp at h1 h2⊢
    exact (key i h2).1
  ·obtain ⟨i,hi,rfl⟩:=List.mem_iff_getElem.1 hb
   exact (key i hi).2
 exact good_same (p:= .s 0) (c:= .fn f bs) (v:= .func (.func f) #[] (caps.map a.eval)) h hd (by simp [execOp,ho,Instr.makeFunc]) (by rw [hev.1];rfl) rfl (fun b hb=>hev.2 b hb) hw
theorem g_mm {x y:Operand} {ax ay:AX} {ts:Array TypeId} (isMax:Bool) (ho:o.op= .call {callee:= .builtin (if isMax then .max else .min),args:= #[x,y],argTypes:=ts}) (hx:trX x=some ax) (hy:trX y=some ay) :Good P o ((AI.mm isMax ax ay).pm C okr okw o.dst):=by
 intro Γ ρ bl st a w h hgz hd K hw Q
 simp only [AI.pm] at hw
 rw [ev_wp,ev_wp] at hw
 split at hw
 ·rename_i k m k' n h1 h2
  have e1:=rep_ax hx h
  rw [h1] at e1
  have e1:=rep_int e1
  have e2:=rep_ax hy h
  rw [h2] at e2
  have e2:=rep_int e2
  refine good_data (v:= .int k (if isMax then (if n>m then n else m) else (if n<m then n else m))) h hd ?_ (.int _ _) hw
  cases isMax
  ·simp [execOp,ho,resolve,invoke,builtin,e1,e2,run_min_int2]
  ·simp [execOp,ho,resolve,invoke,builtin,e1,e2,run_max_int2]
 ·exact hw.elim
theorem g_mm3 {x y z:Operand} {ax ay az:AX} {ts:Array TypeId} (ho:o.op= .call {callee:= .builtin .max,args:= #[x,y,z],argTypes:=ts}) (hx:trX x=some ax) (hy:trX y=some ay) (hz:trX z=some az) :Good P o ((AI.mm3 ax ay az).pm C okr okw o.dst):=by
 intro Γ ρ bl st a w h hgz hd K hw Q
 simp only [AI.pm] at hw
 rw [ev_wp,ev_wp,ev_wp] at hw
 split at hw
 ·rename_i k m k' n k'' l h1 h2 h3
  have e1:=rep_ax hx h
  rw [h1] at e1
  have e1:=rep_int e1
  have e2:=rep_ax hy h
  rw [h2] at e2
  have e2:=rep_int e2
  have e3:=rep_ax hz h
  rw [h3] at e3
  have e3:=rep_int e3
  refine good_data h hd ?_ (.int _ _) hw
  simp [execOp,ho,resolve,invoke,builtin,e1,e2,e3,run_max_int3]
 ·exact hw.elim
end B
end Go.Proofs.YtmkkljbfmdngfaaGreatDoor
