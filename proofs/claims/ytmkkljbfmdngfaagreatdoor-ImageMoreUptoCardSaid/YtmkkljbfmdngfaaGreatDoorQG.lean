/- Flags and what it calls: abstract texts and what their walks come to: printed by wip/B/gen. No condition. -/
import Derived.Test.YtmkkljbfmdngfaaGreatDoorQF
set_option linter.all false
namespace Go.Proofs.YtmkkljbfmdngfaaGreatDoor
namespace B
set_option maxRecDepth 100000
end B
end Go.Proofs.YtmkkljbfmdngfaaGreatDoor
namespace Go.Proofs.YtmkkljbfmdngfaaGreatDoor
namespace B
open Go.RowKit Go.Sort
end B
end Go.Proofs.YtmkkljbfmdngfaaGreatDoor
namespace Go.Proofs.YtmkkljbfmdngfaaGreatDoor
namespace B
open Go.RowKit Go.Sort
def wordAt (ws:List Bytes) (k:Int) :Option Bytes:=if 0≤k∧k<ws.length then ws[k.toNat]? else none
def wordsOf (ws:List Bytes) (ks:List Int) :List Bytes:=ks.filterMap (wordAt ws)
def flagRow (uid mod fl:Int) (keys:List Int) :Row:=⟨2,uid,mod,⟨0,0,0,[],fl,keys,[]⟩,[]⟩
theorem MsgMay.key {nw:Nat} {m:Msg} (h:MsgMay nw m) : ∀k∈m.keys,0≤k∧k<nw:=fun k hk=>by
 have:=(keys_all h.keys).1 k hk
 omega
end B
end Go.Proofs.YtmkkljbfmdngfaaGreatDoor
namespace Go.Proofs.YtmkkljbfmdngfaaGreatDoor
namespace B
open Go.RowKit
theorem rise_eq: ∀{a b:List Int},a.Pairwise (· < ·)→b.Pairwise (· < ·)→(∀x,x∈a↔x∈b)→a=b
 | [],[],_,_,_=>rfl
 | [],y :: t,_,_,h=>absurd ((h y).2 (by simp)) (by simp)
 | x :: r,[],_,_,h=>absurd ((h x).1 (by simp)) (by simp)
 | x :: r,y :: t,ha,hb,h=>by
  rw [List.pairwise_cons] at ha hb
  have hxy:x=y:=by
   rcases List.mem_cons.1 ((h x).1 (by simp)) with e | e
   ·exact e
   ·rcases List.mem_cons.1 ((h y).2 (by simp)) with e' | e'
    ·exact e'.symm
    ·have h1:=ha.1 _ e'
     have h2:=hb.1 _ e
     omega
  subst hxy
  congr 1
  refine rise_eq ha.2 hb.2 fun z=>⟨fun hz=> ?_,fun hz=> ?_⟩
  ·rcases List.mem_cons.1 ((h z).1 (by simp [hz])) with e | e
   ·subst e;have:=ha.1 _ hz;omega
   ·exact e
  ·rcases List.mem_cons.1 ((h z).2 (by simp [hz])) with e | e
   ·subst e;have:=hb.1 _ hz;omega
   ·exact e
theorem keysB_iff {n:Int}: ∀{l:List Int} {was:Int},keysB n was l=true↔l.Pairwise (· < ·)∧∀k∈l,was<k∧k<n
 | [],was=>by simp [keysB]
 | k :: r,was=>by
  simp only [keysB,Bool.and_eq_true,decide_eq_true_eq,keysB_iff (l:=r),List.pairwise_cons]
  constructor
  ·rintro ⟨⟨h1,h2⟩,h3,h4⟩
   refine ⟨⟨fun x hx=>(h4 x hx).1,h3⟩,fun x hx=> ?_⟩
   rcases List.mem_cons.1 hx with rfl | hx
   ·exact ⟨h1,h2⟩
   ·have:=h4 x hx;omega
  ·rintro ⟨⟨h1,h2⟩,h3⟩
   exact ⟨h3 k (by simp),h2,fun x hx=>⟨h1 x hx,(h3 x (by simp [hx])).2⟩⟩
theorem wordsB_iff: ∀{l pre:List Bytes},wordsB pre l=true↔(∀w∈l,atomB w=true∧w∉pre)∧l.Nodup
 | [],pre=>by simp [wordsB]
 | u :: r,pre=>by
  simp only [wordsB,Bool.and_eq_true]
  rw [wordsB_iff (l:=r)]
  simp only [List.nodup_cons,List.mem_cons,List.mem_append]
  constructor
  ·rintro ⟨⟨h1,h2⟩,h3,h4⟩
   refine ⟨?_,fun hu=> ?_,h4⟩
   ·rintro v (rfl | hv)
    ·exact ⟨h1,by simpa using h2⟩
    ·exact ⟨(h3 v hv).1,fun hh=>(h3 v hv).2 (.inl hh)⟩
   ·exact (h3 u hu).2 (.inr (.inl rfl))
  ·rintro ⟨h1,h2,h3⟩
   refine ⟨⟨(h1 u (.inl rfl)).1,by simpa using (h1 u (.inl rfl)).2⟩,fun v hv=>⟨(h1 v (.inr hv)).1, ?_⟩,h3⟩
   rintro (hh | hh | hh)
   ·exact (h1 v (.inr hv)).2 hh
   ·subst hh;exact h2 hv
   ·cases hh
theorem runB_may: ∀{l:List Row} {b c:Box},BoxMay b→runB b l=(0,c)→BoxMay c∧Rose b c
 | [],b,c,hb,h=>by
  simp only [runB,Prod.mk.injEq,true_and] at h
  subst h
  exact ⟨hb,rfl,rfl,Int.le_refl _,Int.le_refl _,[],by simp⟩
 | r :: l,b,c,hb,h=>by
  rw [runB] at h
  split at h
  ·rename_i h0
   obtain ⟨k1,k2⟩:=applyB_may hb (c:=(applyB b r).2) (Prod.ext h0 rfl)
   obtain ⟨q1,q2⟩:=runB_may k1 h
   obtain ⟨w1,e1⟩:=k2.words
   obtain ⟨w2,e2⟩:=q2.words
   exact ⟨q1,q2.id.trans k2.id,q2.valid.trans k2.valid,Int.le_trans k2.next q2.next,Int.le_trans k2.high q2.high,w1++w2,by rw [e2,e1,List.append_assoc]⟩
  ·rename_i h0
   have:=congrArg Prod.fst h
   exact absurd this h0
theorem run_words: ∀(fr:List Bytes) (b:Box) (t:List Row),wordsB b.words fr=true→b.words.length+fr.length≤64→runB b (fr.map wordRow++t) =runB {b with words:=b.words++fr} t
 | [],b,t,_,_=>by simp
 | w :: r,b,t,h,hl=>by
  simp only [wordsB,Bool.and_eq_true] at h
  simp only [List.length_cons] at hl
  have h1:applyB b (wordRow w) =(0,{b with words:=b.words++ [w]}):=by
   show wordB b w=_
   unfold wordB
   rw [if_neg (by rw [h.1.1];decide),if_neg (by have:=h.1.2;simpa using this),if_neg (by omega)]
  rw [List.map_cons,List.cons_append,runB,h1,if_pos rfl]
  rw [run_words r {b with words:=b.words++ [w]} t h.2 (by simp;omega)]
  simp [List.append_assoc]
structure Kept (b c:Box) (i:Nat) (ks:List Int) (fl:Int) :Prop where
 may:BoxMay c
 len:c.msgs.length=b.msgs.length
 other: ∀j,j≠i→c.msgs[j]? =b.msgs[j]?
 words:wordsOf c.words ks=wordsOf b.words ks
theorem findM_set {l:List Msg} {uid:Int} {i:Nat} (h:findM l uid=some i) (hi:i<l.length) {m:Msg} (hm:m.uid=l[i].uid) :findM (l.set i m) uid=some i:=by
 unfold findM at h⊢
 rw [List.findIdx?_eq_some_iff_getElem] at h⊢
 obtain ⟨h1,h2,h3⟩:=h
 refine ⟨by simpa using hi,by simpa [hm] using h2,fun j hj=> ?_⟩
 have:=h3 j hj
 simp only [List.getElem_set]
 split
 ·omega
 ·exact this
end B
end Go.Proofs.YtmkkljbfmdngfaaGreatDoor
