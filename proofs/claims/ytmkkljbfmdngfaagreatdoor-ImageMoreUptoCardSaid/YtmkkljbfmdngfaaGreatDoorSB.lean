/- RowParts: what walks come to: printed by wip/B/gen. No condition. -/
import Derived.Test.YtmkkljbfmdngfaaGreatDoorSA
import Derived.Test.YtmkkljbfmdngfaaGreatDoorQG
set_option linter.all false
namespace Go.Proofs.YtmkkljbfmdngfaaGreatDoor
namespace B
set_option maxRecDepth 100000
end B
end Go.Proofs.YtmkkljbfmdngfaaGreatDoor
namespace Go.Proofs.YtmkkljbfmdngfaaGreatDoor
namespace B
open Go.RowKit
theorem parseR_fuel: ∀(f g n:Nat) (s:Bytes),s.length≤f→s.length≤g→parseR f n s=parseR g n s
 | f,g,n,[],_,_=>by cases f<;>cases g<;>rfl
 | 0,_,_,_ :: _,h,_=>by simp at h
 | _,0,_,_ :: _,_,h=>by simp at h
 | f+1,g+1,n,c :: s,hf,hg=>by
  rw [parseR,parseR]
  split
  ·rfl
  cases e:rowP (c :: s) with
  | error x=>rfl
  | ok q=>
   obtain ⟨x,r⟩:=q
   have hl:=rowP_len e
   rw [List.length_cons] at hl hf hg
   dsimp only
   rw [parseR_fuel f g (n+1) r (by omega) (by omega)]
def preR (out:List Row) :Except Int (List Row)→Except Int (List Row)
 | .ok l=> .ok (out++l)
 | .error e=> .error e
def resR:Except Int (List Row)→Int×List Row
 | .ok l=>(0,l)
 | .error e=>(e,[])
theorem parseR_ok {s:Bytes} {n:Nat} {x:Row} {r:Bytes} (hs:s≠[]) (hn:n<200) (h:rowP s= .ok (x,r)) :parseR s.length n s=preR [x] (parseR r.length (n+1) r):=by
 have hl:=rowP_len h
 cases s with
 | nil=>exact absurd rfl hs
 | cons c s=>
  rw [List.length_cons] at hl⊢
  rw [parseR,if_neg (by omega),h]
  dsimp only
  rw [parseR_fuel s.length r.length (n+1) r (by omega) (Nat.le_refl _)]
  cases parseR r.length (n+1) r<;>rfl
theorem parseR_er {s:Bytes} {n:Nat} {e:Int} (hs:s≠[]) (hn:n<200) (h:rowP s= .error e) :parseR s.length n s= .error e:=by
 cases s with
 | nil=>exact absurd rfl hs
 | cons c s=>rw [List.length_cons,parseR,if_neg (by omega),h]
theorem parseR_full {s:Bytes} (hs:s≠[]) :parseR s.length 200 s= .error 4:=by
 cases s with
 | nil=>exact absurd rfl hs
 | cons c s=>rw [List.length_cons,parseR,if_pos (by omega)]
theorem row_live (u:Bytes) :(∃x r,rowP u= .ok (x,r)∧(Wd.row ⟨u,0,0⟩) =(x,⟨r,0,0⟩))∨(rowP u= .error (Wd.row ⟨u,0,0⟩).2.fail∧(Wd.row ⟨u,0,0⟩).2.fail≠0):=by
 obtain ⟨h1,h2⟩:=row_step ⟨u,0,0⟩
 have hx:=h2 (.inl rfl)
 generalize Wd.row ⟨u,0,0⟩ =q at h1 hx
 obtain ⟨x,s',e',x'⟩:=q
 rcases h1.live rfl rfl with ⟨a0,r,q1,q2,q3,q4,q5⟩ | ⟨y,q1,q2⟩
 ·left
  simp only at q2 q3 q4
  have:x'=0:=by simpa [Wd.off] using q5
  subst this q2 q3 q4
  exact ⟨_,_,q1,rfl⟩
 ·right
  unfold Wd.fail
  simp only [Wd.off] at q2⊢
  rcases hx with rfl | rfl
  ·obtain ⟨rfl,q3⟩:=q2
   exact ⟨by rw [if_pos rfl];exact q1,by rw [if_pos rfl];exact q3⟩
  ·have q2:y=3:=q2
   subst q2
   exact ⟨by rw [if_neg (by decide)];exact q1,by rw [if_neg (by decide)];decide⟩
theorem z37 (s:Bytes) (hs:s.length≤1099511627776) :Runs P 37 [.d (.slice 1 (bs s))] [] (.tup [.d (.slice 11 ((resR (rowsB s)).2.map Row.d)), .d (iD (resR (rowsB s)).1)]) []:=by
 refine runs_walkZ zt37 (zvc37 _ _ _) rfl (by simp) ?_
 have h61:=(r61 s hs).swap 6 9
 have h64:=fun u=>(r64 u 0).swap 1000 9
 have h78:=fun (u:Bytes) (hu:u.length≤1099511627776)=>((z78 ⟨u,0,0⟩ hu).swap 1000 11).swap 1100 9
 have h79:=fun w=>((z79 w).swap 1000 11).swap 1100 9
 simp [CV.ren,CV.ren1,renB,swp] at h61 h64 h78 h79
 refine ⟨_,_,h61,fun o u e x k=>∃(out:List Row) (v:Bytes),o=out.map Row.d∧u=bs v∧e=0∧x=0∧k=v.length∧v.length≤s.length∧out.length≤200∧rowsB s=preR out (parseR v.length out.length v),
  ⟨rfl,_,[],s,rfl,rfl,rfl,rfl,rfl,Nat.le_refl _,by decide,by unfold rowsB;cases parseR s.length 0 s<;>rfl⟩, ?_⟩
 rintro _ _ _ _ _ ⟨out,v,rfl,rfl,rfl,rfl,rfl,hv,ho,he⟩
 refine ⟨_,_,_,h64 v,fun h=>⟨fun h2=> ?_,fun h2=> ?_⟩,fun h=> ?_⟩
 ·have h:=of_decide_eq_true h
  have h2:out.length=200:=by rw [nI_map] at h2;simp only [nI,beq_iff_eq] at h2;omega
  rw [h2,parseR_full (by rintro rfl;simp at h)] at he
  rw [he]
  exact endTO rfl
 ·have h:=of_decide_eq_true h
  have h2: ¬out.length=200:=fun q=>by rw [nI_map,q] at h2;simp [nI] at h2
  have hne:v≠[]:=by rintro rfl;simp at h
  have hr:=h78 v (by omega)
  refine ⟨_,_,_,_,_,_,_,_,_,_,_,_,_,_,hr,_,_,_,_,h79 _,fun hf=> ?_,fun hf=>⟨by rw [List.length_map];simp only [List.length_cons,List.length_nil];omega,rfl, ?_⟩⟩
  ·rcases row_live v with ⟨x,r,q1,q2⟩ | ⟨q1,q2⟩
   ·rw [q2] at hf;simp [Wd.fail] at hf
   ·rw [parseR_er hne (by omega) q1] at he
    rw [he]
    exact endTO rfl
  ·rcases row_live v with ⟨x,r,q1,q2⟩ | ⟨q1,q2⟩
   ·have hl:=rowP_len q1
    rw [parseR_ok hne (by omega) q1] at he
    rw [q2]
    refine ⟨r.length,hl,out++ [x],r,by rw [List.map_append];rfl,rfl,rfl,rfl,rfl,by omega,by simp;omega, ?_⟩
    rw [he,List.length_append]
    cases parseR r.length (out.length+1) r<;>simp [preR]
   ·exact absurd (by simpa using hf) q2
 ·have h:=of_decide_eq_false h
  have hv0:v= []:=by
   cases v with
   | nil=>rfl
   | cons _ _=>simp at h
  subst hv0
  have e0:parseR ([]:Bytes).length out.length []= .ok []:=rfl
  rw [e0] at he
  rw [he]
  exact endTO (by simp [preR,resR])
end B
end Go.Proofs.YtmkkljbfmdngfaaGreatDoor
namespace Go.Proofs.YtmkkljbfmdngfaaGreatDoor
namespace B
open Go.RowKit
theorem runB_app: ∀(l m:List Row) (b:Box),runB b (l++m) =if (runB b l).1=0 then runB (runB b l).2 m else ((runB b l).1,zeroB)
 | [],m,b=>by simp [runB]
 | r :: l,m,b=>by
  simp only [List.cons_append,runB]
  split
  ·exact runB_app l m _
  ·rename_i h;simp [h]
theorem allB_may {b:Box} {l:List Row} (h:(allB b l).1=0) :BoxMay (allB b l).2:=by
 unfold allB at h⊢
 split
 ·rename_i hb
  rw [if_pos hb] at h
  exact (runB_may (c:=(runB b l).2) (boxMay.1 hb) (Prod.ext h rfl)).1
 ·rename_i hb
  rw [if_neg hb] at h;simp at h
theorem boxOk_zero:BoxOk zeroB:=⟨by decide,by decide,by decide,by decide,fun m hm=>by cases hm⟩
theorem allB_ok {b:Box} {l:List Row}:BoxOk (allB b l).2:=by
 by_cases h:(allB b l).1=0
 ·exact (allB_may h).ok
 ·have:(allB b l).2=zeroB:=by
   have key: ∀(l:List Row) (b:Box),(runB b l).1≠0→(runB b l).2=zeroB:=by
    intro l
    induction l with
    | nil=>intro b h;exact absurd rfl h
    | cons r l ih=>
     intro b h
     simp only [runB] at h⊢
     split
     ·rename_i q;rw [if_pos q] at h;exact ih _ h
     ·rfl
   unfold allB at h⊢
   split
   ·rename_i hb;rw [if_pos hb] at h;exact key l b h
   ·rfl
  rw [this];exact boxOk_zero
end B
end Go.Proofs.YtmkkljbfmdngfaaGreatDoor
