/- Grow, Concat; words that a mailbox has not, rows of them: contracts. Conditions: sizes. -/
import Derived.Test.YtmkkljbfmdngfaaGreatDoorQC
import Derived.Test.YtmkkljbfmdngfaaGreatDoorQB
import Derived.Test.YtmkkljbfmdngfaaGreatDoorSo
import Derived.Shelf.Spec.SlicesGrow
import Derived.Shelf.Slices.In.SortNone
set_option linter.all false
namespace Go.Proofs.YtmkkljbfmdngfaaGreatDoor
namespace B
open Go.RowKit Go.Sort
def lenS (ls:List (List Bytes)) :Nat:=(ls.map List.length).sum
def wordRow (w:Bytes) :Row:=⟨4,0,0,⟨0,0,0,[],0,[],[]⟩,w⟩
end B
end Go.Proofs.YtmkkljbfmdngfaaGreatDoor
namespace Go.Proofs.YtmkkljbfmdngfaaGreatDoor
namespace B
open Go.RowKit Go.Sort
theorem endTO {z:Nat} {l m:List D} {n:Int} {bs:List (Nat×List CV)} (h:l=m) :EndR (.tup [.own z l, .d (iD n)]) (.tup [.d (.slice z m), .d (iD n)]) bs []:=by
 subst h;exact ⟨⟨rfl,rfl,trivial⟩,trivial,rfl⟩
def szR (r:Row) :Nat:=r.text.length+r.msg.text.length+r.msg.keys.length+r.msg.id.length
theorem RowOk.of {r:Row} (h:szR r≤1099511627776) :RowOk r:=by
 unfold szR at h;exact ⟨by omega,by omega,by omega⟩
end B
end Go.Proofs.YtmkkljbfmdngfaaGreatDoor
namespace Go.Proofs.YtmkkljbfmdngfaaGreatDoor
namespace B
open Go.RowKit
theorem BoxMay.ok {b:Box} (h:BoxMay b) :BoxOk b:=⟨by have:=h.id.2;omega,by have:=h.nw;omega,by have:=h.nm;omega,fun w hw=>by
 have: ∀(l pre:List Bytes),wordsB pre l=true→∀w∈l,atomB w=true:=by
  intro l
  induction l with
  | nil=>intro _ _ w hw;cases hw
  | cons x r ih=>
   intro pre hq w hw
   simp only [wordsB,Bool.and_eq_true] at hq
   rcases List.mem_cons.1 hw with rfl | hw
   ·exact hq.1.1
   ·exact ih _ hq.2 w hw
 have:=(atom_len (this _ _ h.words w hw)).2;omega,h.msgOk⟩
structure RowIn (l:List Row) :Prop where
 n:l.length≤1099511627776
 sz: ∀r∈l,szR r≤1099511627776
structure BoxIn (b:Box) :Prop where
 ok:BoxOk b
 sz:szBox b≤1099511627776
end B
end Go.Proofs.YtmkkljbfmdngfaaGreatDoor
