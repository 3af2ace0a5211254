/- Boxes that hold a channel; a result. No condition. -/
import Derived.Test.YtmkkljbfmdngfaaGreatDoorB28
import Derived.Conc.LoneCalls
set_option linter.all false
namespace Go.Proofs.YtmkkljbfmdngfaaGreatDoor
namespace B
open Go.RowKit
variable {P:Program} {Γ:Froz} {ρ:Nat→Role} {bl:Nat→Nat} {w w':World}
theorem SR.result {args:List CV} {objs:List (Nat×List CV)} {vals:Array Value} {res:CV} {v:Value} (h:SR Γ ρ bl ⟨args,objs⟩ vals w) (hr:RepC Γ ρ bl w (.s 0) res v) (hm: ∀b,res.ment b→(objs.lookup b).isSome=true) :SR Γ ρ bl ⟨[res],objs⟩ #[v] w:=by
 refine ⟨h.agree,rfl,fun i c hc=> ?_,h.boxes,h.rows,h.rowk,fun p b hb=> ?_,h.rho,h.gl,h.bty⟩
 ·cases i with
  | zero=>simp at hc;subst hc;exact ⟨v,rfl,hr⟩
  | succ i=>simp at hc
 ·cases p with
  | s n=>
   cases n with
   | zero=>exact hm b hb
   | succ n=>exact hb.elim
  | b n=>exact h.closed (.b n) b hb
theorem SR.line {st:St} {tmps:Array Value} (h:SR Γ ρ bl st tmps w) {b cap:Nat} {l:List D} (hb:st.bx b=some [.line cap l]) : ∃g buf s r e,w.heap[bl b]? =some (.cells #[.chan (some g)] e (0,0))∧w.cell? ⟨bl b,0,none⟩ =some (.chan (some g))∧
  w.heap[g]? =some (.chan cap buf false s r false)∧ρ g= .own (.b b) 0∧(∀o,Γ ⟨g,o,none⟩ =none)∧buf.size=l.length∧∀(k:Nat) d u,l[k]? =some d→buf[k]? =some u→Rep Γ d u:=by
 obtain ⟨arr,e,h1,h2,h3,h4⟩:=h.boxes b _ hb rfl
 obtain ⟨arr⟩:=arr
 obtain ⟨k1,k2⟩:=h3
 match arr,k1,k2 with
 | [v],_,k2=>
  obtain ⟨g,buf,s,r,rfl,j2,j3,j4,j5,j6⟩:=k2 0 _ v rfl rfl
  exact ⟨g,buf,s,r,e,h1,by simp [World.cell?,h1],j2,j3,j4,j5,j6⟩
end B
end Go.Proofs.YtmkkljbfmdngfaaGreatDoor
