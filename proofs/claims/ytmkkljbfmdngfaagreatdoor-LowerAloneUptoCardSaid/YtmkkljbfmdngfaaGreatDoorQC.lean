/- What a change does, over mailboxes whose words and messages are rows: contracts. Conditions: sizes. -/
import Derived.Test.YtmkkljbfmdngfaaGreatDoorQA
import Derived.Test.YtmkkljbfmdngfaaGreatDoorSo
import Derived.Shelf.Spec.SlicesGrow
import Derived.Shelf.Slices.In.SortNone
set_option linter.all false
namespace Go.Proofs.YtmkkljbfmdngfaaGreatDoor
namespace B
open Go.RowKit

def lks (bs : List (Nat × List CV)) : List (Nat × List CV) → Prop
  | [] => True
  | (b, cs) :: r => bs.lookup b = some cs ∧ lks bs r
theorem WcB_lks {bs : List (Nat × List CV)} : ∀ {l : List (Nat × List CV)}, lks bs l → WcB bs l
  | [], _ => trivial
  | (b, cs) :: r, h => ⟨by rw [h.1]; exact WcL_refl cs, WcB_lks h.2⟩
theorem endL {c res : CV} {bs objs' : List (Nat × List CV)} (h : c = res) (hl : lks bs objs') (hc : (⟨[res], objs'⟩ : St).clo = true) : EndR c res bs objs' := by
  subst h
  exact ⟨Wr_refl c, WcB_lks hl, hc⟩
def ws (b : Box) : List D := strs b.words
def ms (b : Box) : List D := b.msgs.map Msg.d
theorem add0 (i : Nat) : addO 0 (Int.toNat (i : Int)) = i := by simp [addO]
theorem addO_lt {i n : Nat} (h : i < n) : addO 0 (Int.toNat (i : Int)) < n := by rw [add0]; exact h

end B
end Go.Proofs.YtmkkljbfmdngfaaGreatDoor

namespace Go.Proofs.YtmkkljbfmdngfaaGreatDoor
namespace B
open Go.RowKit

structure RowOk (r : Row) : Prop where
  text : r.text.length ≤ 9223372036854775806
  keys : r.msg.keys.length ≤ 1099511627776
  id : r.msg.id.length ≤ 9223372036854775806
theorem RowOk.msg {r : Row} (h : RowOk r) : MsgOk r.msg := ⟨h.id, by have := h.keys; omega⟩
end B
end Go.Proofs.YtmkkljbfmdngfaaGreatDoor

namespace Go.Proofs.YtmkkljbfmdngfaaGreatDoor
namespace B
open Go.RowKit

structure BoxSz (b : Box) : Prop where
  nw : b.words.length ≤ 1099511627776
  nm : b.msgs.length ≤ 1099511627776
  keys : ∀ m ∈ b.msgs, m.keys.length ≤ 1099511627776
theorem MsgMay.ok {nw : Nat} {m : Msg} (h : MsgMay nw m) (hn : nw ≤ 64) : MsgOk m := ⟨by have := atom_len h.id; omega, by have := h.keyLen; omega⟩
theorem BoxMay.msgOk {b : Box} (h : BoxMay b) : ∀ m ∈ b.msgs, MsgOk m := fun m hm => ((msgsMay.1 h.msgs).all m hm).2.1.ok h.nw
theorem BoxMay.sz {b : Box} (h : BoxMay b) : BoxSz b := ⟨by have := h.nw; omega, by have := h.nm; omega, fun m hm => by
  have h1 := ((msgsMay.1 h.msgs).all m hm).2.1.keyLen
  have := h.nw; omega⟩
theorem rows_get (l : List Row) {i : Nat} (h : i < l.length) : (l.map Row.d).getD (Int.toNat (i : Int)) .nilp = l[i].d := getD_map _ l h
end B
end Go.Proofs.YtmkkljbfmdngfaaGreatDoor

namespace Go.Proofs.YtmkkljbfmdngfaaGreatDoor
namespace B
open Go.RowKit Go.Sort

def lenS (ls : List (List Bytes)) : Nat := (ls.map List.length).sum
def wordRow (w : Bytes) : Row := ⟨4, 0, 0, ⟨0, 0, 0, [], 0, [], []⟩, w⟩
end B
end Go.Proofs.YtmkkljbfmdngfaaGreatDoor

namespace Go.Proofs.YtmkkljbfmdngfaaGreatDoor
namespace B
open Go.RowKit Go.Sort

theorem endTO {z : Nat} {l m : List D} {n : Int} {bs : List (Nat × List CV)} (h : l = m) : EndR (.tup [.own z l, .d (iD n)]) (.tup [.d (.slice z m), .d (iD n)]) bs [] := by
  subst h; exact ⟨⟨rfl, rfl, trivial⟩, trivial, rfl⟩
def szR (r : Row) : Nat := r.text.length + r.msg.text.length + r.msg.keys.length + r.msg.id.length
theorem RowOk.of {r : Row} (h : szR r ≤ 1099511627776) : RowOk r := by
  unfold szR at h; exact ⟨by omega, by omega, by omega⟩
end B
end Go.Proofs.YtmkkljbfmdngfaaGreatDoor

namespace Go.Proofs.YtmkkljbfmdngfaaGreatDoor
namespace B
open Go.RowKit

theorem BoxMay.ok {b : Box} (h : BoxMay b) : BoxOk b := ⟨by have := h.id.2; omega, by have := h.nw; omega, by have := h.nm; omega, fun w hw => by
  have : ∀ (l pre : List Bytes), wordsB pre l = true → ∀ w ∈ l, atomB w = true := by
    intro l
    induction l with
    | nil => intro _ _ w hw; cases hw
    | cons x r ih =>
      intro pre hq w hw
      simp only [wordsB, Bool.and_eq_true] at hq
      rcases List.mem_cons.1 hw with rfl | hw
      · exact hq.1.1
      · exact ih _ hq.2 w hw
  have := (atom_len (this _ _ h.words w hw)).2; omega, h.msgOk⟩
structure RowIn (l : List Row) : Prop where
  n : l.length ≤ 1099511627776
  sz : ∀ r ∈ l, szR r ≤ 1099511627776
structure BoxIn (b : Box) : Prop where
  ok : BoxOk b
  sz : szBox b ≤ 1099511627776
end B
end Go.Proofs.YtmkkljbfmdngfaaGreatDoor
