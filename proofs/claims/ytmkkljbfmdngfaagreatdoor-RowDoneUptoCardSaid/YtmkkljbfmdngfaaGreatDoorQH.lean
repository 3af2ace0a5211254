/- RowKeeps: abstract texts and what their walks come to: printed by wip/B/gen. No condition. -/
import Derived.Test.YtmkkljbfmdngfaaGreatDoorQG
set_option linter.all false
namespace Go.Proofs.YtmkkljbfmdngfaaGreatDoor
namespace B
set_option maxRecDepth 100000
end B
end Go.Proofs.YtmkkljbfmdngfaaGreatDoor

namespace Go.Proofs.YtmkkljbfmdngfaaGreatDoor
namespace B
open Go.RowKit

end B
end Go.Proofs.YtmkkljbfmdngfaaGreatDoor

namespace Go.Proofs.YtmkkljbfmdngfaaGreatDoor
namespace B
set_option maxRecDepth 100000
end B
end Go.Proofs.YtmkkljbfmdngfaaGreatDoor

namespace Go.Proofs.YtmkkljbfmdngfaaGreatDoor
namespace B
open Go.RowKit

def sameR (a b : Row) : Bool := (((a.kind == b.kind && a.uid == b.uid) && a.mod == b.mod) && a.text == b.text) && sameM a.msg b.msg
theorem sameR_iff {a b : Row} : sameR a b = true ↔ a = b := by
  cases a; cases b
  unfold sameR
  simp only [Bool.and_eq_true, beq_iff_eq, sameM_iff, Row.mk.injEq]
  constructor
  · rintro ⟨⟨⟨⟨rfl, rfl⟩, rfl⟩, rfl⟩, rfl⟩; simp
  · rintro ⟨rfl, rfl, rfl, rfl, rfl⟩; simp
def sameRs : List Row → List Row → Bool
  | [], [] => true
  | a :: r, b :: t => sameR a b && sameRs r t
  | _, _ => false
theorem sameRs_iff : ∀ {a b : List Row}, sameRs a b = true ↔ a = b
  | [], [] => by simp [sameRs]
  | a :: r, b :: t => by simp only [sameRs, Bool.and_eq_true, sameR_iff, sameRs_iff, List.cons.injEq]
  | [], _ :: _ => by simp [sameRs]
  | _ :: _, [] => by simp [sameRs]
def szL (l : List Bytes) : Nat := (l.map List.length).sum
theorem r39 (l : List Bytes) (hl : l.length ≤ 1099511627776) (hs : szL l ≤ 1099511627776) : Runs P 34 [.d (.slice 1 (strs l))] [] (.d (iD (if 2000 < l.length + szL l then ((l.length + szL l : Nat) : Int) else 0))) [] := by
  refine runs_walkZ t39 (vc39 _ _ _) rfl (by simp) ?_
  rw [strs_len]
  refine range2 (fun i x => x = ((l.length + szL (l.take i) : Nat) : Int)) (by omega) (by simp [szL, nI]) (fun i hi bd x hJ I k next => ⟨bd, l[i], by rw [strs_get l hi]; rfl, ?_⟩) fun x hJ => ?_
  · subst hJ
    have e : szL (l.take (i + 1)) = szL (l.take i) + l[i].length := by
      unfold szL
      rw [List.take_succ_eq_append_getElem hi, List.map_append, List.sum_append]
      simp
    have hle : szL (l.take (i + 1)) ≤ szL l := by
      unfold szL
      conv => rhs; rw [← List.take_append_drop (i + 1) l]
      rw [List.map_append, List.sum_append]
      exact Nat.le_add_right _ _
    rintro _ rfl
    refine next _ ?_
    rw [W64 (by simp only [nI]; omega) (by simp only [nI]; omega), e]
    simp only [nI]; omega
  · subst hJ
    rw [List.take_length]
    refine ⟨fun h => endI ?_, fun h => endI ?_⟩
    · have h := of_decide_eq_true h
      rw [if_pos (by omega)]
    · have h := of_decide_eq_false h
      rw [if_neg (by omega)]
end B
end Go.Proofs.YtmkkljbfmdngfaaGreatDoor
