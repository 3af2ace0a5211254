/- RowKeeps: abstract texts and what their walks come to: printed by wip/B/gen. No condition. -/
import Derived.Test.YtmkkljbfmdngfaaGreatDoorQG
set_option linter.all false
namespace Go.Proofs.YtmkkljbfmdngfaaGreatDoor
namespace B
set_option maxRecDepth 100000
end B
end Go.Proofs.YtmkkljbfmdngfaaGreatDoor

namespace Go.Proofs.YtmkkljbfmdngfaaGreatDoor
namespace B
open Go.RowKit

end B
end Go.Proofs.YtmkkljbfmdngfaaGreatDoor

namespace Go.Proofs.YtmkkljbfmdngfaaGreatDoor
namespace B
set_option maxRecDepth 100000
end B
end Go.Proofs.YtmkkljbfmdngfaaGreatDoor

namespace Go.Proofs.YtmkkljbfmdngfaaGreatDoor
namespace B
open Go.RowKit

def sameR (a b : Row) : Bool := (((a.kind == b.kind && a.uid == b.uid) && a.mod == b.mod) && a.text == b.text) && sameM a.msg b.msg
theorem sameR_iff {a b : Row} : sameR a b = true ↔ a = b := by
  cases a; cases b
  unfold sameR
  simp only [Bool.and_eq_true, beq_iff_eq, sameM_iff, Row.mk.injEq]
  constructor
  · rintro ⟨⟨⟨⟨rfl, rfl⟩, rfl⟩, rfl⟩, rfl⟩; simp
  · rintro ⟨rfl, rfl, rfl, rfl, rfl⟩; simp
def sameRs : List Row → List Row → Bool
  | [], [] => true
  | a :: r, b :: t => sameR a b && sameRs r t
  | _, _ => false
theorem sameRs_iff : ∀ {a b : List Row}, sameRs a b = true ↔ a = b
  | [], [] => by simp [sameRs]
  | a :: r, b :: t => by simp only [sameRs, Bool.and_eq_true, sameR_iff, sameRs_iff, List.cons.injEq]
  | [], _ :: _ => by simp [sameRs]
  | _ :: _, [] => by simp [sameRs]
end B
end Go.Proofs.YtmkkljbfmdngfaaGreatDoor
