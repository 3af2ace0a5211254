/- The cards of Numbers: what the arguments are. No condition. -/
import Derived.Test.YtmiclaoelbemkaaDoorN9
import Derived.Test.YtmiclaoelbemkaaDoorB31
set_option linter.all false
namespace Go.Proofs.YtmiclaoelbemkaaDoor
namespace B
open Go.RowKit

theorem cells30 : P.cellsOf 30 = 2 := by kernel_rfl
set_option maxRecDepth 100000 in
theorem span_of {n : Nat} {x : D} (h : TyV P (n + 2) 30 x) : ∃ p : Int × Int, x = sp p := by
  obtain ⟨parts, rfl, hl, hp⟩ := ty_struct Tryd.underlying30 h
  have hl : parts.length = 2 := hl
  match parts, hl with
  | [a, b], _ =>
    have ha := hp 0 _ a rfl rfl
    have hb := hp 1 _ b rfl rfl
    unfold Ty at ha hb
    rw [show P.underlying 3 = _ from Tryd.underlying3] at ha hb
    obtain ⟨y, rfl, _⟩ := ha
    obtain ⟨z, rfl, _⟩ := hb
    exact ⟨(y, z), rfl⟩
theorem spans_of {n : Nat} {x : D} (h : TyV P (n + 3) 22 x) : ∃ l : List (Int × Int), x = .slice 2 (l.map sp) := by
  obtain ⟨l, rfl, _, hl⟩ := ty_slice Tryd.underlying22 h
  obtain ⟨ps, rfl⟩ := ty_list (f := sp) (fun y hy => span_of (hl y hy))
  exact ⟨ps, by rw [cells30]⟩
end B
end Go.Proofs.YtmiclaoelbemkaaDoor
