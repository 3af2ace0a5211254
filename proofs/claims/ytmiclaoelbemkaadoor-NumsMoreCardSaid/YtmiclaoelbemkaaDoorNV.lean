/- The card of NumsMore. No condition. -/
import Derived.Test.YtmiclaoelbemkaaDoorNU
set_option linter.all false
namespace Go.Proofs.YtmiclaoelbemkaaDoor
open Go.ChangeShapes Go.WideShapes Go.ChangeAt Go.RowKit

/-- No parameter wants a stand-in; the program's own looks are off: what the card asks. -/
theorem plainMore (f : FuncId) (fn : Func) (hf : Tryd.pinned.checked.prog.funcNamed "mailsack/mailsacklaw4.NumsMore" = some f) (hfn : Tryd.pinned.checked.prog.funcs[f]? = some fn) :
    false = Tryd.pinned.checked.prog.looks [] ∧ ∀ (j : Nat) t, fn.params[j]? = some t → Tryd.pinned.checked.prog.wantsStandIn t = false := by
  obtain rfl : f = 5 := Option.some.inj ((show Tryd.prog.funcNamed "mailsack/mailsacklaw4.NumsMore" = some 5 by kernel_rfl).symm.trans hf) |>.symm
  obtain rfl : fn = Tryd.f5 := (Option.some.inj (Tryd.func5.symm.trans hfn)).symm
  refine ⟨by kernel_rfl, fun j t ht => ?_⟩
  rw [Tryd.params5] at ht
  have h1 : t = 22 ∨ t = 30 ∨ t = 3 := by
    match j, ht with
    | 0, h => left; simpa using h.symm
    | 1, h => right; left; simpa using h.symm
    | 2, h => right; right; simpa using h.symm
    | 3, h => right; right; simpa using h.symm
    | j + 4, h => simp at h
  rcases h1 with rfl | rfl | rfl
  · exact (show Tryd.prog.wantsStandIn 22 = false by kernel_rfl)
  · exact (show Tryd.prog.wantsStandIn 30 = false by kernel_rfl)
  · exact (show Tryd.prog.wantsStandIn 3 = false by kernel_rfl)

/-- THE CARD. -/
theorem numsMore_card : Rows.NumsMoreCardSaid :=
  Claim7.holds_tied_plain_at .later [] _ _ _ _ said (fun _ h => by cases h) (by kernel_rfl) (fun _ h => by cases h) numsMore_row_tie rfl ⟨rfl, rfl⟩ (by kernel_rfl) rfl plainMore (by kernel_rfl)
#print axioms numsMore_card
end Go.Proofs.YtmiclaoelbemkaaDoor
