/- What a slice that comes in weighs. No condition. -/
import Derived.Test.YtmkkljbfmdngfaaDoorB33
import Derived.Lib.LaidTab
set_option linter.all false
namespace Go.Proofs.YtmkkljbfmdngfaaDoor
namespace B
open Go.RowKit
variable {P : Program} {H : Type} {enc : TypeId × Value → H} {w : World} {Γ : Froz}

theorem mapM_len {α β : Type} {f : α → Option β} : ∀ {l : List α} {r : List β}, l.mapM f = some r → r.length = l.length := fun h => Lib.mapM_length h
theorem slice_weight {t e : TypeId} (ht : P.underlying t = some (.slice e)) {v : Value} {z : Nat} {l : List D} {fuel base : Nat} {sp : Nat → Bool} {held : Bool} {d : DataW H} {p : List MemPlace}
    (h : DataW.trod enc P w base sp held fuel t v.cells.toList = some (d, p)) (hr : Rep Γ (.slice z l) v) (hw : (d.weights P t).all (· ≤ reachBytes) = true) : l.length * P.bytesOf e ≤ reachBytes := by
  cases hr with
  | nil => simp
  | nil0 => simp
  | slice _ _ a c vals hs hc hz hf hv hr =>
    cases fuel with
    | zero => simp [DataW.trod] at h
    | succ fuel =>
      have hc : (Value.slice (some a) l.length c).cells.toList = [.slice (some a) l.length c] := rfl
      rw [hc] at h
      simp only [DataW.trod, ht] at h
      split at h
      · obtain ⟨elems, he, h⟩ := Option.bind_eq_some_iff.1 h
        obtain ⟨rest, hrest, h⟩ := Option.map_eq_some_iff.1 h
        have hd := congrArg Prod.fst h
        simp only at hd
        subst hd
        have hl := mapM_len he
        simp only [List.length_range] at hl
        unfold DataW.weights at hw
        rw [ht] at hw
        simp only [List.all_cons, Bool.and_eq_true, decide_eq_true_eq, List.length_map] at hw
        have := hw.1
        rw [hl] at this
        exact Nat.le_trans (Nat.mul_le_mul_right _ (Nat.le_add_right _ _)) this
      · cases h
end B
end Go.Proofs.YtmkkljbfmdngfaaDoor
