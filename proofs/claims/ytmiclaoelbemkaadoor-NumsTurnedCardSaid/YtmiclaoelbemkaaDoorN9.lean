/- NumsMore, on data. No condition. -/
import Derived.Test.YtmiclaoelbemkaaDoorN8
set_option linter.all false
namespace Go.Proofs.YtmiclaoelbemkaaDoor
namespace B
open Go.RowKit

theorem has_more (l : List (Int × Int)) (x : Int × Int) (n most : Int) (h1 : mayS l = true) (h2 : mayS (l ++ [x]) = true) : hasS (l ++ [x]) n most = (hasS l n most || hasS [x] n most) := by
  have h3 : mayS [x] = true := by
    unfold mayS at h2 ⊢
    simp only [Bool.and_eq_true, Bool.not_eq_true', List.any_append, Bool.or_eq_false_iff] at h2
    simp [h2.2.2]
  unfold hasS
  rw [h1, h2, h3, List.any_append]
  cases decide (n < 1) <;> simp
theorem numsMore (l : List (Int × Int)) (x : Int × Int) (n most : Int) (hl : (l.length + 1) * 16 ≤ 140737488355328) :
    Runs P 5 [.d (.slice 2 (l.map sp)), .d (sp x), .d (.int .i64 n), .d (.int .i64 most)] [] (.d (.bool true)) [] := by
  refine runs_walkA t5 rfl (vc5 _ _ _ _ _ _ _) (by simp) ?_
  have em : l.map sp ++ [D.agg [.int .i64 x.1, .int .i64 x.2]] = (l ++ [x]).map sp := by simp [sp]
  refine ⟨by simp; omega, by simp; omega, mayS l, fun _ => r14 l (by omega), ?_⟩
  intro b6 hb6
  refine ⟨mayS (l ++ [x]), fun _ => by rw [em]; exact r14 _ (by simp; omega), ?_⟩
  intro b8 hb8
  refine ⟨fun _ => ⟨_, r10, endB rfl⟩, fun h => ?_⟩
  subst h
  have h1 : mayS l = true := by
    cases h : mayS l
    · rw [h] at hb6; simp at hb6; subst hb6; simp at hb8
    · rfl
  have h2 : mayS (l ++ [x]) = true := by
    cases h : mayS (l ++ [x])
    · rw [h] at hb8; simp at hb8
    · rfl
  refine ⟨_, by rw [em]; exact r13 _ _ _, _, r13 l _ _, hasS [x] n most, fun _ => r13 [x] n most, ?_⟩
  rintro _ rfl
  refine ⟨_, fun _ => r10, ?_⟩
  rintro _ rfl
  refine endB ?_
  rw [has_more l x n most h1 h2]; simp
end B
end Go.Proofs.YtmiclaoelbemkaaDoor
