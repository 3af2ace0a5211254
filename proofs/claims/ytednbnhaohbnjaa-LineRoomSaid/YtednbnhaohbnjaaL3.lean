/- The line's laws on data. No condition. -/
import Derived.Test.YtednbnhaohbnjaaL2
import Derived.Test.YtednbnhaohbnjaaB30
set_option linter.all false
namespace Go.Proofs.Ytednbnhaohbnjaa
namespace B
open Go.RowKit

theorem W64 {n : Int} (h : -9223372036854775808 ≤ n) (h' : n ≤ 9223372036854775807) : Go.IntKind.wrap .i64 n = n := by
  unfold Go.IntKind.wrap Go.IntKind.bits Go.IntKind.signed
  simp
  omega
theorem endB {c : Bool} {bs : List (Nat × List CV)} {b : Bool} (h : c = b) : EndR (.d (.bool c)) (.d (.bool b)) bs [] := end0 (by rw [h]) rfl
theorem endX {c : CV} {bs : List (Nat × List CV)} (h : (⟨[c], bs⟩ : St).clo = true) (hn : (bs.map (·.1)).Nodup) : EndR c c bs bs := by
  refine ⟨Wr_refl c, ?_, h⟩
  have key : ∀ (l m : List (Nat × List CV)), ((m ++ l).map (·.1)).Nodup → WcB (m ++ l) l := by
    intro l
    induction l with
    | nil => intro m _; trivial
    | cons x r ih =>
      intro m hm
      obtain ⟨b, cs⟩ := x
      refine ⟨?_, ?_⟩
      · have : (m ++ (b, cs) :: r).lookup b = some cs := by
          induction m with
          | nil => simp
          | cons y m ihm =>
            obtain ⟨k, v⟩ := y
            simp only [List.cons_append, List.map_cons, List.nodup_cons] at hm
            have hne : (b == k) = false := by
              simp only [beq_eq_false_iff_ne]
              rintro rfl
              exact hm.1 (by simp)
            simp only [List.cons_append, List.lookup, hne]
            exact ihm hm.2
        rw [this]; exact WcL_refl cs
      · have := ih (m ++ [(b, cs)]) (by simpa using hm)
        simpa using this
  exact key bs [] (by simpa using hn)

/-! nil -/
theorem r13n (n : Int) : Runs P 13 [.d .nilp, .d (.int .i64 n)] [] (.d (.bool false)) [] := by
  refine runs_walkA t13 rfl (vc13n _ _ _) (by simp) ?_
  exact ⟨fun _ => endB rfl, fun h => by cases h⟩
theorem r14n : Runs P 14 [.d .nilp] [] (.tup [.d (.int .i64 0), .d (.bool false)]) [] := by
  refine runs_walkA t14 rfl (vc14n _ _) (by simp) ?_
  exact ⟨fun _ => end0 rfl rfl, fun h => by cases h⟩
theorem r16n : Runs P 16 [.d .nilp] [] (.d (.int .i64 0)) [] := by
  refine runs_walkA t16 rfl (vc16n _ _) (by simp) ?_
  exact ⟨fun _ => end0 rfl rfl, fun h => by cases h⟩
theorem r17n : Runs P 17 [.d .nilp] [] (.d (.int .i64 0)) [] := by
  refine runs_walkA t17 rfl (vc17n _ _) (by simp) ?_
  exact ⟨fun _ => end0 rfl rfl, fun h => by cases h⟩
theorem r15n : Runs P 15 [.d .nilp] [] (.own 1 []) [] := by
  refine runs_walkA t15 rfl (vc15n _ _) (by simp) ?_
  refine ⟨fun l k => l = [] ∧ k = 0, ⟨0, rfl, rfl⟩, ?_⟩
  rintro _ _ ⟨rfl, rfl⟩
  exact ⟨_, _, r14n, fun _ => end0 rfl rfl, fun h => by cases h⟩

/-! All -/
theorem r15a (cap : Nat) (ns : List Int) (hn : ns.length ≤ 1000) : Runs P 15 [.ptr 1000 0] [(1000, [.line cap (ns.map (.int .i64))])] (.own 1 (ns.map (.int .i64))) [(1000, [.line cap []])] := by
  refine runs_walkA t15 rfl (vc15 _ _ _ _) (by simp) ?_
  refine ⟨fun out c l k => c = cap ∧ ∃ a, a ≤ ns.length ∧ out = (ns.take a).map (.int .i64) ∧ l = (ns.drop a).map (.int .i64) ∧ k = ns.length - a, ⟨_, rfl, 0, by simp, by simp, by simp, rfl⟩, ?_⟩
  rintro _ _ _ _ ⟨rfl, a, ha, rfl, rfl, rfl⟩
  by_cases h : a < ns.length
  · rw [List.drop_eq_getElem_cons h, List.map_cons]
    refine ⟨_, _, _, _, r14_some _ _ _ _, (fun h => by cases h), fun _ => ⟨?_, ns.length - (a + 1), by omega, rfl, a + 1, by omega, ?_, rfl, rfl⟩⟩
    · simp only [List.length_map, List.length_take, List.length_cons, List.length_nil]; omega
    · rw [List.take_succ_eq_append_getElem h, List.map_append]; rfl
  · obtain rfl : a = ns.length := by omega
    rw [List.drop_length, List.take_length, List.map_nil]
    exact ⟨_, _, _, _, r14_none _ _, fun _ => endX rfl (by simp), fun h => by cases h⟩
theorem r15 (b cap : Nat) (ns : List Int) (hn : ns.length ≤ 1000) : Runs P 15 [.ptr b 0] [(b, [.line cap (ns.map (.int .i64))])] (.own 1 (ns.map (.int .i64))) [(b, [.line cap []])] := by
  have := (r15a cap ns hn).swap 1000 b
  simpa [CV.ren, CV.ren1, renB, swp] using this

/-! awake -/
theorem r7 : Runs P 7 [] [] (.d (.bool true)) [] := by
  refine runs_walkA t7 rfl (vc7 _ _) (by simp) ?_
  refine ⟨_, _, r8 _ 2 2 (by decide), _, _, _, r9 _ _ _ _, _, _, _, r9 _ _ _ _, _, _, _, r9 _ _ _ _, _, _, _, _, r11_some _ _ _ _, ?_⟩
  rintro _ rfl _ rfl _ rfl _ rfl
  refine ⟨_, fun _ => r10 _ _ _, ?_⟩
  rintro _ rfl
  refine ⟨_, fun _ => r18 _ _ _ (by decide) (by decide), ?_⟩
  rintro _ rfl
  exact endB (by decide)

theorem lineNil (n : Int) : Runs P 5 [.d (.int .i64 n)] [] (.d (.bool true)) [] := by
  refine runs_walkA t5 rfl (vc5 _ _ _) (by simp) ?_
  refine ⟨_, _, r14n, _, r13n _, ?_⟩
  rintro _ rfl _ rfl
  refine ⟨_, fun _ => r16n, ?_⟩
  rintro _ rfl
  refine ⟨_, fun _ => r17n, ?_⟩
  rintro _ rfl
  refine ⟨_, fun _ => r15n, ?_⟩
  rintro _ rfl
  refine ⟨_, fun _ => r7, ?_⟩
  rintro _ rfl
  exact endB (by decide)
end B
end Go.Proofs.Ytednbnhaohbnjaa
