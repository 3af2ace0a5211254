/- Numbers that every program must know. No condition. -/
import Derived.Test.YtmiclaoelbemkaaDoorN7
set_option linter.all false
namespace Go.Proofs.YtmiclaoelbemkaaDoor
namespace B
open Go.RowKit

theorem Runs.toD {f z : Nat} {args : List CV} {objs objs' : List (Nat × List CV)} {l : List D} (h : Runs P f args objs (.own z l) objs') : Runs P f args objs (.d (.slice z l)) objs' := by
  refine ⟨h.1, fun Γ ρ bl vals w hs hz => (h.2 Γ ρ bl vals w hs hz).mono ?_⟩
  rintro e w' ⟨v, Γ', ρ', bl', rfl, hs', hf, hb⟩
  obtain ⟨u, hu, hr⟩ := hs'.slots 0 _ rfl
  obtain rfl : u = v := by simpa using hu.symm
  exact ⟨_, _, _, _, rfl, hs'.result (res := .d (.slice z l)) (Own.rep hr) (fun b hb => hb.elim), hf, hb⟩
theorem r22' (s t a b : Bytes) (f : Bool) (hs : s.length < 4294967281) (h : Lib.cut s t = (a, b, f)) : Runs P 22 [.d (.str s), .d (.str t)] [] (.tup [.d (.str a), .d (.str b), .d (.bool f)]) [] := by
  have := r22 s t hs
  rw [h] at this; exact this
theorem pieces3 : pieces [44] [53, 58, 51, 44, 57, 44, 42] = [[53, 58, 51], [57], [42]] := by decide +kernel
theorem cut1 : Lib.cut [53, 58, 51] [58] = ([53], [51], true) := by decide +kernel
theorem cut2 : Lib.cut [57] [58] = ([57], [], false) := by decide +kernel
theorem cut3 : Lib.cut [42] [58] = ([42], [], false) := by decide +kernel
abbrev three : List (Int × Int) := [(5, 3), (9, 9), (0, 0)]
theorem r11three : Runs P 11 [.d (.str [53, 58, 51, 44, 57, 44, 42])] [] (.tup [.d (.slice 2 (three.map sp)), .d (.bool true)]) [] := by
  refine runs_walkA t11 rfl (vc11 _ _ _) (by simp) ?_
  have h21 := Runs.toD (r21 [53, 58, 51, 44, 57, 44, 42] [44] (by decide) (by decide))
  rw [pieces3] at h21
  have d5 := r23one 53 (by decide) (by decide)
  have d3 := r23one 51 (by decide) (by decide)
  have d9 := r23one 57 (by decide) (by decide)
  refine ⟨_, h21, ?_⟩
  refine ⟨fun out i k => (i = 0 ∧ out = [] ∧ k = 3) ∨ (i = 1 ∧ out = [sp (5, 3)] ∧ k = 2) ∨ (i = 2 ∧ out = [sp (5, 3), sp (9, 9)] ∧ k = 1) ∨ (i = 3 ∧ out = three.map sp ∧ k = 0), ⟨3, .inl ⟨rfl, rfl, rfl⟩⟩, ?_⟩
  rintro out i k (⟨rfl, rfl, rfl⟩ | ⟨rfl, rfl, rfl⟩ | ⟨rfl, rfl, rfl⟩ | ⟨rfl, rfl, rfl⟩)
  · refine ⟨fun _ => ⟨by simp [nI], [53, 58, 51], rfl, _, _, _, r22' _ _ _ _ _ (by decide) cut1, (fun h => by cases h), fun _ => ⟨_, _, d5, _, _, d3, ?_⟩⟩, fun h => by simp [nI] at h⟩
    rintro _ rfl
    refine ⟨(fun h => by cases h), fun _ => ⟨by decide, ?_⟩⟩
    rintro _ rfl
    exact ⟨2, by omega, .inr (.inl ⟨by decide, rfl, rfl⟩)⟩
  · refine ⟨fun _ => ⟨by simp [nI], [57], rfl, _, _, _, r22' _ _ _ _ _ (by decide) cut2, (fun _ => ⟨_, _, d9, _, _, d9, ?_⟩), fun h => by cases h⟩, fun h => by simp [nI] at h⟩
    rintro _ rfl
    refine ⟨(fun h => by cases h), fun _ => ⟨by decide, ?_⟩⟩
    rintro _ rfl
    exact ⟨1, by omega, .inr (.inr (.inl ⟨by decide, rfl, rfl⟩))⟩
  · refine ⟨fun _ => ⟨by simp [nI], [42], rfl, _, _, _, r22' _ _ _ _ _ (by decide) cut3, (fun _ => ⟨_, _, r23star, _, _, r23star, ?_⟩), fun h => by cases h⟩, fun h => by simp [nI] at h⟩
    rintro _ rfl
    refine ⟨(fun h => by cases h), fun _ => ⟨by decide, ?_⟩⟩
    rintro _ rfl
    exact ⟨0, by omega, .inr (.inr (.inr ⟨by decide, rfl, rfl⟩))⟩
  · refine ⟨fun h => by simp [nI] at h, fun _ => ⟨_, r8 three, (fun h => by cases h), fun _ => ⟨⟨rfl, rfl, trivial⟩, trivial, rfl⟩⟩⟩
theorem r9three : Runs P 9 [.d (.slice 2 (three.map sp))] [] (.d (.str [53, 58, 51, 44, 57, 44, 42])) [] := by
  have := r9 three (by decide) (by decide +kernel)
  have e : joinB [44] (three.map partB) = [53, 58, 51, 44, 57, 44, 42] := by decide +kernel
  rw [e] at this; exact this
/-- awake. -/
theorem r10 : Runs P 10 [] [] (.d (.bool true)) [] := by
  refine runs_walkA t10 rfl (vc10 _ _) (by simp) ?_
  refine ⟨_, _, r11three, ?_⟩
  rintro _ rfl
  refine ⟨_, fun _ => r13 three 4 12, ?_⟩
  rintro _ rfl
  refine ⟨_, fun _ => r13 three 12 12, ?_⟩
  rintro _ rfl
  refine ⟨_, fun _ => r13 three 10 12, ?_⟩
  rintro _ rfl
  refine ⟨_, fun _ => r9three, ?_⟩
  rintro _ rfl
  exact endB (by decide)
end B
end Go.Proofs.YtmiclaoelbemkaaDoor
