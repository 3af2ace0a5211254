/- Numbers told and read, on data. No condition. -/
import Derived.Test.YtmiclaoelbemkaaDoorN6
set_option linter.all false
namespace Go.Proofs.YtmiclaoelbemkaaDoor
namespace B
open Go.RowKit

/-- A number as a text. -/
def textB (n : Int) : Bytes := if n = 0 then [42] else Lib.itoa n
theorem r19 (n : Int) (h0 : -9223372036854775808 ≤ n) (h1 : n ≤ 9223372036854775807) : Runs P 19 [.d (.int .i64 n)] [] (.d (.str (textB n))) [] := by
  refine runs_walkA t19 rfl (vc19 _ _ _) (by simp) ?_
  refine ⟨fun h => end0 (by unfold textB; rw [if_pos (by simpa using h)]) rfl, fun h => ⟨_, r28 n h0 h1, end0 (by unfold textB; rw [if_neg (by simpa using h)]) rfl⟩⟩
def partB (p : Int × Int) : Bytes := if p.2 = p.1 then textB p.1 else textB p.1 ++ ([58] ++ textB p.2)
theorem may_range {l : List (Int × Int)} (h : mayS l = true) : ∀ p ∈ l, 0 ≤ p.1 ∧ p.1 ≤ 1000000 ∧ 0 ≤ p.2 ∧ p.2 ≤ 1000000 := by
  intro p hp
  unfold mayS at h
  simp only [Bool.and_eq_true, Bool.not_eq_true'] at h
  have := List.any_eq_false.1 h.2 p hp
  unfold offS off at this
  simp at this
  omega
/-- Text. -/
theorem r9 (l : List (Int × Int)) (hm : mayS l = true) (ht : ∀ p ∈ l, (textB p.1).length ≤ 100 ∧ (textB p.2).length ≤ 100) : Runs P 9 [.d (.slice 2 (l.map sp))] [] (.d (.str (joinB [44] (l.map partB)))) [] := by
  refine runs_walkA t9 rfl (vc9 _ _ _) (by simp) ?_
  have hl : l.length ≤ 20 := by unfold mayS at hm; simp at hm; omega
  have hr := may_range hm
  have hp : ∀ p ∈ l, (partB p).length ≤ 300 := fun p hp => by
    have := ht p hp
    unfold partB
    split <;> simp <;> omega
  refine ⟨_, r8 l, fun h => by simp [hm] at h, fun _ => ?_⟩
  refine ⟨fun parts i k => ∃ i' : Nat, i = i' ∧ i' ≤ l.length ∧ parts = ((l.take i').map partB).map .str ∧ k = l.length - i', ⟨_, 0, rfl, by omega, by simp, rfl⟩, ?_⟩
  rintro _ _ k ⟨i, rfl, hi, rfl, rfl⟩
  refine ⟨fun hlt => ?_, fun hge => ?_⟩
  · have hlt : i < l.length := by have := of_decide_eq_true hlt; simp only [nI, List.length_map] at this; omega
    have hmem := List.getElem_mem hlt
    have hri := hr _ hmem
    have hti := ht _ hmem
    have e1 : ((l.take i).map partB).map D.str ++ [D.str (partB l[i])] = ((l.take (i + 1)).map partB).map .str := by
      rw [List.take_succ_eq_append_getElem hlt, List.map_append, List.map_append]; rfl
    refine ⟨⟨by omega, by simp only [nI, List.length_map]; omega⟩, l[i].1, l[i].2, by rw [getD_sp _ _ hlt]; rfl, _, r19 _ (by omega) (by omega), fun hne => ?_, fun he => ?_⟩
    · have hne : l[i].2 ≠ l[i].1 := by simpa using hne
      refine ⟨_, r19 _ (by omega) (by omega), ?_, ?_⟩
      · simp only [nI, List.length_cons, List.length_nil]; unfold Go.IntKind.max; simp [Go.IntKind.signed, Go.IntKind.bits]; omega
      rintro _ rfl
      refine ⟨?_, ?_⟩
      · simp only [nI, List.length_append, List.length_cons, List.length_nil]; unfold Go.IntKind.max; simp [Go.IntKind.signed, Go.IntKind.bits]; omega
      rintro _ rfl
      refine ⟨by simp; omega, ?_⟩
      rintro _ rfl
      refine ⟨l.length - (i + 1), by omega, i + 1, ?_, by omega, ?_, rfl⟩
      · rw [W64 (by omega) (by omega)]; rfl
      · rw [← e1, partB, if_neg hne]
    · have he : l[i].2 = l[i].1 := by simpa using he
      refine ⟨by simp; omega, ?_⟩
      rintro _ rfl
      refine ⟨l.length - (i + 1), by omega, i + 1, ?_, by omega, ?_, rfl⟩
      · rw [W64 (by omega) (by omega)]; rfl
      · rw [← e1, partB, if_pos he]
  · have hge : i = l.length := by have := of_decide_eq_false hge; simp only [nI, List.length_map] at this; omega
    subst hge
    rw [List.take_length]
    refine ⟨_, r20 [44] (l.map partB) (by simp) ?_, end0 rfl rfl⟩
    have : ∀ m : List (Int × Int), (∀ p ∈ m, (partB p).length ≤ 300) → sizes (m.map partB) ≤ 300 * m.length := by
      intro m
      induction m with
      | nil => intro _; simp [sizes]
      | cons p r ih =>
        intro h
        have h1 := h p (by simp)
        have h2 := ih fun q hq => h q (by simp [hq])
        simp only [sizes, List.map_cons, List.sum_cons, List.length_cons] at h2 ⊢
        omega
    have := this l hp
    simp only [List.length_map, List.length_cons, List.length_nil]
    omega

/-- A digit alone. -/
theorem r23one (c : UInt8) (h1 : 49 ≤ c.toNat) (h2 : c.toNat ≤ 57) : Runs P 23 [.d (.str [c])] [] (.tup [.d (.int .i64 (c.toNat - 48 : Int)), .d (.bool true)]) [] := by
  refine runs_walkA t23 rfl (vc23 _ _ _) (by simp) ?_
  have hc : ([c] == [42]) = false := by
    have : c ≠ 42 := by rintro rfl; simp at h1
    simpa using this
  refine ⟨(fun h => by rw [hc] at h; cases h), fun _ => ⟨fun _ => by simp [nI], fun b hb => ?_⟩⟩
  have hb : b = false := by rw [← hb]; simp [nI]; omega
  subst hb
  refine ⟨(fun h => by cases h), fun _ => ?_⟩
  refine ⟨fun i n k => (i = 0 ∧ n = 0 ∧ k = 1) ∨ (i = 1 ∧ n = (c.toNat - 48 : Int) ∧ k = 0), ⟨1, .inl ⟨rfl, rfl, rfl⟩⟩, ?_⟩
  rintro i n k (⟨rfl, rfl, rfl⟩ | ⟨rfl, rfl, rfl⟩)
  · refine ⟨fun _ => ⟨by simp [nI], fun _ => by simp [nI], fun b hb => ?_⟩, fun h => by simp [nI] at h⟩
    have hb : b = false := by rw [← hb]; simp [nI]; omega
    subst hb
    refine ⟨(fun h => by cases h), fun _ => ?_⟩
    rintro _ rfl
    refine ⟨by simp [nI], ?_⟩
    rintro n9 hn9
    have hn9 : n9 = (c.toNat : Int) - 48 := by
      rw [← hn9]; unfold Go.IntKind.wrap Go.IntKind.bits Go.IntKind.signed; simp [nI]; omega
    rintro _ rfl n11 hn11
    have hn11 : n11 = (c.toNat : Int) - 48 := by
      rw [← hn11, W64 (n := n9) (by omega) (by omega), W64 (n := 0 * 10) (by omega) (by omega), W64 (by omega) (by omega)]; omega
    refine ⟨fun h => by have := of_decide_eq_true h; omega, fun _ => ?_⟩
    rintro _ rfl
    exact ⟨0, by omega, .inr ⟨by rw [W64 (by omega) (by omega)]; rfl, hn11, rfl⟩⟩
  · exact ⟨fun h => by simp [nI] at h, fun _ => end0 rfl rfl⟩
theorem r23star : Runs P 23 [.d (.str [42])] [] (.tup [.d (.int .i64 0), .d (.bool true)]) [] := by
  refine runs_walkA t23 rfl (vc23 _ _ _) (by simp) ?_
  exact ⟨fun _ => end0 rfl rfl, (fun h => by cases h)⟩
end B
end Go.Proofs.YtmiclaoelbemkaaDoor
