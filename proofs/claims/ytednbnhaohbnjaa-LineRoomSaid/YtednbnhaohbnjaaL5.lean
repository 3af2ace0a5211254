/- The line's laws on data: room. No condition. -/
import Derived.Test.YtednbnhaohbnjaaL4
set_option linter.all false
namespace Go.Proofs.Ytednbnhaohbnjaa
namespace B
open Go.RowKit

/-- Of room: for every line's length, for every list of numbers. -/
theorem lineRoom (n : Int) (ns : List Int) : Runs P 6 [.d (.int .i64 n), .d (.slice 1 (ns.map (.int .i64)))] [] (.d (.bool true)) [] := by
  refine runs_walkA t6 rfl (vc6 _ _ _ _) (by simp) ?_
  refine ⟨fun _ => ⟨_, r7, endB rfl⟩, fun hlen => ?_⟩
  have hlen : ns.length ≤ 100 := by simp [nI] at hlen; omega
  obtain ⟨c, hc⟩ : ∃ c : Nat, (c : Int) = min (max n 0) 1000 := ⟨(min (max n 0) 1000).toNat, by omega⟩
  have hc1 : c ≤ 1000 := by omega
  refine ⟨_, _, r12 _ _ c hc, ?_⟩
  intro m1 hm1 m2 hm2
  have hm2 : m2 = c := by
    rw [← hm2, ← hm1, hc]; simp only [mmI, if_true, Bool.false_eq_true, if_false]; omega
  subst hm2
  clear hm1
  refine ⟨fun a i cap q k => cap = c ∧ ∃ i' : Nat, i = i' ∧ i' ≤ ns.length ∧ a = (min i' c : Nat) ∧ q = (ns.take (min i' c)).map (.int .i64) ∧ k = ns.length - i', ⟨_, rfl, 0, rfl, by omega, by simp, by simp, rfl⟩, ?_⟩
  rintro a0 i0 c0 q k0 ⟨hcc, i, rfl, hi, rfl, rfl, rfl⟩
  subst hcc
  refine ⟨fun hlt => ?_, fun hge => ?_⟩
  · have hlt : i < ns.length := by simp [nI] at hlt; omega
    refine ⟨by simp [nI]; omega, ns[i], by rw [getD_map _ _ _ hlt]; rfl, ?_⟩
    refine ⟨_, _, _, r13 _ _ _ _, fun hyes => ?_, fun hno => ?_⟩
    · have hroom : i < c0 := by simp at hyes; omega
      rw [if_pos (by simp; omega)]
      have e : (ns.take (min i c0)).map (D.int .i64) ++ [.int .i64 ns[i]] = (ns.take (min (i + 1) c0)).map (.int .i64) := by
        rw [Nat.min_eq_left (by omega), Nat.min_eq_left (by omega), List.take_succ_eq_append_getElem hlt, List.map_append]; rfl
      rw [e]
      intro n18 h18
      have h18 : n18 = (min (i + 1) c0 : Nat) := by rw [← h18, W64 (by omega) (by omega)]; omega
      subst h18
      refine ⟨_, _, _, r16 _ _ _, _, _, _, r17 _ _ _ hc1 (by simp; omega), ?_⟩
      intro n25 h25
      have h25 : n25 = c0 := by rw [← h25, W64 (by simp; omega) (by simp; omega)]; simp; omega
      subst h25
      refine ⟨_, fun _ => r16 _ _ _, ?_⟩
      intro b hb
      have hb : b = false := by rw [← hb]; simp; omega
      subst hb
      refine ⟨(fun h => by cases h), fun _ => ?_⟩
      rintro _ rfl
      refine ⟨ns.length - (i + 1), by omega, rfl, i + 1, ?_, by omega, rfl, rfl, rfl⟩
      rw [W64 (by omega) (by omega)]; rfl
    · have hroom : c0 ≤ i := by simp at hno; omega
      rw [if_neg (by simp; omega)]
      have e : min i c0 = min (i + 1) c0 := by omega
      refine ⟨_, _, _, r16 _ _ _, _, _, _, r17 _ _ _ hc1 (by simp; omega), ?_⟩
      intro n25 h25
      have h25 : n25 = c0 := by rw [← h25, W64 (by simp; omega) (by simp; omega)]; simp; omega
      subst h25
      refine ⟨_, fun _ => r16 _ _ _, ?_⟩
      intro b hb
      have hb : b = false := by rw [← hb]; simp; omega
      subst hb
      refine ⟨(fun h => by cases h), fun _ => ?_⟩
      rintro _ rfl
      refine ⟨ns.length - (i + 1), by omega, rfl, i + 1, ?_, by omega, by rw [e], by rw [e], rfl⟩
      rw [W64 (by omega) (by omega)]; rfl
  · have hge : i = ns.length := by simp [nI] at hge; omega
    subst hge
    refine ⟨_, _, _, r15 _ _ _ (by simp; omega), ?_⟩
    intro n44 h44
    have h44 : n44 = (min ns.length c0 : Nat) := by rw [← h44]; simp [mmI, nI]; omega
    subst h44
    refine ⟨_, fun _ => r16 _ _ _, ?_⟩
    intro b1 hb1
    have hb1 : b1 = false := by rw [← hb1]; simp [nI]; try omega
    subst hb1
    refine ⟨_, fun _ => r17 _ _ _ hc1 (by simp), ?_⟩
    intro b2 hb2
    have hb2 : b2 = false := by rw [← hb2]; simp
    subst hb2
    refine ⟨(fun h => by cases h), fun _ => ?_⟩
    refine ⟨fun j k => ∃ j' : Nat, j = j' ∧ j' ≤ min ns.length c0 ∧ k = ns.length - j', ⟨_, 0, rfl, by omega, rfl⟩, ?_⟩
    rintro j0 k0 ⟨j, rfl, hj, rfl⟩
    refine ⟨fun hlt => ?_, fun _ => ⟨_, r7, endB rfl⟩⟩
    have hlt : j < min ns.length c0 := by simp [nI] at hlt; omega
    have hj1 : j < ns.length := by omega
    refine ⟨by simp [nI]; omega, ns[j], ?_, by simp [nI]; omega, ns[j], ?_, ?_, ?_⟩
    · rw [getD_map _ _ _ (by simp; omega)]; simp [D.cells]
    · rw [getD_map _ _ _ hj1]; rfl
    · intro h; simp at h
    · intro _
      rintro _ rfl
      refine ⟨ns.length - (j + 1), by omega, j + 1, ?_, by omega, rfl⟩
      rw [W64 (by omega) (by omega)]; rfl
end B
end Go.Proofs.Ytednbnhaohbnjaa
