/- The line's laws on data: texts, room. No condition. -/
import Derived.Test.YtednbnhaohbnjaaL3
set_option linter.all false
namespace Go.Proofs.Ytednbnhaohbnjaa
namespace B
open Go.RowKit

theorem wrapu_range (n : Int) : 0 ≤ Go.IntKind.wrap .u64 n ∧ Go.IntKind.wrap .u64 n < 18446744073709551616 := by
  unfold Go.IntKind.wrap Go.IntKind.bits Go.IntKind.signed
  simp
  omega
theorem getD_map {α : Type} (f : α → D) (l : List α) (i : Nat) (h : i < l.length) : (l.map f).getD (i : Int).toNat .nilp = f l[i] := by
  simp [List.getD_eq_getElem?_getD, h]

/-- Of texts. -/
theorem lineTexts (ss : List Bytes) (n : Int) : Runs P 3 [.d (.slice 1 (ss.map .str)), .d (.int .i64 n)] [] (.d (.bool true)) [] := by
  refine runs_walkA t3 rfl (vc3 _ _ _ _) (by simp) ?_
  refine ⟨fun _ => ⟨_, r7, endB rfl⟩, fun hlen => ?_⟩
  have hlen : ss.length ≤ 100 := by simp [nI] at hlen; omega
  intro m1 hm1
  refine ⟨by decide, ?_⟩
  intro m2 hm2 m3 hm3
  have hm : 0 ≤ m3 ∧ m3 < 30 := by
    have := wrapu_range n
    rw [hm1] at this
    have h2 : m2 = m1 % 30 := by rw [← hm2]; exact Int.tmod_eq_emod_of_nonneg this.1
    have : 0 ≤ m2 ∧ m2 < 30 := by omega
    rw [W64 (by omega) (by omega)] at hm3
    omega
  clear hm1 hm2 hm3
  obtain ⟨c, rfl⟩ := Int.eq_ofNat_of_zero_le hm.1
  have hc : c < 30 := by omega
  clear hm
  refine ⟨_, _, r8 _ _ c (by omega), ?_⟩
  refine ⟨fun i a cap q k => cap = c ∧ ∃ i' a' : Nat, i = i' ∧ a = a' ∧ i' ≤ ss.length ∧ k = ss.length - i' ∧ (c = 0 → a' = 0 ∧ q = []) ∧ (0 < c → a' ≤ i' ∧ i' - a' ≤ c ∧ q = ((ss.drop a').take (i' - a')).map .str),
    ⟨_, rfl, 0, 0, rfl, rfl, by omega, rfl, fun _ => ⟨rfl, rfl⟩, fun _ => ⟨Nat.le_refl _, by omega, by simp⟩⟩, ?_⟩
  intro i0 a0 c0 q k0 hI
  obtain ⟨hcc, i, a, rfl, rfl, hi, rfl, hz, hp⟩ := hI
  subst hcc
  refine ⟨fun hlt => ?_, fun hge => ?_⟩
  · have hlt : i < ss.length := by simp [nI] at hlt; omega
    refine ⟨by simp [nI]; omega, ss[i], by rw [getD_map _ _ _ hlt]; rfl, ?_⟩
    refine ⟨_, _, _, r9 _ _ _ _, fun hno => ?_, fun hyes => ?_⟩
    · have hfull : c0 ≤ q.length := by simpa using hno
      rw [if_neg (by omega)]
      refine ⟨_, _, _, r10 _ _ _, fun hne => ?_, fun _ => ?_⟩
      · exfalso
        have : ¬ ((q.length : Int) = c0) := by simpa using hne
        by_cases h0 : c0 = 0
        · have := (hz h0).2; subst this; simp at *; omega
        · obtain ⟨h1, h2, rfl⟩ := hp (by omega)
          simp at *; omega
      · by_cases h0 : c0 = 0
        · obtain ⟨rfl, rfl⟩ := hz h0
          refine ⟨_, _, _, _, r11_none _ _, fun _ => ⟨(fun h => by cases h), fun _ => ?_⟩, fun h => by simp [h0] at h⟩
          rintro _ rfl
          refine ⟨ss.length - (i + 1), by omega, rfl, i + 1, 0, ?_, rfl, by omega, rfl, fun _ => ⟨rfl, rfl⟩, fun h => by omega⟩
          rw [W64 (by omega) (by omega)]; rfl
        · obtain ⟨h1, h2, rfl⟩ := hp (by omega)
          have hia : i - a = c0 := by simp at hfull; omega
          have ha : a < ss.length := by omega
          have e1 : (ss.drop a).take (i - a) = ss[a] :: (ss.drop (a + 1)).take (i - a - 1) := by
            rw [List.drop_eq_getElem_cons ha]
            obtain ⟨m, hm⟩ : ∃ m, i - a = m + 1 := ⟨i - a - 1, by omega⟩
            rw [hm, List.take_succ_cons]; simp
          rw [e1, List.map_cons]
          refine ⟨_, _, _, _, r11_some _ _ _ _, (fun h => by simp at h; omega), fun _ => ?_⟩
          refine ⟨fun _ => by simp [nI]; omega, ss[a], fun _ => by rw [getD_map _ _ _ ha]; rfl, ?_⟩
          intro b hb
          have hb : b = false := by rw [← hb]; simp
          subst hb
          have hroom : (List.map D.str ((ss.drop (a + 1)).take (i - a - 1))).length < c0 := by simp; omega
          refine ⟨_, _, _, fun _ => r9 _ _ _ _, (fun h => by cases h), ?_⟩
          rw [if_pos hroom, decide_eq_true hroom]
          intro b2 hb2
          have hb2 : b2 = false := by rw [← hb2]; rfl
          subst hb2
          refine ⟨(fun h => by cases h), fun _ => ?_⟩
          rintro _ rfl
          refine ⟨_, fun _ => r10 _ _ _, ?_⟩
          rintro _ rfl _ rfl b3 hb3
          have e2 : List.map D.str ((ss.drop (a + 1)).take (i - a - 1)) ++ [.str ss[i]] = ((ss.drop (a + 1)).take (i - a)).map .str := by
            obtain ⟨m, hm⟩ : ∃ m, i - a = m + 1 := ⟨i - a - 1, by omega⟩
            rw [hm, List.take_succ_eq_append_getElem (by simp; omega), List.map_append]
            simp only [Nat.add_sub_cancel, List.getElem_drop, List.map_cons, List.map_nil]
            congr 3
            simp only [show a + 1 + m = i by omega]
          rw [e2] at hb3 ⊢
          have hb3 : b3 = false := by
            rw [← hb3, W64 (n := (i : Int) + 1) (by omega) (by omega), W64 (n := (a : Int) + 1) (by omega) (by omega), W64 (by omega) (by omega)]
            simp; omega
          subst hb3
          refine ⟨(fun h => by cases h), fun _ => ?_⟩
          rintro _ rfl
          refine ⟨ss.length - (i + 1), by omega, rfl, i + 1, a + 1, ?_, ?_, by omega, rfl, fun h => absurd h h0, fun _ => ⟨by omega, by omega, ?_⟩⟩
          · rw [W64 (by omega) (by omega)]; rfl
          · rw [W64 (by omega) (by omega)]; rfl
          · rw [show i + 1 - (a + 1) = i - a by omega]
    · have hroom : q.length < c0 := by simpa using hyes
      rw [if_pos hroom]
      obtain ⟨h1, h2, rfl⟩ := hp (by omega)
      have hia : i - a < c0 := by simp at hroom; omega
      have e2 : List.map D.str ((ss.drop a).take (i - a)) ++ [.str ss[i]] = ((ss.drop a).take (i + 1 - a)).map .str := by
        rw [show i + 1 - a = i - a + 1 by omega, List.take_succ_eq_append_getElem (by simp; omega), List.map_append]
        simp only [List.getElem_drop, List.map_cons, List.map_nil]
        congr 3
        simp only [show a + (i - a) = i by omega]
      rw [e2]
      refine ⟨_, fun _ => r10 _ _ _, ?_⟩
      rintro _ rfl _ rfl b3 hb3
      have hb3 : b3 = false := by
        rw [← hb3, W64 (n := (i : Int) + 1) (by omega) (by omega), W64 (by omega) (by omega)]
        simp; omega
      subst hb3
      refine ⟨(fun h => by cases h), fun _ => ?_⟩
      rintro _ rfl
      refine ⟨ss.length - (i + 1), by omega, rfl, i + 1, a, ?_, rfl, by omega, rfl, fun h => by omega, fun _ => ⟨by omega, by omega, rfl⟩⟩
      rw [W64 (by omega) (by omega)]; rfl
  · have hge : i = ss.length := by simp [nI] at hge; omega
    subst hge
    refine ⟨_, _, _, r10 _ _ _, ?_⟩
    have hq : ∃ d : Nat, d ≤ ss.length ∧ a ≤ d ∧ q = ((ss.drop a).take (d - a)).map .str ∧ (0 < c0 → d = ss.length) ∧ (c0 = 0 → d = a) := by
      by_cases h0 : c0 = 0
      · obtain ⟨rfl, rfl⟩ := hz h0
        exact ⟨0, by omega, by omega, by simp, fun h => by omega, fun _ => rfl⟩
      · obtain ⟨h1, h2, rfl⟩ := hp (by omega)
        exact ⟨ss.length, by omega, h1, rfl, fun _ => rfl, fun h => absurd h h0⟩
    obtain ⟨d, hd, had, rfl, hd1, hd0⟩ := hq
    refine ⟨fun x j cap q k => cap = c0 ∧ ∃ j' : Nat, j = j' ∧ x = ((a + j' : Nat) : Int) ∧ a + j' ≤ d ∧ k = d - (a + j') ∧ q = ((ss.drop (a + j')).take (d - (a + j'))).map .str, ⟨_, rfl, 0, rfl, by simp, by omega, rfl, by simp⟩, ?_⟩
    intro x0 j0 c1 q1 k1 hI
    obtain ⟨hcc, j, rfl, rfl, hj, rfl, rfl⟩ := hI
    subst hcc
    refine ⟨fun hlt => ?_, fun hge => ?_⟩
    · have hlt : a + j < d := by simp at hlt; omega
      have e1 : (ss.drop (a + j)).take (d - (a + j)) = ss[a + j] :: (ss.drop (a + j + 1)).take (d - (a + j + 1)) := by
        rw [List.drop_eq_getElem_cons (by omega)]
        obtain ⟨m, hm⟩ : ∃ m, d - (a + j) = m + 1 := ⟨d - (a + j) - 1, by omega⟩
        rw [hm, List.take_succ_cons, show d - (a + j + 1) = m by omega]
      rw [e1, List.map_cons]
      refine ⟨_, _, _, _, r11_some _ _ _ _, ?_⟩
      intro b hb
      have hb : b = false := by rw [← hb]; simp [nI]; omega
      subst hb
      refine ⟨fun _ => by simp [nI]; omega, ss[a + j], fun _ => by rw [getD_map _ _ _ (by omega)]; rfl, ?_⟩
      intro b2 hb2
      have hb2 : b2 = false := by rw [← hb2]; simp
      subst hb2
      refine ⟨(fun h => by cases h), fun _ => ?_⟩
      rintro _ rfl _ rfl
      refine ⟨d - (a + j + 1), by omega, rfl, j + 1, ?_, ?_, by omega, ?_, ?_⟩
      · rw [W64 (by omega) (by omega)]; rfl
      · rw [W64 (by omega) (by omega)]; simp; omega
      · omega
      · rw [show a + (j + 1) = a + j + 1 by omega]
    · have hge : a + j = d := by simp at hge; omega
      intro b hb
      have hb : b = true := by
        rw [← hb]
        by_cases h0 : c1 = 0
        · simp [h0]
        · have := hd1 (by omega)
          simp [nI]; omega
      subst hb
      refine ⟨_, fun _ => r7, ?_⟩
      rintro _ rfl
      exact endB rfl
end B
end Go.Proofs.Ytednbnhaohbnjaa
