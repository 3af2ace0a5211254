/- The line's law on data: what is taken is what was put. No condition. -/
import Derived.Test.YtednbnhaohbnjaaP2
import Derived.Test.YtednbnhaohbnjaaB30
set_option linter.all false
namespace Go.Proofs.Ytednbnhaohbnjaa
namespace B
open Go.RowKit

theorem W64 {n : Int} (h : -9223372036854775808 ≤ n) (h' : n ≤ 9223372036854775807) : Go.IntKind.wrap .i64 n = n := by
  unfold Go.IntKind.wrap Go.IntKind.bits Go.IntKind.signed
  simp
  omega
theorem endB {c : Bool} {bs : List (Nat × List CV)} {b : Bool} (h : c = b) : EndR (.d (.bool c)) (.d (.bool b)) bs [] := end0 (by rw [h]) rfl
theorem endX {c : CV} {bs : List (Nat × List CV)} (h : (⟨[c], bs⟩ : St).clo = true) (hn : (bs.map (·.1)).Nodup) : EndR c c bs bs := by
  refine ⟨Wr_refl c, ?_, h⟩
  have key : ∀ (l m : List (Nat × List CV)), ((m ++ l).map (·.1)).Nodup → WcB (m ++ l) l := by
    intro l
    induction l with
    | nil => intro m _; trivial
    | cons x r ih =>
      intro m hm
      obtain ⟨b, cs⟩ := x
      refine ⟨?_, ?_⟩
      · have : (m ++ (b, cs) :: r).lookup b = some cs := by
          induction m with
          | nil => simp
          | cons y m ihm =>
            obtain ⟨k, v⟩ := y
            simp only [List.cons_append, List.map_cons, List.nodup_cons] at hm
            have hne : (b == k) = false := by
              simp only [beq_eq_false_iff_ne]
              rintro rfl
              exact hm.1 (by simp)
            simp only [List.cons_append, List.lookup, hne]
            exact ihm hm.2
        rw [this]; exact WcL_refl cs
      · have := ih (m ++ [(b, cs)]) (by simpa using hm)
        simpa using this
  exact key bs [] (by simpa using hn)

theorem r15a (cap : Nat) (ns : List Int) (hn : ns.length ≤ 1000) : Runs P 15 [.ptr 1000 0] [(1000, [.line cap (ns.map (.int .i64))])] (.own 1 (ns.map (.int .i64))) [(1000, [.line cap []])] := by
  refine runs_walkA t15 rfl (vc15 _ _ _ _) (by simp) ?_
  refine ⟨fun out c l k => c = cap ∧ ∃ a, a ≤ ns.length ∧ out = (ns.take a).map (.int .i64) ∧ l = (ns.drop a).map (.int .i64) ∧ k = ns.length - a, ⟨_, rfl, 0, by simp, by simp, by simp, rfl⟩, ?_⟩
  rintro _ _ _ _ ⟨rfl, a, ha, rfl, rfl, rfl⟩
  by_cases h : a < ns.length
  · rw [List.drop_eq_getElem_cons h, List.map_cons]
    refine ⟨_, _, _, _, r14_some _ _ _ _, (fun h => by cases h), fun _ => ⟨?_, ns.length - (a + 1), by omega, rfl, a + 1, by omega, ?_, rfl, rfl⟩⟩
    · simp only [List.length_map, List.length_take, List.length_cons, List.length_nil]; omega
    · rw [List.take_succ_eq_append_getElem h, List.map_append]; rfl
  · obtain rfl : a = ns.length := by omega
    rw [List.drop_length, List.take_length, List.map_nil]
    exact ⟨_, _, _, _, r14_none _ _, fun _ => endX rfl (by simp), fun h => by cases h⟩
theorem r15 (b cap : Nat) (ns : List Int) (hn : ns.length ≤ 1000) : Runs P 15 [.ptr b 0] [(b, [.line cap (ns.map (.int .i64))])] (.own 1 (ns.map (.int .i64))) [(b, [.line cap []])] := by
  have := (r15a cap ns hn).swap 1000 b
  simpa [CV.ren, CV.ren1, renB, swp] using this

theorem r7 : Runs P 7 [] [] (.d (.bool true)) [] := by
  refine runs_walkA t7 rfl (vc7 _ _) (by simp) ?_
  refine ⟨_, _, r8 _ 2 2 (by decide), _, _, _, r9 _ _ _ _, _, _, _, r9 _ _ _ _, _, _, _, r9 _ _ _ _, _, _, _, _, r11_some _ _ _ _, ?_⟩
  rintro _ rfl _ rfl _ rfl _ rfl
  refine ⟨_, fun _ => r10 _ _ _, ?_⟩
  rintro _ rfl
  refine ⟨_, fun _ => r18 _ _ _ (by decide) (by decide), ?_⟩
  rintro _ rfl
  exact endB (by decide)

abbrev ints (l : List Int) : List D := l.map (.int .i64)
theorem el_at (pre w : List Int) {j : Nat} (h : j < w.length) : List.take 1 (List.drop 0 (D.cells (List.getD (ints (pre ++ w)) (addO pre.length (Int.toNat (j : Int))) D.nilp))) = [D.int .i64 w[j]] := by
  rw [addO_eq, Int.toNat_natCast]
  have : List.getD (ints (pre ++ w)) (pre.length + j) D.nilp = D.int .i64 w[j] := by
    rw [List.getD_eq_getElem?_getD, List.getElem?_map, List.getElem?_append_right (by omega), Nat.add_sub_cancel_left, List.getElem?_eq_getElem h]; rfl
  rw [this]; rfl
theorem lenRoom (cap : Nat) (w : List Int) (kk n6 : Int) (hk : kk = w.length) (h6 : n6 = cap) (hw : w.length ≤ cap) (hc : cap ≤ 1000) {E K : Nat → List D → Prop} (hK : K cap (ints w)) :
    ∃ k23 : Nat, ∃ l24 : List D, ∃ n25 : Int, (Runs P 16 [.ptr 20 0] [(20, [.line cap (ints w)])] (.d (.int .i64 n25)) [(20, [.line k23 l24])]) ∧ ∃ n26 : Int, (((!n25 != kk) = true → Runs P 17 [.ptr 20 0] [(20, [.line k23 l24])] (.d (.int .i64 n26)) [(20, [.line k23 l24])]) ∧
      ∀ n27 : Int, (Go.IntKind.wrap Go.IntKind.i64 (n6 - kk) = n27 → ∀ b28 : Bool, ((n25 != kk || n26 != n27) = b28 → ((b28 = true → E k23 l24) ∧ (b28 = false → K k23 l24))))) := by
  have hl : (ints w).length = w.length := by simp
  have w16 := r16 20 cap (ints w)
  have w17 := r17 20 cap (ints w) hc (by omega)
  rw [hl] at w16 w17
  refine ⟨cap, ints w, _, w16, _, fun _ => w17, ?_⟩
  rintro _ rfl b28 h28
  have e : b28 = false := by
    rw [← h28, hk, h6, W64 (by omega) (by omega)]
    simp
  exact ⟨fun h => (by rw [e] at h; cases h), fun _ => hK⟩
abbrev callD (c : Int × Int) : D := .agg [.int .i64 c.1, .int .i64 c.2]
theorem linePlays (most : Int) (l : List (Int × Int)) : Runs P 4 [.d (.int .i64 most), .d (.slice 2 (l.map callD))] [] (.d (.bool true)) [] := by
  refine runs_walkA t4 rfl (vc4 _ _ _ _) (by simp) ?_
  rw [show nI (List.length (l.map callD)) = (l.length : Int) from by simp [nI]]
  refine ⟨fun _ => ⟨true, r7, endB rfl⟩, fun h => ?_⟩
  have hl : l.length ≤ 300 := by have := of_decide_eq_false h; omega
  obtain ⟨cap, hcap⟩ : ∃ n : Nat, (n : Int) = min (max most 0) 1000 := ⟨(min (max most 0) 1000).toNat, by omega⟩
  have hc : cap ≤ 1000 := by omega
  refine ⟨_, _, r12 20 most cap hcap, ?_⟩
  rintro _ rfl n6 h6
  have e6 : n6 = (cap : Int) := by
    rw [← h6, mmI_eq, mmI_eq, hcap]
    simp only [if_true, Bool.false_eq_true, if_false]
    split <;> split <;> omega
  subst e6
  clear h6
  refine ⟨fun o n m c ln row k => ∃ (i : Nat) (pre w : List Int), m = i ∧ i ≤ l.length ∧ k = l.length - i ∧ cap = c ∧ w.length ≤ cap ∧ ln = ints w ∧ row = ints (pre ++ w) ∧ o = pre.length ∧ n = w.length,
    ⟨_, 0, [], [], rfl, by omega, rfl, rfl, by simp, rfl, rfl, rfl, rfl⟩, ?_⟩
  rintro _ _ _ _ _ _ _ ⟨i, pre, w, rfl, hi, rfl, rfl, hw, rfl, rfl, rfl, rfl⟩
  refine ⟨fun h => ?_, fun h => ⟨true, r7, endB rfl⟩⟩
  have hlt : i < l.length := by have := of_decide_eq_true h; omega
  have hgd : (l.map callD).getD (Int.toNat (i : Int)) .nilp = callD l[i] := by simp [List.getD_eq_getElem?_getD, hlt]
  refine ⟨⟨by omega, by omega⟩, _, _, by rw [hgd]; rfl, ?_⟩
  have hwl : (ints w).length = w.length := by simp
  -- the next round
  have nxt : ∀ (pre' w' : List Int), w'.length ≤ cap → ∀ o n, o = pre'.length → n = w'.length → ∀ row, row = ints (pre' ++ w') →
      ∀ n29 : Int, Go.IntKind.wrap Go.IntKind.i64 ((i : Int) + 1) = n29 → ∃ k30 : Nat, k30 < l.length - i ∧ ∃ (i' : Nat) (pre w : List Int), n29 = i' ∧ i' ≤ l.length ∧ k30 = l.length - i' ∧ cap = cap ∧ w.length ≤ cap ∧ ints w' = ints w ∧ row = ints (pre ++ w) ∧ o = pre.length ∧ n = w.length := by
    intro pre' w' hw' o n ho hn row hrow n29 h29
    rw [W64 (by omega) (by omega)] at h29
    subst h29
    exact ⟨l.length - (i + 1), by omega, i + 1, pre', w', by omega, by omega, rfl, rfl, hw', rfl, hrow, ho, hn⟩
  refine ⟨fun _ => ?_, fun _ => ⟨fun _ => ?_, fun _ => ?_⟩⟩
  · -- Put
    have w13 := r13 20 cap (ints w) (.int .i64 l[i].2)
    rw [hwl] at w13
    refine ⟨_, _, _, w13, fun h => ?_, fun _ => ⟨fun h => ?_, fun h => ?_⟩⟩
    · exfalso
      have : (decide (w.length < cap) == decide (nI w.length < (cap : Int))) = true := by simp [nI]
      rw [this] at h; cases h
    · have hlt2 : w.length < cap := by have := of_decide_eq_true h; simp only [nI] at this; omega
      rw [if_pos hlt2]
      have ea : ints w ++ [D.int .i64 l[i].2] = ints (w ++ [l[i].2]) := by simp
      rw [ea]
      refine ⟨by simp, by simp; omega, fun g => ⟨fun _ => ?_, fun _ => ?_⟩⟩
      · rintro _ rfl
        refine lenRoom cap (w ++ [l[i].2]) _ _ ?_ rfl ?_ hc ?_
        · simp [nI]
        · simp; omega
        · exact nxt pre (w ++ [l[i].2]) (by simp; omega) _ _ rfl (by simp) _ (by simp)
      · rintro _ rfl
        refine lenRoom cap (w ++ [l[i].2]) _ _ ?_ rfl ?_ hc ?_
        · simp [nI]
        · simp; omega
        · exact nxt [] (w ++ [l[i].2]) (by simp; omega) _ _ rfl (by simp) _ (by simp)
    · have hlt2 : ¬ w.length < cap := by have := of_decide_eq_false h; simp only [nI] at this; omega
      rw [if_neg hlt2]
      refine lenRoom cap w _ _ ?_ rfl hw hc ?_
      · simp [nI]
      · exact nxt pre w hw _ _ rfl rfl _ rfl
  · -- Take
    cases w with
    | nil =>
      refine ⟨_, _, _, _, r14_none 20 cap, fun h => ?_, fun h => ?_, 0, fun h => ?_, ?_⟩
      · exfalso; simp [nI] at h
      · exfalso; simp [nI] at h
      · exfalso; simp [nI] at h
      rintro _ rfl _ rfl _ rfl b56 h56
      have e56 : b56 = false := by rw [← h56]; simp [nI]
      refine ⟨fun h => (by rw [e56] at h; cases h), fun _ => ⟨fun h => (by cases h), fun _ => ?_⟩⟩
      refine lenRoom cap [] _ _ ?_ rfl hw hc ?_
      · simp [nI]
      · exact nxt pre [] hw _ _ rfl rfl _ rfl
    | cons x w =>
      simp only [List.length_cons] at hw hwl
      have hel := el_at pre (x :: w) (j := 0) (by simp)
      refine ⟨_, _, _, _, r14_some 20 cap (.int .i64 x) (ints w), fun _ => ⟨by omega, by simp only [nI, List.length_cons]; omega⟩, fun _ => by rw [addO_eq]; simp, x, fun _ => hel, ?_⟩
      rintro _ rfl _ rfl _ rfl b56 h56
      have e56 : b56 = false := by
        rw [← h56]
        have : decide (nI (x :: w).length > 0) = true := decide_eq_true (by simp only [nI, List.length_cons]; omega)
        rw [this]; simp
      refine ⟨fun h => (by rw [e56] at h; cases h), fun _ => ⟨fun _ => ⟨⟨by omega, by simp only [nI, List.length_cons]; omega, by omega⟩, ?_⟩, fun h => (by cases h)⟩⟩
      refine lenRoom cap w _ _ ?_ rfl (by omega) hc ?_
      · simp [nI]
      · exact nxt (pre ++ [x]) w (by omega) _ _ (by rw [addO_eq]; simp) (by simp [nI]) _ (by simp)
  · -- All
    have w15 := r15 20 cap w (by omega)
    refine ⟨_, _, _, w15, fun h => ?_, fun _ => ?_⟩
    · exfalso; simp [nI] at h
    rw [show nI (List.length (ints w)) = (w.length : Int) from by simp [nI]]
    refine ⟨fun n k => ∃ j : Nat, n = j ∧ j ≤ w.length ∧ k = w.length - j, ⟨_, 0, rfl, by omega, rfl⟩, ?_⟩
    rintro _ _ ⟨j, rfl, hj, rfl⟩
    refine ⟨fun h => ?_, fun _ => ?_⟩
    · have hjl : j < w.length := by have := of_decide_eq_true h; omega
      have hg : List.getD (ints w) (Int.toNat (j : Int)) D.nilp = D.int .i64 w[j] := by simp [List.getD_eq_getElem?_getD, hjl]
      refine ⟨⟨by omega, by omega⟩, w[j], by rw [hg]; rfl, ⟨by omega, by simp only [nI]; omega⟩, by rw [addO_eq]; simp; omega, w[j], el_at pre w hjl, fun h => by simp at h, fun _ => ?_⟩
      rintro _ rfl
      exact ⟨w.length - (j + 1), by omega, j + 1, W64 (by omega) (by omega), by omega, rfl⟩
    · refine lenRoom cap [] _ _ ?_ rfl (by simp) hc ?_
      · simp [nI]
      · exact nxt [] [] (by simp) _ _ rfl rfl _ rfl
end B
end Go.Proofs.Ytednbnhaohbnjaa
