/- RowParts, RowDone: what walks come to: printed by wip/B/gen. No condition. -/
import Derived.Test.YtmkkljbfmdngfaaGreatDoorSA
import Derived.Test.YtmkkljbfmdngfaaGreatDoorQG
set_option linter.all false
namespace Go.Proofs.YtmkkljbfmdngfaaGreatDoor
namespace B
def HZ2 : Hint := ⟨fun f r => if r == 1000000 then (if f == 58 then [12, 27] else if f == 108 then [30] else if f == 107 then [38] else if f == 73 then [6, 27] else if f == 40 then [66] else []) else if r == 1000001 then (if f == 40 then [3000070, 3000081] else if f == 999999 then [4000032] else if f == 999999 then [4000061] else if f == 23 then [28, 79] else if f == 32 then [28] else if f == 74 then [2000117] else if f == 33 then [7000003] else []) else if f == 11 then (if r == 5 then [10, 99999] else if r == 8 then [12, 99999] else []) else if f == 107 then (if r == 10 then [1000, 1080074, 1140075] else []) else if f == 146 then (if r == 2 then [7, 1100075, 1120075] else []) else if f == 999999 then (if r == 13 then [23, 9, 1010140, 1030075] else if r == 37 || r == 44 then [6] else []) else if f == 168 || f == 171 || f == 133 || f == 137 then [1100] else if f == 999999 || f == 999999 then (if r == 6 then [9, 99999] else if r == 7 then [11, 99999] else []) else [], fun f => if f == 999999 || f == 999999 || f == 999999 || f == 129 || f == 134 then some 0 else none⟩

set_option maxRecDepth 100000
theorem zt11 :okF P HZ2 11 3=true:=by kernel_rfl
theorem zvc11 (s0 : Bytes) (n1 : Int) (n2 : Int) (n3 : Int) (l4 : List D) (l5 : List D) (l6 : List D) (n7 : Int) (res : CV) (objs' : List (Nat × List CV)) : walkA P (tbF P [118,148,112,163,1000101,7000102,107500054,1072002147,75,117] [] 11) (anOf (afOf P HZ2 11) []) (afOf P HZ2 11) [CV.d (D.agg [D.str s0, D.int .i64 n1, D.int .i64 n2, D.int .i64 n3, D.slice 1 l4, D.slice 7 l5]), CV.d (D.slice 11 l6), CV.d (D.int .i64 n7)] [] (fun rs => endE rs res objs') = ((∃ n8 : Int, ((Runs P 13 [CV.d (D.agg [D.str s0, D.int .i64 n1, D.int .i64 n2, D.int .i64 n3, D.slice 1 l4, D.slice 7 l5])] [] (CV.d (D.int .i64 n8)) []) ∧ (∃ n9 : Int, (((!decide (n8 > 0)) = true → Runs P 30 [CV.d (D.slice 11 l6)] [] (CV.d (D.int .i64 n9)) []) ∧ (∀ b10 : Bool, ((decide (n8 > 0) || decide (n9 > 0)) = b10 → (∀ b11 : Bool, ((b10 || decide (nI (List.length l6) > 60)) = b11 → (((b11) = true → (∃ b12 : Bool, ((Runs P 31 [] [] (CV.d (D.bool b12)) []) ∧ EndR (CV.d (D.bool b12)) res [(3, [CV.d (D.str s0), CV.d (D.int .i64 n1), CV.d (D.int .i64 n2), CV.d (D.int .i64 n3), CV.d (D.slice 1 l4), CV.d (D.slice 7 l5)])] objs'))) ∧ ((b11) = false → (∀ n13 : Int, (Go.IntKind.wrap Go.IntKind.u64 n7 = n13 → (∀ n14 : Int, (Go.IntKind.wrap Go.IntKind.i64 (nI (List.length l6) + 1) = n14 → (∀ n15 : Int, (Go.IntKind.wrap Go.IntKind.u64 n14 = n15 → ((n15 ≠ 0) ∧ (∀ n16 : Int, (Int.tmod n13 n15 = n16 → (∀ n17 : Int, (Go.IntKind.wrap Go.IntKind.i64 n16 = n17 → (∃ s18 : Bytes, (∃ n19 : Int, (∃ n20 : Int, (∃ n21 : Int, (∃ l22 : List D, (∃ l23 : List D, (∃ n24 : Int, ((Runs P 32 [CV.d (D.agg [D.str s0, D.int .i64 n1, D.int .i64 n2, D.int .i64 n3, D.slice 1 l4, D.slice 7 l5]), CV.d (D.slice 11 l6)] [] (CV.tup [CV.d (D.agg [D.str s18, D.int .i64 n19, D.int .i64 n20, D.int .i64 n21, D.slice 1 l22, D.slice 7 l23]), CV.d (D.int .i64 n24)]) []) ∧ ((0 ≤ nI (0 : Nat) ∧ nI (0 : Nat) ≤ n17 ∧ n17 ≤ nI (List.length l6)) ∧ (∀ l25 : List D, (List.drop (Int.toNat (nI (0 : Nat))) (List.take (Int.toNat n17) l6) = l25 → (∃ s26 : Bytes, (∃ n27 : Int, (∃ n28 : Int, (∃ n29 : Int, (∃ l30 : List D, (∃ l31 : List D, (∃ n32 : Int, ((Runs P 32 [CV.d (D.agg [D.str s0, D.int .i64 n1, D.int .i64 n2, D.int .i64 n3, D.slice 1 l4, D.slice 7 l5]), CV.d (D.slice 11 l25)] [] (CV.tup [CV.d (D.agg [D.str s26, D.int .i64 n27, D.int .i64 n28, D.int .i64 n29, D.slice 1 l30, D.slice 7 l31]), CV.d (D.int .i64 n32)]) []) ∧ (((n32 != 0) = true → (∃ b33 : Bool, (((n24 == n32) = true → Runs P 31 [] [] (CV.d (D.bool b33)) []) ∧ (∀ b34 : Bool, ((n24 == n32 && b33) = b34 → EndR (CV.d (D.bool b34)) res [(3, [CV.d (D.str s0), CV.d (D.int .i64 n1), CV.d (D.int .i64 n2), CV.d (D.int .i64 n3), CV.d (D.slice 1 l4), CV.d (D.slice 7 l5)]), (8, [CV.d (D.str s18), CV.d (D.int .i64 n19), CV.d (D.int .i64 n20), CV.d (D.int .i64 n21), CV.d (D.slice 1 l22), CV.d (D.slice 7 l23)]), (10, [CV.d (D.str s26), CV.d (D.int .i64 n27), CV.d (D.int .i64 n28), CV.d (D.int .i64 n29), CV.d (D.slice 1 l30), CV.d (D.slice 7 l31)])] objs'))))) ∧ ((n32 != 0) = false → ((0 ≤ n17 ∧ n17 ≤ nI (List.length l6) ∧ nI (List.length l6) ≤ nI (List.length l6)) ∧ (∀ l35 : List D, (List.drop (Int.toNat n17) (List.take (Int.toNat (nI (List.length l6))) l6) = l35 → (∃ s36 : Bytes, (∃ n37 : Int, (∃ n38 : Int, (∃ n39 : Int, (∃ l40 : List D, (∃ l41 : List D, (∃ n42 : Int, ((Runs P 32 [CV.d (D.agg [D.str s26, D.int .i64 n27, D.int .i64 n28, D.int .i64 n29, D.slice 1 l30, D.slice 7 l31]), CV.d (D.slice 11 l35)] [] (CV.tup [CV.d (D.agg [D.str s36, D.int .i64 n37, D.int .i64 n38, D.int .i64 n39, D.slice 1 l40, D.slice 7 l41]), CV.d (D.int .i64 n42)]) []) ∧ (∃ b43 : Bool, (((!n24 != n42) = true → Runs P 18 [CV.d (D.agg [D.str s18, D.int .i64 n19, D.int .i64 n20, D.int .i64 n21, D.slice 1 l22, D.slice 7 l23]), CV.d (D.agg [D.str s36, D.int .i64 n37, D.int .i64 n38, D.int .i64 n39, D.slice 1 l40, D.slice 7 l41])] [] (CV.d (D.bool b43)) []) ∧ (∀ b44 : Bool, ((n24 != n42 || !b43) = b44 → (((b44) = true → EndR (CV.d (D.bool false)) res [(3, [CV.d (D.str s0), CV.d (D.int .i64 n1), CV.d (D.int .i64 n2), CV.d (D.int .i64 n3), CV.d (D.slice 1 l4), CV.d (D.slice 7 l5)]), (8, [CV.d (D.str s18), CV.d (D.int .i64 n19), CV.d (D.int .i64 n20), CV.d (D.int .i64 n21), CV.d (D.slice 1 l22), CV.d (D.slice 7 l23)]), (10, [CV.d (D.str s26), CV.d (D.int .i64 n27), CV.d (D.int .i64 n28), CV.d (D.int .i64 n29), CV.d (D.slice 1 l30), CV.d (D.slice 7 l31)]), (12, [CV.d (D.str s36), CV.d (D.int .i64 n37), CV.d (D.int .i64 n38), CV.d (D.int .i64 n39), CV.d (D.slice 1 l40), CV.d (D.slice 7 l41)])] objs') ∧ ((b44) = false → ((0 ≤ nI (0 : Nat) ∧ nI (0 : Nat) ≤ n17 ∧ n17 ≤ nI (List.length l6)) ∧ (∀ l45 : List D, (List.drop (Int.toNat (nI (0 : Nat))) (List.take (Int.toNat n17) l6) = l45 → (∃ l46 : List D, ((Runs P 33 [CV.d (D.slice 11 l45)] [] (CV.d (D.slice 1 l46)) []) ∧ ((0 ≤ n17 ∧ n17 ≤ nI (List.length l6) ∧ nI (List.length l6) ≤ nI (List.length l6)) ∧ (∀ l47 : List D, (List.drop (Int.toNat n17) (List.take (Int.toNat (nI (List.length l6))) l6) = l47 → (∃ l48 : List D, ((Runs P 33 [CV.d (D.slice 11 l47)] [] (CV.d (D.slice 1 l48)) []) ∧ (∃ l49 : List D, ((Runs P 33 [CV.d (D.slice 11 l6)] [] (CV.d (D.slice 1 l49)) []) ∧ (∃ s50 : Bytes, ((decide (nI (List.length l49) > 0) = true → l49 = List.map byteD s50) ∧ (∃ s51 : Bytes, ((decide (nI (List.length l49) > 0) = true → l46 = List.map byteD s51) ∧ (∃ s52 : Bytes, ((decide (nI (List.length l49) > 0) = true → l48 = List.map byteD s52) ∧ ((decide (nI (List.length l49) > 0) = true → nI (List.length s51 + List.length s52) ≤ Go.IntKind.max Go.IntKind.i64) ∧ (∀ s53 : Bytes, (s51 ++ s52 = s53 → (∀ b54 : Bool, ((decide (nI (List.length l49) > 0) && !s50 == s53) = b54 → (((b54) = true → EndR (CV.d (D.bool false)) res [(3, [CV.d (D.str s0), CV.d (D.int .i64 n1), CV.d (D.int .i64 n2), CV.d (D.int .i64 n3), CV.d (D.slice 1 l4), CV.d (D.slice 7 l5)]), (8, [CV.d (D.str s18), CV.d (D.int .i64 n19), CV.d (D.int .i64 n20), CV.d (D.int .i64 n21), CV.d (D.slice 1 l22), CV.d (D.slice 7 l23)]), (10, [CV.d (D.str s26), CV.d (D.int .i64 n27), CV.d (D.int .i64 n28), CV.d (D.int .i64 n29), CV.d (D.slice 1 l30), CV.d (D.slice 7 l31)]), (12, [CV.d (D.str s36), CV.d (D.int .i64 n37), CV.d (D.int .i64 n38), CV.d (D.int .i64 n39), CV.d (D.slice 1 l40), CV.d (D.slice 7 l41)])] objs') ∧ ((b54) = false → (∃ b55 : Bool, ((Runs P 31 [] [] (CV.d (D.bool b55)) []) ∧ EndR (CV.d (D.bool b55)) res [(3, [CV.d (D.str s0), CV.d (D.int .i64 n1), CV.d (D.int .i64 n2), CV.d (D.int .i64 n3), CV.d (D.slice 1 l4), CV.d (D.slice 7 l5)]), (8, [CV.d (D.str s18), CV.d (D.int .i64 n19), CV.d (D.int .i64 n20), CV.d (D.int .i64 n21), CV.d (D.slice 1 l22), CV.d (D.slice 7 l23)]), (10, [CV.d (D.str s26), CV.d (D.int .i64 n27), CV.d (D.int .i64 n28), CV.d (D.int .i64 n29), CV.d (D.slice 1 l30), CV.d (D.slice 7 l31)]), (12, [CV.d (D.str s36), CV.d (D.int .i64 n37), CV.d (D.int .i64 n38), CV.d (D.int .i64 n39), CV.d (D.slice 1 l40), CV.d (D.slice 7 l41)])] objs'))))))))))))))))))))))))))))))))))))))))))))))))))))))))))))))))))))))))))))))))))))))) := by kernel_rfl
end B
end Go.Proofs.YtmkkljbfmdngfaaGreatDoor

namespace Go.Proofs.YtmkkljbfmdngfaaGreatDoor
namespace B
open Go.RowKit

theorem parseR_fuel : ∀ (f g n : Nat) (s : Bytes), s.length ≤ f → s.length ≤ g → parseR f n s = parseR g n s
  | f, g, n, [], _, _ => by cases f <;> cases g <;> rfl
  | 0, _, _, _ :: _, h, _ => by simp at h
  | _, 0, _, _ :: _, _, h => by simp at h
  | f + 1, g + 1, n, c :: s, hf, hg => by
    rw [parseR, parseR]
    split
    · rfl
    cases e : rowP (c :: s) with
    | error x => rfl
    | ok q =>
      obtain ⟨x, r⟩ := q
      have hl := rowP_len e
      rw [List.length_cons] at hl hf hg
      dsimp only
      rw [parseR_fuel f g (n + 1) r (by omega) (by omega)]
def preR (out : List Row) : Except Int (List Row) → Except Int (List Row)
  | .ok l => .ok (out ++ l)
  | .error e => .error e
def resP : Except Int (List Row) → Int × List Row
  | .ok l => (0, l)
  | .error e => (e, [])
theorem parseR_ok {s : Bytes} {n : Nat} {x : Row} {r : Bytes} (hs : s ≠ []) (hn : n < 200) (h : rowP s = .ok (x, r)) : parseR s.length n s = preR [x] (parseR r.length (n + 1) r) := by
  have hl := rowP_len h
  cases s with
  | nil => exact absurd rfl hs
  | cons c s =>
    rw [List.length_cons] at hl ⊢
    rw [parseR, if_neg (by omega), h]
    dsimp only
    rw [parseR_fuel s.length r.length (n + 1) r (by omega) (Nat.le_refl _)]
    cases parseR r.length (n + 1) r <;> rfl
theorem parseR_er {s : Bytes} {n : Nat} {e : Int} (hs : s ≠ []) (hn : n < 200) (h : rowP s = .error e) : parseR s.length n s = .error e := by
  cases s with
  | nil => exact absurd rfl hs
  | cons c s => rw [List.length_cons, parseR, if_neg (by omega), h]
theorem parseR_full {s : Bytes} (hs : s ≠ []) : parseR s.length 200 s = .error 4 := by
  cases s with
  | nil => exact absurd rfl hs
  | cons c s => rw [List.length_cons, parseR, if_pos (by omega)]
theorem row_live (u : Bytes) : (∃ x r, rowP u = .ok (x, r) ∧ (Wd.row ⟨u, 0, 0⟩) = (x, ⟨r, 0, 0⟩)) ∨ (rowP u = .error (Wd.row ⟨u, 0, 0⟩).2.fail ∧ (Wd.row ⟨u, 0, 0⟩).2.fail ≠ 0) := by
  obtain ⟨h1, h2⟩ := row_step ⟨u, 0, 0⟩
  have hx := h2 (.inl rfl)
  generalize Wd.row ⟨u, 0, 0⟩ = q at h1 hx
  obtain ⟨x, s', e', x'⟩ := q
  rcases h1.live rfl rfl with ⟨a0, r, q1, q2, q3, q4, q5⟩ | ⟨y, q1, q2⟩
  · left
    simp only at q2 q3 q4
    have : x' = 0 := by simpa [Wd.off] using q5
    subst this q2 q3 q4
    exact ⟨_, _, q1, rfl⟩
  · right
    unfold Wd.fail
    simp only [Wd.off] at q2 ⊢
    rcases hx with rfl | rfl
    · obtain ⟨rfl, q3⟩ := q2
      exact ⟨by rw [if_pos rfl]; exact q1, by rw [if_pos rfl]; exact q3⟩
    · have q2 : y = 3 := q2
      subst q2
      exact ⟨by rw [if_neg (by decide)]; exact q1, by rw [if_neg (by decide)]; decide⟩
theorem z37 (s : Bytes) (hs : s.length ≤ 1099511627776) : Runs P 37 [.d (.slice 1 (bs s))] [] (.tup [.d (.slice 11 ((resP (rowsB s)).2.map Row.d)), .d (iD (resP (rowsB s)).1)]) [] := by
  refine runs_walkZ zt37 (zvc37 _ _ _) rfl (by simp) ?_
  have h61 := (r61 s hs).swap 6 9
  have h64 := fun u => (r64 u 0).swap 1000 9
  have h78 := fun (u : Bytes) (hu : u.length ≤ 1099511627776) => ((z78 ⟨u, 0, 0⟩ hu).swap 1000 11).swap 1100 9
  have h79 := fun w => ((z79 w).swap 1000 11).swap 1100 9
  simp [CV.ren, CV.ren1, renB, swp] at h61 h64 h78 h79
  refine ⟨_, _, h61, fun o u e x k => ∃ (out : List Row) (v : Bytes), o = out.map Row.d ∧ u = bs v ∧ e = 0 ∧ x = 0 ∧ k = v.length ∧ v.length ≤ s.length ∧ out.length ≤ 200 ∧ rowsB s = preR out (parseR v.length out.length v),
    ⟨rfl, _, [], s, rfl, rfl, rfl, rfl, rfl, Nat.le_refl _, by decide, by unfold rowsB; cases parseR s.length 0 s <;> rfl⟩, ?_⟩
  rintro _ _ _ _ _ ⟨out, v, rfl, rfl, rfl, rfl, rfl, hv, ho, he⟩
  refine ⟨_, _, _, h64 v, fun h => ⟨fun h2 => ?_, fun h2 => ?_⟩, fun h => ?_⟩
  · have h := of_decide_eq_true h
    have h2 : out.length = 200 := by rw [nI_map] at h2; simp only [nI, beq_iff_eq] at h2; omega
    rw [h2, parseR_full (by rintro rfl; simp at h)] at he
    rw [he]
    exact endTO rfl
  · have h := of_decide_eq_true h
    have h2 : ¬ out.length = 200 := fun q => by rw [nI_map, q] at h2; simp [nI] at h2
    have hne : v ≠ [] := by rintro rfl; simp at h
    have hr := h78 v (by omega)
    refine ⟨_, _, _, _, _, _, _, _, _, _, _, _, _, _, hr, _, _, _, _, h79 _, fun hf => ?_, fun hf => ⟨by rw [List.length_map]; simp only [List.length_cons, List.length_nil]; omega, rfl, ?_⟩⟩
    · rcases row_live v with ⟨x, r, q1, q2⟩ | ⟨q1, q2⟩
      · rw [q2] at hf; simp [Wd.fail] at hf
      · rw [parseR_er hne (by omega) q1] at he
        rw [he]
        exact endTO rfl
    · rcases row_live v with ⟨x, r, q1, q2⟩ | ⟨q1, q2⟩
      · have hl := rowP_len q1
        rw [parseR_ok hne (by omega) q1] at he
        rw [q2]
        refine ⟨r.length, hl, out ++ [x], r, by rw [List.map_append]; rfl, rfl, rfl, rfl, rfl, by omega, by simp; omega, ?_⟩
        rw [he, List.length_append]
        cases parseR r.length (out.length + 1) r <;> simp [preR]
      · exact absurd (by simpa using hf) q2
  · have h := of_decide_eq_false h
    have hv0 : v = [] := by
      cases v with
      | nil => rfl
      | cons _ _ => simp at h
    subst hv0
    have e0 : parseR ([] : Bytes).length out.length [] = .ok [] := rfl
    rw [e0] at he
    rw [he]
    exact endTO (by simp [preR, resP])
theorem heavy_sz {r : Row} (h : heavyRow r = false) : szE r ≤ 2400 := by
  unfold heavyRow at h
  simp only [Bool.or_eq_false_iff, decide_eq_false_iff_not] at h
  unfold szE; omega
theorem flat_sz : ∀ {l : List Row}, (∀ r ∈ l, heavyRow r = false) → (l.flatMap rowE).length ≤ 2400 * l.length
  | [], _ => by simp
  | r :: l, h => by
    have h1 := rowE_len r
    have h2 := heavy_sz (h r (by simp))
    have h3 := flat_sz (l := l) fun x hx => h x (by simp [hx])
    rw [List.flatMap_cons, List.length_append, List.length_cons]; omega
theorem z33 (l : List Row) (hl : l.length ≤ 1099511627776) : Runs P 33 [.d (.slice 11 (l.map Row.d))] [] (.d (.slice 1 (bs (bytesR l)))) [] := by
  refine runs_walkZ zt33 (zvc33 _ _ _) rfl (by simp) ?_
  rw [nI_map]
  refine ⟨fun h => ?_, fun h => ?_⟩
  · have h := of_decide_eq_true h
    refine endOD ?_
    unfold bytesR
    rw [if_neg (fun q => by have := q.1; simp only [nI] at h; omega)]; rfl
  have h := of_decide_eq_false h
  have hl : l.length ≤ 200 := by simp only [nI] at h; omega
  refine range2 (fun i x => x = bs ((l.take i).flatMap rowE) ∧ ∀ r ∈ l.take i, heavyRow r = false) (by omega) ⟨rfl, by simp⟩ (fun i hi bd x hJ I k next => ?_) fun x hJ => ?_
  · obtain ⟨rfl, hJ⟩ := hJ
    refine ⟨bd, _, _, _, _, _, _, _, _, _, _, _, by rw [rows_get l hi]; rfl, _, z64 l[i], fun hh => ?_, fun hh => ?_⟩
    · refine endOD ?_
      unfold bytesR
      rw [if_neg (fun q => by
        have := q.2.1
        rw [List.any_eq_false] at this
        exact this l[i] (List.getElem_mem hi) hh)]; rfl
    · have hsz := flat_sz hJ
      rw [List.length_take] at hsz
      have hq := heavy_sz hh
      refine ⟨_, z65 _ l[i] (by omega), next _ ⟨?_, fun r hr => ?_⟩⟩
      · rw [List.take_succ_eq_append_getElem hi, List.flatMap_append]; simp
      · rw [List.take_succ_eq_append_getElem hi, List.mem_append, List.mem_singleton] at hr
        rcases hr with hr | rfl
        · exact hJ r hr
        · exact hh
  · obtain ⟨rfl, hJ⟩ := hJ
    rw [List.take_length] at hJ ⊢
    have hsz := flat_sz hJ
    have hany : l.any heavyRow = false := by
      rw [List.any_eq_false]
      exact fun r hr => by rw [hJ r hr]; simp
    have h37 := z37 (l.flatMap rowE) (by omega)
    have hok : ∀ r ∈ (resP (rowsB (l.flatMap rowE))).2, r.msg.keys.length ≤ 9223372036854775806 := by
      intro r hr
      cases e : rowsB (l.flatMap rowE) with
      | error x => rw [e] at hr; cases hr
      | ok m =>
        rw [e] at hr
        obtain ⟨e1, q1, q2⟩ := parseR_can _ _ _ _ e
        have := (q1 r hr).sm.keys
        omega
    have hlen : (resP (rowsB (l.flatMap rowE))).2.length ≤ 200 := by
      cases e : rowsB (l.flatMap rowE) with
      | error x => simp [resP]
      | ok m =>
        obtain ⟨e1, q1, q2⟩ := parseR_can _ _ _ _ e
        simp only [resP]; omega
    refine ⟨_, _, h37, _, fun _ => z38 _ l (by omega) hok, ?_⟩
    rintro b rfl
    cases e : rowsB (l.flatMap rowE) with
    | error x =>
      have hbad : ¬ (∀ r ∈ l, GoodR r) := fun q => by
        rw [(rowsB_iff l).2 ⟨q, hl⟩] at e; cases e
      have hb : bytesR l = [] := by unfold bytesR; rw [if_neg (fun q => hbad q.2.2)]
      rw [hb]
      refine ⟨fun _ => endOD rfl, fun hf => ?_⟩
      simp only [resP, Bool.or_eq_false_iff, Bool.not_eq_false'] at hf
      obtain rfl := (sameRs_iff.1 hf.2).symm
      exact absurd (fun r hr => by cases hr) hbad
    | ok m =>
      by_cases hm : m = l
      · subst hm
        have hg := ((rowsB_iff m).1 e).1
        have hb : bytesR m = m.flatMap rowE := by unfold bytesR; rw [if_pos ⟨hl, hany, hg⟩]
        rw [hb]
        refine ⟨fun hf => ?_, fun _ => endD rfl⟩
        simp [resP, sameRs_iff.2 rfl] at hf
      · have hbad : ¬ (∀ r ∈ l, GoodR r) := fun q => by
          rw [(rowsB_iff l).2 ⟨q, hl⟩] at e; cases e; exact hm rfl
        have hb : bytesR l = [] := by unfold bytesR; rw [if_neg (fun q => hbad q.2.2)]
        rw [hb]
        refine ⟨fun _ => endOD rfl, fun hf => ?_⟩
        simp only [resP, Bool.or_eq_false_iff, Bool.not_eq_false'] at hf
        exact absurd (sameRs_iff.1 hf.2) hm
end B
end Go.Proofs.YtmkkljbfmdngfaaGreatDoor

namespace Go.Proofs.YtmkkljbfmdngfaaGreatDoor
namespace B
open Go.RowKit

theorem runB_app : ∀ (l m : List Row) (b : Box), runB b (l ++ m) = if (runB b l).1 = 0 then runB (runB b l).2 m else ((runB b l).1, zeroB)
  | [], m, b => by simp [runB]
  | r :: l, m, b => by
    simp only [List.cons_append, runB]
    split
    · exact runB_app l m _
    · rename_i h; simp [h]
theorem allB_app {b : Box} (l m : List Row) (h : (allB b l).1 = 0) : allB b (l ++ m) = allB (allB b l).2 m := by
  have hb : mayBox b = 0 := by
    unfold allB at h
    split at h
    · assumption
    · simp at h
  have e : allB b l = runB b l := by unfold allB; rw [if_pos hb]
  rw [e] at h ⊢
  obtain ⟨hc, _⟩ := runB_may (c := (runB b l).2) (boxMay.1 hb) (Prod.ext h rfl)
  have e2 : allB (runB b l).2 m = runB (runB b l).2 m := by unfold allB; rw [if_pos (boxMay.2 hc)]
  rw [e2]
  unfold allB
  rw [if_pos hb, runB_app, if_pos h]
theorem allB_bad {b : Box} (l m : List Row) (h : (allB b l).1 ≠ 0) : (allB b (l ++ m)).1 = (allB b l).1 := by
  unfold allB at h ⊢
  split
  · rename_i hb
    rw [if_pos hb] at h
    rw [runB_app, if_neg h]
  · rfl
theorem allB_may {b : Box} {l : List Row} (h : (allB b l).1 = 0) : BoxMay (allB b l).2 := by
  unfold allB at h ⊢
  split
  · rename_i hb
    rw [if_pos hb] at h
    exact (runB_may (c := (runB b l).2) (boxMay.1 hb) (Prod.ext h rfl)).1
  · rename_i hb
    rw [if_neg hb] at h; simp at h
theorem bytesR_app {l m : List Row} (h : bytesR (l ++ m) ≠ []) : bytesR (l ++ m) = bytesR l ++ bytesR m := by
  have key : (l ++ m).length ≤ 200 ∧ (l ++ m).any heavyRow = false ∧ ∀ r ∈ l ++ m, GoodR r := Classical.byContradiction fun q => h (by unfold bytesR; rw [if_neg q])
  obtain ⟨h1, h2, h3⟩ := key
  rw [List.any_append, Bool.or_eq_false_iff] at h2
  have e1 : bytesR l = l.flatMap rowE := by
    unfold bytesR; rw [if_pos ⟨by rw [List.length_append] at h1; omega, h2.1, fun r hr => h3 r (List.mem_append_left _ hr)⟩]
  have e2 : bytesR m = m.flatMap rowE := by
    unfold bytesR; rw [if_pos ⟨by rw [List.length_append] at h1; omega, h2.2, fun r hr => h3 r (List.mem_append_right _ hr)⟩]
  have e3 : bytesR (l ++ m) = (l ++ m).flatMap rowE := by
    unfold bytesR; rw [if_pos ⟨h1, by rw [List.any_append, h2.1, h2.2]; rfl, h3⟩]
  rw [e1, e2, e3, List.flatMap_append]
theorem take_rows (l : List Row) (k : Nat) : List.drop (Int.toNat (nI 0)) (List.take (Int.toNat (k : Int)) (l.map Row.d)) = (l.take k).map Row.d := by simp [nI, List.map_take]
theorem drop_rows (l : List Row) (k : Nat) : List.drop (Int.toNat (k : Int)) (List.take (Int.toNat (nI (l.map Row.d).length)) (l.map Row.d)) = (l.drop k).map Row.d := by
  simp only [nI, Int.toNat_natCast]
  rw [List.take_of_length_le (Nat.le_refl _), List.map_drop]
theorem boxOk_zero : BoxOk zeroB := ⟨by decide, by decide, by decide, by decide, fun m hm => by cases hm⟩
theorem allB_ok {b : Box} {l : List Row} : BoxOk (allB b l).2 := by
  by_cases h : (allB b l).1 = 0
  · exact (allB_may h).ok
  · have : (allB b l).2 = zeroB := by
      have key : ∀ (l : List Row) (b : Box), (runB b l).1 ≠ 0 → (runB b l).2 = zeroB := by
        intro l
        induction l with
        | nil => intro b h; exact absurd rfl h
        | cons r l ih =>
          intro b h
          simp only [runB] at h ⊢
          split
          · rename_i q; rw [if_pos q] at h; exact ih _ h
          · rfl
      unfold allB at h ⊢
      split
      · rename_i hb; rw [if_pos hb] at h; exact key l b h
      · rfl
    rw [this]; exact boxOk_zero
theorem z11 (b : Box) (l : List Row) (t : Int) (hb : BoxIn b) (hl : RowIn l) : Runs P 11 [.d b.d, .d (.slice 11 (l.map Row.d)), .d (iD t)] [] (.d (.bool true)) [] := by
  refine runs_walkZ zt11 (zvc11 b.id b.valid b.next b.high (strs b.words) (b.msgs.map Msg.d) (l.map Row.d) t _ _) rfl (by simp) ?_
  refine ⟨_, r15 b hb.sz, _, fun _ => r28 l hl.n hl.sz, ?_⟩
  rintro b10 h10 b11 h11
  refine ⟨fun h => ⟨true, r29, endB rfl⟩, fun h => ?_⟩
  rw [h] at h11
  rw [nI_map] at h11
  simp only [Bool.or_eq_false_iff, decide_eq_false_iff_not] at h11
  obtain ⟨h10', hn⟩ := h11
  have hn : l.length ≤ 60 := by simp only [nI] at hn; omega
  rw [h10'] at h10
  simp only [Bool.or_eq_false_iff, decide_eq_false_iff_not] at h10
  have hrow : ∀ r ∈ l, RowOk r := fun r hr => RowOk.of (by have := heavyR_ok h10.2 r hr; omega)
  rintro _ rfl _ rfl _ rfl
  have e15 : Go.IntKind.wrap .u64 (Go.IntKind.wrap .i64 (nI (List.length (l.map Row.d)) + 1)) = (l.length : Int) + 1 := by
    rw [nI_map]; simp only [nI]; rw [W64 (by omega) (by omega), WU64]; omega
  rw [e15]
  refine ⟨by omega, ?_⟩
  rintro _ rfl
  obtain ⟨k, hk, hkl⟩ : ∃ k : Nat, (Go.IntKind.wrap .u64 t).tmod ((l.length : Int) + 1) = (k : Int) ∧ k ≤ l.length := by
    rw [WU64]
    have h0 : 0 ≤ t % 18446744073709551616 := Int.emod_nonneg _ (by decide)
    rw [Int.tmod_eq_emod_of_nonneg h0]
    have h1 := Int.emod_nonneg (t % 18446744073709551616) (show (l.length : Int) + 1 ≠ 0 by omega)
    have h2 := Int.emod_lt_of_pos (t % 18446744073709551616) (show 0 < (l.length : Int) + 1 by omega)
    exact ⟨(t % 18446744073709551616 % ((l.length : Int) + 1)).toNat, by omega, by omega⟩
  rw [hk]
  rintro _ rfl
  rw [W64 (n := (k : Int)) (by omega) (by omega)]
  have w1 := r32 b l hb.ok (by omega) hrow
  have w2 := r32 b (l.take k) hb.ok (by rw [List.length_take]; omega) (fun r hr => hrow r (List.mem_of_mem_take hr))
  have w3 := r32 (allB b (l.take k)).2 (l.drop k) allB_ok (by rw [List.length_drop]; omega) (fun r hr => hrow r (List.mem_of_mem_drop hr))
  have etd : l.take k ++ l.drop k = l := List.take_append_drop k l
  have hnl : nI (List.length (l.map Row.d)) = (l.length : Int) := nI_map _ _
  have hb1 : nI 0 ≤ (k : Int) := by simp [nI]
  refine ⟨_, _, _, _, _, _, _, w1, ⟨by decide, hb1, by rw [hnl]; omega⟩, ?_⟩
  rintro _ rfl
  rw [take_rows]
  refine ⟨_, _, _, _, _, _, _, w2, fun hf => ?_, fun hf => ⟨⟨by omega, by rw [hnl]; omega, Int.le_refl _⟩, ?_⟩⟩
  · have hf : (allB b (l.take k)).1 ≠ 0 := by simpa using hf
    have := allB_bad (l.take k) (l.drop k) hf
    rw [etd] at this
    refine ⟨true, fun _ => r29, ?_⟩
    rintro _ rfl
    rw [this]
    exact endB (by simp)
  have hf : (allB b (l.take k)).1 = 0 := by simpa using hf
  rintro _ rfl
  rw [drop_rows]
  refine ⟨_, _, _, _, _, _, _, w3, _, fun _ => r20 _ _ allB_ok, ?_⟩
  have ea := allB_app (l.take k) (l.drop k) hf
  rw [etd] at ea
  rintro b44 h44
  have e44 : b44 = false := by
    rw [← h44, ea, sameB_iff.2 rfl]; simp
  subst e44
  refine ⟨fun h => (by cases h), fun _ => ⟨⟨by decide, hb1, by rw [hnl]; omega⟩, ?_⟩⟩
  rintro _ rfl
  try rw [take_rows]
  refine ⟨_, z33 (l.take k) (by rw [List.length_take]; omega), ⟨by omega, by rw [hnl]; omega, Int.le_refl _⟩, ?_⟩
  rintro _ rfl
  try rw [drop_rows]
  refine ⟨_, z33 (l.drop k) (by rw [List.length_drop]; omega), _, z33 l (by omega), _, fun _ => rfl, _, fun _ => rfl, _, fun _ => rfl, fun _ => ?_, ?_⟩
  · have len : ∀ m : List Row, (bytesR m).length ≤ 2400 * 200 := by
      intro m
      unfold bytesR
      split
      · rename_i q
        have := flat_sz (l := m) fun r hr => by
          have := q.2.1
          rw [List.any_eq_false] at this
          simpa using this r hr
        have := q.1; omega
      · simp
    have := len (l.take k); have := len (l.drop k)
    rw [maxI64]; simp only [nI]; omega
  rintro _ rfl b54 h54
  have e54 : b54 = false := by
    rw [← h54]
    by_cases hz : bytesR l = []
    · rw [hz]; simp [bs, nI]
    · have := bytesR_app (l := l.take k) (m := l.drop k) (by rw [etd]; exact hz)
      rw [etd] at this
      rw [this]; simp
  subst e54
  exact ⟨fun h => (by cases h), fun _ => ⟨true, r29, endB rfl⟩⟩
end B
end Go.Proofs.YtmkkljbfmdngfaaGreatDoor
