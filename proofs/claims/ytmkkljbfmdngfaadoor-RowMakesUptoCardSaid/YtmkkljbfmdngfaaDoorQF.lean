/- SameBox, SameMsg, SameTexts: contracts on data. Conditions: sizes. -/
import Derived.Test.YtmkkljbfmdngfaaDoorQD
set_option linter.all false
namespace Go.Proofs.YtmkkljbfmdngfaaDoor
namespace B
open Go.RowKit
set_option maxRecDepth 100000
def af20 : AF := ⟨(.seq (.ops [⟨(some 2), (.box 6 true (.t 0)), none⟩, ⟨(some 3), (.box 6 true (.t 1)), none⟩, ⟨(some 4), (.mov (.c (.d (.bool false))) true none), none⟩]) (.seq (.seq (.ops [⟨(some 6), (.fieldA 0 (.t 2)), none⟩, ⟨(some 7), (.load false 1 (.t 6) false), none⟩, ⟨(some 8), (.fieldA 0 (.t 3)), none⟩, ⟨(some 9), (.load false 1 (.t 8) false), none⟩, ⟨(some 10), (.bin false .neq (.t 7) (.t 9)), none⟩, ⟨(some 11), (.mov (.t 10) true none), none⟩, ⟨(some 12), (.fieldA 1 (.t 2)), (some (11, false))⟩, ⟨(some 13), (.load false 1 (.t 12) false), (some (11, false))⟩, ⟨(some 14), (.fieldA 1 (.t 3)), (some (11, false))⟩, ⟨(some 15), (.load false 1 (.t 14) false), (some (11, false))⟩, ⟨(some 16), (.bin false .neq (.t 13) (.t 15)), (some (11, false))⟩, ⟨(some 17), (.pick (.t 11) (.c (.d (.bool true))) (.t 16)), none⟩, ⟨(some 18), (.mov (.t 17) true none), none⟩, ⟨(some 19), (.fieldA 2 (.t 2)), (some (18, false))⟩, ⟨(some 20), (.load false 1 (.t 19) false), (some (18, false))⟩, ⟨(some 21), (.fieldA 2 (.t 3)), (some (18, false))⟩, ⟨(some 22), (.load false 1 (.t 21) false), (some (18, false))⟩, ⟨(some 23), (.bin false .neq (.t 20) (.t 22)), (some (18, false))⟩, ⟨(some 24), (.pick (.t 18) (.c (.d (.bool true))) (.t 23)), none⟩, ⟨(some 25), (.mov (.t 24) true none), none⟩, ⟨(some 26), (.fieldA 3 (.t 2)), (some (25, false))⟩, ⟨(some 27), (.load false 1 (.t 26) false), (some (25, false))⟩, ⟨(some 28), (.fieldA 3 (.t 3)), (some (25, false))⟩, ⟨(some 29), (.load false 1 (.t 28) false), (some (25, false))⟩, ⟨(some 30), (.bin false .neq (.t 27) (.t 29)), (some (25, false))⟩, ⟨(some 31), (.pick (.t 25) (.c (.d (.bool true))) (.t 30)), none⟩, ⟨(some 32), (.mov (.t 31) true none), none⟩, ⟨(some 33), (.fieldA 4 (.t 2)), (some (32, false))⟩, ⟨(some 34), (.load false 1 (.t 33) false), (some (32, false))⟩, ⟨(some 35), (.fieldA 4 (.t 3)), (some (32, false))⟩, ⟨(some 36), (.load false 1 (.t 35) false), (some (32, false))⟩, ⟨(some 37), (.call 38 [((.t 34), (some 1)), ((.t 36), (some 1))] none), (some (32, false))⟩, ⟨(some 38), (.not (.t 37)), (some (32, false))⟩, ⟨(some 39), (.pick (.t 32) (.c (.d (.bool true))) (.t 38)), none⟩, ⟨(some 40), (.mov (.t 39) true none), none⟩, ⟨(some 41), (.fieldA 5 (.t 2)), (some (40, false))⟩, ⟨(some 42), (.load false 1 (.t 41) false), (some (40, false))⟩, ⟨(some 43), (.len (.t 42)), (some (40, false))⟩, ⟨(some 44), (.fieldA 5 (.t 3)), (some (40, false))⟩, ⟨(some 45), (.load false 1 (.t 44) false), (some (40, false))⟩, ⟨(some 46), (.len (.t 45)), (some (40, false))⟩, ⟨(some 47), (.bin false .neq (.t 43) (.t 46)), (some (40, false))⟩, ⟨(some 48), (.pick (.t 40) (.c (.d (.bool true))) (.t 47)), none⟩]) (.cond (.t 48) (.seq (.ops [⟨(some 4), (.mov (.c (.d (.bool false))) true none), none⟩]) .ret) .skip)) (.seq (.seq (.ops [⟨(some 49), (.fieldA 5 (.t 2)), none⟩, ⟨(some 50), (.load false 1 (.t 49) false), none⟩, ⟨(some 51), (.len (.t 50)), none⟩, ⟨(some 52), (.mov (.c (.d (.int .i64 0))) false none), none⟩]) (.block 0 (.loop (.seq (.ops [⟨(some 53), (.bin false .lss (.t 52) (.t 51)), none⟩]) (.seq (.cond (.t 53) .skip (.exit 0)) (.seq (.block 1 (.seq (.ops [⟨(some 54), (.mov (.t 52) true none), none⟩, ⟨(some 5), (.mov (.t 54) true none), none⟩]) (.seq (.draw [⟨(some 55), (.fieldA 5 (.t 2)), none⟩, ⟨(some 56), (.load false 1 (.t 55) false), none⟩, ⟨(some 57), (.mov (.t 5) false none), none⟩, ⟨(some 58), (.idxA 7 (.t 56) (.t 57)), none⟩, ⟨(some 59), (.load true 7 (.t 58) false), none⟩, ⟨(some 60), (.fieldA 5 (.t 3)), none⟩, ⟨(some 61), (.load false 1 (.t 60) false), none⟩, ⟨(some 62), (.mov (.t 5) false none), none⟩, ⟨(some 63), (.idxA 7 (.t 61) (.t 62)), none⟩, ⟨(some 64), (.load true 7 (.t 63) false), none⟩, ⟨(some 65), (.call 37 [((.t 59), none), ((.t 64), none)] none), none⟩, ⟨(some 66), (.not (.t 65)), none⟩] [0, 0, 0, 0, 0, 0, 0, 0, 0, 0, 3, 3] []) (.cond (.t 66) (.seq (.ops [⟨(some 4), (.mov (.c (.d (.bool false))) true none), none⟩]) .ret) .skip)))) (.ops [⟨(some 67), (.bin false .add (.t 52) (.c (.d (.int .i64 1)))), none⟩, ⟨(some 52), (.mov (.t 67) true none), none⟩]))))))) (.seq (.ops [⟨(some 4), (.mov (.c (.d (.bool true))) true none), none⟩]) .ret)))), [(.tm 4)], 2, 68⟩
theorem t20 : trF P HR 20 = some af20 := by kernel_rfl
def af37 : AF := ⟨(.seq (.ops [⟨(some 2), (.box 7 true (.t 0)), none⟩, ⟨(some 3), (.box 7 true (.t 1)), none⟩, ⟨(some 4), (.mov (.c (.d (.bool false))) true none), none⟩]) (.seq (.ops [⟨(some 5), (.fieldA 0 (.t 2)), none⟩, ⟨(some 6), (.load false 1 (.t 5) false), none⟩, ⟨(some 7), (.fieldA 0 (.t 3)), none⟩, ⟨(some 8), (.load false 1 (.t 7) false), none⟩, ⟨(some 9), (.bin false .eql (.t 6) (.t 8)), none⟩, ⟨(some 10), (.mov (.t 9) true none), none⟩, ⟨(some 11), (.fieldA 1 (.t 2)), (some (10, true))⟩, ⟨(some 12), (.load false 1 (.t 11) false), (some (10, true))⟩, ⟨(some 13), (.fieldA 1 (.t 3)), (some (10, true))⟩, ⟨(some 14), (.load false 1 (.t 13) false), (some (10, true))⟩, ⟨(some 15), (.bin false .eql (.t 12) (.t 14)), (some (10, true))⟩, ⟨(some 16), (.pick (.t 10) (.t 15) (.c (.d (.bool false)))), none⟩, ⟨(some 17), (.mov (.t 16) true none), none⟩, ⟨(some 18), (.fieldA 2 (.t 2)), (some (17, true))⟩, ⟨(some 19), (.load false 1 (.t 18) false), (some (17, true))⟩, ⟨(some 20), (.fieldA 2 (.t 3)), (some (17, true))⟩, ⟨(some 21), (.load false 1 (.t 20) false), (some (17, true))⟩, ⟨(some 22), (.bin false .eql (.t 19) (.t 21)), (some (17, true))⟩, ⟨(some 23), (.pick (.t 17) (.t 22) (.c (.d (.bool false)))), none⟩, ⟨(some 24), (.mov (.t 23) true none), none⟩, ⟨(some 25), (.fieldA 3 (.t 2)), (some (24, true))⟩, ⟨(some 26), (.load false 1 (.t 25) false), (some (24, true))⟩, ⟨(some 27), (.fieldA 3 (.t 3)), (some (24, true))⟩, ⟨(some 28), (.load false 1 (.t 27) false), (some (24, true))⟩, ⟨(some 29), (.bin false .eql (.t 26) (.t 28)), (some (24, true))⟩, ⟨(some 30), (.pick (.t 24) (.t 29) (.c (.d (.bool false)))), none⟩, ⟨(some 31), (.mov (.t 30) true none), none⟩, ⟨(some 32), (.fieldA 4 (.t 2)), (some (31, true))⟩, ⟨(some 33), (.load false 1 (.t 32) false), (some (31, true))⟩, ⟨(some 34), (.fieldA 4 (.t 3)), (some (31, true))⟩, ⟨(some 35), (.load false 1 (.t 34) false), (some (31, true))⟩, ⟨(some 36), (.bin false .eql (.t 33) (.t 35)), (some (31, true))⟩, ⟨(some 37), (.pick (.t 31) (.t 36) (.c (.d (.bool false)))), none⟩, ⟨(some 38), (.mov (.t 37) true none), none⟩, ⟨(some 39), (.fieldA 5 (.t 2)), (some (38, true))⟩, ⟨(some 40), (.load false 1 (.t 39) false), (some (38, true))⟩, ⟨(some 41), (.fieldA 5 (.t 3)), (some (38, true))⟩, ⟨(some 42), (.load false 1 (.t 41) false), (some (38, true))⟩, ⟨(some 43), (.call 87 [((.t 40), (some 1)), ((.t 42), (some 1))] none), (some (38, true))⟩, ⟨(some 44), (.pick (.t 38) (.t 43) (.c (.d (.bool false)))), none⟩, ⟨(some 45), (.mov (.t 44) true none), none⟩, ⟨(some 46), (.fieldA 6 (.t 2)), (some (45, true))⟩, ⟨(some 47), (.load false 1 (.t 46) false), (some (45, true))⟩, ⟨(some 48), (.fieldA 6 (.t 3)), (some (45, true))⟩, ⟨(some 49), (.load false 1 (.t 48) false), (some (45, true))⟩, ⟨(some 50), (.bin false .eql (.t 47) (.t 49)), (some (45, true))⟩, ⟨(some 51), (.pick (.t 45) (.t 50) (.c (.d (.bool false)))), none⟩, ⟨(some 4), (.mov (.t 51) true none), none⟩]) .ret)), [(.tm 4)], 2, 52⟩
theorem t37 : trF P HR 37 = some af37 := by kernel_rfl
def af87 : AF := ⟨(.seq (.ops [⟨(some 4), (.mov (.c (.d (.bool false))) true none), none⟩]) (.seq (.seq (.ops [⟨(some 6), (.mov (.t 0) false (some 1)), none⟩, ⟨(some 7), (.len (.t 6)), none⟩, ⟨(some 8), (.mov (.t 1) false (some 1)), none⟩, ⟨(some 9), (.len (.t 8)), none⟩, ⟨(some 10), (.bin false .neq (.t 7) (.t 9)), none⟩]) (.cond (.t 10) (.seq (.ops [⟨(some 4), (.mov (.c (.d (.bool false))) true none), none⟩]) .ret) .skip)) (.seq (.seq (.ops [⟨(some 11), (.mov (.t 0) false (some 1)), none⟩, ⟨(some 12), (.len (.t 11)), none⟩, ⟨(some 13), (.mov (.c (.d (.int .i64 0))) false none), none⟩]) (.block 0 (.loop (.seq (.ops [⟨(some 14), (.bin false .lss (.t 13) (.t 12)), none⟩]) (.seq (.cond (.t 14) .skip (.exit 0)) (.seq (.block 1 (.seq (.ops [⟨(some 15), (.mov (.t 13) true none), none⟩, ⟨(some 5), (.mov (.t 15) true none), none⟩]) (.seq (.draw [⟨(some 16), (.mov (.t 0) false (some 1)), none⟩, ⟨(some 17), (.mov (.t 5) false none), none⟩, ⟨(some 18), (.idxA 1 (.t 16) (.t 17)), none⟩, ⟨(some 19), (.load false 1 (.t 18) false), none⟩, ⟨(some 20), (.mov (.t 1) false (some 1)), none⟩, ⟨(some 21), (.mov (.t 5) false none), none⟩, ⟨(some 22), (.idxA 1 (.t 20) (.t 21)), none⟩, ⟨(some 23), (.load false 1 (.t 22) false), none⟩, ⟨(some 24), (.bin false .neq (.t 19) (.t 23)), none⟩] [0, 0, 0, 0, 0, 0, 0, 0, 3] []) (.cond (.t 24) (.seq (.ops [⟨(some 4), (.mov (.c (.d (.bool false))) true none), none⟩]) .ret) .skip)))) (.ops [⟨(some 25), (.bin false .add (.t 13) (.c (.d (.int .i64 1)))), none⟩, ⟨(some 13), (.mov (.t 25) true none), none⟩]))))))) (.seq (.ops [⟨(some 4), (.mov (.c (.d (.bool true))) true none), none⟩]) .ret)))), [(.tm 4)], 2, 26⟩
theorem t87 : trF P HR 87 = some af87 := by kernel_rfl
theorem vc37 (n0 : Int) (n1 : Int) (n2 : Int) (s3 : Bytes) (n4 : Int) (l5 : List D) (s6 : Bytes) (n7 : Int) (n8 : Int) (n9 : Int) (s10 : Bytes) (n11 : Int) (l12 : List D) (s13 : Bytes) (res : CV) (objs' : List (Nat × List CV)) : walkA P (tbF P [102,103,50,48,53,56,105,58,107,7000052] [] 37) (anOf af37 []) af37 [CV.d (D.agg [D.int .i64 n0, D.int .i64 n1, D.int .i64 n2, D.str s3, D.int .i64 n4, D.slice 1 l5, D.str s6]), CV.d (D.agg [D.int .i64 n7, D.int .i64 n8, D.int .i64 n9, D.str s10, D.int .i64 n11, D.slice 1 l12, D.str s13])] [] (fun rs => endE rs res objs') = ((∀ b14 : Bool, ((n0 == n7 && n1 == n8) = b14 → (∀ b15 : Bool, ((b14 && n2 == n9) = b15 → (∀ b16 : Bool, ((b15 && s3 == s10) = b16 → (∀ b17 : Bool, ((b16 && n4 == n11) = b17 → (∃ b18 : Bool, ((b17 = true → Runs P 87 [CV.d (D.slice 1 l5), CV.d (D.slice 1 l12)] [] (CV.d (D.bool b18)) []) ∧ (∀ b19 : Bool, ((b17 && b18) = b19 → (∀ b20 : Bool, ((b19 && s6 == s13) = b20 → EndR (CV.d (D.bool b20)) res [(2, [CV.d (D.int .i64 n0), CV.d (D.int .i64 n1), CV.d (D.int .i64 n2), CV.d (D.str s3), CV.d (D.int .i64 n4), CV.d (D.slice 1 l5), CV.d (D.str s6)]), (3, [CV.d (D.int .i64 n7), CV.d (D.int .i64 n8), CV.d (D.int .i64 n9), CV.d (D.str s10), CV.d (D.int .i64 n11), CV.d (D.slice 1 l12), CV.d (D.str s13)])] objs'))))))))))))))) := by kernel_rfl
theorem vc87 (l0 : List D) (l1 : List D) (res : CV) (objs' : List (Nat × List CV)) : walkA P (tbF P [102,103,50,48,53,56,105,58,107,7000052] [] 87) (anOf af87 []) af87 [CV.d (D.slice 1 l0), CV.d (D.slice 1 l1)] [] (fun rs => endE rs res objs') = ((((nI (List.length l0) != nI (List.length l1)) = true → EndR (CV.d (D.bool false)) res [] objs') ∧ ((nI (List.length l0) != nI (List.length l1)) = false → (∃ I2 : (Int → (Nat → Prop)), ((∃ k3 : Nat, I2 0 k3) ∧ (∀ n4 : Int, (∀ k5 : Nat, (I2 n4 k5 → (((decide (n4 < nI (List.length l0))) = true → ((0 ≤ n4 ∧ n4 < nI (List.length l0)) ∧ (∃ n6 : Int, ((D.cells (List.getD l0 (Int.toNat n4) D.nilp) = [D.int .i64 n6]) ∧ ((0 ≤ n4 ∧ n4 < nI (List.length l1)) ∧ (∃ n7 : Int, ((D.cells (List.getD l1 (Int.toNat n4) D.nilp) = [D.int .i64 n7]) ∧ (((n6 != n7) = true → EndR (CV.d (D.bool false)) res [] objs') ∧ ((n6 != n7) = false → (∀ n8 : Int, (Go.IntKind.wrap Go.IntKind.i64 (n4 + 1) = n8 → (∃ k9 : Nat, ((k9 < k5) ∧ I2 n8 k9))))))))))))) ∧ ((decide (n4 < nI (List.length l0))) = false → EndR (CV.d (D.bool true)) res [] objs')))))))))) := by kernel_rfl
theorem r87 (a b : List Int) (ha : a.length ≤ 9223372036854775806) : Runs P 87 [.d (.slice 1 (ints a)), .d (.slice 1 (ints b))] [] (.d (.bool (a == b))) [] := by
  refine runs_walkA t87 rfl (vc87 _ _ _ _) (by simp) ?_
  rw [ints_len, ints_len]
  have no : a ≠ b → EndR (.d (.bool false)) (.d (.bool (a == b))) [] [] := fun h => endB (by simp [h])
  refine ⟨fun h => no (by rintro rfl; simp at h), fun h => ?_⟩
  have hl : a.length = b.length := by simp [nI] at h; omega
  refine range1 (N := a.length) (fun i => a.take i = b.take i) ha (by simp) (fun i hi bd hJ I k next => ?_) fun hJ => ?_
  · have hi2 : i < b.length := by omega
    refine ⟨bd, a[i], by rw [ints_get _ hi]; rfl, ⟨by omega, by simp only [nI]; omega⟩, b[i], by rw [ints_get _ hi2]; rfl, fun h => no (by rintro rfl; simp at h), fun h => ?_⟩
    have he : a[i] = b[i] := by simpa using h
    exact next (by rw [List.take_add_one, List.take_add_one, hJ, List.getElem?_eq_getElem hi, List.getElem?_eq_getElem hi2, he])
  · have : a = b := by
      rw [List.take_length] at hJ
      rw [hJ, hl, List.take_length]
    exact endB (by simp [this])
def sameM (a b : Msg) : Bool := (((((a.uid == b.uid && a.mod == b.mod) && a.date == b.date) && a.id == b.id) && a.flags == b.flags) && a.keys == b.keys) && a.text == b.text
theorem sameM_iff {a b : Msg} : sameM a b = true ↔ a = b := by
  cases a; cases b
  unfold sameM
  simp only [Bool.and_eq_true, beq_iff_eq, Msg.mk.injEq]
  constructor
  · rintro ⟨⟨⟨⟨⟨⟨rfl, rfl⟩, rfl⟩, rfl⟩, rfl⟩, rfl⟩, rfl⟩; simp
  · rintro ⟨rfl, rfl, rfl, rfl, rfl, rfl, rfl⟩; simp
theorem r37 (a b : Msg) (ha : a.keys.length ≤ 9223372036854775806) : Runs P 37 [.d a.d, .d b.d] [] (.d (.bool (sameM a b))) [] := by
  refine runs_walkA t37 rfl (vc37 _ _ _ _ _ _ _ _ _ _ _ _ _ _ _ _) (by simp) ?_
  rintro _ rfl _ rfl _ rfl _ rfl
  refine ⟨_, fun _ => r87 _ _ ha, ?_⟩
  rintro _ rfl _ rfl
  exact endB rfl
end B
end Go.Proofs.YtmkkljbfmdngfaaDoor

namespace Go.Proofs.YtmkkljbfmdngfaaDoor
namespace B

def cutRow (u m : Int) : Row := ⟨3, u, m, ⟨0, 0, 0, [], 0, [], []⟩, []⟩
def cutRows (h : Int) : List Int → List Row
  | [] => []
  | u :: r => cutRow u (h + 1) :: cutRows (h + 1) r
theorem cutRows_snoc : ∀ (l : List Int) (h u : Int), cutRows h (l ++ [u]) = cutRows h l ++ [cutRow u (h + l.length + 1)]
  | [], h, u => by simp [cutRows]
  | x :: r, h, u => by
    rw [List.cons_append, cutRows, cutRows_snoc r, cutRows, List.cons_append]
    congr 4
    simp only [List.length_cons]; omega
theorem cutRows_len : ∀ (l : List Int) (h : Int), (cutRows h l).length = l.length
  | [], _ => rfl
  | x :: r, h => by rw [cutRows, List.length_cons, cutRows_len r, List.length_cons]
def cutsB (b : Box) : List Int → List Int → Bool
  | _, [] => true
  | pre, u :: r => ((findM b.msgs u).isSome && !pre.contains u) && cutsB b (pre ++ [u]) r
def cutOut (b : Box) (l : List Int) : Int × List Row :=
  if mayBox b ≠ 0 then (1, []) else if cutsB b [] l = false then (6, []) else if 1000000 < b.high + l.length then (9, []) else (0, cutRows b.high l)
end B
end Go.Proofs.YtmkkljbfmdngfaaDoor

namespace Go.Proofs.YtmkkljbfmdngfaaDoor
namespace B
set_option maxRecDepth 100000
def af31 : AF := ⟨(.seq (.ops [⟨(some 2), (.box 6 true (.t 0)), none⟩, ⟨(some 4), (.mov (.c .nils) true (some 11)), none⟩, ⟨(some 5), (.mov (.c (.d (.int .i64 0))) true none), none⟩]) (.seq (.seq (.ops [⟨(some 11), (.load true 6 (.t 2) false), none⟩, ⟨(some 12), (.call 47 [((.t 11), none)] none), none⟩, ⟨(some 13), (.bin false .neq (.t 12) (.c (.d (.int .i64 0)))), none⟩]) (.cond (.t 13) (.seq (.ops [⟨(some 4), (.mov (.c .nils) true (some 11)), none⟩, ⟨(some 5), (.mov (.c (.d (.int .i64 1))) true none), none⟩]) .ret) .skip)) (.seq (.seq (.ops [⟨(some 14), (.mov (.t 1) false (some 1)), none⟩, ⟨(some 15), (.len (.t 14)), none⟩, ⟨(some 16), (.mov (.c (.d (.int .i64 0))) false none), none⟩]) (.block 0 (.loop (.seq (.ops [⟨(some 17), (.bin false .lss (.t 16) (.t 15)), none⟩]) (.seq (.cond (.t 17) .skip (.exit 0)) (.seq (.block 1 (.seq (.ops [⟨(some 18), (.mov (.t 16) true none), none⟩, ⟨(some 19), (.idxA 1 (.t 14) (.t 16)), none⟩, ⟨(some 20), (.load false 1 (.t 19) false), none⟩, ⟨(some 6), (.mov (.t 18) true none), none⟩, ⟨(some 7), (.mov (.t 20) true none), none⟩]) (.seq (.ops [⟨(some 21), (.load true 6 (.t 2) false), none⟩, ⟨(some 22), (.mov (.t 7) false none), none⟩, ⟨(some 23), (.call 33 [((.t 21), none), ((.t 22), none)] none), none⟩, ⟨(some 24), (.bin false .lss (.t 23) (.c (.d (.int .i64 0)))), none⟩, ⟨(some 25), (.mov (.t 24) true none), none⟩, ⟨(some 26), (.mov (.t 1) false (some 1)), (some (25, false))⟩, ⟨(some 27), (.mov (.t 6) false none), (some (25, false))⟩, ⟨(some 28), (.slice 1 (.t 26) none (some (.t 27))), (some (25, false))⟩, ⟨(some 29), (.mov (.t 7) false none), (some (25, false))⟩, ⟨(some 30), (.call 71 [((.t 28), (some 1)), ((.t 29), none)] none), (some (25, false))⟩, ⟨(some 31), (.pick (.t 25) (.c (.d (.bool true))) (.t 30)), none⟩]) (.cond (.t 31) (.seq (.ops [⟨(some 4), (.mov (.c .nils) true (some 11)), none⟩, ⟨(some 5), (.mov (.c (.d (.int .i64 6))) true none), none⟩]) .ret) .skip)))) (.ops [⟨(some 32), (.bin false .add (.t 16) (.c (.d (.int .i64 1)))), none⟩, ⟨(some 16), (.mov (.t 32) true none), none⟩]))))))) (.seq (.seq (.ops [⟨(some 33), (.fieldA 3 (.t 2)), none⟩, ⟨(some 34), (.load false 1 (.t 33) false), none⟩, ⟨(some 35), (.mov (.t 1) false (some 1)), none⟩, ⟨(some 36), (.len (.t 35)), none⟩, ⟨(some 37), (.bin false .add (.t 34) (.t 36)), none⟩, ⟨(some 38), (.bin false .gtr (.t 37) (.c (.d (.int .i64 1000000)))), none⟩]) (.cond (.t 38) (.seq (.ops [⟨(some 4), (.mov (.c .nils) true (some 11)), none⟩, ⟨(some 5), (.mov (.c (.d (.int .i64 9))) true none), none⟩]) .ret) .skip)) (.seq (.ops [⟨(some 8), (.mov (.c .nils) true (some 11)), none⟩]) (.seq (.seq (.ops [⟨(some 39), (.mov (.t 1) false (some 1)), none⟩, ⟨(some 40), (.len (.t 39)), none⟩, ⟨(some 41), (.mov (.c (.d (.int .i64 0))) false none), none⟩]) (.block 2 (.loop (.seq (.ops [⟨(some 42), (.bin false .lss (.t 41) (.t 40)), none⟩]) (.seq (.cond (.t 42) .skip (.exit 2)) (.seq (.block 3 (.seq (.ops [⟨(some 43), (.mov (.t 41) true none), none⟩, ⟨(some 44), (.idxA 1 (.t 39) (.t 41)), none⟩, ⟨(some 45), (.load false 1 (.t 44) false), none⟩, ⟨(some 9), (.mov (.t 43) true none), none⟩, ⟨(some 10), (.mov (.t 45) true none), none⟩]) (.ops [⟨(some 46), (.mov (.t 8) true (some 11)), none⟩, ⟨(some 47), (.mov (.t 10) false none), none⟩, ⟨(some 48), (.fieldA 3 (.t 2)), none⟩, ⟨(some 49), (.load false 1 (.t 48) false), none⟩, ⟨(some 50), (.bin false .add (.t 49) (.c (.d (.int .i64 1)))), none⟩, ⟨(some 51), (.mov (.t 9) false none), none⟩, ⟨(some 52), (.bin false .add (.t 50) (.t 51)), none⟩, ⟨(some 53), (.build [(.d (.int .i64 0)), (.d (.int .i64 0)), (.d (.int .i64 0)), (.d (.int .i64 0)), (.d (.int .i64 0)), (.d (.int .i64 0)), (.d (.str [])), (.d (.int .i64 0)), (.d (.nils 1)), (.d (.str [])), (.d (.str []))] [(0, (1, (.c (.d (.int .i64 3))))), (1, (1, (.t 47))), (2, (1, (.t 52)))]), none⟩, ⟨(some 54), (.buildSl 11 [(.t 53)]), none⟩, ⟨(some 55), (.append 11 128 (.t 46) (.t 54)), none⟩, ⟨(some 8), (.mov (.t 55) true (some 11)), none⟩]))) (.ops [⟨(some 56), (.bin false .add (.t 41) (.c (.d (.int .i64 1)))), none⟩, ⟨(some 41), (.mov (.t 56) true none), none⟩]))))))) (.seq (.ops [⟨(some 57), (.mov (.t 8) true (some 11)), none⟩, ⟨(some 4), (.mov (.t 57) true (some 11)), none⟩, ⟨(some 5), (.mov (.c (.d (.int .i64 0))) true none), none⟩]) .ret))))))), [(.tm 4), (.tm 5)], 2, 58⟩
theorem t31 : trF P HR 31 = some af31 := by kernel_rfl
theorem vc31 (s0 : Bytes) (n1 : Int) (n2 : Int) (n3 : Int) (l4 : List D) (l5 : List D) (l6 : List D) (res : CV) (objs' : List (Nat × List CV)) : walkA P (tbF P [102,103,50,48,53,56,105,58,107,1000118,7000119,107500072,1072002141,86,129] [] 31) (anOf af31 []) af31 [CV.d (D.agg [D.str s0, D.int .i64 n1, D.int .i64 n2, D.int .i64 n3, D.slice 1 l4, D.slice 7 l5]), CV.d (D.slice 1 l6)] [] (fun rs => endE rs res objs') = ((∃ n7 : Int, ((Runs P 47 [CV.d (D.agg [D.str s0, D.int .i64 n1, D.int .i64 n2, D.int .i64 n3, D.slice 1 l4, D.slice 7 l5])] [] (CV.d (D.int .i64 n7)) []) ∧ (((n7 != 0) = true → EndR (CV.tup [CV.own (11 : Nat) [], CV.d (D.int .i64 (1 : Int))]) res [(2, [CV.d (D.str s0), CV.d (D.int .i64 n1), CV.d (D.int .i64 n2), CV.d (D.int .i64 n3), CV.d (D.slice 1 l4), CV.d (D.slice 7 l5)])] objs') ∧ ((n7 != 0) = false → (∃ I8 : (Int → (Nat → Prop)), ((∃ k9 : Nat, I8 0 k9) ∧ (∀ n10 : Int, (∀ k11 : Nat, (I8 n10 k11 → (((decide (n10 < nI (List.length l6))) = true → ((0 ≤ n10 ∧ n10 < nI (List.length l6)) ∧ (∃ n12 : Int, ((D.cells (List.getD l6 (Int.toNat n10) D.nilp) = [D.int .i64 n12]) ∧ (∃ n13 : Int, ((Runs P 33 [CV.d (D.agg [D.str s0, D.int .i64 n1, D.int .i64 n2, D.int .i64 n3, D.slice 1 l4, D.slice 7 l5]), CV.d (D.int .i64 n12)] [] (CV.d (D.int .i64 n13)) []) ∧ (((!decide (n13 < 0)) = true → 0 ≤ nI (0 : Nat) ∧ nI (0 : Nat) ≤ n10 ∧ n10 ≤ nI (List.length l6)) ∧ (∀ l14 : List D, (List.drop (Int.toNat (nI (0 : Nat))) (List.take (Int.toNat n10) l6) = l14 → (∃ b15 : Bool, (((!decide (n13 < 0)) = true → Runs P 71 [CV.d (D.slice 1 l14), CV.d (D.int .i64 n12)] [] (CV.d (D.bool b15)) []) ∧ (∀ b16 : Bool, ((decide (n13 < 0) || b15) = b16 → (((b16) = true → EndR (CV.tup [CV.own (11 : Nat) [], CV.d (D.int .i64 (6 : Int))]) res [(2, [CV.d (D.str s0), CV.d (D.int .i64 n1), CV.d (D.int .i64 n2), CV.d (D.int .i64 n3), CV.d (D.slice 1 l4), CV.d (D.slice 7 l5)])] objs') ∧ ((b16) = false → (∀ n17 : Int, (Go.IntKind.wrap Go.IntKind.i64 (n10 + 1) = n17 → (∃ k18 : Nat, ((k18 < k11) ∧ I8 n17 k18))))))))))))))))))) ∧ ((decide (n10 < nI (List.length l6))) = false → (∀ n19 : Int, (Go.IntKind.wrap Go.IntKind.i64 (n3 + nI (List.length l6)) = n19 → (((decide (n19 > 1000000)) = true → EndR (CV.tup [CV.own (11 : Nat) [], CV.d (D.int .i64 (9 : Int))]) res [(2, [CV.d (D.str s0), CV.d (D.int .i64 n1), CV.d (D.int .i64 n2), CV.d (D.int .i64 n3), CV.d (D.slice 1 l4), CV.d (D.slice 7 l5)])] objs') ∧ ((decide (n19 > 1000000)) = false → (∃ I20 : (Int → (List D → (Nat → Prop))), ((∃ k21 : Nat, I20 0 [] k21) ∧ (∀ n22 : Int, (∀ l23 : List D, (∀ k24 : Nat, (I20 n22 l23 k24 → (((decide (n22 < nI (List.length l6))) = true → ((0 ≤ n22 ∧ n22 < nI (List.length l6)) ∧ (∃ n25 : Int, ((D.cells (List.getD l6 (Int.toNat n22) D.nilp) = [D.int .i64 n25]) ∧ (∀ n26 : Int, (Go.IntKind.wrap Go.IntKind.i64 (n3 + 1) = n26 → (∀ n27 : Int, (Go.IntKind.wrap Go.IntKind.i64 (n26 + n22) = n27 → (((List.length l23 + List.length [D.agg [D.int .i64 3, D.int .i64 n25, D.int .i64 n27, D.int .i64 0, D.int .i64 0, D.int .i64 0, D.str [], D.int .i64 0, D.slice 1 [], D.str [], D.str []]]) * 128 ≤ 140737488355328) ∧ (∀ n28 : Int, (Go.IntKind.wrap Go.IntKind.i64 (n22 + 1) = n28 → (∃ k29 : Nat, ((k29 < k24) ∧ I20 n28 (l23 ++ [D.agg [D.int .i64 3, D.int .i64 n25, D.int .i64 n27, D.int .i64 0, D.int .i64 0, D.int .i64 0, D.str [], D.int .i64 0, D.slice 1 [], D.str [], D.str []]]) k29))))))))))))) ∧ ((decide (n22 < nI (List.length l6))) = false → EndR (CV.tup [CV.own 11 l23, CV.d (D.int .i64 0)]) res [(2, [CV.d (D.str s0), CV.d (D.int .i64 n1), CV.d (D.int .i64 n2), CV.d (D.int .i64 n3), CV.d (D.slice 1 l4), CV.d (D.slice 7 l5)])] objs')))))))))))))))))))))))) := by kernel_rfl
theorem vc33 (s0 : Bytes) (n1 : Int) (n2 : Int) (n3 : Int) (l4 : List D) (l5 : List D) (n6 : Int) (res : CV) (objs' : List (Nat × List CV)) : walkA P (tbF P [102,103,50,48,53,56,105,58,107,1000118,7000119,107500072,1072002141,86,129] [] 33) (anOf af33 []) af33 [CV.d (D.agg [D.str s0, D.int .i64 n1, D.int .i64 n2, D.int .i64 n3, D.slice 1 l4, D.slice 7 l5]), CV.d (D.int .i64 n6)] [] (fun rs => endE rs res objs') = ((∃ n7 : Int, (∃ n8 : Int, ((Runs P 74 [CV.d (D.slice 7 l5), CV.fn 75 [3]] [(3, [CV.d (D.int .i64 n6)])] (CV.d (D.int .i64 n8)) [(3, [CV.d (D.int .i64 n7)])]) ∧ EndR (CV.d (D.int .i64 n8)) res [(2, [CV.d (D.str s0), CV.d (D.int .i64 n1), CV.d (D.int .i64 n2), CV.d (D.int .i64 n3), CV.d (D.slice 1 l4), CV.d (D.slice 7 l5)]), (3, [CV.d (D.int .i64 n7)])] objs')))) := by kernel_rfl
def af71 : AF := ⟨(.seq (.ops [⟨(some 4), (.mov (.c (.d (.bool false))) true none), none⟩]) (.seq (.ops [⟨(some 5), (.mov (.t 0) false (some 1)), none⟩, ⟨(some 6), (.mov (.t 1) false none), none⟩, ⟨(some 7), (.call 117 [((.t 5), (some 1)), ((.t 6), none)] none), none⟩, ⟨(some 8), (.bin false .geq (.t 7) (.c (.d (.int .i64 0)))), none⟩, ⟨(some 4), (.mov (.t 8) true none), none⟩]) .ret)), [(.tm 4)], 2, 9⟩
theorem t71 : trF P HR 71 = some af71 := by kernel_rfl
def af117 : AF := ⟨(.seq (.ops [⟨(some 4), (.mov (.c (.d (.int .i64 0))) true none), none⟩]) (.seq (.seq (.ops [⟨(some 6), (.mov (.t 0) false (some 1)), none⟩, ⟨(some 7), (.len (.t 6)), none⟩, ⟨(some 8), (.mov (.c (.d (.int .i64 0))) false none), none⟩]) (.block 0 (.loop (.seq (.ops [⟨(some 9), (.bin false .lss (.t 8) (.t 7)), none⟩]) (.seq (.cond (.t 9) .skip (.exit 0)) (.seq (.block 1 (.seq (.ops [⟨(some 10), (.mov (.t 8) true none), none⟩, ⟨(some 5), (.mov (.t 10) true none), none⟩]) (.seq (.ops [⟨(some 11), (.mov (.t 1) false none), none⟩, ⟨(some 12), (.mov (.t 0) false (some 1)), none⟩, ⟨(some 13), (.mov (.t 5) false none), none⟩, ⟨(some 14), (.idxA 1 (.t 12) (.t 13)), none⟩, ⟨(some 15), (.load false 1 (.t 14) false), none⟩, ⟨(some 16), (.bin false .eql (.t 11) (.t 15)), none⟩]) (.cond (.t 16) (.seq (.ops [⟨(some 17), (.mov (.t 5) true none), none⟩, ⟨(some 4), (.mov (.t 17) true none), none⟩]) .ret) .skip)))) (.ops [⟨(some 18), (.bin false .add (.t 8) (.c (.d (.int .i64 1)))), none⟩, ⟨(some 8), (.mov (.t 18) true none), none⟩]))))))) (.seq (.ops [⟨(some 4), (.mov (.c (.d (.int .i64 (-1)))) true none), none⟩]) .ret))), [(.tm 4)], 2, 19⟩
theorem t117 : trF P HR 117 = some af117 := by kernel_rfl
theorem vc74d (ms : List D) (u : Int) (res : CV) (objs' : List (Nat × List CV)) : walkA P (tbF P [102,103,50,48,53,56,105,58,107,1000118,7000119,107500072,1072002141,86,129] [] 74) (anOf af74 []) af74 [CV.d (D.slice 7 ms), CV.fn 75 [1000]] [(1000, [CV.d (D.int .i64 u)])] (fun rs => endE rs res objs') = ((∃ I2 : (Int → (Int → (Nat → Prop))), ((∃ k3 : Nat, I2 0 u k3) ∧ (∀ n4 : Int, (∀ n5 : Int, (∀ k6 : Nat, (I2 n4 n5 k6 → (((decide (n4 < nI (List.length ms))) = true → ((0 ≤ n4 ∧ n4 < nI (List.length ms)) ∧ (∃ n7 : Int, (∃ n8 : Int, (∃ n9 : Int, (∃ s10 : Bytes, (∃ n11 : Int, (∃ l12 : List D, (∃ s13 : Bytes, ((D.cells (List.getD ms (Int.toNat n4) D.nilp) = [D.int .i64 n7, D.int .i64 n8, D.int .i64 n9, D.str s10, D.int .i64 n11, D.slice 1 l12, D.str s13]) ∧ (∃ n14 : Int, (∃ b15 : Bool, ((Runs P 75 [CV.d (D.agg [D.int .i64 n7, D.int .i64 n8, D.int .i64 n9, D.str s10, D.int .i64 n11, D.slice 1 l12, D.str s13]), CV.ptr 1000 0] [(1000, [CV.d (D.int .i64 n5)])] (CV.d (D.bool b15)) [(1000, [CV.d (D.int .i64 n14)])]) ∧ (((b15) = true → EndR (CV.d (D.int .i64 n4)) res [(1000, [CV.d (D.int .i64 n14)])] objs') ∧ ((b15) = false → (∀ n16 : Int, (Go.IntKind.wrap Go.IntKind.i64 (n4 + 1) = n16 → (∃ k17 : Nat, ((k17 < k6) ∧ I2 n16 n14 k17))))))))))))))))))) ∧ ((decide (n4 < nI (List.length ms))) = false → EndR (CV.d (D.int .i64 (-1 : Int))) res [(1000, [CV.d (D.int .i64 n5)])] objs'))))))))) := by kernel_rfl
theorem vc71 (l0 : List D) (n1 : Int) (res : CV) (objs' : List (Nat × List CV)) : walkA P (tbF P [102,103,50,48,53,56,105,58,107,1000118,7000119,107500072,1072002141,86,129] [] 71) (anOf af71 []) af71 [CV.d (D.slice 1 l0), CV.d (D.int .i64 n1)] [] (fun rs => endE rs res objs') = ((∃ n2 : Int, ((Runs P 117 [CV.d (D.slice 1 l0), CV.d (D.int .i64 n1)] [] (CV.d (D.int .i64 n2)) []) ∧ EndR (CV.d (D.bool (decide (n2 ≥ 0)))) res [] objs'))) := by kernel_rfl
theorem vc117 (l0 : List D) (n1 : Int) (res : CV) (objs' : List (Nat × List CV)) : walkA P (tbF P [102,103,50,48,53,56,105,58,107,1000118,7000119,107500072,1072002141,86,129] [] 117) (anOf af117 []) af117 [CV.d (D.slice 1 l0), CV.d (D.int .i64 n1)] [] (fun rs => endE rs res objs') = ((∃ I2 : (Int → (Nat → Prop)), ((∃ k3 : Nat, I2 0 k3) ∧ (∀ n4 : Int, (∀ k5 : Nat, (I2 n4 k5 → (((decide (n4 < nI (List.length l0))) = true → ((0 ≤ n4 ∧ n4 < nI (List.length l0)) ∧ (∃ n6 : Int, ((D.cells (List.getD l0 (Int.toNat n4) D.nilp) = [D.int .i64 n6]) ∧ (((n1 == n6) = true → EndR (CV.d (D.int .i64 n4)) res [] objs') ∧ ((n1 == n6) = false → (∀ n7 : Int, (Go.IntKind.wrap Go.IntKind.i64 (n4 + 1) = n7 → (∃ k8 : Nat, ((k8 < k5) ∧ I2 n7 k8)))))))))) ∧ ((decide (n4 < nI (List.length l0))) = false → EndR (CV.d (D.int .i64 (-1 : Int))) res [] objs')))))))) := by kernel_rfl
end B
end Go.Proofs.YtmkkljbfmdngfaaDoor

namespace Go.Proofs.YtmkkljbfmdngfaaDoor
namespace B
open Go.RowKit

def idxI (l : List Int) (s : Int) : Int := if l.contains s then (l.idxOf s : Int) else -1
theorem r117 (l : List Int) (s : Int) (hl : l.length ≤ 9223372036854775806) : Runs P 117 [.d (.slice 1 (ints l)), .d (.int .i64 s)] [] (.d (.int .i64 (idxI l s))) [] := by
  refine runs_walkA t117 rfl (vc117 _ _ _ _) (by simp) ?_
  rw [ints_len]
  refine range1 (fun i => l.contains s = (l.drop i).contains s ∧ l.idxOf s = i + (l.drop i).idxOf s) hl ⟨rfl, by simp⟩ (fun i hi bd hJ I k next => ⟨bd, ?_⟩) fun hJ => ?_
  · refine ⟨l[i], by rw [ints_get l hi]; rfl, ?_⟩
    rw [drop_cons hi, List.contains_cons, List.idxOf_cons] at hJ
    refine ⟨fun h => endI ?_, fun h => next ?_⟩
    · have hq : (l[i] == s) = true := by rw [BEq.comm]; exact h
      rw [hq, h] at hJ
      unfold idxI
      rw [hJ.1, hJ.2]; rfl
    · have hq : (l[i] == s) = false := by rw [BEq.comm]; exact h
      rw [hq, h] at hJ
      refine ⟨by rw [hJ.1]; rfl, ?_⟩
      rw [hJ.2]; simp only [cond_false]; omega
  · rw [List.drop_length] at hJ
    refine endI ?_
    unfold idxI; rw [hJ.1]; rfl
theorem r71 (l : List Int) (s : Int) (hl : l.length ≤ 9223372036854775806) : Runs P 71 [.d (.slice 1 (ints l)), .d (.int .i64 s)] [] (.d (.bool (l.contains s))) [] := by
  refine runs_walkA t71 rfl (vc71 _ _ _ _) (by simp) ?_
  refine ⟨_, r117 l s hl, endB ?_⟩
  unfold idxI
  cases l.contains s <;> simp <;> omega
theorem r74d (l : List Msg) (u : Int) (hl : l.length ≤ 9223372036854775806) : Runs P 74 [.d (.slice 7 (l.map Msg.d)), .fn 75 [1000]] [(1000, [.d (iD u)])] (.d (iD (findI l u))) [(1000, [.d (iD u)])] := by
  refine runs_walkA t74 rfl (vc74d (l.map Msg.d) u _ _) (by simp) ?_
  rw [nI_map]
  refine range2' (fun i x => x = u ∧ findI l u = match findM (l.drop i) u with | some j => ((i + j : Nat) : Int) | none => -1) hl ⟨rfl, by unfold findI; rw [List.drop_zero]; cases findM l u <;> simp⟩ (fun i hi bd x hJ I k next => ⟨bd, ?_⟩) fun x hJ => ?_
  · obtain ⟨rfl, hJ⟩ := hJ
    refine ⟨_, _, _, _, _, _, _, by rw [msgs_get l hi]; rfl, _, _, r75r l[i] x, fun h => ?_, fun h => ?_⟩
    · rw [drop_cons hi, findM_cons, h, if_pos rfl] at hJ
      exact endL (by rw [hJ]; rfl) ⟨rfl, trivial⟩ rfl
    · rw [drop_cons hi, findM_cons, h] at hJ
      refine next _ ⟨rfl, ?_⟩
      rw [hJ]
      cases findM (l.drop (i + 1)) x with
      | none => rfl
      | some j => show ((i + (j + 1) : Nat) : Int) = ((i + 1 + j : Nat) : Int); congr 1; omega
  · obtain ⟨rfl, hJ⟩ := hJ
    rw [List.drop_length] at hJ
    exact endL (by rw [hJ]; rfl) ⟨rfl, trivial⟩ rfl
theorem r33 (b : Box) (u : Int) (hl : b.msgs.length ≤ 9223372036854775806) : Runs P 33 [.d b.d, .d (iD u)] [] (.d (iD (findI b.msgs u))) [] := by
  refine runs_walkA t33 rfl (vc33 b.id b.valid b.next b.high (strs b.words) (b.msgs.map Msg.d) u _ _) (by simp) ?_
  have h := (r74d b.msgs u hl).swap 1000 3
  exact ⟨_, _, by simpa [CV.ren, CV.ren1, renB, swp] using h, end0 rfl rfl⟩
theorem findI_neg (l : List Msg) (u : Int) : decide (findI l u < 0) = !(findM l u).isSome := by
  unfold findI
  cases findM l u with
  | none => rfl
  | some i => simp
theorem take_ints (l : List Int) (i : Nat) : List.drop (Int.toNat (nI 0)) (List.take (Int.toNat (i : Int)) (ints l)) = ints (l.take i) := by
  simp [nI, ints, List.map_take]
theorem r31 (b : Box) (l : List Int) (hb : BoxOk b) (hl : l.length ≤ 1099511627776) : Runs P 31 [.d b.d, .d (.slice 1 (ints l))] [] (.tup [.d (.slice 11 ((cutOut b l).2.map Row.d)), .d (iD (cutOut b l).1)]) [] := by
  refine runs_walkA t31 rfl (vc31 b.id b.valid b.next b.high (strs b.words) (b.msgs.map Msg.d) (ints l) _ _) (by simp) ?_
  refine ⟨_, r47 b hb, fun h => ?_, fun h => ?_⟩
  · rw [show cutOut b l = (1, []) from by unfold cutOut; rw [if_pos (by simpa using h)]]
    exact endTO rfl
  have h0 : mayBox b = 0 := by simpa using h
  have hM := boxMay.1 h0
  have c0 : ¬ mayBox b ≠ 0 := fun q => q h0
  have hn : nI (List.length (ints l)) = nI l.length := by rw [ints_len]
  rw [hn]
  refine range1 (fun i => cutsB b [] l = cutsB b (l.take i) (l.drop i)) (by omega) rfl (fun i hi bd hJ I k next => ⟨bd, l[i], by rw [ints_get l hi]; rfl, _, r33 b l[i] (by have := hM.nm; omega), fun _ => ⟨by simp [nI], bd.1, Int.le_of_lt bd.2⟩, ?_⟩) fun hJ => ?_
  · rintro _ rfl
    rw [take_ints]
    refine ⟨_, fun _ => r71 (l.take i) l[i] (by rw [List.length_take]; omega), ?_⟩
    rintro b16 h16
    rw [findI_neg] at h16
    rw [drop_cons hi, cutsB, ← List.take_succ_eq_append_getElem hi, show ((findM b.msgs l[i]).isSome && !(l.take i).contains l[i]) = !b16 by rw [← h16]; simp] at hJ
    refine ⟨fun h => ?_, fun h => next (by rw [hJ, h]; rfl)⟩
    rw [h] at hJ
    rw [show cutOut b l = (6, []) from by unfold cutOut; rw [if_neg c0, if_pos (by rw [hJ]; rfl)]]
    exact endTO rfl
  · rw [List.drop_length, cutsB] at hJ
    have hh := hM.high
    rintro _ rfl
    rw [W64 (by simp only [nI]; omega) (by simp only [nI]; omega)]
    simp only [nI]
    refine ⟨fun h => ?_, fun h => ?_⟩
    · have h := of_decide_eq_true h
      rw [show cutOut b l = (9, []) from by unfold cutOut; rw [if_neg c0, if_neg (by rw [hJ]; decide), if_pos (by omega)]]
      exact endTO rfl
    · have h := of_decide_eq_false h
      rw [show cutOut b l = (0, cutRows b.high l) from by unfold cutOut; rw [if_neg c0, if_neg (by rw [hJ]; decide), if_neg (by omega)]]
      refine range2' (fun i x => x = (cutRows b.high (l.take i)).map Row.d) (by omega) rfl (fun i hi bd x hJ I k next => ⟨bd, l[i], by rw [ints_get l hi]; rfl, ?_⟩) fun x hJ => ?_
      · subst hJ
        rintro _ rfl _ rfl
        rw [W64 (n := b.high + 1) (by omega) (by omega), W64 (by omega) (by omega)]
        refine ⟨by rw [List.length_map, cutRows_len, List.length_take]; simp; omega, ?_⟩
        refine next _ ?_
        rw [List.take_succ_eq_append_getElem hi, cutRows_snoc, List.map_append]
        congr 1
        have : b.high + (List.length (l.take i) : Int) + 1 = b.high + 1 + (i : Int) := by rw [List.length_take]; omega
        rw [this]; rfl
      · subst hJ
        rw [List.take_length]
        exact endTO rfl

end B
end Go.Proofs.YtmkkljbfmdngfaaDoor
