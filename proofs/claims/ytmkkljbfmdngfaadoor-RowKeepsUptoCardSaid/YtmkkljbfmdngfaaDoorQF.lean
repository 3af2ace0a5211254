/- SameBox, SameMsg, SameTexts: contracts on data. Conditions: sizes. -/
import Derived.Test.YtmkkljbfmdngfaaDoorQD
set_option linter.all false
namespace Go.Proofs.YtmkkljbfmdngfaaDoor
namespace B
open Go.RowKit
set_option maxRecDepth 100000
def af20 : AF := ⟨(.seq (.ops [⟨(some 2), (.box 6 true (.t 0)), none⟩, ⟨(some 3), (.box 6 true (.t 1)), none⟩, ⟨(some 4), (.mov (.c (.d (.bool false))) true none), none⟩]) (.seq (.seq (.ops [⟨(some 6), (.fieldA 0 (.t 2)), none⟩, ⟨(some 7), (.load false 1 (.t 6) false), none⟩, ⟨(some 8), (.fieldA 0 (.t 3)), none⟩, ⟨(some 9), (.load false 1 (.t 8) false), none⟩, ⟨(some 10), (.bin false .neq (.t 7) (.t 9)), none⟩, ⟨(some 11), (.mov (.t 10) true none), none⟩, ⟨(some 12), (.fieldA 1 (.t 2)), (some (11, false))⟩, ⟨(some 13), (.load false 1 (.t 12) false), (some (11, false))⟩, ⟨(some 14), (.fieldA 1 (.t 3)), (some (11, false))⟩, ⟨(some 15), (.load false 1 (.t 14) false), (some (11, false))⟩, ⟨(some 16), (.bin false .neq (.t 13) (.t 15)), (some (11, false))⟩, ⟨(some 17), (.pick (.t 11) (.c (.d (.bool true))) (.t 16)), none⟩, ⟨(some 18), (.mov (.t 17) true none), none⟩, ⟨(some 19), (.fieldA 2 (.t 2)), (some (18, false))⟩, ⟨(some 20), (.load false 1 (.t 19) false), (some (18, false))⟩, ⟨(some 21), (.fieldA 2 (.t 3)), (some (18, false))⟩, ⟨(some 22), (.load false 1 (.t 21) false), (some (18, false))⟩, ⟨(some 23), (.bin false .neq (.t 20) (.t 22)), (some (18, false))⟩, ⟨(some 24), (.pick (.t 18) (.c (.d (.bool true))) (.t 23)), none⟩, ⟨(some 25), (.mov (.t 24) true none), none⟩, ⟨(some 26), (.fieldA 3 (.t 2)), (some (25, false))⟩, ⟨(some 27), (.load false 1 (.t 26) false), (some (25, false))⟩, ⟨(some 28), (.fieldA 3 (.t 3)), (some (25, false))⟩, ⟨(some 29), (.load false 1 (.t 28) false), (some (25, false))⟩, ⟨(some 30), (.bin false .neq (.t 27) (.t 29)), (some (25, false))⟩, ⟨(some 31), (.pick (.t 25) (.c (.d (.bool true))) (.t 30)), none⟩, ⟨(some 32), (.mov (.t 31) true none), none⟩, ⟨(some 33), (.fieldA 4 (.t 2)), (some (32, false))⟩, ⟨(some 34), (.load false 1 (.t 33) false), (some (32, false))⟩, ⟨(some 35), (.fieldA 4 (.t 3)), (some (32, false))⟩, ⟨(some 36), (.load false 1 (.t 35) false), (some (32, false))⟩, ⟨(some 37), (.call 38 [((.t 34), (some 1)), ((.t 36), (some 1))] none), (some (32, false))⟩, ⟨(some 38), (.not (.t 37)), (some (32, false))⟩, ⟨(some 39), (.pick (.t 32) (.c (.d (.bool true))) (.t 38)), none⟩, ⟨(some 40), (.mov (.t 39) true none), none⟩, ⟨(some 41), (.fieldA 5 (.t 2)), (some (40, false))⟩, ⟨(some 42), (.load false 1 (.t 41) false), (some (40, false))⟩, ⟨(some 43), (.len (.t 42)), (some (40, false))⟩, ⟨(some 44), (.fieldA 5 (.t 3)), (some (40, false))⟩, ⟨(some 45), (.load false 1 (.t 44) false), (some (40, false))⟩, ⟨(some 46), (.len (.t 45)), (some (40, false))⟩, ⟨(some 47), (.bin false .neq (.t 43) (.t 46)), (some (40, false))⟩, ⟨(some 48), (.pick (.t 40) (.c (.d (.bool true))) (.t 47)), none⟩]) (.cond (.t 48) (.seq (.ops [⟨(some 4), (.mov (.c (.d (.bool false))) true none), none⟩]) .ret) .skip)) (.seq (.seq (.ops [⟨(some 49), (.fieldA 5 (.t 2)), none⟩, ⟨(some 50), (.load false 1 (.t 49) false), none⟩, ⟨(some 51), (.len (.t 50)), none⟩, ⟨(some 52), (.mov (.c (.d (.int .i64 0))) false none), none⟩]) (.block 0 (.loop (.seq (.ops [⟨(some 53), (.bin false .lss (.t 52) (.t 51)), none⟩]) (.seq (.cond (.t 53) .skip (.exit 0)) (.seq (.block 1 (.seq (.ops [⟨(some 54), (.mov (.t 52) true none), none⟩, ⟨(some 5), (.mov (.t 54) true none), none⟩]) (.seq (.draw [⟨(some 55), (.fieldA 5 (.t 2)), none⟩, ⟨(some 56), (.load false 1 (.t 55) false), none⟩, ⟨(some 57), (.mov (.t 5) false none), none⟩, ⟨(some 58), (.idxA 7 (.t 56) (.t 57)), none⟩, ⟨(some 59), (.load true 7 (.t 58) false), none⟩, ⟨(some 60), (.fieldA 5 (.t 3)), none⟩, ⟨(some 61), (.load false 1 (.t 60) false), none⟩, ⟨(some 62), (.mov (.t 5) false none), none⟩, ⟨(some 63), (.idxA 7 (.t 61) (.t 62)), none⟩, ⟨(some 64), (.load true 7 (.t 63) false), none⟩, ⟨(some 65), (.call 37 [((.t 59), none), ((.t 64), none)] none), none⟩, ⟨(some 66), (.not (.t 65)), none⟩] [0, 0, 0, 0, 0, 0, 0, 0, 0, 0, 3, 3] []) (.cond (.t 66) (.seq (.ops [⟨(some 4), (.mov (.c (.d (.bool false))) true none), none⟩]) .ret) .skip)))) (.ops [⟨(some 67), (.bin false .add (.t 52) (.c (.d (.int .i64 1)))), none⟩, ⟨(some 52), (.mov (.t 67) true none), none⟩]))))))) (.seq (.ops [⟨(some 4), (.mov (.c (.d (.bool true))) true none), none⟩]) .ret)))), [(.tm 4)], 2, 68⟩
theorem t20 : trF P HR 20 = some af20 := by kernel_rfl
def af37 : AF := ⟨(.seq (.ops [⟨(some 2), (.box 7 true (.t 0)), none⟩, ⟨(some 3), (.box 7 true (.t 1)), none⟩, ⟨(some 4), (.mov (.c (.d (.bool false))) true none), none⟩]) (.seq (.ops [⟨(some 5), (.fieldA 0 (.t 2)), none⟩, ⟨(some 6), (.load false 1 (.t 5) false), none⟩, ⟨(some 7), (.fieldA 0 (.t 3)), none⟩, ⟨(some 8), (.load false 1 (.t 7) false), none⟩, ⟨(some 9), (.bin false .eql (.t 6) (.t 8)), none⟩, ⟨(some 10), (.mov (.t 9) true none), none⟩, ⟨(some 11), (.fieldA 1 (.t 2)), (some (10, true))⟩, ⟨(some 12), (.load false 1 (.t 11) false), (some (10, true))⟩, ⟨(some 13), (.fieldA 1 (.t 3)), (some (10, true))⟩, ⟨(some 14), (.load false 1 (.t 13) false), (some (10, true))⟩, ⟨(some 15), (.bin false .eql (.t 12) (.t 14)), (some (10, true))⟩, ⟨(some 16), (.pick (.t 10) (.t 15) (.c (.d (.bool false)))), none⟩, ⟨(some 17), (.mov (.t 16) true none), none⟩, ⟨(some 18), (.fieldA 2 (.t 2)), (some (17, true))⟩, ⟨(some 19), (.load false 1 (.t 18) false), (some (17, true))⟩, ⟨(some 20), (.fieldA 2 (.t 3)), (some (17, true))⟩, ⟨(some 21), (.load false 1 (.t 20) false), (some (17, true))⟩, ⟨(some 22), (.bin false .eql (.t 19) (.t 21)), (some (17, true))⟩, ⟨(some 23), (.pick (.t 17) (.t 22) (.c (.d (.bool false)))), none⟩, ⟨(some 24), (.mov (.t 23) true none), none⟩, ⟨(some 25), (.fieldA 3 (.t 2)), (some (24, true))⟩, ⟨(some 26), (.load false 1 (.t 25) false), (some (24, true))⟩, ⟨(some 27), (.fieldA 3 (.t 3)), (some (24, true))⟩, ⟨(some 28), (.load false 1 (.t 27) false), (some (24, true))⟩, ⟨(some 29), (.bin false .eql (.t 26) (.t 28)), (some (24, true))⟩, ⟨(some 30), (.pick (.t 24) (.t 29) (.c (.d (.bool false)))), none⟩, ⟨(some 31), (.mov (.t 30) true none), none⟩, ⟨(some 32), (.fieldA 4 (.t 2)), (some (31, true))⟩, ⟨(some 33), (.load false 1 (.t 32) false), (some (31, true))⟩, ⟨(some 34), (.fieldA 4 (.t 3)), (some (31, true))⟩, ⟨(some 35), (.load false 1 (.t 34) false), (some (31, true))⟩, ⟨(some 36), (.bin false .eql (.t 33) (.t 35)), (some (31, true))⟩, ⟨(some 37), (.pick (.t 31) (.t 36) (.c (.d (.bool false)))), none⟩, ⟨(some 38), (.mov (.t 37) true none), none⟩, ⟨(some 39), (.fieldA 5 (.t 2)), (some (38, true))⟩, ⟨(some 40), (.load false 1 (.t 39) false), (some (38, true))⟩, ⟨(some 41), (.fieldA 5 (.t 3)), (some (38, true))⟩, ⟨(some 42), (.load false 1 (.t 41) false), (some (38, true))⟩, ⟨(some 43), (.call 87 [((.t 40), (some 1)), ((.t 42), (some 1))] none), (some (38, true))⟩, ⟨(some 44), (.pick (.t 38) (.t 43) (.c (.d (.bool false)))), none⟩, ⟨(some 45), (.mov (.t 44) true none), none⟩, ⟨(some 46), (.fieldA 6 (.t 2)), (some (45, true))⟩, ⟨(some 47), (.load false 1 (.t 46) false), (some (45, true))⟩, ⟨(some 48), (.fieldA 6 (.t 3)), (some (45, true))⟩, ⟨(some 49), (.load false 1 (.t 48) false), (some (45, true))⟩, ⟨(some 50), (.bin false .eql (.t 47) (.t 49)), (some (45, true))⟩, ⟨(some 51), (.pick (.t 45) (.t 50) (.c (.d (.bool false)))), none⟩, ⟨(some 4), (.mov (.t 51) true none), none⟩]) .ret)), [(.tm 4)], 2, 52⟩
theorem t37 : trF P HR 37 = some af37 := by kernel_rfl
def af38 : AF := ⟨(.seq (.ops [⟨(some 4), (.mov (.c (.d (.bool false))) true none), none⟩]) (.seq (.seq (.ops [⟨(some 6), (.mov (.t 0) false (some 1)), none⟩, ⟨(some 7), (.len (.t 6)), none⟩, ⟨(some 8), (.mov (.t 1) false (some 1)), none⟩, ⟨(some 9), (.len (.t 8)), none⟩, ⟨(some 10), (.bin false .neq (.t 7) (.t 9)), none⟩]) (.cond (.t 10) (.seq (.ops [⟨(some 4), (.mov (.c (.d (.bool false))) true none), none⟩]) .ret) .skip)) (.seq (.seq (.ops [⟨(some 11), (.mov (.t 0) false (some 1)), none⟩, ⟨(some 12), (.len (.t 11)), none⟩, ⟨(some 13), (.mov (.c (.d (.int .i64 0))) false none), none⟩]) (.block 0 (.loop (.seq (.ops [⟨(some 14), (.bin false .lss (.t 13) (.t 12)), none⟩]) (.seq (.cond (.t 14) .skip (.exit 0)) (.seq (.block 1 (.seq (.ops [⟨(some 15), (.mov (.t 13) true none), none⟩, ⟨(some 5), (.mov (.t 15) true none), none⟩]) (.seq (.draw [⟨(some 16), (.mov (.t 0) false (some 1)), none⟩, ⟨(some 17), (.mov (.t 5) false none), none⟩, ⟨(some 18), (.idxA 1 (.t 16) (.t 17)), none⟩, ⟨(some 19), (.load false 1 (.t 18) false), none⟩, ⟨(some 20), (.mov (.t 1) false (some 1)), none⟩, ⟨(some 21), (.mov (.t 5) false none), none⟩, ⟨(some 22), (.idxA 1 (.t 20) (.t 21)), none⟩, ⟨(some 23), (.load false 1 (.t 22) false), none⟩, ⟨(some 24), (.bin false .neq (.t 19) (.t 23)), none⟩] [0, 0, 0, 0, 0, 0, 0, 0, 3] []) (.cond (.t 24) (.seq (.ops [⟨(some 4), (.mov (.c (.d (.bool false))) true none), none⟩]) .ret) .skip)))) (.ops [⟨(some 25), (.bin false .add (.t 13) (.c (.d (.int .i64 1)))), none⟩, ⟨(some 13), (.mov (.t 25) true none), none⟩]))))))) (.seq (.ops [⟨(some 4), (.mov (.c (.d (.bool true))) true none), none⟩]) .ret)))), [(.tm 4)], 2, 26⟩
theorem t38 : trF P HR 38 = some af38 := by kernel_rfl
def af87 : AF := ⟨(.seq (.ops [⟨(some 4), (.mov (.c (.d (.bool false))) true none), none⟩]) (.seq (.seq (.ops [⟨(some 6), (.mov (.t 0) false (some 1)), none⟩, ⟨(some 7), (.len (.t 6)), none⟩, ⟨(some 8), (.mov (.t 1) false (some 1)), none⟩, ⟨(some 9), (.len (.t 8)), none⟩, ⟨(some 10), (.bin false .neq (.t 7) (.t 9)), none⟩]) (.cond (.t 10) (.seq (.ops [⟨(some 4), (.mov (.c (.d (.bool false))) true none), none⟩]) .ret) .skip)) (.seq (.seq (.ops [⟨(some 11), (.mov (.t 0) false (some 1)), none⟩, ⟨(some 12), (.len (.t 11)), none⟩, ⟨(some 13), (.mov (.c (.d (.int .i64 0))) false none), none⟩]) (.block 0 (.loop (.seq (.ops [⟨(some 14), (.bin false .lss (.t 13) (.t 12)), none⟩]) (.seq (.cond (.t 14) .skip (.exit 0)) (.seq (.block 1 (.seq (.ops [⟨(some 15), (.mov (.t 13) true none), none⟩, ⟨(some 5), (.mov (.t 15) true none), none⟩]) (.seq (.draw [⟨(some 16), (.mov (.t 0) false (some 1)), none⟩, ⟨(some 17), (.mov (.t 5) false none), none⟩, ⟨(some 18), (.idxA 1 (.t 16) (.t 17)), none⟩, ⟨(some 19), (.load false 1 (.t 18) false), none⟩, ⟨(some 20), (.mov (.t 1) false (some 1)), none⟩, ⟨(some 21), (.mov (.t 5) false none), none⟩, ⟨(some 22), (.idxA 1 (.t 20) (.t 21)), none⟩, ⟨(some 23), (.load false 1 (.t 22) false), none⟩, ⟨(some 24), (.bin false .neq (.t 19) (.t 23)), none⟩] [0, 0, 0, 0, 0, 0, 0, 0, 3] []) (.cond (.t 24) (.seq (.ops [⟨(some 4), (.mov (.c (.d (.bool false))) true none), none⟩]) .ret) .skip)))) (.ops [⟨(some 25), (.bin false .add (.t 13) (.c (.d (.int .i64 1)))), none⟩, ⟨(some 13), (.mov (.t 25) true none), none⟩]))))))) (.seq (.ops [⟨(some 4), (.mov (.c (.d (.bool true))) true none), none⟩]) .ret)))), [(.tm 4)], 2, 26⟩
theorem t87 : trF P HR 87 = some af87 := by kernel_rfl
theorem vc38 (l0 : List D) (l1 : List D) (res : CV) (objs' : List (Nat × List CV)) : walkA P (tbF P [102,103,50,48,53,56,105,58,107,7000052] [] 38) (anOf af38 []) af38 [CV.d (D.slice 1 l0), CV.d (D.slice 1 l1)] [] (fun rs => endE rs res objs') = ((((nI (List.length l0) != nI (List.length l1)) = true → EndR (CV.d (D.bool false)) res [] objs') ∧ ((nI (List.length l0) != nI (List.length l1)) = false → (∃ I2 : (Int → (Nat → Prop)), ((∃ k3 : Nat, I2 0 k3) ∧ (∀ n4 : Int, (∀ k5 : Nat, (I2 n4 k5 → (((decide (n4 < nI (List.length l0))) = true → ((0 ≤ n4 ∧ n4 < nI (List.length l0)) ∧ (∃ s6 : Bytes, ((D.cells (List.getD l0 (Int.toNat n4) D.nilp) = [D.str s6]) ∧ ((0 ≤ n4 ∧ n4 < nI (List.length l1)) ∧ (∃ s7 : Bytes, ((D.cells (List.getD l1 (Int.toNat n4) D.nilp) = [D.str s7]) ∧ (((!s6 == s7) = true → EndR (CV.d (D.bool false)) res [] objs') ∧ ((!s6 == s7) = false → (∀ n8 : Int, (Go.IntKind.wrap Go.IntKind.i64 (n4 + 1) = n8 → (∃ k9 : Nat, ((k9 < k5) ∧ I2 n8 k9))))))))))))) ∧ ((decide (n4 < nI (List.length l0))) = false → EndR (CV.d (D.bool true)) res [] objs')))))))))) := by kernel_rfl
theorem vc37 (n0 : Int) (n1 : Int) (n2 : Int) (s3 : Bytes) (n4 : Int) (l5 : List D) (s6 : Bytes) (n7 : Int) (n8 : Int) (n9 : Int) (s10 : Bytes) (n11 : Int) (l12 : List D) (s13 : Bytes) (res : CV) (objs' : List (Nat × List CV)) : walkA P (tbF P [102,103,50,48,53,56,105,58,107,7000052] [] 37) (anOf af37 []) af37 [CV.d (D.agg [D.int .i64 n0, D.int .i64 n1, D.int .i64 n2, D.str s3, D.int .i64 n4, D.slice 1 l5, D.str s6]), CV.d (D.agg [D.int .i64 n7, D.int .i64 n8, D.int .i64 n9, D.str s10, D.int .i64 n11, D.slice 1 l12, D.str s13])] [] (fun rs => endE rs res objs') = ((∀ b14 : Bool, ((n0 == n7 && n1 == n8) = b14 → (∀ b15 : Bool, ((b14 && n2 == n9) = b15 → (∀ b16 : Bool, ((b15 && s3 == s10) = b16 → (∀ b17 : Bool, ((b16 && n4 == n11) = b17 → (∃ b18 : Bool, ((b17 = true → Runs P 87 [CV.d (D.slice 1 l5), CV.d (D.slice 1 l12)] [] (CV.d (D.bool b18)) []) ∧ (∀ b19 : Bool, ((b17 && b18) = b19 → (∀ b20 : Bool, ((b19 && s6 == s13) = b20 → EndR (CV.d (D.bool b20)) res [(2, [CV.d (D.int .i64 n0), CV.d (D.int .i64 n1), CV.d (D.int .i64 n2), CV.d (D.str s3), CV.d (D.int .i64 n4), CV.d (D.slice 1 l5), CV.d (D.str s6)]), (3, [CV.d (D.int .i64 n7), CV.d (D.int .i64 n8), CV.d (D.int .i64 n9), CV.d (D.str s10), CV.d (D.int .i64 n11), CV.d (D.slice 1 l12), CV.d (D.str s13)])] objs'))))))))))))))) := by kernel_rfl
theorem vc87 (l0 : List D) (l1 : List D) (res : CV) (objs' : List (Nat × List CV)) : walkA P (tbF P [102,103,50,48,53,56,105,58,107,7000052] [] 87) (anOf af87 []) af87 [CV.d (D.slice 1 l0), CV.d (D.slice 1 l1)] [] (fun rs => endE rs res objs') = ((((nI (List.length l0) != nI (List.length l1)) = true → EndR (CV.d (D.bool false)) res [] objs') ∧ ((nI (List.length l0) != nI (List.length l1)) = false → (∃ I2 : (Int → (Nat → Prop)), ((∃ k3 : Nat, I2 0 k3) ∧ (∀ n4 : Int, (∀ k5 : Nat, (I2 n4 k5 → (((decide (n4 < nI (List.length l0))) = true → ((0 ≤ n4 ∧ n4 < nI (List.length l0)) ∧ (∃ n6 : Int, ((D.cells (List.getD l0 (Int.toNat n4) D.nilp) = [D.int .i64 n6]) ∧ ((0 ≤ n4 ∧ n4 < nI (List.length l1)) ∧ (∃ n7 : Int, ((D.cells (List.getD l1 (Int.toNat n4) D.nilp) = [D.int .i64 n7]) ∧ (((n6 != n7) = true → EndR (CV.d (D.bool false)) res [] objs') ∧ ((n6 != n7) = false → (∀ n8 : Int, (Go.IntKind.wrap Go.IntKind.i64 (n4 + 1) = n8 → (∃ k9 : Nat, ((k9 < k5) ∧ I2 n8 k9))))))))))))) ∧ ((decide (n4 < nI (List.length l0))) = false → EndR (CV.d (D.bool true)) res [] objs')))))))))) := by kernel_rfl
theorem r87 (a b : List Int) (ha : a.length ≤ 9223372036854775806) : Runs P 87 [.d (.slice 1 (ints a)), .d (.slice 1 (ints b))] [] (.d (.bool (a == b))) [] := by
  refine runs_walkA t87 rfl (vc87 _ _ _ _) (by simp) ?_
  rw [ints_len, ints_len]
  have no : a ≠ b → EndR (.d (.bool false)) (.d (.bool (a == b))) [] [] := fun h => endB (by simp [h])
  refine ⟨fun h => no (by rintro rfl; simp at h), fun h => ?_⟩
  have hl : a.length = b.length := by simp [nI] at h; omega
  refine range1 (N := a.length) (fun i => a.take i = b.take i) ha (by simp) (fun i hi bd hJ I k next => ?_) fun hJ => ?_
  · have hi2 : i < b.length := by omega
    refine ⟨bd, a[i], by rw [ints_get _ hi]; rfl, ⟨by omega, by simp only [nI]; omega⟩, b[i], by rw [ints_get _ hi2]; rfl, fun h => no (by rintro rfl; simp at h), fun h => ?_⟩
    have he : a[i] = b[i] := by simpa using h
    exact next (by rw [List.take_add_one, List.take_add_one, hJ, List.getElem?_eq_getElem hi, List.getElem?_eq_getElem hi2, he])
  · have : a = b := by
      rw [List.take_length] at hJ
      rw [hJ, hl, List.take_length]
    exact endB (by simp [this])
theorem r38 (a b : List Bytes) (ha : a.length ≤ 9223372036854775806) : Runs P 38 [.d (.slice 1 (strs a)), .d (.slice 1 (strs b))] [] (.d (.bool (a == b))) [] := by
  refine runs_walkA t38 rfl (vc38 _ _ _ _) (by simp) ?_
  rw [strs_len, strs_len]
  have no : a ≠ b → EndR (.d (.bool false)) (.d (.bool (a == b))) [] [] := fun h => endB (by simp [h])
  refine ⟨fun h => no (by rintro rfl; simp at h), fun h => ?_⟩
  have hl : a.length = b.length := by simp [nI] at h; omega
  refine range1 (N := a.length) (fun i => a.take i = b.take i) ha (by simp) (fun i hi bd hJ I k next => ?_) fun hJ => ?_
  · have hi2 : i < b.length := by omega
    refine ⟨bd, a[i], by rw [strs_get _ hi]; rfl, ⟨by omega, by simp only [nI]; omega⟩, b[i], by rw [strs_get _ hi2]; rfl, fun h => no (by rintro rfl; simp at h), fun h => ?_⟩
    have he : a[i] = b[i] := by simpa using h
    exact next (by rw [List.take_add_one, List.take_add_one, hJ, List.getElem?_eq_getElem hi, List.getElem?_eq_getElem hi2, he])
  · have : a = b := by
      rw [List.take_length] at hJ
      rw [hJ, hl, List.take_length]
    exact endB (by simp [this])
def sameM (a b : Msg) : Bool := (((((a.uid == b.uid && a.mod == b.mod) && a.date == b.date) && a.id == b.id) && a.flags == b.flags) && a.keys == b.keys) && a.text == b.text
theorem sameM_iff {a b : Msg} : sameM a b = true ↔ a = b := by
  cases a; cases b
  unfold sameM
  simp only [Bool.and_eq_true, beq_iff_eq, Msg.mk.injEq]
  constructor
  · rintro ⟨⟨⟨⟨⟨⟨rfl, rfl⟩, rfl⟩, rfl⟩, rfl⟩, rfl⟩, rfl⟩; simp
  · rintro ⟨rfl, rfl, rfl, rfl, rfl, rfl, rfl⟩; simp
theorem r37 (a b : Msg) (ha : a.keys.length ≤ 9223372036854775806) : Runs P 37 [.d a.d, .d b.d] [] (.d (.bool (sameM a b))) [] := by
  refine runs_walkA t37 rfl (vc37 _ _ _ _ _ _ _ _ _ _ _ _ _ _ _ _) (by simp) ?_
  rintro _ rfl _ rfl _ rfl _ rfl
  refine ⟨_, fun _ => r87 _ _ ha, ?_⟩
  rintro _ rfl _ rfl
  exact endB rfl
end B
end Go.Proofs.YtmkkljbfmdngfaaDoor

namespace Go.Proofs.YtmkkljbfmdngfaaDoor
namespace B

end B
end Go.Proofs.YtmkkljbfmdngfaaDoor

namespace Go.Proofs.YtmkkljbfmdngfaaDoor
namespace B
set_option maxRecDepth 100000
theorem vc33 (s0 : Bytes) (n1 : Int) (n2 : Int) (n3 : Int) (l4 : List D) (l5 : List D) (n6 : Int) (res : CV) (objs' : List (Nat × List CV)) : walkA P (tbF P [102,103,50,48,53,56,105,58,107,1000118,7000119,107500072,1072002141,86,129] [] 33) (anOf af33 []) af33 [CV.d (D.agg [D.str s0, D.int .i64 n1, D.int .i64 n2, D.int .i64 n3, D.slice 1 l4, D.slice 7 l5]), CV.d (D.int .i64 n6)] [] (fun rs => endE rs res objs') = ((∃ n7 : Int, (∃ n8 : Int, ((Runs P 74 [CV.d (D.slice 7 l5), CV.fn 75 [3]] [(3, [CV.d (D.int .i64 n6)])] (CV.d (D.int .i64 n8)) [(3, [CV.d (D.int .i64 n7)])]) ∧ EndR (CV.d (D.int .i64 n8)) res [(2, [CV.d (D.str s0), CV.d (D.int .i64 n1), CV.d (D.int .i64 n2), CV.d (D.int .i64 n3), CV.d (D.slice 1 l4), CV.d (D.slice 7 l5)]), (3, [CV.d (D.int .i64 n7)])] objs')))) := by kernel_rfl
theorem vc74d (ms : List D) (u : Int) (res : CV) (objs' : List (Nat × List CV)) : walkA P (tbF P [102,103,50,48,53,56,105,58,107,1000118,7000119,107500072,1072002141,86,129] [] 74) (anOf af74 []) af74 [CV.d (D.slice 7 ms), CV.fn 75 [1000]] [(1000, [CV.d (D.int .i64 u)])] (fun rs => endE rs res objs') = ((∃ I2 : (Int → (Int → (Nat → Prop))), ((∃ k3 : Nat, I2 0 u k3) ∧ (∀ n4 : Int, (∀ n5 : Int, (∀ k6 : Nat, (I2 n4 n5 k6 → (((decide (n4 < nI (List.length ms))) = true → ((0 ≤ n4 ∧ n4 < nI (List.length ms)) ∧ (∃ n7 : Int, (∃ n8 : Int, (∃ n9 : Int, (∃ s10 : Bytes, (∃ n11 : Int, (∃ l12 : List D, (∃ s13 : Bytes, ((D.cells (List.getD ms (Int.toNat n4) D.nilp) = [D.int .i64 n7, D.int .i64 n8, D.int .i64 n9, D.str s10, D.int .i64 n11, D.slice 1 l12, D.str s13]) ∧ (∃ n14 : Int, (∃ b15 : Bool, ((Runs P 75 [CV.d (D.agg [D.int .i64 n7, D.int .i64 n8, D.int .i64 n9, D.str s10, D.int .i64 n11, D.slice 1 l12, D.str s13]), CV.ptr 1000 0] [(1000, [CV.d (D.int .i64 n5)])] (CV.d (D.bool b15)) [(1000, [CV.d (D.int .i64 n14)])]) ∧ (((b15) = true → EndR (CV.d (D.int .i64 n4)) res [(1000, [CV.d (D.int .i64 n14)])] objs') ∧ ((b15) = false → (∀ n16 : Int, (Go.IntKind.wrap Go.IntKind.i64 (n4 + 1) = n16 → (∃ k17 : Nat, ((k17 < k6) ∧ I2 n16 n14 k17))))))))))))))))))) ∧ ((decide (n4 < nI (List.length ms))) = false → EndR (CV.d (D.int .i64 (-1 : Int))) res [(1000, [CV.d (D.int .i64 n5)])] objs'))))))))) := by kernel_rfl
end B
end Go.Proofs.YtmkkljbfmdngfaaDoor

namespace Go.Proofs.YtmkkljbfmdngfaaDoor
namespace B
open Go.RowKit

theorem r74d (l : List Msg) (u : Int) (hl : l.length ≤ 9223372036854775806) : Runs P 74 [.d (.slice 7 (l.map Msg.d)), .fn 75 [1000]] [(1000, [.d (iD u)])] (.d (iD (findI l u))) [(1000, [.d (iD u)])] := by
  refine runs_walkA t74 rfl (vc74d (l.map Msg.d) u _ _) (by simp) ?_
  rw [nI_map]
  refine range2' (fun i x => x = u ∧ findI l u = match findM (l.drop i) u with | some j => ((i + j : Nat) : Int) | none => -1) hl ⟨rfl, by unfold findI; rw [List.drop_zero]; cases findM l u <;> simp⟩ (fun i hi bd x hJ I k next => ⟨bd, ?_⟩) fun x hJ => ?_
  · obtain ⟨rfl, hJ⟩ := hJ
    refine ⟨_, _, _, _, _, _, _, by rw [msgs_get l hi]; rfl, _, _, r75r l[i] x, fun h => ?_, fun h => ?_⟩
    · rw [drop_cons hi, findM_cons, h, if_pos rfl] at hJ
      exact endL (by rw [hJ]; rfl) ⟨rfl, trivial⟩ rfl
    · rw [drop_cons hi, findM_cons, h] at hJ
      refine next _ ⟨rfl, ?_⟩
      rw [hJ]
      cases findM (l.drop (i + 1)) x with
      | none => rfl
      | some j => show ((i + (j + 1) : Nat) : Int) = ((i + 1 + j : Nat) : Int); congr 1; omega
  · obtain ⟨rfl, hJ⟩ := hJ
    rw [List.drop_length] at hJ
    exact endL (by rw [hJ]; rfl) ⟨rfl, trivial⟩ rfl
theorem r33 (b : Box) (u : Int) (hl : b.msgs.length ≤ 9223372036854775806) : Runs P 33 [.d b.d, .d (iD u)] [] (.d (iD (findI b.msgs u))) [] := by
  refine runs_walkA t33 rfl (vc33 b.id b.valid b.next b.high (strs b.words) (b.msgs.map Msg.d) u _ _) (by simp) ?_
  have h := (r74d b.msgs u hl).swap 1000 3
  exact ⟨_, _, by simpa [CV.ren, CV.ren1, renB, swp] using h, end0 rfl rfl⟩
theorem findI_neg (l : List Msg) (u : Int) : decide (findI l u < 0) = !(findM l u).isSome := by
  unfold findI
  cases findM l u with
  | none => rfl
  | some i => simp
end B
end Go.Proofs.YtmkkljbfmdngfaaDoor
