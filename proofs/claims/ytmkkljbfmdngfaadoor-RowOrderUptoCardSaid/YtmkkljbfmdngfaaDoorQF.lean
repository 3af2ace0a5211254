/- SameBox, SameMsg, SameTexts: contracts on data. Conditions: sizes. -/
import Derived.Test.YtmkkljbfmdngfaaDoorQD
set_option linter.all false
namespace Go.Proofs.YtmkkljbfmdngfaaDoor
namespace B
open Go.RowKit
set_option maxRecDepth 100000
def af20 : AF := ⟨(.seq (.ops [⟨(some 2), (.box 6 true (.t 0)), none⟩, ⟨(some 3), (.box 6 true (.t 1)), none⟩, ⟨(some 4), (.mov (.c (.d (.bool false))) true none), none⟩]) (.seq (.seq (.ops [⟨(some 6), (.fieldA 0 (.t 2)), none⟩, ⟨(some 7), (.load false 1 (.t 6) false), none⟩, ⟨(some 8), (.fieldA 0 (.t 3)), none⟩, ⟨(some 9), (.load false 1 (.t 8) false), none⟩, ⟨(some 10), (.bin false .neq (.t 7) (.t 9)), none⟩, ⟨(some 11), (.mov (.t 10) true none), none⟩, ⟨(some 12), (.fieldA 1 (.t 2)), (some (11, false))⟩, ⟨(some 13), (.load false 1 (.t 12) false), (some (11, false))⟩, ⟨(some 14), (.fieldA 1 (.t 3)), (some (11, false))⟩, ⟨(some 15), (.load false 1 (.t 14) false), (some (11, false))⟩, ⟨(some 16), (.bin false .neq (.t 13) (.t 15)), (some (11, false))⟩, ⟨(some 17), (.pick (.t 11) (.c (.d (.bool true))) (.t 16)), none⟩, ⟨(some 18), (.mov (.t 17) true none), none⟩, ⟨(some 19), (.fieldA 2 (.t 2)), (some (18, false))⟩, ⟨(some 20), (.load false 1 (.t 19) false), (some (18, false))⟩, ⟨(some 21), (.fieldA 2 (.t 3)), (some (18, false))⟩, ⟨(some 22), (.load false 1 (.t 21) false), (some (18, false))⟩, ⟨(some 23), (.bin false .neq (.t 20) (.t 22)), (some (18, false))⟩, ⟨(some 24), (.pick (.t 18) (.c (.d (.bool true))) (.t 23)), none⟩, ⟨(some 25), (.mov (.t 24) true none), none⟩, ⟨(some 26), (.fieldA 3 (.t 2)), (some (25, false))⟩, ⟨(some 27), (.load false 1 (.t 26) false), (some (25, false))⟩, ⟨(some 28), (.fieldA 3 (.t 3)), (some (25, false))⟩, ⟨(some 29), (.load false 1 (.t 28) false), (some (25, false))⟩, ⟨(some 30), (.bin false .neq (.t 27) (.t 29)), (some (25, false))⟩, ⟨(some 31), (.pick (.t 25) (.c (.d (.bool true))) (.t 30)), none⟩, ⟨(some 32), (.mov (.t 31) true none), none⟩, ⟨(some 33), (.fieldA 4 (.t 2)), (some (32, false))⟩, ⟨(some 34), (.load false 1 (.t 33) false), (some (32, false))⟩, ⟨(some 35), (.fieldA 4 (.t 3)), (some (32, false))⟩, ⟨(some 36), (.load false 1 (.t 35) false), (some (32, false))⟩, ⟨(some 37), (.call 38 [((.t 34), (some 1)), ((.t 36), (some 1))] none), (some (32, false))⟩, ⟨(some 38), (.not (.t 37)), (some (32, false))⟩, ⟨(some 39), (.pick (.t 32) (.c (.d (.bool true))) (.t 38)), none⟩, ⟨(some 40), (.mov (.t 39) true none), none⟩, ⟨(some 41), (.fieldA 5 (.t 2)), (some (40, false))⟩, ⟨(some 42), (.load false 1 (.t 41) false), (some (40, false))⟩, ⟨(some 43), (.len (.t 42)), (some (40, false))⟩, ⟨(some 44), (.fieldA 5 (.t 3)), (some (40, false))⟩, ⟨(some 45), (.load false 1 (.t 44) false), (some (40, false))⟩, ⟨(some 46), (.len (.t 45)), (some (40, false))⟩, ⟨(some 47), (.bin false .neq (.t 43) (.t 46)), (some (40, false))⟩, ⟨(some 48), (.pick (.t 40) (.c (.d (.bool true))) (.t 47)), none⟩]) (.cond (.t 48) (.seq (.ops [⟨(some 4), (.mov (.c (.d (.bool false))) true none), none⟩]) .ret) .skip)) (.seq (.seq (.ops [⟨(some 49), (.fieldA 5 (.t 2)), none⟩, ⟨(some 50), (.load false 1 (.t 49) false), none⟩, ⟨(some 51), (.len (.t 50)), none⟩, ⟨(some 52), (.mov (.c (.d (.int .i64 0))) false none), none⟩]) (.block 0 (.loop (.seq (.ops [⟨(some 53), (.bin false .lss (.t 52) (.t 51)), none⟩]) (.seq (.cond (.t 53) .skip (.exit 0)) (.seq (.block 1 (.seq (.ops [⟨(some 54), (.mov (.t 52) true none), none⟩, ⟨(some 5), (.mov (.t 54) true none), none⟩]) (.seq (.draw [⟨(some 55), (.fieldA 5 (.t 2)), none⟩, ⟨(some 56), (.load false 1 (.t 55) false), none⟩, ⟨(some 57), (.mov (.t 5) false none), none⟩, ⟨(some 58), (.idxA 7 (.t 56) (.t 57)), none⟩, ⟨(some 59), (.load true 7 (.t 58) false), none⟩, ⟨(some 60), (.fieldA 5 (.t 3)), none⟩, ⟨(some 61), (.load false 1 (.t 60) false), none⟩, ⟨(some 62), (.mov (.t 5) false none), none⟩, ⟨(some 63), (.idxA 7 (.t 61) (.t 62)), none⟩, ⟨(some 64), (.load true 7 (.t 63) false), none⟩, ⟨(some 65), (.call 37 [((.t 59), none), ((.t 64), none)] none), none⟩, ⟨(some 66), (.not (.t 65)), none⟩] [0, 0, 0, 0, 0, 0, 0, 0, 0, 0, 3, 3] []) (.cond (.t 66) (.seq (.ops [⟨(some 4), (.mov (.c (.d (.bool false))) true none), none⟩]) .ret) .skip)))) (.ops [⟨(some 67), (.bin false .add (.t 52) (.c (.d (.int .i64 1)))), none⟩, ⟨(some 52), (.mov (.t 67) true none), none⟩]))))))) (.seq (.ops [⟨(some 4), (.mov (.c (.d (.bool true))) true none), none⟩]) .ret)))), [(.tm 4)], 2, 68⟩
theorem t20 : trF P HR 20 = some af20 := by kernel_rfl
def af37 : AF := ⟨(.seq (.ops [⟨(some 2), (.box 7 true (.t 0)), none⟩, ⟨(some 3), (.box 7 true (.t 1)), none⟩, ⟨(some 4), (.mov (.c (.d (.bool false))) true none), none⟩]) (.seq (.ops [⟨(some 5), (.fieldA 0 (.t 2)), none⟩, ⟨(some 6), (.load false 1 (.t 5) false), none⟩, ⟨(some 7), (.fieldA 0 (.t 3)), none⟩, ⟨(some 8), (.load false 1 (.t 7) false), none⟩, ⟨(some 9), (.bin false .eql (.t 6) (.t 8)), none⟩, ⟨(some 10), (.mov (.t 9) true none), none⟩, ⟨(some 11), (.fieldA 1 (.t 2)), (some (10, true))⟩, ⟨(some 12), (.load false 1 (.t 11) false), (some (10, true))⟩, ⟨(some 13), (.fieldA 1 (.t 3)), (some (10, true))⟩, ⟨(some 14), (.load false 1 (.t 13) false), (some (10, true))⟩, ⟨(some 15), (.bin false .eql (.t 12) (.t 14)), (some (10, true))⟩, ⟨(some 16), (.pick (.t 10) (.t 15) (.c (.d (.bool false)))), none⟩, ⟨(some 17), (.mov (.t 16) true none), none⟩, ⟨(some 18), (.fieldA 2 (.t 2)), (some (17, true))⟩, ⟨(some 19), (.load false 1 (.t 18) false), (some (17, true))⟩, ⟨(some 20), (.fieldA 2 (.t 3)), (some (17, true))⟩, ⟨(some 21), (.load false 1 (.t 20) false), (some (17, true))⟩, ⟨(some 22), (.bin false .eql (.t 19) (.t 21)), (some (17, true))⟩, ⟨(some 23), (.pick (.t 17) (.t 22) (.c (.d (.bool false)))), none⟩, ⟨(some 24), (.mov (.t 23) true none), none⟩, ⟨(some 25), (.fieldA 3 (.t 2)), (some (24, true))⟩, ⟨(some 26), (.load false 1 (.t 25) false), (some (24, true))⟩, ⟨(some 27), (.fieldA 3 (.t 3)), (some (24, true))⟩, ⟨(some 28), (.load false 1 (.t 27) false), (some (24, true))⟩, ⟨(some 29), (.bin false .eql (.t 26) (.t 28)), (some (24, true))⟩, ⟨(some 30), (.pick (.t 24) (.t 29) (.c (.d (.bool false)))), none⟩, ⟨(some 31), (.mov (.t 30) true none), none⟩, ⟨(some 32), (.fieldA 4 (.t 2)), (some (31, true))⟩, ⟨(some 33), (.load false 1 (.t 32) false), (some (31, true))⟩, ⟨(some 34), (.fieldA 4 (.t 3)), (some (31, true))⟩, ⟨(some 35), (.load false 1 (.t 34) false), (some (31, true))⟩, ⟨(some 36), (.bin false .eql (.t 33) (.t 35)), (some (31, true))⟩, ⟨(some 37), (.pick (.t 31) (.t 36) (.c (.d (.bool false)))), none⟩, ⟨(some 38), (.mov (.t 37) true none), none⟩, ⟨(some 39), (.fieldA 5 (.t 2)), (some (38, true))⟩, ⟨(some 40), (.load false 1 (.t 39) false), (some (38, true))⟩, ⟨(some 41), (.fieldA 5 (.t 3)), (some (38, true))⟩, ⟨(some 42), (.load false 1 (.t 41) false), (some (38, true))⟩, ⟨(some 43), (.call 87 [((.t 40), (some 1)), ((.t 42), (some 1))] none), (some (38, true))⟩, ⟨(some 44), (.pick (.t 38) (.t 43) (.c (.d (.bool false)))), none⟩, ⟨(some 45), (.mov (.t 44) true none), none⟩, ⟨(some 46), (.fieldA 6 (.t 2)), (some (45, true))⟩, ⟨(some 47), (.load false 1 (.t 46) false), (some (45, true))⟩, ⟨(some 48), (.fieldA 6 (.t 3)), (some (45, true))⟩, ⟨(some 49), (.load false 1 (.t 48) false), (some (45, true))⟩, ⟨(some 50), (.bin false .eql (.t 47) (.t 49)), (some (45, true))⟩, ⟨(some 51), (.pick (.t 45) (.t 50) (.c (.d (.bool false)))), none⟩, ⟨(some 4), (.mov (.t 51) true none), none⟩]) .ret)), [(.tm 4)], 2, 52⟩
theorem t37 : trF P HR 37 = some af37 := by kernel_rfl
def af38 : AF := ⟨(.seq (.ops [⟨(some 4), (.mov (.c (.d (.bool false))) true none), none⟩]) (.seq (.seq (.ops [⟨(some 6), (.mov (.t 0) false (some 1)), none⟩, ⟨(some 7), (.len (.t 6)), none⟩, ⟨(some 8), (.mov (.t 1) false (some 1)), none⟩, ⟨(some 9), (.len (.t 8)), none⟩, ⟨(some 10), (.bin false .neq (.t 7) (.t 9)), none⟩]) (.cond (.t 10) (.seq (.ops [⟨(some 4), (.mov (.c (.d (.bool false))) true none), none⟩]) .ret) .skip)) (.seq (.seq (.ops [⟨(some 11), (.mov (.t 0) false (some 1)), none⟩, ⟨(some 12), (.len (.t 11)), none⟩, ⟨(some 13), (.mov (.c (.d (.int .i64 0))) false none), none⟩]) (.block 0 (.loop (.seq (.ops [⟨(some 14), (.bin false .lss (.t 13) (.t 12)), none⟩]) (.seq (.cond (.t 14) .skip (.exit 0)) (.seq (.block 1 (.seq (.ops [⟨(some 15), (.mov (.t 13) true none), none⟩, ⟨(some 5), (.mov (.t 15) true none), none⟩]) (.seq (.draw [⟨(some 16), (.mov (.t 0) false (some 1)), none⟩, ⟨(some 17), (.mov (.t 5) false none), none⟩, ⟨(some 18), (.idxA 1 (.t 16) (.t 17)), none⟩, ⟨(some 19), (.load false 1 (.t 18) false), none⟩, ⟨(some 20), (.mov (.t 1) false (some 1)), none⟩, ⟨(some 21), (.mov (.t 5) false none), none⟩, ⟨(some 22), (.idxA 1 (.t 20) (.t 21)), none⟩, ⟨(some 23), (.load false 1 (.t 22) false), none⟩, ⟨(some 24), (.bin false .neq (.t 19) (.t 23)), none⟩] [0, 0, 0, 0, 0, 0, 0, 0, 3] []) (.cond (.t 24) (.seq (.ops [⟨(some 4), (.mov (.c (.d (.bool false))) true none), none⟩]) .ret) .skip)))) (.ops [⟨(some 25), (.bin false .add (.t 13) (.c (.d (.int .i64 1)))), none⟩, ⟨(some 13), (.mov (.t 25) true none), none⟩]))))))) (.seq (.ops [⟨(some 4), (.mov (.c (.d (.bool true))) true none), none⟩]) .ret)))), [(.tm 4)], 2, 26⟩
theorem t38 : trF P HR 38 = some af38 := by kernel_rfl
def af87 : AF := ⟨(.seq (.ops [⟨(some 4), (.mov (.c (.d (.bool false))) true none), none⟩]) (.seq (.seq (.ops [⟨(some 6), (.mov (.t 0) false (some 1)), none⟩, ⟨(some 7), (.len (.t 6)), none⟩, ⟨(some 8), (.mov (.t 1) false (some 1)), none⟩, ⟨(some 9), (.len (.t 8)), none⟩, ⟨(some 10), (.bin false .neq (.t 7) (.t 9)), none⟩]) (.cond (.t 10) (.seq (.ops [⟨(some 4), (.mov (.c (.d (.bool false))) true none), none⟩]) .ret) .skip)) (.seq (.seq (.ops [⟨(some 11), (.mov (.t 0) false (some 1)), none⟩, ⟨(some 12), (.len (.t 11)), none⟩, ⟨(some 13), (.mov (.c (.d (.int .i64 0))) false none), none⟩]) (.block 0 (.loop (.seq (.ops [⟨(some 14), (.bin false .lss (.t 13) (.t 12)), none⟩]) (.seq (.cond (.t 14) .skip (.exit 0)) (.seq (.block 1 (.seq (.ops [⟨(some 15), (.mov (.t 13) true none), none⟩, ⟨(some 5), (.mov (.t 15) true none), none⟩]) (.seq (.draw [⟨(some 16), (.mov (.t 0) false (some 1)), none⟩, ⟨(some 17), (.mov (.t 5) false none), none⟩, ⟨(some 18), (.idxA 1 (.t 16) (.t 17)), none⟩, ⟨(some 19), (.load false 1 (.t 18) false), none⟩, ⟨(some 20), (.mov (.t 1) false (some 1)), none⟩, ⟨(some 21), (.mov (.t 5) false none), none⟩, ⟨(some 22), (.idxA 1 (.t 20) (.t 21)), none⟩, ⟨(some 23), (.load false 1 (.t 22) false), none⟩, ⟨(some 24), (.bin false .neq (.t 19) (.t 23)), none⟩] [0, 0, 0, 0, 0, 0, 0, 0, 3] []) (.cond (.t 24) (.seq (.ops [⟨(some 4), (.mov (.c (.d (.bool false))) true none), none⟩]) .ret) .skip)))) (.ops [⟨(some 25), (.bin false .add (.t 13) (.c (.d (.int .i64 1)))), none⟩, ⟨(some 13), (.mov (.t 25) true none), none⟩]))))))) (.seq (.ops [⟨(some 4), (.mov (.c (.d (.bool true))) true none), none⟩]) .ret)))), [(.tm 4)], 2, 26⟩
theorem t87 : trF P HR 87 = some af87 := by kernel_rfl
theorem vc20 (s0 : Bytes) (n1 : Int) (n2 : Int) (n3 : Int) (l4 : List D) (l5 : List D) (s6 : Bytes) (n7 : Int) (n8 : Int) (n9 : Int) (l10 : List D) (l11 : List D) (res : CV) (objs' : List (Nat × List CV)) : walkA P (tbF P [102,103,50,48,53,56,105,58,107,7000052] [] 20) (anOf af20 []) af20 [CV.d (D.agg [D.str s0, D.int .i64 n1, D.int .i64 n2, D.int .i64 n3, D.slice 1 l4, D.slice 7 l5]), CV.d (D.agg [D.str s6, D.int .i64 n7, D.int .i64 n8, D.int .i64 n9, D.slice 1 l10, D.slice 7 l11])] [] (fun rs => endE rs res objs') = ((∀ b12 : Bool, ((!s0 == s6 || n1 != n7) = b12 → (∀ b13 : Bool, ((b12 || n2 != n8) = b13 → (∀ b14 : Bool, ((b13 || n3 != n9) = b14 → (∃ b15 : Bool, (((!b14) = true → Runs P 38 [CV.d (D.slice 1 l4), CV.d (D.slice 1 l10)] [] (CV.d (D.bool b15)) []) ∧ (∀ b16 : Bool, ((b14 || !b15) = b16 → (∀ b17 : Bool, ((b16 || nI (List.length l5) != nI (List.length l11)) = b17 → (((b17) = true → EndR (CV.d (D.bool false)) res [(2, [CV.d (D.str s0), CV.d (D.int .i64 n1), CV.d (D.int .i64 n2), CV.d (D.int .i64 n3), CV.d (D.slice 1 l4), CV.d (D.slice 7 l5)]), (3, [CV.d (D.str s6), CV.d (D.int .i64 n7), CV.d (D.int .i64 n8), CV.d (D.int .i64 n9), CV.d (D.slice 1 l10), CV.d (D.slice 7 l11)])] objs') ∧ ((b17) = false → (∃ I18 : (Int → (Nat → Prop)), ((∃ k19 : Nat, I18 0 k19) ∧ (∀ n20 : Int, (∀ k21 : Nat, (I18 n20 k21 → (((decide (n20 < nI (List.length l5))) = true → ((0 ≤ n20 ∧ n20 < nI (List.length l5)) ∧ (∃ n22 : Int, (∃ n23 : Int, (∃ n24 : Int, (∃ s25 : Bytes, (∃ n26 : Int, (∃ l27 : List D, (∃ s28 : Bytes, ((D.cells (List.getD l5 (Int.toNat n20) D.nilp) = [D.int .i64 n22, D.int .i64 n23, D.int .i64 n24, D.str s25, D.int .i64 n26, D.slice 1 l27, D.str s28]) ∧ ((0 ≤ n20 ∧ n20 < nI (List.length l11)) ∧ (∃ n29 : Int, (∃ n30 : Int, (∃ n31 : Int, (∃ s32 : Bytes, (∃ n33 : Int, (∃ l34 : List D, (∃ s35 : Bytes, ((D.cells (List.getD l11 (Int.toNat n20) D.nilp) = [D.int .i64 n29, D.int .i64 n30, D.int .i64 n31, D.str s32, D.int .i64 n33, D.slice 1 l34, D.str s35]) ∧ (∃ b36 : Bool, ((Runs P 37 [CV.d (D.agg [D.int .i64 n22, D.int .i64 n23, D.int .i64 n24, D.str s25, D.int .i64 n26, D.slice 1 l27, D.str s28]), CV.d (D.agg [D.int .i64 n29, D.int .i64 n30, D.int .i64 n31, D.str s32, D.int .i64 n33, D.slice 1 l34, D.str s35])] [] (CV.d (D.bool b36)) []) ∧ (((!b36) = true → EndR (CV.d (D.bool false)) res [(2, [CV.d (D.str s0), CV.d (D.int .i64 n1), CV.d (D.int .i64 n2), CV.d (D.int .i64 n3), CV.d (D.slice 1 l4), CV.d (D.slice 7 l5)]), (3, [CV.d (D.str s6), CV.d (D.int .i64 n7), CV.d (D.int .i64 n8), CV.d (D.int .i64 n9), CV.d (D.slice 1 l10), CV.d (D.slice 7 l11)])] objs') ∧ ((!b36) = false → (∀ n37 : Int, (Go.IntKind.wrap Go.IntKind.i64 (n20 + 1) = n37 → (∃ k38 : Nat, ((k38 < k21) ∧ I18 n37 k38))))))))))))))))))))))))))) ∧ ((decide (n20 < nI (List.length l5))) = false → EndR (CV.d (D.bool true)) res [(2, [CV.d (D.str s0), CV.d (D.int .i64 n1), CV.d (D.int .i64 n2), CV.d (D.int .i64 n3), CV.d (D.slice 1 l4), CV.d (D.slice 7 l5)]), (3, [CV.d (D.str s6), CV.d (D.int .i64 n7), CV.d (D.int .i64 n8), CV.d (D.int .i64 n9), CV.d (D.slice 1 l10), CV.d (D.slice 7 l11)])] objs')))))))))))))))))))))) := by kernel_rfl
theorem vc38 (l0 : List D) (l1 : List D) (res : CV) (objs' : List (Nat × List CV)) : walkA P (tbF P [102,103,50,48,53,56,105,58,107,7000052] [] 38) (anOf af38 []) af38 [CV.d (D.slice 1 l0), CV.d (D.slice 1 l1)] [] (fun rs => endE rs res objs') = ((((nI (List.length l0) != nI (List.length l1)) = true → EndR (CV.d (D.bool false)) res [] objs') ∧ ((nI (List.length l0) != nI (List.length l1)) = false → (∃ I2 : (Int → (Nat → Prop)), ((∃ k3 : Nat, I2 0 k3) ∧ (∀ n4 : Int, (∀ k5 : Nat, (I2 n4 k5 → (((decide (n4 < nI (List.length l0))) = true → ((0 ≤ n4 ∧ n4 < nI (List.length l0)) ∧ (∃ s6 : Bytes, ((D.cells (List.getD l0 (Int.toNat n4) D.nilp) = [D.str s6]) ∧ ((0 ≤ n4 ∧ n4 < nI (List.length l1)) ∧ (∃ s7 : Bytes, ((D.cells (List.getD l1 (Int.toNat n4) D.nilp) = [D.str s7]) ∧ (((!s6 == s7) = true → EndR (CV.d (D.bool false)) res [] objs') ∧ ((!s6 == s7) = false → (∀ n8 : Int, (Go.IntKind.wrap Go.IntKind.i64 (n4 + 1) = n8 → (∃ k9 : Nat, ((k9 < k5) ∧ I2 n8 k9))))))))))))) ∧ ((decide (n4 < nI (List.length l0))) = false → EndR (CV.d (D.bool true)) res [] objs')))))))))) := by kernel_rfl
theorem vc37 (n0 : Int) (n1 : Int) (n2 : Int) (s3 : Bytes) (n4 : Int) (l5 : List D) (s6 : Bytes) (n7 : Int) (n8 : Int) (n9 : Int) (s10 : Bytes) (n11 : Int) (l12 : List D) (s13 : Bytes) (res : CV) (objs' : List (Nat × List CV)) : walkA P (tbF P [102,103,50,48,53,56,105,58,107,7000052] [] 37) (anOf af37 []) af37 [CV.d (D.agg [D.int .i64 n0, D.int .i64 n1, D.int .i64 n2, D.str s3, D.int .i64 n4, D.slice 1 l5, D.str s6]), CV.d (D.agg [D.int .i64 n7, D.int .i64 n8, D.int .i64 n9, D.str s10, D.int .i64 n11, D.slice 1 l12, D.str s13])] [] (fun rs => endE rs res objs') = ((∀ b14 : Bool, ((n0 == n7 && n1 == n8) = b14 → (∀ b15 : Bool, ((b14 && n2 == n9) = b15 → (∀ b16 : Bool, ((b15 && s3 == s10) = b16 → (∀ b17 : Bool, ((b16 && n4 == n11) = b17 → (∃ b18 : Bool, ((b17 = true → Runs P 87 [CV.d (D.slice 1 l5), CV.d (D.slice 1 l12)] [] (CV.d (D.bool b18)) []) ∧ (∀ b19 : Bool, ((b17 && b18) = b19 → (∀ b20 : Bool, ((b19 && s6 == s13) = b20 → EndR (CV.d (D.bool b20)) res [(2, [CV.d (D.int .i64 n0), CV.d (D.int .i64 n1), CV.d (D.int .i64 n2), CV.d (D.str s3), CV.d (D.int .i64 n4), CV.d (D.slice 1 l5), CV.d (D.str s6)]), (3, [CV.d (D.int .i64 n7), CV.d (D.int .i64 n8), CV.d (D.int .i64 n9), CV.d (D.str s10), CV.d (D.int .i64 n11), CV.d (D.slice 1 l12), CV.d (D.str s13)])] objs'))))))))))))))) := by kernel_rfl
theorem vc87 (l0 : List D) (l1 : List D) (res : CV) (objs' : List (Nat × List CV)) : walkA P (tbF P [102,103,50,48,53,56,105,58,107,7000052] [] 87) (anOf af87 []) af87 [CV.d (D.slice 1 l0), CV.d (D.slice 1 l1)] [] (fun rs => endE rs res objs') = ((((nI (List.length l0) != nI (List.length l1)) = true → EndR (CV.d (D.bool false)) res [] objs') ∧ ((nI (List.length l0) != nI (List.length l1)) = false → (∃ I2 : (Int → (Nat → Prop)), ((∃ k3 : Nat, I2 0 k3) ∧ (∀ n4 : Int, (∀ k5 : Nat, (I2 n4 k5 → (((decide (n4 < nI (List.length l0))) = true → ((0 ≤ n4 ∧ n4 < nI (List.length l0)) ∧ (∃ n6 : Int, ((D.cells (List.getD l0 (Int.toNat n4) D.nilp) = [D.int .i64 n6]) ∧ ((0 ≤ n4 ∧ n4 < nI (List.length l1)) ∧ (∃ n7 : Int, ((D.cells (List.getD l1 (Int.toNat n4) D.nilp) = [D.int .i64 n7]) ∧ (((n6 != n7) = true → EndR (CV.d (D.bool false)) res [] objs') ∧ ((n6 != n7) = false → (∀ n8 : Int, (Go.IntKind.wrap Go.IntKind.i64 (n4 + 1) = n8 → (∃ k9 : Nat, ((k9 < k5) ∧ I2 n8 k9))))))))))))) ∧ ((decide (n4 < nI (List.length l0))) = false → EndR (CV.d (D.bool true)) res [] objs')))))))))) := by kernel_rfl
/-! ### alike? -/
theorem r87 (a b : List Int) (ha : a.length ≤ 9223372036854775806) : Runs P 87 [.d (.slice 1 (ints a)), .d (.slice 1 (ints b))] [] (.d (.bool (a == b))) [] := by
  refine runs_walkA t87 rfl (vc87 _ _ _ _) (by simp) ?_
  rw [ints_len, ints_len]
  have no : a ≠ b → EndR (.d (.bool false)) (.d (.bool (a == b))) [] [] := fun h => endB (by simp [h])
  refine ⟨fun h => no (by rintro rfl; simp at h), fun h => ?_⟩
  have hl : a.length = b.length := by simp [nI] at h; omega
  refine range1 (N := a.length) (fun i => a.take i = b.take i) ha (by simp) (fun i hi bd hJ I k next => ?_) fun hJ => ?_
  · have hi2 : i < b.length := by omega
    refine ⟨bd, a[i], by rw [ints_get _ hi]; rfl, ⟨by omega, by simp only [nI]; omega⟩, b[i], by rw [ints_get _ hi2]; rfl, fun h => no (by rintro rfl; simp at h), fun h => ?_⟩
    have he : a[i] = b[i] := by simpa using h
    exact next (by rw [List.take_add_one, List.take_add_one, hJ, List.getElem?_eq_getElem hi, List.getElem?_eq_getElem hi2, he])
  · have : a = b := by
      rw [List.take_length] at hJ
      rw [hJ, hl, List.take_length]
    exact endB (by simp [this])
theorem r38 (a b : List Bytes) (ha : a.length ≤ 9223372036854775806) : Runs P 38 [.d (.slice 1 (strs a)), .d (.slice 1 (strs b))] [] (.d (.bool (a == b))) [] := by
  refine runs_walkA t38 rfl (vc38 _ _ _ _) (by simp) ?_
  rw [strs_len, strs_len]
  have no : a ≠ b → EndR (.d (.bool false)) (.d (.bool (a == b))) [] [] := fun h => endB (by simp [h])
  refine ⟨fun h => no (by rintro rfl; simp at h), fun h => ?_⟩
  have hl : a.length = b.length := by simp [nI] at h; omega
  refine range1 (N := a.length) (fun i => a.take i = b.take i) ha (by simp) (fun i hi bd hJ I k next => ?_) fun hJ => ?_
  · have hi2 : i < b.length := by omega
    refine ⟨bd, a[i], by rw [strs_get _ hi]; rfl, ⟨by omega, by simp only [nI]; omega⟩, b[i], by rw [strs_get _ hi2]; rfl, fun h => no (by rintro rfl; simp at h), fun h => ?_⟩
    have he : a[i] = b[i] := by simpa using h
    exact next (by rw [List.take_add_one, List.take_add_one, hJ, List.getElem?_eq_getElem hi, List.getElem?_eq_getElem hi2, he])
  · have : a = b := by
      rw [List.take_length] at hJ
      rw [hJ, hl, List.take_length]
    exact endB (by simp [this])
def sameM (a b : Msg) : Bool := (((((a.uid == b.uid && a.mod == b.mod) && a.date == b.date) && a.id == b.id) && a.flags == b.flags) && a.keys == b.keys) && a.text == b.text
theorem sameM_iff {a b : Msg} : sameM a b = true ↔ a = b := by
  cases a; cases b
  unfold sameM
  simp only [Bool.and_eq_true, beq_iff_eq, Msg.mk.injEq]
  constructor
  · rintro ⟨⟨⟨⟨⟨⟨rfl, rfl⟩, rfl⟩, rfl⟩, rfl⟩, rfl⟩, rfl⟩; simp
  · rintro ⟨rfl, rfl, rfl, rfl, rfl, rfl, rfl⟩; simp
theorem r37 (a b : Msg) (ha : a.keys.length ≤ 9223372036854775806) : Runs P 37 [.d a.d, .d b.d] [] (.d (.bool (sameM a b))) [] := by
  refine runs_walkA t37 rfl (vc37 _ _ _ _ _ _ _ _ _ _ _ _ _ _ _ _) (by simp) ?_
  rintro _ rfl _ rfl _ rfl _ rfl
  refine ⟨_, fun _ => r87 _ _ ha, ?_⟩
  rintro _ rfl _ rfl
  exact endB rfl
def sameMs : List Msg → List Msg → Bool
  | [], [] => true
  | a :: r, b :: t => sameM a b && sameMs r t
  | _, _ => false
theorem sameMs_iff : ∀ {a b : List Msg}, sameMs a b = true ↔ a = b
  | [], [] => by simp [sameMs]
  | a :: r, b :: t => by simp only [sameMs, Bool.and_eq_true, sameM_iff, sameMs_iff, List.cons.injEq]
  | [], _ :: _ => by simp [sameMs]
  | _ :: _, [] => by simp [sameMs]
def sameB (a b : Box) : Bool := !(((((!(a.id == b.id) || a.valid != b.valid) || a.next != b.next) || a.high != b.high) || !(a.words == b.words)) || a.msgs.length != b.msgs.length) && sameMs a.msgs b.msgs
theorem sameB_iff {a b : Box} : sameB a b = true ↔ a = b := by
  cases a; cases b
  unfold sameB
  simp only [Bool.and_eq_true, Bool.not_eq_true', Bool.or_eq_false_iff, Bool.not_eq_false', beq_iff_eq, bne_eq_false_iff_eq, sameMs_iff, Box.mk.injEq]
  constructor
  · rintro ⟨⟨⟨⟨⟨⟨rfl, rfl⟩, rfl⟩, rfl⟩, rfl⟩, _⟩, rfl⟩; simp
  · rintro ⟨rfl, rfl, rfl, rfl, rfl, rfl⟩; simp
theorem r20 (a b : Box) (ha : BoxOk a) : Runs P 20 [.d a.d, .d b.d] [] (.d (.bool (sameB a b))) [] := by
  refine runs_walkA t20 rfl (vc20 _ _ _ _ _ _ _ _ _ _ _ _ _ _) (by simp) ?_
  simp only [nI, List.length_map]
  rintro _ rfl _ rfl _ rfl
  refine ⟨_, fun _ => r38 _ _ ha.nw, ?_⟩
  rintro _ rfl b17 h17
  have e17 : b17 = (((((!(a.id == b.id) || a.valid != b.valid) || a.next != b.next) || a.high != b.high) || !(a.words == b.words)) || a.msgs.length != b.msgs.length) := by
    rw [← h17]
    congr 1
    rw [Bool.eq_iff_iff]; simp only [bne_iff_ne, ne_eq]; omega
  refine ⟨fun h => endB ?_, fun h => ?_⟩
  · unfold sameB; rw [← e17, h]; rfl
  have hs : sameB a b = sameMs a.msgs b.msgs := by unfold sameB; rw [← e17, h]; rfl
  have hl : a.msgs.length = b.msgs.length := by
    rw [h] at e17
    have := e17.symm
    simp only [Bool.or_eq_false_iff, bne_eq_false_iff_eq] at this
    exact this.2
  rw [hs]
  refine range1 (N := a.msgs.length) (fun i => sameMs (a.msgs.drop i) (b.msgs.drop i) = sameMs a.msgs b.msgs) ha.nm rfl (fun i hi bd hJ I k next => ?_) fun hJ => ?_
  · have hi2 : i < b.msgs.length := by omega
    refine ⟨⟨bd.1, by have := bd.2; simpa [nI] using this⟩, _, _, _, _, _, _, _, by rw [msgs_get _ hi]; rfl, ⟨by omega, by omega⟩, _, _, _, _, _, _, _, by rw [msgs_get _ hi2]; rfl, _, r37 a.msgs[i] b.msgs[i] (ha.msgs _ (List.getElem_mem hi)).keys, ?_⟩
    rw [drop_cons hi, drop_cons hi2, sameMs] at hJ
    refine ⟨fun h => endB ?_, fun h => next ?_⟩
    · have h : sameM a.msgs[i] b.msgs[i] = false := by simpa using h
      rw [← hJ, h]; rfl
    · have h : sameM a.msgs[i] b.msgs[i] = true := by simpa using h
      rw [← hJ, h, Bool.true_and]
  · rw [List.drop_length, hl, List.drop_length] at hJ
    exact endB hJ

/-! ### a copy -/
end B
end Go.Proofs.YtmkkljbfmdngfaaDoor
namespace Go.Proofs.YtmkkljbfmdngfaaDoor
namespace B

theorem findM_isSome {l : List Msg} {u : Int} : (findM l u).isSome = true ↔ ∃ m ∈ l, m.uid = u := by
  induction l with
  | nil => simp [findM]
  | cons m r ih =>
    rw [findM_cons]
    split
    · rename_i h; simp at h; simp [h]
    · rename_i h
      simp at h
      simp [ih, h]
theorem erase_filter : ∀ {l : List Msg} {u : Int} {j : Nat}, (l.map Msg.uid).Pairwise (· < ·) → findM l u = some j → l.eraseIdx j = l.filter fun m => !(m.uid == u)
  | [], u, j, _, h => by simp [findM] at h
  | m :: t, u, j, hp, h => by
    rw [findM_cons] at h
    simp only [List.map_cons, List.pairwise_cons] at hp
    split at h
    · rename_i hm
      cases h
      have hm' : m.uid = u := by simpa using hm
      rw [List.eraseIdx_cons_zero, List.filter_cons, if_neg (by simp [hm'])]
      refine (List.filter_eq_self.2 fun x hx => ?_).symm
      have := hp.1 x.uid (List.mem_map_of_mem hx)
      simp; omega
    · rename_i hm
      cases e : findM t u with
      | none => rw [e] at h; simp at h
      | some j' =>
        rw [e] at h
        simp at h
        subst h
        rw [List.eraseIdx_cons_succ, List.filter_cons, if_pos (by simpa using hm), erase_filter hp.2 e]
def cutRow (u m : Int) : Row := ⟨3, u, m, ⟨0, 0, 0, [], 0, [], []⟩, []⟩
def cutRows (h : Int) : List Int → List Row
  | [] => []
  | u :: r => cutRow u (h + 1) :: cutRows (h + 1) r
theorem cutRows_snoc : ∀ (l : List Int) (h u : Int), cutRows h (l ++ [u]) = cutRows h l ++ [cutRow u (h + l.length + 1)]
  | [], h, u => by simp [cutRows]
  | x :: r, h, u => by
    rw [List.cons_append, cutRows, cutRows_snoc r, cutRows, List.cons_append]
    congr 4
    simp only [List.length_cons]; omega
theorem cutRows_len : ∀ (l : List Int) (h : Int), (cutRows h l).length = l.length
  | [], _ => rfl
  | x :: r, h => by rw [cutRows, List.length_cons, cutRows_len r, List.length_cons]
theorem cutRows_get : ∀ (l : List Int) (h : Int) (i : Nat) (hi : i < l.length), (cutRows h l)[i]'(by rw [cutRows_len]; exact hi) = cutRow l[i] (h + i + 1)
  | x :: r, h, 0, _ => by simp [cutRows]
  | x :: r, h, i + 1, hi => by
    have := cutRows_get r (h + 1) i (by simpa using hi)
    simp only [cutRows, List.getElem_cons_succ, this]
    congr 1
    omega
def leftM (l : List Int) (ms : List Msg) : List Msg := ms.filter fun m => !l.contains m.uid
theorem run_cuts : ∀ (l : List Int) (c : Box), BoxMay c → l.Nodup → (∀ u ∈ l, (findM c.msgs u).isSome = true) → c.high + l.length ≤ 1000000 →
    runB c (cutRows c.high l) = (0, { c with msgs := leftM l c.msgs, high := c.high + l.length }) ∧ (leftM l c.msgs).length + l.length = c.msgs.length
  | [], c, _, _, _, _ => by
    have : leftM [] c.msgs = c.msgs := List.filter_eq_self.2 fun x _ => by simp
    simp [cutRows, runB, this]
  | u :: r, c, hc, hn, hp, hh => by
    rw [List.nodup_cons] at hn
    simp only [List.length_cons] at hh
    obtain ⟨j, hj⟩ := Option.isSome_iff_exists.1 (hp u (by simp))
    obtain ⟨hjl, hju⟩ := findM_some hj
    have hM := msgsMay.1 hc.msgs
    have he := erase_filter hM.rise hj
    have hch := hc.high
    have hap : applyB c (cutRow u (c.high + 1)) = (0, { c with msgs := c.msgs.eraseIdx j, high := c.high + 1 }) := by
      rw [applyB_some c (cutRow u (c.high + 1)) (by simp [cutRow]) hj hjl]
      have h1 : oneB c j c.msgs[j] (cutRow u (c.high + 1)) = (0, { c with msgs := c.msgs.eraseIdx j }) := by
        unfold oneB
        have hq : modB (cutRow u (c.high + 1)).mod = true := by
          show (decide (1 ≤ c.high + 1) && decide (c.high + 1 ≤ 1000000)) = true
          rw [decide_eq_true (by omega), decide_eq_true (by omega)]; rfl
        rw [if_neg (by simp [cutRow]), if_neg (by simp [cutRow]), if_neg (by rw [hq]; decide), if_pos (by simp [cutRow])]
      rw [h1, if_neg (by simp [cutRow])]
      have : max c.high (cutRow u (c.high + 1)).mod = c.high + 1 := by show max c.high (c.high + 1) = c.high + 1; omega
      rw [this]
    have hc2 := (applyB_may hc hap).1
    obtain ⟨c', hcc⟩ : ∃ c' : Box, c' = { c with msgs := c.msgs.eraseIdx j, high := c.high + 1 } := ⟨_, rfl⟩
    rw [← hcc] at hc2 hap
    have em : c'.msgs = c.msgs.filter fun m => !(m.uid == u) := by rw [hcc]; exact he
    have eh : c'.high = c.high + 1 := by rw [hcc]
    obtain ⟨q1, q2⟩ := run_cuts r c' hc2 hn.2 (fun v hv => by
      obtain ⟨m, hm, hmu⟩ := findM_isSome.1 (hp v (by simp [hv]))
      refine findM_isSome.2 ⟨m, ?_, hmu⟩
      rw [em]
      refine List.mem_filter.2 ⟨hm, ?_⟩
      have : v ≠ u := fun e => hn.1 (e ▸ hv)
      simp [hmu, this]) (by rw [eh]; omega)
    have el : leftM r c'.msgs = leftM (u :: r) c.msgs := by
      unfold leftM
      rw [em, List.filter_filter]
      refine List.filter_congr fun m _ => ?_
      rw [List.contains_cons, Bool.not_or, Bool.and_comm]
    rw [el] at q1 q2
    refine ⟨?_, ?_⟩
    · rw [cutRows, runB, hap, if_pos rfl]
      dsimp only
      rw [← eh, q1, eh]
      rw [hcc]
      simp only [List.length_cons]
      congr 2
      omega
    · have : c'.msgs.length + 1 = c.msgs.length := by
        rw [hcc]; show (c.msgs.eraseIdx j).length + 1 = _
        rw [List.length_eraseIdx_of_lt hjl]; omega
      simp only [List.length_cons]; omega
theorem leftM_perm {l m : List Int} (h : ∀ u, u ∈ l ↔ u ∈ m) (ms : List Msg) : leftM l ms = leftM m ms := by
  unfold leftM
  refine List.filter_congr fun x _ => ?_
  congr 1
  rw [Bool.eq_iff_iff]
  simp [h]
def cutsB (b : Box) : List Int → List Int → Bool
  | _, [] => true
  | pre, u :: r => ((findM b.msgs u).isSome && !pre.contains u) && cutsB b (pre ++ [u]) r
theorem cutsB_iff (b : Box) : ∀ (l pre : List Int), cutsB b pre l = true ↔ (∀ u ∈ l, (findM b.msgs u).isSome = true ∧ u ∉ pre) ∧ l.Nodup
  | [], pre => by simp [cutsB]
  | u :: r, pre => by
    simp only [cutsB, Bool.and_eq_true]
    rw [cutsB_iff b r]
    simp only [List.nodup_cons, List.mem_cons, List.mem_append]
    constructor
    · rintro ⟨⟨h1, h2⟩, h3, h4⟩
      refine ⟨?_, fun hu => ?_, h4⟩
      · rintro v (rfl | hv)
        · exact ⟨h1, by simpa using h2⟩
        · exact ⟨(h3 v hv).1, fun hh => (h3 v hv).2 (.inl hh)⟩
      · exact (h3 u hu).2 (.inr (.inl rfl))
    · rintro ⟨h1, h2, h3⟩
      refine ⟨⟨(h1 u (.inl rfl)).1, by simpa using (h1 u (.inl rfl)).2⟩, fun v hv => ⟨(h1 v (.inr hv)).1, ?_⟩, h3⟩
      rintro (hh | hh | hh)
      · exact (h1 v (.inr hv)).2 hh
      · subst hh; exact h2 hv
      · cases hh
def cutOut (b : Box) (l : List Int) : Int × List Row :=
  if mayBox b ≠ 0 then (1, []) else if cutsB b [] l = false then (6, []) else if 1000000 < b.high + l.length then (9, []) else (0, cutRows b.high l)
theorem cutOut_perm (b : Box) {l m : List Int} (h : l.Perm m) : (cutOut b l).1 = (cutOut b m).1 := by
  have : cutsB b [] l = cutsB b [] m := by
    rw [Bool.eq_iff_iff, cutsB_iff, cutsB_iff]
    simp only [h.mem_iff, h.nodup_iff]
  unfold cutOut
  rw [this, h.length_eq]
  split
  · rfl
  split
  · rfl
  split <;> rfl
end B
end Go.Proofs.YtmkkljbfmdngfaaDoor
namespace Go.Proofs.YtmkkljbfmdngfaaDoor
namespace B
set_option maxRecDepth 100000
def af12 : AF := ⟨(.seq (.ops [⟨(some 3), (.box 6 true (.t 0)), none⟩, ⟨(some 6), (.mov (.c (.d (.bool false))) true none), none⟩]) (.seq (.seq (.ops [⟨(some 18), (.load true 6 (.t 3) false), none⟩, ⟨(some 19), (.call 15 [((.t 18), none)] none), none⟩, ⟨(some 20), (.bin false .gtr (.t 19) (.c (.d (.int .i64 0)))), none⟩, ⟨(some 21), (.mov (.t 20) true none), none⟩, ⟨(some 22), (.load true 6 (.t 3) false), (some (21, false))⟩, ⟨(some 23), (.call 16 [((.t 22), none)] none), (some (21, false))⟩, ⟨(some 24), (.bin false .neq (.t 23) (.c (.d (.int .i64 0)))), (some (21, false))⟩, ⟨(some 25), (.pick (.t 21) (.c (.d (.bool true))) (.t 24)), none⟩, ⟨(some 26), (.mov (.t 25) true none), none⟩, ⟨(some 27), (.mov (.t 1) false (some 1)), (some (26, false))⟩, ⟨(some 28), (.len (.t 27)), (some (26, false))⟩, ⟨(some 29), (.bin false .gtr (.t 28) (.c (.d (.int .i64 60)))), (some (26, false))⟩, ⟨(some 30), (.pick (.t 26) (.c (.d (.bool true))) (.t 29)), none⟩]) (.cond (.t 30) (.seq (.ops [⟨(some 31), (.call 29 [] none), none⟩, ⟨(some 6), (.mov (.t 31) true none), none⟩]) .ret) .skip)) (.seq (.ops [⟨(some 32), (.mov (.t 2) false none), none⟩, ⟨(some 33), (.convInt .u64 (.t 32)), none⟩, ⟨(some 34), (.mov (.t 1) false (some 1)), none⟩, ⟨(some 35), (.len (.t 34)), none⟩, ⟨(some 36), (.bin false .add (.t 35) (.c (.d (.int .i64 1)))), none⟩, ⟨(some 37), (.convInt .u64 (.t 36)), none⟩, ⟨(some 38), (.bin false .rem (.t 33) (.t 37)), none⟩, ⟨(some 39), (.convInt .i64 (.t 38)), none⟩, ⟨(some 7), (.mov (.t 39) true none), none⟩]) (.seq (.ops [⟨(some 41), (.load true 6 (.t 3) false), none⟩, ⟨(some 42), (.mov (.t 1) false (some 1)), none⟩, ⟨(some 43), (.call 31 [((.t 41), none), ((.t 42), (some 1))] none), none⟩, ⟨(some 40), (.mov (.t 43) true none), none⟩, ⟨(some 44), (.extract (.t 40) 0 false), none⟩, ⟨(some 45), (.extract (.t 40) 1 false), none⟩, ⟨(some 8), (.mov (.t 44) true (some 11)), none⟩, ⟨(some 9), (.mov (.t 45) true none), none⟩]) (.seq (.draw [⟨(some 47), (.load true 6 (.t 3) false), none⟩, ⟨(some 48), (.buildSl 1 []), none⟩, ⟨(some 49), (.mov (.t 1) false (some 1)), none⟩, ⟨(some 50), (.mov (.t 7) false none), none⟩, ⟨(some 51), (.slice 1 (.t 49) (some (.t 50)) none), none⟩, ⟨(some 52), (.append 1 8 (.t 48) (.t 51)), none⟩, ⟨(some 53), (.mov (.t 1) false (some 1)), none⟩, ⟨(some 54), (.mov (.t 7) false none), none⟩, ⟨(some 55), (.slice 1 (.t 53) none (some (.t 54))), none⟩, ⟨(some 56), (.append 1 8 (.t 52) (.t 55)), none⟩, ⟨(some 57), (.call 31 [((.t 47), none), ((.t 56), (some 1))] none), none⟩, ⟨(some 46), (.mov (.t 57) true none), none⟩, ⟨(some 58), (.extract (.t 46) 0 true), none⟩, ⟨(some 59), (.extract (.t 46) 1 true), none⟩, ⟨(some 10), (.mov (.t 58) true (some 11)), none⟩, ⟨(some 11), (.mov (.t 59) true none), none⟩] [0, 0, 0, 0, 0, 0, 0, 0, 0, 0, 3, 3, 0, 0, 0, 3] []) (.seq (.seq (.ops [⟨(some 60), (.mov (.t 9) false none), none⟩, ⟨(some 61), (.mov (.t 11) false none), none⟩, ⟨(some 62), (.bin false .neq (.t 60) (.t 61)), none⟩]) (.cond (.t 62) (.seq (.ops [⟨(some 6), (.mov (.c (.d (.bool false))) true none), none⟩]) .ret) .skip)) (.seq (.seq (.ops [⟨(some 63), (.mov (.t 9) false none), none⟩, ⟨(some 64), (.bin false .neq (.t 63) (.c (.d (.int .i64 0)))), none⟩]) (.cond (.t 64) (.seq (.ops [⟨(some 65), (.mov (.t 8) false (some 11)), none⟩, ⟨(some 66), (.len (.t 65)), none⟩, ⟨(some 67), (.bin false .eql (.t 66) (.c (.d (.int .i64 0)))), none⟩, ⟨(some 68), (.mov (.t 67) true none), none⟩, ⟨(some 69), (.mov (.t 10) false (some 11)), (some (68, true))⟩, ⟨(some 70), (.len (.t 69)), (some (68, true))⟩, ⟨(some 71), (.bin false .eql (.t 70) (.c (.d (.int .i64 0)))), (some (68, true))⟩, ⟨(some 72), (.pick (.t 68) (.t 71) (.c (.d (.bool false)))), none⟩, ⟨(some 73), (.mov (.t 72) true none), none⟩, ⟨(some 74), (.call 29 [] none), (some (73, true))⟩, ⟨(some 75), (.pick (.t 73) (.t 74) (.c (.d (.bool false)))), none⟩, ⟨(some 6), (.mov (.t 75) true none), none⟩]) .ret) .skip)) (.seq (.seq (.ops [⟨(some 76), (.mov (.t 8) false (some 11)), none⟩, ⟨(some 77), (.len (.t 76)), none⟩, ⟨(some 78), (.mov (.c (.d (.int .i64 0))) false none), none⟩]) (.block 0 (.loop (.seq (.ops [⟨(some 79), (.bin false .lss (.t 78) (.t 77)), none⟩]) (.seq (.cond (.t 79) .skip (.exit 0)) (.seq (.block 1 (.seq (.ops [⟨(some 80), (.mov (.t 78) true none), none⟩, ⟨(some 81), (.idxA 11 (.t 76) (.t 78)), none⟩, ⟨(some 82), (.load true 11 (.t 81) false), none⟩, ⟨(some 13), (.alloc [(.d (.int .i64 0)), (.d (.int .i64 0)), (.d (.int .i64 0)), (.d (.int .i64 0)), (.d (.int .i64 0)), (.d (.int .i64 0)), (.d (.str [])), (.d (.int .i64 0)), (.own 1 []), (.d (.str [])), (.d (.str []))]), none⟩, ⟨(some 12), (.mov (.t 80) true none), none⟩, ⟨none, (.store true 11 (.t 13) (.t 82) none), none⟩]) (.seq (.draw [⟨(some 83), (.fieldA 2 (.t 13)), none⟩, ⟨(some 84), (.load false 1 (.t 83) false), none⟩, ⟨(some 85), (.fieldA 3 (.t 3)), none⟩, ⟨(some 86), (.load false 1 (.t 85) false), none⟩, ⟨(some 87), (.mov (.t 12) false none), none⟩, ⟨(some 88), (.bin false .add (.t 86) (.t 87)), none⟩, ⟨(some 89), (.bin false .add (.t 88) (.c (.d (.int .i64 1)))), none⟩, ⟨(some 90), (.bin false .neq (.t 84) (.t 89)), none⟩, ⟨(some 91), (.mov (.t 90) true none), none⟩, ⟨(some 92), (.fieldA 1 (.t 13)), (some (91, false))⟩, ⟨(some 93), (.load false 1 (.t 92) false), (some (91, false))⟩, ⟨(some 94), (.mov (.t 1) false (some 1)), (some (91, false))⟩, ⟨(some 95), (.mov (.t 12) false none), (some (91, false))⟩, ⟨(some 96), (.idxA 1 (.t 94) (.t 95)), (some (91, false))⟩, ⟨(some 97), (.load false 1 (.t 96) false), (some (91, false))⟩, ⟨(some 98), (.bin false .neq (.t 93) (.t 97)), (some (91, false))⟩, ⟨(some 99), (.pick (.t 91) (.c (.d (.bool true))) (.t 98)), none⟩] [0, 0, 0, 0, 0, 0, 0, 3, 3, 0, 0, 0, 0, 0, 0, 3, 3] []) (.cond (.t 99) (.seq (.ops [⟨(some 6), (.mov (.c (.d (.bool false))) true none), none⟩]) .ret) .skip)))) (.ops [⟨(some 100), (.bin false .add (.t 78) (.c (.d (.int .i64 1)))), none⟩, ⟨(some 78), (.mov (.t 100) true none), none⟩]))))))) (.seq (.ops [⟨(some 102), (.load true 6 (.t 3) false), none⟩, ⟨(some 103), (.mov (.t 8) false (some 11)), none⟩, ⟨(some 104), (.call 32 [((.t 102), none), ((.t 103), (some 11))] none), none⟩, ⟨(some 101), (.mov (.t 104) true none), none⟩, ⟨(some 105), (.extract (.t 101) 0 false), none⟩, ⟨(some 106), (.extract (.t 101) 1 false), none⟩, ⟨(some 14), (.alloc [(.d (.str [])), (.d (.int .i64 0)), (.d (.int .i64 0)), (.d (.int .i64 0)), (.own 1 []), (.own 7 [])]), none⟩, ⟨none, (.store true 6 (.t 14) (.t 105) none), none⟩, ⟨(some 15), (.mov (.t 106) true none), none⟩]) (.seq (.ops [⟨(some 108), (.load true 6 (.t 3) false), none⟩, ⟨(some 109), (.mov (.t 10) false (some 11)), none⟩, ⟨(some 110), (.call 32 [((.t 108), none), ((.t 109), (some 11))] none), none⟩, ⟨(some 107), (.mov (.t 110) true none), none⟩, ⟨(some 111), (.extract (.t 107) 0 false), none⟩, ⟨(some 112), (.extract (.t 107) 1 false), none⟩, ⟨(some 16), (.alloc [(.d (.str [])), (.d (.int .i64 0)), (.d (.int .i64 0)), (.d (.int .i64 0)), (.own 1 []), (.own 7 [])]), none⟩, ⟨none, (.store true 6 (.t 16) (.t 111) none), none⟩, ⟨(some 17), (.mov (.t 112) true none), none⟩]) (.seq (.ops [⟨(some 113), (.mov (.t 15) false none), none⟩, ⟨(some 114), (.bin false .eql (.t 113) (.c (.d (.int .i64 0)))), none⟩, ⟨(some 115), (.mov (.t 114) true none), none⟩, ⟨(some 116), (.mov (.t 17) false none), (some (115, true))⟩, ⟨(some 117), (.bin false .eql (.t 116) (.c (.d (.int .i64 0)))), (some (115, true))⟩, ⟨(some 118), (.pick (.t 115) (.t 117) (.c (.d (.bool false)))), none⟩, ⟨(some 119), (.mov (.t 118) true none), none⟩, ⟨(some 120), (.load true 6 (.t 14) false), (some (119, true))⟩, ⟨(some 121), (.load true 6 (.t 16) false), (some (119, true))⟩, ⟨(some 122), (.call 20 [((.t 120), none), ((.t 121), none)] none), (some (119, true))⟩, ⟨(some 123), (.pick (.t 119) (.t 122) (.c (.d (.bool false)))), none⟩, ⟨(some 124), (.mov (.t 123) true none), none⟩, ⟨(some 125), (.fieldA 5 (.t 14)), (some (124, true))⟩, ⟨(some 126), (.load false 1 (.t 125) false), (some (124, true))⟩, ⟨(some 127), (.len (.t 126)), (some (124, true))⟩, ⟨(some 128), (.fieldA 5 (.t 3)), (some (124, true))⟩, ⟨(some 129), (.load false 1 (.t 128) false), (some (124, true))⟩, ⟨(some 130), (.len (.t 129)), (some (124, true))⟩, ⟨(some 131), (.mov (.t 1) false (some 1)), (some (124, true))⟩, ⟨(some 132), (.len (.t 131)), (some (124, true))⟩, ⟨(some 133), (.bin false .sub (.t 130) (.t 132)), (some (124, true))⟩, ⟨(some 134), (.bin false .eql (.t 127) (.t 133)), (some (124, true))⟩, ⟨(some 135), (.pick (.t 124) (.t 134) (.c (.d (.bool false)))), none⟩, ⟨(some 136), (.mov (.t 135) true none), none⟩, ⟨(some 137), (.call 29 [] none), (some (136, true))⟩, ⟨(some 138), (.pick (.t 136) (.t 137) (.c (.d (.bool false)))), none⟩, ⟨(some 6), (.mov (.t 138) true none), none⟩]) .ret))))))))))), [(.tm 6)], 3, 139⟩
theorem t12 : trF P HR 12 = some af12 := by kernel_rfl
def af31 : AF := ⟨(.seq (.ops [⟨(some 2), (.box 6 true (.t 0)), none⟩, ⟨(some 4), (.mov (.c .nils) true (some 11)), none⟩, ⟨(some 5), (.mov (.c (.d (.int .i64 0))) true none), none⟩]) (.seq (.seq (.ops [⟨(some 11), (.load true 6 (.t 2) false), none⟩, ⟨(some 12), (.call 47 [((.t 11), none)] none), none⟩, ⟨(some 13), (.bin false .neq (.t 12) (.c (.d (.int .i64 0)))), none⟩]) (.cond (.t 13) (.seq (.ops [⟨(some 4), (.mov (.c .nils) true (some 11)), none⟩, ⟨(some 5), (.mov (.c (.d (.int .i64 1))) true none), none⟩]) .ret) .skip)) (.seq (.seq (.ops [⟨(some 14), (.mov (.t 1) false (some 1)), none⟩, ⟨(some 15), (.len (.t 14)), none⟩, ⟨(some 16), (.mov (.c (.d (.int .i64 0))) false none), none⟩]) (.block 0 (.loop (.seq (.ops [⟨(some 17), (.bin false .lss (.t 16) (.t 15)), none⟩]) (.seq (.cond (.t 17) .skip (.exit 0)) (.seq (.block 1 (.seq (.ops [⟨(some 18), (.mov (.t 16) true none), none⟩, ⟨(some 19), (.idxA 1 (.t 14) (.t 16)), none⟩, ⟨(some 20), (.load false 1 (.t 19) false), none⟩, ⟨(some 6), (.mov (.t 18) true none), none⟩, ⟨(some 7), (.mov (.t 20) true none), none⟩]) (.seq (.ops [⟨(some 21), (.load true 6 (.t 2) false), none⟩, ⟨(some 22), (.mov (.t 7) false none), none⟩, ⟨(some 23), (.call 33 [((.t 21), none), ((.t 22), none)] none), none⟩, ⟨(some 24), (.bin false .lss (.t 23) (.c (.d (.int .i64 0)))), none⟩, ⟨(some 25), (.mov (.t 24) true none), none⟩, ⟨(some 26), (.mov (.t 1) false (some 1)), (some (25, false))⟩, ⟨(some 27), (.mov (.t 6) false none), (some (25, false))⟩, ⟨(some 28), (.slice 1 (.t 26) none (some (.t 27))), (some (25, false))⟩, ⟨(some 29), (.mov (.t 7) false none), (some (25, false))⟩, ⟨(some 30), (.call 71 [((.t 28), (some 1)), ((.t 29), none)] none), (some (25, false))⟩, ⟨(some 31), (.pick (.t 25) (.c (.d (.bool true))) (.t 30)), none⟩]) (.cond (.t 31) (.seq (.ops [⟨(some 4), (.mov (.c .nils) true (some 11)), none⟩, ⟨(some 5), (.mov (.c (.d (.int .i64 6))) true none), none⟩]) .ret) .skip)))) (.ops [⟨(some 32), (.bin false .add (.t 16) (.c (.d (.int .i64 1)))), none⟩, ⟨(some 16), (.mov (.t 32) true none), none⟩]))))))) (.seq (.seq (.ops [⟨(some 33), (.fieldA 3 (.t 2)), none⟩, ⟨(some 34), (.load false 1 (.t 33) false), none⟩, ⟨(some 35), (.mov (.t 1) false (some 1)), none⟩, ⟨(some 36), (.len (.t 35)), none⟩, ⟨(some 37), (.bin false .add (.t 34) (.t 36)), none⟩, ⟨(some 38), (.bin false .gtr (.t 37) (.c (.d (.int .i64 1000000)))), none⟩]) (.cond (.t 38) (.seq (.ops [⟨(some 4), (.mov (.c .nils) true (some 11)), none⟩, ⟨(some 5), (.mov (.c (.d (.int .i64 9))) true none), none⟩]) .ret) .skip)) (.seq (.ops [⟨(some 8), (.mov (.c .nils) true (some 11)), none⟩]) (.seq (.seq (.ops [⟨(some 39), (.mov (.t 1) false (some 1)), none⟩, ⟨(some 40), (.len (.t 39)), none⟩, ⟨(some 41), (.mov (.c (.d (.int .i64 0))) false none), none⟩]) (.block 2 (.loop (.seq (.ops [⟨(some 42), (.bin false .lss (.t 41) (.t 40)), none⟩]) (.seq (.cond (.t 42) .skip (.exit 2)) (.seq (.block 3 (.seq (.ops [⟨(some 43), (.mov (.t 41) true none), none⟩, ⟨(some 44), (.idxA 1 (.t 39) (.t 41)), none⟩, ⟨(some 45), (.load false 1 (.t 44) false), none⟩, ⟨(some 9), (.mov (.t 43) true none), none⟩, ⟨(some 10), (.mov (.t 45) true none), none⟩]) (.ops [⟨(some 46), (.mov (.t 8) true (some 11)), none⟩, ⟨(some 47), (.mov (.t 10) false none), none⟩, ⟨(some 48), (.fieldA 3 (.t 2)), none⟩, ⟨(some 49), (.load false 1 (.t 48) false), none⟩, ⟨(some 50), (.bin false .add (.t 49) (.c (.d (.int .i64 1)))), none⟩, ⟨(some 51), (.mov (.t 9) false none), none⟩, ⟨(some 52), (.bin false .add (.t 50) (.t 51)), none⟩, ⟨(some 53), (.build [(.d (.int .i64 0)), (.d (.int .i64 0)), (.d (.int .i64 0)), (.d (.int .i64 0)), (.d (.int .i64 0)), (.d (.int .i64 0)), (.d (.str [])), (.d (.int .i64 0)), (.d (.nils 1)), (.d (.str [])), (.d (.str []))] [(0, (1, (.c (.d (.int .i64 3))))), (1, (1, (.t 47))), (2, (1, (.t 52)))]), none⟩, ⟨(some 54), (.buildSl 11 [(.t 53)]), none⟩, ⟨(some 55), (.append 11 128 (.t 46) (.t 54)), none⟩, ⟨(some 8), (.mov (.t 55) true (some 11)), none⟩]))) (.ops [⟨(some 56), (.bin false .add (.t 41) (.c (.d (.int .i64 1)))), none⟩, ⟨(some 41), (.mov (.t 56) true none), none⟩]))))))) (.seq (.ops [⟨(some 57), (.mov (.t 8) true (some 11)), none⟩, ⟨(some 4), (.mov (.t 57) true (some 11)), none⟩, ⟨(some 5), (.mov (.c (.d (.int .i64 0))) true none), none⟩]) .ret))))))), [(.tm 4), (.tm 5)], 2, 58⟩
theorem t31 : trF P HR 31 = some af31 := by kernel_rfl
theorem vc31 (s0 : Bytes) (n1 : Int) (n2 : Int) (n3 : Int) (l4 : List D) (l5 : List D) (l6 : List D) (res : CV) (objs' : List (Nat × List CV)) : walkA P (tbF P [102,103,50,48,53,56,105,58,107,1000118,7000119,107500072,1072002141,86,129] [] 31) (anOf af31 []) af31 [CV.d (D.agg [D.str s0, D.int .i64 n1, D.int .i64 n2, D.int .i64 n3, D.slice 1 l4, D.slice 7 l5]), CV.d (D.slice 1 l6)] [] (fun rs => endE rs res objs') = ((∃ n7 : Int, ((Runs P 47 [CV.d (D.agg [D.str s0, D.int .i64 n1, D.int .i64 n2, D.int .i64 n3, D.slice 1 l4, D.slice 7 l5])] [] (CV.d (D.int .i64 n7)) []) ∧ (((n7 != 0) = true → EndR (CV.tup [CV.own (11 : Nat) [], CV.d (D.int .i64 (1 : Int))]) res [(2, [CV.d (D.str s0), CV.d (D.int .i64 n1), CV.d (D.int .i64 n2), CV.d (D.int .i64 n3), CV.d (D.slice 1 l4), CV.d (D.slice 7 l5)])] objs') ∧ ((n7 != 0) = false → (∃ I8 : (Int → (Nat → Prop)), ((∃ k9 : Nat, I8 0 k9) ∧ (∀ n10 : Int, (∀ k11 : Nat, (I8 n10 k11 → (((decide (n10 < nI (List.length l6))) = true → ((0 ≤ n10 ∧ n10 < nI (List.length l6)) ∧ (∃ n12 : Int, ((D.cells (List.getD l6 (Int.toNat n10) D.nilp) = [D.int .i64 n12]) ∧ (∃ n13 : Int, ((Runs P 33 [CV.d (D.agg [D.str s0, D.int .i64 n1, D.int .i64 n2, D.int .i64 n3, D.slice 1 l4, D.slice 7 l5]), CV.d (D.int .i64 n12)] [] (CV.d (D.int .i64 n13)) []) ∧ (((!decide (n13 < 0)) = true → 0 ≤ nI (0 : Nat) ∧ nI (0 : Nat) ≤ n10 ∧ n10 ≤ nI (List.length l6)) ∧ (∀ l14 : List D, (List.drop (Int.toNat (nI (0 : Nat))) (List.take (Int.toNat n10) l6) = l14 → (∃ b15 : Bool, (((!decide (n13 < 0)) = true → Runs P 71 [CV.d (D.slice 1 l14), CV.d (D.int .i64 n12)] [] (CV.d (D.bool b15)) []) ∧ (∀ b16 : Bool, ((decide (n13 < 0) || b15) = b16 → (((b16) = true → EndR (CV.tup [CV.own (11 : Nat) [], CV.d (D.int .i64 (6 : Int))]) res [(2, [CV.d (D.str s0), CV.d (D.int .i64 n1), CV.d (D.int .i64 n2), CV.d (D.int .i64 n3), CV.d (D.slice 1 l4), CV.d (D.slice 7 l5)])] objs') ∧ ((b16) = false → (∀ n17 : Int, (Go.IntKind.wrap Go.IntKind.i64 (n10 + 1) = n17 → (∃ k18 : Nat, ((k18 < k11) ∧ I8 n17 k18))))))))))))))))))) ∧ ((decide (n10 < nI (List.length l6))) = false → (∀ n19 : Int, (Go.IntKind.wrap Go.IntKind.i64 (n3 + nI (List.length l6)) = n19 → (((decide (n19 > 1000000)) = true → EndR (CV.tup [CV.own (11 : Nat) [], CV.d (D.int .i64 (9 : Int))]) res [(2, [CV.d (D.str s0), CV.d (D.int .i64 n1), CV.d (D.int .i64 n2), CV.d (D.int .i64 n3), CV.d (D.slice 1 l4), CV.d (D.slice 7 l5)])] objs') ∧ ((decide (n19 > 1000000)) = false → (∃ I20 : (Int → (List D → (Nat → Prop))), ((∃ k21 : Nat, I20 0 [] k21) ∧ (∀ n22 : Int, (∀ l23 : List D, (∀ k24 : Nat, (I20 n22 l23 k24 → (((decide (n22 < nI (List.length l6))) = true → ((0 ≤ n22 ∧ n22 < nI (List.length l6)) ∧ (∃ n25 : Int, ((D.cells (List.getD l6 (Int.toNat n22) D.nilp) = [D.int .i64 n25]) ∧ (∀ n26 : Int, (Go.IntKind.wrap Go.IntKind.i64 (n3 + 1) = n26 → (∀ n27 : Int, (Go.IntKind.wrap Go.IntKind.i64 (n26 + n22) = n27 → (((List.length l23 + List.length [D.agg [D.int .i64 3, D.int .i64 n25, D.int .i64 n27, D.int .i64 0, D.int .i64 0, D.int .i64 0, D.str [], D.int .i64 0, D.slice 1 [], D.str [], D.str []]]) * 128 ≤ 140737488355328) ∧ (∀ n28 : Int, (Go.IntKind.wrap Go.IntKind.i64 (n22 + 1) = n28 → (∃ k29 : Nat, ((k29 < k24) ∧ I20 n28 (l23 ++ [D.agg [D.int .i64 3, D.int .i64 n25, D.int .i64 n27, D.int .i64 0, D.int .i64 0, D.int .i64 0, D.str [], D.int .i64 0, D.slice 1 [], D.str [], D.str []]]) k29))))))))))))) ∧ ((decide (n22 < nI (List.length l6))) = false → EndR (CV.tup [CV.own 11 l23, CV.d (D.int .i64 0)]) res [(2, [CV.d (D.str s0), CV.d (D.int .i64 n1), CV.d (D.int .i64 n2), CV.d (D.int .i64 n3), CV.d (D.slice 1 l4), CV.d (D.slice 7 l5)])] objs')))))))))))))))))))))))) := by kernel_rfl
theorem vc12 (s0 : Bytes) (n1 : Int) (n2 : Int) (n3 : Int) (l4 : List D) (l5 : List D) (l6 : List D) (n7 : Int) (res : CV) (objs' : List (Nat × List CV)) : walkA P (tbF P [102,103,50,48,53,56,105,58,107,1000118,7000119,107500072,1072002141,86,129] [] 12) (anOf af12 []) af12 [CV.d (D.agg [D.str s0, D.int .i64 n1, D.int .i64 n2, D.int .i64 n3, D.slice 1 l4, D.slice 7 l5]), CV.d (D.slice 1 l6), CV.d (D.int .i64 n7)] [] (fun rs => endE rs res objs') = ((∃ n8 : Int, ((Runs P 15 [CV.d (D.agg [D.str s0, D.int .i64 n1, D.int .i64 n2, D.int .i64 n3, D.slice 1 l4, D.slice 7 l5])] [] (CV.d (D.int .i64 n8)) []) ∧ (∃ n9 : Int, (((!decide (n8 > 0)) = true → Runs P 16 [CV.d (D.agg [D.str s0, D.int .i64 n1, D.int .i64 n2, D.int .i64 n3, D.slice 1 l4, D.slice 7 l5])] [] (CV.d (D.int .i64 n9)) []) ∧ (∀ b10 : Bool, ((decide (n8 > 0) || n9 != 0) = b10 → (∀ b11 : Bool, ((b10 || decide (nI (List.length l6) > 60)) = b11 → (((b11) = true → (∃ b12 : Bool, ((Runs P 29 [] [] (CV.d (D.bool b12)) []) ∧ EndR (CV.d (D.bool b12)) res [(3, [CV.d (D.str s0), CV.d (D.int .i64 n1), CV.d (D.int .i64 n2), CV.d (D.int .i64 n3), CV.d (D.slice 1 l4), CV.d (D.slice 7 l5)])] objs'))) ∧ ((b11) = false → (∀ n13 : Int, (Go.IntKind.wrap Go.IntKind.u64 n7 = n13 → (∀ n14 : Int, (Go.IntKind.wrap Go.IntKind.i64 (nI (List.length l6) + 1) = n14 → (∀ n15 : Int, (Go.IntKind.wrap Go.IntKind.u64 n14 = n15 → ((n15 ≠ 0) ∧ (∀ n16 : Int, (Int.tmod n13 n15 = n16 → (∀ n17 : Int, (Go.IntKind.wrap Go.IntKind.i64 n16 = n17 → (∃ l18 : List D, (∃ n19 : Int, ((Runs P 31 [CV.d (D.agg [D.str s0, D.int .i64 n1, D.int .i64 n2, D.int .i64 n3, D.slice 1 l4, D.slice 7 l5]), CV.d (D.slice 1 l6)] [] (CV.tup [CV.d (D.slice 11 l18), CV.d (D.int .i64 n19)]) []) ∧ ((0 ≤ n17 ∧ n17 ≤ nI (List.length l6) ∧ nI (List.length l6) ≤ nI (List.length l6)) ∧ (∀ l20 : List D, (List.drop (Int.toNat n17) (List.take (Int.toNat (nI (List.length l6))) l6) = l20 → (((0 + List.length l20) * 8 ≤ 140737488355328) ∧ ((0 ≤ nI (0 : Nat) ∧ nI (0 : Nat) ≤ n17 ∧ n17 ≤ nI (List.length l6)) ∧ (∀ l21 : List D, (List.drop (Int.toNat (nI (0 : Nat))) (List.take (Int.toNat n17) l6) = l21 → (((List.length l20 + List.length l21) * 8 ≤ 140737488355328) ∧ (∃ l22 : List D, (∃ n23 : Int, ((Runs P 31 [CV.d (D.agg [D.str s0, D.int .i64 n1, D.int .i64 n2, D.int .i64 n3, D.slice 1 l4, D.slice 7 l5]), CV.d (D.slice 1 (l20 ++ l21))] [] (CV.tup [CV.d (D.slice 11 l22), CV.d (D.int .i64 n23)]) []) ∧ (((n19 != n23) = true → EndR (CV.d (D.bool false)) res [(3, [CV.d (D.str s0), CV.d (D.int .i64 n1), CV.d (D.int .i64 n2), CV.d (D.int .i64 n3), CV.d (D.slice 1 l4), CV.d (D.slice 7 l5)])] objs') ∧ ((n19 != n23) = false → (((n19 != 0) = true → (∀ b24 : Bool, ((nI (List.length l18) == 0 && nI (List.length l22) == 0) = b24 → (∃ b25 : Bool, ((b24 = true → Runs P 29 [] [] (CV.d (D.bool b25)) []) ∧ (∀ b26 : Bool, ((b24 && b25) = b26 → EndR (CV.d (D.bool b26)) res [(3, [CV.d (D.str s0), CV.d (D.int .i64 n1), CV.d (D.int .i64 n2), CV.d (D.int .i64 n3), CV.d (D.slice 1 l4), CV.d (D.slice 7 l5)])] objs'))))))) ∧ ((n19 != 0) = false → (∃ I27 : (Int → (Nat → Prop)), ((∃ k28 : Nat, I27 0 k28) ∧ (∀ n29 : Int, (∀ k30 : Nat, (I27 n29 k30 → (((decide (n29 < nI (List.length l18))) = true → ((0 ≤ n29 ∧ n29 < nI (List.length l18)) ∧ (∃ n31 : Int, (∃ n32 : Int, (∃ n33 : Int, (∃ n34 : Int, (∃ n35 : Int, (∃ n36 : Int, (∃ s37 : Bytes, (∃ n38 : Int, (∃ l39 : List D, (∃ s40 : Bytes, (∃ s41 : Bytes, ((D.cells (List.getD l18 (Int.toNat n29) D.nilp) = [D.int .i64 n31, D.int .i64 n32, D.int .i64 n33, D.int .i64 n34, D.int .i64 n35, D.int .i64 n36, D.str s37, D.int .i64 n38, D.slice 1 l39, D.str s40, D.str s41]) ∧ (∀ n42 : Int, (Go.IntKind.wrap Go.IntKind.i64 (n3 + n29) = n42 → (∀ n43 : Int, (Go.IntKind.wrap Go.IntKind.i64 (n42 + 1) = n43 → (((!n33 != n43) = true → 0 ≤ n29 ∧ n29 < nI (List.length l6)) ∧ (∃ n44 : Int, (((!n33 != n43) = true → D.cells (List.getD l6 (Int.toNat n29) D.nilp) = [D.int .i64 n44]) ∧ (∀ b45 : Bool, ((n33 != n43 || n32 != n44) = b45 → (((b45) = true → EndR (CV.d (D.bool false)) res [(3, [CV.d (D.str s0), CV.d (D.int .i64 n1), CV.d (D.int .i64 n2), CV.d (D.int .i64 n3), CV.d (D.slice 1 l4), CV.d (D.slice 7 l5)]), (13, [CV.d (D.int .i64 n31), CV.d (D.int .i64 n32), CV.d (D.int .i64 n33), CV.d (D.int .i64 n34), CV.d (D.int .i64 n35), CV.d (D.int .i64 n36), CV.d (D.str s37), CV.d (D.int .i64 n38), CV.d (D.slice 1 l39), CV.d (D.str s40), CV.d (D.str s41)])] objs') ∧ ((b45) = false → (∀ n46 : Int, (Go.IntKind.wrap Go.IntKind.i64 (n29 + 1) = n46 → (∃ k47 : Nat, ((k47 < k30) ∧ I27 n46 k47))))))))))))))))))))))))))))) ∧ ((decide (n29 < nI (List.length l18))) = false → (∃ s48 : Bytes, (∃ n49 : Int, (∃ n50 : Int, (∃ n51 : Int, (∃ l52 : List D, (∃ l53 : List D, (∃ n54 : Int, ((Runs P 32 [CV.d (D.agg [D.str s0, D.int .i64 n1, D.int .i64 n2, D.int .i64 n3, D.slice 1 l4, D.slice 7 l5]), CV.d (D.slice 11 l18)] [] (CV.tup [CV.d (D.agg [D.str s48, D.int .i64 n49, D.int .i64 n50, D.int .i64 n51, D.slice 1 l52, D.slice 7 l53]), CV.d (D.int .i64 n54)]) []) ∧ (∃ s55 : Bytes, (∃ n56 : Int, (∃ n57 : Int, (∃ n58 : Int, (∃ l59 : List D, (∃ l60 : List D, (∃ n61 : Int, ((Runs P 32 [CV.d (D.agg [D.str s0, D.int .i64 n1, D.int .i64 n2, D.int .i64 n3, D.slice 1 l4, D.slice 7 l5]), CV.d (D.slice 11 l22)] [] (CV.tup [CV.d (D.agg [D.str s55, D.int .i64 n56, D.int .i64 n57, D.int .i64 n58, D.slice 1 l59, D.slice 7 l60]), CV.d (D.int .i64 n61)]) []) ∧ (∀ b62 : Bool, ((n54 == 0 && n61 == 0) = b62 → (∃ b63 : Bool, ((b62 = true → Runs P 20 [CV.d (D.agg [D.str s48, D.int .i64 n49, D.int .i64 n50, D.int .i64 n51, D.slice 1 l52, D.slice 7 l53]), CV.d (D.agg [D.str s55, D.int .i64 n56, D.int .i64 n57, D.int .i64 n58, D.slice 1 l59, D.slice 7 l60])] [] (CV.d (D.bool b63)) []) ∧ (∀ b64 : Bool, ((b62 && b63) = b64 → (∀ n65 : Int, (Go.IntKind.wrap Go.IntKind.i64 (nI (List.length l5) - nI (List.length l6)) = n65 → (∀ b66 : Bool, ((b64 && nI (List.length l53) == n65) = b66 → (∃ b67 : Bool, ((b66 = true → Runs P 29 [] [] (CV.d (D.bool b67)) []) ∧ (∀ b68 : Bool, ((b66 && b67) = b68 → EndR (CV.d (D.bool b68)) res [(3, [CV.d (D.str s0), CV.d (D.int .i64 n1), CV.d (D.int .i64 n2), CV.d (D.int .i64 n3), CV.d (D.slice 1 l4), CV.d (D.slice 7 l5)]), (14, [CV.d (D.str s48), CV.d (D.int .i64 n49), CV.d (D.int .i64 n50), CV.d (D.int .i64 n51), CV.d (D.slice 1 l52), CV.d (D.slice 7 l53)]), (16, [CV.d (D.str s55), CV.d (D.int .i64 n56), CV.d (D.int .i64 n57), CV.d (D.int .i64 n58), CV.d (D.slice 1 l59), CV.d (D.slice 7 l60)])] objs'))))))))))))))))))))))))))))))))))))))))))))))))))))))))))))))))))))))))))))) := by kernel_rfl
theorem vc33 (s0 : Bytes) (n1 : Int) (n2 : Int) (n3 : Int) (l4 : List D) (l5 : List D) (n6 : Int) (res : CV) (objs' : List (Nat × List CV)) : walkA P (tbF P [102,103,50,48,53,56,105,58,107,1000118,7000119,107500072,1072002141,86,129] [] 33) (anOf af33 []) af33 [CV.d (D.agg [D.str s0, D.int .i64 n1, D.int .i64 n2, D.int .i64 n3, D.slice 1 l4, D.slice 7 l5]), CV.d (D.int .i64 n6)] [] (fun rs => endE rs res objs') = ((∃ n7 : Int, (∃ n8 : Int, ((Runs P 74 [CV.d (D.slice 7 l5), CV.fn 75 [3]] [(3, [CV.d (D.int .i64 n6)])] (CV.d (D.int .i64 n8)) [(3, [CV.d (D.int .i64 n7)])]) ∧ EndR (CV.d (D.int .i64 n8)) res [(2, [CV.d (D.str s0), CV.d (D.int .i64 n1), CV.d (D.int .i64 n2), CV.d (D.int .i64 n3), CV.d (D.slice 1 l4), CV.d (D.slice 7 l5)]), (3, [CV.d (D.int .i64 n7)])] objs')))) := by kernel_rfl
def af71 : AF := ⟨(.seq (.ops [⟨(some 4), (.mov (.c (.d (.bool false))) true none), none⟩]) (.seq (.ops [⟨(some 5), (.mov (.t 0) false (some 1)), none⟩, ⟨(some 6), (.mov (.t 1) false none), none⟩, ⟨(some 7), (.call 117 [((.t 5), (some 1)), ((.t 6), none)] none), none⟩, ⟨(some 8), (.bin false .geq (.t 7) (.c (.d (.int .i64 0)))), none⟩, ⟨(some 4), (.mov (.t 8) true none), none⟩]) .ret)), [(.tm 4)], 2, 9⟩
theorem t71 : trF P HR 71 = some af71 := by kernel_rfl
def af117 : AF := ⟨(.seq (.ops [⟨(some 4), (.mov (.c (.d (.int .i64 0))) true none), none⟩]) (.seq (.seq (.ops [⟨(some 6), (.mov (.t 0) false (some 1)), none⟩, ⟨(some 7), (.len (.t 6)), none⟩, ⟨(some 8), (.mov (.c (.d (.int .i64 0))) false none), none⟩]) (.block 0 (.loop (.seq (.ops [⟨(some 9), (.bin false .lss (.t 8) (.t 7)), none⟩]) (.seq (.cond (.t 9) .skip (.exit 0)) (.seq (.block 1 (.seq (.ops [⟨(some 10), (.mov (.t 8) true none), none⟩, ⟨(some 5), (.mov (.t 10) true none), none⟩]) (.seq (.ops [⟨(some 11), (.mov (.t 1) false none), none⟩, ⟨(some 12), (.mov (.t 0) false (some 1)), none⟩, ⟨(some 13), (.mov (.t 5) false none), none⟩, ⟨(some 14), (.idxA 1 (.t 12) (.t 13)), none⟩, ⟨(some 15), (.load false 1 (.t 14) false), none⟩, ⟨(some 16), (.bin false .eql (.t 11) (.t 15)), none⟩]) (.cond (.t 16) (.seq (.ops [⟨(some 17), (.mov (.t 5) true none), none⟩, ⟨(some 4), (.mov (.t 17) true none), none⟩]) .ret) .skip)))) (.ops [⟨(some 18), (.bin false .add (.t 8) (.c (.d (.int .i64 1)))), none⟩, ⟨(some 8), (.mov (.t 18) true none), none⟩]))))))) (.seq (.ops [⟨(some 4), (.mov (.c (.d (.int .i64 (-1)))) true none), none⟩]) .ret))), [(.tm 4)], 2, 19⟩
theorem t117 : trF P HR 117 = some af117 := by kernel_rfl
theorem vc74d (ms : List D) (u : Int) (res : CV) (objs' : List (Nat × List CV)) : walkA P (tbF P [102,103,50,48,53,56,105,58,107,1000118,7000119,107500072,1072002141,86,129] [] 74) (anOf af74 []) af74 [CV.d (D.slice 7 ms), CV.fn 75 [1000]] [(1000, [CV.d (D.int .i64 u)])] (fun rs => endE rs res objs') = ((∃ I2 : (Int → (Int → (Nat → Prop))), ((∃ k3 : Nat, I2 0 u k3) ∧ (∀ n4 : Int, (∀ n5 : Int, (∀ k6 : Nat, (I2 n4 n5 k6 → (((decide (n4 < nI (List.length ms))) = true → ((0 ≤ n4 ∧ n4 < nI (List.length ms)) ∧ (∃ n7 : Int, (∃ n8 : Int, (∃ n9 : Int, (∃ s10 : Bytes, (∃ n11 : Int, (∃ l12 : List D, (∃ s13 : Bytes, ((D.cells (List.getD ms (Int.toNat n4) D.nilp) = [D.int .i64 n7, D.int .i64 n8, D.int .i64 n9, D.str s10, D.int .i64 n11, D.slice 1 l12, D.str s13]) ∧ (∃ n14 : Int, (∃ b15 : Bool, ((Runs P 75 [CV.d (D.agg [D.int .i64 n7, D.int .i64 n8, D.int .i64 n9, D.str s10, D.int .i64 n11, D.slice 1 l12, D.str s13]), CV.ptr 1000 0] [(1000, [CV.d (D.int .i64 n5)])] (CV.d (D.bool b15)) [(1000, [CV.d (D.int .i64 n14)])]) ∧ (((b15) = true → EndR (CV.d (D.int .i64 n4)) res [(1000, [CV.d (D.int .i64 n14)])] objs') ∧ ((b15) = false → (∀ n16 : Int, (Go.IntKind.wrap Go.IntKind.i64 (n4 + 1) = n16 → (∃ k17 : Nat, ((k17 < k6) ∧ I2 n16 n14 k17))))))))))))))))))) ∧ ((decide (n4 < nI (List.length ms))) = false → EndR (CV.d (D.int .i64 (-1 : Int))) res [(1000, [CV.d (D.int .i64 n5)])] objs'))))))))) := by kernel_rfl
theorem vc71 (l0 : List D) (n1 : Int) (res : CV) (objs' : List (Nat × List CV)) : walkA P (tbF P [102,103,50,48,53,56,105,58,107,1000118,7000119,107500072,1072002141,86,129] [] 71) (anOf af71 []) af71 [CV.d (D.slice 1 l0), CV.d (D.int .i64 n1)] [] (fun rs => endE rs res objs') = ((∃ n2 : Int, ((Runs P 117 [CV.d (D.slice 1 l0), CV.d (D.int .i64 n1)] [] (CV.d (D.int .i64 n2)) []) ∧ EndR (CV.d (D.bool (decide (n2 ≥ 0)))) res [] objs'))) := by kernel_rfl
theorem vc117 (l0 : List D) (n1 : Int) (res : CV) (objs' : List (Nat × List CV)) : walkA P (tbF P [102,103,50,48,53,56,105,58,107,1000118,7000119,107500072,1072002141,86,129] [] 117) (anOf af117 []) af117 [CV.d (D.slice 1 l0), CV.d (D.int .i64 n1)] [] (fun rs => endE rs res objs') = ((∃ I2 : (Int → (Nat → Prop)), ((∃ k3 : Nat, I2 0 k3) ∧ (∀ n4 : Int, (∀ k5 : Nat, (I2 n4 k5 → (((decide (n4 < nI (List.length l0))) = true → ((0 ≤ n4 ∧ n4 < nI (List.length l0)) ∧ (∃ n6 : Int, ((D.cells (List.getD l0 (Int.toNat n4) D.nilp) = [D.int .i64 n6]) ∧ (((n1 == n6) = true → EndR (CV.d (D.int .i64 n4)) res [] objs') ∧ ((n1 == n6) = false → (∀ n7 : Int, (Go.IntKind.wrap Go.IntKind.i64 (n4 + 1) = n7 → (∃ k8 : Nat, ((k8 < k5) ∧ I2 n7 k8)))))))))) ∧ ((decide (n4 < nI (List.length l0))) = false → EndR (CV.d (D.int .i64 (-1 : Int))) res [] objs')))))))) := by kernel_rfl
end B
end Go.Proofs.YtmkkljbfmdngfaaDoor
namespace Go.Proofs.YtmkkljbfmdngfaaDoor
namespace B
open Go.RowKit

def idxI (l : List Int) (s : Int) : Int := if l.contains s then (l.idxOf s : Int) else -1
theorem r117 (l : List Int) (s : Int) (hl : l.length ≤ 9223372036854775806) : Runs P 117 [.d (.slice 1 (ints l)), .d (.int .i64 s)] [] (.d (.int .i64 (idxI l s))) [] := by
  refine runs_walkA t117 rfl (vc117 _ _ _ _) (by simp) ?_
  rw [ints_len]
  refine range1 (fun i => l.contains s = (l.drop i).contains s ∧ l.idxOf s = i + (l.drop i).idxOf s) hl ⟨rfl, by simp⟩ (fun i hi bd hJ I k next => ⟨bd, ?_⟩) fun hJ => ?_
  · refine ⟨l[i], by rw [ints_get l hi]; rfl, ?_⟩
    rw [drop_cons hi, List.contains_cons, List.idxOf_cons] at hJ
    refine ⟨fun h => endI ?_, fun h => next ?_⟩
    · have hq : (l[i] == s) = true := by rw [BEq.comm]; exact h
      rw [hq, h] at hJ
      unfold idxI
      rw [hJ.1, hJ.2]; rfl
    · have hq : (l[i] == s) = false := by rw [BEq.comm]; exact h
      rw [hq, h] at hJ
      refine ⟨by rw [hJ.1]; rfl, ?_⟩
      rw [hJ.2]; simp only [cond_false]; omega
  · rw [List.drop_length] at hJ
    refine endI ?_
    unfold idxI; rw [hJ.1]; rfl
theorem r71 (l : List Int) (s : Int) (hl : l.length ≤ 9223372036854775806) : Runs P 71 [.d (.slice 1 (ints l)), .d (.int .i64 s)] [] (.d (.bool (l.contains s))) [] := by
  refine runs_walkA t71 rfl (vc71 _ _ _ _) (by simp) ?_
  refine ⟨_, r117 l s hl, endB ?_⟩
  unfold idxI
  cases l.contains s <;> simp <;> omega
theorem r74d (l : List Msg) (u : Int) (hl : l.length ≤ 9223372036854775806) : Runs P 74 [.d (.slice 7 (l.map Msg.d)), .fn 75 [1000]] [(1000, [.d (iD u)])] (.d (iD (findI l u))) [(1000, [.d (iD u)])] := by
  refine runs_walkA t74 rfl (vc74d (l.map Msg.d) u _ _) (by simp) ?_
  rw [nI_map]
  refine range2' (fun i x => x = u ∧ findI l u = match findM (l.drop i) u with | some j => ((i + j : Nat) : Int) | none => -1) hl ⟨rfl, by unfold findI; rw [List.drop_zero]; cases findM l u <;> simp⟩ (fun i hi bd x hJ I k next => ⟨bd, ?_⟩) fun x hJ => ?_
  · obtain ⟨rfl, hJ⟩ := hJ
    refine ⟨_, _, _, _, _, _, _, by rw [msgs_get l hi]; rfl, _, _, r75r l[i] x, fun h => ?_, fun h => ?_⟩
    · rw [drop_cons hi, findM_cons, h, if_pos rfl] at hJ
      exact endL (by rw [hJ]; rfl) ⟨rfl, trivial⟩ rfl
    · rw [drop_cons hi, findM_cons, h] at hJ
      refine next _ ⟨rfl, ?_⟩
      rw [hJ]
      cases findM (l.drop (i + 1)) x with
      | none => rfl
      | some j => show ((i + (j + 1) : Nat) : Int) = ((i + 1 + j : Nat) : Int); congr 1; omega
  · obtain ⟨rfl, hJ⟩ := hJ
    rw [List.drop_length] at hJ
    exact endL (by rw [hJ]; rfl) ⟨rfl, trivial⟩ rfl
theorem r33 (b : Box) (u : Int) (hl : b.msgs.length ≤ 9223372036854775806) : Runs P 33 [.d b.d, .d (iD u)] [] (.d (iD (findI b.msgs u))) [] := by
  refine runs_walkA t33 rfl (vc33 b.id b.valid b.next b.high (strs b.words) (b.msgs.map Msg.d) u _ _) (by simp) ?_
  have h := (r74d b.msgs u hl).swap 1000 3
  exact ⟨_, _, by simpa [CV.ren, CV.ren1, renB, swp] using h, end0 rfl rfl⟩
theorem findI_neg (l : List Msg) (u : Int) : decide (findI l u < 0) = !(findM l u).isSome := by
  unfold findI
  cases findM l u with
  | none => rfl
  | some i => simp
theorem take_ints (l : List Int) (i : Nat) : List.drop (Int.toNat (nI 0)) (List.take (Int.toNat (i : Int)) (ints l)) = ints (l.take i) := by
  simp [nI, ints, List.map_take]
theorem r31 (b : Box) (l : List Int) (hb : BoxOk b) (hl : l.length ≤ 1099511627776) : Runs P 31 [.d b.d, .d (.slice 1 (ints l))] [] (.tup [.d (.slice 11 ((cutOut b l).2.map Row.d)), .d (iD (cutOut b l).1)]) [] := by
  refine runs_walkA t31 rfl (vc31 b.id b.valid b.next b.high (strs b.words) (b.msgs.map Msg.d) (ints l) _ _) (by simp) ?_
  refine ⟨_, r47 b hb, fun h => ?_, fun h => ?_⟩
  · rw [show cutOut b l = (1, []) from by unfold cutOut; rw [if_pos (by simpa using h)]]
    exact endTO rfl
  have h0 : mayBox b = 0 := by simpa using h
  have hM := boxMay.1 h0
  have c0 : ¬ mayBox b ≠ 0 := fun q => q h0
  have hn : nI (List.length (ints l)) = nI l.length := by rw [ints_len]
  rw [hn]
  refine range1 (fun i => cutsB b [] l = cutsB b (l.take i) (l.drop i)) (by omega) rfl (fun i hi bd hJ I k next => ⟨bd, l[i], by rw [ints_get l hi]; rfl, _, r33 b l[i] (by have := hM.nm; omega), fun _ => ⟨by simp [nI], bd.1, Int.le_of_lt bd.2⟩, ?_⟩) fun hJ => ?_
  · rintro _ rfl
    rw [take_ints]
    refine ⟨_, fun _ => r71 (l.take i) l[i] (by rw [List.length_take]; omega), ?_⟩
    rintro b16 h16
    rw [findI_neg] at h16
    rw [drop_cons hi, cutsB, ← List.take_succ_eq_append_getElem hi, show ((findM b.msgs l[i]).isSome && !(l.take i).contains l[i]) = !b16 by rw [← h16]; simp] at hJ
    refine ⟨fun h => ?_, fun h => next (by rw [hJ, h]; rfl)⟩
    rw [h] at hJ
    rw [show cutOut b l = (6, []) from by unfold cutOut; rw [if_neg c0, if_pos (by rw [hJ]; rfl)]]
    exact endTO rfl
  · rw [List.drop_length, cutsB] at hJ
    have hh := hM.high
    rintro _ rfl
    rw [W64 (by simp only [nI]; omega) (by simp only [nI]; omega)]
    simp only [nI]
    refine ⟨fun h => ?_, fun h => ?_⟩
    · have h := of_decide_eq_true h
      rw [show cutOut b l = (9, []) from by unfold cutOut; rw [if_neg c0, if_neg (by rw [hJ]; decide), if_pos (by omega)]]
      exact endTO rfl
    · have h := of_decide_eq_false h
      rw [show cutOut b l = (0, cutRows b.high l) from by unfold cutOut; rw [if_neg c0, if_neg (by rw [hJ]; decide), if_neg (by omega)]]
      refine range2' (fun i x => x = (cutRows b.high (l.take i)).map Row.d) (by omega) rfl (fun i hi bd x hJ I k next => ⟨bd, l[i], by rw [ints_get l hi]; rfl, ?_⟩) fun x hJ => ?_
      · subst hJ
        rintro _ rfl _ rfl
        rw [W64 (n := b.high + 1) (by omega) (by omega), W64 (by omega) (by omega)]
        refine ⟨by rw [List.length_map, cutRows_len, List.length_take]; simp; omega, ?_⟩
        refine next _ ?_
        rw [List.take_succ_eq_append_getElem hi, cutRows_snoc, List.map_append]
        congr 1
        have : b.high + (List.length (l.take i) : Int) + 1 = b.high + 1 + (i : Int) := by rw [List.length_take]; omega
        rw [this]; rfl
      · subst hJ
        rw [List.take_length]
        exact endTO rfl

/-! ### cut in whatever order -/
theorem WU64 (n : Int) : Go.IntKind.wrap .u64 n = n % 18446744073709551616 := by
  unfold Go.IntKind.wrap Go.IntKind.bits Go.IntKind.signed
  simp
theorem drop_ints (l : List Int) (i : Nat) : List.drop (Int.toNat (i : Int)) (List.take (Int.toNat (nI (List.length (ints l)))) (ints l)) = ints (l.drop i) := by
  simp [nI, ints, List.map_drop, List.take_of_length_le]
theorem cut_ok {b : Box} {l : List Int} (h : (cutOut b l).1 = 0) : cutOut b l = (0, cutRows b.high l) ∧ cutsB b [] l = true ∧ b.high + l.length ≤ 1000000 := by
  unfold cutOut at h ⊢
  split at h
  · cases h
  rename_i c0
  rw [if_neg c0]
  split at h
  · cases h
  rename_i c1
  rw [if_neg c1]
  split at h
  · cases h
  rename_i c2
  rw [if_neg c2]
  exact ⟨rfl, by simpa using c1, by omega⟩
theorem cut_no {b : Box} {l : List Int} (h : (cutOut b l).1 ≠ 0) : (cutOut b l).2 = [] := by
  unfold cutOut at h ⊢
  split
  · rfl
  split
  · rfl
  split
  · rfl
  · rename_i c0 c1 c2
    rw [if_neg c0, if_neg c1, if_neg c2] at h
    exact absurd rfl h
theorem cutRows_ok : ∀ (l : List Int) (h : Int), ∀ r ∈ cutRows h l, RowOk r
  | u :: t, h, r, hr => by
    rw [cutRows] at hr
    rcases List.mem_cons.1 hr with rfl | hr
    · exact ⟨by simp [cutRow], by simp [cutRow], by simp [cutRow]⟩
    · exact cutRows_ok t _ r hr
theorem all_cuts {b : Box} {l : List Int} (hM : BoxMay b) (h1 : cutsB b [] l = true) (h2 : b.high + l.length ≤ 1000000) :
    allB b (cutRows b.high l) = (0, { b with msgs := leftM l b.msgs, high := b.high + l.length }) ∧ (leftM l b.msgs).length + l.length = b.msgs.length := by
  obtain ⟨q1, q2⟩ := (cutsB_iff b l []).1 h1
  unfold allB
  rw [if_pos (boxMay.2 hM)]
  exact run_cuts l b hM q2 (fun u hu => (q1 u hu).1) h2
theorem r12 (b : Box) (l : List Int) (t : Int) (hb : BoxIn b) : Runs P 12 [.d b.d, .d (.slice 1 (ints l)), .d (iD t)] [] (.d (.bool true)) [] := by
  refine runs_walkA t12 rfl (vc12 b.id b.valid b.next b.high (strs b.words) (b.msgs.map Msg.d) (ints l) t _ _) (by simp) ?_
  refine ⟨_, r15 b hb.sz, _, fun _ => r16 b hb.ok, ?_⟩
  rintro b10 h10 b11 h11
  refine ⟨fun h => ⟨true, r29, endB rfl⟩, fun h => ?_⟩
  rw [h] at h11
  simp only [Bool.or_eq_false_iff, decide_eq_false_iff_not, ints_len] at h11
  obtain ⟨h10', hl⟩ := h11
  rw [h10'] at h10
  simp only [Bool.or_eq_false_iff, bne_eq_false_iff_eq] at h10
  have hm := h10.2
  have hM := boxMay.1 hm
  have hl : l.length ≤ 60 := by simp only [nI] at hl; omega
  rintro _ rfl _ rfl _ rfl
  have e15 : Go.IntKind.wrap .u64 (Go.IntKind.wrap .i64 (nI (List.length (ints l)) + 1)) = (l.length : Int) + 1 := by
    rw [ints_len]; simp only [nI]; rw [W64 (by omega) (by omega), WU64]; omega
  rw [e15]
  refine ⟨by omega, ?_⟩
  rintro _ rfl
  obtain ⟨k, hk, hkl⟩ : ∃ k : Nat, (Go.IntKind.wrap .u64 t).tmod ((l.length : Int) + 1) = (k : Int) ∧ k ≤ l.length := by
    rw [WU64]
    have h0 : 0 ≤ t % 18446744073709551616 := Int.emod_nonneg _ (by decide)
    rw [Int.tmod_eq_emod_of_nonneg h0]
    have h1 := Int.emod_nonneg (t % 18446744073709551616) (show (l.length : Int) + 1 ≠ 0 by omega)
    have h2 := Int.emod_lt_of_pos (t % 18446744073709551616) (show 0 < (l.length : Int) + 1 by omega)
    exact ⟨(t % 18446744073709551616 % ((l.length : Int) + 1)).toNat, by omega, by omega⟩
  rw [hk]
  rintro _ rfl
  rw [W64 (n := (k : Int)) (by omega) (by omega)]
  have hperm : (l.drop k ++ l.take k).Perm l := List.perm_append_comm.trans (by rw [List.take_append_drop])
  have hn : nI (List.length (ints l)) = (l.length : Int) := by rw [ints_len]
  have w1 := r31 b l hb.ok (by omega)
  have w2 := r31 b (l.drop k ++ l.take k) hb.ok (by rw [hperm.length_eq]; omega)
  refine ⟨_, _, w1, by rw [hn]; omega, ?_⟩
  rintro _ rfl
  rw [drop_ints]
  refine ⟨by rw [ints_len, List.length_drop]; omega, by rw [hn]; simp [nI]; omega, ?_⟩
  rintro _ rfl
  rw [take_ints]
  have e22 : ints (l.drop k) ++ ints (l.take k) = ints (l.drop k ++ l.take k) := by simp [ints]
  rw [e22]
  refine ⟨by rw [ints_len, ints_len, List.length_drop, List.length_take]; omega, _, _, w2, ?_⟩
  have ep := cutOut_perm b hperm
  refine ⟨fun h => by rw [ep] at h; simp at h, fun _ => ⟨fun h => ?_, fun h => ?_⟩⟩
  · have h : (cutOut b l).1 ≠ 0 := by simpa using h
    have h' : (cutOut b (l.drop k ++ l.take k)).1 ≠ 0 := by rw [ep]; exact h
    rw [cut_no h, cut_no h']
    rintro _ rfl
    refine ⟨true, fun _ => r29, ?_⟩
    rintro _ rfl
    exact endB rfl
  have h : (cutOut b l).1 = 0 := by simpa using h
  have h' : (cutOut b (l.drop k ++ l.take k)).1 = 0 := by rw [ep]; exact h
  obtain ⟨q1, q2, q3⟩ := cut_ok h
  obtain ⟨p1, p2, p3⟩ := cut_ok h'
  rw [q1, p1]
  have a1 := all_cuts hM q2 q3
  have a2 := all_cuts hM p2 p3
  have w3 := r32 b (cutRows b.high l) hb.ok (by rw [cutRows_len]; omega) (cutRows_ok _ _)
  have w4 := r32 b (cutRows b.high (l.drop k ++ l.take k)) hb.ok (by rw [cutRows_len, hperm.length_eq]; omega) (cutRows_ok _ _)
  rw [a1.1] at w3
  rw [a2.1, leftM_perm (fun u => hperm.mem_iff), hperm.length_eq] at w4
  have hh := hM.high
  have hlen : nI (List.length ((cutRows b.high l).map Row.d)) = nI l.length := by rw [nI_map, cutRows_len]
  rw [hlen]
  refine range1 (fun _ => True) (by omega) trivial (fun i hi bd _ I j next => ?_) fun _ => ?_
  · have hg : ((cutRows b.high l).map Row.d).getD (Int.toNat (i : Int)) .nilp = (cutRow l[i] (b.high + i + 1)).d := by
      rw [rows_get _ (by rw [cutRows_len]; exact hi), cutRows_get l b.high i hi]
    refine ⟨bd, _, _, _, _, _, _, _, _, _, _, _, by rw [hg]; rfl, ?_⟩
    rintro _ rfl _ rfl
    rw [W64 (n := b.high + (i : Int)) (by omega) (by omega), W64 (by omega) (by omega)]
    refine ⟨fun _ => ⟨by omega, by rw [hn]; omega⟩, l[i], fun _ => by rw [ints_get l hi]; rfl, ?_⟩
    rintro b45 h45
    have : b45 = false := by rw [← h45]; simp [cutRow]
    exact ⟨fun q => (by rw [this] at q; cases q), fun _ => next trivial⟩
  · refine ⟨_, _, _, _, _, _, _, w3, _, _, _, _, _, _, _, w4, ?_⟩
    rintro _ rfl
    refine ⟨_, fun _ => r20 { b with msgs := leftM l b.msgs, high := b.high + l.length } { b with msgs := leftM l b.msgs, high := b.high + l.length } ⟨hb.ok.id, hb.ok.nw, by have := hM.nm; have := a1.2; simp only; omega, hb.ok.words, fun m hm => hb.ok.msgs m (List.mem_filter.1 hm).1⟩, ?_⟩
    rw [show sameB { b with msgs := leftM l b.msgs, high := b.high + l.length } { b with msgs := leftM l b.msgs, high := b.high + l.length } = true from sameB_iff.2 rfl]
    rintro _ rfl _ rfl b66 h66
    have e66 : b66 = true := by
      rw [← h66]
      have := a1.2
      have := hM.nm
      rw [nI_map, nI_map, hn, W64 (by simp only [nI]; omega) (by simp only [nI]; omega)]
      simp [nI]; omega
    refine ⟨true, fun _ => r29, ?_⟩
    rintro _ rfl
    rw [e66]
    exact endB rfl
end B
end Go.Proofs.YtmkkljbfmdngfaaDoor
