/- Join, NumsJoins, NumsOne: abstract texts and what their walks come to: printed by wip/B/gen. No condition. -/
import Derived.Test.YtmiclaoelbemkaaDoorM2
import Derived.Test.YtmiclaoelbemkaaDoorB36
import Derived.Test.YtmiclaoelbemkaaDoorSo
import Derived.Shelf.Slices.In.SortNone
set_option linter.all false
namespace Go.Proofs.YtmiclaoelbemkaaDoor
namespace B
def HHJ : Hint := ⟨fun f r => if r == 1000000 then (if f == 15 then [3, 25] else []) else [], fun _ => none⟩
set_option maxRecDepth 100000
def af6 : AF := ⟨(.seq (.ops [⟨(some 4), (.mov (.c (.d (.bool false))) true none), none⟩]) (.seq (.seq (.ops [⟨(some 12), (.mov (.t 0) false (some 1)), none⟩, ⟨(some 13), (.len (.t 12)), none⟩, ⟨(some 14), (.bin false .gtr (.t 13) (.c (.d (.int .i64 100)))), none⟩]) (.cond (.t 14) (.seq (.ops [⟨(some 15), (.call 10 [] none), none⟩, ⟨(some 4), (.mov (.t 15) true none), none⟩]) .ret) .skip)) (.seq (.ops [⟨(some 16), (.mov (.t 0) false (some 1)), none⟩, ⟨(some 17), (.call 15 [((.t 16), (some 1))] none), none⟩, ⟨(some 5), (.mov (.t 17) true (some 2)), none⟩]) (.seq (.ops [⟨(some 6), (.mov (.c (.d (.bool false))) true none), none⟩]) (.seq (.seq (.ops [⟨(some 18), (.mov (.t 0) false (some 1)), none⟩, ⟨(some 19), (.len (.t 18)), none⟩, ⟨(some 20), (.mov (.c (.d (.int .i64 0))) false none), none⟩]) (.block 0 (.loop (.seq (.ops [⟨(some 21), (.bin false .lss (.t 20) (.t 19)), none⟩]) (.seq (.cond (.t 21) .skip (.exit 0)) (.seq (.block 1 (.seq (.ops [⟨(some 22), (.idxA 1 (.t 18) (.t 20)), none⟩, ⟨(some 23), (.load false 1 (.t 22) false), none⟩, ⟨(some 8), (.mov (.t 23) true none), none⟩]) (.ops [⟨(some 24), (.mov (.t 6) false none), none⟩, ⟨(some 25), (.mov (.t 24) true none), none⟩, ⟨(some 26), (.mov (.t 8) false none), (some (25, false))⟩, ⟨(some 27), (.mov (.t 1) false none), (some (25, false))⟩, ⟨(some 28), (.bin false .eql (.t 26) (.t 27)), (some (25, false))⟩, ⟨(some 29), (.pick (.t 25) (.c (.d (.bool true))) (.t 28)), none⟩, ⟨(some 6), (.mov (.t 29) true none), none⟩]))) (.ops [⟨(some 30), (.bin false .add (.t 20) (.c (.d (.int .i64 1)))), none⟩, ⟨(some 20), (.mov (.t 30) true none), none⟩]))))))) (.seq (.ops [⟨(some 9), (.mov (.c (.d (.bool false))) true none), none⟩]) (.seq (.seq (.ops [⟨(some 31), (.mov (.t 5) false (some 2)), none⟩, ⟨(some 32), (.len (.t 31)), none⟩, ⟨(some 33), (.mov (.c (.d (.int .i64 0))) false none), none⟩]) (.block 2 (.loop (.seq (.ops [⟨(some 34), (.bin false .lss (.t 33) (.t 32)), none⟩]) (.seq (.cond (.t 34) .skip (.exit 2)) (.seq (.block 3 (.seq (.ops [⟨(some 35), (.mov (.t 33) true none), none⟩, ⟨(some 36), (.idxA 2 (.t 31) (.t 33)), none⟩, ⟨(some 37), (.load true 2 (.t 36) false), none⟩, ⟨(some 11), (.alloc [(.d (.int .i64 0)), (.d (.int .i64 0))]), none⟩, ⟨(some 10), (.mov (.t 35) true none), none⟩, ⟨none, (.store true 2 (.t 11) (.t 37) none), none⟩]) (.seq (.seq (.draw [⟨(some 38), (.fieldA 0 (.t 11)), none⟩, ⟨(some 39), (.load false 1 (.t 38) false), none⟩, ⟨(some 40), (.bin false .lss (.t 39) (.c (.d (.int .i64 1)))), none⟩, ⟨(some 41), (.mov (.t 40) true none), none⟩, ⟨(some 42), (.fieldA 1 (.t 11)), (some (41, false))⟩, ⟨(some 43), (.load false 1 (.t 42) false), (some (41, false))⟩, ⟨(some 44), (.fieldA 0 (.t 11)), (some (41, false))⟩, ⟨(some 45), (.load false 1 (.t 44) false), (some (41, false))⟩, ⟨(some 46), (.bin false .lss (.t 43) (.t 45)), (some (41, false))⟩, ⟨(some 47), (.pick (.t 41) (.c (.d (.bool true))) (.t 46)), none⟩, ⟨(some 48), (.mov (.t 47) true none), none⟩, ⟨(some 49), (.fieldA 1 (.t 11)), (some (48, false))⟩, ⟨(some 50), (.load false 1 (.t 49) false), (some (48, false))⟩, ⟨(some 51), (.bin false .gtr (.t 50) (.c (.d (.int .i64 1000000)))), (some (48, false))⟩, ⟨(some 52), (.pick (.t 48) (.c (.d (.bool true))) (.t 51)), none⟩, ⟨(some 53), (.mov (.t 52) true none), none⟩, ⟨(some 54), (.mov (.t 10) false none), (some (53, false))⟩, ⟨(some 55), (.bin false .gtr (.t 54) (.c (.d (.int .i64 0)))), (some (53, false))⟩, ⟨(some 56), (.mov (.t 55) true none), (some (53, false))⟩, ⟨(some 57), (.fieldA 0 (.t 11)), (some (56, true))⟩, ⟨(some 58), (.load false 1 (.t 57) false), (some (56, true))⟩, ⟨(some 59), (.mov (.t 5) false (some 2)), (some (56, true))⟩, ⟨(some 60), (.mov (.t 10) false none), (some (56, true))⟩, ⟨(some 61), (.bin false .sub (.t 60) (.c (.d (.int .i64 1)))), (some (56, true))⟩, ⟨(some 62), (.idxA 2 (.t 59) (.t 61)), (some (56, true))⟩, ⟨(some 63), (.fieldA 1 (.t 62)), (some (56, true))⟩, ⟨(some 64), (.load false 1 (.t 63) false), (some (56, true))⟩, ⟨(some 65), (.bin false .add (.t 64) (.c (.d (.int .i64 1)))), (some (56, true))⟩, ⟨(some 66), (.bin false .leq (.t 58) (.t 65)), (some (56, true))⟩, ⟨(some 67), (.pick (.t 56) (.t 66) (.c (.d (.bool false)))), (some (53, false))⟩, ⟨(some 68), (.pick (.t 53) (.c (.d (.bool true))) (.t 67)), none⟩] [3, 3, 3, 3, 0, 0, 0, 0, 3, 3, 3, 3, 3, 3, 3, 3, 3, 3, 3, 0, 0, 0, 0, 0, 0, 0, 0, 0, 3, 3, 3] []) (.cond (.t 68) (.seq (.ops [⟨(some 4), (.mov (.c (.d (.bool false))) true none), none⟩]) .ret) .skip)) (.ops [⟨(some 69), (.mov (.t 9) false none), none⟩, ⟨(some 70), (.mov (.t 69) true none), none⟩, ⟨(some 71), (.mov (.t 1) false none), (some (70, false))⟩, ⟨(some 72), (.fieldA 0 (.t 11)), (some (70, false))⟩, ⟨(some 73), (.load false 1 (.t 72) false), (some (70, false))⟩, ⟨(some 74), (.bin false .geq (.t 71) (.t 73)), (some (70, false))⟩, ⟨(some 75), (.mov (.t 74) true none), (some (70, false))⟩, ⟨(some 76), (.mov (.t 1) false none), (some (75, true))⟩, ⟨(some 77), (.fieldA 1 (.t 11)), (some (75, true))⟩, ⟨(some 78), (.load false 1 (.t 77) false), (some (75, true))⟩, ⟨(some 79), (.bin false .leq (.t 76) (.t 78)), (some (75, true))⟩, ⟨(some 80), (.pick (.t 75) (.t 79) (.c (.d (.bool false)))), (some (70, false))⟩, ⟨(some 81), (.pick (.t 70) (.c (.d (.bool true))) (.t 80)), none⟩, ⟨(some 9), (.mov (.t 81) true none), none⟩])))) (.ops [⟨(some 82), (.bin false .add (.t 33) (.c (.d (.int .i64 1)))), none⟩, ⟨(some 33), (.mov (.t 82) true none), none⟩]))))))) (.seq (.ops [⟨(some 83), (.mov (.t 9) false none), none⟩, ⟨(some 84), (.mov (.t 6) false none), none⟩, ⟨(some 85), (.mov (.t 84) true none), none⟩, ⟨(some 86), (.mov (.t 1) false none), (some (85, true))⟩, ⟨(some 87), (.bin false .geq (.t 86) (.c (.d (.int .i64 1)))), (some (85, true))⟩, ⟨(some 88), (.pick (.t 85) (.t 87) (.c (.d (.bool false)))), none⟩, ⟨(some 89), (.mov (.t 88) true none), none⟩, ⟨(some 90), (.mov (.t 1) false none), (some (89, true))⟩, ⟨(some 91), (.bin false .leq (.t 90) (.c (.d (.int .i64 1000000)))), (some (89, true))⟩, ⟨(some 92), (.pick (.t 89) (.t 91) (.c (.d (.bool false)))), none⟩, ⟨(some 93), (.bin true .eql (.t 83) (.t 92)), none⟩, ⟨(some 94), (.mov (.t 93) true none), none⟩, ⟨(some 95), (.call 10 [] none), (some (94, true))⟩, ⟨(some 96), (.pick (.t 94) (.t 95) (.c (.d (.bool false)))), none⟩, ⟨(some 4), (.mov (.t 96) true none), none⟩]) .ret)))))))), [(.tm 4)], 2, 97⟩
theorem t6 : trF P HHJ 6 = some af6 := by kernel_rfl
def af7 : AF := ⟨(.seq (.ops [⟨(some 4), (.mov (.c (.d (.bool false))) true none), none⟩]) (.seq (.ops [⟨(some 8), (.mov (.t 0) false none), none⟩, ⟨(some 9), (.convInt .u64 (.t 8)), none⟩, ⟨(some 10), (.bin false .rem (.t 9) (.c (.d (.int .u64 1000000)))), none⟩, ⟨(some 11), (.convInt .i64 (.t 10)), none⟩, ⟨(some 12), (.bin false .add (.c (.d (.int .i64 1))) (.t 11)), none⟩, ⟨(some 13), (.mov (.t 1) false none), none⟩, ⟨(some 14), (.convInt .u64 (.t 13)), none⟩, ⟨(some 15), (.bin false .rem (.t 14) (.c (.d (.int .u64 1000000)))), none⟩, ⟨(some 16), (.convInt .i64 (.t 15)), none⟩, ⟨(some 17), (.bin false .add (.c (.d (.int .i64 1))) (.t 16)), none⟩, ⟨(some 0), (.mov (.t 12) true none), none⟩, ⟨(some 1), (.mov (.t 17) true none), none⟩]) (.seq (.ops [⟨(some 18), (.mov (.t 0) false none), none⟩, ⟨(some 19), (.buildSl 1 [(.t 18)]), none⟩, ⟨(some 20), (.call 15 [((.t 19), (some 1))] none), none⟩, ⟨(some 5), (.mov (.t 20) true (some 2)), none⟩]) (.seq (.ops [⟨(some 22), (.mov (.t 5) false (some 2)), none⟩, ⟨(some 23), (.call 9 [((.t 22), (some 2))] none), none⟩, ⟨(some 24), (.call 11 [((.t 23), none)] none), none⟩, ⟨(some 21), (.mov (.t 24) true none), none⟩, ⟨(some 25), (.extract (.t 21) 0 false), none⟩, ⟨(some 26), (.extract (.t 21) 1 false), none⟩, ⟨(some 6), (.mov (.t 25) true (some 2)), none⟩, ⟨(some 7), (.mov (.t 26) true none), none⟩]) (.seq (.ops [⟨(some 27), (.mov (.t 7) false none), none⟩, ⟨(some 28), (.mov (.t 27) true none), none⟩, ⟨(some 29), (.mov (.t 6) false (some 2)), (some (28, true))⟩, ⟨(some 30), (.len (.t 29)), (some (28, true))⟩, ⟨(some 31), (.bin false .eql (.t 30) (.c (.d (.int .i64 1)))), (some (28, true))⟩, ⟨(some 32), (.pick (.t 28) (.t 31) (.c (.d (.bool false)))), none⟩, ⟨(some 33), (.mov (.t 32) true none), none⟩, ⟨(some 34), (.mov (.t 6) false (some 2)), (some (33, true))⟩, ⟨(some 35), (.idxA 2 (.t 34) (.c (.d (.int .i64 0)))), (some (33, true))⟩, ⟨(some 36), (.load true 2 (.t 35) false), (some (33, true))⟩, ⟨(some 37), (.mov (.t 0) false none), (some (33, true))⟩, ⟨(some 38), (.mov (.t 0) false none), (some (33, true))⟩, ⟨(some 39), (.build [(.d (.int .i64 0)), (.d (.int .i64 0))] [(0, (1, (.t 37))), (1, (1, (.t 38)))]), (some (33, true))⟩, ⟨(some 40), (.eqAgg false [0, 0] (.t 36) (.t 39)), (some (33, true))⟩, ⟨(some 41), (.pick (.t 33) (.t 40) (.c (.d (.bool false)))), none⟩, ⟨(some 42), (.mov (.t 41) true none), none⟩, ⟨(some 43), (.mov (.t 6) false (some 2)), (some (42, true))⟩, ⟨(some 44), (.mov (.t 1) false none), (some (42, true))⟩, ⟨(some 45), (.mov (.t 0) false none), (some (42, true))⟩, ⟨(some 46), (.call 13 [((.t 43), (some 2)), ((.t 44), none), ((.t 45), none)] none), (some (42, true))⟩, ⟨(some 47), (.mov (.t 1) false none), (some (42, true))⟩, ⟨(some 48), (.mov (.t 0) false none), (some (42, true))⟩, ⟨(some 49), (.bin false .eql (.t 47) (.t 48)), (some (42, true))⟩, ⟨(some 50), (.bin true .eql (.t 46) (.t 49)), (some (42, true))⟩, ⟨(some 51), (.pick (.t 42) (.t 50) (.c (.d (.bool false)))), none⟩, ⟨(some 52), (.mov (.t 51) true none), none⟩, ⟨(some 53), (.build [(.d (.int .i64 0)), (.d (.int .i64 0))] []), (some (52, true))⟩, ⟨(some 54), (.buildSl 2 [(.t 53)]), (some (52, true))⟩, ⟨(some 55), (.mov (.t 1) false none), (some (52, true))⟩, ⟨(some 56), (.mov (.t 0) false none), (some (52, true))⟩, ⟨(some 57), (.call 13 [((.t 54), (some 2)), ((.t 55), none), ((.t 56), none)] none), (some (52, true))⟩, ⟨(some 58), (.mov (.t 1) false none), (some (52, true))⟩, ⟨(some 59), (.mov (.t 0) false none), (some (52, true))⟩, ⟨(some 60), (.bin false .eql (.t 58) (.t 59)), (some (52, true))⟩, ⟨(some 61), (.bin true .eql (.t 57) (.t 60)), (some (52, true))⟩, ⟨(some 62), (.pick (.t 52) (.t 61) (.c (.d (.bool false)))), none⟩, ⟨(some 63), (.mov (.t 62) true none), none⟩, ⟨(some 64), (.mov (.t 0) false none), (some (63, true))⟩, ⟨(some 65), (.mov (.t 1) false none), (some (63, true))⟩, ⟨(some 66), (.mov (.t 0) false none), (some (63, true))⟩, ⟨(some 67), (.buildSl 1 [(.t 64), (.t 65), (.t 66)]), (some (63, true))⟩, ⟨(some 68), (.call 15 [((.t 67), (some 1))] none), (some (63, true))⟩, ⟨(some 69), (.len (.t 68)), (some (63, true))⟩, ⟨(some 70), (.bin false .leq (.t 69) (.c (.d (.int .i64 2)))), (some (63, true))⟩, ⟨(some 71), (.pick (.t 63) (.t 70) (.c (.d (.bool false)))), none⟩, ⟨(some 72), (.mov (.t 71) true none), none⟩, ⟨(some 73), (.call 10 [] none), (some (72, true))⟩, ⟨(some 74), (.pick (.t 72) (.t 73) (.c (.d (.bool false)))), none⟩, ⟨(some 4), (.mov (.t 74) true none), none⟩]) .ret))))), [(.tm 4)], 2, 75⟩
theorem t7 : trF P HHJ 7 = some af7 := by kernel_rfl
def af15 : AF := ⟨(.seq (.ops [⟨(some 2), (.mov (.c .nils) true (some 2)), none⟩]) (.seq (.ops [⟨(some 7), (.mov (.t 0) false (some 1)), none⟩, ⟨(some 8), (.call 25 [((.t 7), (some 1))] none), none⟩, ⟨(some 0), (.mov (.t 8) true (some 1)), none⟩]) (.seq (.ops [⟨(some 9), (.mov (.t 0) false (some 1)), none⟩, ⟨(some 10), (.call 26 [((.t 9), (some 1))] none), none⟩]) (.seq (.ops [⟨(some 3), (.rowN 2), none⟩]) (.seq (.seq (.ops [⟨(some 11), (.mov (.t 0) false (some 1)), none⟩, ⟨(some 12), (.len (.t 11)), none⟩, ⟨(some 13), (.mov (.c (.d (.int .i64 0))) false none), none⟩]) (.block 0 (.loop (.seq (.ops [⟨(some 14), (.bin false .lss (.t 13) (.t 12)), none⟩]) (.seq (.cond (.t 14) .skip (.exit 0)) (.seq (.block 1 (.seq (.ops [⟨(some 15), (.idxA 1 (.t 11) (.t 13)), none⟩, ⟨(some 16), (.load false 1 (.t 15) false), none⟩, ⟨(some 5), (.mov (.t 16) true none), none⟩]) (.seq (.ops [⟨(some 17), (.mov (.t 3) false (some 2)), none⟩, ⟨(some 18), (.len (.t 17)), none⟩, ⟨(some 19), (.bin false .sub (.t 18) (.c (.d (.int .i64 1)))), none⟩, ⟨(some 6), (.mov (.t 19) true none), none⟩]) (.block 2 (.seq (.ops [⟨(some 27), (.mov (.t 5) false none), none⟩, ⟨(some 28), (.bin false .lss (.t 27) (.c (.d (.int .i64 1)))), none⟩, ⟨(some 29), (.mov (.t 28) true none), none⟩, ⟨(some 30), (.mov (.t 5) false none), (some (29, false))⟩, ⟨(some 31), (.bin false .gtr (.t 30) (.c (.d (.int .i64 1000000)))), (some (29, false))⟩, ⟨(some 32), (.pick (.t 29) (.c (.d (.bool true))) (.t 31)), none⟩, ⟨(some 26), (.mov (.t 32) true none), none⟩]) (.cond (.t 26) .skip (.seq (.ops [⟨(some 34), (.mov (.t 6) false none), none⟩, ⟨(some 35), (.bin false .geq (.t 34) (.c (.d (.int .i64 0)))), none⟩, ⟨(some 36), (.mov (.t 35) true none), none⟩, ⟨(some 37), (.mov (.t 5) false none), (some (36, true))⟩, ⟨(some 38), (.mov (.t 3) false (some 2)), (some (36, true))⟩, ⟨(some 39), (.mov (.t 6) false none), (some (36, true))⟩, ⟨(some 40), (.idxA 2 (.t 38) (.t 39)), (some (36, true))⟩, ⟨(some 41), (.fieldA 1 (.t 40)), (some (36, true))⟩, ⟨(some 42), (.load false 1 (.t 41) false), (some (36, true))⟩, ⟨(some 43), (.bin false .add (.t 42) (.c (.d (.int .i64 1)))), (some (36, true))⟩, ⟨(some 44), (.bin false .leq (.t 37) (.t 43)), (some (36, true))⟩, ⟨(some 45), (.pick (.t 36) (.t 44) (.c (.d (.bool false)))), none⟩, ⟨(some 33), (.mov (.t 45) true none), none⟩]) (.cond (.t 33) (.ops [⟨(some 46), (.mov (.t 3) false (some 2)), none⟩, ⟨(some 47), (.mov (.t 6) false none), none⟩, ⟨(some 48), (.mov (.t 5) false none), none⟩, ⟨(some 49), (.idxA 2 (.t 46) (.t 47)), none⟩, ⟨(some 50), (.fieldA 1 (.t 49)), none⟩, ⟨none, (.store false 1 (.t 50) (.t 48) none), none⟩]) (.ops [⟨(some 20), (.mov (.t 3) true (some 2)), none⟩, ⟨(some 21), (.mov (.t 5) false none), none⟩, ⟨(some 22), (.mov (.t 5) false none), none⟩, ⟨(some 23), (.build [(.d (.int .i64 0)), (.d (.int .i64 0))] [(0, (1, (.t 21))), (1, (1, (.t 22)))]), none⟩, ⟨(some 24), (.buildSl 2 [(.t 23)]), none⟩, ⟨(some 25), (.appR 2 16 (.t 20) (.t 24)), none⟩, ⟨(some 3), (.mov (.t 25) true (some 2)), none⟩]))))))))) (.ops [⟨(some 51), (.bin false .add (.t 13) (.c (.d (.int .i64 1)))), none⟩, ⟨(some 13), (.mov (.t 51) true none), none⟩]))))))) (.seq (.ops [⟨(some 52), (.mov (.t 3) true (some 2)), none⟩, ⟨(some 2), (.mov (.t 52) true (some 2)), none⟩]) .ret)))))), [(.tm 2)], 1, 53⟩
theorem t15 : trF P HHJ 15 = some af15 := by kernel_rfl
theorem vc15 (l0 : List D) (res : CV) (objs' : List (Nat × List CV)) : walkA P (tbF P [1000025] [] 15) (anOf af15 []) af15 [CV.d (D.slice 1 l0)] [] (fun rs => endE rs res objs') = ((∃ l1 : List D, ((Runs P 25 [CV.d (D.slice 1 l0)] [] (CV.rs 1 8 0 (List.length l1)) [(8, [CV.arr 1 l1])]) ∧ (∃ l2 : List D, ((Runs P 26 [CV.rs 1 8 0 (List.length l1)] [(8, [CV.arr 1 l1])] (CV.tup []) [(8, [CV.arr 1 l2])]) ∧ (∃ I3 : (Nat → (Int → (List D → (Nat → Prop)))), ((∃ k4 : Nat, I3 0 0 [] k4) ∧ (∀ k5 : Nat, (∀ n6 : Int, (∀ l7 : List D, (∀ k8 : Nat, (I3 k5 n6 l7 k8 → (((decide (n6 < nI (List.length l1))) = true → ((0 ≤ n6 ∧ n6 < nI (List.length l1)) ∧ ((addO 0 (Int.toNat n6) < List.length l2) ∧ (∃ n9 : Int, ((List.take 1 (List.drop 0 (D.cells (List.getD l2 (addO 0 (Int.toNat n6)) D.nilp))) = [D.int .i64 n9]) ∧ (∀ n10 : Int, (Go.IntKind.wrap Go.IntKind.i64 (nI k5 - 1) = n10 → (∀ b11 : Bool, ((decide (n9 < 1) || decide (n9 > 1000000)) = b11 → (((b11) = true → (∀ n12 : Int, (Go.IntKind.wrap Go.IntKind.i64 (n6 + 1) = n12 → (∃ k13 : Nat, ((k13 < k8) ∧ I3 k5 n12 l7 k13))))) ∧ ((b11) = false → ((decide (n10 ≥ 0) = true → 0 ≤ n10 ∧ n10 < nI k5) ∧ ((decide (n10 ≥ 0) = true → addO 0 (Int.toNat n10) < List.length l7) ∧ (∃ n14 : Int, ((decide (n10 ≥ 0) = true → List.take 1 (List.drop (0 + 1) (D.cells (List.getD l7 (addO 0 (Int.toNat n10)) D.nilp))) = [D.int .i64 n14]) ∧ (∀ n15 : Int, (Go.IntKind.wrap Go.IntKind.i64 (n14 + 1) = n15 → (∀ b16 : Bool, ((decide (n10 ≥ 0) && decide (n9 ≤ n15)) = b16 → (((b16) = true → ((0 ≤ n10 ∧ n10 < nI k5) ∧ ((addO 0 (Int.toNat n10) < List.length l7) ∧ (∀ l17 : List D, (setEl l7 (addO 0 (Int.toNat n10)) (0 + 1) [D.int .i64 n9] = l17 → (∀ n18 : Int, (Go.IntKind.wrap Go.IntKind.i64 (n6 + 1) = n18 → (∃ k19 : Nat, ((k19 < k8) ∧ I3 k5 n18 l17 k19))))))))) ∧ ((b16) = false → ((k5 = List.length l7) ∧ (((k5 + List.length [D.agg [D.int .i64 n9, D.int .i64 n9]]) * 16 ≤ 140737488355328) ∧ (∀ l20 : List D, (l7 ++ [D.agg [D.int .i64 n9, D.int .i64 n9]] = l20 → (∀ n21 : Int, (Go.IntKind.wrap Go.IntKind.i64 (n6 + 1) = n21 → (∃ k22 : Nat, ((k22 < k8) ∧ I3 (k5 + List.length [D.agg [D.int .i64 n9, D.int .i64 n9]]) n21 l20 k22))))))))))))))))))))))))))))) ∧ ((decide (n6 < nI (List.length l1))) = false → EndR (CV.rs 2 3 0 k5) res [(8, [CV.arr 1 l2]), (3, [CV.arr 2 l7])] objs')))))))))))))) := by kernel_rfl
theorem vc6 (l0 : List D) (n1 : Int) (res : CV) (objs' : List (Nat × List CV)) : walkA P (tbF P [1000025] [] 6) (anOf af6 []) af6 [CV.d (D.slice 1 l0), CV.d (D.int .i64 n1)] [] (fun rs => endE rs res objs') = ((((decide (nI (List.length l0) > 100)) = true → (∃ b2 : Bool, ((Runs P 10 [] [] (CV.d (D.bool b2)) []) ∧ EndR (CV.d (D.bool b2)) res [] objs'))) ∧ ((decide (nI (List.length l0) > 100)) = false → (∃ l3 : List D, ((Runs P 15 [CV.d (D.slice 1 l0)] [] (CV.d (D.slice 2 l3)) []) ∧ (∃ I4 : (Bool → (Int → (Nat → Prop))), ((∃ k5 : Nat, I4 false 0 k5) ∧ (∀ b6 : Bool, (∀ n7 : Int, (∀ k8 : Nat, (I4 b6 n7 k8 → (((decide (n7 < nI (List.length l0))) = true → ((0 ≤ n7 ∧ n7 < nI (List.length l0)) ∧ (∃ n9 : Int, ((D.cells (List.getD l0 (Int.toNat n7) D.nilp) = [D.int .i64 n9]) ∧ (∀ b10 : Bool, ((b6 || n9 == n1) = b10 → (∀ n11 : Int, (Go.IntKind.wrap Go.IntKind.i64 (n7 + 1) = n11 → (∃ k12 : Nat, ((k12 < k8) ∧ I4 b10 n11 k12)))))))))) ∧ ((decide (n7 < nI (List.length l0))) = false → (∃ I13 : (Int → (Bool → (Nat → Prop))), ((∃ k14 : Nat, I13 0 false k14) ∧ (∀ n15 : Int, (∀ b16 : Bool, (∀ k17 : Nat, (I13 n15 b16 k17 → (((decide (n15 < nI (List.length l3))) = true → ((0 ≤ n15 ∧ n15 < nI (List.length l3)) ∧ (∃ n18 : Int, (∃ n19 : Int, ((D.cells (List.getD l3 (Int.toNat n15) D.nilp) = [D.int .i64 n18, D.int .i64 n19]) ∧ (∀ b20 : Bool, ((decide (n18 < 1) || decide (n19 < n18)) = b20 → (∀ b21 : Bool, ((b20 || decide (n19 > 1000000)) = b21 → (∀ n22 : Int, (Go.IntKind.wrap Go.IntKind.i64 (n15 - 1) = n22 → (((!b21 && decide (n15 > 0)) = true → 0 ≤ n22 ∧ n22 < nI (List.length l3)) ∧ (∃ n23 : Int, (∃ n24 : Int, (((!b21 && decide (n15 > 0)) = true → D.cells (List.getD l3 (Int.toNat n22) D.nilp) = [D.int .i64 n23, D.int .i64 n24]) ∧ (∀ n25 : Int, (Go.IntKind.wrap Go.IntKind.i64 (n24 + 1) = n25 → (∀ b26 : Bool, ((decide (n15 > 0) && decide (n18 ≤ n25)) = b26 → (∀ b27 : Bool, ((b21 || b26) = b27 → (((b27) = true → EndR (CV.d (D.bool false)) res [(11, [CV.d (D.int .i64 n18), CV.d (D.int .i64 n19)])] objs') ∧ ((b27) = false → (∀ b28 : Bool, ((decide (n1 ≥ n18) && decide (n1 ≤ n19)) = b28 → (∀ b29 : Bool, ((b16 || b28) = b29 → (∀ n30 : Int, (Go.IntKind.wrap Go.IntKind.i64 (n15 + 1) = n30 → (∃ k31 : Nat, ((k31 < k17) ∧ I13 n30 b29 k31))))))))))))))))))))))))))))))) ∧ ((decide (n15 < nI (List.length l3))) = false → (∀ b32 : Bool, ((b6 && decide (n1 ≥ 1)) = b32 → (∀ b33 : Bool, ((b32 && decide (n1 ≤ 1000000)) = b33 → (∃ b34 : Bool, (((b16 == b33) = true → Runs P 10 [] [] (CV.d (D.bool b34)) []) ∧ (∀ b35 : Bool, ((b16 == b33 && b34) = b35 → EndR (CV.d (D.bool b35)) res [] objs'))))))))))))))))))))))))))))) := by kernel_rfl
theorem vc7 (n0 : Int) (n1 : Int) (res : CV) (objs' : List (Nat × List CV)) : walkA P (tbF P [1000025] [] 7) (anOf af7 []) af7 [CV.d (D.int .i64 n0), CV.d (D.int .i64 n1)] [] (fun rs => endE rs res objs') = ((∀ n2 : Int, (Go.IntKind.wrap Go.IntKind.u64 n0 = n2 → (((1000000 : Int) ≠ (0 : Int)) ∧ (∀ n3 : Int, (Int.tmod n2 1000000 = n3 → (∀ n4 : Int, (Go.IntKind.wrap Go.IntKind.i64 n3 = n4 → (∀ n5 : Int, (Go.IntKind.wrap Go.IntKind.i64 (1 + n4) = n5 → (∀ n6 : Int, (Go.IntKind.wrap Go.IntKind.u64 n1 = n6 → (((1000000 : Int) ≠ (0 : Int)) ∧ (∀ n7 : Int, (Int.tmod n6 1000000 = n7 → (∀ n8 : Int, (Go.IntKind.wrap Go.IntKind.i64 n7 = n8 → (∀ n9 : Int, (Go.IntKind.wrap Go.IntKind.i64 (1 + n8) = n9 → (∃ l10 : List D, ((Runs P 15 [CV.d (D.slice 1 [D.int .i64 n5])] [] (CV.d (D.slice 2 l10)) []) ∧ (∃ s11 : Bytes, ((Runs P 9 [CV.d (D.slice 2 l10)] [] (CV.d (D.str s11)) []) ∧ (∃ l12 : List D, (∃ b13 : Bool, ((Runs P 11 [CV.d (D.str s11)] [] (CV.tup [CV.d (D.slice 2 l12), CV.d (D.bool b13)]) []) ∧ (∀ b14 : Bool, ((b13 && nI (List.length l12) == 1) = b14 → ((b14 = true → (0 : Int) ≤ 0 ∧ 0 < nI (List.length l12)) ∧ (∃ n15 : Int, (∃ n16 : Int, ((b14 = true → D.cells (List.getD l12 (Int.toNat 0) D.nilp) = [D.int .i64 n15, D.int .i64 n16]) ∧ (∀ b17 : Bool, ((b14 && (n15 == n5 && (n16 == n5 && true)) != false) = b17 → (∃ b18 : Bool, ((b17 = true → Runs P 13 [CV.d (D.slice 2 l12), CV.d (D.int .i64 n9), CV.d (D.int .i64 n5)] [] (CV.d (D.bool b18)) []) ∧ (∀ b19 : Bool, ((b17 && b18 == (n9 == n5)) = b19 → (∃ b20 : Bool, ((b19 = true → Runs P 13 [CV.d (D.slice 2 [D.agg [D.int .i64 0, D.int .i64 0]]), CV.d (D.int .i64 n9), CV.d (D.int .i64 n5)] [] (CV.d (D.bool b20)) []) ∧ (∀ b21 : Bool, ((b19 && b20 == (n9 == n5)) = b21 → (∃ l22 : List D, ((b21 = true → Runs P 15 [CV.d (D.slice 1 [D.int .i64 n5, D.int .i64 n9, D.int .i64 n5])] [] (CV.d (D.slice 2 l22)) []) ∧ (∀ b23 : Bool, ((b21 && decide (nI (List.length l22) ≤ 2)) = b23 → (∃ b24 : Bool, ((b23 = true → Runs P 10 [] [] (CV.d (D.bool b24)) []) ∧ (∀ b25 : Bool, ((b23 && b24) = b25 → EndR (CV.d (D.bool b25)) res [] objs')))))))))))))))))))))))))))))))))))))))))))))))))) := by kernel_rfl
end B
end Go.Proofs.YtmiclaoelbemkaaDoor
namespace Go.Proofs.YtmiclaoelbemkaaDoor
namespace B

def stepJ (acc : List (Int × Int)) (n : Int) : List (Int × Int) := if n < 1 ∨ 1000000 < n then acc else match acc with
  | [] => [(n, n)]
  | (a, b) :: r => if n ≤ b + 1 then (a, n) :: r else (n, n) :: (a, b) :: r
/-- The spans, the last one first. -/
def joinR (l : List Int) : List (Int × Int) := l.foldl stepJ []
def joinS (l : List Int) : List (Int × Int) := (joinR (sortI l)).reverse
structure JI (acc : List (Int × Int)) (seen : List Int) : Prop where
  ok : acc.Pairwise fun x y => y.2 + 1 < x.1
  rng : ∀ p ∈ acc, 1 ≤ p.1 ∧ p.1 ≤ p.2 ∧ p.2 ≤ 1000000
  cov : ∀ m : Int, (∃ p ∈ acc, p.1 ≤ m ∧ m ≤ p.2) ↔ (m ∈ seen ∧ 1 ≤ m ∧ m ≤ 1000000)
  top : ∀ p ∈ acc, p.1 ∈ seen ∧ p.2 ∈ seen
theorem JI.step {acc : List (Int × Int)} {seen : List Int} (h : JI acc seen) (n : Int) (hn : ∀ s ∈ seen, s ≤ n) : JI (stepJ acc n) (seen ++ [n]) := by
  unfold stepJ
  split
  · rename_i hr
    refine ⟨h.ok, h.rng, fun m => ?_, fun p hp => ⟨List.mem_append_left _ (h.top p hp).1, List.mem_append_left _ (h.top p hp).2⟩⟩
    rw [h.cov m]
    simp only [List.mem_append, List.mem_singleton]
    constructor
    · rintro ⟨h1, h2⟩; exact ⟨.inl h1, h2⟩
    · rintro ⟨h1 | h1, h2⟩
      · exact ⟨h1, h2⟩
      · subst h1; omega
  · rename_i hr
    have hr1 : 1 ≤ n ∧ n ≤ 1000000 := by omega
    match acc, h with
    | [], h =>
      refine ⟨by simp, fun p hp => ?_, fun m => ?_, fun p hp => ?_⟩
      · simp at hp; subst hp; exact ⟨hr1.1, Int.le_refl _, hr1.2⟩
      · have := h.cov m
        simp only [List.not_mem_nil, false_and, exists_false, false_iff] at this
        simp only [List.mem_append, List.mem_singleton, exists_eq_left]
        constructor
        · rintro ⟨h1, h2⟩; have : m = n := by omega
          subst this; exact ⟨.inr rfl, hr1⟩
        · rintro ⟨h1 | h1, h2⟩
          · exact (this ⟨h1, h2⟩).elim
          · subst h1; omega
      · simp at hp; subst hp; simp
    | (a, b) :: r, h =>
      have hb := hn b (h.top (a, b) (by simp)).2
      have hab := h.rng (a, b) (by simp)
      have hok := List.pairwise_cons.1 h.ok
      simp only at hab
      simp only
      split
      · rename_i hle
        refine ⟨List.pairwise_cons.2 ⟨fun y hy => hok.1 y hy, hok.2⟩, fun p hp => ?_, fun m => ?_, fun p hp => ?_⟩
        · rcases List.mem_cons.1 hp with rfl | hp
          · exact ⟨hab.1, by simp only; omega, hr1.2⟩
          · exact h.rng p (List.mem_cons_of_mem _ hp)
        · have := h.cov m
          simp only [List.mem_cons, exists_eq_or_imp] at this ⊢
          simp only [List.mem_append, List.mem_singleton]
          constructor
          · rintro (h1 | h1)
            · by_cases q : m ≤ b
              · obtain ⟨k1, k2⟩ := this.1 (.inl ⟨h1.1, q⟩); exact ⟨.inl k1, k2⟩
              · have : m = n := by omega
                subst this; exact ⟨.inr rfl, hr1⟩
            · obtain ⟨k1, k2⟩ := this.1 (.inr h1); exact ⟨.inl k1, k2⟩
          · rintro ⟨h1 | h1, h2⟩
            · rcases this.2 ⟨h1, h2⟩ with k | k
              · exact .inl ⟨k.1, by omega⟩
              · exact .inr k
            · subst h1; exact .inl ⟨by omega, Int.le_refl _⟩
        · rcases List.mem_cons.1 hp with rfl | hp
          · exact ⟨List.mem_append_left _ (h.top (a, b) (by simp)).1, by simp⟩
          · have := h.top p (List.mem_cons_of_mem _ hp)
            exact ⟨List.mem_append_left _ this.1, List.mem_append_left _ this.2⟩
      · rename_i hle
        refine ⟨List.pairwise_cons.2 ⟨fun y hy => ?_, h.ok⟩, fun p hp => ?_, fun m => ?_, fun p hp => ?_⟩
        · rcases List.mem_cons.1 hy with rfl | hy
          · simp only; omega
          · have h1 := hok.1 y hy
            simp only at h1 ⊢; omega
        · rcases List.mem_cons.1 hp with rfl | hp
          · exact ⟨hr1.1, Int.le_refl _, hr1.2⟩
          · exact h.rng p hp
        · have := h.cov m
          generalize (a, b) :: r = q at this ⊢
          simp only [List.mem_cons, exists_eq_or_imp, this, List.mem_append, List.not_mem_nil, or_false]
          constructor
          · rintro (h1 | ⟨h1, h2⟩)
            · have : m = n := by omega
              subst this; exact ⟨.inr rfl, hr1⟩
            · exact ⟨.inl h1, h2⟩
          · rintro ⟨h1 | h1, h2⟩
            · exact .inr ⟨h1, h2⟩
            · subst h1; exact .inl ⟨Int.le_refl _, Int.le_refl _⟩
        · rcases List.mem_cons.1 hp with rfl | hp
          · simp
          · have := h.top p hp
            exact ⟨List.mem_append_left _ this.1, List.mem_append_left _ this.2⟩
theorem join_inv : ∀ (l seen : List Int) (acc : List (Int × Int)), JI acc seen → (∀ s ∈ seen, ∀ x ∈ l, s ≤ x) → l.Pairwise (· ≤ ·) → JI (l.foldl stepJ acc) (seen ++ l)
  | [], seen, acc, h, _, _ => by simpa using h
  | n :: r, seen, acc, h, hs, hp => by
    have hp := List.pairwise_cons.1 hp
    have := join_inv r (seen ++ [n]) (stepJ acc n) (h.step n fun s hs' => hs s hs' n (by simp)) (fun s hs' x hx => by
      rcases List.mem_append.1 hs' with hs' | hs'
      · exact hs s hs' x (List.mem_cons_of_mem _ hx)
      · rw [List.mem_singleton.1 hs']; exact hp.1 x hx) hp.2
    simpa using this
theorem sortI_sorted (l : List Int) : (sortI l).Pairwise (· ≤ ·) := by
  have := List.pairwise_mergeSort (le := fun x y : Int => decide (x ≤ y)) (fun a b c h1 h2 => by simp at *; omega) (fun a b => by simp; omega) l
  exact this.imp fun h => by simpa using h
theorem sortI_mem {l : List Int} {n : Int} : n ∈ sortI l ↔ n ∈ l := List.mem_mergeSort
theorem sortI_len (l : List Int) : (sortI l).length = l.length := by simp [sortI]
theorem joinR_inv (l : List Int) : JI (joinR (sortI l)) (sortI l) := by
  have := join_inv (sortI l) [] [] ⟨by simp, by simp, by simp, by simp⟩ (by simp) (sortI_sorted l)
  simpa [joinR] using this
theorem joinS_rng (l : List Int) : ∀ p ∈ joinS l, 1 ≤ p.1 ∧ p.1 ≤ p.2 ∧ p.2 ≤ 1000000 := fun p hp => (joinR_inv l).rng p (by simpa [joinS] using hp)
theorem joinS_cov (l : List Int) (m : Int) : (∃ p ∈ joinS l, p.1 ≤ m ∧ m ≤ p.2) ↔ (m ∈ l ∧ 1 ≤ m ∧ m ≤ 1000000) := by
  rw [← sortI_mem, ← (joinR_inv l).cov m]
  simp [joinS]
theorem joinS_gap (l : List Int) {i : Nat} (h : i + 1 < (joinS l).length) : (joinS l)[i].2 + 1 < (joinS l)[i + 1].1 := by
  have h1 : (joinS l).Pairwise fun x y => x.2 + 1 < y.1 := List.pairwise_reverse.2 (joinR_inv l).ok
  exact List.pairwise_iff_getElem.1 h1 i (i + 1) (by omega) h (by omega)
theorem joinS_from (l : List Int) : ∀ p ∈ joinS l, p.1 ∈ l := fun p hp => sortI_mem.1 ((joinR_inv l).top p (by simpa [joinS] using hp)).1
theorem foldl_len : ∀ (l : List Int) (acc : List (Int × Int)), (l.foldl stepJ acc).length ≤ acc.length + l.length
  | [], acc => by simp
  | n :: r, acc => by
    have h1 := foldl_len r (stepJ acc n)
    have h2 : (stepJ acc n).length ≤ acc.length + 1 := by
      unfold stepJ
      split
      · omega
      · split
        · simp
        · split <;> simp
    simp only [List.foldl_cons, List.length_cons]; omega
theorem joinR_len (l : List Int) : (joinR l).length ≤ l.length := by have := foldl_len l []; simpa [joinR] using this
theorem joinS_len (l : List Int) : (joinS l).length ≤ l.length := by
  have := joinR_len (sortI l)
  rw [sortI_len] at this
  simpa [joinS] using this
theorem joinS_one {n : Int} (h1 : 1 ≤ n) (h2 : n ≤ 1000000) : joinS [n] = [(n, n)] := by
  have : sortI [n] = [n] := by simp [sortI]
  rw [joinS, this]
  simp only [joinR, List.foldl, stepJ]
  rw [if_neg (by omega)]; rfl
theorem joinS_two (n m : Int) : (joinS [n, m, n]).length ≤ 2 := by
  apply Nat.le_of_not_lt
  intro h
  have g0 : (joinS [n, m, n])[0].2 + 1 < (joinS [n, m, n])[1].1 := joinS_gap [n, m, n] (i := 0) (by omega)
  have g1 : (joinS [n, m, n])[1].2 + 1 < (joinS [n, m, n])[2].1 := joinS_gap [n, m, n] (i := 1) (by omega)
  have f := fun i (hi : i < (joinS [n, m, n]).length) => joinS_from [n, m, n] _ (List.getElem_mem hi)
  have r := fun i (hi : i < (joinS [n, m, n]).length) => joinS_rng [n, m, n] _ (List.getElem_mem hi)
  have f0 := f 0 (by omega)
  have f1 := f 1 (by omega)
  have f2 := f 2 (by omega)
  have r0 := r 0 (by omega)
  have r1 := r 1 (by omega)
  simp only [List.mem_cons, List.not_mem_nil, or_false] at f0 f1 f2
  omega
end B
end Go.Proofs.YtmiclaoelbemkaaDoor
namespace Go.Proofs.YtmiclaoelbemkaaDoor
namespace B
open Go.RowKit

abbrev ints (l : List Int) : List D := l.map fun z => D.int .i64 z
theorem ints_len (l : List Int) : (ints l).length = l.length := by simp
theorem ints_get (l : List Int) {i : Nat} (h : i < l.length) : (ints l).getD i .nilp = D.int .i64 l[i] := by
  simp [List.getD_eq_getElem?_getD, h]
theorem r25 (l : List Int) (hl : l.length ≤ 1000) : Runs P 25 [.d (.slice 1 (ints l))] [] (.rs 1 8 0 (ints l).length) [(8, [.arr 1 (ints l)])] := by
  rw [ints_len]
  exact Runs.cloneI (T := 3) ⟨Tryd.f25, Tryd.func25, by kernel_rfl, by kernel_rfl⟩ (fun b off n c zs w => Tryd.slices_Clone_int b off n c zs w) (fun n c w => Tryd.slices_Clone_int_nil n c w) (fun a c w => Tryd.slices_Clone_int_zero a c w) 8 l (by omega)
theorem r26 (l : List Int) (hl : l.length ≤ 1000) : Runs P 26 [.rs 1 8 0 (ints l).length] [(8, [.arr 1 (ints l)])] (.tup []) [(8, [.arr 1 (ints (sortI l))])] := by
  rw [ints_len]
  exact Runs.sort ⟨Tryd.f26, Tryd.func26, by kernel_rfl, by kernel_rfl⟩ (fun blk off cap zs w h1 h2 h3 => Any.slices_Sort_int Tryd.lays189 blk off cap zs w h1 h2 h3) (fun p cap w => Any.slices_Sort_int_none Tryd.lays189 p cap w) 8 l (by omega)
theorem last_get (a b : Int) (r : List (Int × Int)) : ((((a, b) :: r).reverse).map sp).getD r.length .nilp = sp (a, b) := by
  simp [List.getD_eq_getElem?_getD]
theorem last_set (a b n : Int) (r : List (Int × Int)) : setEl ((((a, b) :: r).reverse).map sp) r.length 1 [D.int .i64 n] = (((a, n) :: r).reverse).map sp := by
  unfold setEl
  rw [last_get]
  simp only [List.reverse_cons, List.map_append, List.map_cons, List.map_nil]
  rw [List.set_append_right _ _ (by simp)]
  simp
  rfl
theorem join_snoc (l : List Int) (n : Int) : joinR (l ++ [n]) = stepJ (joinR l) n := by simp [joinR]
theorem endRow {c res : CV} {bx : List (Nat × List CV)} {cs : List CV} {b : Nat} (h : c = res) (h' : bx.lookup b = some cs) (hc : (⟨[res], [(b, cs)]⟩ : St).clo = true) : EndR c res bx [(b, cs)] := by
  subst h
  exact ⟨Wr_refl c, ⟨by rw [h']; exact WcL_refl cs, trivial⟩, hc⟩
theorem addO0 (n : Nat) : addO 0 n = n := rfl
theorem r15row (l : List Int) (hl : l.length ≤ 1000) : Runs P 15 [.d (.slice 1 (ints l))] [] (.rs 2 3 0 ((joinS l).map sp).length) [(3, [.arr 2 ((joinS l).map sp)])] := by
  refine runs_walkA t15 rfl (vc15 _ _ _) (by simp) ?_
  refine ⟨_, r25 l hl, _, r26 l hl, ?_⟩
  rw [ints_len]
  have hS : (sortI l).length = l.length := sortI_len l
  refine ⟨fun k n L j => ∃ i : Nat, n = i ∧ i ≤ l.length ∧ j = l.length - i ∧ L = ((joinR ((sortI l).take i)).reverse).map sp ∧ k = L.length, ⟨l.length, 0, rfl, Nat.zero_le _, rfl, rfl, rfl⟩, ?_⟩
  rintro _ _ _ _ ⟨i, rfl, hi, rfl, rfl, rfl⟩
  simp only [addO0, Int.toNat_natCast]
  have hjl : (joinR ((sortI l).take i)).length ≤ i := by
    have := joinR_len ((sortI l).take i)
    rw [List.length_take] at this; omega
  refine ⟨fun hlt => ?_, fun hge => ?_⟩
  · have hlt : i < l.length := by have := of_decide_eq_true hlt; simp only [nI] at this; omega
    have hlt' : i < (sortI l).length := by omega
    have hsn : joinR ((sortI l).take (i + 1)) = stepJ (joinR ((sortI l).take i)) (sortI l)[i] := by
      rw [List.take_succ_eq_append_getElem hlt', join_snoc]
    refine ⟨⟨by omega, by simp only [nI]; omega⟩, by rw [ints_len]; exact hlt', (sortI l)[i], by rw [ints_get _ hlt']; rfl, ?_⟩
    rintro n10 h10 b11 h11
    have hJ : JI (joinR ((sortI l).take i)) ((sortI l).take i) := by
      have := join_inv ((sortI l).take i) [] [] ⟨by simp, by simp, by simp, by simp⟩ (by simp) ((sortI_sorted l).sublist (List.take_sublist _ _))
      simpa [joinR] using this
    generalize hacc : joinR ((sortI l).take i) = acc at *
    generalize hx : (sortI l)[i] = x at *
    have next : ∀ m : Int, Go.IntKind.wrap .i64 ((i : Int) + 1) = m → m = ((i + 1 : Nat) : Int) := fun m hm => by rw [← hm, W64 (by omega) (by omega)]; rfl
    have hn10 : n10 = (acc.length : Int) - 1 := by
      rw [← h10]; simp only [nI, List.length_map, List.length_reverse]; rw [W64 (by omega) (by omega)]
    subst hn10
    refine ⟨fun h => ?_, fun h => ?_⟩
    · subst h
      have hr : x < 1 ∨ 1000000 < x := by simpa using h11
      intro m hm
      refine ⟨l.length - (i + 1), by omega, i + 1, next m hm, by omega, rfl, ?_, ?_⟩
      · rw [hsn]; unfold stepJ; rw [if_pos hr]
      · trivial
    subst h
    have hr : ¬ (x < 1 ∨ 1000000 < x) := by simpa using h11
    match acc, hsn, hjl, hJ with
    | [], hsn, hjl, _ =>
      have e0 : decide (((([] : List (Int × Int)).length : Nat) : Int) - 1 ≥ 0) = false := by decide
      rw [e0]
      refine ⟨fun h => by (cases h), fun h => (by cases h), 0, fun h => (by cases h), ?_⟩
      rintro n15 h15 b16 h16
      have : b16 = false := by rw [← h16]; rfl
      subst this
      refine ⟨fun h => (by cases h), fun _ => ⟨by first | trivial | rfl, by simp, ?_⟩⟩
      rintro _ rfl m hm
      have hst : joinR ((sortI l).take (i + 1)) = [(x, x)] := by rw [hsn]; unfold stepJ; rw [if_neg hr]
      exact ⟨l.length - (i + 1), by omega, i + 1, next m hm, by omega, rfl, by rw [hst]; rfl, by first | trivial | rfl⟩
    | (a, b) :: r, hsn, hjl, hJ =>
      have hrl : (((((a, b) :: r).length : Nat) : Int) - 1).toNat = r.length := by simp
      have hrl' : ((((a, b) :: r).length : Nat) : Int) - 1 = (r.length : Int) := by simp
      rw [hrl', Int.toNat_natCast]
      have hb : (0 : Int) ≤ (r.length : Int) ∧ (r.length : Int) < nI (((a, b) :: r).reverse.map sp).length := ⟨by omega, by simp [nI]; omega⟩
      have hb2 : r.length < (((a, b) :: r).reverse.map sp).length := by simp
      have hd : decide ((r.length : Int) ≥ 0) = true := by simp
      refine ⟨fun _ => hb, fun _ => hb2, b, fun _ => by rw [last_get]; rfl, ?_⟩
      rintro n15 h15 b16 h16
      rw [hd, Bool.true_and] at h16
      have hp := hJ.rng (a, b) (by simp)
      simp only at hp
      rw [W64 (by omega) (by omega)] at h15
      subst h15
      refine ⟨fun h => ?_, fun h => ?_⟩
      · subst h
        have h16 := of_decide_eq_true h16
        refine ⟨hb, hb2, ?_⟩
        rintro _ rfl m hm
        have hst : joinR ((sortI l).take (i + 1)) = (a, x) :: r := by rw [hsn]; unfold stepJ; rw [if_neg hr]; simp only; rw [if_pos h16]
        exact ⟨l.length - (i + 1), by omega, i + 1, next m hm, by omega, rfl, by rw [hst]; exact last_set a b x r, by rw [show setEl (List.map sp ((a, b) :: r).reverse) r.length (0 + 1) [D.int .i64 x] = _ from last_set a b x r]; simp⟩
      · subst h
        have h16 := of_decide_eq_false h16
        refine ⟨by first | trivial | rfl, by simp only [List.length_map, List.length_reverse, List.length_cons, List.length_nil] at hjl ⊢; omega, ?_⟩
        rintro _ rfl m hm
        have hst : joinR ((sortI l).take (i + 1)) = (x, x) :: (a, b) :: r := by rw [hsn]; unfold stepJ; rw [if_neg hr]; simp only; rw [if_neg h16]
        have e1 : (((a, b) :: r).reverse.map sp) ++ [D.agg [D.int .i64 x, D.int .i64 x]] = (((x, x) :: (a, b) :: r).reverse).map sp := by simp [sp]
        exact ⟨l.length - (i + 1), by omega, i + 1, next m hm, by omega, rfl, by rw [hst]; exact e1, by simp⟩
  · have : i = l.length := by have := of_decide_eq_false hge; simp only [nI] at this; omega
    subst this
    rw [List.take_of_length_le (by omega)]
    exact endRow rfl rfl rfl
theorem r15 (l : List Int) (hl : l.length ≤ 1000) : Runs P 15 [.d (.slice 1 (ints l))] [] (.d (.slice 2 ((joinS l).map sp))) [] :=
  (r15row l hl).freeze rfl (by decide)
theorem numsJoins (row : List Int) (n : Int) : Runs P 6 [.d (.slice 1 (ints row)), .d (.int .i64 n)] [] (.d (.bool true)) [] := by
  refine runs_walkA t6 rfl (vc6 _ _ _ _) (by simp) ?_
  rw [ints_len]
  refine ⟨fun h => ⟨true, r10, endB rfl⟩, fun h => ?_⟩
  have hl : row.length ≤ 100 := by have := of_decide_eq_false h; simp only [nI] at this; omega
  refine ⟨_, r15 row (by omega), fun b m k => ∃ i : Nat, m = i ∧ i ≤ row.length ∧ k = row.length - i ∧ b = decide (n ∈ row.take i), ⟨row.length, 0, rfl, Nat.zero_le _, rfl, by simp⟩, ?_⟩
  rintro _ _ _ ⟨i, rfl, hi, rfl, rfl⟩
  refine ⟨fun hlt => ?_, fun hge => ?_⟩
  · have hlt : i < row.length := by have := of_decide_eq_true hlt; simp only [nI] at this; omega
    refine ⟨⟨by omega, by simp only [nI]; omega⟩, row[i], by rw [Int.toNat_natCast, ints_get _ hlt]; rfl, ?_⟩
    rintro _ rfl m hm
    refine ⟨row.length - (i + 1), by omega, i + 1, by rw [← hm, W64 (by omega) (by omega)]; rfl, by omega, rfl, ?_⟩
    rw [List.take_succ_eq_append_getElem hlt, Bool.eq_iff_iff]
    simp only [Bool.or_eq_true, decide_eq_true_eq, beq_iff_eq, List.mem_append, List.mem_singleton]
    constructor
    · rintro (h | h)
      · exact .inl h
      · exact .inr h.symm
    · rintro (h | h)
      · exact .inl h
      · exact .inr h.symm
  have hir : i = row.length := by have := of_decide_eq_false hge; simp only [nI] at this; omega
  subst hir
  rw [List.take_length, List.length_map]
  have hJl := joinS_len row
  refine ⟨fun m b k => ∃ i : Nat, m = i ∧ i ≤ (joinS row).length ∧ k = (joinS row).length - i ∧ b = decide (∃ p ∈ (joinS row).take i, p.1 ≤ n ∧ n ≤ p.2), ⟨(joinS row).length, 0, rfl, Nat.zero_le _, rfl, by simp⟩, ?_⟩
  rintro _ _ _ ⟨i, rfl, hi, rfl, rfl⟩
  refine ⟨fun hlt => ?_, fun hge => ?_⟩
  · have hlt : i < (joinS row).length := by have := of_decide_eq_true hlt; simp only [nI] at this; omega
    have hr := joinS_rng row _ (List.getElem_mem hlt)
    refine ⟨⟨by omega, by simp only [nI]; omega⟩, (joinS row)[i].1, (joinS row)[i].2, by rw [getD_sp _ _ hlt]; rfl, ?_⟩
    rintro b20 h20 b21 h21 n22 h22
    have e21 : b21 = false := by
      rw [← h21, ← h20]
      simp only [Bool.or_eq_false_iff, decide_eq_false_iff_not]; omega
    subst e21
    rw [W64 (by omega) (by omega)] at h22
    subst h22
    have hpos : (decide ((i : Int) > 0)) = true → 1 ≤ i := fun h => by have := of_decide_eq_true h; omega
    have hprev : ∀ h : 1 ≤ i, (joinS row)[i - 1].2 + 1 < (joinS row)[i].1 := fun h => by
      have := joinS_gap row (i := i - 1) (by omega)
      have e : i - 1 + 1 = i := by omega
      simpa only [e] using this
    refine ⟨fun h => ?_, (if h : 1 ≤ i then (joinS row)[i - 1].1 else 0), (if h : 1 ≤ i then (joinS row)[i - 1].2 else 0), fun h => ?_, ?_⟩
    · have := hpos (by simpa using h)
      exact ⟨by omega, by simp only [nI]; omega⟩
    · have h1 := hpos (by simpa using h)
      have e : ((i : Int) - 1).toNat = i - 1 := by omega
      rw [dif_pos h1, dif_pos h1, e]
      have := getD_sp (joinS row) (i - 1) (by omega)
      rw [Int.toNat_natCast] at this
      rw [this]; rfl
    rintro n25 h25 b26 h26 b27 h27
    have e27 : b27 = false := by
      rw [← h27, Bool.false_or, ← h26]
      by_cases h1 : 1 ≤ i
      · rw [dif_pos h1] at h25
        have hg := hprev h1
        have hp := joinS_rng row _ (List.getElem_mem (show i - 1 < (joinS row).length by omega))
        rw [W64 (by omega) (by omega)] at h25
        simp only [Bool.and_eq_false_iff, decide_eq_false_iff_not]; right; omega
      · simp only [Bool.and_eq_false_iff, decide_eq_false_iff_not]; left; omega
    subst e27
    refine ⟨fun h => (by cases h), fun _ => ?_⟩
    rintro b28 h28 _ rfl m hm
    refine ⟨(joinS row).length - (i + 1), by omega, i + 1, by rw [← hm, W64 (by omega) (by omega)]; rfl, by omega, rfl, ?_⟩
    rw [List.take_succ_eq_append_getElem hlt, Bool.eq_iff_iff]
    simp only [Bool.or_eq_true, decide_eq_true_eq, ← h28, Bool.and_eq_true, List.mem_append, List.mem_singleton]
    constructor
    · rintro (⟨p, h1, h2⟩ | h)
      · exact ⟨p, .inl h1, h2⟩
      · exact ⟨_, .inr rfl, h.1, h.2⟩
    · rintro ⟨p, h1 | h1, h2⟩
      · exact .inl ⟨p, h1, h2⟩
      · subst h1; exact .inr ⟨h2.1, h2.2⟩
  have hir : i = (joinS row).length := by have := of_decide_eq_false hge; simp only [nI] at this; omega
  subst hir
  rw [List.take_length]
  rintro b32 h32 b33 h33
  have e33 : (decide (∃ p ∈ joinS row, p.1 ≤ n ∧ n ≤ p.2) == b33) = true := by
    rw [beq_iff_eq, ← h33, ← h32, Bool.eq_iff_iff]
    simp only [decide_eq_true_eq, Bool.and_eq_true, joinS_cov row n]
    constructor
    · rintro ⟨h1, h2, h3⟩; exact ⟨⟨h1, h2⟩, h3⟩
    · rintro ⟨⟨h1, h2⟩, h3⟩; exact ⟨h1, h2, h3⟩
  refine ⟨true, fun _ => r10, ?_⟩
  rintro _ rfl
  exact endB (by rw [e33]; rfl)

theorem wu_range (n : Int) : 0 ≤ Go.IntKind.wrap .u64 n ∧ Go.IntKind.wrap .u64 n < 18446744073709551616 := by
  unfold Go.IntKind.wrap Go.IntKind.bits Go.IntKind.signed
  simp
  omega
theorem num_range {n a b c d : Int} (h2 : Go.IntKind.wrap .u64 n = a) (h3 : Int.tmod a 1000000 = b) (h4 : Go.IntKind.wrap .i64 b = c) (h5 : Go.IntKind.wrap .i64 (1 + c) = d) : 1 ≤ d ∧ d ≤ 1000000 := by
  have hr := wu_range n
  rw [h2] at hr
  rw [Int.tmod_eq_emod_of_nonneg hr.1] at h3
  rw [W64 (by omega) (by omega)] at h4
  rw [W64 (by omega) (by omega)] at h5
  omega
theorem numsOne (n m : Int) : Runs P 7 [.d (.int .i64 n), .d (.int .i64 m)] [] (.d (.bool true)) [] := by
  refine runs_walkA t7 rfl (vc7 _ _ _ _) (by simp) ?_
  rintro n2 h2
  refine ⟨by decide, ?_⟩
  rintro n3 h3 n4 h4 x h5 n6 h6
  refine ⟨by decide, ?_⟩
  rintro n7 h7 n8 h8 y h9
  obtain ⟨x1, x2⟩ := num_range h2 h3 h4 h5
  obtain ⟨y1, y2⟩ := num_range h6 h7 h8 h9
  clear h2 h3 h4 h5 h6 h7 h8 h9
  have w15 := r15 [x] (by simp)
  rw [joinS_one x1 x2] at w15
  have hm : mayS [(x, x)] = true := by
    unfold mayS offS off
    simp only [List.length_cons, List.length_nil, List.any_cons, List.any_nil, Bool.or_false, Bool.and_eq_true, decide_eq_true_eq, Bool.not_eq_true', Bool.or_eq_false_iff, decide_eq_false_iff_not]
    omega
  refine ⟨_, w15, _, r9m [(x, x)] hm, _, _, r11text [(x, x)] hm, ?_⟩
  rintro b14 h14
  have e14 : b14 = true := by rw [← h14]; rfl
  subst e14
  refine ⟨fun _ => ⟨by omega, by simp [nI]⟩, x, x, fun _ => rfl, ?_⟩
  rintro b17 h17
  have e17 : b17 = true := by rw [← h17]; simp
  subst e17
  refine ⟨_, fun _ => r13 [(x, x)] y x, ?_⟩
  have hh : hasS [(x, x)] y x = (y == x) := by
    unfold hasS
    rw [hm, Bool.eq_iff_iff]
    simp only [has1, ends, List.any_cons, List.any_nil, Bool.or_false, Bool.true_and, Bool.and_eq_true, Bool.not_eq_true', decide_eq_false_iff_not, Bool.and_eq_false_iff, decide_eq_true_eq, beq_iff_eq, Bool.or_eq_false_iff]
    rw [if_neg (by omega)]
    simp only [Int.min_self, Int.max_self]
    constructor
    · rintro ⟨_, _, h1, h2⟩; omega
    · rintro rfl; omega
  rw [hh]
  rintro b19 h19
  have e19 : b19 = true := by rw [← h19]; simp
  subst e19
  have hz : hasS [(0, 0)] y x = (y == x) := by
    unfold hasS
    have hm0 : mayS [(0, 0)] = true := by decide
    rw [hm0, Bool.eq_iff_iff]
    simp only [has1, ends, List.any_cons, List.any_nil, Bool.or_false, Bool.true_and, Bool.and_eq_true, Bool.not_eq_true', decide_eq_false_iff_not, Bool.and_eq_false_iff, decide_eq_true_eq, beq_iff_eq, Bool.or_eq_false_iff]
    simp only [if_true, Int.min_self, Int.max_self]
    constructor
    · rintro ⟨_, _, h1, h2⟩; omega
    · rintro rfl; omega
  have w13 := r13 [(0, 0)] y x
  rw [hz] at w13
  refine ⟨_, fun _ => w13, ?_⟩
  rintro b21 h21
  have e21 : b21 = true := by rw [← h21]; simp
  subst e21
  refine ⟨_, fun _ => r15 [x, y, x] (by simp), ?_⟩
  rintro b23 h23
  have h2l := joinS_two x y
  have e23 : b23 = true := by
    rw [← h23, Bool.true_and, List.length_map]
    simp only [nI, decide_eq_true_eq]; omega
  subst e23
  refine ⟨true, fun _ => r10, ?_⟩
  rintro _ rfl
  exact endB rfl
theorem cells3i : P.cellsOf 3 = 1 := by kernel_rfl
theorem ints_of {n : Nat} {x : D} (h : TyV P (n + 2) 33 x) : ∃ l : List Int, x = .slice 1 (ints l) := by
  obtain ⟨l, rfl, _, hl⟩ := ty_slice Tryd.underlying33 h
  obtain ⟨zs, rfl⟩ := ty_list (f := fun z => D.int .i64 z) fun y hy => by
    obtain ⟨k, hk, _⟩ := ty_int Tryd.underlying3 (hl y hy); exact ⟨k, hk⟩
  exact ⟨zs, by rw [cells3i]⟩
end B
end Go.Proofs.YtmiclaoelbemkaaDoor
