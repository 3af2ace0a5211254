/- Form1Back, Form2Back: abstract texts and what their walks come to: printed by wip/B/gen. No condition. -/
import Derived.Test.YtmkkljbfmdngfaaDoorG3
import Derived.Test.YtmkkljbfmdngfaaDoorCards
import Derived.Test.YtmkkljbfmdngfaaDoorTie
import Derived.Test.YtmkkljbfmdngfaaDoorB35
import Derived.ProofKit
import Derived.OpenShut
import Derived.Deep.DeepHandedRow
import Derived.JoinedCond
import Derived.LaidLaws
import Derived.Lib.LaidTab
set_option linter.all false
namespace Go.Proofs.YtmkkljbfmdngfaaDoor
namespace B
set_option maxRecDepth 100000
def af6 : AF := ⟨(.seq (.ops [⟨(some 1), (.box 6 true (.t 0)), none⟩, ⟨(some 2), (.mov (.c (.d (.bool false))) true none), none⟩]) (.seq (.seq (.ops [⟨(some 12), (.load true 6 (.t 1) false), none⟩, ⟨(some 13), (.call 15 [((.t 12), none)] none), none⟩, ⟨(some 14), (.bin false .gtr (.t 13) (.c (.d (.int .i64 0)))), none⟩, ⟨(some 15), (.mov (.t 14) true none), none⟩, ⟨(some 16), (.load true 6 (.t 1) false), (some (15, false))⟩, ⟨(some 17), (.call 16 [((.t 16), none)] none), (some (15, false))⟩, ⟨(some 18), (.bin false .neq (.t 17) (.c (.d (.int .i64 0)))), (some (15, false))⟩, ⟨(some 19), (.pick (.t 15) (.c (.d (.bool true))) (.t 18)), none⟩]) (.cond (.t 19) (.seq (.ops [⟨(some 20), (.call 17 [] none), none⟩, ⟨(some 2), (.mov (.t 20) true none), none⟩]) .ret) .skip)) (.seq (.ops [⟨(some 22), (.load true 6 (.t 1) false), none⟩, ⟨(some 23), (.call 18 [((.t 22), none)] none), none⟩, ⟨(some 21), (.mov (.t 23) true none), none⟩, ⟨(some 24), (.extract (.t 21) 0 false), none⟩, ⟨(some 25), (.extract (.t 21) 1 false), none⟩, ⟨(some 3), (.mov (.t 24) true (some 1)), none⟩, ⟨(some 4), (.mov (.t 25) true none), none⟩]) (.seq (.ops [⟨(some 27), (.mov (.t 3) false (some 1)), none⟩, ⟨(some 28), (.fieldA 0 (.t 1)), none⟩, ⟨(some 29), (.load false 1 (.t 28) false), none⟩, ⟨(some 30), (.call 24 [((.t 27), (some 1)), ((.t 29), none)] none), none⟩, ⟨(some 26), (.mov (.t 30) true none), none⟩, ⟨(some 31), (.extract (.t 26) 0 false), none⟩, ⟨(some 32), (.extract (.t 26) 1 false), none⟩, ⟨(some 5), (.alloc [(.d (.str [])), (.d (.int .i64 0)), (.d (.int .i64 0)), (.d (.int .i64 0)), (.own 1 []), (.own 7 [])]), none⟩, ⟨none, (.store true 6 (.t 5) (.t 31) none), none⟩, ⟨(some 6), (.mov (.t 32) true none), none⟩]) (.seq (.seq (.ops [⟨(some 33), (.mov (.t 4) false none), none⟩, ⟨(some 34), (.bin false .neq (.t 33) (.c (.d (.int .i64 0)))), none⟩, ⟨(some 35), (.mov (.t 34) true none), none⟩, ⟨(some 36), (.mov (.t 6) false none), (some (35, false))⟩, ⟨(some 37), (.bin false .neq (.t 36) (.c (.d (.int .i64 0)))), (some (35, false))⟩, ⟨(some 38), (.pick (.t 35) (.c (.d (.bool true))) (.t 37)), none⟩, ⟨(some 39), (.mov (.t 38) true none), none⟩, ⟨(some 40), (.fieldA 0 (.t 5)), (some (39, false))⟩, ⟨(some 41), (.load false 1 (.t 40) false), (some (39, false))⟩, ⟨(some 42), (.fieldA 0 (.t 1)), (some (39, false))⟩, ⟨(some 43), (.load false 1 (.t 42) false), (some (39, false))⟩, ⟨(some 44), (.bin false .neq (.t 41) (.t 43)), (some (39, false))⟩, ⟨(some 45), (.pick (.t 39) (.c (.d (.bool true))) (.t 44)), none⟩, ⟨(some 46), (.mov (.t 45) true none), none⟩, ⟨(some 47), (.fieldA 1 (.t 5)), (some (46, false))⟩, ⟨(some 48), (.load false 1 (.t 47) false), (some (46, false))⟩, ⟨(some 49), (.fieldA 1 (.t 1)), (some (46, false))⟩, ⟨(some 50), (.load false 1 (.t 49) false), (some (46, false))⟩, ⟨(some 51), (.bin false .neq (.t 48) (.t 50)), (some (46, false))⟩, ⟨(some 52), (.pick (.t 46) (.c (.d (.bool true))) (.t 51)), none⟩, ⟨(some 53), (.mov (.t 52) true none), none⟩, ⟨(some 54), (.fieldA 2 (.t 5)), (some (53, false))⟩, ⟨(some 55), (.load false 1 (.t 54) false), (some (53, false))⟩, ⟨(some 56), (.fieldA 2 (.t 1)), (some (53, false))⟩, ⟨(some 57), (.load false 1 (.t 56) false), (some (53, false))⟩, ⟨(some 58), (.bin false .neq (.t 55) (.t 57)), (some (53, false))⟩, ⟨(some 59), (.pick (.t 53) (.c (.d (.bool true))) (.t 58)), none⟩, ⟨(some 60), (.mov (.t 59) true none), none⟩, ⟨(some 61), (.fieldA 5 (.t 5)), (some (60, false))⟩, ⟨(some 62), (.load false 1 (.t 61) false), (some (60, false))⟩, ⟨(some 63), (.len (.t 62)), (some (60, false))⟩, ⟨(some 64), (.fieldA 5 (.t 1)), (some (60, false))⟩, ⟨(some 65), (.load false 1 (.t 64) false), (some (60, false))⟩, ⟨(some 66), (.len (.t 65)), (some (60, false))⟩, ⟨(some 67), (.bin false .neq (.t 63) (.t 66)), (some (60, false))⟩, ⟨(some 68), (.pick (.t 60) (.c (.d (.bool true))) (.t 67)), none⟩, ⟨(some 69), (.mov (.t 68) true none), none⟩, ⟨(some 70), (.fieldA 4 (.t 5)), (some (69, false))⟩, ⟨(some 71), (.load false 1 (.t 70) false), (some (69, false))⟩, ⟨(some 72), (.len (.t 71)), (some (69, false))⟩, ⟨(some 73), (.fieldA 4 (.t 1)), (some (69, false))⟩, ⟨(some 74), (.load false 1 (.t 73) false), (some (69, false))⟩, ⟨(some 75), (.len (.t 74)), (some (69, false))⟩, ⟨(some 76), (.mm false (.t 75) (.c (.d (.int .i64 32)))), (some (69, false))⟩, ⟨(some 77), (.bin false .neq (.t 72) (.t 76)), (some (69, false))⟩, ⟨(some 78), (.pick (.t 69) (.c (.d (.bool true))) (.t 77)), none⟩, ⟨(some 79), (.mov (.t 78) true none), none⟩, ⟨(some 80), (.fieldA 3 (.t 5)), (some (79, false))⟩, ⟨(some 81), (.load false 1 (.t 80) false), (some (79, false))⟩, ⟨(some 82), (.bin false .neq (.t 81) (.c (.d (.int .i64 1)))), (some (79, false))⟩, ⟨(some 83), (.pick (.t 79) (.c (.d (.bool true))) (.t 82)), none⟩]) (.cond (.t 83) (.seq (.ops [⟨(some 2), (.mov (.c (.d (.bool false))) true none), none⟩]) .ret) .skip)) (.seq (.seq (.ops [⟨(some 84), (.fieldA 5 (.t 1)), none⟩, ⟨(some 85), (.load false 1 (.t 84) false), none⟩, ⟨(some 86), (.len (.t 85)), none⟩, ⟨(some 87), (.mov (.c (.d (.int .i64 0))) false none), none⟩]) (.block 0 (.loop (.seq (.ops [⟨(some 88), (.bin false .lss (.t 87) (.t 86)), none⟩]) (.seq (.cond (.t 88) .skip (.exit 0)) (.seq (.block 1 (.seq (.ops [⟨(some 89), (.mov (.t 87) true none), none⟩, ⟨(some 90), (.idxA 7 (.t 85) (.t 87)), none⟩, ⟨(some 91), (.load true 7 (.t 90) false), none⟩, ⟨(some 8), (.alloc [(.d (.int .i64 0)), (.d (.int .i64 0)), (.d (.int .i64 0)), (.d (.str [])), (.d (.int .i64 0)), (.own 1 []), (.d (.str []))]), none⟩, ⟨(some 7), (.mov (.t 89) true none), none⟩, ⟨none, (.store true 7 (.t 8) (.t 91) none), none⟩]) (.seq (.ops [⟨(some 92), (.fieldA 5 (.t 5)), none⟩, ⟨(some 93), (.load false 1 (.t 92) false), none⟩, ⟨(some 94), (.mov (.t 7) false none), none⟩, ⟨(some 95), (.idxA 7 (.t 93) (.t 94)), none⟩, ⟨(some 96), (.load true 7 (.t 95) false), none⟩, ⟨(some 9), (.alloc [(.d (.int .i64 0)), (.d (.int .i64 0)), (.d (.int .i64 0)), (.d (.str [])), (.d (.int .i64 0)), (.own 1 []), (.d (.str []))]), none⟩, ⟨none, (.store true 7 (.t 9) (.t 96) none), none⟩]) (.seq (.draw [⟨(some 97), (.fieldA 0 (.t 9)), none⟩, ⟨(some 98), (.load false 1 (.t 97) false), none⟩, ⟨(some 99), (.fieldA 0 (.t 8)), none⟩, ⟨(some 100), (.load false 1 (.t 99) false), none⟩, ⟨(some 101), (.bin false .neq (.t 98) (.t 100)), none⟩, ⟨(some 102), (.mov (.t 101) true none), none⟩, ⟨(some 103), (.fieldA 2 (.t 9)), (some (102, false))⟩, ⟨(some 104), (.load false 1 (.t 103) false), (some (102, false))⟩, ⟨(some 105), (.fieldA 2 (.t 8)), (some (102, false))⟩, ⟨(some 106), (.load false 1 (.t 105) false), (some (102, false))⟩, ⟨(some 107), (.bin false .neq (.t 104) (.t 106)), (some (102, false))⟩, ⟨(some 108), (.pick (.t 102) (.c (.d (.bool true))) (.t 107)), none⟩, ⟨(some 109), (.mov (.t 108) true none), none⟩, ⟨(some 110), (.fieldA 4 (.t 9)), (some (109, false))⟩, ⟨(some 111), (.load false 1 (.t 110) false), (some (109, false))⟩, ⟨(some 112), (.fieldA 4 (.t 8)), (some (109, false))⟩, ⟨(some 113), (.load false 1 (.t 112) false), (some (109, false))⟩, ⟨(some 114), (.bin false .neq (.t 111) (.t 113)), (some (109, false))⟩, ⟨(some 115), (.pick (.t 109) (.c (.d (.bool true))) (.t 114)), none⟩, ⟨(some 116), (.mov (.t 115) true none), none⟩, ⟨(some 117), (.fieldA 6 (.t 9)), (some (116, false))⟩, ⟨(some 118), (.load false 1 (.t 117) false), (some (116, false))⟩, ⟨(some 119), (.fieldA 6 (.t 8)), (some (116, false))⟩, ⟨(some 120), (.load false 1 (.t 119) false), (some (116, false))⟩, ⟨(some 121), (.bin false .neq (.t 118) (.t 120)), (some (116, false))⟩, ⟨(some 122), (.pick (.t 116) (.c (.d (.bool true))) (.t 121)), none⟩, ⟨(some 123), (.mov (.t 122) true none), none⟩, ⟨(some 124), (.fieldA 1 (.t 9)), (some (123, false))⟩, ⟨(some 125), (.load false 1 (.t 124) false), (some (123, false))⟩, ⟨(some 126), (.bin false .neq (.t 125) (.c (.d (.int .i64 1)))), (some (123, false))⟩, ⟨(some 127), (.pick (.t 123) (.c (.d (.bool true))) (.t 126)), none⟩, ⟨(some 128), (.mov (.t 127) true none), none⟩, ⟨(some 129), (.fieldA 3 (.t 9)), (some (128, false))⟩, ⟨(some 130), (.load false 1 (.t 129) false), (some (128, false))⟩, ⟨(some 131), (.fieldA 0 (.t 1)), (some (128, false))⟩, ⟨(some 132), (.load false 1 (.t 131) false), (some (128, false))⟩, ⟨(some 133), (.fieldA 0 (.t 8)), (some (128, false))⟩, ⟨(some 134), (.load false 1 (.t 133) false), (some (128, false))⟩, ⟨(some 135), (.call 26 [((.t 132), none), ((.t 134), none)] none), (some (128, false))⟩, ⟨(some 136), (.bin false .neq (.t 130) (.t 135)), (some (128, false))⟩, ⟨(some 137), (.pick (.t 128) (.c (.d (.bool true))) (.t 136)), none⟩] [0, 0, 0, 0, 3, 3, 0, 0, 0, 0, 3, 3, 3, 0, 0, 0, 0, 3, 3, 3, 0, 0, 0, 0, 3, 3, 3, 3, 3, 3, 3, 3, 0, 0, 0, 0, 0, 0, 0, 3, 3] []) (.cond (.t 137) (.seq (.ops [⟨(some 2), (.mov (.c (.d (.bool false))) true none), none⟩]) .ret) .skip))))) (.ops [⟨(some 138), (.bin false .add (.t 87) (.c (.d (.int .i64 1)))), none⟩, ⟨(some 87), (.mov (.t 138) true none), none⟩]))))))) (.seq (.ops [⟨(some 140), (.load true 6 (.t 5) false), none⟩, ⟨(some 141), (.call 18 [((.t 140), none)] none), none⟩, ⟨(some 139), (.mov (.t 141) true none), none⟩, ⟨(some 142), (.extract (.t 139) 0 false), none⟩, ⟨(some 143), (.extract (.t 139) 1 false), none⟩, ⟨(some 10), (.mov (.t 142) true (some 1)), none⟩, ⟨(some 11), (.mov (.t 143) true none), none⟩]) (.seq (.ops [⟨(some 144), (.mov (.t 11) false none), none⟩, ⟨(some 145), (.bin false .eql (.t 144) (.c (.d (.int .i64 0)))), none⟩, ⟨(some 146), (.mov (.t 145) true none), none⟩, ⟨(some 147), (.mov (.t 3) false (some 1)), (some (146, true))⟩, ⟨(some 148), (.toStr (.t 147)), (some (146, true))⟩, ⟨(some 149), (.mov (.t 10) false (some 1)), (some (146, true))⟩, ⟨(some 150), (.toStr (.t 149)), (some (146, true))⟩, ⟨(some 151), (.bin false .eql (.t 148) (.t 150)), (some (146, true))⟩, ⟨(some 152), (.pick (.t 146) (.t 151) (.c (.d (.bool false)))), none⟩, ⟨(some 153), (.mov (.t 152) true none), none⟩, ⟨(some 154), (.call 17 [] none), (some (153, true))⟩, ⟨(some 155), (.pick (.t 153) (.t 154) (.c (.d (.bool false)))), none⟩, ⟨(some 2), (.mov (.t 155) true none), none⟩]) .ret)))))))), [(.tm 2)], 1, 156⟩
theorem t6 : trF P HH 6 = some af6 := by kernel_rfl
def af9 : AF := ⟨(.seq (.ops [⟨(some 1), (.box 6 true (.t 0)), none⟩, ⟨(some 2), (.mov (.c (.d (.bool false))) true none), none⟩]) (.seq (.seq (.ops [⟨(some 12), (.load true 6 (.t 1) false), none⟩, ⟨(some 13), (.call 15 [((.t 12), none)] none), none⟩, ⟨(some 14), (.bin false .gtr (.t 13) (.c (.d (.int .i64 0)))), none⟩, ⟨(some 15), (.mov (.t 14) true none), none⟩, ⟨(some 16), (.load true 6 (.t 1) false), (some (15, false))⟩, ⟨(some 17), (.call 16 [((.t 16), none)] none), (some (15, false))⟩, ⟨(some 18), (.bin false .neq (.t 17) (.c (.d (.int .i64 0)))), (some (15, false))⟩, ⟨(some 19), (.pick (.t 15) (.c (.d (.bool true))) (.t 18)), none⟩]) (.cond (.t 19) (.seq (.ops [⟨(some 20), (.call 21 [] none), none⟩, ⟨(some 2), (.mov (.t 20) true none), none⟩]) .ret) .skip)) (.seq (.ops [⟨(some 22), (.load true 6 (.t 1) false), none⟩, ⟨(some 23), (.call 22 [((.t 22), none)] none), none⟩, ⟨(some 21), (.mov (.t 23) true none), none⟩, ⟨(some 24), (.extract (.t 21) 0 false), none⟩, ⟨(some 25), (.extract (.t 21) 1 false), none⟩, ⟨(some 3), (.mov (.t 24) true (some 1)), none⟩, ⟨(some 4), (.mov (.t 25) true none), none⟩]) (.seq (.ops [⟨(some 27), (.mov (.t 3) false (some 1)), none⟩, ⟨(some 28), (.fieldA 0 (.t 1)), none⟩, ⟨(some 29), (.load false 1 (.t 28) false), none⟩, ⟨(some 30), (.call 27 [((.t 27), (some 1)), ((.t 29), none)] none), none⟩, ⟨(some 26), (.mov (.t 30) true none), none⟩, ⟨(some 31), (.extract (.t 26) 0 false), none⟩, ⟨(some 32), (.extract (.t 26) 1 false), none⟩, ⟨(some 5), (.alloc [(.d (.str [])), (.d (.int .i64 0)), (.d (.int .i64 0)), (.d (.int .i64 0)), (.own 1 []), (.own 7 [])]), none⟩, ⟨none, (.store true 6 (.t 5) (.t 31) none), none⟩, ⟨(some 6), (.mov (.t 32) true none), none⟩]) (.seq (.seq (.ops [⟨(some 33), (.mov (.t 4) false none), none⟩, ⟨(some 34), (.bin false .neq (.t 33) (.c (.d (.int .i64 0)))), none⟩, ⟨(some 35), (.mov (.t 34) true none), none⟩, ⟨(some 36), (.mov (.t 6) false none), (some (35, false))⟩, ⟨(some 37), (.bin false .neq (.t 36) (.c (.d (.int .i64 0)))), (some (35, false))⟩, ⟨(some 38), (.pick (.t 35) (.c (.d (.bool true))) (.t 37)), none⟩, ⟨(some 39), (.mov (.t 38) true none), none⟩, ⟨(some 40), (.fieldA 0 (.t 5)), (some (39, false))⟩, ⟨(some 41), (.load false 1 (.t 40) false), (some (39, false))⟩, ⟨(some 42), (.fieldA 0 (.t 1)), (some (39, false))⟩, ⟨(some 43), (.load false 1 (.t 42) false), (some (39, false))⟩, ⟨(some 44), (.bin false .neq (.t 41) (.t 43)), (some (39, false))⟩, ⟨(some 45), (.pick (.t 39) (.c (.d (.bool true))) (.t 44)), none⟩, ⟨(some 46), (.mov (.t 45) true none), none⟩, ⟨(some 47), (.fieldA 1 (.t 5)), (some (46, false))⟩, ⟨(some 48), (.load false 1 (.t 47) false), (some (46, false))⟩, ⟨(some 49), (.fieldA 1 (.t 1)), (some (46, false))⟩, ⟨(some 50), (.load false 1 (.t 49) false), (some (46, false))⟩, ⟨(some 51), (.bin false .neq (.t 48) (.t 50)), (some (46, false))⟩, ⟨(some 52), (.pick (.t 46) (.c (.d (.bool true))) (.t 51)), none⟩, ⟨(some 53), (.mov (.t 52) true none), none⟩, ⟨(some 54), (.fieldA 2 (.t 5)), (some (53, false))⟩, ⟨(some 55), (.load false 1 (.t 54) false), (some (53, false))⟩, ⟨(some 56), (.fieldA 2 (.t 1)), (some (53, false))⟩, ⟨(some 57), (.load false 1 (.t 56) false), (some (53, false))⟩, ⟨(some 58), (.bin false .neq (.t 55) (.t 57)), (some (53, false))⟩, ⟨(some 59), (.pick (.t 53) (.c (.d (.bool true))) (.t 58)), none⟩, ⟨(some 60), (.mov (.t 59) true none), none⟩, ⟨(some 61), (.fieldA 5 (.t 5)), (some (60, false))⟩, ⟨(some 62), (.load false 1 (.t 61) false), (some (60, false))⟩, ⟨(some 63), (.len (.t 62)), (some (60, false))⟩, ⟨(some 64), (.fieldA 5 (.t 1)), (some (60, false))⟩, ⟨(some 65), (.load false 1 (.t 64) false), (some (60, false))⟩, ⟨(some 66), (.len (.t 65)), (some (60, false))⟩, ⟨(some 67), (.bin false .neq (.t 63) (.t 66)), (some (60, false))⟩, ⟨(some 68), (.pick (.t 60) (.c (.d (.bool true))) (.t 67)), none⟩, ⟨(some 69), (.mov (.t 68) true none), none⟩, ⟨(some 70), (.fieldA 4 (.t 5)), (some (69, false))⟩, ⟨(some 71), (.load false 1 (.t 70) false), (some (69, false))⟩, ⟨(some 72), (.len (.t 71)), (some (69, false))⟩, ⟨(some 73), (.fieldA 4 (.t 1)), (some (69, false))⟩, ⟨(some 74), (.load false 1 (.t 73) false), (some (69, false))⟩, ⟨(some 75), (.len (.t 74)), (some (69, false))⟩, ⟨(some 76), (.mm false (.t 75) (.c (.d (.int .i64 32)))), (some (69, false))⟩, ⟨(some 77), (.bin false .neq (.t 72) (.t 76)), (some (69, false))⟩, ⟨(some 78), (.pick (.t 69) (.c (.d (.bool true))) (.t 77)), none⟩, ⟨(some 79), (.mov (.t 78) true none), none⟩, ⟨(some 80), (.fieldA 3 (.t 5)), (some (79, false))⟩, ⟨(some 81), (.load false 1 (.t 80) false), (some (79, false))⟩, ⟨(some 82), (.fieldA 3 (.t 1)), (some (79, false))⟩, ⟨(some 83), (.load false 1 (.t 82) false), (some (79, false))⟩, ⟨(some 84), (.bin false .neq (.t 81) (.t 83)), (some (79, false))⟩, ⟨(some 85), (.pick (.t 79) (.c (.d (.bool true))) (.t 84)), none⟩]) (.cond (.t 85) (.seq (.ops [⟨(some 2), (.mov (.c (.d (.bool false))) true none), none⟩]) .ret) .skip)) (.seq (.seq (.ops [⟨(some 86), (.fieldA 5 (.t 1)), none⟩, ⟨(some 87), (.load false 1 (.t 86) false), none⟩, ⟨(some 88), (.len (.t 87)), none⟩, ⟨(some 89), (.mov (.c (.d (.int .i64 0))) false none), none⟩]) (.block 0 (.loop (.seq (.ops [⟨(some 90), (.bin false .lss (.t 89) (.t 88)), none⟩]) (.seq (.cond (.t 90) .skip (.exit 0)) (.seq (.block 1 (.seq (.ops [⟨(some 91), (.mov (.t 89) true none), none⟩, ⟨(some 92), (.idxA 7 (.t 87) (.t 89)), none⟩, ⟨(some 93), (.load true 7 (.t 92) false), none⟩, ⟨(some 8), (.alloc [(.d (.int .i64 0)), (.d (.int .i64 0)), (.d (.int .i64 0)), (.d (.str [])), (.d (.int .i64 0)), (.own 1 []), (.d (.str []))]), none⟩, ⟨(some 7), (.mov (.t 91) true none), none⟩, ⟨none, (.store true 7 (.t 8) (.t 93) none), none⟩]) (.seq (.ops [⟨(some 94), (.fieldA 5 (.t 5)), none⟩, ⟨(some 95), (.load false 1 (.t 94) false), none⟩, ⟨(some 96), (.mov (.t 7) false none), none⟩, ⟨(some 97), (.idxA 7 (.t 95) (.t 96)), none⟩, ⟨(some 98), (.load true 7 (.t 97) false), none⟩, ⟨(some 9), (.alloc [(.d (.int .i64 0)), (.d (.int .i64 0)), (.d (.int .i64 0)), (.d (.str [])), (.d (.int .i64 0)), (.own 1 []), (.d (.str []))]), none⟩, ⟨none, (.store true 7 (.t 9) (.t 98) none), none⟩]) (.seq (.draw [⟨(some 99), (.fieldA 0 (.t 9)), none⟩, ⟨(some 100), (.load false 1 (.t 99) false), none⟩, ⟨(some 101), (.fieldA 0 (.t 8)), none⟩, ⟨(some 102), (.load false 1 (.t 101) false), none⟩, ⟨(some 103), (.bin false .neq (.t 100) (.t 102)), none⟩, ⟨(some 104), (.mov (.t 103) true none), none⟩, ⟨(some 105), (.fieldA 2 (.t 9)), (some (104, false))⟩, ⟨(some 106), (.load false 1 (.t 105) false), (some (104, false))⟩, ⟨(some 107), (.fieldA 2 (.t 8)), (some (104, false))⟩, ⟨(some 108), (.load false 1 (.t 107) false), (some (104, false))⟩, ⟨(some 109), (.bin false .neq (.t 106) (.t 108)), (some (104, false))⟩, ⟨(some 110), (.pick (.t 104) (.c (.d (.bool true))) (.t 109)), none⟩, ⟨(some 111), (.mov (.t 110) true none), none⟩, ⟨(some 112), (.fieldA 4 (.t 9)), (some (111, false))⟩, ⟨(some 113), (.load false 1 (.t 112) false), (some (111, false))⟩, ⟨(some 114), (.fieldA 4 (.t 8)), (some (111, false))⟩, ⟨(some 115), (.load false 1 (.t 114) false), (some (111, false))⟩, ⟨(some 116), (.bin false .neq (.t 113) (.t 115)), (some (111, false))⟩, ⟨(some 117), (.pick (.t 111) (.c (.d (.bool true))) (.t 116)), none⟩, ⟨(some 118), (.mov (.t 117) true none), none⟩, ⟨(some 119), (.fieldA 6 (.t 9)), (some (118, false))⟩, ⟨(some 120), (.load false 1 (.t 119) false), (some (118, false))⟩, ⟨(some 121), (.fieldA 6 (.t 8)), (some (118, false))⟩, ⟨(some 122), (.load false 1 (.t 121) false), (some (118, false))⟩, ⟨(some 123), (.bin false .neq (.t 120) (.t 122)), (some (118, false))⟩, ⟨(some 124), (.pick (.t 118) (.c (.d (.bool true))) (.t 123)), none⟩, ⟨(some 125), (.mov (.t 124) true none), none⟩, ⟨(some 126), (.fieldA 1 (.t 9)), (some (125, false))⟩, ⟨(some 127), (.load false 1 (.t 126) false), (some (125, false))⟩, ⟨(some 128), (.fieldA 1 (.t 8)), (some (125, false))⟩, ⟨(some 129), (.load false 1 (.t 128) false), (some (125, false))⟩, ⟨(some 130), (.bin false .neq (.t 127) (.t 129)), (some (125, false))⟩, ⟨(some 131), (.pick (.t 125) (.c (.d (.bool true))) (.t 130)), none⟩, ⟨(some 132), (.mov (.t 131) true none), none⟩, ⟨(some 133), (.fieldA 3 (.t 9)), (some (132, false))⟩, ⟨(some 134), (.load false 1 (.t 133) false), (some (132, false))⟩, ⟨(some 135), (.fieldA 0 (.t 1)), (some (132, false))⟩, ⟨(some 136), (.load false 1 (.t 135) false), (some (132, false))⟩, ⟨(some 137), (.fieldA 0 (.t 8)), (some (132, false))⟩, ⟨(some 138), (.load false 1 (.t 137) false), (some (132, false))⟩, ⟨(some 139), (.call 26 [((.t 136), none), ((.t 138), none)] none), (some (132, false))⟩, ⟨(some 140), (.bin false .neq (.t 134) (.t 139)), (some (132, false))⟩, ⟨(some 141), (.pick (.t 132) (.c (.d (.bool true))) (.t 140)), none⟩] [0, 0, 0, 0, 3, 3, 0, 0, 0, 0, 3, 3, 3, 0, 0, 0, 0, 3, 3, 3, 0, 0, 0, 0, 3, 3, 3, 0, 0, 0, 0, 3, 3, 3, 0, 0, 0, 0, 0, 0, 0, 3, 3] []) (.cond (.t 141) (.seq (.ops [⟨(some 2), (.mov (.c (.d (.bool false))) true none), none⟩]) .ret) .skip))))) (.ops [⟨(some 142), (.bin false .add (.t 89) (.c (.d (.int .i64 1)))), none⟩, ⟨(some 89), (.mov (.t 142) true none), none⟩]))))))) (.seq (.ops [⟨(some 144), (.load true 6 (.t 5) false), none⟩, ⟨(some 145), (.call 22 [((.t 144), none)] none), none⟩, ⟨(some 143), (.mov (.t 145) true none), none⟩, ⟨(some 146), (.extract (.t 143) 0 false), none⟩, ⟨(some 147), (.extract (.t 143) 1 false), none⟩, ⟨(some 10), (.mov (.t 146) true (some 1)), none⟩, ⟨(some 11), (.mov (.t 147) true none), none⟩]) (.seq (.ops [⟨(some 148), (.mov (.t 11) false none), none⟩, ⟨(some 149), (.bin false .eql (.t 148) (.c (.d (.int .i64 0)))), none⟩, ⟨(some 150), (.mov (.t 149) true none), none⟩, ⟨(some 151), (.mov (.t 3) false (some 1)), (some (150, true))⟩, ⟨(some 152), (.toStr (.t 151)), (some (150, true))⟩, ⟨(some 153), (.mov (.t 10) false (some 1)), (some (150, true))⟩, ⟨(some 154), (.toStr (.t 153)), (some (150, true))⟩, ⟨(some 155), (.bin false .eql (.t 152) (.t 154)), (some (150, true))⟩, ⟨(some 156), (.pick (.t 150) (.t 155) (.c (.d (.bool false)))), none⟩, ⟨(some 157), (.mov (.t 156) true none), none⟩, ⟨(some 158), (.call 21 [] none), (some (157, true))⟩, ⟨(some 159), (.pick (.t 157) (.t 158) (.c (.d (.bool false)))), none⟩, ⟨(some 2), (.mov (.t 159) true none), none⟩]) .ret)))))))), [(.tm 2)], 1, 160⟩
theorem t9 : trF P HH 9 = some af9 := by kernel_rfl
theorem vc6 (s0 : Bytes) (n1 : Int) (n2 : Int) (n3 : Int) (l4 : List D) (l5 : List D) (res : CV) (objs' : List (Nat × List CV)) : walkA P (tbF P [102,103,50,48,53,56,105,58,107] [] 6) (anOf af6 []) af6 [CV.d (D.agg [D.str s0, D.int .i64 n1, D.int .i64 n2, D.int .i64 n3, D.slice 1 l4, D.slice 7 l5])] [] (fun rs => endE rs res objs') = ((∃ n6 : Int, ((Runs P 15 [CV.d (D.agg [D.str s0, D.int .i64 n1, D.int .i64 n2, D.int .i64 n3, D.slice 1 l4, D.slice 7 l5])] [] (CV.d (D.int .i64 n6)) []) ∧ (∃ n7 : Int, (((!decide (n6 > 0)) = true → Runs P 16 [CV.d (D.agg [D.str s0, D.int .i64 n1, D.int .i64 n2, D.int .i64 n3, D.slice 1 l4, D.slice 7 l5])] [] (CV.d (D.int .i64 n7)) []) ∧ (∀ b8 : Bool, ((decide (n6 > 0) || n7 != 0) = b8 → (((b8) = true → (∃ b9 : Bool, ((Runs P 17 [] [] (CV.d (D.bool b9)) []) ∧ EndR (CV.d (D.bool b9)) res [(1, [CV.d (D.str s0), CV.d (D.int .i64 n1), CV.d (D.int .i64 n2), CV.d (D.int .i64 n3), CV.d (D.slice 1 l4), CV.d (D.slice 7 l5)])] objs'))) ∧ ((b8) = false → (∃ l10 : List D, (∃ n11 : Int, ((Runs P 18 [CV.d (D.agg [D.str s0, D.int .i64 n1, D.int .i64 n2, D.int .i64 n3, D.slice 1 l4, D.slice 7 l5])] [] (CV.tup [CV.d (D.slice 1 l10), CV.d (D.int .i64 n11)]) []) ∧ (∃ s12 : Bytes, (∃ n13 : Int, (∃ n14 : Int, (∃ n15 : Int, (∃ l16 : List D, (∃ l17 : List D, (∃ n18 : Int, ((Runs P 24 [CV.d (D.slice 1 l10), CV.d (D.str s0)] [] (CV.tup [CV.d (D.agg [D.str s12, D.int .i64 n13, D.int .i64 n14, D.int .i64 n15, D.slice 1 l16, D.slice 7 l17]), CV.d (D.int .i64 n18)]) []) ∧ (∀ b19 : Bool, ((n11 != 0 || n18 != 0) = b19 → (∀ b20 : Bool, ((b19 || !s12 == s0) = b20 → (∀ b21 : Bool, ((b20 || n13 != n1) = b21 → (∀ b22 : Bool, ((b21 || n14 != n2) = b22 → (∀ b23 : Bool, ((b22 || nI (List.length l17) != nI (List.length l5)) = b23 → (∀ n24 : Int, (mmI false (nI (List.length l4)) 32 = n24 → (∀ b25 : Bool, ((b23 || nI (List.length l16) != n24) = b25 → (∀ b26 : Bool, ((b25 || n15 != 1) = b26 → (((b26) = true → EndR (CV.d (D.bool false)) res [(1, [CV.d (D.str s0), CV.d (D.int .i64 n1), CV.d (D.int .i64 n2), CV.d (D.int .i64 n3), CV.d (D.slice 1 l4), CV.d (D.slice 7 l5)]), (5, [CV.d (D.str s12), CV.d (D.int .i64 n13), CV.d (D.int .i64 n14), CV.d (D.int .i64 n15), CV.d (D.slice 1 l16), CV.d (D.slice 7 l17)])] objs') ∧ ((b26) = false → (∃ I27 : (Int → (Nat → Prop)), ((∃ k28 : Nat, I27 0 k28) ∧ (∀ n29 : Int, (∀ k30 : Nat, (I27 n29 k30 → (((decide (n29 < nI (List.length l5))) = true → ((0 ≤ n29 ∧ n29 < nI (List.length l5)) ∧ (∃ n31 : Int, (∃ n32 : Int, (∃ n33 : Int, (∃ s34 : Bytes, (∃ n35 : Int, (∃ l36 : List D, (∃ s37 : Bytes, ((D.cells (List.getD l5 (Int.toNat n29) D.nilp) = [D.int .i64 n31, D.int .i64 n32, D.int .i64 n33, D.str s34, D.int .i64 n35, D.slice 1 l36, D.str s37]) ∧ ((0 ≤ n29 ∧ n29 < nI (List.length l17)) ∧ (∃ n38 : Int, (∃ n39 : Int, (∃ n40 : Int, (∃ s41 : Bytes, (∃ n42 : Int, (∃ l43 : List D, (∃ s44 : Bytes, ((D.cells (List.getD l17 (Int.toNat n29) D.nilp) = [D.int .i64 n38, D.int .i64 n39, D.int .i64 n40, D.str s41, D.int .i64 n42, D.slice 1 l43, D.str s44]) ∧ (∀ b45 : Bool, ((n38 != n31 || n40 != n33) = b45 → (∀ b46 : Bool, ((b45 || n42 != n35) = b46 → (∀ b47 : Bool, ((b46 || !s44 == s37) = b47 → (∀ b48 : Bool, ((b47 || n39 != 1) = b48 → (∃ s49 : Bytes, (((!b48) = true → Runs P 26 [CV.d (D.str s0), CV.d (D.int .i64 n31)] [] (CV.d (D.str s49)) []) ∧ (∀ b50 : Bool, ((b48 || !s41 == s49) = b50 → (((b50) = true → EndR (CV.d (D.bool false)) res [(1, [CV.d (D.str s0), CV.d (D.int .i64 n1), CV.d (D.int .i64 n2), CV.d (D.int .i64 n3), CV.d (D.slice 1 l4), CV.d (D.slice 7 l5)]), (5, [CV.d (D.str s12), CV.d (D.int .i64 n13), CV.d (D.int .i64 n14), CV.d (D.int .i64 n15), CV.d (D.slice 1 l16), CV.d (D.slice 7 l17)]), (8, [CV.d (D.int .i64 n31), CV.d (D.int .i64 n32), CV.d (D.int .i64 n33), CV.d (D.str s34), CV.d (D.int .i64 n35), CV.d (D.slice 1 l36), CV.d (D.str s37)]), (9, [CV.d (D.int .i64 n38), CV.d (D.int .i64 n39), CV.d (D.int .i64 n40), CV.d (D.str s41), CV.d (D.int .i64 n42), CV.d (D.slice 1 l43), CV.d (D.str s44)])] objs') ∧ ((b50) = false → (∀ n51 : Int, (Go.IntKind.wrap Go.IntKind.i64 (n29 + 1) = n51 → (∃ k52 : Nat, ((k52 < k30) ∧ I27 n51 k52))))))))))))))))))))))))))))))))))))) ∧ ((decide (n29 < nI (List.length l5))) = false → (∃ l53 : List D, (∃ n54 : Int, ((Runs P 18 [CV.d (D.agg [D.str s12, D.int .i64 n13, D.int .i64 n14, D.int .i64 n15, D.slice 1 l16, D.slice 7 l17])] [] (CV.tup [CV.d (D.slice 1 l53), CV.d (D.int .i64 n54)]) []) ∧ (∃ s55 : Bytes, (((n54 == 0) = true → l10 = List.map byteD s55) ∧ (∃ s56 : Bytes, (((n54 == 0) = true → l53 = List.map byteD s56) ∧ (∀ b57 : Bool, ((n54 == 0 && s55 == s56) = b57 → (∃ b58 : Bool, ((b57 = true → Runs P 17 [] [] (CV.d (D.bool b58)) []) ∧ (∀ b59 : Bool, ((b57 && b58) = b59 → EndR (CV.d (D.bool b59)) res [(1, [CV.d (D.str s0), CV.d (D.int .i64 n1), CV.d (D.int .i64 n2), CV.d (D.int .i64 n3), CV.d (D.slice 1 l4), CV.d (D.slice 7 l5)]), (5, [CV.d (D.str s12), CV.d (D.int .i64 n13), CV.d (D.int .i64 n14), CV.d (D.int .i64 n15), CV.d (D.slice 1 l16), CV.d (D.slice 7 l17)])] objs')))))))))))))))))))))))))))))))))))))))))))))))))))))))))) := by kernel_rfl
theorem vc9 (s0 : Bytes) (n1 : Int) (n2 : Int) (n3 : Int) (l4 : List D) (l5 : List D) (res : CV) (objs' : List (Nat × List CV)) : walkA P (tbF P [102,103,50,48,53,56,105,58,107] [] 9) (anOf af9 []) af9 [CV.d (D.agg [D.str s0, D.int .i64 n1, D.int .i64 n2, D.int .i64 n3, D.slice 1 l4, D.slice 7 l5])] [] (fun rs => endE rs res objs') = ((∃ n6 : Int, ((Runs P 15 [CV.d (D.agg [D.str s0, D.int .i64 n1, D.int .i64 n2, D.int .i64 n3, D.slice 1 l4, D.slice 7 l5])] [] (CV.d (D.int .i64 n6)) []) ∧ (∃ n7 : Int, (((!decide (n6 > 0)) = true → Runs P 16 [CV.d (D.agg [D.str s0, D.int .i64 n1, D.int .i64 n2, D.int .i64 n3, D.slice 1 l4, D.slice 7 l5])] [] (CV.d (D.int .i64 n7)) []) ∧ (∀ b8 : Bool, ((decide (n6 > 0) || n7 != 0) = b8 → (((b8) = true → (∃ b9 : Bool, ((Runs P 21 [] [] (CV.d (D.bool b9)) []) ∧ EndR (CV.d (D.bool b9)) res [(1, [CV.d (D.str s0), CV.d (D.int .i64 n1), CV.d (D.int .i64 n2), CV.d (D.int .i64 n3), CV.d (D.slice 1 l4), CV.d (D.slice 7 l5)])] objs'))) ∧ ((b8) = false → (∃ l10 : List D, (∃ n11 : Int, ((Runs P 22 [CV.d (D.agg [D.str s0, D.int .i64 n1, D.int .i64 n2, D.int .i64 n3, D.slice 1 l4, D.slice 7 l5])] [] (CV.tup [CV.d (D.slice 1 l10), CV.d (D.int .i64 n11)]) []) ∧ (∃ s12 : Bytes, (∃ n13 : Int, (∃ n14 : Int, (∃ n15 : Int, (∃ l16 : List D, (∃ l17 : List D, (∃ n18 : Int, ((Runs P 27 [CV.d (D.slice 1 l10), CV.d (D.str s0)] [] (CV.tup [CV.d (D.agg [D.str s12, D.int .i64 n13, D.int .i64 n14, D.int .i64 n15, D.slice 1 l16, D.slice 7 l17]), CV.d (D.int .i64 n18)]) []) ∧ (∀ b19 : Bool, ((n11 != 0 || n18 != 0) = b19 → (∀ b20 : Bool, ((b19 || !s12 == s0) = b20 → (∀ b21 : Bool, ((b20 || n13 != n1) = b21 → (∀ b22 : Bool, ((b21 || n14 != n2) = b22 → (∀ b23 : Bool, ((b22 || nI (List.length l17) != nI (List.length l5)) = b23 → (∀ n24 : Int, (mmI false (nI (List.length l4)) 32 = n24 → (∀ b25 : Bool, ((b23 || nI (List.length l16) != n24) = b25 → (∀ b26 : Bool, ((b25 || n15 != n3) = b26 → (((b26) = true → EndR (CV.d (D.bool false)) res [(1, [CV.d (D.str s0), CV.d (D.int .i64 n1), CV.d (D.int .i64 n2), CV.d (D.int .i64 n3), CV.d (D.slice 1 l4), CV.d (D.slice 7 l5)]), (5, [CV.d (D.str s12), CV.d (D.int .i64 n13), CV.d (D.int .i64 n14), CV.d (D.int .i64 n15), CV.d (D.slice 1 l16), CV.d (D.slice 7 l17)])] objs') ∧ ((b26) = false → (∃ I27 : (Int → (Nat → Prop)), ((∃ k28 : Nat, I27 0 k28) ∧ (∀ n29 : Int, (∀ k30 : Nat, (I27 n29 k30 → (((decide (n29 < nI (List.length l5))) = true → ((0 ≤ n29 ∧ n29 < nI (List.length l5)) ∧ (∃ n31 : Int, (∃ n32 : Int, (∃ n33 : Int, (∃ s34 : Bytes, (∃ n35 : Int, (∃ l36 : List D, (∃ s37 : Bytes, ((D.cells (List.getD l5 (Int.toNat n29) D.nilp) = [D.int .i64 n31, D.int .i64 n32, D.int .i64 n33, D.str s34, D.int .i64 n35, D.slice 1 l36, D.str s37]) ∧ ((0 ≤ n29 ∧ n29 < nI (List.length l17)) ∧ (∃ n38 : Int, (∃ n39 : Int, (∃ n40 : Int, (∃ s41 : Bytes, (∃ n42 : Int, (∃ l43 : List D, (∃ s44 : Bytes, ((D.cells (List.getD l17 (Int.toNat n29) D.nilp) = [D.int .i64 n38, D.int .i64 n39, D.int .i64 n40, D.str s41, D.int .i64 n42, D.slice 1 l43, D.str s44]) ∧ (∀ b45 : Bool, ((n38 != n31 || n40 != n33) = b45 → (∀ b46 : Bool, ((b45 || n42 != n35) = b46 → (∀ b47 : Bool, ((b46 || !s44 == s37) = b47 → (∀ b48 : Bool, ((b47 || n39 != n32) = b48 → (∃ s49 : Bytes, (((!b48) = true → Runs P 26 [CV.d (D.str s0), CV.d (D.int .i64 n31)] [] (CV.d (D.str s49)) []) ∧ (∀ b50 : Bool, ((b48 || !s41 == s49) = b50 → (((b50) = true → EndR (CV.d (D.bool false)) res [(1, [CV.d (D.str s0), CV.d (D.int .i64 n1), CV.d (D.int .i64 n2), CV.d (D.int .i64 n3), CV.d (D.slice 1 l4), CV.d (D.slice 7 l5)]), (5, [CV.d (D.str s12), CV.d (D.int .i64 n13), CV.d (D.int .i64 n14), CV.d (D.int .i64 n15), CV.d (D.slice 1 l16), CV.d (D.slice 7 l17)]), (8, [CV.d (D.int .i64 n31), CV.d (D.int .i64 n32), CV.d (D.int .i64 n33), CV.d (D.str s34), CV.d (D.int .i64 n35), CV.d (D.slice 1 l36), CV.d (D.str s37)]), (9, [CV.d (D.int .i64 n38), CV.d (D.int .i64 n39), CV.d (D.int .i64 n40), CV.d (D.str s41), CV.d (D.int .i64 n42), CV.d (D.slice 1 l43), CV.d (D.str s44)])] objs') ∧ ((b50) = false → (∀ n51 : Int, (Go.IntKind.wrap Go.IntKind.i64 (n29 + 1) = n51 → (∃ k52 : Nat, ((k52 < k30) ∧ I27 n51 k52))))))))))))))))))))))))))))))))))))) ∧ ((decide (n29 < nI (List.length l5))) = false → (∃ l53 : List D, (∃ n54 : Int, ((Runs P 22 [CV.d (D.agg [D.str s12, D.int .i64 n13, D.int .i64 n14, D.int .i64 n15, D.slice 1 l16, D.slice 7 l17])] [] (CV.tup [CV.d (D.slice 1 l53), CV.d (D.int .i64 n54)]) []) ∧ (∃ s55 : Bytes, (((n54 == 0) = true → l10 = List.map byteD s55) ∧ (∃ s56 : Bytes, (((n54 == 0) = true → l53 = List.map byteD s56) ∧ (∀ b57 : Bool, ((n54 == 0 && s55 == s56) = b57 → (∃ b58 : Bool, ((b57 = true → Runs P 21 [] [] (CV.d (D.bool b58)) []) ∧ (∀ b59 : Bool, ((b57 && b58) = b59 → EndR (CV.d (D.bool b59)) res [(1, [CV.d (D.str s0), CV.d (D.int .i64 n1), CV.d (D.int .i64 n2), CV.d (D.int .i64 n3), CV.d (D.slice 1 l4), CV.d (D.slice 7 l5)]), (5, [CV.d (D.str s12), CV.d (D.int .i64 n13), CV.d (D.int .i64 n14), CV.d (D.int .i64 n15), CV.d (D.slice 1 l16), CV.d (D.slice 7 l17)])] objs')))))))))))))))))))))))))))))))))))))))))))))))))))))))))) := by kernel_rfl
end B
end Go.Proofs.YtmkkljbfmdngfaaDoor
namespace Go.Proofs.YtmkkljbfmdngfaaDoor
namespace B
open Go.RowKit

structure BoxIn (b : Box) : Prop where
  ok : BoxOk b
  sz : szBox b ≤ 1099511627776
theorem formB_len {b : Box} (h : BoxMay b) (form : Nat) : (formB form b).length ≤ 30000 := by
  have h1 := headF_len form b
  have h2 := wordsF_len h (b.words.take (kept b)).length
  have h3 := msgsF_len h form b.msgs.length
  rw [List.take_length] at h2 h3
  have h2 : (wordsF b).length ≤ 2000 := h2
  unfold formB
  simp only [List.length_append, fix_len]
  omega
theorem resB_ok {b : Box} (h : mayBox b = 0) (form : Nat) : resB form b = .tup [.d (.slice 1 (bs (formB form b))), .d (.int .i64 0)] := by unfold resB; rw [if_pos h, if_pos h]

theorem r6 (b : Box) (hb : BoxIn b) : Runs P 6 [.d b.d] [] (.d (.bool true)) [] := by
  refine runs_walkA t6 rfl (vc6 _ _ _ _ _ _ _ _) (by simp) ?_
  refine ⟨_, r15 b hb.sz, _, fun _ => r16 b hb.ok, ?_⟩
  rintro b8 h8
  refine ⟨fun h => ⟨true, r17, endB rfl⟩, fun h => ?_⟩
  rw [h] at h8
  have hm : mayBox b = 0 := by
    simp only [Bool.or_eq_false_iff, bne_eq_false_iff_eq] at h8; exact h8.2
  have hM := boxMay.1 hm
  have w18 := r18 b hb.ok
  rw [resB_ok hm 1] at w18
  have hl := formB_len hM 1
  have hid := hM.id.2
  have w24 := r24 (formB 1 b) b.id (by omega) (by omega)
  rw [parse_form1 hM] at w24
  have hwl : (projB 1 b).words.length = min b.words.length 32 := by
    show (b.words.take (kept b)).length = _
    rw [List.length_take]; unfold kept; omega
  have hml : (projB 1 b).msgs.length = b.msgs.length := by show (b.msgs.map _).length = _; rw [List.length_map]
  refine ⟨_, _, w18, _, _, _, _, _, _, _, w24, ?_⟩
  rintro _ rfl _ rfl _ rfl _ rfl _ rfl _ rfl _ rfl b26 h26
  have e26 : b26 = false := by
    rw [← h26, mmI_f]
    simp only [nI, strs_len, List.length_map, hwl, hml]
    have e1 : (projB 1 b).id = b.id := rfl
    have e2 : (projB 1 b).valid = b.valid := rfl
    have e3 : (projB 1 b).next = b.next := rfl
    have e4 : (projB 1 b).high = 1 := rfl
    rw [e1, e2, e3, e4]
    simp
    omega
  subst e26
  refine ⟨fun h => (by cases h), fun _ => ?_⟩
  refine ⟨fun n k => LI b.msgs.length (fun _ => True) n k, ⟨_, LI.start trivial⟩, ?_⟩
  rintro _ _ ⟨i, rfl, hi, rfl, _⟩
  refine ⟨fun hlt => ?_, fun hge => ?_⟩
  · have hlt : i < b.msgs.length := by have := of_decide_eq_true hlt; simp only [nI, List.length_map] at this; omega
    have hi2 : i < (projB 1 b).msgs.length := by rw [hml]; exact hlt
    have eM : (projB 1 b).msgs[i] = projM 1 b.id b.msgs[i] := by show (b.msgs.map (projM 1 b.id))[i]'(by rw [List.length_map]; exact hlt) = _; rw [List.getElem_map]
    have mM := (msgs_all hM.msgs _ (List.getElem_mem hlt)).1
    have hu := mM.uid.2
    refine ⟨⟨by omega, by simp only [nI, List.length_map]; omega⟩, _, _, _, _, _, _, _, by rw [msgs_get _ hlt]; rfl, ⟨by omega, by simp only [nI, List.length_map]; omega⟩, _, _, _, _, _, _, _, by rw [msgs_get _ hi2, eM]; rfl, ?_⟩
    rintro _ rfl _ rfl _ rfl _ rfl
    refine ⟨_, fun _ => r26 b.id b.msgs[i].uid (by omega) (by omega), ?_⟩
    rintro b50 h50
    have e50 : b50 = false := by rw [← h50]; simp [projM]
    subst e50
    refine ⟨fun h => (by cases h), fun _ => ?_⟩
    intro m hm
    obtain ⟨g1, g2, g3⟩ := LI.nx (by have := hM.nm; omega) hlt hm
    exact ⟨_, g1, i + 1, g2, g3, rfl, trivial⟩
  · have hP := projB_may 1 hM
    have hP0 := boxMay.2 hP
    have hPo : BoxOk (projB 1 b) := by
      refine ⟨by show b.id.length ≤ _; omega, by have := hP.nw; omega, by have := hP.nm; omega, fun w hw => ?_, fun m hm => ?_⟩
      · have := atom_len (words_all hP.words w hw); omega
      · have q := (msgs_all hP.msgs m hm).1
        have q1 := atom_len q.id
        have q2 := q.keyLen
        have q3 := hP.nw
        exact ⟨by omega, by omega⟩
    have w18' := r18 (projB 1 b) hPo
    rw [resB_ok hP0 1, projB_form 1 hM] at w18'
    refine ⟨_, _, w18', _, fun _ => rfl, _, fun _ => rfl, ?_⟩
    rintro _ rfl
    refine ⟨_, fun _ => r17, ?_⟩
    rintro _ rfl
    exact endB (by simp)

theorem r9 (b : Box) (hb : BoxIn b) : Runs P 9 [.d b.d] [] (.d (.bool true)) [] := by
  refine runs_walkA t9 rfl (vc9 _ _ _ _ _ _ _ _) (by simp) ?_
  refine ⟨_, r15 b hb.sz, _, fun _ => r16 b hb.ok, ?_⟩
  rintro b8 h8
  refine ⟨fun h => ⟨true, r21, endB rfl⟩, fun h => ?_⟩
  rw [h] at h8
  have hm : mayBox b = 0 := by
    simp only [Bool.or_eq_false_iff, bne_eq_false_iff_eq] at h8; exact h8.2
  have hM := boxMay.1 hm
  have w18 := r22 b hb.ok
  rw [resB_ok hm 2] at w18
  have hl := formB_len hM 2
  have hid := hM.id.2
  have w24 := r27 (formB 2 b) b.id (by omega) (by omega)
  rw [parse_form2 hM] at w24
  have hwl : (projB 2 b).words.length = min b.words.length 32 := by
    show (b.words.take (kept b)).length = _
    rw [List.length_take]; unfold kept; omega
  have hml : (projB 2 b).msgs.length = b.msgs.length := by show (b.msgs.map _).length = _; rw [List.length_map]
  refine ⟨_, _, w18, _, _, _, _, _, _, _, w24, ?_⟩
  rintro _ rfl _ rfl _ rfl _ rfl _ rfl _ rfl _ rfl b26 h26
  have e26 : b26 = false := by
    rw [← h26, mmI_f]
    simp only [nI, strs_len, List.length_map, hwl, hml]
    have e1 : (projB 2 b).id = b.id := rfl
    have e2 : (projB 2 b).valid = b.valid := rfl
    have e3 : (projB 2 b).next = b.next := rfl
    have e4 : (projB 2 b).high = b.high := rfl
    rw [e1, e2, e3, e4]
    simp
    omega
  subst e26
  refine ⟨fun h => (by cases h), fun _ => ?_⟩
  refine ⟨fun n k => LI b.msgs.length (fun _ => True) n k, ⟨_, LI.start trivial⟩, ?_⟩
  rintro _ _ ⟨i, rfl, hi, rfl, _⟩
  refine ⟨fun hlt => ?_, fun hge => ?_⟩
  · have hlt : i < b.msgs.length := by have := of_decide_eq_true hlt; simp only [nI, List.length_map] at this; omega
    have hi2 : i < (projB 2 b).msgs.length := by rw [hml]; exact hlt
    have eM : (projB 2 b).msgs[i] = projM 2 b.id b.msgs[i] := by show (b.msgs.map (projM 2 b.id))[i]'(by rw [List.length_map]; exact hlt) = _; rw [List.getElem_map]
    have mM := (msgs_all hM.msgs _ (List.getElem_mem hlt)).1
    have hu := mM.uid.2
    refine ⟨⟨by omega, by simp only [nI, List.length_map]; omega⟩, _, _, _, _, _, _, _, by rw [msgs_get _ hlt]; rfl, ⟨by omega, by simp only [nI, List.length_map]; omega⟩, _, _, _, _, _, _, _, by rw [msgs_get _ hi2, eM]; rfl, ?_⟩
    rintro _ rfl _ rfl _ rfl _ rfl
    refine ⟨_, fun _ => r26 b.id b.msgs[i].uid (by omega) (by omega), ?_⟩
    rintro b50 h50
    have e50 : b50 = false := by rw [← h50]; simp [projM]
    subst e50
    refine ⟨fun h => (by cases h), fun _ => ?_⟩
    intro m hm
    obtain ⟨g1, g2, g3⟩ := LI.nx (by have := hM.nm; omega) hlt hm
    exact ⟨_, g1, i + 1, g2, g3, rfl, trivial⟩
  · have hP := projB_may 2 hM
    have hP0 := boxMay.2 hP
    have hPo : BoxOk (projB 2 b) := by
      refine ⟨by show b.id.length ≤ _; omega, by have := hP.nw; omega, by have := hP.nm; omega, fun w hw => ?_, fun m hm => ?_⟩
      · have := atom_len (words_all hP.words w hw); omega
      · have q := (msgs_all hP.msgs m hm).1
        have q1 := atom_len q.id
        have q2 := q.keyLen
        have q3 := hP.nw
        exact ⟨by omega, by omega⟩
    have w18' := r22 (projB 2 b) hPo
    rw [resB_ok hP0 2, projB_form 2 hM] at w18'
    refine ⟨_, _, w18', _, fun _ => rfl, _, fun _ => rfl, ?_⟩
    rintro _ rfl
    refine ⟨_, fun _ => r21, ?_⟩
    rintro _ rfl
    exact endB (by simp)
end B
end Go.Proofs.YtmkkljbfmdngfaaDoor
namespace Go.Proofs.YtmkkljbfmdngfaaDoor
open Go.ChangeShapes Go.WideShapes Go.ChangeAt Go.RowKit

theorem own : ownKnob Tryd.prog.godebug = none := by kernel_rfl
theorem laidOut : laidOutB Tryd.prog = true := by kernel_rfl
theorem rowed : mapsRowed Tryd.prog = true := by kernel_rfl
theorem full : ((List.range Tryd.prog.types.size).all fun t => match Tryd.prog.underlying t with | some (.slice e) => decide (0 < Tryd.prog.cellsOf e) | _ => true) = true := by kernel_rfl
abbrev lays : List (String × DataW Unit) := [("math/bits.deBruijn32tab", Rows.laid_math_bits_deBruijn32tab), ("math/bits.deBruijn64tab", Rows.laid_math_bits_deBruijn64tab), ("internal/strconv.uint64pow10", Rows.laid_internal_strconv_uint64pow10)]
theorem laidMet_tail {P : Program} {x : String × DataW Unit} {r : List (String × DataW Unit)} {W : World} (h : laidMet P (x :: r) W) : laidMet P r W := by
  obtain ⟨ps, ⟨g', t', cs, fuel, p, q, hg', ht', hvar, hd, hq, rfl⟩, hn, hm⟩ := h
  exact ⟨q, hq, (List.nodup_append.1 hn).2.1, fun b off hb => hm b off (List.mem_append_right _ hb)⟩
theorem gTab : Tryd.prog.globalNamed "internal/strconv.uint64pow10" = some 0 := by kernel_rfl
theorem gTabType : (Tryd.prog.globals[0]?).map (·.type) = some 168 := by kernel_rfl
theorem under168 : Tryd.prog.underlying 168 = some (.array 20 45) := by kernel_rfl
theorem under45 : Tryd.prog.underlying 45 = some (.int .u64) := by kernel_rfl
theorem cells45 : Tryd.prog.cellsOf 45 = 1 := by kernel_rfl
theorem cells168 : Tryd.prog.cellsOf 168 = 20 := by kernel_rfl
theorem begin1 : ((begin Tryd.prog (fun _ _ => 0) default).world.heap[1]?).bind Obj.row? = some (#[.int .i64 0], 3) := by kernel_rfl
theorem gz (W : World) (hL : laidMetH Tryd.prog lays W) (hS : W.ShapedOpen Tryd.prog) : B.GzOk (fun _ => .plain) W := by
  have h1 : laidMet Tryd.prog lays W := hL
  obtain ⟨m, hm⟩ : ∃ m, W.cell? ⟨1, 0, none⟩ = some (.int .i64 m) := Go.Proofs.cell_of_shapedOpen_int (zero := #[.int .i64 0]) (t := 3) hS (of_decide_eq_true (by kernel_rfl)) (by kernel_rfl) rfl (by kernel_rfl) (by kernel_rfl) Tryd.underlying3
  obtain ⟨cs, hh, hsz, _⟩ := hS.1 1 #[.int .i64 0] 3 (of_decide_eq_true (by kernel_rfl)) begin1
  have hcs : cs = #[.int .i64 m] := by
    have hsz : cs.size = 1 := hsz
    simp only [World.cell?, hh] at hm
    refine Array.ext (by simp [hsz]) fun i h1 h2 => ?_
    simp at h2; subst h2
    have := Array.getElem?_eq_getElem h1
    simp at hm
    rw [hm] at this; simpa using this.symm
  refine ⟨m, fun g row hg => ?_⟩
  unfold B.GzRow at hg
  split at hg
  · rename_i e; subst e
    injection hg with hg; subst hg
    exact ⟨rfl, _, _, by rw [hh, hcs]⟩
  · split at hg
    · rename_i e; subst e
      injection hg with hg; subst hg
      refine ⟨rfl, ?_⟩
      have h2 := laidMet_tail (laidMet_tail h1)
      have h3 := Lib.tabIs_of_head (k := .u64) (zs := Lib.pow10Tab) gTab gTabType under168 under45 cells45 cells168 h2
      unfold Lib.TabIs World.var? at h3
      rw [gTab] at h3
      simp only [Option.bind_some] at h3
      split at h3
      · rename_i cs' t' fz' e
        injection h3 with h3
        exact ⟨_, _, by rw [e, h3]⟩
      · cases h3
    · cases hg
def cellsD {H : Type} : Nat → DataW H → List Value
  | _, .lit (.int k n) => [.int k n]
  | n + 1, .agg l => l.flatMap (cellsD n)
  | _, _ => []
noncomputable def layAt (g : Nat) (l : List Value) (w : World) : World :=
  { w with heap := w.heap.modify g fun
      | .cells _ t frozen => .cells l.toArray t frozen
      | o => o }
noncomputable def laidWorld (os : Os) : World :=
  layAt 2 (cellsD 3 (Rows.laid_math_bits_deBruijn32tab (H := Unit))) <| layAt 3 (cellsD 3 (Rows.laid_math_bits_deBruijn64tab (H := Unit))) <| layAt 0 (cellsD 3 (Rows.laid_internal_strconv_uint64pow10 (H := Unit))) <| World.holding Tryd.prog os ⟨#[], #[], []⟩

namespace B
/-! ### the bound -/
mutual
theorem bulkW_eq {H : Type} : ∀ d : DataW H, bulkW d = Rows.uptoBulk d
  | .lit l => by cases l <;> simp [bulkW, Rows.uptoBulk]
  | .nil => by simp [bulkW, Rows.uptoBulk]
  | .ptr d => by simp only [bulkW, Rows.uptoBulk, bulkW_eq d]
  | .slice elems spare => by simp only [bulkW, Rows.uptoBulk, bulkWL_eq elems, bulkWL_eq spare]
  | .agg parts => by simp only [bulkW, Rows.uptoBulk, bulkWL_eq parts]
  | .iface _ d => by simp only [bulkW, Rows.uptoBulk, bulkW_eq d]
  | .map entries => by simp only [bulkW, Rows.uptoBulk, bulkWE_eq entries]
  | .held _ => by simp [bulkW, Rows.uptoBulk]
theorem bulkWL_eq {H : Type} : ∀ l : List (DataW H), bulkWL l = Rows.uptoBulkAll l
  | [] => by simp [bulkWL, Rows.uptoBulkAll]
  | d :: r => by simp only [bulkWL, Rows.uptoBulkAll, bulkW_eq d, bulkWL_eq r]
theorem bulkWE_eq {H : Type} : ∀ l : List (Lit × DataW H), bulkWE l = Rows.uptoBulkEntries l
  | [] => by simp [bulkWE, Rows.uptoBulkEntries]
  | x :: r => by simp only [bulkWE, Rows.uptoBulkEntries, bulkW1_eq x, bulkWE_eq r]
theorem bulkW1_eq {H : Type} : ∀ x : Lit × DataW H, bulkW1 x = Rows.uptoBulkEntry x
  | (l, d) => by cases l <;> simp only [bulkW1, Rows.uptoBulkEntry, bulkW_eq d]
end
theorem bulk_small {H : Type} {ds : List (DataW H)} (h : Rows.uptoSmall H ds = true) : bulkWL ds ≤ 1048576 := by
  rw [bulkWL_eq]; exact of_decide_eq_true h
theorem bulk_ints : ∀ l : List Int, bulkL (ints l) = l.length
  | [] => rfl
  | x :: r => by
    have := bulk_ints r
    unfold ints at this ⊢
    simp only [List.map_cons, bulkL, D.bulk, this, List.length_cons]; omega
theorem bulk_strs : ∀ l : List Bytes, bulkL (strs l) = szW l + l.length
  | [] => rfl
  | x :: r => by
    have := bulk_strs r
    unfold strs szW at this ⊢
    simp only [List.map_cons, bulkL, D.bulk, this, List.length_cons, List.sum_cons]; omega
theorem bulk_msg (m : Msg) : m.d.bulk = szM m + 7 := by
  unfold Msg.d Msg.cs szM
  simp only [D.bulk, bulkL, bulk_ints]; omega
theorem bulk_msgs : ∀ l : List Msg, bulkL (l.map Msg.d) = szMs l + 7 * l.length
  | [] => rfl
  | x :: r => by
    have := bulk_msgs r
    unfold szMs at this ⊢
    simp only [List.map_cons, bulkL, bulk_msg, this, List.length_cons, List.sum_cons]; omega
theorem bulk_box (b : Box) : szBox b ≤ b.d.bulk := by
  unfold Box.d Box.cs szBox
  simp only [D.bulk, bulkL, bulk_strs, bulk_msgs]; omega
theorem le_szW : ∀ {l : List Bytes} {w : Bytes}, w ∈ l → w.length ≤ szW l
  | x :: r, w, h => by
    unfold szW
    simp only [List.map_cons, List.sum_cons]
    rcases List.mem_cons.1 h with rfl | h
    · omega
    · have := le_szW h; unfold szW at this; omega
theorem le_szMs : ∀ {l : List Msg} {m : Msg}, m ∈ l → szM m ≤ szMs l
  | x :: r, w, h => by
    unfold szMs
    simp only [List.map_cons, List.sum_cons]
    rcases List.mem_cons.1 h with rfl | h
    · omega
    · have := le_szMs h; unfold szMs at this; omega
theorem boxIn {b : Box} (h : b.d.bulk ≤ 1048576) : BoxIn b := by
  have h := Nat.le_trans (bulk_box b) h
  have h2 := h
  unfold szBox at h2
  refine ⟨⟨by omega, by omega, by omega, fun w hw => ?_, fun m hm => ?_⟩, by omega⟩
  · have := le_szW hw; omega
  · have := le_szMs hm
    unfold szM at this
    exact ⟨by omega, by omega⟩

/-! ### what comes in -/
theorem cells5' : Tryd.prog.cellsOf 5 = 1 := by kernel_rfl
theorem tyI {n : Nat} {p : List D} (h : Ty P (n + 1) 3 p) : ∃ y, p = [iD y] := by
  unfold Ty at h
  rw [show P.underlying 3 = _ from Tryd.underlying3] at h
  obtain ⟨y, rfl, _⟩ := h
  exact ⟨y, rfl⟩
theorem tyS {n : Nat} {p : List D} (h : Ty P (n + 1) 9 p) : ∃ y, p = [.str y] := by
  unfold Ty at h
  rw [show P.underlying 9 = _ from Tryd.underlying9] at h
  obtain ⟨y, rfl, _⟩ := h
  exact ⟨y, rfl⟩
end B
end Go.Proofs.YtmkkljbfmdngfaaDoor
namespace Go.Proofs.YtmkkljbfmdngfaaDoor
namespace B
open Go.RowKit
set_option maxRecDepth 100000

theorem tySl {n : Nat} {t e : TypeId} {p : List D} (hu : P.underlying t = some (.slice e)) (h : Ty P (n + 1) t p) : ∃ l, p = [.slice (P.cellsOf e) l] ∧ ∀ y ∈ l, TyV P n e y := by
  unfold Ty at h
  rw [hu] at h
  obtain ⟨l, rfl, _, h⟩ := h
  exact ⟨l, rfl, h⟩
theorem cells3' : P.cellsOf 3 = 1 := by kernel_rfl
theorem cells9' : P.cellsOf 9 = 1 := by kernel_rfl
theorem cells42' : P.cellsOf 42 = 7 := by kernel_rfl
theorem tyIs {n : Nat} {p : List D} (h : Ty P (n + 2) 40 p) : ∃ l : List Int, p = [.slice 1 (ints l)] := by
  obtain ⟨l, rfl, hl⟩ := tySl Tryd.underlying40 h
  obtain ⟨zs, rfl⟩ := ty_list (f := iD) fun y hy => by obtain ⟨k, hk, _⟩ := ty_int Tryd.underlying3 (hl y hy); exact ⟨k, hk⟩
  exact ⟨zs, by rw [cells3']; rfl⟩
theorem tySs {n : Nat} {p : List D} (h : Ty P (n + 2) 22 p) : ∃ l : List Bytes, p = [.slice 1 (strs l)] := by
  obtain ⟨l, rfl, hl⟩ := tySl Tryd.underlying22 h
  obtain ⟨zs, rfl⟩ := ty_list (f := D.str) fun y hy => by obtain ⟨k, hk, _⟩ := ty_str Tryd.underlying9 (hl y hy); exact ⟨k, hk⟩
  exact ⟨zs, by rw [cells9']; rfl⟩
set_option maxRecDepth 100000 in
theorem msg_of {n : Nat} {x : D} (h : TyV P (n + 3) 42 x) : ∃ m : Msg, x = m.d := by
  obtain ⟨parts, rfl, hl, hp⟩ := ty_struct Tryd.underlying42 h
  have hl : parts.length = 7 := hl
  match parts, hl with
  | [a0, a1, a2, a3, a4, a5, a6], _ =>
    obtain ⟨y0, rfl⟩ := tyI (n := n + 1) (hp 0 _ a0 rfl rfl)
    obtain ⟨y1, rfl⟩ := tyI (n := n + 1) (hp 1 _ a1 rfl rfl)
    obtain ⟨y2, rfl⟩ := tyI (n := n + 1) (hp 2 _ a2 rfl rfl)
    obtain ⟨y3, rfl⟩ := tyS (n := n + 1) (hp 3 _ a3 rfl rfl)
    obtain ⟨y4, rfl⟩ := tyI (n := n + 1) (hp 4 _ a4 rfl rfl)
    obtain ⟨y5, rfl⟩ := tyIs (n := n) (hp 5 _ a5 rfl rfl)
    obtain ⟨y6, rfl⟩ := tyS (n := n + 1) (hp 6 _ a6 rfl rfl)
    exact ⟨⟨y0, y1, y2, y3, y4, y5, y6⟩, rfl⟩
theorem tyMs {n : Nat} {p : List D} (h : Ty P (n + 4) 23 p) : ∃ l : List Msg, p = [.slice 7 (l.map Msg.d)] := by
  obtain ⟨l, rfl, hl⟩ := tySl Tryd.underlying23 h
  obtain ⟨zs, rfl⟩ := ty_list (f := Msg.d) fun y hy => msg_of (hl y hy)
  exact ⟨zs, by rw [cells42']⟩
set_option maxRecDepth 100000 in
theorem box_of {n : Nat} {x : D} (h : TyV P (n + 5) 25 x) : ∃ b : Box, x = b.d := by
  obtain ⟨parts, rfl, hl, hp⟩ := ty_struct Tryd.underlying25 h
  have hl : parts.length = 6 := hl
  match parts, hl with
  | [a0, a1, a2, a3, a4, a5], _ =>
    obtain ⟨y0, rfl⟩ := tyS (n := n + 3) (hp 0 _ a0 rfl rfl)
    obtain ⟨y1, rfl⟩ := tyI (n := n + 3) (hp 1 _ a1 rfl rfl)
    obtain ⟨y2, rfl⟩ := tyI (n := n + 3) (hp 2 _ a2 rfl rfl)
    obtain ⟨y3, rfl⟩ := tyI (n := n + 3) (hp 3 _ a3 rfl rfl)
    obtain ⟨y4, rfl⟩ := tySs (n := n + 2) (hp 4 _ a4 rfl rfl)
    obtain ⟨y5, rfl⟩ := tyMs (n := n) (hp 5 _ a5 rfl rfl)
    exact ⟨⟨y0, y1, y2, y3, y4, y5⟩, rfl⟩
end B
end Go.Proofs.YtmkkljbfmdngfaaDoor
