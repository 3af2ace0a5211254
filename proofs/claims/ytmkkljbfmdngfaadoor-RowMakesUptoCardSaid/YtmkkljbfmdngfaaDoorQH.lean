/- RowMakes and what it calls: abstract texts and what their walks come to: printed by wip/B/gen. No condition. -/
import Derived.Test.YtmkkljbfmdngfaaDoorQG
set_option linter.all false
namespace Go.Proofs.YtmkkljbfmdngfaaDoor
namespace B
set_option maxRecDepth 100000
def af14 : AF := ⟨(.seq (.ops [⟨(some 6), (.box 6 true (.t 0)), none⟩, ⟨(some 7), (.box 7 true (.t 1)), none⟩, ⟨(some 12), (.mov (.c (.d (.bool false))) true none), none⟩]) (.seq (.seq (.draw [⟨(some 25), (.load true 6 (.t 6) false), none⟩, ⟨(some 26), (.call 15 [((.t 25), none)] none), none⟩, ⟨(some 27), (.load true 7 (.t 7) false), none⟩, ⟨(some 28), (.buildSl 7 [(.t 27)]), none⟩, ⟨(some 29), (.build [(.d (.str [])), (.d (.int .i64 0)), (.d (.int .i64 0)), (.d (.int .i64 0)), (.d (.nils 1)), (.d (.nils 7))] [(5, (1, (.t 28)))]), none⟩, ⟨(some 30), (.call 15 [((.t 29), none)] none), none⟩, ⟨(some 31), (.bin false .add (.t 26) (.t 30)), none⟩, ⟨(some 32), (.mov (.t 2) false (some 1)), none⟩, ⟨(some 33), (.call 39 [((.t 32), (some 1))] none), none⟩, ⟨(some 34), (.bin false .add (.t 31) (.t 33)), none⟩, ⟨(some 35), (.bin false .gtr (.t 34) (.c (.d (.int .i64 0)))), none⟩, ⟨(some 36), (.mov (.t 35) true none), none⟩, ⟨(some 37), (.mov (.t 5) false (some 1)), (some (36, false))⟩, ⟨(some 38), (.len (.t 37)), (some (36, false))⟩, ⟨(some 39), (.bin false .gtr (.t 38) (.c (.d (.int .i64 100)))), (some (36, false))⟩, ⟨(some 40), (.pick (.t 36) (.c (.d (.bool true))) (.t 39)), none⟩] [0, 0, 0, 0, 0, 0, 0, 0, 0, 3, 3, 3, 3, 3, 3, 3] []) (.cond (.t 40) (.seq (.ops [⟨(some 41), (.call 29 [] none), none⟩, ⟨(some 12), (.mov (.t 41) true none), none⟩]) .ret) .skip)) (.seq (.ops [⟨(some 43), (.load true 6 (.t 6) false), none⟩, ⟨(some 44), (.fieldA 2 (.t 7)), none⟩, ⟨(some 45), (.load false 1 (.t 44) false), none⟩, ⟨(some 46), (.fieldA 3 (.t 7)), none⟩, ⟨(some 47), (.load false 1 (.t 46) false), none⟩, ⟨(some 48), (.fieldA 4 (.t 7)), none⟩, ⟨(some 49), (.load false 1 (.t 48) false), none⟩, ⟨(some 50), (.mov (.t 2) false (some 1)), none⟩, ⟨(some 51), (.fieldA 6 (.t 7)), none⟩, ⟨(some 52), (.load false 1 (.t 51) false), none⟩, ⟨(some 53), (.call 40 [((.t 43), none), ((.t 45), none), ((.t 47), none), ((.t 49), none), ((.t 50), (some 1)), ((.t 52), none)] none), none⟩, ⟨(some 42), (.mov (.t 53) true none), none⟩, ⟨(some 54), (.extract (.t 42) 0 false), none⟩, ⟨(some 55), (.extract (.t 42) 1 false), none⟩, ⟨(some 13), (.mov (.t 54) true (some 11)), none⟩, ⟨(some 14), (.mov (.t 55) true none), none⟩]) (.seq (.ops [⟨(some 57), (.load true 6 (.t 6) false), none⟩, ⟨(some 58), (.fieldA 2 (.t 7)), none⟩, ⟨(some 59), (.load false 1 (.t 58) false), none⟩, ⟨(some 60), (.fieldA 3 (.t 7)), none⟩, ⟨(some 61), (.load false 1 (.t 60) false), none⟩, ⟨(some 62), (.fieldA 4 (.t 7)), none⟩, ⟨(some 63), (.load false 1 (.t 62) false), none⟩, ⟨(some 64), (.mov (.t 2) false (some 1)), none⟩, ⟨(some 65), (.fieldA 6 (.t 7)), none⟩, ⟨(some 66), (.load false 1 (.t 65) false), none⟩, ⟨(some 67), (.call 41 [((.t 57), none), ((.t 59), none), ((.t 61), none), ((.t 63), none), ((.t 64), (some 1)), ((.t 66), none)] none), none⟩, ⟨(some 56), (.mov (.t 67) true none), none⟩, ⟨(some 68), (.extract (.t 56) 0 false), none⟩, ⟨(some 69), (.extract (.t 56) 1 false), none⟩, ⟨(some 15), (.mov (.t 68) true (some 11)), none⟩, ⟨(some 16), (.mov (.t 69) true none), none⟩]) (.seq (.ops [⟨(some 71), (.load true 6 (.t 6) false), none⟩, ⟨(some 72), (.mov (.t 3) false none), none⟩, ⟨(some 73), (.fieldA 4 (.t 7)), none⟩, ⟨(some 74), (.load false 1 (.t 73) false), none⟩, ⟨(some 75), (.mov (.t 2) false (some 1)), none⟩, ⟨(some 76), (.mov (.t 4) false none), none⟩, ⟨(some 77), (.call 34 [((.t 71), none), ((.t 72), none), ((.t 74), none), ((.t 75), (some 1)), ((.t 76), none)] none), none⟩, ⟨(some 70), (.mov (.t 77) true none), none⟩, ⟨(some 78), (.extract (.t 70) 0 false), none⟩, ⟨(some 79), (.extract (.t 70) 1 false), none⟩, ⟨(some 17), (.mov (.t 78) true (some 11)), none⟩, ⟨(some 18), (.mov (.t 79) true none), none⟩]) (.seq (.ops [⟨(some 81), (.load true 6 (.t 6) false), none⟩, ⟨(some 82), (.mov (.t 3) false none), none⟩, ⟨(some 83), (.fieldA 4 (.t 7)), none⟩, ⟨(some 84), (.load false 1 (.t 83) false), none⟩, ⟨(some 85), (.mov (.t 2) false (some 1)), none⟩, ⟨(some 86), (.mov (.t 4) false none), none⟩, ⟨(some 87), (.call 42 [((.t 81), none), ((.t 82), none), ((.t 84), none), ((.t 85), (some 1)), ((.t 86), none)] none), none⟩, ⟨(some 80), (.mov (.t 87) true none), none⟩, ⟨(some 88), (.extract (.t 80) 0 false), none⟩, ⟨(some 89), (.extract (.t 80) 1 false), none⟩, ⟨(some 19), (.mov (.t 88) true (some 11)), none⟩, ⟨(some 20), (.mov (.t 89) true none), none⟩]) (.seq (.ops [⟨(some 91), (.load true 6 (.t 6) false), none⟩, ⟨(some 92), (.mov (.t 5) false (some 1)), none⟩, ⟨(some 93), (.call 31 [((.t 91), none), ((.t 92), (some 1))] none), none⟩, ⟨(some 90), (.mov (.t 93) true none), none⟩, ⟨(some 94), (.extract (.t 90) 0 false), none⟩, ⟨(some 95), (.extract (.t 90) 1 false), none⟩, ⟨(some 21), (.mov (.t 94) true (some 11)), none⟩, ⟨(some 22), (.mov (.t 95) true none), none⟩]) (.seq (.ops [⟨(some 97), (.load true 6 (.t 6) false), none⟩, ⟨(some 98), (.mov (.t 5) false (some 1)), none⟩, ⟨(some 99), (.call 43 [((.t 97), none), ((.t 98), (some 1))] none), none⟩, ⟨(some 96), (.mov (.t 99) true none), none⟩, ⟨(some 100), (.extract (.t 96) 0 false), none⟩, ⟨(some 101), (.extract (.t 96) 1 false), none⟩, ⟨(some 23), (.mov (.t 100) true (some 11)), none⟩, ⟨(some 24), (.mov (.t 101) true none), none⟩]) (.seq (.ops [⟨(some 102), (.mov (.t 13) false (some 11)), none⟩, ⟨(some 103), (.mov (.t 15) false (some 11)), none⟩, ⟨(some 104), (.call 44 [((.t 102), (some 11)), ((.t 103), (some 11))] none), none⟩, ⟨(some 105), (.mov (.t 104) true none), none⟩, ⟨(some 106), (.mov (.t 14) false none), (some (105, true))⟩, ⟨(some 107), (.mov (.t 16) false none), (some (105, true))⟩, ⟨(some 108), (.bin false .eql (.t 106) (.t 107)), (some (105, true))⟩, ⟨(some 109), (.pick (.t 105) (.t 108) (.c (.d (.bool false)))), none⟩, ⟨(some 110), (.mov (.t 109) true none), none⟩, ⟨(some 111), (.mov (.t 17) false (some 11)), (some (110, true))⟩, ⟨(some 112), (.mov (.t 19) false (some 11)), (some (110, true))⟩, ⟨(some 113), (.call 44 [((.t 111), (some 11)), ((.t 112), (some 11))] none), (some (110, true))⟩, ⟨(some 114), (.pick (.t 110) (.t 113) (.c (.d (.bool false)))), none⟩, ⟨(some 115), (.mov (.t 114) true none), none⟩, ⟨(some 116), (.mov (.t 18) false none), (some (115, true))⟩, ⟨(some 117), (.mov (.t 20) false none), (some (115, true))⟩, ⟨(some 118), (.bin false .eql (.t 116) (.t 117)), (some (115, true))⟩, ⟨(some 119), (.pick (.t 115) (.t 118) (.c (.d (.bool false)))), none⟩, ⟨(some 120), (.mov (.t 119) true none), none⟩, ⟨(some 121), (.mov (.t 21) false (some 11)), (some (120, true))⟩, ⟨(some 122), (.mov (.t 23) false (some 11)), (some (120, true))⟩, ⟨(some 123), (.call 44 [((.t 121), (some 11)), ((.t 122), (some 11))] none), (some (120, true))⟩, ⟨(some 124), (.pick (.t 120) (.t 123) (.c (.d (.bool false)))), none⟩, ⟨(some 125), (.mov (.t 124) true none), none⟩, ⟨(some 126), (.mov (.t 22) false none), (some (125, true))⟩, ⟨(some 127), (.mov (.t 24) false none), (some (125, true))⟩, ⟨(some 128), (.bin false .eql (.t 126) (.t 127)), (some (125, true))⟩, ⟨(some 129), (.pick (.t 125) (.t 128) (.c (.d (.bool false)))), none⟩, ⟨(some 130), (.mov (.t 129) true none), none⟩, ⟨(some 131), (.call 29 [] none), (some (130, true))⟩, ⟨(some 132), (.pick (.t 130) (.t 131) (.c (.d (.bool false)))), none⟩, ⟨(some 12), (.mov (.t 132) true none), none⟩]) .ret))))))))), [(.tm 12)], 6, 133⟩
theorem t14 : trF P HR 14 = some af14 := by kernel_rfl
theorem vc14 (s0 : Bytes) (n1 : Int) (n2 : Int) (n3 : Int) (l4 : List D) (l5 : List D) (n6 : Int) (n7 : Int) (n8 : Int) (s9 : Bytes) (n10 : Int) (l11 : List D) (s12 : Bytes) (l13 : List D) (n14 : Int) (n15 : Int) (l16 : List D) (res : CV) (objs' : List (Nat × List CV)) : walkA P (tbF P [102,103,50,48,53,56,105,58,107,1000118,7000119,107500072,1072002141,86,129,92] [] 14) (anOf af14 []) af14 [CV.d (D.agg [D.str s0, D.int .i64 n1, D.int .i64 n2, D.int .i64 n3, D.slice 1 l4, D.slice 7 l5]), CV.d (D.agg [D.int .i64 n6, D.int .i64 n7, D.int .i64 n8, D.str s9, D.int .i64 n10, D.slice 1 l11, D.str s12]), CV.d (D.slice 1 l13), CV.d (D.int .i64 n14), CV.d (D.int .i64 n15), CV.d (D.slice 1 l16)] [] (fun rs => endE rs res objs') = ((∃ n17 : Int, ((Runs P 15 [CV.d (D.agg [D.str s0, D.int .i64 n1, D.int .i64 n2, D.int .i64 n3, D.slice 1 l4, D.slice 7 l5])] [] (CV.d (D.int .i64 n17)) []) ∧ (∃ n18 : Int, ((Runs P 15 [CV.d (D.agg [D.str [], D.int .i64 0, D.int .i64 0, D.int .i64 0, D.slice 1 [], D.slice 7 [D.agg [D.int .i64 n6, D.int .i64 n7, D.int .i64 n8, D.str s9, D.int .i64 n10, D.slice 1 l11, D.str s12]]])] [] (CV.d (D.int .i64 n18)) []) ∧ (∀ n19 : Int, (Go.IntKind.wrap Go.IntKind.i64 (n17 + n18) = n19 → (∃ n20 : Int, ((Runs P 39 [CV.d (D.slice 1 l13)] [] (CV.d (D.int .i64 n20)) []) ∧ (∀ n21 : Int, (Go.IntKind.wrap Go.IntKind.i64 (n19 + n20) = n21 → (∀ b22 : Bool, ((decide (n21 > 0) || decide (nI (List.length l16) > 100)) = b22 → (((b22) = true → (∃ b23 : Bool, ((Runs P 29 [] [] (CV.d (D.bool b23)) []) ∧ EndR (CV.d (D.bool b23)) res [(6, [CV.d (D.str s0), CV.d (D.int .i64 n1), CV.d (D.int .i64 n2), CV.d (D.int .i64 n3), CV.d (D.slice 1 l4), CV.d (D.slice 7 l5)]), (7, [CV.d (D.int .i64 n6), CV.d (D.int .i64 n7), CV.d (D.int .i64 n8), CV.d (D.str s9), CV.d (D.int .i64 n10), CV.d (D.slice 1 l11), CV.d (D.str s12)])] objs'))) ∧ ((b22) = false → (∃ l24 : List D, (∃ n25 : Int, ((Runs P 40 [CV.d (D.agg [D.str s0, D.int .i64 n1, D.int .i64 n2, D.int .i64 n3, D.slice 1 l4, D.slice 7 l5]), CV.d (D.int .i64 n8), CV.d (D.str s9), CV.d (D.int .i64 n10), CV.d (D.slice 1 l13), CV.d (D.str s12)] [] (CV.tup [CV.d (D.slice 11 l24), CV.d (D.int .i64 n25)]) []) ∧ (∃ l26 : List D, (∃ n27 : Int, ((Runs P 41 [CV.d (D.agg [D.str s0, D.int .i64 n1, D.int .i64 n2, D.int .i64 n3, D.slice 1 l4, D.slice 7 l5]), CV.d (D.int .i64 n8), CV.d (D.str s9), CV.d (D.int .i64 n10), CV.d (D.slice 1 l13), CV.d (D.str s12)] [] (CV.tup [CV.d (D.slice 11 l26), CV.d (D.int .i64 n27)]) []) ∧ (∃ l28 : List D, (∃ n29 : Int, ((Runs P 34 [CV.d (D.agg [D.str s0, D.int .i64 n1, D.int .i64 n2, D.int .i64 n3, D.slice 1 l4, D.slice 7 l5]), CV.d (D.int .i64 n14), CV.d (D.int .i64 n10), CV.d (D.slice 1 l13), CV.d (D.int .i64 n15)] [] (CV.tup [CV.d (D.slice 11 l28), CV.d (D.int .i64 n29)]) []) ∧ (∃ l30 : List D, (∃ n31 : Int, ((Runs P 42 [CV.d (D.agg [D.str s0, D.int .i64 n1, D.int .i64 n2, D.int .i64 n3, D.slice 1 l4, D.slice 7 l5]), CV.d (D.int .i64 n14), CV.d (D.int .i64 n10), CV.d (D.slice 1 l13), CV.d (D.int .i64 n15)] [] (CV.tup [CV.d (D.slice 11 l30), CV.d (D.int .i64 n31)]) []) ∧ (∃ l32 : List D, (∃ n33 : Int, ((Runs P 31 [CV.d (D.agg [D.str s0, D.int .i64 n1, D.int .i64 n2, D.int .i64 n3, D.slice 1 l4, D.slice 7 l5]), CV.d (D.slice 1 l16)] [] (CV.tup [CV.d (D.slice 11 l32), CV.d (D.int .i64 n33)]) []) ∧ (∃ l34 : List D, (∃ n35 : Int, ((Runs P 43 [CV.d (D.agg [D.str s0, D.int .i64 n1, D.int .i64 n2, D.int .i64 n3, D.slice 1 l4, D.slice 7 l5]), CV.d (D.slice 1 l16)] [] (CV.tup [CV.d (D.slice 11 l34), CV.d (D.int .i64 n35)]) []) ∧ (∃ b36 : Bool, ((Runs P 44 [CV.d (D.slice 11 l24), CV.d (D.slice 11 l26)] [] (CV.d (D.bool b36)) []) ∧ (∀ b37 : Bool, ((b36 && n25 == n27) = b37 → (∃ b38 : Bool, ((b37 = true → Runs P 44 [CV.d (D.slice 11 l28), CV.d (D.slice 11 l30)] [] (CV.d (D.bool b38)) []) ∧ (∀ b39 : Bool, ((b37 && b38) = b39 → (∀ b40 : Bool, ((b39 && n29 == n31) = b40 → (∃ b41 : Bool, ((b40 = true → Runs P 44 [CV.d (D.slice 11 l32), CV.d (D.slice 11 l34)] [] (CV.d (D.bool b41)) []) ∧ (∀ b42 : Bool, ((b40 && b41) = b42 → (∀ b43 : Bool, ((b42 && n33 == n35) = b43 → (∃ b44 : Bool, ((b43 = true → Runs P 29 [] [] (CV.d (D.bool b44)) []) ∧ (∀ b45 : Bool, ((b43 && b44) = b45 → EndR (CV.d (D.bool b45)) res [(6, [CV.d (D.str s0), CV.d (D.int .i64 n1), CV.d (D.int .i64 n2), CV.d (D.int .i64 n3), CV.d (D.slice 1 l4), CV.d (D.slice 7 l5)]), (7, [CV.d (D.int .i64 n6), CV.d (D.int .i64 n7), CV.d (D.int .i64 n8), CV.d (D.str s9), CV.d (D.int .i64 n10), CV.d (D.slice 1 l11), CV.d (D.str s12)])] objs'))))))))))))))))))))))))))))))))))))))))))))))))))))) := by kernel_rfl
def af41 : AF := ⟨(.seq (.ops [⟨(some 6), (.box 6 true (.t 0)), none⟩, ⟨(some 12), (.mov (.c .nils) true (some 11)), none⟩, ⟨(some 13), (.mov (.c (.d (.int .i64 0))) true none), none⟩]) (.seq (.seq (.ops [⟨(some 21), (.load true 6 (.t 6) false), none⟩, ⟨(some 22), (.call 16 [((.t 21), none)] none), none⟩, ⟨(some 23), (.bin false .neq (.t 22) (.c (.d (.int .i64 0)))), none⟩, ⟨(some 24), (.mov (.t 23) true none), none⟩, ⟨(some 25), (.mov (.t 4) false (some 1)), (some (24, false))⟩, ⟨(some 26), (.call 91 [((.t 25), (some 1))] none), (some (24, false))⟩, ⟨(some 27), (.not (.t 26)), (some (24, false))⟩, ⟨(some 28), (.pick (.t 24) (.c (.d (.bool true))) (.t 27)), none⟩]) (.cond (.t 28) (.seq (.ops [⟨(some 12), (.mov (.c .nils) true (some 11)), none⟩, ⟨(some 13), (.mov (.c (.d (.int .i64 1))) true none), none⟩]) .ret) .skip)) (.seq (.ops [⟨(some 30), (.load true 6 (.t 6) false), none⟩, ⟨(some 31), (.mov (.t 4) false (some 1)), none⟩, ⟨(some 32), (.call 92 [((.t 30), none), ((.t 31), (some 1))] none), none⟩, ⟨(some 29), (.movT (.t 32)), none⟩, ⟨(some 33), (.extract (.t 29) 0 false), none⟩, ⟨(some 34), (.extract (.t 29) 1 false), none⟩, ⟨(some 14), (.mov (.t 33) true (some 1)), none⟩, ⟨(some 15), (.mov (.t 34) true (some 11)), none⟩]) (.seq (.seq (.ops [⟨(some 35), (.fieldA 5 (.t 6)), none⟩, ⟨(some 36), (.load false 1 (.t 35) false), none⟩, ⟨(some 37), (.len (.t 36)), none⟩, ⟨(some 38), (.bin false .geq (.t 37) (.c (.d (.int .i64 60)))), none⟩, ⟨(some 39), (.mov (.t 38) true none), none⟩, ⟨(some 40), (.mov (.t 14) false (some 1)), (some (39, false))⟩, ⟨(some 41), (.len (.t 40)), (some (39, false))⟩, ⟨(some 42), (.bin false .gtr (.t 41) (.c (.d (.int .i64 64)))), (some (39, false))⟩, ⟨(some 43), (.pick (.t 39) (.c (.d (.bool true))) (.t 42)), none⟩]) (.cond (.t 43) (.seq (.ops [⟨(some 12), (.mov (.c .nils) true (some 11)), none⟩, ⟨(some 13), (.mov (.c (.d (.int .i64 4))) true none), none⟩]) .ret) .skip)) (.seq (.seq (.ops [⟨(some 44), (.fieldA 3 (.t 6)), none⟩, ⟨(some 45), (.load false 1 (.t 44) false), none⟩, ⟨(some 46), (.bin false .geq (.t 45) (.c (.d (.int .i64 1000000)))), none⟩, ⟨(some 47), (.mov (.t 46) true none), none⟩, ⟨(some 48), (.fieldA 2 (.t 6)), (some (47, false))⟩, ⟨(some 49), (.load false 1 (.t 48) false), (some (47, false))⟩, ⟨(some 50), (.bin false .geq (.t 49) (.c (.d (.int .i64 1000000)))), (some (47, false))⟩, ⟨(some 51), (.pick (.t 47) (.c (.d (.bool true))) (.t 50)), none⟩]) (.cond (.t 51) (.seq (.ops [⟨(some 12), (.mov (.c .nils) true (some 11)), none⟩, ⟨(some 13), (.mov (.c (.d (.int .i64 9))) true none), none⟩]) .ret) .skip)) (.seq (.ops [⟨(some 52), (.fieldA 2 (.t 6)), none⟩, ⟨(some 53), (.load false 1 (.t 52) false), none⟩, ⟨(some 54), (.fieldA 3 (.t 6)), none⟩, ⟨(some 55), (.load false 1 (.t 54) false), none⟩, ⟨(some 56), (.bin false .add (.t 55) (.c (.d (.int .i64 1)))), none⟩, ⟨(some 57), (.mov (.t 1) false none), none⟩, ⟨(some 58), (.mov (.t 2) false none), none⟩, ⟨(some 59), (.mov (.t 3) false none), none⟩, ⟨(some 60), (.mov (.t 5) false none), none⟩, ⟨(some 61), (.build [(.d (.int .i64 0)), (.d (.int .i64 0)), (.d (.int .i64 0)), (.d (.str [])), (.d (.int .i64 0)), (.d (.nils 1)), (.d (.str []))] [(0, (1, (.t 53))), (1, (1, (.t 56))), (2, (1, (.t 57))), (3, (1, (.t 58))), (4, (1, (.t 59))), (6, (1, (.t 60)))]), none⟩, ⟨(some 16), (.alloc [(.d (.int .i64 0)), (.d (.int .i64 0)), (.d (.int .i64 0)), (.d (.str [])), (.d (.int .i64 0)), (.own 1 []), (.d (.str []))]), none⟩, ⟨none, (.store true 7 (.t 16) (.t 61) none), none⟩]) (.seq (.seq (.ops [⟨(some 62), (.mov (.t 2) false none), none⟩, ⟨(some 63), (.bin false .eql (.t 62) (.c (.d (.str [])))), none⟩]) (.cond (.t 63) (.ops [⟨(some 64), (.fieldA 0 (.t 6)), none⟩, ⟨(some 65), (.load false 1 (.t 64) false), none⟩, ⟨(some 66), (.fieldA 2 (.t 6)), none⟩, ⟨(some 67), (.load false 1 (.t 66) false), none⟩, ⟨(some 68), (.call 26 [((.t 65), none), ((.t 67), none)] none), none⟩, ⟨(some 69), (.fieldA 3 (.t 16)), none⟩, ⟨none, (.store false 1 (.t 69) (.t 68) none), none⟩]) .skip)) (.seq (.ops [⟨(some 17), (.mov (.c .nils) true (some 1)), none⟩]) (.seq (.seq (.ops [⟨(some 70), (.mov (.t 4) false (some 1)), none⟩, ⟨(some 71), (.len (.t 70)), none⟩, ⟨(some 72), (.mov (.c (.d (.int .i64 0))) false none), none⟩]) (.block 0 (.loop (.seq (.ops [⟨(some 73), (.bin false .lss (.t 72) (.t 71)), none⟩]) (.seq (.cond (.t 73) .skip (.exit 0)) (.seq (.block 1 (.seq (.ops [⟨(some 74), (.idxA 1 (.t 70) (.t 72)), none⟩, ⟨(some 75), (.load false 1 (.t 74) false), none⟩, ⟨(some 19), (.mov (.t 75) true none), none⟩]) (.ops [⟨(some 76), (.mov (.t 17) true (some 1)), none⟩, ⟨(some 77), (.mov (.t 14) false (some 1)), none⟩, ⟨(some 78), (.mov (.t 19) false none), none⟩, ⟨(some 79), (.call 93 [((.t 77), (some 1)), ((.t 78), none)] none), none⟩, ⟨(some 80), (.buildSl 1 [(.t 79)]), none⟩, ⟨(some 81), (.append 1 8 (.t 76) (.t 80)), none⟩, ⟨(some 17), (.mov (.t 81) true (some 1)), none⟩]))) (.ops [⟨(some 82), (.bin false .add (.t 72) (.c (.d (.int .i64 1)))), none⟩, ⟨(some 72), (.mov (.t 82) true none), none⟩]))))))) (.seq (.ops [⟨(some 83), (.mov (.t 17) false (some 1)), none⟩, ⟨(some 84), (.call 94 [((.t 83), (some 1))] none), none⟩, ⟨(some 85), (.fieldA 5 (.t 16)), none⟩, ⟨none, (.store false 1 (.t 85) (.t 84) (some 1)), none⟩]) (.seq (.ops [⟨(some 86), (.mov (.t 14) false (some 1)), none⟩, ⟨(some 87), (.fieldA 4 (.t 6)), none⟩, ⟨none, (.store false 1 (.t 87) (.t 86) (some 1)), none⟩]) (.seq (.seq (.ops [⟨(some 88), (.load true 6 (.t 6) false), none⟩, ⟨(some 89), (.load true 7 (.t 16) false), none⟩, ⟨(some 90), (.call 46 [((.t 88), none), ((.t 89), none)] none), none⟩, ⟨(some 20), (.mov (.t 90) true none), none⟩]) (.seq (.ops [⟨(some 91), (.mov (.t 20) false none), none⟩, ⟨(some 92), (.bin false .neq (.t 91) (.c (.d (.int .i64 0)))), none⟩]) (.cond (.t 92) (.seq (.ops [⟨(some 93), (.mov (.t 20) true none), none⟩, ⟨(some 12), (.mov (.c .nils) true (some 11)), none⟩, ⟨(some 13), (.mov (.t 93) true none), none⟩]) .ret) .skip))) (.seq (.ops [⟨(some 94), (.mov (.t 15) true (some 11)), none⟩, ⟨(some 95), (.load true 7 (.t 16) false), none⟩, ⟨(some 96), (.build [(.d (.int .i64 0)), (.d (.int .i64 0)), (.d (.int .i64 0)), (.d (.int .i64 0)), (.d (.int .i64 0)), (.d (.int .i64 0)), (.d (.str [])), (.d (.int .i64 0)), (.d (.nils 1)), (.d (.str [])), (.d (.str []))] [(0, (1, (.c (.d (.int .i64 1))))), (3, (7, (.t 95)))]), none⟩, ⟨(some 97), (.buildSl 11 [(.t 96)]), none⟩, ⟨(some 98), (.append 11 128 (.t 94) (.t 97)), none⟩, ⟨(some 12), (.mov (.t 98) true (some 11)), none⟩, ⟨(some 13), (.mov (.c (.d (.int .i64 0))) true none), none⟩]) .ret))))))))))))), [(.tm 12), (.tm 13)], 6, 99⟩
theorem t41 : trF P HR 41 = some af41 := by kernel_rfl
theorem vc41 (s0 : Bytes) (n1 : Int) (n2 : Int) (n3 : Int) (l4 : List D) (l5 : List D) (n6 : Int) (s7 : Bytes) (n8 : Int) (l9 : List D) (s10 : Bytes) (res : CV) (objs' : List (Nat × List CV)) : walkA P (tbF P [102,103,50,48,53,56,105,58,107,1000118,7000119,107500072,1072002141,86,129,92] [] 41) (anOf af41 []) af41 [CV.d (D.agg [D.str s0, D.int .i64 n1, D.int .i64 n2, D.int .i64 n3, D.slice 1 l4, D.slice 7 l5]), CV.d (D.int .i64 n6), CV.d (D.str s7), CV.d (D.int .i64 n8), CV.d (D.slice 1 l9), CV.d (D.str s10)] [] (fun rs => endE rs res objs') = ((∃ n11 : Int, ((Runs P 16 [CV.d (D.agg [D.str s0, D.int .i64 n1, D.int .i64 n2, D.int .i64 n3, D.slice 1 l4, D.slice 7 l5])] [] (CV.d (D.int .i64 n11)) []) ∧ (∃ b12 : Bool, (((!n11 != 0) = true → Runs P 91 [CV.d (D.slice 1 l9)] [] (CV.d (D.bool b12)) []) ∧ (∀ b13 : Bool, ((n11 != 0 || !b12) = b13 → (((b13) = true → EndR (CV.tup [CV.own (11 : Nat) [], CV.d (D.int .i64 (1 : Int))]) res [(6, [CV.d (D.str s0), CV.d (D.int .i64 n1), CV.d (D.int .i64 n2), CV.d (D.int .i64 n3), CV.d (D.slice 1 l4), CV.d (D.slice 7 l5)])] objs') ∧ ((b13) = false → (∃ l14 : List D, (∃ l15 : List D, ((Runs P 92 [CV.d (D.agg [D.str s0, D.int .i64 n1, D.int .i64 n2, D.int .i64 n3, D.slice 1 l4, D.slice 7 l5]), CV.d (D.slice 1 l9)] [] (CV.tup [CV.own 1 l14, CV.own 11 l15]) []) ∧ (∀ b16 : Bool, ((decide (nI (List.length l5) ≥ 60) || decide (nI (List.length l14) > 64)) = b16 → (((b16) = true → EndR (CV.tup [CV.own (11 : Nat) [], CV.d (D.int .i64 (4 : Int))]) res [(6, [CV.d (D.str s0), CV.d (D.int .i64 n1), CV.d (D.int .i64 n2), CV.d (D.int .i64 n3), CV.d (D.slice 1 l4), CV.d (D.slice 7 l5)])] objs') ∧ ((b16) = false → (∀ b17 : Bool, ((decide (n3 ≥ 1000000) || decide (n2 ≥ 1000000)) = b17 → (((b17) = true → EndR (CV.tup [CV.own (11 : Nat) [], CV.d (D.int .i64 (9 : Int))]) res [(6, [CV.d (D.str s0), CV.d (D.int .i64 n1), CV.d (D.int .i64 n2), CV.d (D.int .i64 n3), CV.d (D.slice 1 l4), CV.d (D.slice 7 l5)])] objs') ∧ ((b17) = false → (∀ n18 : Int, (Go.IntKind.wrap Go.IntKind.i64 (n3 + 1) = n18 → (((s7 == []) = true → (∃ s19 : Bytes, ((Runs P 26 [CV.d (D.str s0), CV.d (D.int .i64 n2)] [] (CV.d (D.str s19)) []) ∧ (∃ I20 : (List D → (Int → (Nat → Prop))), ((∃ k21 : Nat, I20 [] 0 k21) ∧ (∀ l22 : List D, (∀ n23 : Int, (∀ k24 : Nat, (I20 l22 n23 k24 → (((decide (n23 < nI (List.length l9))) = true → ((0 ≤ n23 ∧ n23 < nI (List.length l9)) ∧ (∃ s25 : Bytes, ((D.cells (List.getD l9 (Int.toNat n23) D.nilp) = [D.str s25]) ∧ (∃ n26 : Int, ((Runs P 93 [CV.d (D.slice 1 l14), CV.d (D.str s25)] [] (CV.d (D.int .i64 n26)) []) ∧ (((List.length l22 + List.length [D.int .i64 n26]) * 8 ≤ 140737488355328) ∧ (∀ n27 : Int, (Go.IntKind.wrap Go.IntKind.i64 (n23 + 1) = n27 → (∃ k28 : Nat, ((k28 < k24) ∧ I20 (l22 ++ [D.int .i64 n26]) n27 k28))))))))))) ∧ ((decide (n23 < nI (List.length l9))) = false → (∃ l29 : List D, ((Runs P 94 [CV.d (D.slice 1 l22)] [] (CV.d (D.slice 1 l29)) []) ∧ (∃ n30 : Int, ((Runs P 46 [CV.d (D.agg [D.str s0, D.int .i64 n1, D.int .i64 n2, D.int .i64 n3, D.slice 1 l14, D.slice 7 l5]), CV.d (D.agg [D.int .i64 n2, D.int .i64 n18, D.int .i64 n6, D.str s19, D.int .i64 n8, D.slice 1 l29, D.str s10])] [] (CV.d (D.int .i64 n30)) []) ∧ (((n30 != 0) = true → EndR (CV.tup [CV.own 11 [], CV.d (D.int .i64 n30)]) res [(6, [CV.d (D.str s0), CV.d (D.int .i64 n1), CV.d (D.int .i64 n2), CV.d (D.int .i64 n3), CV.d (D.slice 1 l14), CV.d (D.slice 7 l5)]), (16, [CV.d (D.int .i64 n2), CV.d (D.int .i64 n18), CV.d (D.int .i64 n6), CV.d (D.str s19), CV.d (D.int .i64 n8), CV.d (D.slice 1 l29), CV.d (D.str s10)])] objs') ∧ ((n30 != 0) = false → (((List.length l15 + List.length [D.agg [D.int .i64 1, D.int .i64 0, D.int .i64 0, D.int .i64 n2, D.int .i64 n18, D.int .i64 n6, D.str s19, D.int .i64 n8, D.slice 1 l29, D.str s10, D.str []]]) * 128 ≤ 140737488355328) ∧ EndR (CV.tup [CV.own 11 (l15 ++ [D.agg [D.int .i64 1, D.int .i64 0, D.int .i64 0, D.int .i64 n2, D.int .i64 n18, D.int .i64 n6, D.str s19, D.int .i64 n8, D.slice 1 l29, D.str s10, D.str []]]), CV.d (D.int .i64 0)]) res [(6, [CV.d (D.str s0), CV.d (D.int .i64 n1), CV.d (D.int .i64 n2), CV.d (D.int .i64 n3), CV.d (D.slice 1 l14), CV.d (D.slice 7 l5)]), (16, [CV.d (D.int .i64 n2), CV.d (D.int .i64 n18), CV.d (D.int .i64 n6), CV.d (D.str s19), CV.d (D.int .i64 n8), CV.d (D.slice 1 l29), CV.d (D.str s10)])] objs')))))))))))))))))) ∧ ((s7 == []) = false → (∃ I31 : (List D → (Int → (Nat → Prop))), ((∃ k32 : Nat, I31 [] 0 k32) ∧ (∀ l33 : List D, (∀ n34 : Int, (∀ k35 : Nat, (I31 l33 n34 k35 → (((decide (n34 < nI (List.length l9))) = true → ((0 ≤ n34 ∧ n34 < nI (List.length l9)) ∧ (∃ s36 : Bytes, ((D.cells (List.getD l9 (Int.toNat n34) D.nilp) = [D.str s36]) ∧ (∃ n37 : Int, ((Runs P 93 [CV.d (D.slice 1 l14), CV.d (D.str s36)] [] (CV.d (D.int .i64 n37)) []) ∧ (((List.length l33 + List.length [D.int .i64 n37]) * 8 ≤ 140737488355328) ∧ (∀ n38 : Int, (Go.IntKind.wrap Go.IntKind.i64 (n34 + 1) = n38 → (∃ k39 : Nat, ((k39 < k35) ∧ I31 (l33 ++ [D.int .i64 n37]) n38 k39))))))))))) ∧ ((decide (n34 < nI (List.length l9))) = false → (∃ l40 : List D, ((Runs P 94 [CV.d (D.slice 1 l33)] [] (CV.d (D.slice 1 l40)) []) ∧ (∃ n41 : Int, ((Runs P 46 [CV.d (D.agg [D.str s0, D.int .i64 n1, D.int .i64 n2, D.int .i64 n3, D.slice 1 l14, D.slice 7 l5]), CV.d (D.agg [D.int .i64 n2, D.int .i64 n18, D.int .i64 n6, D.str s7, D.int .i64 n8, D.slice 1 l40, D.str s10])] [] (CV.d (D.int .i64 n41)) []) ∧ (((n41 != 0) = true → EndR (CV.tup [CV.own 11 [], CV.d (D.int .i64 n41)]) res [(6, [CV.d (D.str s0), CV.d (D.int .i64 n1), CV.d (D.int .i64 n2), CV.d (D.int .i64 n3), CV.d (D.slice 1 l14), CV.d (D.slice 7 l5)]), (16, [CV.d (D.int .i64 n2), CV.d (D.int .i64 n18), CV.d (D.int .i64 n6), CV.d (D.str s7), CV.d (D.int .i64 n8), CV.d (D.slice 1 l40), CV.d (D.str s10)])] objs') ∧ ((n41 != 0) = false → (((List.length l15 + List.length [D.agg [D.int .i64 1, D.int .i64 0, D.int .i64 0, D.int .i64 n2, D.int .i64 n18, D.int .i64 n6, D.str s7, D.int .i64 n8, D.slice 1 l40, D.str s10, D.str []]]) * 128 ≤ 140737488355328) ∧ EndR (CV.tup [CV.own 11 (l15 ++ [D.agg [D.int .i64 1, D.int .i64 0, D.int .i64 0, D.int .i64 n2, D.int .i64 n18, D.int .i64 n6, D.str s7, D.int .i64 n8, D.slice 1 l40, D.str s10, D.str []]]), CV.d (D.int .i64 0)]) res [(6, [CV.d (D.str s0), CV.d (D.int .i64 n1), CV.d (D.int .i64 n2), CV.d (D.int .i64 n3), CV.d (D.slice 1 l14), CV.d (D.slice 7 l5)]), (16, [CV.d (D.int .i64 n2), CV.d (D.int .i64 n18), CV.d (D.int .i64 n6), CV.d (D.str s7), CV.d (D.int .i64 n8), CV.d (D.slice 1 l40), CV.d (D.str s10)])] objs'))))))))))))))))))))))))))))))))))))))) := by kernel_rfl
def af42 : AF := ⟨(.seq (.ops [⟨(some 5), (.box 6 true (.t 0)), none⟩, ⟨(some 10), (.mov (.c .nils) true (some 11)), none⟩, ⟨(some 11), (.mov (.c (.d (.int .i64 0))) true none), none⟩]) (.seq (.seq (.ops [⟨(some 24), (.load true 6 (.t 5) false), none⟩, ⟨(some 25), (.call 16 [((.t 24), none)] none), none⟩, ⟨(some 26), (.bin false .neq (.t 25) (.c (.d (.int .i64 0)))), none⟩, ⟨(some 27), (.mov (.t 26) true none), none⟩, ⟨(some 28), (.mov (.t 2) false none), (some (27, false))⟩, ⟨(some 29), (.bin false .lss (.t 28) (.c (.d (.int .i64 0)))), (some (27, false))⟩, ⟨(some 30), (.pick (.t 27) (.c (.d (.bool true))) (.t 29)), none⟩, ⟨(some 31), (.mov (.t 30) true none), none⟩, ⟨(some 32), (.mov (.t 2) false none), (some (31, false))⟩, ⟨(some 33), (.bin false .gtr (.t 32) (.c (.d (.int .i64 31)))), (some (31, false))⟩, ⟨(some 34), (.pick (.t 31) (.c (.d (.bool true))) (.t 33)), none⟩, ⟨(some 35), (.mov (.t 34) true none), none⟩, ⟨(some 36), (.mov (.t 3) false (some 1)), (some (35, false))⟩, ⟨(some 37), (.call 91 [((.t 36), (some 1))] none), (some (35, false))⟩, ⟨(some 38), (.not (.t 37)), (some (35, false))⟩, ⟨(some 39), (.pick (.t 35) (.c (.d (.bool true))) (.t 38)), none⟩, ⟨(some 40), (.mov (.t 39) true none), none⟩, ⟨(some 41), (.mov (.t 4) false none), (some (40, false))⟩, ⟨(some 42), (.bin false .lss (.t 41) (.c (.d (.int .i64 0)))), (some (40, false))⟩, ⟨(some 43), (.pick (.t 40) (.c (.d (.bool true))) (.t 42)), none⟩, ⟨(some 44), (.mov (.t 43) true none), none⟩, ⟨(some 45), (.mov (.t 4) false none), (some (44, false))⟩, ⟨(some 46), (.bin false .gtr (.t 45) (.c (.d (.int .i64 2)))), (some (44, false))⟩, ⟨(some 47), (.pick (.t 44) (.c (.d (.bool true))) (.t 46)), none⟩]) (.cond (.t 47) (.seq (.ops [⟨(some 10), (.mov (.c .nils) true (some 11)), none⟩, ⟨(some 11), (.mov (.c (.d (.int .i64 1))) true none), none⟩]) .ret) .skip)) (.seq (.ops [⟨(some 48), (.load true 6 (.t 5) false), none⟩, ⟨(some 49), (.mov (.t 1) false none), none⟩, ⟨(some 50), (.call 95 [((.t 48), none), ((.t 49), none)] none), none⟩, ⟨(some 12), (.mov (.t 50) true none), none⟩]) (.seq (.seq (.ops [⟨(some 51), (.mov (.t 12) false none), none⟩, ⟨(some 52), (.bin false .lss (.t 51) (.c (.d (.int .i64 0)))), none⟩]) (.cond (.t 52) (.seq (.ops [⟨(some 10), (.mov (.c .nils) true (some 11)), none⟩, ⟨(some 11), (.mov (.c (.d (.int .i64 6))) true none), none⟩]) .ret) .skip)) (.seq (.ops [⟨(some 53), (.fieldA 5 (.t 5)), none⟩, ⟨(some 54), (.load false 1 (.t 53) false), none⟩, ⟨(some 55), (.mov (.t 12) false none), none⟩, ⟨(some 56), (.idxA 7 (.t 54) (.t 55)), none⟩, ⟨(some 57), (.load true 7 (.t 56) false), none⟩, ⟨(some 13), (.alloc [(.d (.int .i64 0)), (.d (.int .i64 0)), (.d (.int .i64 0)), (.d (.str [])), (.d (.int .i64 0)), (.own 1 []), (.d (.str []))]), none⟩, ⟨none, (.store true 7 (.t 13) (.t 57) none), none⟩]) (.seq (.ops [⟨(some 59), (.load true 6 (.t 5) false), none⟩, ⟨(some 60), (.mov (.t 3) false (some 1)), none⟩, ⟨(some 61), (.call 92 [((.t 59), none), ((.t 60), (some 1))] none), none⟩, ⟨(some 58), (.movT (.t 61)), none⟩, ⟨(some 62), (.extract (.t 58) 0 false), none⟩, ⟨(some 63), (.extract (.t 58) 1 false), none⟩, ⟨(some 14), (.mov (.t 62) true (some 1)), none⟩, ⟨(some 15), (.mov (.t 63) true (some 11)), none⟩]) (.seq (.seq (.ops [⟨(some 64), (.mov (.t 4) false none), none⟩, ⟨(some 65), (.bin false .eql (.t 64) (.c (.d (.int .i64 2)))), none⟩]) (.cond (.t 65) (.ops [⟨(some 66), (.fieldA 4 (.t 5)), none⟩, ⟨(some 67), (.load false 1 (.t 66) false), none⟩, ⟨(some 14), (.mov (.t 67) true (some 1)), none⟩, ⟨(some 15), (.mov (.c .nils) true (some 11)), none⟩]) .skip)) (.seq (.ops [⟨(some 16), (.mov (.c .nils) true (some 1)), none⟩]) (.seq (.seq (.ops [⟨(some 68), (.mov (.t 3) false (some 1)), none⟩, ⟨(some 69), (.len (.t 68)), none⟩, ⟨(some 70), (.mov (.c (.d (.int .i64 0))) false none), none⟩]) (.block 0 (.loop (.seq (.ops [⟨(some 71), (.bin false .lss (.t 70) (.t 69)), none⟩]) (.seq (.cond (.t 71) .skip (.exit 0)) (.seq (.block 1 (.seq (.ops [⟨(some 72), (.idxA 1 (.t 68) (.t 70)), none⟩, ⟨(some 73), (.load false 1 (.t 72) false), none⟩, ⟨(some 18), (.mov (.t 73) true none), none⟩]) (.seq (.ops [⟨(some 74), (.mov (.t 14) false (some 1)), none⟩, ⟨(some 75), (.mov (.t 18) false none), none⟩, ⟨(some 76), (.call 93 [((.t 74), (some 1)), ((.t 75), none)] none), none⟩, ⟨(some 19), (.mov (.t 76) true none), none⟩]) (.seq (.ops [⟨(some 77), (.mov (.t 19) false none), none⟩, ⟨(some 78), (.bin false .geq (.t 77) (.c (.d (.int .i64 0)))), none⟩]) (.cond (.t 78) (.ops [⟨(some 79), (.mov (.t 16) true (some 1)), none⟩, ⟨(some 80), (.mov (.t 19) false none), none⟩, ⟨(some 81), (.buildSl 1 [(.t 80)]), none⟩, ⟨(some 82), (.append 1 8 (.t 79) (.t 81)), none⟩, ⟨(some 16), (.mov (.t 82) true (some 1)), none⟩]) .skip))))) (.ops [⟨(some 83), (.bin false .add (.t 70) (.c (.d (.int .i64 1)))), none⟩, ⟨(some 70), (.mov (.t 83) true none), none⟩]))))))) (.seq (.ops [⟨(some 84), (.mov (.t 2) false none), none⟩, ⟨(some 85), (.mov (.t 16) false (some 1)), none⟩, ⟨(some 86), (.call 94 [((.t 85), (some 1))] none), none⟩, ⟨(some 20), (.mov (.t 84) true none), none⟩, ⟨(some 21), (.mov (.t 86) true (some 1)), none⟩]) (.seq (.seq (.ops [⟨(some 87), (.mov (.t 4) false none), none⟩]) (.block 2 (.seq (.ops [⟨(some 89), (.bin false .eql (.t 87) (.c (.d (.int .i64 1)))), none⟩, ⟨(some 88), (.mov (.t 89) true none), none⟩]) (.cond (.t 88) (.draw [⟨(some 90), (.fieldA 4 (.t 13)), none⟩, ⟨(some 91), (.load false 1 (.t 90) false), none⟩, ⟨(some 92), (.mov (.t 2) false none), none⟩, ⟨(some 93), (.bin false .or (.t 91) (.t 92)), none⟩, ⟨(some 94), (.fieldA 5 (.t 13)), none⟩, ⟨(some 95), (.load false 1 (.t 94) false), none⟩, ⟨(some 96), (.append 1 8 (.c .nils) (.t 95)), none⟩, ⟨(some 97), (.mov (.t 16) false (some 1)), none⟩, ⟨(some 98), (.append 1 8 (.t 96) (.t 97)), none⟩, ⟨(some 99), (.call 94 [((.t 98), (some 1))] none), none⟩, ⟨(some 20), (.mov (.t 93) true none), none⟩, ⟨(some 21), (.mov (.t 99) true (some 1)), none⟩] [0, 0, 0, 0, 0, 0, 0, 0, 0, 0, 3, 3] []) (.seq (.ops [⟨(some 101), (.bin false .eql (.t 87) (.c (.d (.int .i64 2)))), none⟩, ⟨(some 100), (.mov (.t 101) true none), none⟩]) (.cond (.t 100) (.seq (.ops [⟨(some 102), (.fieldA 4 (.t 13)), none⟩, ⟨(some 103), (.load false 1 (.t 102) false), none⟩, ⟨(some 104), (.mov (.t 2) false none), none⟩, ⟨(some 105), (.bin false .andNot (.t 103) (.t 104)), none⟩, ⟨(some 20), (.mov (.t 105) true none), none⟩, ⟨(some 21), (.mov (.c .nils) true (some 1)), none⟩]) (.seq (.ops [⟨(some 106), (.fieldA 5 (.t 13)), none⟩, ⟨(some 107), (.load false 1 (.t 106) false), none⟩, ⟨(some 108), (.len (.t 107)), none⟩, ⟨(some 109), (.mov (.c (.d (.int .i64 0))) false none), none⟩]) (.block 3 (.loop (.seq (.ops [⟨(some 110), (.bin false .lss (.t 109) (.t 108)), none⟩]) (.seq (.cond (.t 110) .skip (.exit 3)) (.seq (.block 4 (.seq (.ops [⟨(some 111), (.idxA 1 (.t 107) (.t 109)), none⟩, ⟨(some 112), (.load false 1 (.t 111) false), none⟩, ⟨(some 23), (.mov (.t 112) true none), none⟩]) (.seq (.ops [⟨(some 113), (.mov (.t 16) false (some 1)), none⟩, ⟨(some 114), (.mov (.t 23) false none), none⟩, ⟨(some 115), (.call 96 [((.t 113), (some 1)), ((.t 114), none)] none), none⟩, ⟨(some 116), (.not (.t 115)), none⟩]) (.cond (.t 116) (.ops [⟨(some 117), (.mov (.t 21) true (some 1)), none⟩, ⟨(some 118), (.mov (.t 23) false none), none⟩, ⟨(some 119), (.buildSl 1 [(.t 118)]), none⟩, ⟨(some 120), (.append 1 8 (.t 117) (.t 119)), none⟩, ⟨(some 21), (.mov (.t 120) true (some 1)), none⟩]) .skip)))) (.ops [⟨(some 121), (.bin false .add (.t 109) (.c (.d (.int .i64 1)))), none⟩, ⟨(some 109), (.mov (.t 121) true none), none⟩])))))))) .skip)))))) (.seq (.seq (.ops [⟨(some 122), (.mov (.t 20) false none), none⟩, ⟨(some 123), (.fieldA 4 (.t 13)), none⟩, ⟨(some 124), (.load false 1 (.t 123) false), none⟩, ⟨(some 125), (.bin false .eql (.t 122) (.t 124)), none⟩, ⟨(some 126), (.mov (.t 125) true none), none⟩, ⟨(some 127), (.mov (.t 21) false (some 1)), (some (126, true))⟩, ⟨(some 128), (.fieldA 5 (.t 13)), (some (126, true))⟩, ⟨(some 129), (.load false 1 (.t 128) false), (some (126, true))⟩, ⟨(some 130), (.call 87 [((.t 127), (some 1)), ((.t 129), (some 1))] none), (some (126, true))⟩, ⟨(some 131), (.pick (.t 126) (.t 130) (.c (.d (.bool false)))), none⟩]) (.cond (.t 131) (.seq (.ops [⟨(some 10), (.mov (.c .nils) true (some 11)), none⟩, ⟨(some 11), (.mov (.c (.d (.int .i64 0))) true none), none⟩]) .ret) .skip)) (.seq (.seq (.ops [⟨(some 132), (.mov (.t 14) false (some 1)), none⟩, ⟨(some 133), (.len (.t 132)), none⟩, ⟨(some 134), (.bin false .gtr (.t 133) (.c (.d (.int .i64 64)))), none⟩]) (.cond (.t 134) (.seq (.ops [⟨(some 10), (.mov (.c .nils) true (some 11)), none⟩, ⟨(some 11), (.mov (.c (.d (.int .i64 4))) true none), none⟩]) .ret) .skip)) (.seq (.seq (.ops [⟨(some 135), (.fieldA 3 (.t 5)), none⟩, ⟨(some 136), (.load false 1 (.t 135) false), none⟩, ⟨(some 137), (.bin false .geq (.t 136) (.c (.d (.int .i64 1000000)))), none⟩]) (.cond (.t 137) (.seq (.ops [⟨(some 10), (.mov (.c .nils) true (some 11)), none⟩, ⟨(some 11), (.mov (.c (.d (.int .i64 9))) true none), none⟩]) .ret) .skip)) (.seq (.ops [⟨(some 138), (.mov (.t 15) true (some 11)), none⟩, ⟨(some 139), (.mov (.t 1) false none), none⟩, ⟨(some 140), (.fieldA 3 (.t 5)), none⟩, ⟨(some 141), (.load false 1 (.t 140) false), none⟩, ⟨(some 142), (.bin false .add (.t 141) (.c (.d (.int .i64 1)))), none⟩, ⟨(some 143), (.mov (.t 20) false none), none⟩, ⟨(some 144), (.mov (.t 21) false (some 1)), none⟩, ⟨(some 145), (.build [(.d (.int .i64 0)), (.d (.int .i64 0)), (.d (.int .i64 0)), (.d (.str [])), (.d (.int .i64 0)), (.d (.nils 1)), (.d (.str []))] [(4, (1, (.t 143))), (5, (1, (.t 144)))]), none⟩, ⟨(some 146), (.build [(.d (.int .i64 0)), (.d (.int .i64 0)), (.d (.int .i64 0)), (.d (.int .i64 0)), (.d (.int .i64 0)), (.d (.int .i64 0)), (.d (.str [])), (.d (.int .i64 0)), (.d (.nils 1)), (.d (.str [])), (.d (.str []))] [(0, (1, (.c (.d (.int .i64 2))))), (1, (1, (.t 139))), (2, (1, (.t 142))), (3, (7, (.t 145)))]), none⟩, ⟨(some 147), (.buildSl 11 [(.t 146)]), none⟩, ⟨(some 148), (.append 11 128 (.t 138) (.t 147)), none⟩, ⟨(some 10), (.mov (.t 148) true (some 11)), none⟩, ⟨(some 11), (.mov (.c (.d (.int .i64 0))) true none), none⟩]) .ret))))))))))))))), [(.tm 10), (.tm 11)], 5, 149⟩
theorem t42 : trF P HR 42 = some af42 := by kernel_rfl
theorem vc42 (s0 : Bytes) (n1 : Int) (n2 : Int) (n3 : Int) (l4 : List D) (l5 : List D) (n6 : Int) (n7 : Int) (l8 : List D) (n9 : Int) (res : CV) (objs' : List (Nat × List CV)) : walkA P (tbF P [102,103,50,48,53,56,105,58,107,1000118,7000119,107500072,1072002141,86,129,92] [] 42) (anOf af42 []) af42 [CV.d (D.agg [D.str s0, D.int .i64 n1, D.int .i64 n2, D.int .i64 n3, D.slice 1 l4, D.slice 7 l5]), CV.d (D.int .i64 n6), CV.d (D.int .i64 n7), CV.d (D.slice 1 l8), CV.d (D.int .i64 n9)] [] (fun rs => endE rs res objs') = ((∃ n10 : Int, ((Runs P 16 [CV.d (D.agg [D.str s0, D.int .i64 n1, D.int .i64 n2, D.int .i64 n3, D.slice 1 l4, D.slice 7 l5])] [] (CV.d (D.int .i64 n10)) []) ∧ (∀ b11 : Bool, ((n10 != 0 || decide (n7 < 0)) = b11 → (∀ b12 : Bool, ((b11 || decide (n7 > 31)) = b12 → (∃ b13 : Bool, (((!b12) = true → Runs P 91 [CV.d (D.slice 1 l8)] [] (CV.d (D.bool b13)) []) ∧ (∀ b14 : Bool, ((b12 || !b13) = b14 → (∀ b15 : Bool, ((b14 || decide (n9 < 0)) = b15 → (∀ b16 : Bool, ((b15 || decide (n9 > 2)) = b16 → (((b16) = true → EndR (CV.tup [CV.own (11 : Nat) [], CV.d (D.int .i64 (1 : Int))]) res [(5, [CV.d (D.str s0), CV.d (D.int .i64 n1), CV.d (D.int .i64 n2), CV.d (D.int .i64 n3), CV.d (D.slice 1 l4), CV.d (D.slice 7 l5)])] objs') ∧ ((b16) = false → (∃ n17 : Int, ((Runs P 95 [CV.d (D.agg [D.str s0, D.int .i64 n1, D.int .i64 n2, D.int .i64 n3, D.slice 1 l4, D.slice 7 l5]), CV.d (D.int .i64 n6)] [] (CV.d (D.int .i64 n17)) []) ∧ (((decide (n17 < 0)) = true → EndR (CV.tup [CV.own (11 : Nat) [], CV.d (D.int .i64 (6 : Int))]) res [(5, [CV.d (D.str s0), CV.d (D.int .i64 n1), CV.d (D.int .i64 n2), CV.d (D.int .i64 n3), CV.d (D.slice 1 l4), CV.d (D.slice 7 l5)])] objs') ∧ ((decide (n17 < 0)) = false → ((0 ≤ n17 ∧ n17 < nI (List.length l5)) ∧ (∃ n18 : Int, (∃ n19 : Int, (∃ n20 : Int, (∃ s21 : Bytes, (∃ n22 : Int, (∃ l23 : List D, (∃ s24 : Bytes, ((D.cells (List.getD l5 (Int.toNat n17) D.nilp) = [D.int .i64 n18, D.int .i64 n19, D.int .i64 n20, D.str s21, D.int .i64 n22, D.slice 1 l23, D.str s24]) ∧ (∃ l25 : List D, (∃ l26 : List D, ((Runs P 92 [CV.d (D.agg [D.str s0, D.int .i64 n1, D.int .i64 n2, D.int .i64 n3, D.slice 1 l4, D.slice 7 l5]), CV.d (D.slice 1 l8)] [] (CV.tup [CV.own 1 l25, CV.own 11 l26]) []) ∧ (((n9 == 2) = true → (∃ I27 : (List D → (Int → (Nat → Prop))), ((∃ k28 : Nat, I27 [] 0 k28) ∧ (∀ l29 : List D, (∀ n30 : Int, (∀ k31 : Nat, (I27 l29 n30 k31 → (((decide (n30 < nI (List.length l8))) = true → ((0 ≤ n30 ∧ n30 < nI (List.length l8)) ∧ (∃ s32 : Bytes, ((D.cells (List.getD l8 (Int.toNat n30) D.nilp) = [D.str s32]) ∧ (∃ n33 : Int, ((Runs P 93 [CV.d (D.slice 1 l4), CV.d (D.str s32)] [] (CV.d (D.int .i64 n33)) []) ∧ (((decide (n33 ≥ 0)) = true → (((List.length l29 + List.length [D.int .i64 n33]) * 8 ≤ 140737488355328) ∧ (∀ n34 : Int, (Go.IntKind.wrap Go.IntKind.i64 (n30 + 1) = n34 → (∃ k35 : Nat, ((k35 < k31) ∧ I27 (l29 ++ [D.int .i64 n33]) n34 k35)))))) ∧ ((decide (n33 ≥ 0)) = false → (∀ n36 : Int, (Go.IntKind.wrap Go.IntKind.i64 (n30 + 1) = n36 → (∃ k37 : Nat, ((k37 < k31) ∧ I27 l29 n36 k37)))))))))))) ∧ ((decide (n30 < nI (List.length l8))) = false → (∃ l38 : List D, ((Runs P 94 [CV.d (D.slice 1 l29)] [] (CV.d (D.slice 1 l38)) []) ∧ (((n9 == 1) = true → (∀ n39 : Int, (Go.IntKind.wrap Go.IntKind.i64 (nI (BitVec.toNat (BitVec.ofInt (Go.IntKind.bits .i64) n22 ||| BitVec.ofInt (Go.IntKind.bits .i64) n7))) = n39 → ((List.length l23 * 8 ≤ 140737488355328) ∧ (((List.length l23 + List.length l29) * 8 ≤ 140737488355328) ∧ (∃ l40 : List D, ((Runs P 94 [CV.d (D.slice 1 (l23 ++ l29))] [] (CV.d (D.slice 1 l40)) []) ∧ (∃ b41 : Bool, (((n39 == n22) = true → Runs P 87 [CV.d (D.slice 1 l40), CV.d (D.slice 1 l23)] [] (CV.d (D.bool b41)) []) ∧ (∀ b42 : Bool, ((n39 == n22 && b41) = b42 → (((b42) = true → EndR (CV.tup [CV.own (11 : Nat) [], CV.d (D.int .i64 (0 : Int))]) res [(5, [CV.d (D.str s0), CV.d (D.int .i64 n1), CV.d (D.int .i64 n2), CV.d (D.int .i64 n3), CV.d (D.slice 1 l4), CV.d (D.slice 7 l5)]), (13, [CV.d (D.int .i64 n18), CV.d (D.int .i64 n19), CV.d (D.int .i64 n20), CV.d (D.str s21), CV.d (D.int .i64 n22), CV.d (D.slice 1 l23), CV.d (D.str s24)])] objs') ∧ ((b42) = false → (((decide (nI (List.length l4) > 64)) = true → EndR (CV.tup [CV.own (11 : Nat) [], CV.d (D.int .i64 (4 : Int))]) res [(5, [CV.d (D.str s0), CV.d (D.int .i64 n1), CV.d (D.int .i64 n2), CV.d (D.int .i64 n3), CV.d (D.slice 1 l4), CV.d (D.slice 7 l5)]), (13, [CV.d (D.int .i64 n18), CV.d (D.int .i64 n19), CV.d (D.int .i64 n20), CV.d (D.str s21), CV.d (D.int .i64 n22), CV.d (D.slice 1 l23), CV.d (D.str s24)])] objs') ∧ ((decide (nI (List.length l4) > 64)) = false → (((decide (n3 ≥ 1000000)) = true → EndR (CV.tup [CV.own (11 : Nat) [], CV.d (D.int .i64 (9 : Int))]) res [(5, [CV.d (D.str s0), CV.d (D.int .i64 n1), CV.d (D.int .i64 n2), CV.d (D.int .i64 n3), CV.d (D.slice 1 l4), CV.d (D.slice 7 l5)]), (13, [CV.d (D.int .i64 n18), CV.d (D.int .i64 n19), CV.d (D.int .i64 n20), CV.d (D.str s21), CV.d (D.int .i64 n22), CV.d (D.slice 1 l23), CV.d (D.str s24)])] objs') ∧ ((decide (n3 ≥ 1000000)) = false → (∀ n43 : Int, (Go.IntKind.wrap Go.IntKind.i64 (n3 + 1) = n43 → (((0 + List.length [D.agg [D.int .i64 2, D.int .i64 n6, D.int .i64 n43, D.int .i64 0, D.int .i64 0, D.int .i64 0, D.str [], D.int .i64 n39, D.slice 1 l40, D.str [], D.str []]]) * 128 ≤ 140737488355328) ∧ EndR (CV.tup [CV.own 11 [D.agg [D.int .i64 2, D.int .i64 n6, D.int .i64 n43, D.int .i64 0, D.int .i64 0, D.int .i64 0, D.str [], D.int .i64 n39, D.slice 1 l40, D.str [], D.str []]], CV.d (D.int .i64 0)]) res [(5, [CV.d (D.str s0), CV.d (D.int .i64 n1), CV.d (D.int .i64 n2), CV.d (D.int .i64 n3), CV.d (D.slice 1 l4), CV.d (D.slice 7 l5)]), (13, [CV.d (D.int .i64 n18), CV.d (D.int .i64 n19), CV.d (D.int .i64 n20), CV.d (D.str s21), CV.d (D.int .i64 n22), CV.d (D.slice 1 l23), CV.d (D.str s24)])] objs')))))))))))))))))))) ∧ ((n9 == 1) = false → (((n9 == 2) = true → (∀ n44 : Int, (Go.IntKind.wrap Go.IntKind.i64 (nI (BitVec.toNat (BitVec.ofInt (Go.IntKind.bits .i64) n22 &&& ~~~BitVec.ofInt (Go.IntKind.bits .i64) n7))) = n44 → (∃ I45 : (List D → (Int → (Nat → Prop))), ((∃ k46 : Nat, I45 [] 0 k46) ∧ (∀ l47 : List D, (∀ n48 : Int, (∀ k49 : Nat, (I45 l47 n48 k49 → (((decide (n48 < nI (List.length l23))) = true → ((0 ≤ n48 ∧ n48 < nI (List.length l23)) ∧ (∃ n50 : Int, ((D.cells (List.getD l23 (Int.toNat n48) D.nilp) = [D.int .i64 n50]) ∧ (∃ b51 : Bool, ((Runs P 96 [CV.d (D.slice 1 l29), CV.d (D.int .i64 n50)] [] (CV.d (D.bool b51)) []) ∧ (((!b51) = true → (((List.length l47 + List.length [D.int .i64 n50]) * 8 ≤ 140737488355328) ∧ (∀ n52 : Int, (Go.IntKind.wrap Go.IntKind.i64 (n48 + 1) = n52 → (∃ k53 : Nat, ((k53 < k49) ∧ I45 (l47 ++ [D.int .i64 n50]) n52 k53)))))) ∧ ((!b51) = false → (∀ n54 : Int, (Go.IntKind.wrap Go.IntKind.i64 (n48 + 1) = n54 → (∃ k55 : Nat, ((k55 < k49) ∧ I45 l47 n54 k55)))))))))))) ∧ ((decide (n48 < nI (List.length l23))) = false → (∃ b56 : Bool, (((n44 == n22) = true → Runs P 87 [CV.d (D.slice 1 l47), CV.d (D.slice 1 l23)] [] (CV.d (D.bool b56)) []) ∧ (∀ b57 : Bool, ((n44 == n22 && b56) = b57 → (((b57) = true → EndR (CV.tup [CV.own (11 : Nat) [], CV.d (D.int .i64 (0 : Int))]) res [(5, [CV.d (D.str s0), CV.d (D.int .i64 n1), CV.d (D.int .i64 n2), CV.d (D.int .i64 n3), CV.d (D.slice 1 l4), CV.d (D.slice 7 l5)]), (13, [CV.d (D.int .i64 n18), CV.d (D.int .i64 n19), CV.d (D.int .i64 n20), CV.d (D.str s21), CV.d (D.int .i64 n22), CV.d (D.slice 1 l23), CV.d (D.str s24)])] objs') ∧ ((b57) = false → (((decide (nI (List.length l4) > 64)) = true → EndR (CV.tup [CV.own (11 : Nat) [], CV.d (D.int .i64 (4 : Int))]) res [(5, [CV.d (D.str s0), CV.d (D.int .i64 n1), CV.d (D.int .i64 n2), CV.d (D.int .i64 n3), CV.d (D.slice 1 l4), CV.d (D.slice 7 l5)]), (13, [CV.d (D.int .i64 n18), CV.d (D.int .i64 n19), CV.d (D.int .i64 n20), CV.d (D.str s21), CV.d (D.int .i64 n22), CV.d (D.slice 1 l23), CV.d (D.str s24)])] objs') ∧ ((decide (nI (List.length l4) > 64)) = false → (((decide (n3 ≥ 1000000)) = true → EndR (CV.tup [CV.own (11 : Nat) [], CV.d (D.int .i64 (9 : Int))]) res [(5, [CV.d (D.str s0), CV.d (D.int .i64 n1), CV.d (D.int .i64 n2), CV.d (D.int .i64 n3), CV.d (D.slice 1 l4), CV.d (D.slice 7 l5)]), (13, [CV.d (D.int .i64 n18), CV.d (D.int .i64 n19), CV.d (D.int .i64 n20), CV.d (D.str s21), CV.d (D.int .i64 n22), CV.d (D.slice 1 l23), CV.d (D.str s24)])] objs') ∧ ((decide (n3 ≥ 1000000)) = false → (∀ n58 : Int, (Go.IntKind.wrap Go.IntKind.i64 (n3 + 1) = n58 → (((0 + List.length [D.agg [D.int .i64 2, D.int .i64 n6, D.int .i64 n58, D.int .i64 0, D.int .i64 0, D.int .i64 0, D.str [], D.int .i64 n44, D.slice 1 l47, D.str [], D.str []]]) * 128 ≤ 140737488355328) ∧ EndR (CV.tup [CV.own 11 [D.agg [D.int .i64 2, D.int .i64 n6, D.int .i64 n58, D.int .i64 0, D.int .i64 0, D.int .i64 0, D.str [], D.int .i64 n44, D.slice 1 l47, D.str [], D.str []]], CV.d (D.int .i64 0)]) res [(5, [CV.d (D.str s0), CV.d (D.int .i64 n1), CV.d (D.int .i64 n2), CV.d (D.int .i64 n3), CV.d (D.slice 1 l4), CV.d (D.slice 7 l5)]), (13, [CV.d (D.int .i64 n18), CV.d (D.int .i64 n19), CV.d (D.int .i64 n20), CV.d (D.str s21), CV.d (D.int .i64 n22), CV.d (D.slice 1 l23), CV.d (D.str s24)])] objs')))))))))))))))))))))))) ∧ ((n9 == 2) = false → (∃ b59 : Bool, (((n7 == n22) = true → Runs P 87 [CV.d (D.slice 1 l38), CV.d (D.slice 1 l23)] [] (CV.d (D.bool b59)) []) ∧ (∀ b60 : Bool, ((n7 == n22 && b59) = b60 → (((b60) = true → EndR (CV.tup [CV.own (11 : Nat) [], CV.d (D.int .i64 (0 : Int))]) res [(5, [CV.d (D.str s0), CV.d (D.int .i64 n1), CV.d (D.int .i64 n2), CV.d (D.int .i64 n3), CV.d (D.slice 1 l4), CV.d (D.slice 7 l5)]), (13, [CV.d (D.int .i64 n18), CV.d (D.int .i64 n19), CV.d (D.int .i64 n20), CV.d (D.str s21), CV.d (D.int .i64 n22), CV.d (D.slice 1 l23), CV.d (D.str s24)])] objs') ∧ ((b60) = false → (((decide (nI (List.length l4) > 64)) = true → EndR (CV.tup [CV.own (11 : Nat) [], CV.d (D.int .i64 (4 : Int))]) res [(5, [CV.d (D.str s0), CV.d (D.int .i64 n1), CV.d (D.int .i64 n2), CV.d (D.int .i64 n3), CV.d (D.slice 1 l4), CV.d (D.slice 7 l5)]), (13, [CV.d (D.int .i64 n18), CV.d (D.int .i64 n19), CV.d (D.int .i64 n20), CV.d (D.str s21), CV.d (D.int .i64 n22), CV.d (D.slice 1 l23), CV.d (D.str s24)])] objs') ∧ ((decide (nI (List.length l4) > 64)) = false → (((decide (n3 ≥ 1000000)) = true → EndR (CV.tup [CV.own (11 : Nat) [], CV.d (D.int .i64 (9 : Int))]) res [(5, [CV.d (D.str s0), CV.d (D.int .i64 n1), CV.d (D.int .i64 n2), CV.d (D.int .i64 n3), CV.d (D.slice 1 l4), CV.d (D.slice 7 l5)]), (13, [CV.d (D.int .i64 n18), CV.d (D.int .i64 n19), CV.d (D.int .i64 n20), CV.d (D.str s21), CV.d (D.int .i64 n22), CV.d (D.slice 1 l23), CV.d (D.str s24)])] objs') ∧ ((decide (n3 ≥ 1000000)) = false → (∀ n61 : Int, (Go.IntKind.wrap Go.IntKind.i64 (n3 + 1) = n61 → (((0 + List.length [D.agg [D.int .i64 2, D.int .i64 n6, D.int .i64 n61, D.int .i64 0, D.int .i64 0, D.int .i64 0, D.str [], D.int .i64 n7, D.slice 1 l38, D.str [], D.str []]]) * 128 ≤ 140737488355328) ∧ EndR (CV.tup [CV.own 11 [D.agg [D.int .i64 2, D.int .i64 n6, D.int .i64 n61, D.int .i64 0, D.int .i64 0, D.int .i64 0, D.str [], D.int .i64 n7, D.slice 1 l38, D.str [], D.str []]], CV.d (D.int .i64 0)]) res [(5, [CV.d (D.str s0), CV.d (D.int .i64 n1), CV.d (D.int .i64 n2), CV.d (D.int .i64 n3), CV.d (D.slice 1 l4), CV.d (D.slice 7 l5)]), (13, [CV.d (D.int .i64 n18), CV.d (D.int .i64 n19), CV.d (D.int .i64 n20), CV.d (D.str s21), CV.d (D.int .i64 n22), CV.d (D.slice 1 l23), CV.d (D.str s24)])] objs')))))))))))))))))))))))))))) ∧ ((n9 == 2) = false → (∃ I62 : (List D → (Int → (Nat → Prop))), ((∃ k63 : Nat, I62 [] 0 k63) ∧ (∀ l64 : List D, (∀ n65 : Int, (∀ k66 : Nat, (I62 l64 n65 k66 → (((decide (n65 < nI (List.length l8))) = true → ((0 ≤ n65 ∧ n65 < nI (List.length l8)) ∧ (∃ s67 : Bytes, ((D.cells (List.getD l8 (Int.toNat n65) D.nilp) = [D.str s67]) ∧ (∃ n68 : Int, ((Runs P 93 [CV.d (D.slice 1 l25), CV.d (D.str s67)] [] (CV.d (D.int .i64 n68)) []) ∧ (((decide (n68 ≥ 0)) = true → (((List.length l64 + List.length [D.int .i64 n68]) * 8 ≤ 140737488355328) ∧ (∀ n69 : Int, (Go.IntKind.wrap Go.IntKind.i64 (n65 + 1) = n69 → (∃ k70 : Nat, ((k70 < k66) ∧ I62 (l64 ++ [D.int .i64 n68]) n69 k70)))))) ∧ ((decide (n68 ≥ 0)) = false → (∀ n71 : Int, (Go.IntKind.wrap Go.IntKind.i64 (n65 + 1) = n71 → (∃ k72 : Nat, ((k72 < k66) ∧ I62 l64 n71 k72)))))))))))) ∧ ((decide (n65 < nI (List.length l8))) = false → (∃ l73 : List D, ((Runs P 94 [CV.d (D.slice 1 l64)] [] (CV.d (D.slice 1 l73)) []) ∧ (((n9 == 1) = true → (∀ n74 : Int, (Go.IntKind.wrap Go.IntKind.i64 (nI (BitVec.toNat (BitVec.ofInt (Go.IntKind.bits .i64) n22 ||| BitVec.ofInt (Go.IntKind.bits .i64) n7))) = n74 → ((List.length l23 * 8 ≤ 140737488355328) ∧ (((List.length l23 + List.length l64) * 8 ≤ 140737488355328) ∧ (∃ l75 : List D, ((Runs P 94 [CV.d (D.slice 1 (l23 ++ l64))] [] (CV.d (D.slice 1 l75)) []) ∧ (∃ b76 : Bool, (((n74 == n22) = true → Runs P 87 [CV.d (D.slice 1 l75), CV.d (D.slice 1 l23)] [] (CV.d (D.bool b76)) []) ∧ (∀ b77 : Bool, ((n74 == n22 && b76) = b77 → (((b77) = true → EndR (CV.tup [CV.own (11 : Nat) [], CV.d (D.int .i64 (0 : Int))]) res [(5, [CV.d (D.str s0), CV.d (D.int .i64 n1), CV.d (D.int .i64 n2), CV.d (D.int .i64 n3), CV.d (D.slice 1 l4), CV.d (D.slice 7 l5)]), (13, [CV.d (D.int .i64 n18), CV.d (D.int .i64 n19), CV.d (D.int .i64 n20), CV.d (D.str s21), CV.d (D.int .i64 n22), CV.d (D.slice 1 l23), CV.d (D.str s24)])] objs') ∧ ((b77) = false → (((decide (nI (List.length l25) > 64)) = true → EndR (CV.tup [CV.own (11 : Nat) [], CV.d (D.int .i64 (4 : Int))]) res [(5, [CV.d (D.str s0), CV.d (D.int .i64 n1), CV.d (D.int .i64 n2), CV.d (D.int .i64 n3), CV.d (D.slice 1 l4), CV.d (D.slice 7 l5)]), (13, [CV.d (D.int .i64 n18), CV.d (D.int .i64 n19), CV.d (D.int .i64 n20), CV.d (D.str s21), CV.d (D.int .i64 n22), CV.d (D.slice 1 l23), CV.d (D.str s24)])] objs') ∧ ((decide (nI (List.length l25) > 64)) = false → (((decide (n3 ≥ 1000000)) = true → EndR (CV.tup [CV.own (11 : Nat) [], CV.d (D.int .i64 (9 : Int))]) res [(5, [CV.d (D.str s0), CV.d (D.int .i64 n1), CV.d (D.int .i64 n2), CV.d (D.int .i64 n3), CV.d (D.slice 1 l4), CV.d (D.slice 7 l5)]), (13, [CV.d (D.int .i64 n18), CV.d (D.int .i64 n19), CV.d (D.int .i64 n20), CV.d (D.str s21), CV.d (D.int .i64 n22), CV.d (D.slice 1 l23), CV.d (D.str s24)])] objs') ∧ ((decide (n3 ≥ 1000000)) = false → (∀ n78 : Int, (Go.IntKind.wrap Go.IntKind.i64 (n3 + 1) = n78 → (((List.length l26 + List.length [D.agg [D.int .i64 2, D.int .i64 n6, D.int .i64 n78, D.int .i64 0, D.int .i64 0, D.int .i64 0, D.str [], D.int .i64 n74, D.slice 1 l75, D.str [], D.str []]]) * 128 ≤ 140737488355328) ∧ EndR (CV.tup [CV.own 11 (l26 ++ [D.agg [D.int .i64 2, D.int .i64 n6, D.int .i64 n78, D.int .i64 0, D.int .i64 0, D.int .i64 0, D.str [], D.int .i64 n74, D.slice 1 l75, D.str [], D.str []]]), CV.d (D.int .i64 0)]) res [(5, [CV.d (D.str s0), CV.d (D.int .i64 n1), CV.d (D.int .i64 n2), CV.d (D.int .i64 n3), CV.d (D.slice 1 l4), CV.d (D.slice 7 l5)]), (13, [CV.d (D.int .i64 n18), CV.d (D.int .i64 n19), CV.d (D.int .i64 n20), CV.d (D.str s21), CV.d (D.int .i64 n22), CV.d (D.slice 1 l23), CV.d (D.str s24)])] objs')))))))))))))))))))) ∧ ((n9 == 1) = false → (((n9 == 2) = true → (∀ n79 : Int, (Go.IntKind.wrap Go.IntKind.i64 (nI (BitVec.toNat (BitVec.ofInt (Go.IntKind.bits .i64) n22 &&& ~~~BitVec.ofInt (Go.IntKind.bits .i64) n7))) = n79 → (∃ I80 : (List D → (Int → (Nat → Prop))), ((∃ k81 : Nat, I80 [] 0 k81) ∧ (∀ l82 : List D, (∀ n83 : Int, (∀ k84 : Nat, (I80 l82 n83 k84 → (((decide (n83 < nI (List.length l23))) = true → ((0 ≤ n83 ∧ n83 < nI (List.length l23)) ∧ (∃ n85 : Int, ((D.cells (List.getD l23 (Int.toNat n83) D.nilp) = [D.int .i64 n85]) ∧ (∃ b86 : Bool, ((Runs P 96 [CV.d (D.slice 1 l64), CV.d (D.int .i64 n85)] [] (CV.d (D.bool b86)) []) ∧ (((!b86) = true → (((List.length l82 + List.length [D.int .i64 n85]) * 8 ≤ 140737488355328) ∧ (∀ n87 : Int, (Go.IntKind.wrap Go.IntKind.i64 (n83 + 1) = n87 → (∃ k88 : Nat, ((k88 < k84) ∧ I80 (l82 ++ [D.int .i64 n85]) n87 k88)))))) ∧ ((!b86) = false → (∀ n89 : Int, (Go.IntKind.wrap Go.IntKind.i64 (n83 + 1) = n89 → (∃ k90 : Nat, ((k90 < k84) ∧ I80 l82 n89 k90)))))))))))) ∧ ((decide (n83 < nI (List.length l23))) = false → (∃ b91 : Bool, (((n79 == n22) = true → Runs P 87 [CV.d (D.slice 1 l82), CV.d (D.slice 1 l23)] [] (CV.d (D.bool b91)) []) ∧ (∀ b92 : Bool, ((n79 == n22 && b91) = b92 → (((b92) = true → EndR (CV.tup [CV.own (11 : Nat) [], CV.d (D.int .i64 (0 : Int))]) res [(5, [CV.d (D.str s0), CV.d (D.int .i64 n1), CV.d (D.int .i64 n2), CV.d (D.int .i64 n3), CV.d (D.slice 1 l4), CV.d (D.slice 7 l5)]), (13, [CV.d (D.int .i64 n18), CV.d (D.int .i64 n19), CV.d (D.int .i64 n20), CV.d (D.str s21), CV.d (D.int .i64 n22), CV.d (D.slice 1 l23), CV.d (D.str s24)])] objs') ∧ ((b92) = false → (((decide (nI (List.length l25) > 64)) = true → EndR (CV.tup [CV.own (11 : Nat) [], CV.d (D.int .i64 (4 : Int))]) res [(5, [CV.d (D.str s0), CV.d (D.int .i64 n1), CV.d (D.int .i64 n2), CV.d (D.int .i64 n3), CV.d (D.slice 1 l4), CV.d (D.slice 7 l5)]), (13, [CV.d (D.int .i64 n18), CV.d (D.int .i64 n19), CV.d (D.int .i64 n20), CV.d (D.str s21), CV.d (D.int .i64 n22), CV.d (D.slice 1 l23), CV.d (D.str s24)])] objs') ∧ ((decide (nI (List.length l25) > 64)) = false → (((decide (n3 ≥ 1000000)) = true → EndR (CV.tup [CV.own (11 : Nat) [], CV.d (D.int .i64 (9 : Int))]) res [(5, [CV.d (D.str s0), CV.d (D.int .i64 n1), CV.d (D.int .i64 n2), CV.d (D.int .i64 n3), CV.d (D.slice 1 l4), CV.d (D.slice 7 l5)]), (13, [CV.d (D.int .i64 n18), CV.d (D.int .i64 n19), CV.d (D.int .i64 n20), CV.d (D.str s21), CV.d (D.int .i64 n22), CV.d (D.slice 1 l23), CV.d (D.str s24)])] objs') ∧ ((decide (n3 ≥ 1000000)) = false → (∀ n93 : Int, (Go.IntKind.wrap Go.IntKind.i64 (n3 + 1) = n93 → (((List.length l26 + List.length [D.agg [D.int .i64 2, D.int .i64 n6, D.int .i64 n93, D.int .i64 0, D.int .i64 0, D.int .i64 0, D.str [], D.int .i64 n79, D.slice 1 l82, D.str [], D.str []]]) * 128 ≤ 140737488355328) ∧ EndR (CV.tup [CV.own 11 (l26 ++ [D.agg [D.int .i64 2, D.int .i64 n6, D.int .i64 n93, D.int .i64 0, D.int .i64 0, D.int .i64 0, D.str [], D.int .i64 n79, D.slice 1 l82, D.str [], D.str []]]), CV.d (D.int .i64 0)]) res [(5, [CV.d (D.str s0), CV.d (D.int .i64 n1), CV.d (D.int .i64 n2), CV.d (D.int .i64 n3), CV.d (D.slice 1 l4), CV.d (D.slice 7 l5)]), (13, [CV.d (D.int .i64 n18), CV.d (D.int .i64 n19), CV.d (D.int .i64 n20), CV.d (D.str s21), CV.d (D.int .i64 n22), CV.d (D.slice 1 l23), CV.d (D.str s24)])] objs')))))))))))))))))))))))) ∧ ((n9 == 2) = false → (∃ b94 : Bool, (((n7 == n22) = true → Runs P 87 [CV.d (D.slice 1 l73), CV.d (D.slice 1 l23)] [] (CV.d (D.bool b94)) []) ∧ (∀ b95 : Bool, ((n7 == n22 && b94) = b95 → (((b95) = true → EndR (CV.tup [CV.own (11 : Nat) [], CV.d (D.int .i64 (0 : Int))]) res [(5, [CV.d (D.str s0), CV.d (D.int .i64 n1), CV.d (D.int .i64 n2), CV.d (D.int .i64 n3), CV.d (D.slice 1 l4), CV.d (D.slice 7 l5)]), (13, [CV.d (D.int .i64 n18), CV.d (D.int .i64 n19), CV.d (D.int .i64 n20), CV.d (D.str s21), CV.d (D.int .i64 n22), CV.d (D.slice 1 l23), CV.d (D.str s24)])] objs') ∧ ((b95) = false → (((decide (nI (List.length l25) > 64)) = true → EndR (CV.tup [CV.own (11 : Nat) [], CV.d (D.int .i64 (4 : Int))]) res [(5, [CV.d (D.str s0), CV.d (D.int .i64 n1), CV.d (D.int .i64 n2), CV.d (D.int .i64 n3), CV.d (D.slice 1 l4), CV.d (D.slice 7 l5)]), (13, [CV.d (D.int .i64 n18), CV.d (D.int .i64 n19), CV.d (D.int .i64 n20), CV.d (D.str s21), CV.d (D.int .i64 n22), CV.d (D.slice 1 l23), CV.d (D.str s24)])] objs') ∧ ((decide (nI (List.length l25) > 64)) = false → (((decide (n3 ≥ 1000000)) = true → EndR (CV.tup [CV.own (11 : Nat) [], CV.d (D.int .i64 (9 : Int))]) res [(5, [CV.d (D.str s0), CV.d (D.int .i64 n1), CV.d (D.int .i64 n2), CV.d (D.int .i64 n3), CV.d (D.slice 1 l4), CV.d (D.slice 7 l5)]), (13, [CV.d (D.int .i64 n18), CV.d (D.int .i64 n19), CV.d (D.int .i64 n20), CV.d (D.str s21), CV.d (D.int .i64 n22), CV.d (D.slice 1 l23), CV.d (D.str s24)])] objs') ∧ ((decide (n3 ≥ 1000000)) = false → (∀ n96 : Int, (Go.IntKind.wrap Go.IntKind.i64 (n3 + 1) = n96 → (((List.length l26 + List.length [D.agg [D.int .i64 2, D.int .i64 n6, D.int .i64 n96, D.int .i64 0, D.int .i64 0, D.int .i64 0, D.str [], D.int .i64 n7, D.slice 1 l73, D.str [], D.str []]]) * 128 ≤ 140737488355328) ∧ EndR (CV.tup [CV.own 11 (l26 ++ [D.agg [D.int .i64 2, D.int .i64 n6, D.int .i64 n96, D.int .i64 0, D.int .i64 0, D.int .i64 0, D.str [], D.int .i64 n7, D.slice 1 l73, D.str [], D.str []]]), CV.d (D.int .i64 0)]) res [(5, [CV.d (D.str s0), CV.d (D.int .i64 n1), CV.d (D.int .i64 n2), CV.d (D.int .i64 n3), CV.d (D.slice 1 l4), CV.d (D.slice 7 l5)]), (13, [CV.d (D.int .i64 n18), CV.d (D.int .i64 n19), CV.d (D.int .i64 n20), CV.d (D.str s21), CV.d (D.int .i64 n22), CV.d (D.slice 1 l23), CV.d (D.str s24)])] objs')))))))))))))))))))))))))))))))))))))))))))))))))))))))))))))) := by kernel_rfl
def af43 : AF := ⟨(.seq (.ops [⟨(some 2), (.box 6 true (.t 0)), none⟩, ⟨(some 4), (.mov (.c .nils) true (some 11)), none⟩, ⟨(some 5), (.mov (.c (.d (.int .i64 0))) true none), none⟩]) (.seq (.seq (.ops [⟨(some 9), (.load true 6 (.t 2) false), none⟩, ⟨(some 10), (.call 16 [((.t 9), none)] none), none⟩, ⟨(some 11), (.bin false .neq (.t 10) (.c (.d (.int .i64 0)))), none⟩]) (.cond (.t 11) (.seq (.ops [⟨(some 4), (.mov (.c .nils) true (some 11)), none⟩, ⟨(some 5), (.mov (.c (.d (.int .i64 1))) true none), none⟩]) .ret) .skip)) (.seq (.ops [⟨(some 6), (.mov (.c .nils) true (some 11)), none⟩]) (.seq (.seq (.ops [⟨(some 12), (.mov (.t 1) false (some 1)), none⟩, ⟨(some 13), (.len (.t 12)), none⟩, ⟨(some 14), (.mov (.c (.d (.int .i64 0))) false none), none⟩]) (.block 0 (.loop (.seq (.ops [⟨(some 15), (.bin false .lss (.t 14) (.t 13)), none⟩]) (.seq (.cond (.t 15) .skip (.exit 0)) (.seq (.block 1 (.seq (.ops [⟨(some 16), (.mov (.t 14) true none), none⟩, ⟨(some 17), (.idxA 1 (.t 12) (.t 14)), none⟩, ⟨(some 18), (.load false 1 (.t 17) false), none⟩, ⟨(some 7), (.mov (.t 16) true none), none⟩, ⟨(some 8), (.mov (.t 18) true none), none⟩]) (.seq (.seq (.ops [⟨(some 19), (.load true 6 (.t 2) false), none⟩, ⟨(some 20), (.mov (.t 8) false none), none⟩, ⟨(some 21), (.call 95 [((.t 19), none), ((.t 20), none)] none), none⟩, ⟨(some 22), (.bin false .lss (.t 21) (.c (.d (.int .i64 0)))), none⟩, ⟨(some 23), (.mov (.t 22) true none), none⟩, ⟨(some 24), (.mov (.t 1) false (some 1)), (some (23, false))⟩, ⟨(some 25), (.mov (.t 7) false none), (some (23, false))⟩, ⟨(some 26), (.slice 1 (.t 24) none (some (.t 25))), (some (23, false))⟩, ⟨(some 27), (.mov (.t 8) false none), (some (23, false))⟩, ⟨(some 28), (.call 96 [((.t 26), (some 1)), ((.t 27), none)] none), (some (23, false))⟩, ⟨(some 29), (.pick (.t 23) (.c (.d (.bool true))) (.t 28)), none⟩]) (.cond (.t 29) (.seq (.ops [⟨(some 4), (.mov (.c .nils) true (some 11)), none⟩, ⟨(some 5), (.mov (.c (.d (.int .i64 6))) true none), none⟩]) .ret) .skip)) (.ops [⟨(some 30), (.mov (.t 6) true (some 11)), none⟩, ⟨(some 31), (.mov (.t 8) false none), none⟩, ⟨(some 32), (.fieldA 3 (.t 2)), none⟩, ⟨(some 33), (.load false 1 (.t 32) false), none⟩, ⟨(some 34), (.mov (.t 7) false none), none⟩, ⟨(some 35), (.bin false .add (.t 33) (.t 34)), none⟩, ⟨(some 36), (.bin false .add (.t 35) (.c (.d (.int .i64 1)))), none⟩, ⟨(some 37), (.build [(.d (.int .i64 0)), (.d (.int .i64 0)), (.d (.int .i64 0)), (.d (.int .i64 0)), (.d (.int .i64 0)), (.d (.int .i64 0)), (.d (.str [])), (.d (.int .i64 0)), (.d (.nils 1)), (.d (.str [])), (.d (.str []))] [(0, (1, (.c (.d (.int .i64 3))))), (1, (1, (.t 31))), (2, (1, (.t 36)))]), none⟩, ⟨(some 38), (.buildSl 11 [(.t 37)]), none⟩, ⟨(some 39), (.append 11 128 (.t 30) (.t 38)), none⟩, ⟨(some 6), (.mov (.t 39) true (some 11)), none⟩])))) (.ops [⟨(some 40), (.bin false .add (.t 14) (.c (.d (.int .i64 1)))), none⟩, ⟨(some 14), (.mov (.t 40) true none), none⟩]))))))) (.seq (.seq (.ops [⟨(some 41), (.fieldA 3 (.t 2)), none⟩, ⟨(some 42), (.load false 1 (.t 41) false), none⟩, ⟨(some 43), (.mov (.t 1) false (some 1)), none⟩, ⟨(some 44), (.len (.t 43)), none⟩, ⟨(some 45), (.bin false .add (.t 42) (.t 44)), none⟩, ⟨(some 46), (.bin false .gtr (.t 45) (.c (.d (.int .i64 1000000)))), none⟩]) (.cond (.t 46) (.seq (.ops [⟨(some 4), (.mov (.c .nils) true (some 11)), none⟩, ⟨(some 5), (.mov (.c (.d (.int .i64 9))) true none), none⟩]) .ret) .skip)) (.seq (.ops [⟨(some 47), (.mov (.t 6) true (some 11)), none⟩, ⟨(some 4), (.mov (.t 47) true (some 11)), none⟩, ⟨(some 5), (.mov (.c (.d (.int .i64 0))) true none), none⟩]) .ret)))))), [(.tm 4), (.tm 5)], 2, 48⟩
theorem t43 : trF P HR 43 = some af43 := by kernel_rfl
def af44 : AF := ⟨(.seq (.ops [⟨(some 4), (.mov (.c (.d (.bool false))) true none), none⟩]) (.seq (.seq (.ops [⟨(some 6), (.mov (.t 0) false (some 11)), none⟩, ⟨(some 7), (.len (.t 6)), none⟩, ⟨(some 8), (.mov (.t 1) false (some 11)), none⟩, ⟨(some 9), (.len (.t 8)), none⟩, ⟨(some 10), (.bin false .neq (.t 7) (.t 9)), none⟩]) (.cond (.t 10) (.seq (.ops [⟨(some 4), (.mov (.c (.d (.bool false))) true none), none⟩]) .ret) .skip)) (.seq (.seq (.ops [⟨(some 11), (.mov (.t 0) false (some 11)), none⟩, ⟨(some 12), (.len (.t 11)), none⟩, ⟨(some 13), (.mov (.c (.d (.int .i64 0))) false none), none⟩]) (.block 0 (.loop (.seq (.ops [⟨(some 14), (.bin false .lss (.t 13) (.t 12)), none⟩]) (.seq (.cond (.t 14) .skip (.exit 0)) (.seq (.block 1 (.seq (.ops [⟨(some 15), (.mov (.t 13) true none), none⟩, ⟨(some 5), (.mov (.t 15) true none), none⟩]) (.seq (.draw [⟨(some 16), (.mov (.t 0) false (some 11)), none⟩, ⟨(some 17), (.mov (.t 5) false none), none⟩, ⟨(some 18), (.idxA 11 (.t 16) (.t 17)), none⟩, ⟨(some 19), (.load true 11 (.t 18) false), none⟩, ⟨(some 20), (.mov (.t 1) false (some 11)), none⟩, ⟨(some 21), (.mov (.t 5) false none), none⟩, ⟨(some 22), (.idxA 11 (.t 20) (.t 21)), none⟩, ⟨(some 23), (.load true 11 (.t 22) false), none⟩, ⟨(some 24), (.call 97 [((.t 19), none), ((.t 23), none)] none), none⟩, ⟨(some 25), (.not (.t 24)), none⟩] [0, 0, 0, 0, 0, 0, 0, 0, 3, 3] []) (.cond (.t 25) (.seq (.ops [⟨(some 4), (.mov (.c (.d (.bool false))) true none), none⟩]) .ret) .skip)))) (.ops [⟨(some 26), (.bin false .add (.t 13) (.c (.d (.int .i64 1)))), none⟩, ⟨(some 13), (.mov (.t 26) true none), none⟩]))))))) (.seq (.ops [⟨(some 4), (.mov (.c (.d (.bool true))) true none), none⟩]) .ret)))), [(.tm 4)], 2, 27⟩
theorem t44 : trF P HR 44 = some af44 := by kernel_rfl
def af96 : AF := ⟨(.seq (.ops [⟨(some 4), (.mov (.c (.d (.bool false))) true none), none⟩]) (.seq (.seq (.ops [⟨(some 7), (.mov (.t 0) false (some 1)), none⟩, ⟨(some 8), (.len (.t 7)), none⟩, ⟨(some 9), (.mov (.c (.d (.int .i64 0))) false none), none⟩]) (.block 0 (.loop (.seq (.ops [⟨(some 10), (.bin false .lss (.t 9) (.t 8)), none⟩]) (.seq (.cond (.t 10) .skip (.exit 0)) (.seq (.block 1 (.seq (.ops [⟨(some 11), (.idxA 1 (.t 7) (.t 9)), none⟩, ⟨(some 12), (.load false 1 (.t 11) false), none⟩, ⟨(some 6), (.mov (.t 12) true none), none⟩]) (.seq (.ops [⟨(some 13), (.mov (.t 6) false none), none⟩, ⟨(some 14), (.mov (.t 1) false none), none⟩, ⟨(some 15), (.bin false .eql (.t 13) (.t 14)), none⟩]) (.cond (.t 15) (.seq (.ops [⟨(some 4), (.mov (.c (.d (.bool true))) true none), none⟩]) .ret) .skip)))) (.ops [⟨(some 16), (.bin false .add (.t 9) (.c (.d (.int .i64 1)))), none⟩, ⟨(some 9), (.mov (.t 16) true none), none⟩]))))))) (.seq (.ops [⟨(some 4), (.mov (.c (.d (.bool false))) true none), none⟩]) .ret))), [(.tm 4)], 2, 17⟩
theorem t96 : trF P HR 96 = some af96 := by kernel_rfl
def af97 : AF := ⟨(.seq (.ops [⟨(some 2), (.box 11 true (.t 0)), none⟩, ⟨(some 3), (.box 11 true (.t 1)), none⟩, ⟨(some 4), (.mov (.c (.d (.bool false))) true none), none⟩]) (.seq (.ops [⟨(some 5), (.fieldA 0 (.t 2)), none⟩, ⟨(some 6), (.load false 1 (.t 5) false), none⟩, ⟨(some 7), (.fieldA 0 (.t 3)), none⟩, ⟨(some 8), (.load false 1 (.t 7) false), none⟩, ⟨(some 9), (.bin false .eql (.t 6) (.t 8)), none⟩, ⟨(some 10), (.mov (.t 9) true none), none⟩, ⟨(some 11), (.fieldA 1 (.t 2)), (some (10, true))⟩, ⟨(some 12), (.load false 1 (.t 11) false), (some (10, true))⟩, ⟨(some 13), (.fieldA 1 (.t 3)), (some (10, true))⟩, ⟨(some 14), (.load false 1 (.t 13) false), (some (10, true))⟩, ⟨(some 15), (.bin false .eql (.t 12) (.t 14)), (some (10, true))⟩, ⟨(some 16), (.pick (.t 10) (.t 15) (.c (.d (.bool false)))), none⟩, ⟨(some 17), (.mov (.t 16) true none), none⟩, ⟨(some 18), (.fieldA 2 (.t 2)), (some (17, true))⟩, ⟨(some 19), (.load false 1 (.t 18) false), (some (17, true))⟩, ⟨(some 20), (.fieldA 2 (.t 3)), (some (17, true))⟩, ⟨(some 21), (.load false 1 (.t 20) false), (some (17, true))⟩, ⟨(some 22), (.bin false .eql (.t 19) (.t 21)), (some (17, true))⟩, ⟨(some 23), (.pick (.t 17) (.t 22) (.c (.d (.bool false)))), none⟩, ⟨(some 24), (.mov (.t 23) true none), none⟩, ⟨(some 25), (.fieldA 10 (.t 2)), (some (24, true))⟩, ⟨(some 26), (.load false 1 (.t 25) false), (some (24, true))⟩, ⟨(some 27), (.fieldA 10 (.t 3)), (some (24, true))⟩, ⟨(some 28), (.load false 1 (.t 27) false), (some (24, true))⟩, ⟨(some 29), (.bin false .eql (.t 26) (.t 28)), (some (24, true))⟩, ⟨(some 30), (.pick (.t 24) (.t 29) (.c (.d (.bool false)))), none⟩, ⟨(some 31), (.mov (.t 30) true none), none⟩, ⟨(some 32), (.fieldA 3 (.t 2)), (some (31, true))⟩, ⟨(some 33), (.load true 7 (.t 32) false), (some (31, true))⟩, ⟨(some 34), (.fieldA 3 (.t 3)), (some (31, true))⟩, ⟨(some 35), (.load true 7 (.t 34) false), (some (31, true))⟩, ⟨(some 36), (.call 37 [((.t 33), none), ((.t 35), none)] none), (some (31, true))⟩, ⟨(some 37), (.pick (.t 31) (.t 36) (.c (.d (.bool false)))), none⟩, ⟨(some 4), (.mov (.t 37) true none), none⟩]) .ret)), [(.tm 4)], 2, 38⟩
theorem t97 : trF P HR 97 = some af97 := by kernel_rfl
theorem vc43 (s0 : Bytes) (n1 : Int) (n2 : Int) (n3 : Int) (l4 : List D) (l5 : List D) (l6 : List D) (res : CV) (objs' : List (Nat × List CV)) : walkA P (tbF P [102,103,50,48,53,56,105,58,107,1000118,7000119,107500072,1072002141,86,129,92] [] 43) (anOf af43 []) af43 [CV.d (D.agg [D.str s0, D.int .i64 n1, D.int .i64 n2, D.int .i64 n3, D.slice 1 l4, D.slice 7 l5]), CV.d (D.slice 1 l6)] [] (fun rs => endE rs res objs') = ((∃ n7 : Int, ((Runs P 16 [CV.d (D.agg [D.str s0, D.int .i64 n1, D.int .i64 n2, D.int .i64 n3, D.slice 1 l4, D.slice 7 l5])] [] (CV.d (D.int .i64 n7)) []) ∧ (((n7 != 0) = true → EndR (CV.tup [CV.own (11 : Nat) [], CV.d (D.int .i64 (1 : Int))]) res [(2, [CV.d (D.str s0), CV.d (D.int .i64 n1), CV.d (D.int .i64 n2), CV.d (D.int .i64 n3), CV.d (D.slice 1 l4), CV.d (D.slice 7 l5)])] objs') ∧ ((n7 != 0) = false → (∃ I8 : (Int → (List D → (Nat → Prop))), ((∃ k9 : Nat, I8 0 [] k9) ∧ (∀ n10 : Int, (∀ l11 : List D, (∀ k12 : Nat, (I8 n10 l11 k12 → (((decide (n10 < nI (List.length l6))) = true → ((0 ≤ n10 ∧ n10 < nI (List.length l6)) ∧ (∃ n13 : Int, ((D.cells (List.getD l6 (Int.toNat n10) D.nilp) = [D.int .i64 n13]) ∧ (∃ n14 : Int, ((Runs P 95 [CV.d (D.agg [D.str s0, D.int .i64 n1, D.int .i64 n2, D.int .i64 n3, D.slice 1 l4, D.slice 7 l5]), CV.d (D.int .i64 n13)] [] (CV.d (D.int .i64 n14)) []) ∧ (((!decide (n14 < 0)) = true → 0 ≤ nI (0 : Nat) ∧ nI (0 : Nat) ≤ n10 ∧ n10 ≤ nI (List.length l6)) ∧ (∀ l15 : List D, (List.drop (Int.toNat (nI (0 : Nat))) (List.take (Int.toNat n10) l6) = l15 → (∃ b16 : Bool, (((!decide (n14 < 0)) = true → Runs P 96 [CV.d (D.slice 1 l15), CV.d (D.int .i64 n13)] [] (CV.d (D.bool b16)) []) ∧ (∀ b17 : Bool, ((decide (n14 < 0) || b16) = b17 → (((b17) = true → EndR (CV.tup [CV.own (11 : Nat) [], CV.d (D.int .i64 (6 : Int))]) res [(2, [CV.d (D.str s0), CV.d (D.int .i64 n1), CV.d (D.int .i64 n2), CV.d (D.int .i64 n3), CV.d (D.slice 1 l4), CV.d (D.slice 7 l5)])] objs') ∧ ((b17) = false → (∀ n18 : Int, (Go.IntKind.wrap Go.IntKind.i64 (n3 + n10) = n18 → (∀ n19 : Int, (Go.IntKind.wrap Go.IntKind.i64 (n18 + 1) = n19 → (((List.length l11 + List.length [D.agg [D.int .i64 3, D.int .i64 n13, D.int .i64 n19, D.int .i64 0, D.int .i64 0, D.int .i64 0, D.str [], D.int .i64 0, D.slice 1 [], D.str [], D.str []]]) * 128 ≤ 140737488355328) ∧ (∀ n20 : Int, (Go.IntKind.wrap Go.IntKind.i64 (n10 + 1) = n20 → (∃ k21 : Nat, ((k21 < k12) ∧ I8 n20 (l11 ++ [D.agg [D.int .i64 3, D.int .i64 n13, D.int .i64 n19, D.int .i64 0, D.int .i64 0, D.int .i64 0, D.str [], D.int .i64 0, D.slice 1 [], D.str [], D.str []]]) k21)))))))))))))))))))))))) ∧ ((decide (n10 < nI (List.length l6))) = false → (∀ n22 : Int, (Go.IntKind.wrap Go.IntKind.i64 (n3 + nI (List.length l6)) = n22 → (((decide (n22 > 1000000)) = true → EndR (CV.tup [CV.own (11 : Nat) [], CV.d (D.int .i64 (9 : Int))]) res [(2, [CV.d (D.str s0), CV.d (D.int .i64 n1), CV.d (D.int .i64 n2), CV.d (D.int .i64 n3), CV.d (D.slice 1 l4), CV.d (D.slice 7 l5)])] objs') ∧ ((decide (n22 > 1000000)) = false → EndR (CV.tup [CV.own 11 l11, CV.d (D.int .i64 0)]) res [(2, [CV.d (D.str s0), CV.d (D.int .i64 n1), CV.d (D.int .i64 n2), CV.d (D.int .i64 n3), CV.d (D.slice 1 l4), CV.d (D.slice 7 l5)])] objs'))))))))))))))))) := by kernel_rfl
theorem vc96 (l0 : List D) (n1 : Int) (res : CV) (objs' : List (Nat × List CV)) : walkA P (tbF P [102,103,50,48,53,56,105,58,107,1000118,7000119,107500072,1072002141,86,129,92] [] 96) (anOf af96 []) af96 [CV.d (D.slice 1 l0), CV.d (D.int .i64 n1)] [] (fun rs => endE rs res objs') = ((∃ I2 : (Int → (Nat → Prop)), ((∃ k3 : Nat, I2 0 k3) ∧ (∀ n4 : Int, (∀ k5 : Nat, (I2 n4 k5 → (((decide (n4 < nI (List.length l0))) = true → ((0 ≤ n4 ∧ n4 < nI (List.length l0)) ∧ (∃ n6 : Int, ((D.cells (List.getD l0 (Int.toNat n4) D.nilp) = [D.int .i64 n6]) ∧ (((n6 == n1) = true → EndR (CV.d (D.bool true)) res [] objs') ∧ ((n6 == n1) = false → (∀ n7 : Int, (Go.IntKind.wrap Go.IntKind.i64 (n4 + 1) = n7 → (∃ k8 : Nat, ((k8 < k5) ∧ I2 n7 k8)))))))))) ∧ ((decide (n4 < nI (List.length l0))) = false → EndR (CV.d (D.bool false)) res [] objs')))))))) := by kernel_rfl
theorem vc97 (n0 : Int) (n1 : Int) (n2 : Int) (n3 : Int) (n4 : Int) (n5 : Int) (s6 : Bytes) (n7 : Int) (l8 : List D) (s9 : Bytes) (s10 : Bytes) (n11 : Int) (n12 : Int) (n13 : Int) (n14 : Int) (n15 : Int) (n16 : Int) (s17 : Bytes) (n18 : Int) (l19 : List D) (s20 : Bytes) (s21 : Bytes) (res : CV) (objs' : List (Nat × List CV)) : walkA P (tbF P [102,103,50,48,53,56,105,58,107,1000118,7000119,107500072,1072002141,86,129,92] [] 97) (anOf af97 []) af97 [CV.d (D.agg [D.int .i64 n0, D.int .i64 n1, D.int .i64 n2, D.int .i64 n3, D.int .i64 n4, D.int .i64 n5, D.str s6, D.int .i64 n7, D.slice 1 l8, D.str s9, D.str s10]), CV.d (D.agg [D.int .i64 n11, D.int .i64 n12, D.int .i64 n13, D.int .i64 n14, D.int .i64 n15, D.int .i64 n16, D.str s17, D.int .i64 n18, D.slice 1 l19, D.str s20, D.str s21])] [] (fun rs => endE rs res objs') = ((∀ b22 : Bool, ((n0 == n11 && n1 == n12) = b22 → (∀ b23 : Bool, ((b22 && n2 == n13) = b23 → (∀ b24 : Bool, ((b23 && s10 == s21) = b24 → (∃ b25 : Bool, ((b24 = true → Runs P 37 [CV.d (D.agg [D.int .i64 n3, D.int .i64 n4, D.int .i64 n5, D.str s6, D.int .i64 n7, D.slice 1 l8, D.str s9]), CV.d (D.agg [D.int .i64 n14, D.int .i64 n15, D.int .i64 n16, D.str s17, D.int .i64 n18, D.slice 1 l19, D.str s20])] [] (CV.d (D.bool b25)) []) ∧ (∀ b26 : Bool, ((b24 && b25) = b26 → EndR (CV.d (D.bool b26)) res [(2, [CV.d (D.int .i64 n0), CV.d (D.int .i64 n1), CV.d (D.int .i64 n2), CV.d (D.int .i64 n3), CV.d (D.int .i64 n4), CV.d (D.int .i64 n5), CV.d (D.str s6), CV.d (D.int .i64 n7), CV.d (D.slice 1 l8), CV.d (D.str s9), CV.d (D.str s10)]), (3, [CV.d (D.int .i64 n11), CV.d (D.int .i64 n12), CV.d (D.int .i64 n13), CV.d (D.int .i64 n14), CV.d (D.int .i64 n15), CV.d (D.int .i64 n16), CV.d (D.str s17), CV.d (D.int .i64 n18), CV.d (D.slice 1 l19), CV.d (D.str s20), CV.d (D.str s21)])] objs'))))))))))) := by kernel_rfl
theorem vc44 (l0 : List D) (l1 : List D) (res : CV) (objs' : List (Nat × List CV)) : walkA P (tbF P [102,103,50,48,53,56,105,58,107,1000118,7000119,107500072,1072002141,86,129,92] [] 44) (anOf af44 []) af44 [CV.d (D.slice 11 l0), CV.d (D.slice 11 l1)] [] (fun rs => endE rs res objs') = ((((nI (List.length l0) != nI (List.length l1)) = true → EndR (CV.d (D.bool false)) res [] objs') ∧ ((nI (List.length l0) != nI (List.length l1)) = false → (∃ I2 : (Int → (Nat → Prop)), ((∃ k3 : Nat, I2 0 k3) ∧ (∀ n4 : Int, (∀ k5 : Nat, (I2 n4 k5 → (((decide (n4 < nI (List.length l0))) = true → ((0 ≤ n4 ∧ n4 < nI (List.length l0)) ∧ (∃ n6 : Int, (∃ n7 : Int, (∃ n8 : Int, (∃ n9 : Int, (∃ n10 : Int, (∃ n11 : Int, (∃ s12 : Bytes, (∃ n13 : Int, (∃ l14 : List D, (∃ s15 : Bytes, (∃ s16 : Bytes, ((D.cells (List.getD l0 (Int.toNat n4) D.nilp) = [D.int .i64 n6, D.int .i64 n7, D.int .i64 n8, D.int .i64 n9, D.int .i64 n10, D.int .i64 n11, D.str s12, D.int .i64 n13, D.slice 1 l14, D.str s15, D.str s16]) ∧ ((0 ≤ n4 ∧ n4 < nI (List.length l1)) ∧ (∃ n17 : Int, (∃ n18 : Int, (∃ n19 : Int, (∃ n20 : Int, (∃ n21 : Int, (∃ n22 : Int, (∃ s23 : Bytes, (∃ n24 : Int, (∃ l25 : List D, (∃ s26 : Bytes, (∃ s27 : Bytes, ((D.cells (List.getD l1 (Int.toNat n4) D.nilp) = [D.int .i64 n17, D.int .i64 n18, D.int .i64 n19, D.int .i64 n20, D.int .i64 n21, D.int .i64 n22, D.str s23, D.int .i64 n24, D.slice 1 l25, D.str s26, D.str s27]) ∧ (∃ b28 : Bool, ((Runs P 97 [CV.d (D.agg [D.int .i64 n6, D.int .i64 n7, D.int .i64 n8, D.int .i64 n9, D.int .i64 n10, D.int .i64 n11, D.str s12, D.int .i64 n13, D.slice 1 l14, D.str s15, D.str s16]), CV.d (D.agg [D.int .i64 n17, D.int .i64 n18, D.int .i64 n19, D.int .i64 n20, D.int .i64 n21, D.int .i64 n22, D.str s23, D.int .i64 n24, D.slice 1 l25, D.str s26, D.str s27])] [] (CV.d (D.bool b28)) []) ∧ (((!b28) = true → EndR (CV.d (D.bool false)) res [] objs') ∧ ((!b28) = false → (∀ n29 : Int, (Go.IntKind.wrap Go.IntKind.i64 (n4 + 1) = n29 → (∃ k30 : Nat, ((k30 < k5) ∧ I2 n29 k30))))))))))))))))))))))))))))))))))) ∧ ((decide (n4 < nI (List.length l0))) = false → EndR (CV.d (D.bool true)) res [] objs')))))))))) := by kernel_rfl
def af91 : AF := ⟨(.seq (.ops [⟨(some 2), (.mov (.c (.d (.bool false))) true none), none⟩]) (.seq (.seq (.ops [⟨(some 5), (.mov (.t 0) false (some 1)), none⟩, ⟨(some 6), (.len (.t 5)), none⟩, ⟨(some 7), (.mov (.c (.d (.int .i64 0))) false none), none⟩]) (.block 0 (.loop (.seq (.ops [⟨(some 8), (.bin false .lss (.t 7) (.t 6)), none⟩]) (.seq (.cond (.t 8) .skip (.exit 0)) (.seq (.block 1 (.seq (.ops [⟨(some 9), (.mov (.t 7) true none), none⟩, ⟨(some 10), (.idxA 1 (.t 5) (.t 7)), none⟩, ⟨(some 11), (.load false 1 (.t 10) false), none⟩, ⟨(some 3), (.mov (.t 9) true none), none⟩, ⟨(some 4), (.mov (.t 11) true none), none⟩]) (.seq (.ops [⟨(some 12), (.mov (.t 4) false none), none⟩, ⟨(some 13), (.call 45 [((.t 12), none)] none), none⟩, ⟨(some 14), (.not (.t 13)), none⟩, ⟨(some 15), (.mov (.t 14) true none), none⟩, ⟨(some 16), (.mov (.t 0) false (some 1)), (some (15, false))⟩, ⟨(some 17), (.mov (.t 3) false none), (some (15, false))⟩, ⟨(some 18), (.slice 1 (.t 16) none (some (.t 17))), (some (15, false))⟩, ⟨(some 19), (.mov (.t 4) false none), (some (15, false))⟩, ⟨(some 20), (.call 36 [((.t 18), (some 1)), ((.t 19), none)] none), (some (15, false))⟩, ⟨(some 21), (.pick (.t 15) (.c (.d (.bool true))) (.t 20)), none⟩]) (.cond (.t 21) (.seq (.ops [⟨(some 2), (.mov (.c (.d (.bool false))) true none), none⟩]) .ret) .skip)))) (.ops [⟨(some 22), (.bin false .add (.t 7) (.c (.d (.int .i64 1)))), none⟩, ⟨(some 7), (.mov (.t 22) true none), none⟩]))))))) (.seq (.ops [⟨(some 2), (.mov (.c (.d (.bool true))) true none), none⟩]) .ret))), [(.tm 2)], 1, 23⟩
theorem t91 : trF P HR 91 = some af91 := by kernel_rfl
def af92 : AF := ⟨(.seq (.ops [⟨(some 2), (.box 6 true (.t 0)), none⟩, ⟨(some 4), (.mov (.c .nils) true (some 1)), none⟩, ⟨(some 5), (.mov (.c .nils) true (some 11)), none⟩]) (.seq (.ops [⟨(some 10), (.fieldA 4 (.t 2)), none⟩, ⟨(some 11), (.load false 1 (.t 10) false), none⟩, ⟨(some 12), (.append 1 16 (.c .nils) (.t 11)), none⟩, ⟨(some 6), (.mov (.t 12) true (some 1)), none⟩]) (.seq (.ops [⟨(some 7), (.mov (.c .nils) true (some 11)), none⟩]) (.seq (.seq (.ops [⟨(some 13), (.mov (.t 1) false (some 1)), none⟩, ⟨(some 14), (.len (.t 13)), none⟩, ⟨(some 15), (.mov (.c (.d (.int .i64 0))) false none), none⟩]) (.block 0 (.loop (.seq (.ops [⟨(some 16), (.bin false .lss (.t 15) (.t 14)), none⟩]) (.seq (.cond (.t 16) .skip (.exit 0)) (.seq (.block 1 (.seq (.ops [⟨(some 17), (.idxA 1 (.t 13) (.t 15)), none⟩, ⟨(some 18), (.load false 1 (.t 17) false), none⟩, ⟨(some 9), (.mov (.t 18) true none), none⟩]) (.seq (.ops [⟨(some 19), (.mov (.t 6) false (some 1)), none⟩, ⟨(some 20), (.mov (.t 9) false none), none⟩, ⟨(some 21), (.call 36 [((.t 19), (some 1)), ((.t 20), none)] none), none⟩, ⟨(some 22), (.not (.t 21)), none⟩]) (.cond (.t 22) (.seq (.ops [⟨(some 23), (.mov (.t 6) true (some 1)), none⟩, ⟨(some 24), (.mov (.t 9) false none), none⟩, ⟨(some 25), (.buildSl 1 [(.t 24)]), none⟩, ⟨(some 26), (.append 1 16 (.t 23) (.t 25)), none⟩, ⟨(some 6), (.mov (.t 26) true (some 1)), none⟩]) (.ops [⟨(some 27), (.mov (.t 7) true (some 11)), none⟩, ⟨(some 28), (.mov (.t 9) false none), none⟩, ⟨(some 29), (.build [(.d (.int .i64 0)), (.d (.int .i64 0)), (.d (.int .i64 0)), (.d (.int .i64 0)), (.d (.int .i64 0)), (.d (.int .i64 0)), (.d (.str [])), (.d (.int .i64 0)), (.d (.nils 1)), (.d (.str [])), (.d (.str []))] [(0, (1, (.c (.d (.int .i64 4))))), (10, (1, (.t 28)))]), none⟩, ⟨(some 30), (.buildSl 11 [(.t 29)]), none⟩, ⟨(some 31), (.append 11 128 (.t 27) (.t 30)), none⟩, ⟨(some 7), (.mov (.t 31) true (some 11)), none⟩])) .skip)))) (.ops [⟨(some 32), (.bin false .add (.t 15) (.c (.d (.int .i64 1)))), none⟩, ⟨(some 15), (.mov (.t 32) true none), none⟩]))))))) (.seq (.ops [⟨(some 33), (.mov (.t 6) true (some 1)), none⟩, ⟨(some 34), (.mov (.t 7) true (some 11)), none⟩, ⟨(some 4), (.mov (.t 33) true (some 1)), none⟩, ⟨(some 5), (.mov (.t 34) true (some 11)), none⟩]) .ret))))), [(.tm 4), (.tm 5)], 2, 35⟩
theorem t92 : trF P HR 92 = some af92 := by kernel_rfl
def af93 : AF := ⟨(.seq (.ops [⟨(some 4), (.mov (.c (.d (.int .i64 0))) true none), none⟩]) (.seq (.seq (.ops [⟨(some 7), (.mov (.t 0) false (some 1)), none⟩, ⟨(some 8), (.len (.t 7)), none⟩, ⟨(some 9), (.mov (.c (.d (.int .i64 0))) false none), none⟩]) (.block 0 (.loop (.seq (.ops [⟨(some 10), (.bin false .lss (.t 9) (.t 8)), none⟩]) (.seq (.cond (.t 10) .skip (.exit 0)) (.seq (.block 1 (.seq (.ops [⟨(some 11), (.mov (.t 9) true none), none⟩, ⟨(some 12), (.idxA 1 (.t 7) (.t 9)), none⟩, ⟨(some 13), (.load false 1 (.t 12) false), none⟩, ⟨(some 5), (.mov (.t 11) true none), none⟩, ⟨(some 6), (.mov (.t 13) true none), none⟩]) (.seq (.ops [⟨(some 14), (.mov (.t 6) false none), none⟩, ⟨(some 15), (.mov (.t 1) false none), none⟩, ⟨(some 16), (.bin false .eql (.t 14) (.t 15)), none⟩]) (.cond (.t 16) (.seq (.ops [⟨(some 17), (.mov (.t 5) true none), none⟩, ⟨(some 4), (.mov (.t 17) true none), none⟩]) .ret) .skip)))) (.ops [⟨(some 18), (.bin false .add (.t 9) (.c (.d (.int .i64 1)))), none⟩, ⟨(some 9), (.mov (.t 18) true none), none⟩]))))))) (.seq (.ops [⟨(some 4), (.mov (.c (.d (.int .i64 (-1)))) true none), none⟩]) .ret))), [(.tm 4)], 2, 19⟩
theorem t93 : trF P HR 93 = some af93 := by kernel_rfl
theorem vc91 (l0 : List D) (res : CV) (objs' : List (Nat × List CV)) : walkA P (tbF P [102,103,50,48,53,56,105,58,107,1000118,7000119,107500072,1072002141,86,129,92] [] 91) (anOf af91 []) af91 [CV.d (D.slice 1 l0)] [] (fun rs => endE rs res objs') = ((∃ I1 : (Int → (Nat → Prop)), ((∃ k2 : Nat, I1 0 k2) ∧ (∀ n3 : Int, (∀ k4 : Nat, (I1 n3 k4 → (((decide (n3 < nI (List.length l0))) = true → ((0 ≤ n3 ∧ n3 < nI (List.length l0)) ∧ (∃ s5 : Bytes, ((D.cells (List.getD l0 (Int.toNat n3) D.nilp) = [D.str s5]) ∧ (∃ b6 : Bool, ((Runs P 45 [CV.d (D.str s5)] [] (CV.d (D.bool b6)) []) ∧ (((!!b6) = true → 0 ≤ nI (0 : Nat) ∧ nI (0 : Nat) ≤ n3 ∧ n3 ≤ nI (List.length l0)) ∧ (∀ l7 : List D, (List.drop (Int.toNat (nI (0 : Nat))) (List.take (Int.toNat n3) l0) = l7 → (∃ b8 : Bool, (((!!b6) = true → Runs P 36 [CV.d (D.slice 1 l7), CV.d (D.str s5)] [] (CV.d (D.bool b8)) []) ∧ (∀ b9 : Bool, ((!b6 || b8) = b9 → (((b9) = true → EndR (CV.d (D.bool false)) res [] objs') ∧ ((b9) = false → (∀ n10 : Int, (Go.IntKind.wrap Go.IntKind.i64 (n3 + 1) = n10 → (∃ k11 : Nat, ((k11 < k4) ∧ I1 n10 k11))))))))))))))))))) ∧ ((decide (n3 < nI (List.length l0))) = false → EndR (CV.d (D.bool true)) res [] objs')))))))) := by kernel_rfl
theorem vc92 (s0 : Bytes) (n1 : Int) (n2 : Int) (n3 : Int) (l4 : List D) (l5 : List D) (l6 : List D) (res : CV) (objs' : List (Nat × List CV)) : walkA P (tbF P [102,103,50,48,53,56,105,58,107,1000118,7000119,107500072,1072002141,86,129,92] [] 92) (anOf af92 []) af92 [CV.d (D.agg [D.str s0, D.int .i64 n1, D.int .i64 n2, D.int .i64 n3, D.slice 1 l4, D.slice 7 l5]), CV.d (D.slice 1 l6)] [] (fun rs => endE rs res objs') = (((List.length l4 * 16 ≤ 140737488355328) ∧ (∃ I7 : (List D → (List D → (Int → (Nat → Prop)))), ((∃ k8 : Nat, I7 l4 [] 0 k8) ∧ (∀ l9 : List D, (∀ l10 : List D, (∀ n11 : Int, (∀ k12 : Nat, (I7 l9 l10 n11 k12 → (((decide (n11 < nI (List.length l6))) = true → ((0 ≤ n11 ∧ n11 < nI (List.length l6)) ∧ (∃ s13 : Bytes, ((D.cells (List.getD l6 (Int.toNat n11) D.nilp) = [D.str s13]) ∧ (∃ b14 : Bool, ((Runs P 36 [CV.d (D.slice 1 l9), CV.d (D.str s13)] [] (CV.d (D.bool b14)) []) ∧ (((!b14) = true → (((List.length l9 + List.length [D.str s13]) * 16 ≤ 140737488355328) ∧ (((List.length l10 + List.length [D.agg [D.int .i64 4, D.int .i64 0, D.int .i64 0, D.int .i64 0, D.int .i64 0, D.int .i64 0, D.str [], D.int .i64 0, D.slice 1 [], D.str [], D.str s13]]) * 128 ≤ 140737488355328) ∧ (∀ n15 : Int, (Go.IntKind.wrap Go.IntKind.i64 (n11 + 1) = n15 → (∃ k16 : Nat, ((k16 < k12) ∧ I7 (l9 ++ [D.str s13]) (l10 ++ [D.agg [D.int .i64 4, D.int .i64 0, D.int .i64 0, D.int .i64 0, D.int .i64 0, D.int .i64 0, D.str [], D.int .i64 0, D.slice 1 [], D.str [], D.str s13]]) n15 k16))))))) ∧ ((!b14) = false → (∀ n17 : Int, (Go.IntKind.wrap Go.IntKind.i64 (n11 + 1) = n17 → (∃ k18 : Nat, ((k18 < k12) ∧ I7 l9 l10 n17 k18)))))))))))) ∧ ((decide (n11 < nI (List.length l6))) = false → EndR (CV.tup [CV.own 1 l9, CV.own 11 l10]) res [(2, [CV.d (D.str s0), CV.d (D.int .i64 n1), CV.d (D.int .i64 n2), CV.d (D.int .i64 n3), CV.d (D.slice 1 l4), CV.d (D.slice 7 l5)])] objs'))))))))))) := by kernel_rfl
theorem vc93 (l0 : List D) (s1 : Bytes) (res : CV) (objs' : List (Nat × List CV)) : walkA P (tbF P [102,103,50,48,53,56,105,58,107,1000118,7000119,107500072,1072002141,86,129,92] [] 93) (anOf af93 []) af93 [CV.d (D.slice 1 l0), CV.d (D.str s1)] [] (fun rs => endE rs res objs') = ((∃ I2 : (Int → (Nat → Prop)), ((∃ k3 : Nat, I2 0 k3) ∧ (∀ n4 : Int, (∀ k5 : Nat, (I2 n4 k5 → (((decide (n4 < nI (List.length l0))) = true → ((0 ≤ n4 ∧ n4 < nI (List.length l0)) ∧ (∃ s6 : Bytes, ((D.cells (List.getD l0 (Int.toNat n4) D.nilp) = [D.str s6]) ∧ (((s6 == s1) = true → EndR (CV.d (D.int .i64 n4)) res [] objs') ∧ ((s6 == s1) = false → (∀ n7 : Int, (Go.IntKind.wrap Go.IntKind.i64 (n4 + 1) = n7 → (∃ k8 : Nat, ((k8 < k5) ∧ I2 n7 k8)))))))))) ∧ ((decide (n4 < nI (List.length l0))) = false → EndR (CV.d (D.int .i64 (-1 : Int))) res [] objs')))))))) := by kernel_rfl
def af94 : AF := ⟨(.seq (.ops [⟨(some 2), (.mov (.c .nils) true (some 1)), none⟩]) (.seq (.ops [⟨(some 3), (.mov (.c .nils) true (some 1)), none⟩]) (.seq (.seq (.ops [⟨(some 7), (.mov (.t 0) false (some 1)), none⟩, ⟨(some 8), (.len (.t 7)), none⟩, ⟨(some 9), (.mov (.c (.d (.int .i64 0))) false none), none⟩]) (.block 0 (.loop (.seq (.ops [⟨(some 10), (.bin false .lss (.t 9) (.t 8)), none⟩]) (.seq (.cond (.t 10) .skip (.exit 0)) (.seq (.block 1 (.seq (.ops [⟨(some 11), (.idxA 1 (.t 7) (.t 9)), none⟩, ⟨(some 12), (.load false 1 (.t 11) false), none⟩, ⟨(some 5), (.mov (.t 12) true none), none⟩]) (.seq (.ops [⟨(some 6), (.mov (.c (.d (.int .i64 0))) true none), none⟩]) (.seq (.block 2 (.loop (.seq (.seq (.ops [⟨(some 13), (.mov (.t 6) false none), none⟩, ⟨(some 14), (.mov (.t 3) false (some 1)), none⟩, ⟨(some 15), (.len (.t 14)), none⟩, ⟨(some 16), (.bin false .lss (.t 13) (.t 15)), none⟩, ⟨(some 17), (.mov (.t 16) true none), none⟩, ⟨(some 18), (.mov (.t 3) false (some 1)), (some (17, true))⟩, ⟨(some 19), (.mov (.t 6) false none), (some (17, true))⟩, ⟨(some 20), (.idxA 1 (.t 18) (.t 19)), (some (17, true))⟩, ⟨(some 21), (.load false 1 (.t 20) false), (some (17, true))⟩, ⟨(some 22), (.mov (.t 5) false none), (some (17, true))⟩, ⟨(some 23), (.bin false .lss (.t 21) (.t 22)), (some (17, true))⟩, ⟨(some 24), (.pick (.t 17) (.t 23) (.c (.d (.bool false)))), none⟩]) (.cond (.t 24) .skip (.exit 2))) (.block 3 (.ops [⟨(some 25), (.mov (.t 6) false none), none⟩, ⟨(some 26), (.bin false .add (.t 25) (.c (.d (.int .i64 1)))), none⟩, ⟨(some 6), (.mov (.t 26) true none), none⟩]))))) (.seq (.ops [⟨(some 27), (.mov (.t 6) false none), none⟩, ⟨(some 28), (.mov (.t 3) false (some 1)), none⟩, ⟨(some 29), (.len (.t 28)), none⟩, ⟨(some 30), (.bin false .eql (.t 27) (.t 29)), none⟩, ⟨(some 31), (.mov (.t 30) true none), none⟩, ⟨(some 32), (.mov (.t 3) false (some 1)), (some (31, false))⟩, ⟨(some 33), (.mov (.t 6) false none), (some (31, false))⟩, ⟨(some 34), (.idxA 1 (.t 32) (.t 33)), (some (31, false))⟩, ⟨(some 35), (.load false 1 (.t 34) false), (some (31, false))⟩, ⟨(some 36), (.mov (.t 5) false none), (some (31, false))⟩, ⟨(some 37), (.bin false .neq (.t 35) (.t 36)), (some (31, false))⟩, ⟨(some 38), (.pick (.t 31) (.c (.d (.bool true))) (.t 37)), none⟩]) (.cond (.t 38) (.draw [⟨(some 39), (.mov (.t 3) false (some 1)), none⟩, ⟨(some 40), (.mov (.t 6) false none), none⟩, ⟨(some 41), (.slice 1 (.t 39) none (some (.t 40))), none⟩, ⟨(some 42), (.append 1 8 (.c .nils) (.t 41)), none⟩, ⟨(some 43), (.mov (.t 5) false none), none⟩, ⟨(some 44), (.buildSl 1 [(.t 43)]), none⟩, ⟨(some 45), (.append 1 8 (.t 42) (.t 44)), none⟩, ⟨(some 46), (.mov (.t 3) false (some 1)), none⟩, ⟨(some 47), (.mov (.t 6) false none), none⟩, ⟨(some 48), (.slice 1 (.t 46) (some (.t 47)) none), none⟩, ⟨(some 49), (.append 1 8 (.t 45) (.t 48)), none⟩, ⟨(some 3), (.mov (.t 49) true (some 1)), none⟩] [0, 0, 0, 0, 0, 0, 0, 0, 0, 0, 3, 3] []) .skip)))))) (.ops [⟨(some 50), (.bin false .add (.t 9) (.c (.d (.int .i64 1)))), none⟩, ⟨(some 9), (.mov (.t 50) true none), none⟩]))))))) (.seq (.ops [⟨(some 51), (.mov (.t 3) true (some 1)), none⟩, ⟨(some 2), (.mov (.t 51) true (some 1)), none⟩]) .ret)))), [(.tm 2)], 1, 52⟩
theorem t94 : trF P HR 94 = some af94 := by kernel_rfl
def af95 : AF := ⟨(.seq (.ops [⟨(some 2), (.box 6 true (.t 0)), none⟩, ⟨(some 4), (.mov (.c (.d (.int .i64 0))) true none), none⟩]) (.seq (.seq (.ops [⟨(some 7), (.fieldA 5 (.t 2)), none⟩, ⟨(some 8), (.load false 1 (.t 7) false), none⟩, ⟨(some 9), (.len (.t 8)), none⟩, ⟨(some 10), (.mov (.c (.d (.int .i64 0))) false none), none⟩]) (.block 0 (.loop (.seq (.ops [⟨(some 11), (.bin false .lss (.t 10) (.t 9)), none⟩]) (.seq (.cond (.t 11) .skip (.exit 0)) (.seq (.block 1 (.seq (.ops [⟨(some 12), (.mov (.t 10) true none), none⟩, ⟨(some 13), (.idxA 7 (.t 8) (.t 10)), none⟩, ⟨(some 14), (.load true 7 (.t 13) false), none⟩, ⟨(some 6), (.alloc [(.d (.int .i64 0)), (.d (.int .i64 0)), (.d (.int .i64 0)), (.d (.str [])), (.d (.int .i64 0)), (.own 1 []), (.d (.str []))]), none⟩, ⟨(some 5), (.mov (.t 12) true none), none⟩, ⟨none, (.store true 7 (.t 6) (.t 14) none), none⟩]) (.seq (.ops [⟨(some 15), (.fieldA 0 (.t 6)), none⟩, ⟨(some 16), (.load false 1 (.t 15) false), none⟩, ⟨(some 17), (.mov (.t 1) false none), none⟩, ⟨(some 18), (.bin false .eql (.t 16) (.t 17)), none⟩]) (.cond (.t 18) (.seq (.ops [⟨(some 19), (.mov (.t 5) true none), none⟩, ⟨(some 4), (.mov (.t 19) true none), none⟩]) .ret) .skip)))) (.ops [⟨(some 20), (.bin false .add (.t 10) (.c (.d (.int .i64 1)))), none⟩, ⟨(some 10), (.mov (.t 20) true none), none⟩]))))))) (.seq (.ops [⟨(some 4), (.mov (.c (.d (.int .i64 (-1)))) true none), none⟩]) .ret))), [(.tm 4)], 2, 21⟩
theorem t95 : trF P HR 95 = some af95 := by kernel_rfl
theorem vc94 (l0 : List D) (res : CV) (objs' : List (Nat × List CV)) : walkA P (tbF P [102,103,50,48,53,56,105,58,107,1000118,7000119,107500072,1072002141,86,129,92] [] 94) (anOf af94 []) af94 [CV.d (D.slice 1 l0)] [] (fun rs => endE rs res objs') = ((∃ I1 : (List D → (Int → (Nat → Prop))), ((∃ k2 : Nat, I1 [] 0 k2) ∧ (∀ l3 : List D, (∀ n4 : Int, (∀ k5 : Nat, (I1 l3 n4 k5 → (((decide (n4 < nI (List.length l0))) = true → ((0 ≤ n4 ∧ n4 < nI (List.length l0)) ∧ (∃ n6 : Int, ((D.cells (List.getD l0 (Int.toNat n4) D.nilp) = [D.int .i64 n6]) ∧ (∃ I7 : (Int → (Nat → Prop)), ((∃ k8 : Nat, I7 0 k8) ∧ (∀ n9 : Int, (∀ k10 : Nat, (I7 n9 k10 → ((decide (n9 < nI (List.length l3)) = true → 0 ≤ n9 ∧ n9 < nI (List.length l3)) ∧ (∃ n11 : Int, ((decide (n9 < nI (List.length l3)) = true → D.cells (List.getD l3 (Int.toNat n9) D.nilp) = [D.int .i64 n11]) ∧ (∀ b12 : Bool, ((decide (n9 < nI (List.length l3)) && decide (n11 < n6)) = b12 → (((b12) = true → (∀ n13 : Int, (Go.IntKind.wrap Go.IntKind.i64 (n9 + 1) = n13 → (∃ k14 : Nat, ((k14 < k10) ∧ I7 n13 k14))))) ∧ ((b12) = false → (((!n9 == nI (List.length l3)) = true → 0 ≤ n9 ∧ n9 < nI (List.length l3)) ∧ (∃ n15 : Int, (((!n9 == nI (List.length l3)) = true → D.cells (List.getD l3 (Int.toNat n9) D.nilp) = [D.int .i64 n15]) ∧ (∀ b16 : Bool, ((n9 == nI (List.length l3) || n15 != n6) = b16 → (((b16) = true → ((0 ≤ nI (0 : Nat) ∧ nI (0 : Nat) ≤ n9 ∧ n9 ≤ nI (List.length l3)) ∧ (∀ l17 : List D, (List.drop (Int.toNat (nI (0 : Nat))) (List.take (Int.toNat n9) l3) = l17 → ((List.length l17 * 8 ≤ 140737488355328) ∧ (((List.length l17 + List.length [D.int .i64 n6]) * 8 ≤ 140737488355328) ∧ ((0 ≤ n9 ∧ n9 ≤ nI (List.length l3) ∧ nI (List.length l3) ≤ nI (List.length l3)) ∧ (∀ l18 : List D, (List.drop (Int.toNat n9) (List.take (Int.toNat (nI (List.length l3))) l3) = l18 → (((List.length (l17 ++ [D.int .i64 n6]) + List.length l18) * 8 ≤ 140737488355328) ∧ (∀ n19 : Int, (Go.IntKind.wrap Go.IntKind.i64 (n4 + 1) = n19 → (∃ k20 : Nat, ((k20 < k5) ∧ I1 (l17 ++ [D.int .i64 n6] ++ l18) n19 k20)))))))))))))) ∧ ((b16) = false → (∀ n21 : Int, (Go.IntKind.wrap Go.IntKind.i64 (n4 + 1) = n21 → (∃ k22 : Nat, ((k22 < k5) ∧ I1 l3 n21 k22))))))))))))))))))))))))))) ∧ ((decide (n4 < nI (List.length l0))) = false → EndR (CV.own 1 l3) res [] objs'))))))))) := by kernel_rfl
theorem vc95 (s0 : Bytes) (n1 : Int) (n2 : Int) (n3 : Int) (l4 : List D) (l5 : List D) (n6 : Int) (res : CV) (objs' : List (Nat × List CV)) : walkA P (tbF P [102,103,50,48,53,56,105,58,107,1000118,7000119,107500072,1072002141,86,129,92] [] 95) (anOf af95 []) af95 [CV.d (D.agg [D.str s0, D.int .i64 n1, D.int .i64 n2, D.int .i64 n3, D.slice 1 l4, D.slice 7 l5]), CV.d (D.int .i64 n6)] [] (fun rs => endE rs res objs') = ((∃ I7 : (Int → (Nat → Prop)), ((∃ k8 : Nat, I7 0 k8) ∧ (∀ n9 : Int, (∀ k10 : Nat, (I7 n9 k10 → (((decide (n9 < nI (List.length l5))) = true → ((0 ≤ n9 ∧ n9 < nI (List.length l5)) ∧ (∃ n11 : Int, (∃ n12 : Int, (∃ n13 : Int, (∃ s14 : Bytes, (∃ n15 : Int, (∃ l16 : List D, (∃ s17 : Bytes, ((D.cells (List.getD l5 (Int.toNat n9) D.nilp) = [D.int .i64 n11, D.int .i64 n12, D.int .i64 n13, D.str s14, D.int .i64 n15, D.slice 1 l16, D.str s17]) ∧ (((n11 == n6) = true → EndR (CV.d (D.int .i64 n9)) res [(2, [CV.d (D.str s0), CV.d (D.int .i64 n1), CV.d (D.int .i64 n2), CV.d (D.int .i64 n3), CV.d (D.slice 1 l4), CV.d (D.slice 7 l5)]), (6, [CV.d (D.int .i64 n11), CV.d (D.int .i64 n12), CV.d (D.int .i64 n13), CV.d (D.str s14), CV.d (D.int .i64 n15), CV.d (D.slice 1 l16), CV.d (D.str s17)])] objs') ∧ ((n11 == n6) = false → (∀ n18 : Int, (Go.IntKind.wrap Go.IntKind.i64 (n9 + 1) = n18 → (∃ k19 : Nat, ((k19 < k10) ∧ I7 n18 k19)))))))))))))))) ∧ ((decide (n9 < nI (List.length l5))) = false → EndR (CV.d (D.int .i64 (-1 : Int))) res [(2, [CV.d (D.str s0), CV.d (D.int .i64 n1), CV.d (D.int .i64 n2), CV.d (D.int .i64 n3), CV.d (D.slice 1 l4), CV.d (D.slice 7 l5)])] objs')))))))) := by kernel_rfl
end B
end Go.Proofs.YtmkkljbfmdngfaaDoor

namespace Go.Proofs.YtmkkljbfmdngfaaDoor
namespace B
open Go.RowKit

theorem r93 (l : List Bytes) (s : Bytes) (hl : l.length ≤ 9223372036854775806) : Runs P 93 [.d (.slice 1 (strs l)), .d (.str s)] [] (.d (.int .i64 (idxOf l s))) [] := by
  refine runs_walkA t93 rfl (vc93 _ _ _ _) (by simp) ?_
  rw [strs_len]
  refine range1 (fun i => l.contains s = (l.drop i).contains s ∧ l.idxOf s = i + (l.drop i).idxOf s) hl ⟨rfl, by simp⟩ (fun i hi bd hJ I k next => ⟨bd, ?_⟩) fun hJ => ?_
  · refine ⟨l[i], by rw [strs_get l hi]; rfl, ?_⟩
    rw [drop_cons hi, List.contains_cons, List.idxOf_cons] at hJ
    refine ⟨fun h => endI ?_, fun h => next ?_⟩
    · have hq : (s == l[i]) = true := by rw [BEq.comm]; exact h
      rw [hq, h] at hJ
      unfold idxOf
      rw [hJ.1, hJ.2]; rfl
    · have hq : (s == l[i]) = false := by rw [BEq.comm]; exact h
      rw [hq, h] at hJ
      refine ⟨by rw [hJ.1]; rfl, ?_⟩
      rw [hJ.2]; simp only [cond_false]; omega
  · rw [List.drop_length] at hJ
    refine endI ?_
    unfold idxOf; rw [hJ.1]; rfl
theorem r96 (l : List Int) (s : Int) (hl : l.length ≤ 9223372036854775806) : Runs P 96 [.d (.slice 1 (ints l)), .d (.int .i64 s)] [] (.d (.bool (l.contains s))) [] := by
  refine runs_walkA t96 rfl (vc96 _ _ _ _) (by simp) ?_
  rw [ints_len]
  refine range1 (fun i => l.contains s = (l.drop i).contains s) hl rfl (fun i hi bd hJ I k next => ⟨bd, ?_⟩) fun hJ => ?_
  · refine ⟨l[i], by rw [ints_get l hi]; rfl, ?_⟩
    rw [drop_cons hi, List.contains_cons] at hJ
    refine ⟨fun h => endB ?_, fun h => next ?_⟩
    · have hq : (s == l[i]) = true := by rw [BEq.comm]; exact h
      rw [hJ, hq]; rfl
    · have hq : (s == l[i]) = false := by rw [BEq.comm]; exact h
      rw [hJ, hq]; rfl
  · rw [List.drop_length] at hJ
    exact endB (by rw [hJ]; rfl)
theorem r95 (b : Box) (u : Int) (hl : b.msgs.length ≤ 9223372036854775806) : Runs P 95 [.d b.d, .d (iD u)] [] (.d (iD (findI b.msgs u))) [] := by
  refine runs_walkA t95 rfl (vc95 b.id b.valid b.next b.high (strs b.words) (b.msgs.map Msg.d) u _ _) (by simp) ?_
  rw [nI_map]
  refine range1 (fun i => findI b.msgs u = match findM (b.msgs.drop i) u with | some j => ((i + j : Nat) : Int) | none => -1) hl (by unfold findI; rw [List.drop_zero]; cases findM b.msgs u <;> simp) (fun i hi bd hJ I k next => ⟨bd, _, _, _, _, _, _, _, by rw [msgs_get b.msgs hi]; rfl, ?_⟩) fun hJ => ?_
  · rw [drop_cons hi, findM_cons] at hJ
    refine ⟨fun h => endI ?_, fun h => next ?_⟩
    · rw [if_pos h] at hJ
      rw [hJ]; rfl
    · rw [if_neg (by rw [h]; decide)] at hJ
      rw [hJ]
      cases findM (b.msgs.drop (i + 1)) u with
      | none => rfl
      | some j => show ((i + (j + 1) : Nat) : Int) = ((i + 1 + j : Nat) : Int); congr 1; omega
  · rw [List.drop_length] at hJ
    exact endI (by rw [hJ]; rfl)
theorem r91 (l : List Bytes) (hl : l.length ≤ 9223372036854775806) (hw : ∀ w ∈ l, w.length ≤ 9223372036854775806) : Runs P 91 [.d (.slice 1 (strs l))] [] (.d (.bool (wordsB [] l))) [] := by
  refine runs_walkA t91 rfl (vc91 _ _ _) (by simp) ?_
  rw [strs_len]
  refine range1 (fun i => wordsB [] l = wordsB (l.take i) (l.drop i)) hl rfl (fun i hi bd hJ I k next => ⟨bd, ?_⟩) fun hJ => ?_
  · refine ⟨l[i], by rw [strs_get _ hi]; rfl, _, r45 _ (hw _ (List.getElem_mem hi)), fun _ => ⟨by simp [nI], bd.1, Int.le_of_lt bd.2⟩, ?_⟩
    rintro _ rfl
    rw [take_strs]
    refine ⟨_, fun _ => r36 _ _ (by rw [List.length_take]; omega), ?_⟩
    rintro b23 h23
    rw [drop_cons hi, wordsB, ← List.take_succ_eq_append_getElem hi, show (atomB l[i] && !(l.take i).contains l[i]) = !b23 by rw [← h23]; simp] at hJ
    exact ⟨fun h => endB (by rw [hJ, h]; rfl), fun h => next (by rw [hJ, h]; rfl)⟩
  · rw [List.drop_length, wordsB] at hJ
    exact endB hJ.symm
theorem loop3 {X Y : Type} {N : Nat} {G : (X → Y → Int → Nat → Prop) → X → Y → Int → Nat → Prop} {E : X → Y → Int → Prop} {x0 : X} {y0 : Y} (J : Nat → X → Y → Prop) (hN : N ≤ 9223372036854775806) (h0 : J 0 x0 y0)
    (hs : ∀ i, i < N → (0 ≤ (i : Int) ∧ (i : Int) < nI N) → ∀ x y, J i x y → ∀ (I : X → Y → Int → Nat → Prop) (k : Nat), (∀ x' y', J (i + 1) x' y' → ∀ m : Int, Go.IntKind.wrap .i64 ((i : Int) + 1) = m → ∃ k', k' < k ∧ I x' y' m k') → G I x y i k) (he : ∀ x y, J N x y → E x y N) :
    ∃ I : X → Y → Int → Nat → Prop, (∃ k, I x0 y0 0 k) ∧ ∀ x y n k, I x y n k → ((decide (n < nI N) = true → G I x y n k) ∧ (decide (n < nI N) = false → E x y n)) := by
  refine ⟨fun x y n k => ∃ i : Nat, n = i ∧ i ≤ N ∧ J i x y ∧ k = N - i, ⟨_, 0, rfl, by omega, h0, rfl⟩, ?_⟩
  rintro x y _ _ ⟨i, rfl, hi, hj, rfl⟩
  refine ⟨fun h => ?_, fun h => ?_⟩
  · have h := of_decide_eq_true h
    simp only [nI] at h
    refine hs i (by omega) ⟨by omega, by simp only [nI]; omega⟩ x y hj _ _ fun x' y' hj' m hm => ?_
    rw [W64 (by omega) (by omega)] at hm
    subst hm
    exact ⟨N - (i + 1), by omega, i + 1, by omega, by omega, hj', rfl⟩
  · have h := of_decide_eq_false h
    simp only [nI] at h
    obtain rfl : i = N := by omega
    exact he x y hj
theorem r92 (b : Box) (l : List Bytes) (hn : l.Nodup) (hw : b.words.length ≤ 274877906944) (hl : l.length ≤ 274877906944) : Runs P 92 [.d b.d, .d (.slice 1 (strs l))] [] (.tup [.own 1 (strs (b.words ++ freshB b l)), .own 11 (((freshB b l).map wordRow).map Row.d)]) [] := by
  refine runs_walkA t92 rfl (vc92 b.id b.valid b.next b.high (strs b.words) (b.msgs.map Msg.d) (strs l) _ _) (by simp) ?_
  rw [strs_len, strs_len]
  refine ⟨by omega, ?_⟩
  refine loop3 (N := l.length) (fun i x y => x = strs (b.words ++ freshB b (l.take i)) ∧ y = ((freshB b (l.take i)).map wordRow).map Row.d) (by omega) ⟨by simp [freshB], rfl⟩ (fun i hi bd x y hJ I k next => ⟨bd, l[i], by rw [strs_get l hi]; rfl, ?_⟩) fun x y hJ => ?_
  · obtain ⟨rfl, rfl⟩ := hJ
    have hf : (freshB b (l.take i)).length ≤ (l.take i).length := List.length_filter_le _ _
    rw [List.length_take] at hf
    have hni : l[i] ∉ l.take i := fun hm => by
      obtain ⟨j, hj, e⟩ := List.mem_iff_getElem.1 hm
      rw [List.length_take] at hj
      rw [List.getElem_take] at e
      have := (List.getElem_inj hn).1 e
      omega
    have hc : (b.words ++ freshB b (l.take i)).contains l[i] = b.words.contains l[i] := by
      rw [Bool.eq_iff_iff]
      simp only [List.contains_iff_mem, List.mem_append]
      exact ⟨fun h => h.elim id fun h => absurd (List.mem_filter.1 h).1 hni, .inl⟩
    refine ⟨_, r36 _ _ (by rw [List.length_append]; omega), ?_⟩
    rw [hc]
    refine ⟨fun h => ?_, fun h => ?_⟩
    · refine ⟨by rw [strs_len, List.length_append]; simp; omega, by simp; omega, next _ _ ⟨?_, ?_⟩⟩
      · rw [freshB_take b l hi, if_pos h, ← List.append_assoc]
        unfold strs
        rw [List.map_append (l₂ := [l[i]])]; rfl
      · rw [freshB_take b l hi, if_pos h, List.map_append, List.map_append]; rfl
    · refine next _ _ ⟨?_, ?_⟩ <;> rw [freshB_take b l hi, if_neg (by rw [h]; decide), List.append_nil]
  · obtain ⟨rfl, rfl⟩ := hJ
    rw [List.take_length]
    exact ⟨Wr_refl _, trivial, rfl⟩

theorem sort_same {a b : List Int} (h : ∀ x, x ∈ a ↔ x ∈ b) : Lib.compact (sortI a) = Lib.compact (sortI b) := by
  obtain ⟨p1, p2⟩ := compact_rise (sortI_sorted a)
  obtain ⟨q1, q2⟩ := compact_rise (sortI_sorted b)
  exact rise_eq p1 q1 fun x => by rw [p2, q2, sortI_mem, sortI_mem, h]
theorem ints_drop (l : List Int) (a c : Nat) : List.drop a (List.take c (ints l)) = ints ((l.take c).drop a) := by simp [ints, List.map_take, List.map_drop]
theorem r94 (l : List Int) (hl : l.length ≤ 1099511627776) : Runs P 94 [.d (.slice 1 (ints l))] [] (.d (.slice 1 (ints (Lib.compact (sortI l))))) [] := by
  refine runs_walkA t94 rfl (vc94 _ _ _) (by simp) ?_
  rw [ints_len]
  refine range2 (fun i x => ∃ out : List Int, x = ints out ∧ out.Pairwise (· < ·) ∧ (∀ y, y ∈ out ↔ y ∈ l.take i) ∧ out.length ≤ i) (by omega) ⟨[], rfl, by simp, by simp, by simp⟩ (fun i hi bd x hJ I k next => ⟨bd, l[i], by rw [ints_get l hi]; rfl, ?_⟩) fun x hJ => ?_
  · obtain ⟨out, rfl, h1, h2, h3⟩ := hJ
    have hlen : nI (List.length (ints out)) = (out.length : Int) := by rw [ints_len]
    refine ⟨fun n m => ∃ j : Nat, n = j ∧ j ≤ out.length ∧ m = out.length - j ∧ ∀ t (ht : t < out.length), t < j → out[t] < l[i], ⟨_, 0, rfl, by omega, rfl, fun t _ h0 => by omega⟩, ?_⟩
    rintro _ _ ⟨j, rfl, hj, rfl, hlt⟩
    rw [hlen]
    refine ⟨fun h => by have := of_decide_eq_true h; omega, ?_⟩
    by_cases hjl : j < out.length
    · refine ⟨out[j], fun _ => by rw [ints_get out hjl]; rfl, ?_⟩
      rintro b12 h12
      refine ⟨fun h => ?_, fun h => ?_⟩
      · rw [h, Bool.and_eq_true] at h12
        have hx := of_decide_eq_true h12.2
        rintro _ rfl
        refine ⟨out.length - (j + 1), by omega, j + 1, W64 (by omega) (by omega), by omega, rfl, fun t ht htj => ?_⟩
        rcases Nat.lt_or_ge t j with q | q
        · exact hlt t ht q
        · obtain rfl : t = j := by omega
          exact hx
      · rw [h, Bool.and_eq_false_iff] at h12
        have hx : ¬ out[j] < l[i] := by
          rcases h12 with q | q
          · exact absurd (of_decide_eq_false q) (by omega)
          · exact of_decide_eq_false q
        refine ⟨fun _ => ⟨by omega, by omega⟩, out[j], fun _ => by rw [ints_get out hjl]; rfl, ?_⟩
        rintro b16 h16
        refine ⟨fun hb => ⟨⟨by simp [nI], by simp [nI], by omega⟩, ?_⟩, fun hb => next _ ⟨out, rfl, h1, fun y => ?_, by omega⟩⟩
        · rw [hb, Bool.or_eq_true] at h16
          have hne : out[j] ≠ l[i] := by
            rcases h16 with q | q
            · have := eq_of_beq q; omega
            · simpa using q
          rintro _ rfl
          rw [take_ints]
          refine ⟨by rw [ints_len, List.length_take]; omega, by rw [ints_len, List.length_take]; simp; omega, ⟨by omega, by omega, by omega⟩, ?_⟩
          rintro _ rfl
          rw [show List.drop (Int.toNat (j : Int)) (List.take (Int.toNat (out.length : Int)) (ints out)) = ints (out.drop j) from by rw [ints_drop]; simp]
          refine ⟨by rw [List.length_append, ints_len, ints_len, List.length_take, List.length_drop]; simp; omega, next _ ⟨out.take j ++ l[i] :: out.drop j, by simp [ints], ?_, fun y => ?_, by simp; omega⟩⟩
          · rw [List.pairwise_append]
            refine ⟨h1.sublist (List.take_sublist _ _), ?_, fun a ha c hc => ?_⟩
            · rw [List.pairwise_cons]
              refine ⟨fun c hc => ?_, h1.sublist (List.drop_sublist _ _)⟩
              obtain ⟨t, ht, rfl⟩ := List.mem_iff_getElem.1 hc
              rw [List.getElem_drop]
              rw [List.length_drop] at ht
              rcases Nat.eq_zero_or_pos t with rfl | q
              · show l[i] < out[j]; omega
              · have := List.pairwise_iff_getElem.1 h1 j (j + t) hjl (by omega) (by omega)
                omega
            · obtain ⟨t, ht, rfl⟩ := List.mem_iff_getElem.1 ha
              rw [List.length_take] at ht
              rw [List.getElem_take]
              have ha2 := hlt t (by omega) (by omega)
              rcases List.mem_cons.1 hc with rfl | hc
              · exact ha2
              · obtain ⟨t', ht', rfl⟩ := List.mem_iff_getElem.1 hc
                rw [List.getElem_drop]
                rw [List.length_drop] at ht'
                have := List.pairwise_iff_getElem.1 h1 t (j + t') (by omega) (by omega) (by omega)
                exact this
          · rw [List.take_succ_eq_append_getElem hi, List.mem_append, List.mem_append, List.mem_cons, List.mem_singleton, ← h2]
            have : y ∈ out ↔ y ∈ out.take j ∨ y ∈ out.drop j := by rw [← List.mem_append, List.take_append_drop]
            rw [this]
            constructor
            · rintro (h | h | h)
              · exact .inl (.inl h)
              · exact .inr h
              · exact .inl (.inr h)
            · rintro ((h | h) | h)
              · exact .inl h
              · exact .inr (.inr h)
              · exact .inr (.inl h)
        · rw [hb, Bool.or_eq_false_iff] at h16
          have he : out[j] = l[i] := by simpa using h16.2
          rw [List.take_succ_eq_append_getElem hi, List.mem_append, List.mem_singleton, ← h2]
          exact ⟨.inl, fun h => h.elim id fun h => by rw [h, ← he]; exact List.getElem_mem hjl⟩
    · obtain rfl : j = out.length := by omega
      refine ⟨0, fun h => by have := of_decide_eq_true h; omega, ?_⟩
      rintro b12 h12
      have e12 : b12 = false := by rw [← h12, decide_eq_false (by omega)]; rfl
      refine ⟨fun h => (by rw [e12] at h; cases h), fun _ => ?_⟩
      have ebq : (((out.length : Nat) : Int) == (out.length : Int)) = true := by simp
      refine ⟨fun h => (by rw [ebq] at h; cases h), 0, fun h => (by rw [ebq] at h; cases h), ?_⟩
      rintro b16 h16
      have e16 : b16 = true := by rw [← h16, ebq]; rfl
      refine ⟨fun _ => ⟨⟨by simp [nI], by simp [nI], by omega⟩, ?_⟩, fun h => (by rw [e16] at h; cases h)⟩
      rintro _ rfl
      rw [take_ints, List.take_length]
      refine ⟨by rw [ints_len]; omega, by rw [ints_len]; simp; omega, ⟨by omega, by omega, by omega⟩, ?_⟩
      rintro _ rfl
      rw [show List.drop (Int.toNat (out.length : Int)) (List.take (Int.toNat (out.length : Int)) (ints out)) = ints [] from by rw [ints_drop]; simp]
      refine ⟨by rw [List.length_append, ints_len, ints_len]; simp; omega, next _ ⟨out ++ [l[i]], by simp [ints], ?_, fun y => ?_, by simp; omega⟩⟩
      · rw [List.pairwise_append]
        refine ⟨h1, by simp, fun a ha c hc => ?_⟩
        rw [List.mem_singleton] at hc; subst hc
        obtain ⟨t, ht, rfl⟩ := List.mem_iff_getElem.1 ha
        exact hlt t ht ht
      · rw [List.take_succ_eq_append_getElem hi, List.mem_append, List.mem_append, ← h2]
  · obtain ⟨out, rfl, h1, h2, _⟩ := hJ
    rw [List.take_length] at h2
    obtain ⟨p1, p2⟩ := compact_rise (sortI_sorted l)
    have : out = Lib.compact (sortI l) := rise_eq h1 p1 fun y => by rw [h2, p2, sortI_mem]
    rw [← this]
    exact endOwn rfl

def sameR (a b : Row) : Bool := (((a.kind == b.kind && a.uid == b.uid) && a.mod == b.mod) && a.text == b.text) && sameM a.msg b.msg
theorem sameR_iff {a b : Row} : sameR a b = true ↔ a = b := by
  cases a; cases b
  unfold sameR
  simp only [Bool.and_eq_true, beq_iff_eq, sameM_iff, Row.mk.injEq]
  constructor
  · rintro ⟨⟨⟨⟨rfl, rfl⟩, rfl⟩, rfl⟩, rfl⟩; simp
  · rintro ⟨rfl, rfl, rfl, rfl, rfl⟩; simp
theorem r97 (a b : Row) (ha : a.msg.keys.length ≤ 9223372036854775806) : Runs P 97 [.d a.d, .d b.d] [] (.d (.bool (sameR a b))) [] := by
  refine runs_walkA t97 rfl (vc97 _ _ _ _ _ _ _ _ _ _ _ _ _ _ _ _ _ _ _ _ _ _ _ _) (by simp) ?_
  rintro _ rfl _ rfl _ rfl
  have w := r37 a.msg b.msg ha
  refine ⟨sameM a.msg b.msg, fun _ => ?_, ?_⟩
  · exact w
  rintro _ rfl
  exact endB rfl
def sameRs : List Row → List Row → Bool
  | [], [] => true
  | a :: r, b :: t => sameR a b && sameRs r t
  | _, _ => false
theorem sameRs_iff : ∀ {a b : List Row}, sameRs a b = true ↔ a = b
  | [], [] => by simp [sameRs]
  | a :: r, b :: t => by simp only [sameRs, Bool.and_eq_true, sameR_iff, sameRs_iff, List.cons.injEq]
  | [], _ :: _ => by simp [sameRs]
  | _ :: _, [] => by simp [sameRs]
theorem r44 (a b : List Row) (hl : a.length ≤ 1099511627776) (ha : ∀ r ∈ a, r.msg.keys.length ≤ 9223372036854775806) : Runs P 44 [.d (.slice 11 (a.map Row.d)), .d (.slice 11 (b.map Row.d))] [] (.d (.bool (sameRs a b))) [] := by
  refine runs_walkA t44 rfl (vc44 _ _ _ _) (by simp) ?_
  rw [nI_map, nI_map]
  refine ⟨fun h => endB ?_, fun h => ?_⟩
  · have hne : a.length ≠ b.length := fun e => by rw [e] at h; simp at h
    cases e : sameRs a b with
    | false => rfl
    | true => rw [sameRs_iff.1 e] at hne; exact absurd rfl hne
  have hab : a.length = b.length := by have : nI a.length = nI b.length := by simpa using h
                                       simp only [nI] at this; omega
  refine range1 (N := a.length) (fun i => sameRs (a.drop i) (b.drop i) = sameRs a b) (by omega) rfl (fun i hi bd hJ I k next => ?_) fun hJ => ?_
  · have hi2 : i < b.length := by omega
    have w := r97 a[i] b[i] (ha _ (List.getElem_mem hi))
    refine ⟨bd, _, _, _, _, _, _, _, _, _, _, _, by rw [rows_get _ hi]; rfl, ⟨by omega, by simp only [nI]; omega⟩, _, _, _, _, _, _, _, _, _, _, _, by rw [rows_get _ hi2]; rfl, _, w, ?_⟩
    rw [drop_cons hi, drop_cons hi2, sameRs] at hJ
    refine ⟨fun h => endB ?_, fun h => next ?_⟩
    · have h : sameR a[i] b[i] = false := by simpa using h
      rw [← hJ, h]; rfl
    · have h : sameR a[i] b[i] = true := by simpa using h
      rw [← hJ, h, Bool.true_and]
  · rw [List.drop_length, hab, List.drop_length] at hJ
    exact endB hJ
def szL (l : List Bytes) : Nat := (l.map List.length).sum
theorem r39 (l : List Bytes) (hl : l.length ≤ 1099511627776) (hs : szL l ≤ 1099511627776) : Runs P 39 [.d (.slice 1 (strs l))] [] (.d (iD (if 2000 < l.length + szL l then ((l.length + szL l : Nat) : Int) else 0))) [] := by
  refine runs_walkA t39 rfl (vc39 _ _ _) (by simp) ?_
  rw [strs_len]
  refine range2 (fun i x => x = ((l.length + szL (l.take i) : Nat) : Int)) (by omega) (by simp [szL, nI]) (fun i hi bd x hJ I k next => ⟨bd, l[i], by rw [strs_get l hi]; rfl, ?_⟩) fun x hJ => ?_
  · subst hJ
    have e : szL (l.take (i + 1)) = szL (l.take i) + l[i].length := by
      unfold szL
      rw [List.take_succ_eq_append_getElem hi, List.map_append, List.sum_append]
      simp
    have hle : szL (l.take (i + 1)) ≤ szL l := by
      unfold szL
      conv => rhs; rw [← List.take_append_drop (i + 1) l]
      rw [List.map_append, List.sum_append]
      exact Nat.le_add_right _ _
    rintro _ rfl
    refine next _ ?_
    rw [W64 (by simp only [nI]; omega) (by simp only [nI]; omega), e]
    simp only [nI]; omega
  · subst hJ
    rw [List.take_length]
    refine ⟨fun h => endI ?_, fun h => endI ?_⟩
    · have h := of_decide_eq_true h
      rw [if_pos (by omega)]
    · have h := of_decide_eq_false h
      rw [if_neg (by omega)]
end B
end Go.Proofs.YtmkkljbfmdngfaaDoor

namespace Go.Proofs.YtmkkljbfmdngfaaDoor
namespace B
open Go.RowKit

theorem idxOf_inj {all : List Bytes} {u v : Bytes} (hu : u ∈ all) (hv : v ∈ all) (h : idxOf all u = idxOf all v) : u = v := by
  obtain ⟨_, _, h1⟩ := place_of all hu
  obtain ⟨_, _, h2⟩ := place_of all hv
  rw [← h1, ← h2, h]
theorem map_nodup {all : List Bytes} : ∀ {l : List Bytes}, l.Nodup → (∀ w ∈ l, w ∈ all) → (l.map (idxOf all)).Nodup
  | [], _, _ => by simp
  | w :: r, hn, h => by
    rw [List.nodup_cons] at hn
    rw [List.map_cons, List.nodup_cons]
    refine ⟨fun hm => ?_, map_nodup hn.2 fun v hv => h v (by simp [hv])⟩
    obtain ⟨v, hv, e⟩ := List.mem_map.1 hm
    have := idxOf_inj (h v (by simp [hv])) (h w (by simp)) e
    subst this
    exact hn.1 hv
theorem places_rise (b : Box) {l : List Bytes} (hn : l.Nodup) : (placesB b l).Pairwise (· < ·) := by
  have h1 := sortI_sorted (l.map (idxOf (b.words ++ freshB b l)))
  have h2 : (sortI (l.map (idxOf (b.words ++ freshB b l)))).Nodup := (List.mergeSort_perm _ _).nodup_iff.2 (map_nodup hn fun w hw => mem_all b l hw)
  have := List.pairwise_and_iff.2 ⟨h1, h2⟩
  exact this.imp fun h => by have := h.1; have := h.2; omega
theorem places_sort (b : Box) {l : List Bytes} (hn : l.Nodup) : Lib.compact (sortI (l.map (idxOf (b.words ++ freshB b l)))) = placesB b l := by
  obtain ⟨p1, p2⟩ := compact_rise (sortI_sorted (l.map (idxOf (b.words ++ freshB b l))))
  exact rise_eq p1 (places_rise b hn) fun x => by rw [p2]; rfl
theorem idx_loop {N : Nat} {all l : List Bytes} (hN : N = l.length) (hl : l.length ≤ 1099511627776) (ha : all.length ≤ 9223372036854775806) (hm : ∀ w ∈ l, w ∈ all) {E : List D → Int → Prop} (he : E (ints (l.map (idxOf all))) N) :
    ∃ I : List D → Int → Nat → Prop, (∃ k, I [] 0 k) ∧ ∀ x n k, I x n k → ((decide (n < nI N) = true → ((0 ≤ n ∧ n < nI N) ∧ ∃ s : Bytes, (D.cells (List.getD (strs l) (Int.toNat n) D.nilp) = [D.str s]) ∧ ∃ m : Int, (Runs P 93 [.d (.slice 1 (strs all)), .d (.str s)] [] (.d (.int .i64 m)) []) ∧
      ((x.length + List.length [D.int .i64 m]) * 8 ≤ 140737488355328 ∧ ∀ n' : Int, Go.IntKind.wrap .i64 (n + 1) = n' → ∃ k', k' < k ∧ I (x ++ [.int .i64 m]) n' k'))) ∧ (decide (n < nI N) = false → E x n)) := by
  subst hN
  refine range2 (fun i x => x = ints ((l.take i).map (idxOf all))) (by omega) rfl (fun i hi bd x hJ I k next => ⟨bd, l[i], by rw [strs_get l hi]; rfl, _, r93 all l[i] ha, ?_⟩) fun x hJ => ?_
  · subst hJ
    refine ⟨by rw [ints_len, List.length_map, List.length_take]; simp; omega, next _ ?_⟩
    rw [List.take_succ_eq_append_getElem hi, List.map_append]
    unfold ints
    rw [List.map_append]; rfl
  · subst hJ
    rw [List.take_length]
    exact he
theorem endTA {z : Nat} {l m : List D} {n k : Int} {bs : List (Nat × List CV)} (h : l = m) (hk : n = k) : EndR (.tup [.own z l, .d (iD n)]) (.tup [.d (.slice z m), .d (iD k)]) bs [] := by
  subst hk; exact endTO h
theorem addTail (b : Box) (date : Int) (id : Bytes) (flags : Int) (ws : List Bytes) (text : Bytes) (n18 : Int) (bs1 bs2 : List D → List (Nat × List CV)) (hM : BoxMay b) (hn : ws.Nodup) (hl : ws.length ≤ 274877906944) (hid : id.length ≤ 9223372036854775806) (h18 : n18 = b.high + 1)
    (c1 : ¬ ¬ (mayBox b = 0 ∧ wordsB [] ws = true)) (c2 : ¬ (60 ≤ b.msgs.length ∨ 64 < b.words.length + (freshB b ws).length)) (c3 : ¬ (b.high = 1000000 ∨ b.next = 1000000)) (id0 : Bytes) (hi : idB b id0 = id) :
    ∃ l29 : List D, (Runs P 94 [.d (.slice 1 (ints (ws.map (idxOf (b.words ++ freshB b ws)))))] [] (.d (.slice 1 l29)) []) ∧ ∃ n30 : Int, (Runs P 46 [.d (.agg [.str b.id, .int .i64 b.valid, .int .i64 b.next, .int .i64 b.high, .slice 1 (strs (b.words ++ freshB b ws)), .slice 7 (b.msgs.map Msg.d)]), .d (.agg [.int .i64 b.next, .int .i64 n18, .int .i64 date, .str id, .int .i64 flags, .slice 1 l29, .str text])] [] (.d (.int .i64 n30)) []) ∧
      (((n30 != 0) = true → EndR (.tup [.own 11 [], .d (.int .i64 n30)]) (.tup [.d (.slice 11 ((addOut b date id0 flags ws text).2.map Row.d)), .d (iD (addOut b date id0 flags ws text).1)]) (bs1 l29) []) ∧
      ((n30 != 0) = false → ((((((freshB b ws).map wordRow).map Row.d).length + List.length [D.agg [.int .i64 1, .int .i64 0, .int .i64 0, .int .i64 b.next, .int .i64 n18, .int .i64 date, .str id, .int .i64 flags, .slice 1 l29, .str text, .str []]]) * 128 ≤ 140737488355328) ∧
        EndR (.tup [.own 11 (((freshB b ws).map wordRow).map Row.d ++ [D.agg [.int .i64 1, .int .i64 0, .int .i64 0, .int .i64 b.next, .int .i64 n18, .int .i64 date, .str id, .int .i64 flags, .slice 1 l29, .str text, .str []]]), .d (.int .i64 0)]) (.tup [.d (.slice 11 ((addOut b date id0 flags ws text).2.map Row.d)), .d (iD (addOut b date id0 flags ws text).1)]) (bs2 l29) []))) := by
  have hf : (freshB b ws).length ≤ ws.length := List.length_filter_le _ _
  have hpl := placesB_len b ws
  subst h18
  have w94 := r94 (ws.map (idxOf (b.words ++ freshB b ws))) (by rw [List.length_map]; omega)
  rw [places_sort b hn] at w94
  have w46 := r46 { b with words := b.words ++ freshB b ws } (addM b date id flags ws text) ⟨hid, by show (placesB b ws).length ≤ _; omega⟩
  refine ⟨_, w94, errB (mayMsg (b.words ++ freshB b ws).length (addM b date id flags ws text)), ?_, ?_⟩
  · exact w46
  refine ⟨fun h => ?_, fun h => ?_⟩
  · cases e : mayMsg (b.words ++ freshB b ws).length (addM b date id flags ws text) with
    | true => rw [e] at h; simp [errB] at h
    | false =>
      rw [show addOut b date id0 flags ws text = (1, []) from by unfold addOut; rw [if_neg c1, if_neg c2, if_neg c3, hi, if_pos e]]
      exact endTA rfl rfl
  · cases e : mayMsg (b.words ++ freshB b ws).length (addM b date id flags ws text) with
    | false => rw [e] at h; simp [errB] at h
    | true =>
      rw [show addOut b date id0 flags ws text = (0, (freshB b ws).map wordRow ++ [addRow (addM b date id flags ws text)]) from by unfold addOut; rw [if_neg c1, if_neg c2, if_neg c3, hi, if_neg (by rw [e]; decide)]]
      refine ⟨by simp; omega, endTO ?_⟩
      rw [List.map_append]; rfl
theorem r41 (b : Box) (date : Int) (id : Bytes) (flags : Int) (ws : List Bytes) (text : Bytes) (hb : BoxOk b) (hw : b.words.length ≤ 274877906944) (hl : ws.length ≤ 274877906944) (hww : ∀ w ∈ ws, w.length ≤ 9223372036854775806) (hid : id.length ≤ 9223372036854775806) :
    Runs P 41 [.d b.d, .d (iD date), .d (.str id), .d (iD flags), .d (.slice 1 (strs ws)), .d (.str text)] [] (.tup [.d (.slice 11 ((addOut b date id flags ws text).2.map Row.d)), .d (iD (addOut b date id flags ws text).1)]) [] := by
  refine runs_walkA t41 rfl (vc41 b.id b.valid b.next b.high (strs b.words) (b.msgs.map Msg.d) date id flags (strs ws) text _ _) (by simp) ?_
  have hf : (freshB b ws).length ≤ ws.length := List.length_filter_le _ _
  refine ⟨_, r16 b hb, wordsB [] ws, fun _ => r91 ws (by omega) hww, ?_⟩
  rintro b14 h14
  have c1' : b14 = true ↔ ¬ (mayBox b = 0 ∧ wordsB [] ws = true) := by
    rw [← h14]; simp; rcases Decidable.em (mayBox b = 0) with h | h <;> simp [h]
  refine ⟨fun h => ?_, fun h => ?_⟩
  · rw [show addOut b date id flags ws text = (1, []) from by unfold addOut; rw [if_pos (c1'.1 h)]]
    exact endTO rfl
  have c1 : ¬ ¬ (mayBox b = 0 ∧ wordsB [] ws = true) := fun q => by rw [c1'.2 q] at h; cases h
  have hM := boxMay.1 (Decidable.not_not.1 c1).1
  have hN := (wordsB_iff.1 (Decidable.not_not.1 c1).2).2
  refine ⟨_, _, r92 b ws hN hw hl, ?_⟩
  rw [strs_len, nI_map]
  rintro b16 h16
  have c2' : b16 = true ↔ (60 ≤ b.msgs.length ∨ 64 < b.words.length + (freshB b ws).length) := by
    rw [← h16, Bool.or_eq_true, decide_eq_true_eq, decide_eq_true_eq, List.length_append]; simp only [nI]; omega
  refine ⟨fun h => ?_, fun h => ?_⟩
  · rw [show addOut b date id flags ws text = (4, []) from by unfold addOut; rw [if_neg c1, if_pos (c2'.1 h)]]
    exact endTO rfl
  have c2 : ¬ (60 ≤ b.msgs.length ∨ 64 < b.words.length + (freshB b ws).length) := fun q => by rw [c2'.2 q] at h; cases h
  have hh := hM.high
  have hx := hM.next
  rintro b17 h17
  have c3' : b17 = true ↔ (b.high = 1000000 ∨ b.next = 1000000) := by
    rw [← h17, Bool.or_eq_true, decide_eq_true_eq, decide_eq_true_eq]; omega
  refine ⟨fun h => ?_, fun h => ?_⟩
  · rw [show addOut b date id flags ws text = (9, []) from by unfold addOut; rw [if_neg c1, if_neg c2, if_pos (c3'.1 h)]]
    exact endTO rfl
  have c3 : ¬ (b.high = 1000000 ∨ b.next = 1000000) := fun q => by rw [c3'.2 q] at h; cases h
  rintro _ rfl
  rw [W64 (by omega) (by omega)]
  have hin : ∀ w ∈ ws, w ∈ b.words ++ freshB b ws := fun w hw => mem_all b ws hw
  have hal : (b.words ++ freshB b ws).length ≤ 9223372036854775806 := by rw [List.length_append]; omega
  rw [show nI (List.length (strs ws)) = nI ws.length from by rw [strs_len]]
  refine ⟨fun h => ?_, fun h => ?_⟩
  · have h : id = [] := by simpa using h
    have ei : idB b id = ownB b.id b.next := by unfold idB; rw [if_pos h]
    have ho : (ownB b.id b.next).length ≤ 9223372036854775806 := by
      have h1 := Lib.itoa_length_le (max b.next 0) (by omega) (by omega)
      have := hM.id.2
      unfold ownB; simp; omega
    refine ⟨_, r26 b.id b.next (by omega) (by have := hM.id.2; omega), ?_⟩
    refine idx_loop (N := ws.length) rfl (by omega) hal hin ?_
    exact addTail b date (ownB b.id b.next) flags ws text _ (fun l => [(6, _), (16, [_, _, _, _, _, .d (.slice 1 l), _])]) (fun l => [(6, _), (16, [_, _, _, _, _, .d (.slice 1 l), _])]) hM hN hl ho rfl c1 c2 c3 id ei
  · have h : ¬ id = [] := by simpa using h
    have ei : idB b id = id := by unfold idB; rw [if_neg h]
    refine idx_loop (N := ws.length) rfl (by omega) hal hin ?_
    exact addTail b date id flags ws text _ (fun l => [(6, _), (16, [_, _, _, _, _, .d (.slice 1 l), _])]) (fun l => [(6, _), (16, [_, _, _, _, _, .d (.slice 1 l), _])]) hM hN hl hid rfl c1 c2 c3 id ei
theorem r43 (b : Box) (l : List Int) (hb : BoxOk b) (hl : l.length ≤ 1099511627) : Runs P 43 [.d b.d, .d (.slice 1 (ints l))] [] (.tup [.d (.slice 11 ((cutOut b l).2.map Row.d)), .d (iD (cutOut b l).1)]) [] := by
  refine runs_walkA t43 rfl (vc43 b.id b.valid b.next b.high (strs b.words) (b.msgs.map Msg.d) (ints l) _ _) (by simp) ?_
  refine ⟨_, r16 b hb, fun h => ?_, fun h => ?_⟩
  · rw [show cutOut b l = (1, []) from by unfold cutOut; rw [if_pos (by simpa using h)]]
    exact endTO rfl
  have h0 : mayBox b = 0 := by simpa using h
  have hM := boxMay.1 h0
  have hh := hM.high
  have c0 : ¬ mayBox b ≠ 0 := fun q => q h0
  have hn : nI (List.length (ints l)) = nI l.length := by rw [ints_len]
  rw [hn]
  refine range2' (fun i x => cutsB b [] l = cutsB b (l.take i) (l.drop i) ∧ x = (cutRows b.high (l.take i)).map Row.d) (by omega) ⟨rfl, rfl⟩ (fun i hi bd x hJ I k next => ⟨bd, l[i], by rw [ints_get l hi]; rfl, _, r95 b l[i] (by have := hM.nm; omega), fun _ => ⟨by simp [nI], bd.1, Int.le_of_lt bd.2⟩, ?_⟩) fun x hJ => ?_
  · obtain ⟨hJ, rfl⟩ := hJ
    rintro _ rfl
    rw [take_ints]
    refine ⟨_, fun _ => r96 (l.take i) l[i] (by rw [List.length_take]; omega), ?_⟩
    rintro b16 h16
    rw [findI_neg] at h16
    rw [drop_cons hi, cutsB, ← List.take_succ_eq_append_getElem hi, show ((findM b.msgs l[i]).isSome && !(l.take i).contains l[i]) = !b16 by rw [← h16]; simp] at hJ
    refine ⟨fun h => ?_, fun h => ?_⟩
    · rw [h] at hJ
      rw [show cutOut b l = (6, []) from by unfold cutOut; rw [if_neg c0, if_pos (by rw [hJ]; rfl)]]
      exact endTO rfl
    · rintro _ rfl _ rfl
      rw [W64 (n := b.high + (i : Int)) (by omega) (by omega), W64 (n := b.high + (i : Int) + 1) (by omega) (by omega)]
      refine ⟨by rw [List.length_map, cutRows_len, List.length_take]; simp; omega, next _ ⟨by rw [hJ, h]; rfl, ?_⟩⟩
      rw [List.take_succ_eq_append_getElem hi, cutRows_snoc, List.map_append]
      congr 1
      have : b.high + (List.length (l.take i) : Int) + 1 = b.high + (i : Int) + 1 := by rw [List.length_take]; omega
      rw [this]; rfl
  · obtain ⟨hJ, rfl⟩ := hJ
    rw [List.drop_length, cutsB] at hJ
    rw [List.take_length]
    rintro _ rfl
    rw [W64 (by simp only [nI]; omega) (by simp only [nI]; omega)]
    simp only [nI]
    refine ⟨fun h => ?_, fun h => ?_⟩
    · have h := of_decide_eq_true h
      rw [show cutOut b l = (9, []) from by unfold cutOut; rw [if_neg c0, if_neg (by rw [hJ]; decide), if_pos (by omega)]]
      exact endTO rfl
    · have h := of_decide_eq_false h
      rw [show cutOut b l = (0, cutRows b.high l) from by unfold cutOut; rw [if_neg c0, if_neg (by rw [hJ]; decide), if_neg (by omega)]]
      exact endTO rfl
end B
end Go.Proofs.YtmkkljbfmdngfaaDoor

namespace Go.Proofs.YtmkkljbfmdngfaaDoor
namespace B
open Go.RowKit

def idxL (all l : List Bytes) : List Int := (l.filter all.contains).map (idxOf all)
theorem idxL_all {all l : List Bytes} (h : ∀ w ∈ l, w ∈ all) : idxL all l = l.map (idxOf all) := by
  unfold idxL
  rw [List.filter_eq_self.2 fun w hw => by simpa using h w hw]
theorem idxL_len (all l : List Bytes) : (idxL all l).length ≤ l.length := by
  unfold idxL
  rw [List.length_map]
  exact List.length_filter_le _ _
theorem idx_loop2 {N : Nat} {all l : List Bytes} (hN : N = l.length) (hl : l.length ≤ 1099511627776) (ha : all.length ≤ 9223372036854775806) {E : List D → Int → Prop} (he : E (ints (idxL all l)) N) :
    ∃ I : List D → Int → Nat → Prop, (∃ k, I [] 0 k) ∧ ∀ x n k, I x n k → ((decide (n < nI N) = true → ((0 ≤ n ∧ n < nI N) ∧ ∃ s : Bytes, (D.cells (List.getD (strs l) (Int.toNat n) D.nilp) = [D.str s]) ∧ ∃ m : Int, (Runs P 93 [.d (.slice 1 (strs all)), .d (.str s)] [] (.d (.int .i64 m)) []) ∧
      ((decide (m ≥ 0) = true → ((x.length + List.length [D.int .i64 m]) * 8 ≤ 140737488355328 ∧ ∀ n' : Int, Go.IntKind.wrap .i64 (n + 1) = n' → ∃ k', k' < k ∧ I (x ++ [.int .i64 m]) n' k')) ∧
       (decide (m ≥ 0) = false → ∀ n' : Int, Go.IntKind.wrap .i64 (n + 1) = n' → ∃ k', k' < k ∧ I x n' k')))) ∧ (decide (n < nI N) = false → E x n)) := by
  subst hN
  refine range2 (fun i x => x = ints (idxL all (l.take i))) (by omega) rfl (fun i hi bd x hJ I k next => ⟨bd, l[i], by rw [strs_get l hi]; rfl, _, r93 all l[i] ha, ?_⟩) fun x hJ => ?_
  · subst hJ
    have hle := idxL_len all (l.take i)
    rw [List.length_take] at hle
    have e : idxL all (l.take (i + 1)) = idxL all (l.take i) ++ if all.contains l[i] = true then [idxOf all l[i]] else [] := by
      unfold idxL
      rw [List.take_succ_eq_append_getElem hi, List.filter_append, List.map_append, List.filter_cons, List.filter_nil]
      split <;> rfl
    have hge : idxOf all l[i] ≥ 0 ↔ all.contains l[i] = true := by
      unfold idxOf
      split
      · rename_i h; exact ⟨fun _ => h, fun _ => by omega⟩
      · rename_i h; exact ⟨fun q => by omega, fun q => absurd q h⟩
    refine ⟨fun h => ⟨by rw [ints_len]; simp; omega, next _ ?_⟩, fun h => next _ ?_⟩
    · rw [e, if_pos (hge.1 (of_decide_eq_true h))]
      unfold ints
      rw [List.map_append]; rfl
    · rw [e, if_neg (fun q => of_decide_eq_false h (hge.2 q)), List.append_nil]
  · subst hJ
    rw [List.take_length]
    exact he
theorem refTail (b : Box) (uid : Int) (m : Msg) (fl : Int) (keys : List Int) (more all : List Bytes) (bs : List (Nat × List CV)) (hM : BoxMay b) (hk : keys.length ≤ 9223372036854775806) (hmo : more.length ≤ 1099511627) (hall : all.length = b.words.length + more.length) :
    ∃ b32 : Bool, (((fl == m.flags) = true → Runs P 87 [CV.d (D.slice 1 (ints keys)), CV.d (D.slice 1 (ints m.keys))] [] (CV.d (D.bool b32)) []) ∧ (∀ b33 : Bool, ((fl == m.flags && b32) = b33 →
      (((b33) = true → EndR (CV.tup [CV.own (11 : Nat) [], CV.d (D.int .i64 (0 : Int))]) (.tup [.d (.slice 11 ((flagsEnd b uid m fl keys more).2.map Row.d)), .d (iD (flagsEnd b uid m fl keys more).1)]) bs []) ∧ ((b33) = false →
      (((decide (nI (List.length (strs all)) > 64)) = true → EndR (CV.tup [CV.own (11 : Nat) [], CV.d (D.int .i64 (4 : Int))]) (.tup [.d (.slice 11 ((flagsEnd b uid m fl keys more).2.map Row.d)), .d (iD (flagsEnd b uid m fl keys more).1)]) bs []) ∧
      ((decide (nI (List.length (strs all)) > 64)) = false → (((decide (b.high ≥ 1000000)) = true → EndR (CV.tup [CV.own (11 : Nat) [], CV.d (D.int .i64 (9 : Int))]) (.tup [.d (.slice 11 ((flagsEnd b uid m fl keys more).2.map Row.d)), .d (iD (flagsEnd b uid m fl keys more).1)]) bs []) ∧ ((decide (b.high ≥ 1000000)) = false →
      (∀ n36 : Int, (Go.IntKind.wrap Go.IntKind.i64 (b.high + 1) = n36 →
      (((List.length ((more.map wordRow).map Row.d) + List.length [D.agg [D.int .i64 2, D.int .i64 uid, D.int .i64 n36, D.int .i64 0, D.int .i64 0, D.int .i64 0, D.str [], D.int .i64 fl, D.slice 1 (ints keys), D.str [], D.str []]]) * 128 ≤ 140737488355328) ∧
       EndR (CV.tup [CV.own 11 (((more.map wordRow).map Row.d) ++ [D.agg [D.int .i64 2, D.int .i64 uid, D.int .i64 n36, D.int .i64 0, D.int .i64 0, D.int .i64 0, D.str [], D.int .i64 fl, D.slice 1 (ints keys), D.str [], D.str []]]), CV.d (D.int .i64 0)]) (.tup [.d (.slice 11 ((flagsEnd b uid m fl keys more).2.map Row.d)), .d (iD (flagsEnd b uid m fl keys more).1)]) bs [])))))))))))) := by
  have w := r87 keys m.keys hk
  refine ⟨keys == m.keys, fun _ => w, ?_⟩
  rintro b33 h33
  have hnw := hM.nw
  have hh := hM.high
  have c1 : b33 = true ↔ (fl = m.flags ∧ keys = m.keys) := by rw [← h33]; simp
  refine ⟨fun h => ?_, fun h => ?_⟩
  · rw [show flagsEnd b uid m fl keys more = (0, []) from by unfold flagsEnd; rw [if_pos (c1.1 h)]]
    exact endTO rfl
  have c1' : ¬ (fl = m.flags ∧ keys = m.keys) := fun q => by rw [c1.2 q] at h; cases h
  rw [strs_len, hall]
  simp only [nI]
  refine ⟨fun h => ?_, fun h => ?_⟩
  · have h := of_decide_eq_true h
    rw [show flagsEnd b uid m fl keys more = (4, []) from by unfold flagsEnd; rw [if_neg c1', if_pos (by omega)]]
    exact endTO rfl
  have h2 := of_decide_eq_false h
  refine ⟨fun h => ?_, fun h => ?_⟩
  · have h := of_decide_eq_true h
    rw [show flagsEnd b uid m fl keys more = (9, []) from by unfold flagsEnd; rw [if_neg c1', if_neg (by omega), if_pos (by omega)]]
    exact endTO rfl
  · have h := of_decide_eq_false h
    rw [show flagsEnd b uid m fl keys more = (0, more.map wordRow ++ [flagRow uid (b.high + 1) fl keys]) from by unfold flagsEnd; rw [if_neg c1', if_neg (by omega), if_neg (by omega)]]
    rintro _ rfl
    rw [W64 (by omega) (by omega)]
    refine ⟨by simp; omega, endTO ?_⟩
    rw [List.map_append]; rfl
theorem keep_idx {b : Box} {l : List Bytes} (hb : wordsB [] b.words = true) {ks : List Int} (hk : ∀ k ∈ ks, 0 ≤ k ∧ k < b.words.length) : (ks.filter fun k => !(idxL b.words l).contains k) = keepK b l ks := by
  unfold keepK
  refine List.filter_congr fun k hkk => ?_
  obtain ⟨h1, h2⟩ := hk k hkk
  obtain ⟨j, rfl⟩ : ∃ j : Nat, k = j := ⟨k.toNat, by omega⟩
  have hj : j < b.words.length := by omega
  have hn := (wordsB_iff.1 hb).2
  have e1 : b.words.getD (Int.toNat (j : Int)) [] = b.words[j] := by simp [List.getD_eq_getElem?_getD, hj]
  congr 1
  unfold keyW
  rw [e1, Bool.eq_iff_iff]
  simp only [List.contains_iff_mem]
  unfold idxL
  rw [List.mem_map]
  constructor
  · rintro ⟨w, hw, e⟩
    obtain ⟨k1, k2⟩ := List.mem_filter.1 hw
    have k2 : w ∈ b.words := by simpa using k2
    have := (place_of b.words k2).2.2
    rw [e, e1] at this
    rw [this]; exact k1
  · intro h
    refine ⟨b.words[j], List.mem_filter.2 ⟨h, by simp⟩, ?_⟩
    unfold idxOf
    rw [if_pos (by simp), List.Nodup.idxOf_getElem hn]
theorem r42 (b : Box) (uid fl : Int) (l : List Bytes) (how : Int) (hb : BoxOk b) (hl : l.length ≤ 274877906) (hww : ∀ w ∈ l, w.length ≤ 9223372036854775806) :
    Runs P 42 [.d b.d, .d (iD uid), .d (iD fl), .d (.slice 1 (strs l)), .d (iD how)] [] (.tup [.d (.slice 11 ((flagsOut b uid fl l how).2.map Row.d)), .d (iD (flagsOut b uid fl l how).1)]) [] := by
  have hf : (freshB b l).length ≤ l.length := List.length_filter_le _ _
  refine runs_walkA t42 rfl (vc42 b.id b.valid b.next b.high (strs b.words) (b.msgs.map Msg.d) uid fl (strs l) how _ _) (by simp) ?_
  refine ⟨_, r16 b hb, ?_⟩
  rintro b11 h11 b12 h12
  refine ⟨_, fun _ => r91 l (by omega) hww, ?_⟩
  rintro b14 h14 b15 h15 b16 h16
  have c1 : b16 = true ↔ ¬ (mayBox b = 0 ∧ (0 ≤ fl ∧ fl ≤ 31) ∧ wordsB [] l = true ∧ 0 ≤ how ∧ how ≤ 2) := by
    rw [← h16, ← h15, ← h14, ← h12, ← h11]
    cases wordsB [] l <;> simp <;> omega
  refine ⟨fun h => ?_, fun h => ?_⟩
  · rw [show flagsOut b uid fl l how = (1, []) from by unfold flagsOut; rw [if_pos (c1.1 h)]]
    exact endTO rfl
  have c1' : ¬ ¬ (mayBox b = 0 ∧ (0 ≤ fl ∧ fl ≤ 31) ∧ wordsB [] l = true ∧ 0 ≤ how ∧ how ≤ 2) := fun q => by rw [c1.2 q] at h; cases h
  have hM := boxMay.1 (Decidable.not_not.1 c1').1
  have hfl := (Decidable.not_not.1 c1').2.1
  have hN := (wordsB_iff.1 (Decidable.not_not.1 c1').2.2.1).2
  have hnw := hM.nw
  have hnm := hM.nm
  refine ⟨_, r95 b uid (by omega), ?_⟩
  rw [findI_neg]
  cases hfi : findM b.msgs uid with
  | none =>
    rw [show flagsOut b uid fl l how = (6, []) from by unfold flagsOut; rw [if_neg c1', hfi]]
    exact ⟨fun _ => endTO rfl, fun h => by simp at h⟩
  | some i =>
    obtain ⟨hi, hu⟩ := findM_some hfi
    have hm := ((msgsMay.1 hM.msgs).all _ (List.getElem_mem hi)).2.1
    have hkl := hm.keyLen
    have hpl := placesB_len b l
    rw [findI_eq hfi]
    rw [show flagsOut b uid fl l how = flagsM b uid fl l how b.msgs[i] from by unfold flagsOut; rw [if_neg c1', hfi]; dsimp only; rw [List.getElem?_eq_getElem hi]]
    refine ⟨fun h => by simp at h, fun _ => ⟨⟨by omega, by rw [nI_map]; simp only [nI]; omega⟩, _, _, _, _, _, _, _, by rw [msgs_get b.msgs hi]; rfl, _, _, r92 b l hN (by omega) (by omega), ?_⟩⟩
    have hin : ∀ w ∈ l, w ∈ b.words ++ freshB b l := fun w hw => mem_all b l hw
    have hal : (b.words ++ freshB b l).length = b.words.length + (freshB b l).length := List.length_append
    rw [show nI (List.length (strs l)) = nI l.length from by rw [strs_len]]
    refine ⟨fun h => ?_, fun h => ?_⟩
    · have hw2 : how = 2 := by simpa using h
      have hL := idxL_len b.words l
      refine idx_loop2 (N := l.length) rfl (by omega) (by omega) ⟨_, r94 _ (by omega), fun h => by rw [hw2] at h; simp at h, fun _ => ⟨fun _ => ?_, fun h => by rw [hw2] at h; simp at h⟩⟩
      rintro _ rfl
      rw [show nI (List.length (ints b.msgs[i].keys)) = nI b.msgs[i].keys.length from by rw [ints_len]]
      refine range2 (fun j x => x = ints ((b.msgs[i].keys.take j).filter fun k => !(idxL b.words l).contains k)) (by omega) rfl (fun j hj bd x hJ I k next => ⟨bd, b.msgs[i].keys[j], by rw [ints_get _ hj]; rfl, _, r96 _ _ (by omega), ?_⟩) fun x hJ => ?_
      · subst hJ
        have hle := List.length_filter_le (fun k => !(idxL b.words l).contains k) (b.msgs[i].keys.take j)
        rw [List.length_take] at hle
        rw [show (b.msgs[i].keys.take (j + 1)).filter (fun k => !(idxL b.words l).contains k) = (b.msgs[i].keys.take j).filter (fun k => !(idxL b.words l).contains k) ++ if (!(idxL b.words l).contains b.msgs[i].keys[j]) = true then [b.msgs[i].keys[j]] else [] from by
          rw [List.take_succ_eq_append_getElem hj, List.filter_append, List.filter_cons, List.filter_nil]] at next
        refine ⟨fun h => ⟨by rw [ints_len]; show (_ + 1) * 8 ≤ _; omega, next _ ?_⟩, fun h => next _ ?_⟩
        · rw [if_pos h]
          unfold ints
          rw [List.map_append]; rfl
        · rw [if_neg (by rw [h]; decide), List.append_nil]
      · subst hJ
        rw [List.take_length, keep_idx hM.words hm.key0]
        have ef : flagsM b uid fl l how b.msgs[i] = flagsEnd b uid b.msgs[i] (cutF b.msgs[i].flags fl) (keepK b l b.msgs[i].keys) [] := by unfold flagsM; rw [if_neg (by omega), if_pos hw2]
        rw [ef]
        have := List.length_filter_le (fun k => !keyW b l k) b.msgs[i].keys
        exact refTail b uid b.msgs[i] _ _ [] b.words _ hM (by unfold keepK; omega) (by simp) rfl
    · have hw2 : ¬ how = 2 := by simpa using h
      have hL := idxL_len (b.words ++ freshB b l) l
      have eL : idxL (b.words ++ freshB b l) l = l.map (idxOf (b.words ++ freshB b l)) := idxL_all hin
      refine idx_loop2 (N := l.length) rfl (by omega) (by omega) ⟨_, r94 _ (by omega), fun h => ?_, fun h => ⟨fun h => absurd (by simpa using h) hw2, fun _ => ?_⟩⟩
      · have hw1 : how = 1 := by simpa using h
        rintro _ rfl
        have e1 : ints b.msgs[i].keys ++ ints (idxL (b.words ++ freshB b l) l) = ints (b.msgs[i].keys ++ idxL (b.words ++ freshB b l) l) := by simp [ints]
        refine ⟨by rw [ints_len]; omega, by rw [ints_len, ints_len]; omega, ?_⟩
        rw [e1]
        have e2 : Lib.compact (sortI (b.msgs[i].keys ++ idxL (b.words ++ freshB b l) l)) = Lib.compact (sortI (placesB b l ++ b.msgs[i].keys)) := sort_same fun x => by
          rw [List.mem_append, List.mem_append, eL, placesB, sortI_mem, or_comm]
        have w94 := r94 (b.msgs[i].keys ++ idxL (b.words ++ freshB b l) l) (by rw [List.length_append]; omega)
        rw [e2] at w94
        have hcl := compact_len (sortI (placesB b l ++ b.msgs[i].keys))
        have hsl : (sortI (placesB b l ++ b.msgs[i].keys)).length = (placesB b l ++ b.msgs[i].keys).length := by simp [sortI]
        rw [hsl, List.length_append] at hcl
        refine ⟨_, w94, ?_⟩
        have ef : flagsM b uid fl l how b.msgs[i] = flagsEnd b uid b.msgs[i] (orF b.msgs[i].flags fl) (Lib.compact (sortI (placesB b l ++ b.msgs[i].keys))) (freshB b l) := by unfold flagsM; rw [if_pos hw1, (flags_ok hfl hm.flags).2.2.2]
        rw [ef]
        exact refTail b uid b.msgs[i] _ _ (freshB b l) (b.words ++ freshB b l) _ hM (by omega) (by omega) hal
      · have hw1 : ¬ how = 1 := by simpa using h
        have ef : flagsM b uid fl l how b.msgs[i] = flagsEnd b uid b.msgs[i] fl (placesB b l) (freshB b l) := by unfold flagsM; rw [if_neg hw1, if_neg hw2]
        rw [ef, eL, places_sort b hN]
        exact refTail b uid b.msgs[i] _ _ (freshB b l) (b.words ++ freshB b l) _ hM (by omega) (by omega) hal

theorem flagsOut_ok (b : Box) (uid fl how : Int) (l : List Bytes) : (flagsOut b uid fl l how).2.length ≤ l.length + 1 ∧ ∀ r ∈ (flagsOut b uid fl l how).2, r.msg.keys.length ≤ l.length + 64 := by
  have hfr : (freshB b l).length ≤ l.length := List.length_filter_le _ _
  have key : ∀ (m : Msg) (fl' : Int) (keys : List Int) (more : List Bytes), keys.length ≤ l.length + 64 → more.length ≤ l.length → (flagsEnd b uid m fl' keys more).2.length ≤ l.length + 1 ∧ ∀ r ∈ (flagsEnd b uid m fl' keys more).2, r.msg.keys.length ≤ l.length + 64 := by
    intro m fl' keys more hk hm
    unfold flagsEnd
    split
    · simp
    split
    · simp
    split
    · simp
    · refine ⟨by simp; omega, fun r hr => ?_⟩
      rcases List.mem_append.1 hr with hr | hr
      · obtain ⟨w, _, rfl⟩ := List.mem_map.1 hr
        simp [wordRow]
      · simp at hr; subst hr; exact hk
  unfold flagsOut
  split
  · simp
  rename_i c
  have hM := boxMay.1 (Decidable.not_not.1 c).1
  split
  · simp
  split
  · simp
  rename_i j hj m hm
  have hmm := ((msgsMay.1 hM.msgs).all m (List.mem_of_getElem? hm)).2.1.keyLen
  have hnw := hM.nw
  have hpl := placesB_len b l
  unfold flagsM
  split
  · refine key _ _ _ _ ?_ hfr
    have h1 := compact_len (sortI (placesB b l ++ m.keys))
    have h2 : (sortI (placesB b l ++ m.keys)).length = (placesB b l ++ m.keys).length := by simp [sortI]
    rw [h2, List.length_append] at h1
    omega
  split
  · refine key _ _ _ _ ?_ (by simp)
    have := List.length_filter_le (fun k => !keyW b l k) m.keys
    unfold keepK; omega
  · exact key _ _ _ _ (by omega) hfr
theorem addOut_ok (b : Box) (date : Int) (id : Bytes) (flags : Int) (ws : List Bytes) (text : Bytes) : (addOut b date id flags ws text).2.length ≤ ws.length + 1 ∧ ∀ r ∈ (addOut b date id flags ws text).2, r.msg.keys.length ≤ ws.length := by
  have hfr : (freshB b ws).length ≤ ws.length := List.length_filter_le _ _
  unfold addOut
  split
  · simp
  split
  · simp
  split
  · simp
  split
  · simp
  · refine ⟨by simp; omega, fun r hr => ?_⟩
    rcases List.mem_append.1 hr with hr | hr
    · obtain ⟨w, _, rfl⟩ := List.mem_map.1 hr
      simp [wordRow]
    · simp at hr; subst hr
      show (placesB b ws).length ≤ _
      rw [placesB_len]; exact Nat.le_refl _
theorem cutOut_ok (b : Box) (l : List Int) : (cutOut b l).2.length ≤ l.length ∧ ∀ r ∈ (cutOut b l).2, r.msg.keys.length ≤ 0 := by
  have key : ∀ (l : List Int) (h : Int), ∀ r ∈ cutRows h l, r.msg.keys.length ≤ 0 := by
    intro l
    induction l with
    | nil => intro _ r hr; cases hr
    | cons u t ih =>
      intro h r hr
      rw [cutRows] at hr
      rcases List.mem_cons.1 hr with rfl | hr
      · simp [cutRow]
      · exact ih _ r hr
  unfold cutOut
  split
  · simp
  split
  · simp
  split
  · simp
  · exact ⟨by rw [cutRows_len]; exact Nat.le_refl _, key l _⟩
theorem r14 (b : Box) (m : Msg) (ws : List Bytes) (uid how : Int) (us : List Int) (hb : BoxIn b) (hm : szM m ≤ 1048576) (hl : ws.length ≤ 1048576) (hww : ∀ w ∈ ws, w.length ≤ 1048576) :
    Runs P 14 [.d b.d, .d m.d, .d (.slice 1 (strs ws)), .d (iD uid), .d (iD how), .d (.slice 1 (ints us))] [] (.d (.bool true)) [] := by
  refine runs_walkA t14 rfl (vc14 b.id b.valid b.next b.high (strs b.words) (b.msgs.map Msg.d) m.uid m.mod m.date m.id m.flags (ints m.keys) m.text (strs ws) uid how (ints us) _ _) (by simp) ?_
  have hsz : szL ws ≤ 1099511627776 := by
    have : ∀ l : List Bytes, (∀ w ∈ l, w.length ≤ 1048576) → szL l ≤ l.length * 1048576 := by
      intro l
      induction l with
      | nil => intro _; simp [szL]
      | cons w r ih =>
        intro h
        have h1 := h w (by simp)
        have h2 := ih fun v hv => h v (by simp [hv])
        have e : szL (w :: r) = w.length + szL r := rfl
        rw [e, List.length_cons]
        omega
    have h1 := this ws hww
    have h2 : ws.length * 1048576 ≤ 1048576 * 1048576 := Nat.mul_le_mul_right _ hl
    omega
  have w1 := r15 ⟨[], 0, 0, 0, [], [m]⟩ (by unfold szBox; simp [szMs, szW]; unfold szM at *; omega)
  refine ⟨_, r15 b hb.sz, _, w1, ?_⟩
  rintro _ rfl
  refine ⟨_, r39 ws (by omega) hsz, ?_⟩
  rintro _ rfl b22 h22
  refine ⟨fun h => ⟨true, r29, endB rfl⟩, fun h => ?_⟩
  rw [h, Bool.or_eq_false_iff] at h22
  have hus : us.length ≤ 100 := by
    have := of_decide_eq_false h22.2
    rw [ints_len] at this
    simp only [nI] at this; omega
  have hbw : b.words.length ≤ 100 := by
    have h1 := of_decide_eq_false h22.1
    have e1 : ∀ c : Bool, (0 : Int) ≤ (if c = true then 1 else 0) ∧ (if c = true then (1 : Int) else 0) ≤ 1 := fun c => by cases c <;> decide
    have e2 := e1 (heavy b)
    have e3 := e1 (heavy ⟨[], 0, 0, 0, [], [m]⟩)
    generalize hv1 : (if heavy b = true then (1 : Int) else 0) = v1 at h1 e2
    generalize (if heavy ⟨[], 0, 0, 0, [], [m]⟩ = true then (1 : Int) else 0) = v2 at h1 e3
    have e4 : (0 : Int) ≤ (if 2000 < ws.length + szL ws then ((ws.length + szL ws : Nat) : Int) else 0) ∧ (if 2000 < ws.length + szL ws then ((ws.length + szL ws : Nat) : Int) else 0) ≤ 2199023255552 := by split <;> omega
    generalize (if 2000 < ws.length + szL ws then ((ws.length + szL ws : Nat) : Int) else 0) = v3 at h1 e4
    rw [W64 (n := v1 + v2) (by omega) (by omega), W64 (by omega) (by omega)] at h1
    have : heavy b = false := by
      cases e : heavy b with
      | false => rfl
      | true => rw [e] at hv1; simp at hv1; omega
    unfold heavy at this
    simp at this
    omega
  have hid : m.id.length ≤ 1048576 := by unfold szM at hm; omega
  have A := r40 b m.date m.id m.flags ws m.text hb.ok (by omega) (by omega) (fun w hw => by have := hww w hw; omega) (by omega)
  have A' := r41 b m.date m.id m.flags ws m.text hb.ok (by omega) (by omega) (fun w hw => by have := hww w hw; omega) (by omega)
  have F := r34 b uid m.flags ws how hb.ok (by omega) (fun w hw => by have := hww w hw; omega)
  have F' := r42 b uid m.flags ws how hb.ok (by omega) (fun w hw => by have := hww w hw; omega)
  have C := r31 b us hb.ok (by omega)
  have C' := r43 b us hb.ok (by omega)
  obtain ⟨a1, a2⟩ := addOut_ok b m.date m.id m.flags ws m.text
  obtain ⟨f1, f2⟩ := flagsOut_ok b uid m.flags how ws
  obtain ⟨q1, q2⟩ := cutOut_ok b us
  have s1 := r44 (addOut b m.date m.id m.flags ws m.text).2 (addOut b m.date m.id m.flags ws m.text).2 (by omega) (fun r hr => by have := a2 r hr; omega)
  have s2 := r44 (flagsOut b uid m.flags ws how).2 (flagsOut b uid m.flags ws how).2 (by omega) (fun r hr => by have := f2 r hr; omega)
  have s3 := r44 (cutOut b us).2 (cutOut b us).2 (by omega) (fun r hr => by have := q2 r hr; omega)
  rw [sameRs_iff.2 rfl] at s1 s2 s3
  refine ⟨_, _, A, _, _, A', _, _, F, _, _, F', _, _, C, _, _, C', _, s1, ?_⟩
  rintro b37 h37
  refine ⟨_, fun _ => s2, ?_⟩
  rintro b39 h39 b40 h40
  refine ⟨_, fun _ => s3, ?_⟩
  rintro b42 h42 b43 h43
  refine ⟨true, fun _ => r29, ?_⟩
  rintro b45 h45
  refine endB ?_
  rw [← h45, ← h43, ← h42, ← h40, ← h39, ← h37]
  simp
end B
end Go.Proofs.YtmkkljbfmdngfaaDoor
