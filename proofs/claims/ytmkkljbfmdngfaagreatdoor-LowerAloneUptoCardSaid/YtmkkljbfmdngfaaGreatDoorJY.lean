/- Lower: what walks come to: printed by wip/B/gen. No condition. -/
import Derived.Test.YtmkkljbfmdngfaaGreatDoorIB
import Derived.Test.YtmkkljbfmdngfaaGreatDoorJX
set_option linter.all false
namespace Go.Proofs.YtmkkljbfmdngfaaGreatDoor
namespace B
def HZ6 : Hint := ⟨fun f r => if r == 1000000 then (if f == 58 then [12, 27] else if f == 108 then [30] else if f == 107 then [38] else if f == 73 then [6, 27] else if f == 40 then [66] else []) else if r == 1000001 then (if f == 40 then [3000070, 3000081] else if f == 999999 then [4000032] else if f == 999999 then [4000061] else if f == 23 then [28, 79] else if f == 32 then [28] else if f == 74 then [2000117] else if f == 139 then [2000172] else if f == 33 then [7000003] else if f == 60 then [3000007] else []) else if f == 141 then (if r == 6 then [3, 1000, 1100, 1010075, 1030400] else []) else if f == 11 then (if r == 5 then [10, 99999] else if r == 8 then [12, 99999] else []) else if f == 6 then (if r == 8 then [15, 99999] else if r == 9 then [17, 99999] else []) else if f == 107 then (if r == 10 then [1000, 1080074, 1140075] else []) else if f == 146 then (if r == 2 then [7, 1100075, 1120075] else []) else if f == 999999 then (if r == 13 then [23, 9, 1010140, 1030075] else if r == 37 || r == 44 then [6] else []) else if f == 168 || f == 171 || f == 133 || f == 137 then [1100] else if f == 999999 || f == 999999 then (if r == 6 then [9, 99999] else if r == 7 then [11, 99999] else []) else [], fun f => if f == 999999 || f == 999999 || f == 999999 || f == 129 || f == 134 then some 0 else none⟩

set_option maxRecDepth 100000
theorem zt55 :okF P HZ6 55 2=true:=by kernel_rfl
theorem zt103 :okF P HZ6 103 2=true:=by kernel_rfl
theorem zt104 :okF P HZ6 104 1=true:=by kernel_rfl
theorem zvc104 (n0 : Int) (res : CV) (objs' : List (Nat × List CV)) : walkA P (tbF P [118,148,112,163,1000101,7000102,107500054,1072002147,75,117,139,172,138,2000035093,2000020094] [] 104) (anOf (afOf P HZ6 104) []) (afOf P HZ6 104) [CV.d (D.int .i64 n0)] [] (fun rs => endE rs res objs') = (EndR (CV.d (D.bool (decide (n0 < 32)))) res [] objs') := by kernel_rfl
theorem zvc103b (ks : List D) (res : CV) (objs' : List (Nat × List CV)) : walkA P (tbF P [118,148,112,163,1000101,7000102,107500054,1072002147,75,117,139,172,138,2000035093,2000020094] [] 103) (anOf (afOf P HZ6 103) [(0, 2001, 0)]) (afOf P HZ6 103) [CV.rs 1 2001 0 (List.length ks), CV.fn 104 []] [(2001, [CV.arr 1 ks])] (fun rs => endE rs res objs') = ((∃ I1 : (Int → (Nat → Prop)), ((∃ k2 : Nat, I1 0 k2) ∧ (∀ n3 : Int, (∀ k4 : Nat, (I1 n3 k4 → (((decide (n3 < nI (List.length ks))) = true → ((0 ≤ n3 ∧ n3 < nI (List.length ks)) ∧ ((addO 0 (Int.toNat n3) < List.length ks) ∧ (∃ n5 : Int, ((List.take 1 (List.drop 0 (D.cells (List.getD ks (addO 0 (Int.toNat n3)) D.nilp))) = [D.int .i64 n5]) ∧ (∃ b6 : Bool, ((Runs P 104 [CV.d (D.int .i64 n5)] [] (CV.d (D.bool b6)) []) ∧ (((b6) = true → EndR (CV.d (D.int .i64 n3)) res [(2001, [CV.arr 1 ks])] objs') ∧ ((b6) = false → (∀ n7 : Int, (Go.IntKind.wrap Go.IntKind.i64 (n3 + 1) = n7 → (∃ k8 : Nat, ((k8 < k4) ∧ I1 n7 k8))))))))))))) ∧ ((decide (n3 < nI (List.length ks))) = false → EndR (CV.d (D.int .i64 (-1 : Int))) res [(2001, [CV.arr 1 ks])] objs')))))))) := by kernel_rfl
theorem zvc55b (ks : List D) (res : CV) (objs' : List (Nat × List CV)) : walkA P (tbF P [118,148,112,163,1000101,7000102,107500054,1072002147,75,117,139,172,138,2000035093,2000020094] [] 55) (anOf (afOf P HZ6 55) [(0, 2001, 0)]) (afOf P HZ6 55) [CV.rs 1 2001 0 (List.length ks), CV.fn 104 []] [(2001, [CV.arr 1 ks])] (fun rs => endE rs res objs') = ((∃ l1 : List D, (∃ n2 : Int, ((Runs P 103 [CV.rs 1 2001 0 (List.length ks), CV.fn 104 []] [(2001, [CV.arr 1 ks])] (CV.d (D.int .i64 n2)) [(2001, [CV.arr 1 l1])]) ∧ (((n2 == -1) = true → EndR (CV.rs 1 2001 0 (List.length ks)) res [(2001, [CV.arr 1 l1])] objs') ∧ ((n2 == -1) = false → (∀ n3 : Int, (Go.IntKind.wrap Go.IntKind.i64 (n2 + 1) = n3 → (∃ I4 : (Int → (Int → (List D → (Nat → Prop)))), ((∃ k5 : Nat, I4 n2 n3 l1 k5) ∧ (∀ n6 : Int, (∀ n7 : Int, (∀ l8 : List D, (∀ k9 : Nat, (I4 n6 n7 l8 k9 → (((decide (n7 < nI (List.length ks))) = true → ((0 ≤ n7 ∧ n7 < nI (List.length ks)) ∧ ((addO 0 (Int.toNat n7) < List.length l8) ∧ (∃ n10 : Int, ((List.take 1 (List.drop 0 (D.cells (List.getD l8 (addO 0 (Int.toNat n7)) D.nilp))) = [D.int .i64 n10]) ∧ (∃ b11 : Bool, ((Runs P 104 [CV.d (D.int .i64 n10)] [] (CV.d (D.bool b11)) []) ∧ (((!b11) = true → ((0 ≤ n6 ∧ n6 < nI (List.length ks)) ∧ ((addO 0 (Int.toNat n6) < List.length l8) ∧ (∀ l12 : List D, (setEl l8 (addO 0 (Int.toNat n6)) 0 [D.int .i64 n10] = l12 → (∀ n13 : Int, (Go.IntKind.wrap Go.IntKind.i64 (n6 + 1) = n13 → (∀ n14 : Int, (Go.IntKind.wrap Go.IntKind.i64 (n7 + 1) = n14 → (∃ k15 : Nat, ((k15 < k9) ∧ I4 n13 n14 l12 k15))))))))))) ∧ ((!b11) = false → (∀ n16 : Int, (Go.IntKind.wrap Go.IntKind.i64 (n7 + 1) = n16 → (∃ k17 : Nat, ((k17 < k9) ∧ I4 n6 n16 l8 k17))))))))))))) ∧ ((decide (n7 < nI (List.length ks))) = false → ((0 ≤ n6 ∧ n6 ≤ nI (List.length ks) ∧ nI (List.length ks) ≤ nI (List.length ks)) ∧ ((addO 0 (Int.toNat n6) + (Int.toNat (nI (List.length ks)) - Int.toNat n6) ≤ List.length l8) ∧ (∀ l18 : List D, (List.take (addO 0 (Int.toNat n6)) l8 ++ List.replicate (Int.toNat (nI (List.length ks)) - Int.toNat n6) (D.int .i64 0) ++ List.drop (addO 0 (Int.toNat n6) + (Int.toNat (nI (List.length ks)) - Int.toNat n6)) l8 = l18 → ((0 ≤ nI (0 : Nat) ∧ nI (0 : Nat) ≤ n6 ∧ n6 ≤ nI (List.length ks)) ∧ EndR (CV.rs 1 2001 (addO 0 (Int.toNat (nI (0 : Nat)))) (Int.toNat n6 - Int.toNat (nI (0 : Nat)))) res [(2001, [CV.arr 1 l18])] objs')))))))))))))))))))))) := by kernel_rfl
theorem zt60 :okF P HZ6 60 2=true:=by kernel_rfl
theorem zvc60 (s0 : Bytes) (n1 : Int) (n2 : Int) (n3 : Int) (l4 : List D) (l5 : List D) (l6 : List D) (res : CV) (objs' : List (Nat × List CV)) : walkA P (tbF P [118,148,112,163,1000101,7000102,107500054,1072002147,75,117,139,172,138,2000035093,2000020094,1000085,1010006055] [] 60) (anOf (afOf P HZ6 60) []) (afOf P HZ6 60) [CV.d (D.agg [D.str s0, D.int .i64 n1, D.int .i64 n2, D.int .i64 n3, D.slice 1 l4, D.slice 7 l5]), CV.d (D.slice 1 l6)] [] (fun rs => endE rs res objs') = ((∃ l7 : List D, ((Runs P 85 [CV.d (D.slice 1 l6)] [] (CV.rs 1 6 0 (List.length l7)) [(6, [CV.arr 1 l7])]) ∧ (∃ l8 : List D, (∃ k9 : Nat, ((Runs P 55 [CV.rs 1 6 0 (List.length l7), CV.fn 104 []] [(6, [CV.arr 1 l7])] (CV.rs 1 6 0 k9) [(6, [CV.arr 1 l8])]) ∧ ((k9 ≤ List.length l8) ∧ (∃ l10 : List D, ((Runs P 39 [CV.d (D.agg [D.str s0, D.int .i64 n1, D.int .i64 n2, D.int .i64 n3, D.slice 1 l4, D.slice 7 l5]), CV.d (D.agg [D.int .i64 0, D.int .i64 0, D.int .i64 0, D.str [], D.int .i64 0, D.slice 1 (List.take k9 l8), D.str []])] [] (CV.d (D.slice 1 l10)) []) ∧ (∃ s11 : Bytes, ((Runs P 105 [CV.d (D.slice 1 l10), CV.d (D.str [32])] [] (CV.d (D.str s11)) []) ∧ EndR (CV.d (D.str s11)) res [(2, [CV.d (D.str s0), CV.d (D.int .i64 n1), CV.d (D.int .i64 n2), CV.d (D.int .i64 n3), CV.d (D.slice 1 l4), CV.d (D.slice 7 l5)]), (6, [CV.arr 1 []])] objs'))))))))))) := by kernel_rfl
theorem zt21 :okF P HZ6 21 0=true:=by kernel_rfl
theorem zt24 :okF P HZ6 24 2=true:=by kernel_rfl
theorem zt27 :okF P HZ6 27 1=true:=by kernel_rfl
theorem zt105 :okF P HZ6 105 2=true:=by kernel_rfl
theorem zvc24 (n0 : Int) (s1 : Bytes) (n2 : Int) (n3 : Int) (n4 : Int) (l5 : List D) (l6 : List D) (res : CV) (objs' : List (Nat × List CV)) : walkA P (tbF P [118,148,112,163,1000101,7000102,107500054,1072002147,75,117,139,172,138,2000035093,2000020094] [] 24) (anOf (afOf P HZ6 24) []) (afOf P HZ6 24) [CV.d (D.int .i64 n0), CV.d (D.agg [D.str s1, D.int .i64 n2, D.int .i64 n3, D.int .i64 n4, D.slice 1 l5, D.slice 7 l6])] [] (fun rs => endE rs res objs') = ((∃ l7 : List D, (∃ l8 : List D, (∃ n9 : Int, ((Runs P 16 [CV.d (D.int .i64 n0), CV.d (D.agg [D.str s1, D.int .i64 n2, D.int .i64 n3, D.int .i64 n4, D.slice 1 l5, D.slice 7 l6])] [] (CV.tup [CV.d (D.slice 1 l7), CV.d (D.slice 11 l8), CV.d (D.int .i64 n9)]) []) ∧ (((n9 != 0) = true → EndR (CV.tup [CV.own 3 [], CV.d (D.int .i64 n9)]) res [(3, [CV.d (D.str s1), CV.d (D.int .i64 n2), CV.d (D.int .i64 n3), CV.d (D.int .i64 n4), CV.d (D.slice 1 l5), CV.d (D.slice 7 l6)])] objs') ∧ ((n9 != 0) = false → (∃ I10 : (List D → (Int → (Nat → Prop))), ((∃ k11 : Nat, I10 [] 0 k11) ∧ (∀ l12 : List D, (∀ n13 : Int, (∀ k14 : Nat, (I10 l12 n13 k14 → (((decide (n13 < nI (List.length l8))) = true → ((0 ≤ n13 ∧ n13 < nI (List.length l8)) ∧ (∃ n15 : Int, (∃ n16 : Int, (∃ n17 : Int, (∃ n18 : Int, (∃ n19 : Int, (∃ n20 : Int, (∃ s21 : Bytes, (∃ n22 : Int, (∃ l23 : List D, (∃ s24 : Bytes, (∃ s25 : Bytes, ((D.cells (List.getD l8 (Int.toNat n13) D.nilp) = [D.int .i64 n15, D.int .i64 n16, D.int .i64 n17, D.int .i64 n18, D.int .i64 n19, D.int .i64 n20, D.str s21, D.int .i64 n22, D.slice 1 l23, D.str s24, D.str s25]) ∧ (((n15 == 2) = true → (∃ s26 : Bytes, ((Runs P 60 [CV.d (D.agg [D.str s1, D.int .i64 n2, D.int .i64 n3, D.int .i64 n4, D.slice 1 l5, D.slice 7 l6]), CV.d (D.slice 1 l23)] [] (CV.d (D.str s26)) []) ∧ (((List.length l12 + List.length [D.agg [D.int .i64 n15, D.int .i64 n16, D.str s26]]) * 32 ≤ 140737488355328) ∧ (∀ b27 : Bool, ((n15 == 2 && n0 == 1) = b27 → (∀ b28 : Bool, ((b27 && n17 != 1) = b28 → (((b28) = true → (∃ s29 : Bytes, ((Runs P 61 [CV.d (D.int .i64 n17)] [] (CV.d (D.str s29)) []) ∧ (((List.length (l12 ++ [D.agg [D.int .i64 n15, D.int .i64 n16, D.str s26]]) + List.length [D.agg [D.int .i64 6, D.int .i64 n16, D.str s29]]) * 32 ≤ 140737488355328) ∧ (∀ n30 : Int, (Go.IntKind.wrap Go.IntKind.i64 (n13 + 1) = n30 → (∃ k31 : Nat, ((k31 < k14) ∧ I10 (l12 ++ [D.agg [D.int .i64 n15, D.int .i64 n16, D.str s26]] ++ [D.agg [D.int .i64 6, D.int .i64 n16, D.str s29]]) n30 k31)))))))) ∧ ((b28) = false → (∀ n32 : Int, (Go.IntKind.wrap Go.IntKind.i64 (n13 + 1) = n32 → (∃ k33 : Nat, ((k33 < k14) ∧ I10 (l12 ++ [D.agg [D.int .i64 n15, D.int .i64 n16, D.str s26]]) n32 k33)))))))))))))) ∧ ((n15 == 2) = false → (((n15 == 6) = true → (((n15 == 6) = true → (∃ s34 : Bytes, ((Runs P 61 [CV.d (D.int .i64 n17)] [] (CV.d (D.str s34)) []) ∧ (((List.length l12 + List.length [D.agg [D.int .i64 n15, D.int .i64 n16, D.str s34]]) * 32 ≤ 140737488355328) ∧ (∀ b35 : Bool, ((n15 == 2 && n0 == 1) = b35 → (∀ b36 : Bool, ((b35 && n17 != 1) = b36 → (((b36) = true → (∃ s37 : Bytes, ((Runs P 61 [CV.d (D.int .i64 n17)] [] (CV.d (D.str s37)) []) ∧ (((List.length (l12 ++ [D.agg [D.int .i64 n15, D.int .i64 n16, D.str s34]]) + List.length [D.agg [D.int .i64 6, D.int .i64 n16, D.str s37]]) * 32 ≤ 140737488355328) ∧ (∀ n38 : Int, (Go.IntKind.wrap Go.IntKind.i64 (n13 + 1) = n38 → (∃ k39 : Nat, ((k39 < k14) ∧ I10 (l12 ++ [D.agg [D.int .i64 n15, D.int .i64 n16, D.str s34]] ++ [D.agg [D.int .i64 6, D.int .i64 n16, D.str s37]]) n38 k39)))))))) ∧ ((b36) = false → (∀ n40 : Int, (Go.IntKind.wrap Go.IntKind.i64 (n13 + 1) = n40 → (∃ k41 : Nat, ((k41 < k14) ∧ I10 (l12 ++ [D.agg [D.int .i64 n15, D.int .i64 n16, D.str s34]]) n40 k41)))))))))))))) ∧ ((n15 == 6) = false → (((List.length l12 + List.length [D.agg [D.int .i64 n15, D.int .i64 n16, D.str s25]]) * 32 ≤ 140737488355328) ∧ (∀ b42 : Bool, ((n15 == 2 && n0 == 1) = b42 → (∀ b43 : Bool, ((b42 && n17 != 1) = b43 → (((b43) = true → (∃ s44 : Bytes, ((Runs P 61 [CV.d (D.int .i64 n17)] [] (CV.d (D.str s44)) []) ∧ (((List.length (l12 ++ [D.agg [D.int .i64 n15, D.int .i64 n16, D.str s25]]) + List.length [D.agg [D.int .i64 6, D.int .i64 n16, D.str s44]]) * 32 ≤ 140737488355328) ∧ (∀ n45 : Int, (Go.IntKind.wrap Go.IntKind.i64 (n13 + 1) = n45 → (∃ k46 : Nat, ((k46 < k14) ∧ I10 (l12 ++ [D.agg [D.int .i64 n15, D.int .i64 n16, D.str s25]] ++ [D.agg [D.int .i64 6, D.int .i64 n16, D.str s44]]) n45 k46)))))))) ∧ ((b43) = false → (∀ n47 : Int, (Go.IntKind.wrap Go.IntKind.i64 (n13 + 1) = n47 → (∃ k48 : Nat, ((k48 < k14) ∧ I10 (l12 ++ [D.agg [D.int .i64 n15, D.int .i64 n16, D.str s25]]) n47 k48)))))))))))))) ∧ ((n15 == 6) = false → (((n15 == 7) = true → (∃ s49 : Bytes, ((Runs P 61 [CV.d (D.int .i64 n17)] [] (CV.d (D.str s49)) []) ∧ (((List.length l12 + List.length [D.agg [D.int .i64 n15, D.int .i64 n16, D.str s49]]) * 32 ≤ 140737488355328) ∧ (∀ b50 : Bool, ((n15 == 2 && n0 == 1) = b50 → (∀ b51 : Bool, ((b50 && n17 != 1) = b51 → (((b51) = true → (∃ s52 : Bytes, ((Runs P 61 [CV.d (D.int .i64 n17)] [] (CV.d (D.str s52)) []) ∧ (((List.length (l12 ++ [D.agg [D.int .i64 n15, D.int .i64 n16, D.str s49]]) + List.length [D.agg [D.int .i64 6, D.int .i64 n16, D.str s52]]) * 32 ≤ 140737488355328) ∧ (∀ n53 : Int, (Go.IntKind.wrap Go.IntKind.i64 (n13 + 1) = n53 → (∃ k54 : Nat, ((k54 < k14) ∧ I10 (l12 ++ [D.agg [D.int .i64 n15, D.int .i64 n16, D.str s49]] ++ [D.agg [D.int .i64 6, D.int .i64 n16, D.str s52]]) n53 k54)))))))) ∧ ((b51) = false → (∀ n55 : Int, (Go.IntKind.wrap Go.IntKind.i64 (n13 + 1) = n55 → (∃ k56 : Nat, ((k56 < k14) ∧ I10 (l12 ++ [D.agg [D.int .i64 n15, D.int .i64 n16, D.str s49]]) n55 k56)))))))))))))) ∧ ((n15 == 7) = false → (((List.length l12 + List.length [D.agg [D.int .i64 n15, D.int .i64 n16, D.str s25]]) * 32 ≤ 140737488355328) ∧ (∀ b57 : Bool, ((n15 == 2 && n0 == 1) = b57 → (∀ b58 : Bool, ((b57 && n17 != 1) = b58 → (((b58) = true → (∃ s59 : Bytes, ((Runs P 61 [CV.d (D.int .i64 n17)] [] (CV.d (D.str s59)) []) ∧ (((List.length (l12 ++ [D.agg [D.int .i64 n15, D.int .i64 n16, D.str s25]]) + List.length [D.agg [D.int .i64 6, D.int .i64 n16, D.str s59]]) * 32 ≤ 140737488355328) ∧ (∀ n60 : Int, (Go.IntKind.wrap Go.IntKind.i64 (n13 + 1) = n60 → (∃ k61 : Nat, ((k61 < k14) ∧ I10 (l12 ++ [D.agg [D.int .i64 n15, D.int .i64 n16, D.str s25]] ++ [D.agg [D.int .i64 6, D.int .i64 n16, D.str s59]]) n60 k61)))))))) ∧ ((b58) = false → (∀ n62 : Int, (Go.IntKind.wrap Go.IntKind.i64 (n13 + 1) = n62 → (∃ k63 : Nat, ((k63 < k14) ∧ I10 (l12 ++ [D.agg [D.int .i64 n15, D.int .i64 n16, D.str s25]]) n62 k63))))))))))))))))))))))))))))))) ∧ ((decide (n13 < nI (List.length l8))) = false → EndR (CV.tup [CV.own 3 l12, CV.d (D.int .i64 0)]) res [(3, [CV.d (D.str s1), CV.d (D.int .i64 n2), CV.d (D.int .i64 n3), CV.d (D.int .i64 n4), CV.d (D.slice 1 l5), CV.d (D.slice 7 l6)])] objs'))))))))))))))) := by kernel_rfl
theorem zvc27 (n0 : Int) (n1 : Int) (s2 : Bytes) (res : CV) (objs' : List (Nat × List CV)) : walkA P (tbF P [118,148,112,163,1000101,7000102,107500054,1072002147,75,117,139,172,138,2000035093,2000020094] [] 27) (anOf (afOf P HZ6 27) []) (afOf P HZ6 27) [CV.d (D.agg [D.int .i64 n0, D.int .i64 n1, D.str s2])] [] (fun rs => endE rs res objs') = ((∃ s3 : Bytes, ((Runs P 61 [CV.d (D.int .i64 n1)] [] (CV.d (D.str s3)) []) ∧ ((nI (List.length s3 + List.length [32]) ≤ Go.IntKind.max Go.IntKind.i64) ∧ (∀ s4 : Bytes, (s3 ++ [32] = s4 → (((n0 == 4) = true → ((nI (List.length [119, 111, 114, 100, 32] + List.length s2) ≤ Go.IntKind.max Go.IntKind.i64) ∧ (∀ s5 : Bytes, ([119, 111, 114, 100, 32] ++ s2 = s5 → EndR (CV.d (D.str s5)) res [(1, [CV.d (D.int .i64 n0), CV.d (D.int .i64 n1), CV.d (D.str s2)])] objs')))) ∧ ((n0 == 4) = false → (((n0 == 2) = true → ((nI (List.length [107, 101, 121, 115, 32] + List.length s4) ≤ Go.IntKind.max Go.IntKind.i64) ∧ (∀ s6 : Bytes, ([107, 101, 121, 115, 32] ++ s4 = s6 → ((nI (List.length s6 + List.length s2) ≤ Go.IntKind.max Go.IntKind.i64) ∧ (∀ s7 : Bytes, (s6 ++ s2 = s7 → EndR (CV.d (D.str s7)) res [(1, [CV.d (D.int .i64 n0), CV.d (D.int .i64 n1), CV.d (D.str s2)])] objs'))))))) ∧ ((n0 == 2) = false → (((n0 == 5) = true → ((nI (List.length [110, 97, 109, 101, 32] + List.length s4) ≤ Go.IntKind.max Go.IntKind.i64) ∧ (∀ s8 : Bytes, ([110, 97, 109, 101, 32] ++ s4 = s8 → ((nI (List.length s8 + List.length s2) ≤ Go.IntKind.max Go.IntKind.i64) ∧ (∀ s9 : Bytes, (s8 ++ s2 = s9 → EndR (CV.d (D.str s9)) res [(1, [CV.d (D.int .i64 n0), CV.d (D.int .i64 n1), CV.d (D.str s2)])] objs'))))))) ∧ ((n0 == 5) = false → (((n0 == 6) = true → ((nI (List.length [109, 111, 100, 32] + List.length s4) ≤ Go.IntKind.max Go.IntKind.i64) ∧ (∀ s10 : Bytes, ([109, 111, 100, 32] ++ s4 = s10 → ((nI (List.length s10 + List.length s2) ≤ Go.IntKind.max Go.IntKind.i64) ∧ (∀ s11 : Bytes, (s10 ++ s2 = s11 → EndR (CV.d (D.str s11)) res [(1, [CV.d (D.int .i64 n0), CV.d (D.int .i64 n1), CV.d (D.str s2)])] objs'))))))) ∧ ((n0 == 6) = false → (((n0 == 7) = true → ((nI (List.length [104, 105, 103, 104, 32] + List.length s2) ≤ Go.IntKind.max Go.IntKind.i64) ∧ (∀ s12 : Bytes, ([104, 105, 103, 104, 32] ++ s2 = s12 → EndR (CV.d (D.str s12)) res [(1, [CV.d (D.int .i64 n0), CV.d (D.int .i64 n1), CV.d (D.str s2)])] objs')))) ∧ ((n0 == 7) = false → EndR (CV.d (D.str [])) res [(1, [CV.d (D.int .i64 n0), CV.d (D.int .i64 n1), CV.d (D.str s2)])] objs')))))))))))))))) := by kernel_rfl
theorem zvc21  (res : CV) (objs' : List (Nat × List CV)) : walkA P (tbF P [118,148,112,163,1000101,7000102,107500054,1072002147,75,117,139,172,138,2000035093,2000020094] [] 21) (anOf (afOf P HZ6 21) []) (afOf P HZ6 21) [] [] (fun rs => endE rs res objs') = ((∃ l0 : List D, (∃ n1 : Int, ((Runs P 24 [CV.d (D.int .i64 1), CV.d (D.agg [D.str [98, 49], D.int .i64 5, D.int .i64 2, D.int .i64 7, D.slice 1 [], D.slice 7 [D.agg [D.int .i64 1, D.int .i64 7, D.int .i64 0, D.str [120], D.int .i64 0, D.slice 1 [], D.str []]]])] [] (CV.tup [CV.d (D.slice 3 l0), CV.d (D.int .i64 n1)]) []) ∧ (∃ l2 : List D, (∃ n3 : Int, ((Runs P 24 [CV.d (D.int .i64 3), CV.d (D.agg [D.str [98, 49], D.int .i64 5, D.int .i64 2, D.int .i64 7, D.slice 1 [], D.slice 7 [D.agg [D.int .i64 1, D.int .i64 7, D.int .i64 0, D.str [120], D.int .i64 0, D.slice 1 [], D.str []]]])] [] (CV.tup [CV.d (D.slice 3 l2), CV.d (D.int .i64 n3)]) []) ∧ (∀ b4 : Bool, ((n1 == 0 && n3 == 0) = b4 → (∀ b5 : Bool, ((b4 && nI (List.length l0) == 3) = b5 → (∀ b6 : Bool, ((b5 && nI (List.length l2) == 0) = b6 → ((b6 = true → (0 : Int) ≤ 0 ∧ 0 < nI (List.length l0)) ∧ (∃ n7 : Int, (∃ n8 : Int, (∃ s9 : Bytes, ((b6 = true → D.cells (List.getD l0 (Int.toNat 0) D.nilp) = [D.int .i64 n7, D.int .i64 n8, D.str s9]) ∧ (∃ s10 : Bytes, ((b6 = true → Runs P 27 [CV.d (D.agg [D.int .i64 n7, D.int .i64 n8, D.str s9])] [] (CV.d (D.str s10)) []) ∧ (∀ b11 : Bool, ((b6 && s10 == [104, 105, 103, 104, 32, 55]) = b11 → ((b11 = true → (0 : Int) ≤ 1 ∧ 1 < nI (List.length l0)) ∧ (∃ n12 : Int, (∃ n13 : Int, (∃ s14 : Bytes, ((b11 = true → D.cells (List.getD l0 (Int.toNat 1) D.nilp) = [D.int .i64 n12, D.int .i64 n13, D.str s14]) ∧ (∃ s15 : Bytes, ((b11 = true → Runs P 27 [CV.d (D.agg [D.int .i64 n12, D.int .i64 n13, D.str s14])] [] (CV.d (D.str s15)) []) ∧ (∀ b16 : Bool, ((b11 && s15 == [110, 97, 109, 101, 32, 49, 32, 120]) = b16 → ((b16 = true → (0 : Int) ≤ 2 ∧ 2 < nI (List.length l0)) ∧ (∃ n17 : Int, (∃ n18 : Int, (∃ s19 : Bytes, ((b16 = true → D.cells (List.getD l0 (Int.toNat 2) D.nilp) = [D.int .i64 n17, D.int .i64 n18, D.str s19]) ∧ (∃ s20 : Bytes, ((b16 = true → Runs P 27 [CV.d (D.agg [D.int .i64 n17, D.int .i64 n18, D.str s19])] [] (CV.d (D.str s20)) []) ∧ (∀ b21 : Bool, ((b16 && s20 == [109, 111, 100, 32, 49, 32, 55]) = b21 → EndR (CV.d (D.bool b21)) res [((1 : Nat), [CV.d (D.str [(98 : UInt8), (49 : UInt8)]), CV.d (D.int .i64 (5 : Int)), CV.d (D.int .i64 (2 : Int)), CV.d (D.int .i64 (7 : Int)), CV.own (1 : Nat) [], CV.d (D.slice (7 : Nat) [D.agg [D.int .i64 (1 : Int), D.int .i64 (7 : Int), D.int .i64 (0 : Int), D.str [(120 : UInt8)], D.int .i64 (0 : Int), D.slice (1 : Nat) [], D.str []]])])] objs')))))))))))))))))))))))))))))))))))))))) := by kernel_rfl
theorem zvc105 (l0 : List D) (s1 : Bytes) (res : CV) (objs' : List (Nat × List CV)) : walkA P (tbF P [118,148,112,163,1000101,7000102,107500054,1072002147,75,117,139,172,138,2000035093,2000020094] [] 105) (anOf (afOf P HZ6 105) []) (afOf P HZ6 105) [CV.d (D.slice 1 l0), CV.d (D.str s1)] [] (fun rs => endE rs res objs') = ((((nI (List.length l0) == 0) = true → EndR (CV.d (D.str [])) res [] objs') ∧ ((nI (List.length l0) == 0) = false → (((nI (List.length l0) == 1) = true → (((0 : Int) ≤ 0 ∧ 0 < nI (List.length l0)) ∧ (∃ s2 : Bytes, ((D.cells (List.getD l0 (Int.toNat 0) D.nilp) = [D.str s2]) ∧ EndR (CV.d (D.str s2)) res [] objs')))) ∧ ((nI (List.length l0) == 1) = false → (((decide (nI (List.length s1) > 0)) = true → (∀ n3 : Int, (Go.IntKind.wrap Go.IntKind.i64 (nI (List.length l0) - 1) = n3 → ((n3 ≠ 0) ∧ (∀ n4 : Int, (Go.IntKind.wrap Go.IntKind.i64 (Int.tdiv 9223372036854775807 n3) = n4 → (((decide (nI (List.length s1) ≥ n4)) = true → False) ∧ ((decide (nI (List.length s1) ≥ n4)) = false → (∀ n5 : Int, (Go.IntKind.wrap Go.IntKind.i64 (nI (List.length l0) - 1) = n5 → (∀ n6 : Int, (Go.IntKind.wrap Go.IntKind.i64 (nI (List.length s1) * n5) = n6 → (∀ n7 : Int, (Go.IntKind.wrap Go.IntKind.i64 (0 + n6) = n7 → (∃ I8 : (Int → (Int → (Nat → Prop))), ((∃ k9 : Nat, I8 n7 0 k9) ∧ (∀ n10 : Int, (∀ n11 : Int, (∀ k12 : Nat, (I8 n10 n11 k12 → (((decide (n11 < nI (List.length l0))) = true → ((0 ≤ n11 ∧ n11 < nI (List.length l0)) ∧ (∃ s13 : Bytes, ((D.cells (List.getD l0 (Int.toNat n11) D.nilp) = [D.str s13]) ∧ (∀ n14 : Int, (Go.IntKind.wrap Go.IntKind.i64 (9223372036854775807 - n10) = n14 → (((decide (nI (List.length s13) > n14)) = true → False) ∧ ((decide (nI (List.length s13) > n14)) = false → (∀ n15 : Int, (Go.IntKind.wrap Go.IntKind.i64 (n10 + nI (List.length s13)) = n15 → (∀ n16 : Int, (Go.IntKind.wrap Go.IntKind.i64 (n11 + 1) = n16 → (∃ k17 : Nat, ((k17 < k12) ∧ I8 n15 n16 k17)))))))))))))) ∧ ((decide (n11 < nI (List.length l0))) = false → (∃ s18 : Bytes, ((Runs P 142 [CV.ptr 8 0, CV.d (D.int .i64 n10)] [(8, [CV.sp 8 167, CV.bld 5 true []])] (CV.tup []) [(8, [CV.sp 8 167, CV.bld 5 false s18])]) ∧ (((0 : Int) ≤ 0 ∧ 0 < nI (List.length l0)) ∧ (∃ s19 : Bytes, ((D.cells (List.getD l0 (Int.toNat 0) D.nilp) = [D.str s19]) ∧ (∃ s20 : Bytes, (∃ n21 : Int, ((Runs P 143 [CV.ptr 8 0, CV.d (D.str s19)] [(8, [CV.sp 8 167, CV.bld 5 false s18])] (CV.tup [CV.d (D.int .i64 n21), CV.junk]) [(8, [CV.sp 8 167, CV.bld 5 false s20])]) ∧ (((0 : Int) ≤ 1 ∧ 1 ≤ nI (List.length l0) ∧ nI (List.length l0) ≤ nI (List.length l0)) ∧ (∀ l22 : List D, (List.drop (Int.toNat 1) (List.take (Int.toNat (nI (List.length l0))) l0) = l22 → (∃ I23 : (Int → (Bytes → (Nat → Prop))), (((CV.sp (8 : Nat) (167 : Nat) = CV.sp (8 : Nat) (167 : Nat)) ∧ (∃ k24 : Nat, I23 0 s20 k24)) ∧ (∀ n25 : Int, (∀ s26 : Bytes, (∀ k27 : Nat, (I23 n25 s26 k27 → (((decide (n25 < nI (List.length l22))) = true → ((0 ≤ n25 ∧ n25 < nI (List.length l22)) ∧ (∃ s28 : Bytes, ((D.cells (List.getD l22 (Int.toNat n25) D.nilp) = [D.str s28]) ∧ (∃ s29 : Bytes, (∃ n30 : Int, ((Runs P 143 [CV.ptr 8 0, CV.d (D.str s1)] [(8, [CV.sp 8 167, CV.bld 5 false s26])] (CV.tup [CV.d (D.int .i64 n30), CV.junk]) [(8, [CV.sp 8 167, CV.bld 5 false s29])]) ∧ (∃ s31 : Bytes, (∃ n32 : Int, ((Runs P 143 [CV.ptr 8 0, CV.d (D.str s28)] [(8, [CV.sp 8 167, CV.bld 5 false s29])] (CV.tup [CV.d (D.int .i64 n32), CV.junk]) [(8, [CV.sp 8 167, CV.bld 5 false s31])]) ∧ (∀ n33 : Int, (Go.IntKind.wrap Go.IntKind.i64 (n25 + 1) = n33 → ((CV.sp (8 : Nat) (167 : Nat) = CV.sp (8 : Nat) (167 : Nat)) ∧ (∃ k34 : Nat, ((k34 < k27) ∧ I23 n33 s31 k34))))))))))))))) ∧ ((decide (n25 < nI (List.length l22))) = false → (∃ s35 : Bytes, (∃ s36 : Bytes, ((Runs P 144 [CV.ptr 8 0] [(8, [CV.sp 8 167, CV.bld 5 false s26])] (CV.d (D.str s36)) [(8, [CV.sp 8 167, CV.bld 5 false s35])]) ∧ EndR (CV.d (D.str s36)) res [(8, [CV.sp 8 167, CV.bld 5 false s35])] objs')))))))))))))))))))))))))))))))))))))))))))) ∧ ((decide (nI (List.length s1) > 0)) = false → (∃ I37 : (Int → (Int → (Nat → Prop))), ((∃ k38 : Nat, I37 0 0 k38) ∧ (∀ n39 : Int, (∀ n40 : Int, (∀ k41 : Nat, (I37 n39 n40 k41 → (((decide (n40 < nI (List.length l0))) = true → ((0 ≤ n40 ∧ n40 < nI (List.length l0)) ∧ (∃ s42 : Bytes, ((D.cells (List.getD l0 (Int.toNat n40) D.nilp) = [D.str s42]) ∧ (∀ n43 : Int, (Go.IntKind.wrap Go.IntKind.i64 (9223372036854775807 - n39) = n43 → (((decide (nI (List.length s42) > n43)) = true → False) ∧ ((decide (nI (List.length s42) > n43)) = false → (∀ n44 : Int, (Go.IntKind.wrap Go.IntKind.i64 (n39 + nI (List.length s42)) = n44 → (∀ n45 : Int, (Go.IntKind.wrap Go.IntKind.i64 (n40 + 1) = n45 → (∃ k46 : Nat, ((k46 < k41) ∧ I37 n44 n45 k46)))))))))))))) ∧ ((decide (n40 < nI (List.length l0))) = false → (∃ s47 : Bytes, ((Runs P 142 [CV.ptr 8 0, CV.d (D.int .i64 n39)] [(8, [CV.sp 8 167, CV.bld 5 true []])] (CV.tup []) [(8, [CV.sp 8 167, CV.bld 5 false s47])]) ∧ (((0 : Int) ≤ 0 ∧ 0 < nI (List.length l0)) ∧ (∃ s48 : Bytes, ((D.cells (List.getD l0 (Int.toNat 0) D.nilp) = [D.str s48]) ∧ (∃ s49 : Bytes, (∃ n50 : Int, ((Runs P 143 [CV.ptr 8 0, CV.d (D.str s48)] [(8, [CV.sp 8 167, CV.bld 5 false s47])] (CV.tup [CV.d (D.int .i64 n50), CV.junk]) [(8, [CV.sp 8 167, CV.bld 5 false s49])]) ∧ (((0 : Int) ≤ 1 ∧ 1 ≤ nI (List.length l0) ∧ nI (List.length l0) ≤ nI (List.length l0)) ∧ (∀ l51 : List D, (List.drop (Int.toNat 1) (List.take (Int.toNat (nI (List.length l0))) l0) = l51 → (∃ I52 : (Int → (Bytes → (Nat → Prop))), (((CV.sp (8 : Nat) (167 : Nat) = CV.sp (8 : Nat) (167 : Nat)) ∧ (∃ k53 : Nat, I52 0 s49 k53)) ∧ (∀ n54 : Int, (∀ s55 : Bytes, (∀ k56 : Nat, (I52 n54 s55 k56 → (((decide (n54 < nI (List.length l51))) = true → ((0 ≤ n54 ∧ n54 < nI (List.length l51)) ∧ (∃ s57 : Bytes, ((D.cells (List.getD l51 (Int.toNat n54) D.nilp) = [D.str s57]) ∧ (∃ s58 : Bytes, (∃ n59 : Int, ((Runs P 143 [CV.ptr 8 0, CV.d (D.str s1)] [(8, [CV.sp 8 167, CV.bld 5 false s55])] (CV.tup [CV.d (D.int .i64 n59), CV.junk]) [(8, [CV.sp 8 167, CV.bld 5 false s58])]) ∧ (∃ s60 : Bytes, (∃ n61 : Int, ((Runs P 143 [CV.ptr 8 0, CV.d (D.str s57)] [(8, [CV.sp 8 167, CV.bld 5 false s58])] (CV.tup [CV.d (D.int .i64 n61), CV.junk]) [(8, [CV.sp 8 167, CV.bld 5 false s60])]) ∧ (∀ n62 : Int, (Go.IntKind.wrap Go.IntKind.i64 (n54 + 1) = n62 → ((CV.sp (8 : Nat) (167 : Nat) = CV.sp (8 : Nat) (167 : Nat)) ∧ (∃ k63 : Nat, ((k63 < k56) ∧ I52 n62 s60 k63))))))))))))))) ∧ ((decide (n54 < nI (List.length l51))) = false → (∃ s64 : Bytes, (∃ s65 : Bytes, ((Runs P 144 [CV.ptr 8 0] [(8, [CV.sp 8 167, CV.bld 5 false s55])] (CV.d (D.str s65)) [(8, [CV.sp 8 167, CV.bld 5 false s64])]) ∧ EndR (CV.d (D.str s65)) res [(8, [CV.sp 8 167, CV.bld 5 false s64])] objs'))))))))))))))))))))))))))))))))))))) := by kernel_rfl
end B
end Go.Proofs.YtmkkljbfmdngfaaGreatDoor

namespace Go.Proofs.YtmkkljbfmdngfaaGreatDoor
namespace B
open Go.RowKit
def keepF (p : Int → Bool) (ks : List Int) : List Int := ks.filter fun k => !p k
def shutF (p : Int → Bool) (ks : List Int) : List Int := keepF p ks ++ List.replicate (ks.length - (keepF p ks).length) 0

def pa (k : Int) : Bool := decide (k ≥ 32)
def pb (k : Int) : Bool := decide (k < 32)
theorem y104 (k : Int) : Runs P 104 [.d (iD k)] [] (.d (.bool (pb k))) [] := by
  refine runs_walkZ zt104 (zvc104 k _ _) rfl (by simp) ?_
  exact endB rfl
theorem y103b (ks : List Int) (hn : ks.length ≤ 9223372036854775806) : Runs P 103 [.rs 1 2001 0 (ints ks).length, .fn 104 []] [(2001, [.arr 1 (ints ks)])] (.d (iD (idxF pb ks))) [(2001, [.arr 1 (ints ks)])] := by
  refine runs_walkZ zt103 (zvc103b (ints ks) _ _) rfl (by simp) ?_
  have hlen : nI (List.length (ints ks)) = (ks.length : Int) := by rw [ints_len]
  rw [hlen]
  refine ⟨fun n m => ∃ i : Nat, n = i ∧ i ≤ ks.length ∧ m = ks.length - i ∧ (∀ j (hj : j < ks.length), j < i → pb ks[j] = false), ⟨_, 0, rfl, by omega, rfl, fun j _ h0 => by omega⟩, ?_⟩
  rintro _ _ ⟨i, rfl, hi, rfl, hJ⟩
  refine ⟨fun h => ?_, fun h => ?_⟩
  · have h := of_decide_eq_true h
    have hlt : i < ks.length := by omega
    refine ⟨⟨by omega, by omega⟩, addO_lt (by rw [ints_len]; exact hlt), ks[i], el_int ks hlt, _, y104 ks[i], fun h => ?_, fun h => ?_⟩
    · have e : idxF pb ks = (i : Int) := by
        unfold idxF
        rw [List.findIdx?_eq_some_iff_getElem.2 ⟨hlt, h, fun j hj => by rw [hJ j (by omega) hj]; decide⟩]
      rw [e]
      exact endL rfl ⟨rfl, trivial⟩ rfl
    · rintro _ rfl
      refine ⟨ks.length - (i + 1), by omega, i + 1, W64 (by omega) (by omega), by omega, rfl, fun j hj hj2 => ?_⟩
      rcases Nat.lt_or_ge j i with h2 | h2
      · exact hJ j hj h2
      · obtain rfl : j = i := by omega
        exact h
  · have h := of_decide_eq_false h
    have e : idxF pb ks = -1 := by
      unfold idxF
      rw [List.findIdx?_eq_none_iff.2 (fun x hx => by
        obtain ⟨j, hj, rfl⟩ := List.mem_iff_getElem.1 hx
        exact hJ j hj (by omega))]
    rw [e]
    exact endL rfl ⟨rfl, trivial⟩ rfl
theorem y55b (ks : List Int) (hn : ks.length ≤ 9223372036854775806) : Runs P 55 [.rs 1 2001 0 (ints ks).length, .fn 104 []] [(2001, [.arr 1 (ints ks)])] (.rs 1 2001 0 (keepF pb ks).length) [(2001, [.arr 1 (ints (shutF pb ks))])] := by
  refine runs_walkZ zt55 (zvc55b (ints ks) _ _) rfl (by simp) ?_
  have hlen : nI (List.length (ints ks)) = (ks.length : Int) := by rw [ints_len]
  have hfl : (keepF pb ks).length ≤ ks.length := List.length_filter_le _ _
  refine ⟨_, _, y103b ks hn, fun h => ?_, fun h => ?_⟩
  · have hall : ∀ k ∈ ks, pb k = false := by
      unfold idxF at h
      cases e : ks.findIdx? pb with
      | none => exact List.findIdx?_eq_none_iff.1 e
      | some j => rw [e] at h; simp at h
    have e1 : keepF pb ks = ks := List.filter_eq_self.2 fun k hk => by rw [hall k hk]; rfl
    have e2 : shutF pb ks = ks := by unfold shutF; rw [e1]; simp
    rw [e1, e2, ← ints_len ks]
    exact endL rfl ⟨rfl, trivial⟩ rfl
  · obtain ⟨i0, hi0⟩ : ∃ j, ks.findIdx? pb = some j := by
      unfold idxF at h
      cases e : ks.findIdx? pb with
      | none => rw [e] at h; simp at h
      | some j => exact ⟨j, rfl⟩
    have e0 : idxF pb ks = (i0 : Int) := by unfold idxF; rw [hi0]
    obtain ⟨hlt0, hp0, hq0⟩ := List.findIdx?_eq_some_iff_getElem.1 hi0
    rw [e0, hlen]
    rintro _ rfl
    have ek : ∀ j (hj : j < ks.length), keepF pb (ks.take (j + 1)) = keepF pb (ks.take j) ++ if pb ks[j] = true then [] else [ks[j]] := fun j hj => by
      unfold keepF
      rw [List.take_succ_eq_append_getElem hj, List.filter_append, List.filter_cons, List.filter_nil]
      cases pb ks[j] <;> rfl
    have et : keepF pb (ks.take i0) = ks.take i0 := List.filter_eq_self.2 fun k hk => by
      obtain ⟨j, hj, rfl⟩ := List.mem_iff_getElem.1 hk
      rw [List.length_take] at hj
      have := hq0 j (by omega)
      rw [List.getElem_take]
      simpa using this
    refine ⟨fun n m row c => ∃ (i j : Nat) (r : List Int), n = i ∧ m = j ∧ j ≤ ks.length ∧ c = ks.length - j ∧ row = ints r ∧ r.length = ks.length ∧ r.drop j = ks.drop j ∧ r.take i = keepF pb (ks.take j) ∧ i = (keepF pb (ks.take j)).length ∧ i ≤ j,
      ⟨_, i0, i0 + 1, ks, rfl, W64 (by omega) (by omega), by omega, rfl, rfl, rfl, rfl, ?_, ?_, by omega⟩, ?_⟩
    · rw [ek i0 hlt0, if_pos hp0, List.append_nil, et]
    · rw [ek i0 hlt0, if_pos hp0, List.append_nil, et, List.length_take]; omega
    rintro _ _ _ _ ⟨i, j, r, rfl, rfl, hj, rfl, rfl, hr, hd, ht, hi, hij⟩
    refine ⟨fun h => ?_, fun h => ?_⟩
    · have h := of_decide_eq_true h
      have hlt : j < ks.length := by omega
      have hlr : j < r.length := by omega
      have ev : r[j] = ks[j] := by
        have := congrArg (fun x => x[0]?) hd
        simp only [List.getElem?_drop, Nat.add_zero] at this
        rw [List.getElem?_eq_getElem hlr, List.getElem?_eq_getElem hlt] at this
        simpa using this
      have hd2 : r.drop (j + 1) = ks.drop (j + 1) := by
        have := congrArg (List.drop 1) hd
        simpa [List.drop_drop] using this
      refine ⟨⟨by omega, by omega⟩, addO_lt (by rw [ints_len]; exact hlr), ks[j], by rw [el_int r hlr, ev], _, y104 ks[j], fun h => ?_, fun h => ?_⟩
      · have h : pb ks[j] = false := by simpa using h
        refine ⟨⟨by omega, by omega⟩, addO_lt (by rw [ints_len]; omega), ?_⟩
        rintro _ rfl _ rfl _ rfl
        rw [spI r (by omega)]
        refine ⟨ks.length - (j + 1), by omega, i + 1, j + 1, r.set i ks[j], W64 (by omega) (by omega), W64 (by omega) (by omega), by omega, rfl, rfl, by simp [hr], ?_, ?_, ?_, by omega⟩
        · rw [List.drop_set_of_lt (by omega), hd2]
        · rw [ek j hlt, h, if_neg (by decide), ← ht]
          have hir : i < r.length := by omega
          rw [List.take_succ_eq_append_getElem (by simpa using hir), List.take_set_of_le (Nat.le_refl i), List.getElem_set_self]
        · rw [ek j hlt, h, if_neg (by decide), List.length_append, ← hi]; rfl
      · have h : pb ks[j] = true := by simpa using h
        rintro _ rfl
        refine ⟨ks.length - (j + 1), by omega, i, j + 1, r, rfl, W64 (by omega) (by omega), by omega, rfl, rfl, hr, hd2, ?_, ?_, by omega⟩
        · rw [ek j hlt, if_pos h, List.append_nil, ht]
        · rw [ek j hlt, if_pos h, List.append_nil, hi]
    · have h := of_decide_eq_false h
      obtain rfl : j = ks.length := by omega
      rw [List.take_length] at ht hi
      refine ⟨⟨by omega, by omega, by omega⟩, by rw [add0, ints_len]; omega, ?_⟩
      rintro _ rfl
      refine ⟨⟨by simp [nI], by simp [nI], by omega⟩, ?_⟩
      rw [← hi]
      refine endL (by simp [nI, addO]) ⟨?_, trivial⟩ rfl
      have e3 : Int.toNat (ks.length : Int) - Int.toNat (i : Int) = ks.length - i := by omega
      rw [add0, e3]
      have e4 : List.drop (i + (ks.length - i)) (ints r) = [] := List.drop_eq_nil_of_le (by rw [ints_len]; omega)
      rw [e4, List.append_nil]
      have e5 : List.take i (ints r) = ints (keepF pb ks) := by rw [← ht]; simp [ints, List.map_take]
      rw [e5]
      have e6 : ints (shutF pb ks) = ints (keepF pb ks) ++ List.replicate (ks.length - i) (D.int .i64 0) := by
        unfold shutF
        rw [← hi]
        simp [ints]
      rw [e6]; rfl
end B
end Go.Proofs.YtmkkljbfmdngfaaGreatDoor

namespace Go.Proofs.YtmkkljbfmdngfaaGreatDoor
namespace B
open Go.RowKit

theorem rest_mod {v : Int} {b : Box} (hM : BoxMay b) : ∀ r ∈ restR v b, 0 ≤ r.mod ∧ r.mod ≤ 1000000 := by
  intro r hr
  unfold restR at hr
  split at hr
  · simp at hr
  · rcases List.mem_append.1 hr with h | h
    · split at h
      · simp at h; subst h
        have := hM.high
        show 0 ≤ b.high ∧ b.high ≤ 1000000
        omega
      · simp at h
    · rcases List.mem_append.1 h with h | h
      · obtain ⟨w, _, rfl⟩ := List.mem_map.1 h
        show (0 : Int) ≤ 0 ∧ (0 : Int) ≤ 1000000
        decide
      · obtain ⟨m, hm, h⟩ := List.mem_flatMap.1 h
        have hmm := ((msgsMay.1 hM.msgs).all m hm).2.1.mod
        unfold leftR at h
        rcases List.mem_append.1 h with h | h
        · split at h
          · simp at h; subst h
            show 0 ≤ m.mod ∧ m.mod ≤ 1000000
            omega
          · simp at h
        · rcases List.mem_append.1 h with h | h
          · split at h
            · simp at h
            · simp at h; subst h
              show (0 : Int) ≤ 0 ∧ (0 : Int) ≤ 1000000
              decide
          · split at h
            · simp at h; subst h
              show 0 ≤ m.mod ∧ m.mod ≤ 1000000
              omega
            · simp at h
def sp4 (p : Bytes) (u : Int) (t : Bytes) : Bytes := p ++ (Lib.itoa u ++ [32]) ++ t
def lossT (l : Loss) : Bytes := if l.kind = 4 then [119, 111, 114, 100, 32] ++ l.text else if l.kind = 2 then sp4 [107, 101, 121, 115, 32] l.uid l.text else if l.kind = 5 then sp4 [110, 97, 109, 101, 32] l.uid l.text
  else if l.kind = 6 then sp4 [109, 111, 100, 32] l.uid l.text else if l.kind = 7 then [104, 105, 103, 104, 32] ++ l.text else []
theorem y27 (l : Loss) (h0 : -9223372036854775808 ≤ l.uid) (h1 : l.uid ≤ 9223372036854775807) (ht : l.text.length ≤ 1099511627776) : Runs P 27 [.d l.d] [] (.d (.str (lossT l))) [] := by
  obtain ⟨k, u, t⟩ := l
  refine runs_walkZ zt27 (zvc27 k u t _ _) rfl (by simp) ?_
  have hl := Lib.itoa_length_le u h0 h1
  refine ⟨_, r57 u h0 h1, by simp only [nI, maxI64, List.length_cons, List.length_nil]; omega, ?_⟩
  rintro _ rfl
  have b1 : ∀ p : Bytes, p.length ≤ 10 → nI (p.length + t.length) ≤ Go.IntKind.max Go.IntKind.i64 := fun p hp => by simp only [nI, maxI64]; simp only at ht; omega
  have b2 : ∀ p : Bytes, p.length ≤ 10 → nI (p.length + (Lib.itoa u ++ [32]).length) ≤ Go.IntKind.max Go.IntKind.i64 := fun p hp => by simp only [nI, maxI64, List.length_append, List.length_cons, List.length_nil]; omega
  have b3 : ∀ p : Bytes, p.length ≤ 10 → nI ((p ++ (Lib.itoa u ++ [32])).length + t.length) ≤ Go.IntKind.max Go.IntKind.i64 := fun p hp => by simp only [nI, maxI64, List.length_append, List.length_cons, List.length_nil]; simp only at ht; omega
  refine ⟨fun h => ?_, fun h4 => ?_⟩
  · skip
    have h : k = 4 := by simpa using h
    refine ⟨b1 [119, 111, 114, 100, 32] (by decide), ?_⟩
    rintro _ rfl
    refine endS ?_
    unfold lossT
    simp only
    rw [if_pos h]
  refine ⟨fun h => ?_, fun h2 => ?_⟩
  · skip
    have h : k = 2 := by simpa using h
    refine ⟨b2 [107, 101, 121, 115, 32] (by decide), ?_⟩
    rintro _ rfl
    refine ⟨b3 [107, 101, 121, 115, 32] (by decide), ?_⟩
    rintro _ rfl
    refine endS ?_
    unfold lossT
    simp only
    rw [if_neg (show ¬ k = 4 by simpa using h4), if_pos h]; rfl
  refine ⟨fun h => ?_, fun h5 => ?_⟩
  · skip
    have h : k = 5 := by simpa using h
    refine ⟨b2 [110, 97, 109, 101, 32] (by decide), ?_⟩
    rintro _ rfl
    refine ⟨b3 [110, 97, 109, 101, 32] (by decide), ?_⟩
    rintro _ rfl
    refine endS ?_
    unfold lossT
    simp only
    rw [if_neg (show ¬ k = 4 by simpa using h4), if_neg (show ¬ k = 2 by simpa using h2), if_pos h]; rfl
  refine ⟨fun h => ?_, fun h6 => ?_⟩
  · skip
    have h : k = 6 := by simpa using h
    refine ⟨b2 [109, 111, 100, 32] (by decide), ?_⟩
    rintro _ rfl
    refine ⟨b3 [109, 111, 100, 32] (by decide), ?_⟩
    rintro _ rfl
    refine endS ?_
    unfold lossT
    simp only
    rw [if_neg (show ¬ k = 4 by simpa using h4), if_neg (show ¬ k = 2 by simpa using h2), if_neg (show ¬ k = 5 by simpa using h5), if_pos h]; rfl
  refine ⟨fun h => ?_, fun h7 => ?_⟩
  · skip
    have h : k = 7 := by simpa using h
    refine ⟨b1 [104, 105, 103, 104, 32] (by decide), ?_⟩
    rintro _ rfl
    refine endS ?_
    unfold lossT
    simp only
    rw [if_neg (show ¬ k = 4 by simpa using h4), if_neg (show ¬ k = 2 by simpa using h2), if_neg (show ¬ k = 5 by simpa using h5), if_neg (show ¬ k = 6 by simpa using h6), if_pos h]
  refine endS ?_
  unfold lossT
  simp only
  rw [if_neg (show ¬ k = 4 by simpa using h4), if_neg (show ¬ k = 2 by simpa using h2), if_neg (show ¬ k = 5 by simpa using h5), if_neg (show ¬ k = 6 by simpa using h6), if_neg (show ¬ k = 7 by simpa using h7)]
theorem lossOf_len (v : Int) (ws : List Bytes) (r : Row) : (lossOf v ws r).length ≤ 2 := by
  unfold lossOf; split <;> simp
theorem losses_len (v : Int) (ws : List Bytes) : ∀ l : List Row, (l.flatMap (lossOf v ws)).length ≤ 2 * l.length
  | [] => by simp
  | r :: l => by
    have h1 := lossOf_len v ws r
    have h2 := losses_len v ws l
    simp only [List.flatMap_cons, List.length_append, List.length_cons]; omega
theorem endL3 {l : List D} {m : List D} {n : Int} {z : Nat} {x : List (Nat × List CV)} (h : l = m) : EndR (.tup [.own z l, .d (.int .i64 n)]) (.tup [.d (.slice z m), .d (.int .i64 n)]) x [] := by subst h; exact ⟨⟨rfl, rfl, trivial⟩, trivial, rfl⟩
theorem y24 {v : Int} (hv : v = 1 ∨ v = 2 ∨ v = 3) {b : Box} (hM : BoxMay b) (h60 : ∀ r ∈ restR v b, r.kind = 2 → Runs P 60 [.d b.d, .d (.slice 1 (ints r.msg.keys))] [] (.d (.str (lateS b.words r.msg.keys))) []) :
    Runs P 24 [.d (iD v), .d b.d] [] (.tup [.d (.slice 3 ((lossR v b).map Loss.d)), .d (iD 0)]) [] := by
  refine runs_walkZ zt24 (zvc24 v b.id b.valid b.next b.high (strs b.words) (b.msgs.map Msg.d) _ _) rfl (by simp) ?_
  refine ⟨_, _, _, z16m hv hM, fun h => absurd h (by decide), fun _ => ?_⟩
  have hN := restR_len (v := v) hM
  have hmod := rest_mod (v := v) hM
  unfold lossR
  generalize hR : restR v b = R at hN hmod h60 ⊢
  rw [nI_map]
  refine ⟨fun l n k => ∃ i : Nat, n = i ∧ i ≤ R.length ∧ k = R.length - i ∧ l = ((R.take i).flatMap (lossOf v b.words)).map Loss.d, ⟨_, 0, rfl, by omega, rfl, by simp⟩, ?_⟩
  rintro _ _ _ ⟨i, rfl, hi, rfl, rfl⟩
  refine ⟨fun h => ?_, fun h => ?_⟩
  · have hlt : i < R.length := by have := of_decide_eq_true h; simp only [nI] at this; omega
    have hr : R[i] ∈ R := List.getElem_mem hlt
    have hm := hmod R[i] hr
    refine ⟨⟨by omega, by simp only [nI]; omega⟩, R[i].kind, R[i].uid, R[i].mod, _, _, _, _, _, _, _, R[i].text, by rw [rows_get _ hlt]; rfl, ?_⟩
    have hlen := losses_len v b.words (R.take i)
    have htk : (R.take i).length ≤ 153 := by rw [List.length_take]; omega
    have hwrap : Go.IntKind.wrap Go.IntKind.i64 ((i : Int) + 1) = ((i + 1 : Nat) : Int) := by rw [W64 (by omega) (by omega)]; omega
    have hnext : ((R.take (i + 1)).flatMap (lossOf v b.words)).map Loss.d = ((R.take i).flatMap (lossOf v b.words)).map Loss.d ++ (lossOf v b.words R[i]).map Loss.d := by
      rw [List.take_succ_eq_append_getElem hlt, List.flatMap_append, List.map_append]; simp
    have tail : ∀ s : Bytes, s = textL b.words R[i] → ∀ {Qx : List D → Int → Nat → Prop}, (∀ (l : List D) (n : Int) (k : Nat), (∃ i : Nat, n = i ∧ i ≤ R.length ∧ k = R.length - i ∧ l = ((R.take i).flatMap (lossOf v b.words)).map Loss.d) → Qx l n k) →
        (List.length (((R.take i).flatMap (lossOf v b.words)).map Loss.d) + List.length [D.agg [D.int .i64 R[i].kind, D.int .i64 R[i].uid, D.str s]]) * 32 ≤ 140737488355328 ∧ (∀ b27 : Bool, (R[i].kind == 2 && v == 1) = b27 → (∀ b28 : Bool, (b27 && R[i].mod != 1) = b28 →
          ((b28 = true → ∃ s29 : Bytes, Runs P 61 [CV.d (D.int .i64 R[i].mod)] [] (CV.d (D.str s29)) [] ∧ (List.length (((R.take i).flatMap (lossOf v b.words)).map Loss.d ++ [D.agg [D.int .i64 R[i].kind, D.int .i64 R[i].uid, D.str s]]) + List.length [D.agg [D.int .i64 6, D.int .i64 R[i].uid, D.str s29]]) * 32 ≤ 140737488355328 ∧
              ∀ n30 : Int, Go.IntKind.wrap Go.IntKind.i64 ((i : Int) + 1) = n30 → ∃ k31 : Nat, k31 < R.length - i ∧ Qx (((R.take i).flatMap (lossOf v b.words)).map Loss.d ++ [D.agg [D.int .i64 R[i].kind, D.int .i64 R[i].uid, D.str s]] ++ [D.agg [D.int .i64 6, D.int .i64 R[i].uid, D.str s29]]) n30 k31) ∧
            (b28 = false → ∀ n32 : Int, Go.IntKind.wrap Go.IntKind.i64 ((i : Int) + 1) = n32 → ∃ k33 : Nat, k33 < R.length - i ∧ Qx (((R.take i).flatMap (lossOf v b.words)).map Loss.d ++ [D.agg [D.int .i64 R[i].kind, D.int .i64 R[i].uid, D.str s]]) n32 k33)))) := fun s hs {Qx} hQ => by
      refine ⟨by simp only [List.length_map, List.length_cons, List.length_nil]; omega, ?_⟩
      rintro _ rfl _ rfl
      refine ⟨fun hb => ⟨_, r57 R[i].mod (by omega) (by omega), by simp only [List.length_append, List.length_map, List.length_cons, List.length_nil]; omega, ?_⟩, fun hb => ?_⟩
      · rintro _ rfl
        refine ⟨R.length - (i + 1), by omega, hQ _ _ _ ⟨i + 1, hwrap, by omega, rfl, ?_⟩⟩
        rw [hnext, hs]
        have hc : R[i].kind = 2 ∧ v = 1 ∧ R[i].mod ≠ 1 := by
          simp only [Bool.and_eq_true, beq_iff_eq, bne_iff_ne] at hb
          exact ⟨hb.1.1, hb.1.2, hb.2⟩
        unfold lossOf
        rw [if_pos hc, List.append_assoc]; rfl
      · rintro _ rfl
        refine ⟨R.length - (i + 1), by omega, hQ _ _ _ ⟨i + 1, hwrap, by omega, rfl, ?_⟩⟩
        rw [hnext, hs]
        have hc : ¬ (R[i].kind = 2 ∧ v = 1 ∧ R[i].mod ≠ 1) := by
          rintro ⟨h1, h2, h3⟩
          rw [h1, h2] at hb
          simp [h3] at hb
        unfold lossOf
        rw [if_neg hc]; rfl
    refine ⟨fun h2 => ?_, fun h2 => ⟨fun h6 => ⟨fun _ => ?_, fun h6' => ?_⟩, fun h6 => ⟨fun h7 => ?_, fun h7 => ?_⟩⟩⟩
    · have h2 : R[i].kind = 2 := by simpa using h2
      exact ⟨_, h60 R[i] hr h2, tail _ (by unfold textL; rw [if_pos h2]) fun _ _ _ h => h⟩
    · have h6 : R[i].kind = 6 := by simpa using h6
      exact ⟨_, r57 R[i].mod (by omega) (by omega), tail _ (by unfold textL; rw [if_neg (by simpa using h2), if_pos (.inl h6)]) fun _ _ _ h => h⟩
    · rw [h6] at h6'; cases h6'
    · have h7 : R[i].kind = 7 := by simpa using h7
      exact ⟨_, r57 R[i].mod (by omega) (by omega), tail _ (by unfold textL; rw [if_neg (by simpa using h2), if_pos (.inr h7)]) fun _ _ _ h => h⟩
    · exact tail _ (by unfold textL; rw [if_neg (by simpa using h2), if_neg (by rintro (q | q) <;> simp [q] at h6 h7)]) fun _ _ _ h => h
  · have hie : i = R.length := by have := of_decide_eq_false h; simp only [nI] at this; omega
    subst hie
    exact endL3 (by rw [List.take_length])
end B
end Go.Proofs.YtmkkljbfmdngfaaGreatDoor
