/- Flags and what it calls: abstract texts and what their walks come to: printed by wip/B/gen. No condition. -/
import Derived.Test.YtmkkljbfmdngfaaGreatDoorQF
set_option linter.all false
namespace Go.Proofs.YtmkkljbfmdngfaaGreatDoor
namespace B
set_option maxRecDepth 100000
theorem t83 :okF P HR 86 3=true:=by kernel_rfl
theorem vc83 (k : Int) (ws : List D) (s : Bytes) (v : Int) (n : Int) (h : Int) (bw : List D) (ms : List D) (res : CV) (objs' : List (Nat × List CV)) : walkA P (tbF P [163,148,112,129,134,118,1000101,7000102,107500054,1072002147,75,117] [] 86) (anOf (afOf P HR 86) []) (afOf P HR 86) [CV.d (D.int .i64 k), CV.ptr 1000 0, CV.ptr 1001 0] [(1000, [CV.d (D.slice 1 ws)]), (1001, [CV.d (D.str s), CV.d (D.int .i64 v), CV.d (D.int .i64 n), CV.d (D.int .i64 h), CV.d (D.slice 1 bw), CV.d (D.slice 7 ms)])] (fun rs => endE rs res objs') = (((0 ≤ k ∧ k < nI (List.length bw)) ∧ (∃ s8 : Bytes, ((D.cells (List.getD bw (Int.toNat k) D.nilp) = [D.str s8]) ∧ (∃ b9 : Bool, ((Runs P 69 [CV.d (D.slice 1 ws), CV.d (D.str s8)] [] (CV.d (D.bool b9)) []) ∧ EndR (CV.d (D.bool b9)) res [(1000, [CV.d (D.slice 1 ws)]), (1001, [CV.d (D.str s), CV.d (D.int .i64 v), CV.d (D.int .i64 n), CV.d (D.int .i64 h), CV.d (D.slice 1 bw), CV.d (D.slice 7 ms)])] objs')))))) := by kernel_rfl
theorem t81 :okF P HR 55 2=true:=by kernel_rfl
theorem t127 :okF P HR 103 2=true:=by kernel_rfl
theorem vc81 (ks : List D) (ws : List D) (s : Bytes) (v : Int) (n : Int) (h : Int) (bw : List D) (ms : List D) (res : CV) (objs' : List (Nat × List CV)) : walkA P (tbF P [163,148,112,129,134,118,1000101,7000102,107500054,1072002147,75,117] [] 55) (anOf (afOf P HR 55) [(0, 2001, 0)]) (afOf P HR 55) [CV.rs 1 2001 0 (List.length ks), CV.fn 86 [1000, 1001]] [(2001, [CV.arr 1 ks]), (1000, [CV.d (D.slice 1 ws)]), (1001, [CV.d (D.str s), CV.d (D.int .i64 v), CV.d (D.int .i64 n), CV.d (D.int .i64 h), CV.d (D.slice 1 bw), CV.d (D.slice 7 ms)])] (fun rs => endE rs res objs') = ((∃ l8 : List D, (∃ l9 : List D, (∃ s10 : Bytes, (∃ n11 : Int, (∃ n12 : Int, (∃ n13 : Int, (∃ l14 : List D, (∃ l15 : List D, (∃ n16 : Int, ((Runs P 103 [CV.rs 1 2001 0 (List.length ks), CV.fn 86 [1000, 1001]] [(2001, [CV.arr 1 ks]), (1000, [CV.d (D.slice 1 ws)]), (1001, [CV.d (D.str s), CV.d (D.int .i64 v), CV.d (D.int .i64 n), CV.d (D.int .i64 h), CV.d (D.slice 1 bw), CV.d (D.slice 7 ms)])] (CV.d (D.int .i64 n16)) [(2001, [CV.arr 1 l8]), (1000, [CV.d (D.slice 1 l9)]), (1001, [CV.d (D.str s10), CV.d (D.int .i64 n11), CV.d (D.int .i64 n12), CV.d (D.int .i64 n13), CV.d (D.slice 1 l14), CV.d (D.slice 7 l15)])]) ∧ (((n16 == -1) = true → EndR (CV.rs 1 2001 0 (List.length ks)) res [(2001, [CV.arr 1 l8]), (1000, [CV.d (D.slice 1 l9)]), (1001, [CV.d (D.str s10), CV.d (D.int .i64 n11), CV.d (D.int .i64 n12), CV.d (D.int .i64 n13), CV.d (D.slice 1 l14), CV.d (D.slice 7 l15)])] objs') ∧ ((n16 == -1) = false → (∀ n17 : Int, (Go.IntKind.wrap Go.IntKind.i64 (n16 + 1) = n17 → (∃ I18 : (Int → (Int → (List D → (List D → (Bytes → (Int → (Int → (Int → (List D → (List D → (Nat → Prop))))))))))), ((∃ k19 : Nat, I18 n16 n17 l8 l9 s10 n11 n12 n13 l14 l15 k19) ∧ (∀ n20 : Int, (∀ n21 : Int, (∀ l22 : List D, (∀ l23 : List D, (∀ s24 : Bytes, (∀ n25 : Int, (∀ n26 : Int, (∀ n27 : Int, (∀ l28 : List D, (∀ l29 : List D, (∀ k30 : Nat, (I18 n20 n21 l22 l23 s24 n25 n26 n27 l28 l29 k30 → (((decide (n21 < nI (List.length ks))) = true → ((0 ≤ n21 ∧ n21 < nI (List.length ks)) ∧ ((addO 0 (Int.toNat n21) < List.length l22) ∧ (∃ n31 : Int, ((List.take 1 (List.drop 0 (D.cells (List.getD l22 (addO 0 (Int.toNat n21)) D.nilp))) = [D.int .i64 n31]) ∧ (∃ l32 : List D, (∃ s33 : Bytes, (∃ n34 : Int, (∃ n35 : Int, (∃ n36 : Int, (∃ l37 : List D, (∃ l38 : List D, (∃ b39 : Bool, ((Runs P 86 [CV.d (D.int .i64 n31), CV.ptr 1000 0, CV.ptr 1001 0] [(1000, [CV.d (D.slice 1 l23)]), (1001, [CV.d (D.str s24), CV.d (D.int .i64 n25), CV.d (D.int .i64 n26), CV.d (D.int .i64 n27), CV.d (D.slice 1 l28), CV.d (D.slice 7 l29)])] (CV.d (D.bool b39)) [(1000, [CV.d (D.slice 1 l32)]), (1001, [CV.d (D.str s33), CV.d (D.int .i64 n34), CV.d (D.int .i64 n35), CV.d (D.int .i64 n36), CV.d (D.slice 1 l37), CV.d (D.slice 7 l38)])]) ∧ (((!b39) = true → ((0 ≤ n20 ∧ n20 < nI (List.length ks)) ∧ ((addO 0 (Int.toNat n20) < List.length l22) ∧ (∀ l40 : List D, (setEl l22 (addO 0 (Int.toNat n20)) 0 [D.int .i64 n31] = l40 → (∀ n41 : Int, (Go.IntKind.wrap Go.IntKind.i64 (n20 + 1) = n41 → (∀ n42 : Int, (Go.IntKind.wrap Go.IntKind.i64 (n21 + 1) = n42 → (∃ k43 : Nat, ((k43 < k30) ∧ I18 n41 n42 l40 l32 s33 n34 n35 n36 l37 l38 k43))))))))))) ∧ ((!b39) = false → (∀ n44 : Int, (Go.IntKind.wrap Go.IntKind.i64 (n21 + 1) = n44 → (∃ k45 : Nat, ((k45 < k30) ∧ I18 n20 n44 l22 l32 s33 n34 n35 n36 l37 l38 k45)))))))))))))))))))) ∧ ((decide (n21 < nI (List.length ks))) = false → ((0 ≤ n20 ∧ n20 ≤ nI (List.length ks) ∧ nI (List.length ks) ≤ nI (List.length ks)) ∧ ((addO 0 (Int.toNat n20) + (Int.toNat (nI (List.length ks)) - Int.toNat n20) ≤ List.length l22) ∧ (∀ l46 : List D, (List.take (addO 0 (Int.toNat n20)) l22 ++ List.replicate (Int.toNat (nI (List.length ks)) - Int.toNat n20) (D.int .i64 0) ++ List.drop (addO 0 (Int.toNat n20) + (Int.toNat (nI (List.length ks)) - Int.toNat n20)) l22 = l46 → ((0 ≤ nI (0 : Nat) ∧ nI (0 : Nat) ≤ n20 ∧ n20 ≤ nI (List.length ks)) ∧ EndR (CV.rs 1 2001 (addO 0 (Int.toNat (nI (0 : Nat)))) (Int.toNat n20 - Int.toNat (nI (0 : Nat)))) res [(2001, [CV.arr 1 l46]), (1000, [CV.d (D.slice 1 l23)]), (1001, [CV.d (D.str s24), CV.d (D.int .i64 n25), CV.d (D.int .i64 n26), CV.d (D.int .i64 n27), CV.d (D.slice 1 l28), CV.d (D.slice 7 l29)])] objs')))))))))))))))))))))))))))))))))))) := by kernel_rfl
theorem vc127 (ks : List D) (ws : List D) (s : Bytes) (v : Int) (n : Int) (h : Int) (bw : List D) (ms : List D) (res : CV) (objs' : List (Nat × List CV)) : walkA P (tbF P [163,148,112,129,134,118,1000101,7000102,107500054,1072002147,75,117] [] 103) (anOf (afOf P HR 103) []) (afOf P HR 103) [CV.rs 1 2001 0 (List.length ks), CV.fn 86 [1000, 1001]] [(2001, [CV.arr 1 ks]), (1000, [CV.d (D.slice 1 ws)]), (1001, [CV.d (D.str s), CV.d (D.int .i64 v), CV.d (D.int .i64 n), CV.d (D.int .i64 h), CV.d (D.slice 1 bw), CV.d (D.slice 7 ms)])] (fun rs => endE rs res objs') = ((∃ I8 : (Int → (List D → (Bytes → (Int → (Int → (Int → (List D → (List D → (Nat → Prop))))))))), ((∃ k9 : Nat, I8 0 ws s v n h bw ms k9) ∧ (∀ n10 : Int, (∀ l11 : List D, (∀ s12 : Bytes, (∀ n13 : Int, (∀ n14 : Int, (∀ n15 : Int, (∀ l16 : List D, (∀ l17 : List D, (∀ k18 : Nat, (I8 n10 l11 s12 n13 n14 n15 l16 l17 k18 → (((decide (n10 < nI (List.length ks))) = true → ((0 ≤ n10 ∧ n10 < nI (List.length ks)) ∧ ((addO 0 (Int.toNat n10) < List.length ks) ∧ (∃ n19 : Int, ((List.take 1 (List.drop 0 (D.cells (List.getD ks (addO 0 (Int.toNat n10)) D.nilp))) = [D.int .i64 n19]) ∧ (∃ l20 : List D, (∃ s21 : Bytes, (∃ n22 : Int, (∃ n23 : Int, (∃ n24 : Int, (∃ l25 : List D, (∃ l26 : List D, (∃ b27 : Bool, ((Runs P 86 [CV.d (D.int .i64 n19), CV.ptr 1000 0, CV.ptr 1001 0] [(1000, [CV.d (D.slice 1 l11)]), (1001, [CV.d (D.str s12), CV.d (D.int .i64 n13), CV.d (D.int .i64 n14), CV.d (D.int .i64 n15), CV.d (D.slice 1 l16), CV.d (D.slice 7 l17)])] (CV.d (D.bool b27)) [(1000, [CV.d (D.slice 1 l20)]), (1001, [CV.d (D.str s21), CV.d (D.int .i64 n22), CV.d (D.int .i64 n23), CV.d (D.int .i64 n24), CV.d (D.slice 1 l25), CV.d (D.slice 7 l26)])]) ∧ (((b27) = true → EndR (CV.d (D.int .i64 n10)) res [(2001, [CV.arr 1 ks]), (1000, [CV.d (D.slice 1 l20)]), (1001, [CV.d (D.str s21), CV.d (D.int .i64 n22), CV.d (D.int .i64 n23), CV.d (D.int .i64 n24), CV.d (D.slice 1 l25), CV.d (D.slice 7 l26)])] objs') ∧ ((b27) = false → (∀ n28 : Int, (Go.IntKind.wrap Go.IntKind.i64 (n10 + 1) = n28 → (∃ k29 : Nat, ((k29 < k18) ∧ I8 n28 l20 s21 n22 n23 n24 l25 l26 k29)))))))))))))))))))) ∧ ((decide (n10 < nI (List.length ks))) = false → EndR (CV.d (D.int .i64 (-1 : Int))) res [(2001, [CV.arr 1 ks]), (1000, [CV.d (D.slice 1 l11)]), (1001, [CV.d (D.str s12), CV.d (D.int .i64 n13), CV.d (D.int .i64 n14), CV.d (D.int .i64 n15), CV.d (D.slice 1 l16), CV.d (D.slice 7 l17)])] objs'))))))))))))))) := by kernel_rfl
theorem t85 :okF P HR 87 2=true:=by kernel_rfl
theorem vc85 (l0 : List D) (l1 : List D) (res : CV) (objs' : List (Nat × List CV)) : walkA P (tbF P [163,148,112,129,134,118,1000101,7000102,107500054,1072002147,75,117] [] 87) (anOf (afOf P HR 87) []) (afOf P HR 87) [CV.d (D.slice 1 l0), CV.d (D.slice 1 l1)] [] (fun rs => endE rs res objs') = ((((nI (List.length l0) != nI (List.length l1)) = true → EndR (CV.d (D.bool false)) res [] objs') ∧ ((nI (List.length l0) != nI (List.length l1)) = false → (∃ I2 : (Int → (Nat → Prop)), ((∃ k3 : Nat, I2 0 k3) ∧ (∀ n4 : Int, (∀ k5 : Nat, (I2 n4 k5 → (((decide (n4 < nI (List.length l0))) = true → ((0 ≤ n4 ∧ n4 < nI (List.length l0)) ∧ (∃ n6 : Int, ((D.cells (List.getD l0 (Int.toNat n4) D.nilp) = [D.int .i64 n6]) ∧ ((0 ≤ n4 ∧ n4 < nI (List.length l1)) ∧ (∃ n7 : Int, ((D.cells (List.getD l1 (Int.toNat n4) D.nilp) = [D.int .i64 n7]) ∧ (((n6 != n7) = true → EndR (CV.d (D.bool false)) res [] objs') ∧ ((n6 != n7) = false → (∀ n8 : Int, (Go.IntKind.wrap Go.IntKind.i64 (n4 + 1) = n8 → (∃ k9 : Nat, ((k9 < k5) ∧ I2 n8 k9))))))))))))) ∧ ((decide (n4 < nI (List.length l0))) = false → EndR (CV.d (D.bool true)) res [] objs')))))))))) := by kernel_rfl
theorem t34 :okF P HR 40 5=true:=by kernel_rfl
theorem vc34a (s0 : Bytes) (n1 : Int) (n2 : Int) (n3 : Int) (l4 : List D) (l5 : List D) (n6 : Int) (n7 : Int) (l8 : List D) (n9 : Int) (res : CV) (objs' : List (Nat × List CV)) : walkA P (tbF P [163,148,112,129,134,118,1000101,7000102,107500054,1072002147,75,117,1000085,1010079055] [] 40) (anOf (afOf P HR 40) []) (afOf P HR 40) [CV.d (D.agg [D.str s0, D.int .i64 n1, D.int .i64 n2, D.int .i64 n3, D.slice 1 l4, D.slice 7 l5]), CV.d (D.int .i64 n6), CV.d (D.int .i64 n7), CV.d (D.slice 1 l8), CV.d (D.int .i64 n9)] [] (fun rs => endE rs res objs') = ((∃ n10 : Int, ((Runs P 35 [CV.d (D.agg [D.str s0, D.int .i64 n1, D.int .i64 n2, D.int .i64 n3, D.slice 1 l4, D.slice 7 l5])] [] (CV.d (D.int .i64 n10)) []) ∧ (∀ b11 : Bool, ((n10 != 0 || decide (n7 < 0)) = b11 → (∀ b12 : Bool, ((b11 || decide (n7 > 31)) = b12 → (∃ b13 : Bool, (((!b12) = true → Runs P 72 [CV.d (D.slice 1 l8)] [] (CV.d (D.bool b13)) []) ∧ (∀ b14 : Bool, ((b12 || !b13) = b14 → (∀ b15 : Bool, ((b14 || decide (n9 < 0)) = b15 → (∀ b16 : Bool, ((b15 || decide (n9 > 2)) = b16 → (((b16) = true → EndR (CV.tup [CV.own (11 : Nat) [], CV.d (D.int .i64 (1 : Int))]) res [(5, [CV.d (D.str s0), CV.d (D.int .i64 n1), CV.d (D.int .i64 n2), CV.d (D.int .i64 n3), CV.d (D.slice 1 l4), CV.d (D.slice 7 l5)]), (8, [CV.d (D.slice 1 l8)])] objs') ∧ ((b16) = false → (∃ n17 : Int, ((Runs P 41 [CV.d (D.agg [D.str s0, D.int .i64 n1, D.int .i64 n2, D.int .i64 n3, D.slice 1 l4, D.slice 7 l5]), CV.d (D.int .i64 n6)] [] (CV.d (D.int .i64 n17)) []) ∧ (((decide (n17 < 0)) = true → EndR (CV.tup [CV.own (11 : Nat) [], CV.d (D.int .i64 (6 : Int))]) res [(5, [CV.d (D.str s0), CV.d (D.int .i64 n1), CV.d (D.int .i64 n2), CV.d (D.int .i64 n3), CV.d (D.slice 1 l4), CV.d (D.slice 7 l5)]), (8, [CV.d (D.slice 1 l8)])] objs') ∧ ((decide (n17 < 0)) = false → ((0 ≤ n17 ∧ n17 < nI (List.length l5)) ∧ (∃ n18 : Int, (∃ n19 : Int, (∃ n20 : Int, (∃ s21 : Bytes, (∃ n22 : Int, (∃ l23 : List D, (∃ s24 : Bytes, ((D.cells (List.getD l5 (Int.toNat n17) D.nilp) = [D.int .i64 n18, D.int .i64 n19, D.int .i64 n20, D.str s21, D.int .i64 n22, D.slice 1 l23, D.str s24]) ∧ (∃ l25 : List D, ((Runs P 71 [CV.d (D.agg [D.str s0, D.int .i64 n1, D.int .i64 n2, D.int .i64 n3, D.slice 1 l4, D.slice 7 l5]), CV.d (D.slice 1 l8)] [] (CV.d (D.slice 1 l25)) []) ∧ (∃ l26 : List D, ((Runs P 73 [CV.d (D.agg [D.str s0, D.int .i64 n1, D.int .i64 n2, D.int .i64 n3, D.slice 1 l4, D.slice 7 l5]), CV.d (D.slice 1 l8)] [] (CV.d (D.slice 1 l26)) []) ∧ (((n9 == 1) = true → (∀ n27 : Int, (Go.IntKind.wrap Go.IntKind.i64 (nI (BitVec.toNat (BitVec.ofInt (Go.IntKind.bits .i64) n7 ||| BitVec.ofInt (Go.IntKind.bits .i64) n22))) = n27 → False))) ∧ ((n9 == 1) = false → (((n9 == 2) = true → (∀ n28 : Int, (Go.IntKind.wrap Go.IntKind.i64 (nI (BitVec.toNat (BitVec.ofInt (Go.IntKind.bits .i64) n22 &&& ~~~BitVec.ofInt (Go.IntKind.bits .i64) n7))) = n28 → (∃ l29 : List D, ((Runs P 85 [CV.d (D.slice 1 l23)] [] (CV.rs 1 79 0 (List.length l29)) [(79, [CV.arr 1 l29])]) ∧ (∃ l30 : List D, (∃ l31 : List D, (∃ s32 : Bytes, (∃ n33 : Int, (∃ n34 : Int, (∃ n35 : Int, (∃ l36 : List D, (∃ l37 : List D, (∃ k38 : Nat, ((Runs P 55 [CV.rs 1 79 0 (List.length l29), CV.fn 86 [8, 5]] [(79, [CV.arr 1 l29]), (8, [CV.d (D.slice 1 l8)]), (5, [CV.d (D.str s0), CV.d (D.int .i64 n1), CV.d (D.int .i64 n2), CV.d (D.int .i64 n3), CV.d (D.slice 1 l4), CV.d (D.slice 7 l5)])] (CV.rs 1 79 0 k38) [(79, [CV.arr 1 l30]), (8, [CV.d (D.slice 1 l31)]), (5, [CV.d (D.str s32), CV.d (D.int .i64 n33), CV.d (D.int .i64 n34), CV.d (D.int .i64 n35), CV.d (D.slice 1 l36), CV.d (D.slice 7 l37)])]) ∧ ((k38 ≤ List.length l30) ∧ (∃ b39 : Bool, (((n28 == n22) = true → Runs P 87 [CV.d (D.slice 1 (List.take k38 l30)), CV.d (D.slice 1 l23)] [] (CV.d (D.bool b39)) []) ∧ (∀ b40 : Bool, ((n28 == n22 && b39) = b40 → (((b40) = true → EndR (CV.tup [CV.own (11 : Nat) [], CV.d (D.int .i64 (0 : Int))]) res [(5, [CV.d (D.str s32), CV.d (D.int .i64 n33), CV.d (D.int .i64 n34), CV.d (D.int .i64 n35), CV.d (D.slice 1 l36), CV.d (D.slice 7 l37)]), (8, [CV.d (D.slice 1 l31)]), (13, [CV.d (D.int .i64 n18), CV.d (D.int .i64 n19), CV.d (D.int .i64 n20), CV.d (D.str s21), CV.d (D.int .i64 n22), CV.d (D.slice 1 l23), CV.d (D.str s24)]), (79, [CV.arr 1 []])] objs') ∧ ((b40) = false → (∀ n41 : Int, (Go.IntKind.wrap Go.IntKind.i64 (nI (List.length l36) + nI (0 : Nat)) = n41 → (((decide (n41 > 64)) = true → EndR (CV.tup [CV.own (11 : Nat) [], CV.d (D.int .i64 (4 : Int))]) res [(5, [CV.d (D.str s32), CV.d (D.int .i64 n33), CV.d (D.int .i64 n34), CV.d (D.int .i64 n35), CV.d (D.slice 1 l36), CV.d (D.slice 7 l37)]), (8, [CV.d (D.slice 1 l31)]), (13, [CV.d (D.int .i64 n18), CV.d (D.int .i64 n19), CV.d (D.int .i64 n20), CV.d (D.str s21), CV.d (D.int .i64 n22), CV.d (D.slice 1 l23), CV.d (D.str s24)]), (79, [CV.arr 1 []])] objs') ∧ ((decide (n41 > 64)) = false → (((n35 == 1000000) = true → EndR (CV.tup [CV.own (11 : Nat) [], CV.d (D.int .i64 (9 : Int))]) res [(5, [CV.d (D.str s32), CV.d (D.int .i64 n33), CV.d (D.int .i64 n34), CV.d (D.int .i64 n35), CV.d (D.slice 1 l36), CV.d (D.slice 7 l37)]), (8, [CV.d (D.slice 1 l31)]), (13, [CV.d (D.int .i64 n18), CV.d (D.int .i64 n19), CV.d (D.int .i64 n20), CV.d (D.str s21), CV.d (D.int .i64 n22), CV.d (D.slice 1 l23), CV.d (D.str s24)]), (79, [CV.arr 1 []])] objs') ∧ ((n35 == 1000000) = false → (∃ l42 : List D, ((Runs P 75 [CV.d (D.slice 1 [])] [] (CV.own 11 l42) []) ∧ (∀ n43 : Int, (Go.IntKind.wrap Go.IntKind.i64 (n35 + 1) = n43 → (((List.length l42 + List.length [D.agg [D.int .i64 2, D.int .i64 n6, D.int .i64 n43, D.int .i64 0, D.int .i64 0, D.int .i64 0, D.str [], D.int .i64 n28, D.slice 1 (List.take k38 l30), D.str [], D.str []]]) * 128 ≤ 140737488355328) ∧ EndR (CV.tup [CV.own 11 (l42 ++ [D.agg [D.int .i64 2, D.int .i64 n6, D.int .i64 n43, D.int .i64 0, D.int .i64 0, D.int .i64 0, D.str [], D.int .i64 n28, D.slice 1 (List.take k38 l30), D.str [], D.str []]]), CV.d (D.int .i64 0)]) res [(5, [CV.d (D.str s32), CV.d (D.int .i64 n33), CV.d (D.int .i64 n34), CV.d (D.int .i64 n35), CV.d (D.slice 1 l36), CV.d (D.slice 7 l37)]), (8, [CV.d (D.slice 1 l31)]), (13, [CV.d (D.int .i64 n18), CV.d (D.int .i64 n19), CV.d (D.int .i64 n20), CV.d (D.str s21), CV.d (D.int .i64 n22), CV.d (D.slice 1 l23), CV.d (D.str s24)]), (79, [CV.arr 1 []])] objs'))))))))))))))))))))))))))))))))) ∧ ((n9 == 2) = false → (∃ b44 : Bool, (((n7 == n22) = true → Runs P 87 [CV.d (D.slice 1 l26), CV.d (D.slice 1 l23)] [] (CV.d (D.bool b44)) []) ∧ (∀ b45 : Bool, ((n7 == n22 && b44) = b45 → (((b45) = true → EndR (CV.tup [CV.own (11 : Nat) [], CV.d (D.int .i64 (0 : Int))]) res [(5, [CV.d (D.str s0), CV.d (D.int .i64 n1), CV.d (D.int .i64 n2), CV.d (D.int .i64 n3), CV.d (D.slice 1 l4), CV.d (D.slice 7 l5)]), (8, [CV.d (D.slice 1 l8)]), (13, [CV.d (D.int .i64 n18), CV.d (D.int .i64 n19), CV.d (D.int .i64 n20), CV.d (D.str s21), CV.d (D.int .i64 n22), CV.d (D.slice 1 l23), CV.d (D.str s24)])] objs') ∧ ((b45) = false → (∀ n46 : Int, (Go.IntKind.wrap Go.IntKind.i64 (nI (List.length l4) + nI (List.length l25)) = n46 → (((decide (n46 > 64)) = true → EndR (CV.tup [CV.own (11 : Nat) [], CV.d (D.int .i64 (4 : Int))]) res [(5, [CV.d (D.str s0), CV.d (D.int .i64 n1), CV.d (D.int .i64 n2), CV.d (D.int .i64 n3), CV.d (D.slice 1 l4), CV.d (D.slice 7 l5)]), (8, [CV.d (D.slice 1 l8)]), (13, [CV.d (D.int .i64 n18), CV.d (D.int .i64 n19), CV.d (D.int .i64 n20), CV.d (D.str s21), CV.d (D.int .i64 n22), CV.d (D.slice 1 l23), CV.d (D.str s24)])] objs') ∧ ((decide (n46 > 64)) = false → (((n3 == 1000000) = true → EndR (CV.tup [CV.own (11 : Nat) [], CV.d (D.int .i64 (9 : Int))]) res [(5, [CV.d (D.str s0), CV.d (D.int .i64 n1), CV.d (D.int .i64 n2), CV.d (D.int .i64 n3), CV.d (D.slice 1 l4), CV.d (D.slice 7 l5)]), (8, [CV.d (D.slice 1 l8)]), (13, [CV.d (D.int .i64 n18), CV.d (D.int .i64 n19), CV.d (D.int .i64 n20), CV.d (D.str s21), CV.d (D.int .i64 n22), CV.d (D.slice 1 l23), CV.d (D.str s24)])] objs') ∧ ((n3 == 1000000) = false → (∃ l47 : List D, ((Runs P 75 [CV.d (D.slice 1 l25)] [] (CV.own 11 l47) []) ∧ (∀ n48 : Int, (Go.IntKind.wrap Go.IntKind.i64 (n3 + 1) = n48 → (((List.length l47 + List.length [D.agg [D.int .i64 2, D.int .i64 n6, D.int .i64 n48, D.int .i64 0, D.int .i64 0, D.int .i64 0, D.str [], D.int .i64 n7, D.slice 1 l26, D.str [], D.str []]]) * 128 ≤ 140737488355328) ∧ EndR (CV.tup [CV.own 11 (l47 ++ [D.agg [D.int .i64 2, D.int .i64 n6, D.int .i64 n48, D.int .i64 0, D.int .i64 0, D.int .i64 0, D.str [], D.int .i64 n7, D.slice 1 l26, D.str [], D.str []]]), CV.d (D.int .i64 0)]) res [(5, [CV.d (D.str s0), CV.d (D.int .i64 n1), CV.d (D.int .i64 n2), CV.d (D.int .i64 n3), CV.d (D.slice 1 l4), CV.d (D.slice 7 l5)]), (8, [CV.d (D.slice 1 l8)]), (13, [CV.d (D.int .i64 n18), CV.d (D.int .i64 n19), CV.d (D.int .i64 n20), CV.d (D.str s21), CV.d (D.int .i64 n22), CV.d (D.slice 1 l23), CV.d (D.str s24)])] objs'))))))))))))))))))))))))))))))))))))))))))))))))))))))) := by kernel_rfl
theorem vc34b (s0 : Bytes) (n1 : Int) (n2 : Int) (n3 : Int) (l4 : List D) (l5 : List D) (n6 : Int) (n7 : Int) (l8 : List D) (n9 : Int) (res : CV) (objs' : List (Nat × List CV)) : walkA P (tbF P [163,148,112,129,134,118,1000101,7000102,107500054,1072002147,75,117,1000073,1010055084] [] 40) (anOf (afOf P HR 40) []) (afOf P HR 40) [CV.d (D.agg [D.str s0, D.int .i64 n1, D.int .i64 n2, D.int .i64 n3, D.slice 1 l4, D.slice 7 l5]), CV.d (D.int .i64 n6), CV.d (D.int .i64 n7), CV.d (D.slice 1 l8), CV.d (D.int .i64 n9)] [] (fun rs => endE rs res objs') = ((∃ n10 : Int, ((Runs P 35 [CV.d (D.agg [D.str s0, D.int .i64 n1, D.int .i64 n2, D.int .i64 n3, D.slice 1 l4, D.slice 7 l5])] [] (CV.d (D.int .i64 n10)) []) ∧ (∀ b11 : Bool, ((n10 != 0 || decide (n7 < 0)) = b11 → (∀ b12 : Bool, ((b11 || decide (n7 > 31)) = b12 → (∃ b13 : Bool, (((!b12) = true → Runs P 72 [CV.d (D.slice 1 l8)] [] (CV.d (D.bool b13)) []) ∧ (∀ b14 : Bool, ((b12 || !b13) = b14 → (∀ b15 : Bool, ((b14 || decide (n9 < 0)) = b15 → (∀ b16 : Bool, ((b15 || decide (n9 > 2)) = b16 → (((b16) = true → EndR (CV.tup [CV.own (11 : Nat) [], CV.d (D.int .i64 (1 : Int))]) res [(5, [CV.d (D.str s0), CV.d (D.int .i64 n1), CV.d (D.int .i64 n2), CV.d (D.int .i64 n3), CV.d (D.slice 1 l4), CV.d (D.slice 7 l5)]), (8, [CV.d (D.slice 1 l8)])] objs') ∧ ((b16) = false → (∃ n17 : Int, ((Runs P 41 [CV.d (D.agg [D.str s0, D.int .i64 n1, D.int .i64 n2, D.int .i64 n3, D.slice 1 l4, D.slice 7 l5]), CV.d (D.int .i64 n6)] [] (CV.d (D.int .i64 n17)) []) ∧ (((decide (n17 < 0)) = true → EndR (CV.tup [CV.own (11 : Nat) [], CV.d (D.int .i64 (6 : Int))]) res [(5, [CV.d (D.str s0), CV.d (D.int .i64 n1), CV.d (D.int .i64 n2), CV.d (D.int .i64 n3), CV.d (D.slice 1 l4), CV.d (D.slice 7 l5)]), (8, [CV.d (D.slice 1 l8)])] objs') ∧ ((decide (n17 < 0)) = false → ((0 ≤ n17 ∧ n17 < nI (List.length l5)) ∧ (∃ n18 : Int, (∃ n19 : Int, (∃ n20 : Int, (∃ s21 : Bytes, (∃ n22 : Int, (∃ l23 : List D, (∃ s24 : Bytes, ((D.cells (List.getD l5 (Int.toNat n17) D.nilp) = [D.int .i64 n18, D.int .i64 n19, D.int .i64 n20, D.str s21, D.int .i64 n22, D.slice 1 l23, D.str s24]) ∧ (∃ l25 : List D, ((Runs P 71 [CV.d (D.agg [D.str s0, D.int .i64 n1, D.int .i64 n2, D.int .i64 n3, D.slice 1 l4, D.slice 7 l5]), CV.d (D.slice 1 l8)] [] (CV.d (D.slice 1 l25)) []) ∧ (∃ l26 : List D, ((Runs P 73 [CV.d (D.agg [D.str s0, D.int .i64 n1, D.int .i64 n2, D.int .i64 n3, D.slice 1 l4, D.slice 7 l5]), CV.d (D.slice 1 l8)] [] (CV.rs 1 55 0 (List.length l26)) [(55, [CV.arr 1 l26])]) ∧ (((n9 == 1) = true → (∀ n27 : Int, (Go.IntKind.wrap Go.IntKind.i64 (nI (BitVec.toNat (BitVec.ofInt (Go.IntKind.bits .i64) n7 ||| BitVec.ofInt (Go.IntKind.bits .i64) n22))) = n27 → ((List.length l26 = List.length l26) ∧ (((List.length l26 + List.length l23) * 8 ≤ 140737488355328) ∧ (∀ l28 : List D, (l26 ++ l23 = l28 → (∃ l29 : List D, ((Runs P 83 [CV.rs 1 55 0 (List.length l26 + List.length l23)] [(55, [CV.arr 1 l28])] (CV.tup []) [(55, [CV.arr 1 l29])]) ∧ (∃ l30 : List D, (∃ k31 : Nat, ((Runs P 84 [CV.rs 1 55 0 (List.length l26 + List.length l23)] [(55, [CV.arr 1 l29])] (CV.rs 1 55 0 k31) [(55, [CV.arr 1 l30])]) ∧ ((k31 ≤ List.length l30) ∧ (∃ b32 : Bool, (((n27 == n22) = true → Runs P 87 [CV.d (D.slice 1 (List.take k31 l30)), CV.d (D.slice 1 l23)] [] (CV.d (D.bool b32)) []) ∧ (∀ b33 : Bool, ((n27 == n22 && b32) = b33 → (((b33) = true → EndR (CV.tup [CV.own (11 : Nat) [], CV.d (D.int .i64 (0 : Int))]) res [(5, [CV.d (D.str s0), CV.d (D.int .i64 n1), CV.d (D.int .i64 n2), CV.d (D.int .i64 n3), CV.d (D.slice 1 l4), CV.d (D.slice 7 l5)]), (8, [CV.d (D.slice 1 l8)]), (13, [CV.d (D.int .i64 n18), CV.d (D.int .i64 n19), CV.d (D.int .i64 n20), CV.d (D.str s21), CV.d (D.int .i64 n22), CV.d (D.slice 1 l23), CV.d (D.str s24)]), (55, [CV.arr 1 []])] objs') ∧ ((b33) = false → (∀ n34 : Int, (Go.IntKind.wrap Go.IntKind.i64 (nI (List.length l4) + nI (List.length l25)) = n34 → (((decide (n34 > 64)) = true → EndR (CV.tup [CV.own (11 : Nat) [], CV.d (D.int .i64 (4 : Int))]) res [(5, [CV.d (D.str s0), CV.d (D.int .i64 n1), CV.d (D.int .i64 n2), CV.d (D.int .i64 n3), CV.d (D.slice 1 l4), CV.d (D.slice 7 l5)]), (8, [CV.d (D.slice 1 l8)]), (13, [CV.d (D.int .i64 n18), CV.d (D.int .i64 n19), CV.d (D.int .i64 n20), CV.d (D.str s21), CV.d (D.int .i64 n22), CV.d (D.slice 1 l23), CV.d (D.str s24)]), (55, [CV.arr 1 []])] objs') ∧ ((decide (n34 > 64)) = false → (((n3 == 1000000) = true → EndR (CV.tup [CV.own (11 : Nat) [], CV.d (D.int .i64 (9 : Int))]) res [(5, [CV.d (D.str s0), CV.d (D.int .i64 n1), CV.d (D.int .i64 n2), CV.d (D.int .i64 n3), CV.d (D.slice 1 l4), CV.d (D.slice 7 l5)]), (8, [CV.d (D.slice 1 l8)]), (13, [CV.d (D.int .i64 n18), CV.d (D.int .i64 n19), CV.d (D.int .i64 n20), CV.d (D.str s21), CV.d (D.int .i64 n22), CV.d (D.slice 1 l23), CV.d (D.str s24)]), (55, [CV.arr 1 []])] objs') ∧ ((n3 == 1000000) = false → (∃ l35 : List D, ((Runs P 75 [CV.d (D.slice 1 l25)] [] (CV.own 11 l35) []) ∧ (∀ n36 : Int, (Go.IntKind.wrap Go.IntKind.i64 (n3 + 1) = n36 → (((List.length l35 + List.length [D.agg [D.int .i64 2, D.int .i64 n6, D.int .i64 n36, D.int .i64 0, D.int .i64 0, D.int .i64 0, D.str [], D.int .i64 n27, D.slice 1 (List.take k31 l30), D.str [], D.str []]]) * 128 ≤ 140737488355328) ∧ EndR (CV.tup [CV.own 11 (l35 ++ [D.agg [D.int .i64 2, D.int .i64 n6, D.int .i64 n36, D.int .i64 0, D.int .i64 0, D.int .i64 0, D.str [], D.int .i64 n27, D.slice 1 (List.take k31 l30), D.str [], D.str []]]), CV.d (D.int .i64 0)]) res [(5, [CV.d (D.str s0), CV.d (D.int .i64 n1), CV.d (D.int .i64 n2), CV.d (D.int .i64 n3), CV.d (D.slice 1 l4), CV.d (D.slice 7 l5)]), (8, [CV.d (D.slice 1 l8)]), (13, [CV.d (D.int .i64 n18), CV.d (D.int .i64 n19), CV.d (D.int .i64 n20), CV.d (D.str s21), CV.d (D.int .i64 n22), CV.d (D.slice 1 l23), CV.d (D.str s24)]), (55, [CV.arr 1 []])] objs')))))))))))))))))))))))))))))) ∧ ((n9 == 1) = false → (((n9 == 2) = true → (∀ n37 : Int, (Go.IntKind.wrap Go.IntKind.i64 (nI (BitVec.toNat (BitVec.ofInt (Go.IntKind.bits .i64) n22 &&& ~~~BitVec.ofInt (Go.IntKind.bits .i64) n7))) = n37 → (∃ l38 : List D, ((Runs P 85 [CV.d (D.slice 1 l23)] [] (CV.d (D.slice 1 l38)) []) ∧ (∃ l39 : List D, (∃ s40 : Bytes, (∃ n41 : Int, (∃ n42 : Int, (∃ n43 : Int, (∃ l44 : List D, (∃ l45 : List D, (∃ l46 : List D, ((Runs P 55 [CV.d (D.slice 1 l38), CV.fn 86 [8, 5]] [(8, [CV.d (D.slice 1 l8)]), (5, [CV.d (D.str s0), CV.d (D.int .i64 n1), CV.d (D.int .i64 n2), CV.d (D.int .i64 n3), CV.d (D.slice 1 l4), CV.d (D.slice 7 l5)])] (CV.d (D.slice 1 l46)) [(8, [CV.d (D.slice 1 l39)]), (5, [CV.d (D.str s40), CV.d (D.int .i64 n41), CV.d (D.int .i64 n42), CV.d (D.int .i64 n43), CV.d (D.slice 1 l44), CV.d (D.slice 7 l45)])]) ∧ False)))))))))))))) ∧ ((n9 == 2) = false → (∃ b47 : Bool, (((n7 == n22) = true → Runs P 87 [CV.rs 1 55 0 (List.length l26), CV.d (D.slice 1 l23)] [(55, [CV.arr 1 l26])] (CV.d (D.bool b47)) [(55, [CV.arr 1 l26])]) ∧ (∀ b48 : Bool, ((n7 == n22 && b47) = b48 → (((b48) = true → EndR (CV.tup [CV.own (11 : Nat) [], CV.d (D.int .i64 (0 : Int))]) res [(5, [CV.d (D.str s0), CV.d (D.int .i64 n1), CV.d (D.int .i64 n2), CV.d (D.int .i64 n3), CV.d (D.slice 1 l4), CV.d (D.slice 7 l5)]), (8, [CV.d (D.slice 1 l8)]), (13, [CV.d (D.int .i64 n18), CV.d (D.int .i64 n19), CV.d (D.int .i64 n20), CV.d (D.str s21), CV.d (D.int .i64 n22), CV.d (D.slice 1 l23), CV.d (D.str s24)]), (55, [CV.arr 1 l26])] objs') ∧ ((b48) = false → (∀ n49 : Int, (Go.IntKind.wrap Go.IntKind.i64 (nI (List.length l4) + nI (List.length l25)) = n49 → (((decide (n49 > 64)) = true → EndR (CV.tup [CV.own (11 : Nat) [], CV.d (D.int .i64 (4 : Int))]) res [(5, [CV.d (D.str s0), CV.d (D.int .i64 n1), CV.d (D.int .i64 n2), CV.d (D.int .i64 n3), CV.d (D.slice 1 l4), CV.d (D.slice 7 l5)]), (8, [CV.d (D.slice 1 l8)]), (13, [CV.d (D.int .i64 n18), CV.d (D.int .i64 n19), CV.d (D.int .i64 n20), CV.d (D.str s21), CV.d (D.int .i64 n22), CV.d (D.slice 1 l23), CV.d (D.str s24)]), (55, [CV.arr 1 l26])] objs') ∧ ((decide (n49 > 64)) = false → (((n3 == 1000000) = true → EndR (CV.tup [CV.own (11 : Nat) [], CV.d (D.int .i64 (9 : Int))]) res [(5, [CV.d (D.str s0), CV.d (D.int .i64 n1), CV.d (D.int .i64 n2), CV.d (D.int .i64 n3), CV.d (D.slice 1 l4), CV.d (D.slice 7 l5)]), (8, [CV.d (D.slice 1 l8)]), (13, [CV.d (D.int .i64 n18), CV.d (D.int .i64 n19), CV.d (D.int .i64 n20), CV.d (D.str s21), CV.d (D.int .i64 n22), CV.d (D.slice 1 l23), CV.d (D.str s24)]), (55, [CV.arr 1 l26])] objs') ∧ ((n3 == 1000000) = false → (∃ l50 : List D, ((Runs P 75 [CV.d (D.slice 1 l25)] [] (CV.own 11 l50) []) ∧ (∀ n51 : Int, (Go.IntKind.wrap Go.IntKind.i64 (n3 + 1) = n51 → False)))))))))))))))))))))))))))))))))))))))))))))))))))))) := by kernel_rfl
theorem t39 :okF P HR 34 1=true:=by kernel_rfl
theorem vc39 (l0 : List D) (res : CV) (objs' : List (Nat × List CV)) : walkA P (tbF P [163,148,112,129,134,118,1000101,7000102,107500054,1072002147,75,117,40,36,42] [] 34) (anOf (afOf P HR 34) []) (afOf P HR 34) [CV.d (D.slice 1 l0)] [] (fun rs => endE rs res objs') = ((∃ I1 : (Int → (Int → (Nat → Prop))), ((∃ k2 : Nat, I1 (nI (List.length l0)) 0 k2) ∧ (∀ n3 : Int, (∀ n4 : Int, (∀ k5 : Nat, (I1 n3 n4 k5 → (((decide (n4 < nI (List.length l0))) = true → ((0 ≤ n4 ∧ n4 < nI (List.length l0)) ∧ (∃ s6 : Bytes, ((D.cells (List.getD l0 (Int.toNat n4) D.nilp) = [D.str s6]) ∧ (∀ n7 : Int, (Go.IntKind.wrap Go.IntKind.i64 (n3 + nI (List.length s6)) = n7 → (∀ n8 : Int, (Go.IntKind.wrap Go.IntKind.i64 (n4 + 1) = n8 → (∃ k9 : Nat, ((k9 < k5) ∧ I1 n7 n8 k9)))))))))) ∧ ((decide (n4 < nI (List.length l0))) = false → (((decide (n3 > 2000)) = true → EndR (CV.d (D.int .i64 n3)) res [] objs') ∧ ((decide (n3 > 2000)) = false → EndR (CV.d (D.int .i64 (0 : Int))) res [] objs'))))))))))) := by kernel_rfl
end B
end Go.Proofs.YtmkkljbfmdngfaaGreatDoor

namespace Go.Proofs.YtmkkljbfmdngfaaGreatDoor
namespace B
open Go.RowKit Go.Sort

theorem spI (l : List Int) {i : Nat} (hi : i < l.length) (v : Int) : setEl (ints l) (addO 0 (Int.toNat (i : Int))) 0 [.int .i64 v] = ints (l.set i v) := by
  unfold setEl
  rw [add0]
  have : List.getD (ints l) i D.nilp = iD l[i] := by have := ints_get l hi; simpa using this
  rw [this]
  show (ints l).set i (.int .i64 v) = _
  unfold ints
  rw [List.map_set]
theorem el_int (l : List Int) {i : Nat} (h : i < l.length) : List.take 1 (List.drop 0 (D.cells (List.getD (ints l) (addO 0 (Int.toNat (i : Int))) D.nilp))) = [D.int .i64 l[i]] := by
  have := ints_get l h
  rw [add0]
  rw [show List.getD (ints l) i D.nilp = iD l[i] from by simpa using this]; rfl

def objsF (x y : Nat) (l : List Bytes) (b : Box) : List (Nat × List CV) := [(x, [.d (.slice 1 (strs l))]), (y, [.d (.str b.id), .d (iD b.valid), .d (iD b.next), .d (iD b.high), .d (.slice 1 (strs b.words)), .d (.slice 7 (b.msgs.map Msg.d))])]
def keyW (b : Box) (l : List Bytes) (k : Int) : Bool := l.contains (b.words.getD k.toNat [])
theorem r83 (k : Int) (l : List Bytes) (b : Box) (hk : 0 ≤ k ∧ k < b.words.length) (hl : l.length ≤ 9223372036854775806) :
    Runs P 86 [.d (iD k), .ptr 1000 0, .ptr 1001 0] (objsF 1000 1001 l b) (.d (.bool (keyW b l k))) (objsF 1000 1001 l b) := by
  refine runs_walkZ t83 (vc83 k (strs l) b.id b.valid b.next b.high (strs b.words) (b.msgs.map Msg.d) _ _) rfl (by simp [objsF]) ?_
  obtain ⟨i, rfl⟩ : ∃ i : Nat, k = i := ⟨k.toNat, by omega⟩
  have hi : i < b.words.length := by omega
  have e : keyW b l (i : Int) = l.contains b.words[i] := by
    unfold keyW
    rw [show b.words.getD (Int.toNat (i : Int)) [] = b.words[i] from by simp [List.getD_eq_getElem?_getD, hi]]
  rw [strs_len, e]
  exact ⟨⟨by omega, by simp only [nI]; omega⟩, b.words[i], by rw [strs_get _ hi]; rfl, _, r84 l _ hl, endL rfl ⟨rfl, rfl, trivial⟩ rfl⟩
def idxF (p : Int → Bool) (l : List Int) : Int := match l.findIdx? p with | some j => (j : Int) | none => -1
theorem r127 (ks : List Int) (l : List Bytes) (b : Box) (hk : ∀ k ∈ ks, 0 ≤ k ∧ k < b.words.length) (hn : ks.length ≤ 9223372036854775806) (hl : l.length ≤ 9223372036854775806) :
    Runs P 103 [.rs 1 2001 0 (ints ks).length, .fn 86 [1000, 1001]] ((2001, [.arr 1 (ints ks)]) :: objsF 1000 1001 l b) (.d (iD (idxF (keyW b l) ks))) ((2001, [.arr 1 (ints ks)]) :: objsF 1000 1001 l b) := by
  refine runs_walkZ t127 (vc127 (ints ks) (strs l) b.id b.valid b.next b.high (strs b.words) (b.msgs.map Msg.d) _ _) rfl (by simp [objsF]) ?_
  have hlen : nI (List.length (ints ks)) = (ks.length : Int) := by rw [ints_len]
  rw [hlen]
  refine ⟨fun n w s v x h bw bm m => ∃ i : Nat, n = i ∧ i ≤ ks.length ∧ m = ks.length - i ∧ (∀ j (hj : j < ks.length), j < i → keyW b l ks[j] = false) ∧ w = strs l ∧ s = b.id ∧ v = b.valid ∧ x = b.next ∧ h = b.high ∧ bw = strs b.words ∧ bm = b.msgs.map Msg.d,
    ⟨_, 0, rfl, by omega, rfl, fun j _ h0 => by omega, rfl, rfl, rfl, rfl, rfl, rfl, rfl⟩, ?_⟩
  rintro _ _ _ _ _ _ _ _ _ ⟨i, rfl, hi, rfl, hJ, rfl, rfl, rfl, rfl, rfl, rfl, rfl⟩
  refine ⟨fun h => ?_, fun h => ?_⟩
  · have h := of_decide_eq_true h
    have hlt : i < ks.length := by omega
    refine ⟨⟨by omega, by omega⟩, addO_lt (by rw [ints_len]; exact hlt), ks[i], el_int ks hlt, _, _, _, _, _, _, _, _, r83 ks[i] l b (hk _ (List.getElem_mem hlt)) hl, fun h => ?_, fun h => ?_⟩
    · have e : idxF (keyW b l) ks = (i : Int) := by
        unfold idxF
        rw [List.findIdx?_eq_some_iff_getElem.2 ⟨hlt, h, fun j hj => by rw [hJ j (by omega) hj]; decide⟩]
      rw [e]
      exact endL rfl ⟨rfl, rfl, rfl, trivial⟩ rfl
    · rintro _ rfl
      refine ⟨ks.length - (i + 1), by omega, i + 1, W64 (by omega) (by omega), by omega, rfl, fun j hj hj2 => ?_, rfl, rfl, rfl, rfl, rfl, rfl, rfl⟩
      rcases Nat.lt_or_ge j i with h2 | h2
      · exact hJ j hj h2
      · obtain rfl : j = i := by omega
        exact h
  · have h := of_decide_eq_false h
    have e : idxF (keyW b l) ks = -1 := by
      unfold idxF
      rw [List.findIdx?_eq_none_iff.2 (fun x hx => by
        obtain ⟨j, hj, rfl⟩ := List.mem_iff_getElem.1 hx
        exact hJ j hj (by omega))]
    rw [e]
    exact endL rfl ⟨rfl, rfl, rfl, trivial⟩ rfl
def keepK (b : Box) (l : List Bytes) (ks : List Int) : List Int := ks.filter fun k => !keyW b l k
def cutK (b : Box) (l : List Bytes) (ks : List Int) : List Int := keepK b l ks ++ List.replicate (ks.length - (keepK b l ks).length) 0
theorem r81 (ks : List Int) (l : List Bytes) (b : Box) (hk : ∀ k ∈ ks, 0 ≤ k ∧ k < b.words.length) (hn : ks.length ≤ 9223372036854775806) (hl : l.length ≤ 9223372036854775806) :
    Runs P 55 [.rs 1 2001 0 (ints ks).length, .fn 86 [1000, 1001]] ((2001, [.arr 1 (ints ks)]) :: objsF 1000 1001 l b) (.rs 1 2001 0 (keepK b l ks).length) ((2001, [.arr 1 (ints (cutK b l ks))]) :: objsF 1000 1001 l b) := by
  refine runs_walkZ t81 (vc81 (ints ks) (strs l) b.id b.valid b.next b.high (strs b.words) (b.msgs.map Msg.d) _ _) rfl (by simp [objsF]) ?_
  have hlen : nI (List.length (ints ks)) = (ks.length : Int) := by rw [ints_len]
  have hfl : (keepK b l ks).length ≤ ks.length := List.length_filter_le _ _
  refine ⟨_, _, _, _, _, _, _, _, _, r127 ks l b hk hn hl, fun h => ?_, fun h => ?_⟩
  · have hall : ∀ k ∈ ks, keyW b l k = false := by
      unfold idxF at h
      cases e : ks.findIdx? (keyW b l) with
      | none => exact List.findIdx?_eq_none_iff.1 e
      | some j => rw [e] at h; simp at h
    have e1 : keepK b l ks = ks := List.filter_eq_self.2 fun k hk => by rw [hall k hk]; rfl
    have e2 : cutK b l ks = ks := by unfold cutK; rw [e1]; simp
    rw [e1, e2, ← ints_len ks]
    exact endL rfl ⟨rfl, rfl, rfl, trivial⟩ rfl
  · obtain ⟨i0, hi0⟩ : ∃ j, ks.findIdx? (keyW b l) = some j := by
      unfold idxF at h
      cases e : ks.findIdx? (keyW b l) with
      | none => rw [e] at h; simp at h
      | some j => exact ⟨j, rfl⟩
    have e0 : idxF (keyW b l) ks = (i0 : Int) := by unfold idxF; rw [hi0]
    obtain ⟨hlt0, hp0, hq0⟩ := List.findIdx?_eq_some_iff_getElem.1 hi0
    rw [e0, hlen]
    rintro _ rfl
    have ek : ∀ j (hj : j < ks.length), keepK b l (ks.take (j + 1)) = keepK b l (ks.take j) ++ if keyW b l ks[j] = true then [] else [ks[j]] := fun j hj => by
      unfold keepK
      rw [List.take_succ_eq_append_getElem hj, List.filter_append, List.filter_cons, List.filter_nil]
      cases keyW b l ks[j] <;> rfl
    have et : keepK b l (ks.take i0) = ks.take i0 := List.filter_eq_self.2 fun k hk => by
      obtain ⟨j, hj, rfl⟩ := List.mem_iff_getElem.1 hk
      rw [List.length_take] at hj
      have := hq0 j (by omega)
      rw [List.getElem_take]
      simpa using this
    refine ⟨fun n m row w s v x h bw bm c => ∃ (i j : Nat) (r : List Int), n = i ∧ m = j ∧ j ≤ ks.length ∧ c = ks.length - j ∧ row = ints r ∧ r.length = ks.length ∧ r.drop j = ks.drop j ∧ r.take i = keepK b l (ks.take j) ∧ i = (keepK b l (ks.take j)).length ∧ i ≤ j ∧ w = strs l ∧ s = b.id ∧ v = b.valid ∧ x = b.next ∧ h = b.high ∧ bw = strs b.words ∧ bm = b.msgs.map Msg.d,
      ⟨_, i0, i0 + 1, ks, rfl, W64 (by omega) (by omega), by omega, rfl, rfl, rfl, rfl, ?_, ?_, by omega, rfl, rfl, rfl, rfl, rfl, rfl, rfl⟩, ?_⟩
    · rw [ek i0 hlt0, if_pos hp0, List.append_nil, et]
    · rw [ek i0 hlt0, if_pos hp0, List.append_nil, et, List.length_take]; omega
    rintro _ _ _ _ _ _ _ _ _ _ _ ⟨i, j, r, rfl, rfl, hj, rfl, rfl, hr, hd, ht, hi, hij, rfl, rfl, rfl, rfl, rfl, rfl, rfl⟩
    refine ⟨fun h => ?_, fun h => ?_⟩
    · have h := of_decide_eq_true h
      have hlt : j < ks.length := by omega
      have hlr : j < r.length := by omega
      have ev : r[j] = ks[j] := by
        have := congrArg (fun x => x[0]?) hd
        simp only [List.getElem?_drop, Nat.add_zero] at this
        rw [List.getElem?_eq_getElem hlr, List.getElem?_eq_getElem hlt] at this
        simpa using this
      have hd2 : r.drop (j + 1) = ks.drop (j + 1) := by
        have := congrArg (List.drop 1) hd
        simpa [List.drop_drop] using this
      refine ⟨⟨by omega, by omega⟩, addO_lt (by rw [ints_len]; exact hlr), ks[j], by rw [el_int r hlr, ev], _, _, _, _, _, _, _, _, r83 ks[j] l b (hk _ (List.getElem_mem hlt)) hl, fun h => ?_, fun h => ?_⟩
      · have h : keyW b l ks[j] = false := by simpa using h
        refine ⟨⟨by omega, by omega⟩, addO_lt (by rw [ints_len]; omega), ?_⟩
        rintro _ rfl _ rfl _ rfl
        rw [spI r (by omega)]
        refine ⟨ks.length - (j + 1), by omega, i + 1, j + 1, r.set i ks[j], W64 (by omega) (by omega), W64 (by omega) (by omega), by omega, rfl, rfl, by simp [hr], ?_, ?_, ?_, by omega, rfl, rfl, rfl, rfl, rfl, rfl, rfl⟩
        · rw [List.drop_set_of_lt (by omega), hd2]
        · rw [ek j hlt, h, if_neg (by decide), ← ht]
          have hir : i < r.length := by omega
          rw [List.take_succ_eq_append_getElem (by simpa using hir), List.take_set_of_le (Nat.le_refl i), List.getElem_set_self]
        · rw [ek j hlt, h, if_neg (by decide), List.length_append, ← hi]; rfl
      · have h : keyW b l ks[j] = true := by simpa using h
        rintro _ rfl
        refine ⟨ks.length - (j + 1), by omega, i, j + 1, r, rfl, W64 (by omega) (by omega), by omega, rfl, rfl, hr, hd2, ?_, ?_, by omega, rfl, rfl, rfl, rfl, rfl, rfl, rfl⟩
        · rw [ek j hlt, if_pos h, List.append_nil, ht]
        · rw [ek j hlt, if_pos h, List.append_nil, hi]
    · have h := of_decide_eq_false h
      obtain rfl : j = ks.length := by omega
      rw [List.take_length] at ht hi
      refine ⟨⟨by omega, by omega, by omega⟩, by rw [add0, ints_len]; omega, ?_⟩
      rintro _ rfl
      refine ⟨⟨by simp [nI], by simp [nI], by omega⟩, ?_⟩
      rw [← hi]
      refine endL (by simp [nI, addO]) ⟨?_, rfl, rfl, trivial⟩ rfl
      have e3 : Int.toNat (ks.length : Int) - Int.toNat (i : Int) = ks.length - i := by omega
      rw [add0, e3]
      have e4 : List.drop (i + (ks.length - i)) (ints r) = [] := List.drop_eq_nil_of_le (by rw [ints_len]; omega)
      rw [e4, List.append_nil]
      have e5 : List.take i (ints r) = ints (keepK b l ks) := by rw [← ht]; simp [ints, List.map_take]
      rw [e5]
      have e6 : ints (cutK b l ks) = ints (keepK b l ks) ++ List.replicate (ks.length - i) (D.int .i64 0) := by
        unfold cutK
        rw [← hi]
        simp [ints]
      rw [e6]; rfl
theorem r85 (a b : List Int) (ha : a.length ≤ 9223372036854775806) : Runs P 87 [.d (.slice 1 (ints a)), .d (.slice 1 (ints b))] [] (.d (.bool (a == b))) [] := by
  refine runs_walkZ t85 (vc85 _ _ _ _) rfl (by simp) ?_
  rw [ints_len, ints_len]
  have no : a ≠ b → EndR (.d (.bool false)) (.d (.bool (a == b))) [] [] := fun h => endB (by simp [h])
  refine ⟨fun h => no (by rintro rfl; simp at h), fun h => ?_⟩
  have hl : a.length = b.length := by simp [nI] at h; omega
  refine range1 (N := a.length) (fun i => a.take i = b.take i) ha (by simp) (fun i hi bd hJ I k next => ?_) fun hJ => ?_
  · have hi2 : i < b.length := by omega
    refine ⟨bd, a[i], by rw [ints_get _ hi]; rfl, ⟨by omega, by simp only [nI]; omega⟩, b[i], by rw [ints_get _ hi2]; rfl, fun h => no (by rintro rfl; simp at h), fun h => ?_⟩
    have he : a[i] = b[i] := by simpa using h
    exact next (by rw [List.take_add_one, List.take_add_one, hJ, List.getElem?_eq_getElem hi, List.getElem?_eq_getElem hi2, he])
  · have : a = b := by
      rw [List.take_length] at hJ
      rw [hJ, hl, List.take_length]
    exact endB (by simp [this])
theorem compact_len (l : List Int) : (Lib.compact l).length ≤ l.length := by
  unfold Lib.compact Lib.compactUpTo
  rw [List.length_map]
  exact Nat.le_trans (List.length_filter_le _ _) (by simp)
theorem r80 (k : Nat) (l : List Int) (hl : l.length ≤ 1099511627776) : Runs P 84 [.rs 1 k 0 (ints l).length] [(k, [.arr 1 (ints l)])] (.rs 1 k 0 (Lib.compact l).length) [(k, [.arr 1 (ints (Lib.compact l ++ List.replicate (l.length - (Lib.compact l).length) 0))])] := by
  rw [ints_len]
  exact Runs.shrinkI Lib.compact compact_len ⟨Tryz.f84, Tryz.func84, by kernel_rfl, by kernel_rfl⟩ (fun blk off cap zs w h1 h2 h3 => Tryz.slices_Compact_int blk off cap zs w h1 h2 h3) (fun p cap w => Tryz.slices_Compact_int_empty p cap w) k l (by omega)
end B
end Go.Proofs.YtmkkljbfmdngfaaGreatDoor

namespace Go.Proofs.YtmkkljbfmdngfaaGreatDoor
namespace B
open Go.RowKit Go.Sort

def wordAt (ws : List Bytes) (k : Int) : Option Bytes := if 0 ≤ k ∧ k < ws.length then ws[k.toNat]? else none
def wordsOf (ws : List Bytes) (ks : List Int) : List Bytes := ks.filterMap (wordAt ws)
def orF (a b : Int) : Int := Go.IntKind.wrap Go.IntKind.i64 (nI (BitVec.toNat (BitVec.ofInt (Go.IntKind.bits .i64) a ||| BitVec.ofInt (Go.IntKind.bits .i64) b)))
def cutF (a b : Int) : Int := Go.IntKind.wrap Go.IntKind.i64 (nI (BitVec.toNat (BitVec.ofInt (Go.IntKind.bits .i64) a &&& ~~~BitVec.ofInt (Go.IntKind.bits .i64) b)))
def flagRow (uid mod fl : Int) (keys : List Int) : Row := ⟨2, uid, mod, ⟨0, 0, 0, [], fl, keys, []⟩, []⟩
def flagsEnd (b : Box) (uid : Int) (m : Msg) (fl : Int) (keys : List Int) (more : List Bytes) : Int × List Row :=
  if fl = m.flags ∧ keys = m.keys then (0, []) else if 64 < b.words.length + more.length then (4, []) else if b.high = 1000000 then (9, []) else (0, more.map wordRow ++ [flagRow uid (b.high + 1) fl keys])
def flagsM (b : Box) (uid fl : Int) (l : List Bytes) (how : Int) (m : Msg) : Int × List Row :=
  if how = 1 then flagsEnd b uid m (orF fl m.flags) (Lib.compact (sortI (placesB b l ++ m.keys))) (freshB b l)
  else if how = 2 then flagsEnd b uid m (cutF m.flags fl) (keepK b l m.keys) []
  else flagsEnd b uid m fl (placesB b l) (freshB b l)
def flagsOut (b : Box) (uid fl : Int) (l : List Bytes) (how : Int) : Int × List Row :=
  if ¬ (mayBox b = 0 ∧ (0 ≤ fl ∧ fl ≤ 31) ∧ wordsB [] l = true ∧ 0 ≤ how ∧ how ≤ 2) then (1, [])
  else match findM b.msgs uid with
  | none => (6, [])
  | some i => match b.msgs[i]? with
    | none => (6, [])
    | some m => flagsM b uid fl l how m
theorem flagsTail (b : Box) (uid : Int) (m : Msg) (fl : Int) (keys : List Int) (more : List Bytes) (bs : List (Nat × List CV)) (hM : BoxMay b) (hk : keys.length ≤ 9223372036854775806) (hmo : more.length ≤ 1099511627000) :
    ∃ b32 : Bool, (((fl == m.flags) = true → Runs P 87 [CV.d (D.slice 1 (ints keys)), CV.d (D.slice 1 (ints m.keys))] [] (CV.d (D.bool b32)) []) ∧ (∀ b33 : Bool, ((fl == m.flags && b32) = b33 →
      (((b33) = true → EndR (CV.tup [CV.own (11 : Nat) [], CV.d (D.int .i64 (0 : Int))]) (.tup [.d (.slice 11 ((flagsEnd b uid m fl keys more).2.map Row.d)), .d (iD (flagsEnd b uid m fl keys more).1)]) bs []) ∧ ((b33) = false →
      (∀ n34 : Int, (Go.IntKind.wrap Go.IntKind.i64 (nI (List.length (strs b.words)) + nI (List.length (strs more))) = n34 → (((decide (n34 > 64)) = true → EndR (CV.tup [CV.own (11 : Nat) [], CV.d (D.int .i64 (4 : Int))]) (.tup [.d (.slice 11 ((flagsEnd b uid m fl keys more).2.map Row.d)), .d (iD (flagsEnd b uid m fl keys more).1)]) bs []) ∧
      ((decide (n34 > 64)) = false → (((b.high == 1000000) = true → EndR (CV.tup [CV.own (11 : Nat) [], CV.d (D.int .i64 (9 : Int))]) (.tup [.d (.slice 11 ((flagsEnd b uid m fl keys more).2.map Row.d)), .d (iD (flagsEnd b uid m fl keys more).1)]) bs []) ∧ ((b.high == 1000000) = false →
      (∃ l35 : List D, ((Runs P 75 [CV.d (D.slice 1 (strs more))] [] (CV.own 11 l35) []) ∧ (∀ n36 : Int, (Go.IntKind.wrap Go.IntKind.i64 (b.high + 1) = n36 →
      (((List.length l35 + List.length [D.agg [D.int .i64 2, D.int .i64 uid, D.int .i64 n36, D.int .i64 0, D.int .i64 0, D.int .i64 0, D.str [], D.int .i64 fl, D.slice 1 (ints keys), D.str [], D.str []]]) * 128 ≤ 140737488355328) ∧
       EndR (CV.tup [CV.own 11 (l35 ++ [D.agg [D.int .i64 2, D.int .i64 uid, D.int .i64 n36, D.int .i64 0, D.int .i64 0, D.int .i64 0, D.str [], D.int .i64 fl, D.slice 1 (ints keys), D.str [], D.str []]]), CV.d (D.int .i64 0)]) (.tup [.d (.slice 11 ((flagsEnd b uid m fl keys more).2.map Row.d)), .d (iD (flagsEnd b uid m fl keys more).1)]) bs [])))))))))))))))) := by
  refine ⟨keys == m.keys, fun _ => r85 keys m.keys hk, ?_⟩
  rintro b33 h33
  have hnw := hM.nw
  have hh := hM.high
  have c1 : b33 = true ↔ (fl = m.flags ∧ keys = m.keys) := by rw [← h33]; simp
  refine ⟨fun h => ?_, fun h => ?_⟩
  · rw [show flagsEnd b uid m fl keys more = (0, []) from by unfold flagsEnd; rw [if_pos (c1.1 h)]]
    exact endTO rfl
  have c1' : ¬ (fl = m.flags ∧ keys = m.keys) := fun q => by rw [c1.2 q] at h; cases h
  rintro _ rfl
  rw [strs_len, strs_len, W64 (by simp only [nI]; omega) (by simp only [nI]; omega)]
  simp only [nI]
  refine ⟨fun h => ?_, fun h => ?_⟩
  · have h := of_decide_eq_true h
    rw [show flagsEnd b uid m fl keys more = (4, []) from by unfold flagsEnd; rw [if_neg c1', if_pos (by omega)]]
    exact endTO rfl
  have h2 := of_decide_eq_false h
  refine ⟨fun h => ?_, fun h => ?_⟩
  · rw [show flagsEnd b uid m fl keys more = (9, []) from by unfold flagsEnd; rw [if_neg c1', if_neg (by omega), if_pos (by simpa using h)]]
    exact endTO rfl
  · rw [show flagsEnd b uid m fl keys more = (0, more.map wordRow ++ [flagRow uid (b.high + 1) fl keys]) from by unfold flagsEnd; rw [if_neg c1', if_neg (by omega), if_neg (by simpa using h)]]
    refine ⟨_, r86 _ (by omega), ?_⟩
    rintro _ rfl
    rw [W64 (by omega) (by omega)]
    refine ⟨by simp; omega, endTO ?_⟩
    rw [List.map_append]; rfl
theorem MsgMay.key {nw : Nat} {m : Msg} (h : MsgMay nw m) : ∀ k ∈ m.keys, 0 ≤ k ∧ k < nw := fun k hk => by
  have := (keys_all h.keys).1 k hk
  omega
theorem take_app (a : List Int) (n : Nat) (z : List Int) (h : n = a.length) : List.take n (ints (a ++ z)) = ints a := by
  subst h
  unfold ints
  rw [List.map_append, List.take_append_of_le_length (by simp), List.take_of_length_le (by simp)]
theorem r78R' (b : Box) (l : List Bytes) (hw : b.words.length ≤ 549755813888) (hl : l.length ≤ 549755813888) : Runs P 73 [.d b.d, .d (.slice 1 (strs l))] [] (.rs 1 55 0 (ints (placesB b l)).length) [(55, [.arr 1 (ints (placesB b l))])] := by
  have := (r78R b l hw hl).swap 6 55
  simpa [CV.ren, CV.ren1, renB, swp] using this
theorem findI_eq {l : List Msg} {u : Int} {i : Nat} (h : findM l u = some i) : findI l u = (i : Int) := by unfold findI; rw [h]
theorem r34 (b : Box) (uid fl : Int) (l : List Bytes) (how : Int) (hb : BoxOk b) (hl : l.length ≤ 274877906944) (hww : ∀ w ∈ l, w.length ≤ 9223372036854775806) :
    Runs P 40 [.d b.d, .d (iD uid), .d (iD fl), .d (.slice 1 (strs l)), .d (iD how)] [] (.tup [.d (.slice 11 ((flagsOut b uid fl l how).2.map Row.d)), .d (iD (flagsOut b uid fl l how).1)]) [] := by
  have hf : (freshB b l).length ≤ l.length := List.length_filter_le _ _
  by_cases hw1 : how = 1
  · refine runs_walkZ t34 (vc34b b.id b.valid b.next b.high (strs b.words) (b.msgs.map Msg.d) uid fl (strs l) how _ _) rfl (by simp) ?_
    refine ⟨_, r47 b hb, ?_⟩
    rintro b11 h11 b12 h12
    refine ⟨_, fun _ => r76 l (by omega) hww, ?_⟩
    rintro b14 h14 b15 h15 b16 h16
    have c1 : b16 = true ↔ ¬ (mayBox b = 0 ∧ (0 ≤ fl ∧ fl ≤ 31) ∧ wordsB [] l = true ∧ 0 ≤ how ∧ how ≤ 2) := by
      rw [← h16, ← h15, ← h14, ← h12, ← h11]
      cases wordsB [] l <;> simp <;> omega
    refine ⟨fun h => ?_, fun h => ?_⟩
    · rw [show flagsOut b uid fl l how = (1, []) from by unfold flagsOut; rw [if_pos (c1.1 h)]]
      exact endTO rfl
    have c1' : ¬ ¬ (mayBox b = 0 ∧ (0 ≤ fl ∧ fl ≤ 31) ∧ wordsB [] l = true ∧ 0 ≤ how ∧ how ≤ 2) := fun q => by rw [c1.2 q] at h; cases h
    have hM := boxMay.1 (Decidable.not_not.1 c1').1
    have hnw := hM.nw
    have hnm := hM.nm
    refine ⟨_, r33 b uid (by omega), ?_⟩
    rw [findI_neg]
    cases hfi : findM b.msgs uid with
    | none =>
      rw [show flagsOut b uid fl l how = (6, []) from by unfold flagsOut; rw [if_neg c1', hfi]]
      exact ⟨fun _ => endTO rfl, fun h => by simp at h⟩
    | some i =>
      obtain ⟨hi, hu⟩ := findM_some hfi
      have hm := ((msgsMay.1 hM.msgs).all _ (List.getElem_mem hi)).2.1
      rw [findI_eq hfi]
      rw [show flagsOut b uid fl l how = flagsM b uid fl l how b.msgs[i] from by unfold flagsOut; rw [if_neg c1', hfi]; dsimp only; rw [List.getElem?_eq_getElem hi]]
      refine ⟨fun h => by simp at h, fun _ => ⟨⟨by omega, by rw [nI_map]; simp only [nI]; omega⟩, _, _, _, _, _, _, _, by rw [msgs_get b.msgs hi]; rfl, _, r77 b l (by omega) (by omega), _, r78R' b l (by omega) (by omega), fun _ => ?_, fun h => by simp [hw1] at h⟩⟩
      rintro _ rfl
      have hkl := hm.keyLen
      have hpl := placesB_len b l
      rw [ints_len, ints_len]
      refine ⟨rfl, by omega, ?_⟩
      rintro _ rfl
      have e1 : ints (placesB b l) ++ ints b.msgs[i].keys = ints (placesB b l ++ b.msgs[i].keys) := by simp [ints]
      rw [e1, show (placesB b l).length + b.msgs[i].keys.length = (ints (placesB b l ++ b.msgs[i].keys)).length from by rw [ints_len, List.length_append]]
      have hsl : (sortI (placesB b l ++ b.msgs[i].keys)).length = (placesB b l ++ b.msgs[i].keys).length := by simp [sortI]
      have hpl2 : (placesB b l ++ b.msgs[i].keys).length ≤ 549755813888 := by rw [List.length_append]; omega
      refine ⟨_, r79 55 _ (by omega), ?_⟩
      rw [show (ints (placesB b l ++ b.msgs[i].keys)).length = (ints (sortI (placesB b l ++ b.msgs[i].keys))).length from by rw [ints_len, ints_len, hsl]]
      refine ⟨_, _, r80 55 _ (by omega), by rw [ints_len]; simp, ?_⟩
      rw [take_app _ _ _ rfl]
      have hcl := compact_len (sortI (placesB b l ++ b.msgs[i].keys))
      have ef : flagsM b uid fl l how b.msgs[i] = flagsEnd b uid b.msgs[i] (orF fl b.msgs[i].flags) (Lib.compact (sortI (placesB b l ++ b.msgs[i].keys))) (freshB b l) := by unfold flagsM; rw [if_pos hw1]
      rw [ef]
      exact flagsTail b uid b.msgs[i] _ _ _ _ hM (by omega) (by omega)
  · refine runs_walkZ t34 (vc34a b.id b.valid b.next b.high (strs b.words) (b.msgs.map Msg.d) uid fl (strs l) how _ _) rfl (by simp) ?_
    refine ⟨_, r47 b hb, ?_⟩
    rintro b11 h11 b12 h12
    refine ⟨_, fun _ => r76 l (by omega) hww, ?_⟩
    rintro b14 h14 b15 h15 b16 h16
    have c1 : b16 = true ↔ ¬ (mayBox b = 0 ∧ (0 ≤ fl ∧ fl ≤ 31) ∧ wordsB [] l = true ∧ 0 ≤ how ∧ how ≤ 2) := by
      rw [← h16, ← h15, ← h14, ← h12, ← h11]
      cases wordsB [] l <;> simp <;> omega
    refine ⟨fun h => ?_, fun h => ?_⟩
    · rw [show flagsOut b uid fl l how = (1, []) from by unfold flagsOut; rw [if_pos (c1.1 h)]]
      exact endTO rfl
    have c1' : ¬ ¬ (mayBox b = 0 ∧ (0 ≤ fl ∧ fl ≤ 31) ∧ wordsB [] l = true ∧ 0 ≤ how ∧ how ≤ 2) := fun q => by rw [c1.2 q] at h; cases h
    have hM := boxMay.1 (Decidable.not_not.1 c1').1
    have hnw := hM.nw
    have hnm := hM.nm
    refine ⟨_, r33 b uid (by omega), ?_⟩
    rw [findI_neg]
    cases hfi : findM b.msgs uid with
    | none =>
      rw [show flagsOut b uid fl l how = (6, []) from by unfold flagsOut; rw [if_neg c1', hfi]]
      exact ⟨fun _ => endTO rfl, fun h => by simp at h⟩
    | some i =>
      obtain ⟨hi, hu⟩ := findM_some hfi
      have hm := ((msgsMay.1 hM.msgs).all _ (List.getElem_mem hi)).2.1
      rw [findI_eq hfi]
      rw [show flagsOut b uid fl l how = flagsM b uid fl l how b.msgs[i] from by unfold flagsOut; rw [if_neg c1', hfi]; dsimp only; rw [List.getElem?_eq_getElem hi]]
      refine ⟨fun h => by simp at h, fun _ => ⟨⟨by omega, by rw [nI_map]; simp only [nI]; omega⟩, _, _, _, _, _, _, _, by rw [msgs_get b.msgs hi]; rfl, _, r77 b l (by omega) (by omega), _, r78 b l (by omega) (by omega), fun h => by simp [hw1] at h, fun _ => ⟨fun h => ?_, fun h => ?_⟩⟩⟩
      · have hw2 : how = 2 := by simpa using h
        rintro _ rfl
        have hkl := hm.keyLen
        have hkk : ∀ k ∈ b.msgs[i].keys, 0 ≤ k ∧ k < b.words.length := hm.key
        have h81 := (((r81 b.msgs[i].keys l b hkk (by omega) (by omega)).swap 2001 79).swap 1000 8).swap 1001 5
        have hfl2 : (keepK b l b.msgs[i].keys).length ≤ b.msgs[i].keys.length := List.length_filter_le _ _
        refine ⟨_, r82R 79 _ (by rw [ints_len]; omega), _, _, _, _, _, _, _, _, _, by simpa [CV.ren, CV.ren1, renB, swp, objsF] using h81, by rw [ints_len]; unfold cutK; simp, ?_⟩
        rw [show List.take (keepK b l b.msgs[i].keys).length (ints (cutK b l b.msgs[i].keys)) = ints (keepK b l b.msgs[i].keys) from take_app _ _ _ rfl]
        have ef : flagsM b uid fl l how b.msgs[i] = flagsEnd b uid b.msgs[i] (cutF b.msgs[i].flags fl) (keepK b l b.msgs[i].keys) [] := by unfold flagsM; rw [if_neg hw1, if_pos hw2]
        rw [ef]
        exact flagsTail b uid b.msgs[i] _ _ [] _ hM (by omega) (by simp)
      · have hw2 : ¬ how = 2 := by simpa using h
        have hpl := placesB_len b l
        have ef : flagsM b uid fl l how b.msgs[i] = flagsEnd b uid b.msgs[i] fl (placesB b l) (freshB b l) := by unfold flagsM; rw [if_neg hw1, if_neg hw2]
        rw [ef]
        exact flagsTail b uid b.msgs[i] _ _ _ _ hM (by omega) (by omega)
end B
end Go.Proofs.YtmkkljbfmdngfaaGreatDoor

namespace Go.Proofs.YtmkkljbfmdngfaaGreatDoor
namespace B
open Go.RowKit

theorem rise_eq : ∀ {a b : List Int}, a.Pairwise (· < ·) → b.Pairwise (· < ·) → (∀ x, x ∈ a ↔ x ∈ b) → a = b
  | [], [], _, _, _ => rfl
  | [], y :: t, _, _, h => absurd ((h y).2 (by simp)) (by simp)
  | x :: r, [], _, _, h => absurd ((h x).1 (by simp)) (by simp)
  | x :: r, y :: t, ha, hb, h => by
    rw [List.pairwise_cons] at ha hb
    have hxy : x = y := by
      rcases List.mem_cons.1 ((h x).1 (by simp)) with e | e
      · exact e
      · rcases List.mem_cons.1 ((h y).2 (by simp)) with e' | e'
        · exact e'.symm
        · have h1 := ha.1 _ e'
          have h2 := hb.1 _ e
          omega
    subst hxy
    congr 1
    refine rise_eq ha.2 hb.2 fun z => ⟨fun hz => ?_, fun hz => ?_⟩
    · rcases List.mem_cons.1 ((h z).1 (by simp [hz])) with e | e
      · subst e; have := ha.1 _ hz; omega
      · exact e
    · rcases List.mem_cons.1 ((h z).2 (by simp [hz])) with e | e
      · subst e; have := hb.1 _ hz; omega
      · exact e
theorem keysB_iff {n : Int} : ∀ {l : List Int} {was : Int}, keysB n was l = true ↔ l.Pairwise (· < ·) ∧ ∀ k ∈ l, was < k ∧ k < n
  | [], was => by simp [keysB]
  | k :: r, was => by
    simp only [keysB, Bool.and_eq_true, decide_eq_true_eq, keysB_iff (l := r), List.pairwise_cons]
    constructor
    · rintro ⟨⟨h1, h2⟩, h3, h4⟩
      refine ⟨⟨fun x hx => (h4 x hx).1, h3⟩, fun x hx => ?_⟩
      rcases List.mem_cons.1 hx with rfl | hx
      · exact ⟨h1, h2⟩
      · have := h4 x hx; omega
    · rintro ⟨⟨h1, h2⟩, h3⟩
      exact ⟨h3 k (by simp), h2, fun x hx => ⟨h1 x hx, (h3 x (by simp [hx])).2⟩⟩
theorem sortI_sorted (l : List Int) : (sortI l).Pairwise (· ≤ ·) := by
  have := List.pairwise_mergeSort (le := fun x y : Int => decide (x ≤ y)) (fun a b c h1 h2 => by simp at *; omega) (fun a b => by simp; omega) l
  exact this.imp fun h => by simpa using h
theorem sortI_mem {l : List Int} {n : Int} : n ∈ sortI l ↔ n ∈ l := List.mem_mergeSort
theorem compact_rise {l : List Int} (h : l.Pairwise (· ≤ ·)) : (Lib.compact l).Pairwise (· < ·) ∧ ∀ x, x ∈ Lib.compact l ↔ x ∈ l := by
  have get : ∀ j, j < l.length → l.toArray[j]! = l[j]! := fun j hj => by simp
  have le : ∀ i j, i ≤ j → j < l.length → l[i]! ≤ l[j]! := fun i j hij hj => by
    rcases Nat.eq_or_lt_of_le hij with rfl | hij
    · exact Int.le_refl _
    · have := List.pairwise_iff_getElem.1 h i j (by omega) hj hij
      rw [getElem!_pos l i (by omega), getElem!_pos l j hj]; exact this
  have key : ∀ m, m ≤ l.length → (Lib.compactUpTo l.toArray m).Pairwise (· < ·) ∧ ∀ x, x ∈ Lib.compactUpTo l.toArray m ↔ ∃ j, j < m ∧ l[j]! = x := by
    intro m
    induction m with
    | zero => intro _; exact ⟨by simp [Lib.compactUpTo], fun x => by simp [Lib.compactUpTo]⟩
    | succ m ih =>
      intro hm
      obtain ⟨h1, h2⟩ := ih (by omega)
      rw [Lib.compactUpTo_succ, get m (by omega)]
      cases hk : Lib.keeps l.toArray m with
      | true =>
        rw [if_pos rfl]
        have hk' : m = 0 ∨ l[m]! ≠ l[m - 1]! := by
          have := of_decide_eq_true hk
          rw [get m (by omega), get (m - 1) (by omega)] at this
          exact this
        refine ⟨?_, fun x => ?_⟩
        · rw [List.pairwise_append]
          refine ⟨h1, by simp, fun a ha b hb => ?_⟩
          obtain ⟨j, hj, rfl⟩ := (h2 a).1 ha
          rw [List.mem_singleton] at hb; subst hb
          have l1 := le j (m - 1) (by omega) (by omega)
          have l2 := le (m - 1) m (by omega) (by omega)
          have : l[m]! ≠ l[m - 1]! := by
            rcases hk' with hk' | hk'
            · omega
            · exact hk'
          omega
        · rw [List.mem_append, h2, List.mem_singleton]
          constructor
          · rintro (⟨j, hj, e⟩ | e)
            · exact ⟨j, by omega, e⟩
            · exact ⟨m, by omega, e.symm⟩
          · rintro ⟨j, hj, e⟩
            rcases Nat.lt_or_ge j m with q | q
            · exact .inl ⟨j, q, e⟩
            · obtain rfl : j = m := by omega
              exact .inr e.symm
      | false =>
        rw [if_neg (by decide), List.append_nil]
        have hk' : ¬ (m = 0 ∨ l[m]! ≠ l[m - 1]!) := by
          have := of_decide_eq_false hk
          rw [get m (by omega), get (m - 1) (by omega)] at this
          exact this
        refine ⟨h1, fun x => ?_⟩
        rw [h2]
        constructor
        · rintro ⟨j, hj, e⟩; exact ⟨j, by omega, e⟩
        · rintro ⟨j, hj, e⟩
          rcases Nat.lt_or_ge j m with q | q
          · exact ⟨j, q, e⟩
          · obtain rfl : j = m := by omega
            refine ⟨j - 1, by omega, ?_⟩
            have : l[j]! = l[j - 1]! := Decidable.not_not.1 fun q => hk' (.inr q)
            rw [← this]; exact e
  obtain ⟨h1, h2⟩ := key l.length (Nat.le_refl _)
  refine ⟨h1, fun x => ?_⟩
  show x ∈ Lib.compactUpTo l.toArray l.length ↔ _
  rw [h2, List.mem_iff_getElem]
  constructor
  · rintro ⟨j, hj, e⟩; exact ⟨j, hj, by rw [← e, getElem!_pos l j hj]⟩
  · rintro ⟨j, hj, e⟩; exact ⟨j, hj, by rw [← e, getElem!_pos l j hj]⟩

theorem wordsB_iff : ∀ {l pre : List Bytes}, wordsB pre l = true ↔ (∀ w ∈ l, atomB w = true ∧ w ∉ pre) ∧ l.Nodup
  | [], pre => by simp [wordsB]
  | u :: r, pre => by
    simp only [wordsB, Bool.and_eq_true]
    rw [wordsB_iff (l := r)]
    simp only [List.nodup_cons, List.mem_cons, List.mem_append]
    constructor
    · rintro ⟨⟨h1, h2⟩, h3, h4⟩
      refine ⟨?_, fun hu => ?_, h4⟩
      · rintro v (rfl | hv)
        · exact ⟨h1, by simpa using h2⟩
        · exact ⟨(h3 v hv).1, fun hh => (h3 v hv).2 (.inl hh)⟩
      · exact (h3 u hu).2 (.inr (.inl rfl))
    · rintro ⟨h1, h2, h3⟩
      refine ⟨⟨(h1 u (.inl rfl)).1, by simpa using (h1 u (.inl rfl)).2⟩, fun v hv => ⟨(h1 v (.inr hv)).1, ?_⟩, h3⟩
      rintro (hh | hh | hh)
      · exact (h1 v (.inr hv)).2 hh
      · subst hh; exact h2 hv
      · cases hh
theorem fresh_ok {b : Box} {l : List Bytes} (h : wordsB [] l = true) : wordsB b.words (freshB b l) = true := by
  obtain ⟨h1, h2⟩ := wordsB_iff.1 h
  refine wordsB_iff.2 ⟨fun w hw => ?_, h2.sublist List.filter_sublist⟩
  obtain ⟨k1, k2⟩ := List.mem_filter.1 hw
  exact ⟨(h1 w k1).1, by simpa using k2⟩
theorem runB_may : ∀ {l : List Row} {b c : Box}, BoxMay b → runB b l = (0, c) → BoxMay c ∧ Rose b c
  | [], b, c, hb, h => by
    simp only [runB, Prod.mk.injEq, true_and] at h
    subst h
    exact ⟨hb, rfl, rfl, Int.le_refl _, Int.le_refl _, [], by simp⟩
  | r :: l, b, c, hb, h => by
    rw [runB] at h
    split at h
    · rename_i h0
      obtain ⟨k1, k2⟩ := applyB_may hb (c := (applyB b r).2) (Prod.ext h0 rfl)
      obtain ⟨q1, q2⟩ := runB_may k1 h
      obtain ⟨w1, e1⟩ := k2.words
      obtain ⟨w2, e2⟩ := q2.words
      exact ⟨q1, q2.id.trans k2.id, q2.valid.trans k2.valid, Int.le_trans k2.next q2.next, Int.le_trans k2.high q2.high, w1 ++ w2, by rw [e2, e1, List.append_assoc]⟩
    · rename_i h0
      have := congrArg Prod.fst h
      exact absurd this h0
theorem run_words : ∀ (fr : List Bytes) (b : Box) (t : List Row), wordsB b.words fr = true → b.words.length + fr.length ≤ 64 → runB b (fr.map wordRow ++ t) = runB { b with words := b.words ++ fr } t
  | [], b, t, _, _ => by simp
  | w :: r, b, t, h, hl => by
    simp only [wordsB, Bool.and_eq_true] at h
    simp only [List.length_cons] at hl
    have h1 : applyB b (wordRow w) = (0, { b with words := b.words ++ [w] }) := by
      show wordB b w = _
      unfold wordB
      rw [if_neg (by rw [h.1.1]; decide), if_neg (by have := h.1.2; simpa using this), if_neg (by omega)]
    rw [List.map_cons, List.cons_append, runB, h1, if_pos rfl]
    rw [run_words r { b with words := b.words ++ [w] } t h.2 (by simp; omega)]
    simp [List.append_assoc]

theorem mem_all (b : Box) (l : List Bytes) {w : Bytes} (hw : w ∈ l) : w ∈ b.words ++ freshB b l := by
  by_cases h : w ∈ b.words
  · exact List.mem_append_left _ h
  · refine List.mem_append_right _ (List.mem_filter.2 ⟨hw, ?_⟩)
    simpa using h
theorem place_of (all : List Bytes) {w : Bytes} (hw : w ∈ all) : 0 ≤ idxOf all w ∧ idxOf all w < all.length ∧ all.getD (idxOf all w).toNat [] = w := by
  have h : all.contains w = true := by simpa using hw
  have hi := List.idxOf_lt_length_of_mem hw
  unfold idxOf
  rw [if_pos h]
  refine ⟨by omega, by omega, ?_⟩
  rw [Int.toNat_natCast, List.getD_eq_getElem?_getD, List.getElem?_eq_getElem hi, List.getElem_idxOf hi]; rfl
theorem places_mem (b : Box) (l : List Bytes) {k : Int} : k ∈ placesB b l ↔ ∃ w ∈ l, idxOf (b.words ++ freshB b l) w = k := by
  unfold placesB
  rw [sortI_mem, List.mem_map]
theorem places_in (b : Box) (l : List Bytes) {k : Int} (h : k ∈ placesB b l) : 0 ≤ k ∧ k < (b.words ++ freshB b l).length ∧ (b.words ++ freshB b l).getD k.toNat [] ∈ l := by
  obtain ⟨w, hw, rfl⟩ := (places_mem b l).1 h
  obtain ⟨h1, h2, h3⟩ := place_of _ (mem_all b l hw)
  exact ⟨h1, h2, by rw [h3]; exact hw⟩

theorem flags_fin : ∀ a b : Fin 32, (0 ≤ orF a.1 b.1 ∧ orF a.1 b.1 ≤ 31) ∧ (0 ≤ cutF a.1 b.1 ∧ cutF a.1 b.1 ≤ 31) ∧ cutF (orF b.1 a.1) b.1 = cutF a.1 b.1 ∧ orF a.1 b.1 = orF b.1 a.1 := by decide +kernel
theorem flags_ok {a b : Int} (ha : 0 ≤ a ∧ a ≤ 31) (hb : 0 ≤ b ∧ b ≤ 31) : (0 ≤ orF a b ∧ orF a b ≤ 31) ∧ (0 ≤ cutF a b ∧ cutF a b ≤ 31) ∧ cutF (orF b a) b = cutF a b ∧ orF a b = orF b a := by
  have := flags_fin ⟨a.toNat, by omega⟩ ⟨b.toNat, by omega⟩
  simp only [Int.toNat_of_nonneg ha.1, Int.toNat_of_nonneg hb.1] at this
  exact this

def setF (b : Box) (i : Nat) (m : Msg) (fl : Int) (keys : List Int) (more : List Bytes) : Box := { b with words := b.words ++ more, msgs := b.msgs.set i { m with flags := fl, keys := keys, mod := b.high + 1 }, high := b.high + 1 }
theorem flagsEnd_done {b : Box} {uid : Int} {i : Nat} (hb : BoxMay b) (hf : findM b.msgs uid = some i) (hi : i < b.msgs.length) {fl : Int} {keys : List Int} {more : List Bytes} (hfl : 0 ≤ fl ∧ fl ≤ 31)
    (hw : wordsB b.words more = true) (hk : keys.Pairwise (· < ·) ∧ ∀ k ∈ keys, 0 ≤ k ∧ k < (b.words ++ more).length) {rows : List Row} (h : flagsEnd b uid b.msgs[i] fl keys more = (0, rows)) :
    (rows = [] ∧ fl = b.msgs[i].flags ∧ keys = b.msgs[i].keys ∧ allB b rows = (0, b)) ∨ (rows = more.map wordRow ++ [flagRow uid (b.high + 1) fl keys] ∧ ¬ (fl = b.msgs[i].flags ∧ keys = b.msgs[i].keys) ∧ b.high < 1000000 ∧ (b.words ++ more).length ≤ 64 ∧ allB b rows = (0, setF b i b.msgs[i] fl keys more) ∧ BoxMay (setF b i b.msgs[i] fl keys more)) := by
  unfold flagsEnd at h
  have hh := hb.high
  split at h
  · rename_i c
    simp only [Prod.mk.injEq, true_and] at h
    subst h
    refine .inl ⟨rfl, c.1, c.2, ?_⟩
    unfold allB
    rw [if_pos (boxMay.2 hb)]; rfl
  rename_i c
  split at h
  · cases h
  rename_i c2
  split at h
  · cases h
  rename_i c3
  simp only [Prod.mk.injEq, true_and] at h
  subst h
  have hm := ((msgsMay.1 hb.msgs).all _ (List.getElem_mem hi)).2.1
  have hrun : runB b (more.map wordRow ++ [flagRow uid (b.high + 1) fl keys]) = (0, setF b i b.msgs[i] fl keys more) := by
    rw [run_words more b _ hw (by omega)]
    have hmay : mayMsg (b.words ++ more).length (flagM b.msgs[i] (flagRow uid (b.high + 1) fl keys)) = true :=
      msgMay.2 ⟨hm.uid, ⟨by show 1 ≤ b.high + 1; omega, by show b.high + 1 ≤ 1000000; omega⟩, hm.date, hm.id, hfl, keysB_iff.2 ⟨hk.1, fun k hk' => by have := hk.2 k hk'; omega⟩, hm.text⟩
    have h1 := applyB_some { b with words := b.words ++ more } (flagRow uid (b.high + 1) fl keys) (.inl rfl) (i := i) hf hi
    have h2 : oneB { b with words := b.words ++ more } i b.msgs[i] (flagRow uid (b.high + 1) fl keys) = (0, { b with words := b.words ++ more, msgs := b.msgs.set i (flagM b.msgs[i] (flagRow uid (b.high + 1) fl keys)) }) := by
      unfold oneB
      rw [if_pos (show (flagRow uid (b.high + 1) fl keys).kind = 2 from rfl)]
      exact if_pos hmay
    have h3 : applyB { b with words := b.words ++ more } (flagRow uid (b.high + 1) fl keys) = (0, setF b i b.msgs[i] fl keys more) := by
      refine h1.trans ?_
      refine (congrArg (fun x : Int × Box => if x.1 ≠ 0 ∨ (flagRow uid (b.high + 1) fl keys).kind = 5 then x else (0, { x.2 with high := max b.high (flagRow uid (b.high + 1) fl keys).mod })) h2).trans ?_
      refine (if_neg (fun q : (0 : Int) ≠ 0 ∨ (2 : Int) = 5 => q.elim (fun q => q rfl) fun q => absurd q (by decide))).trans ?_
      have : max b.high (flagRow uid (b.high + 1) fl keys).mod = b.high + 1 := by show max b.high (b.high + 1) = _; omega
      rw [this]
      rfl
    rw [runB, h3, if_pos rfl, runB]
  refine .inr ⟨rfl, c, by omega, by rw [List.length_append]; omega, ?_, (runB_may hb hrun).1⟩
  unfold allB
  rw [if_pos (boxMay.2 hb)]
  exact hrun

structure Kept (b c : Box) (i : Nat) (ks : List Int) (fl : Int) : Prop where
  may : BoxMay c
  len : c.msgs.length = b.msgs.length
  other : ∀ j, j ≠ i → c.msgs[j]? = b.msgs[j]?
  words : wordsOf c.words ks = wordsOf b.words ks
theorem findM_set {l : List Msg} {uid : Int} {i : Nat} (h : findM l uid = some i) (hi : i < l.length) {m : Msg} (hm : m.uid = l[i].uid) : findM (l.set i m) uid = some i := by
  unfold findM at h ⊢
  rw [List.findIdx?_eq_some_iff_getElem] at h ⊢
  obtain ⟨h1, h2, h3⟩ := h
  refine ⟨by simpa using hi, by simpa [hm] using h2, fun j hj => ?_⟩
  have := h3 j hj
  simp only [List.getElem_set]
  split
  · omega
  · exact this
end B
end Go.Proofs.YtmkkljbfmdngfaaGreatDoor
