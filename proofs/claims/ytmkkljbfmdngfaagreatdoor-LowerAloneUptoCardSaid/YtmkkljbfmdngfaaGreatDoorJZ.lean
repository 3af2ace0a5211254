/- Lower's laws: what walks come to: printed by wip/B/gen. No condition. -/
import Derived.Test.YtmkkljbfmdngfaaGreatDoorJY
import Derived.Test.YtmkkljbfmdngfaaGreatDoorKY
set_option linter.all false
namespace Go.Proofs.YtmkkljbfmdngfaaGreatDoor
namespace B
def HZ7 : Hint := ⟨fun f r => if r == 1000000 then (if f == 58 then [12, 27] else if f == 108 then [30] else if f == 107 then [38] else if f == 73 then [6, 27] else if f == 40 then [66] else []) else if r == 1000001 then (if f == 40 then [3000070, 3000081] else if f == 999999 then [4000032] else if f == 999999 then [4000061] else if f == 23 then [28, 79] else if f == 32 then [28] else if f == 74 then [2000117] else if f == 139 then [2000172] else if f == 33 then [7000003] else if f == 60 then [3000007] else []) else if f == 141 then (if r == 6 then [3, 1000, 1100, 1010075, 1030400] else []) else if f == 11 then (if r == 5 then [10, 99999] else if r == 8 then [12, 99999] else []) else if f == 6 then (if r == 8 then [15, 99999] else if r == 9 then [17, 99999] else []) else if f == 107 then (if r == 10 then [1000, 1080074, 1140075] else []) else if f == 146 then (if r == 2 then [7, 1100075, 1120075] else []) else if f == 999999 then (if r == 13 then [23, 9, 1010140, 1030075] else if r == 37 || r == 44 then [6] else []) else if f == 168 || f == 171 || f == 133 || f == 137 then [1100] else if f == 999999 || f == 999999 then (if r == 6 then [9, 99999] else if r == 7 then [11, 99999] else []) else [], fun f => if f == 999999 || f == 999999 || f == 999999 || f == 129 || f == 134 then some 0 else none⟩

set_option maxRecDepth 100000
theorem zt9 :okF P HZ7 9 1=true:=by kernel_rfl
theorem zt10 :okF P HZ7 10 2=true:=by kernel_rfl
theorem zvc9 (s0 : Bytes) (n1 : Int) (n2 : Int) (n3 : Int) (l4 : List D) (l5 : List D) (res : CV) (objs' : List (Nat × List CV)) : walkA P (tbF P [118,148,112,163,1000101,7000102,107500054,1072002147,75,117,139,172,138,2000035093,2000020094] [] 9) (anOf (afOf P HZ7 9) []) (afOf P HZ7 9) [CV.d (D.agg [D.str s0, D.int .i64 n1, D.int .i64 n2, D.int .i64 n3, D.slice 1 l4, D.slice 7 l5])] [] (fun rs => endE rs res objs') = ((∃ n6 : Int, ((Runs P 13 [CV.d (D.agg [D.str s0, D.int .i64 n1, D.int .i64 n2, D.int .i64 n3, D.slice 1 l4, D.slice 7 l5])] [] (CV.d (D.int .i64 n6)) []) ∧ (∃ n7 : Int, (((!decide (n6 > 0)) = true → Runs P 14 [CV.d (D.agg [D.str s0, D.int .i64 n1, D.int .i64 n2, D.int .i64 n3, D.slice 1 l4, D.slice 7 l5])] [] (CV.d (D.int .i64 n7)) []) ∧ (∀ b8 : Bool, ((decide (n6 > 0) || n7 != 0) = b8 → (((b8) = true → (∃ b9 : Bool, ((Runs P 21 [] [] (CV.d (D.bool b9)) []) ∧ EndR (CV.d (D.bool b9)) res [(1, [CV.d (D.str s0), CV.d (D.int .i64 n1), CV.d (D.int .i64 n2), CV.d (D.int .i64 n3), CV.d (D.slice 1 l4), CV.d (D.slice 7 l5)])] objs'))) ∧ ((b8) = false → (∃ s10 : Bytes, (∃ n11 : Int, (∃ n12 : Int, (∃ n13 : Int, (∃ l14 : List D, (∃ l15 : List D, (∃ n16 : Int, ((Runs P 22 [CV.d (D.int .i64 1), CV.d (D.agg [D.str s0, D.int .i64 n1, D.int .i64 n2, D.int .i64 n3, D.slice 1 l4, D.slice 7 l5])] [] (CV.tup [CV.d (D.agg [D.str s10, D.int .i64 n11, D.int .i64 n12, D.int .i64 n13, D.slice 1 l14, D.slice 7 l15]), CV.d (D.int .i64 n16)]) []) ∧ (∃ s17 : Bytes, (∃ n18 : Int, (∃ n19 : Int, (∃ n20 : Int, (∃ l21 : List D, (∃ l22 : List D, (∃ n23 : Int, ((Runs P 22 [CV.d (D.int .i64 2), CV.d (D.agg [D.str s0, D.int .i64 n1, D.int .i64 n2, D.int .i64 n3, D.slice 1 l4, D.slice 7 l5])] [] (CV.tup [CV.d (D.agg [D.str s17, D.int .i64 n18, D.int .i64 n19, D.int .i64 n20, D.slice 1 l21, D.slice 7 l22]), CV.d (D.int .i64 n23)]) []) ∧ (∃ s24 : Bytes, (∃ n25 : Int, (∃ n26 : Int, (∃ n27 : Int, (∃ l28 : List D, (∃ l29 : List D, (∃ n30 : Int, ((Runs P 22 [CV.d (D.int .i64 1), CV.d (D.agg [D.str s17, D.int .i64 n18, D.int .i64 n19, D.int .i64 n20, D.slice 1 l21, D.slice 7 l22])] [] (CV.tup [CV.d (D.agg [D.str s24, D.int .i64 n25, D.int .i64 n26, D.int .i64 n27, D.slice 1 l28, D.slice 7 l29]), CV.d (D.int .i64 n30)]) []) ∧ (∃ s31 : Bytes, (∃ n32 : Int, (∃ n33 : Int, (∃ n34 : Int, (∃ l35 : List D, (∃ l36 : List D, (∃ n37 : Int, ((Runs P 22 [CV.d (D.int .i64 3), CV.d (D.agg [D.str s0, D.int .i64 n1, D.int .i64 n2, D.int .i64 n3, D.slice 1 l4, D.slice 7 l5])] [] (CV.tup [CV.d (D.agg [D.str s31, D.int .i64 n32, D.int .i64 n33, D.int .i64 n34, D.slice 1 l35, D.slice 7 l36]), CV.d (D.int .i64 n37)]) []) ∧ (∀ b38 : Bool, ((n16 == 0 && n23 == 0) = b38 → (∀ b39 : Bool, ((b38 && n30 == 0) = b39 → (∀ b40 : Bool, ((b39 && n37 == 0) = b40 → (∃ b41 : Bool, ((b40 = true → Runs P 18 [CV.d (D.agg [D.str s10, D.int .i64 n11, D.int .i64 n12, D.int .i64 n13, D.slice 1 l14, D.slice 7 l15]), CV.d (D.agg [D.str s24, D.int .i64 n25, D.int .i64 n26, D.int .i64 n27, D.slice 1 l28, D.slice 7 l29])] [] (CV.d (D.bool b41)) []) ∧ (∀ b42 : Bool, ((b40 && b41) = b42 → (∃ b43 : Bool, ((b42 = true → Runs P 18 [CV.d (D.agg [D.str s31, D.int .i64 n32, D.int .i64 n33, D.int .i64 n34, D.slice 1 l35, D.slice 7 l36]), CV.d (D.agg [D.str s0, D.int .i64 n1, D.int .i64 n2, D.int .i64 n3, D.slice 1 l4, D.slice 7 l5])] [] (CV.d (D.bool b43)) []) ∧ (∀ b44 : Bool, ((b42 && b43) = b44 → (∃ b45 : Bool, ((b44 = true → Runs P 21 [] [] (CV.d (D.bool b45)) []) ∧ (∀ b46 : Bool, ((b44 && b45) = b46 → EndR (CV.d (D.bool b46)) res [(1, [CV.d (D.str s0), CV.d (D.int .i64 n1), CV.d (D.int .i64 n2), CV.d (D.int .i64 n3), CV.d (D.slice 1 l4), CV.d (D.slice 7 l5)]), (3, [CV.d (D.str s10), CV.d (D.int .i64 n11), CV.d (D.int .i64 n12), CV.d (D.int .i64 n13), CV.d (D.slice 1 l14), CV.d (D.slice 7 l15)]), (5, [CV.d (D.str s17), CV.d (D.int .i64 n18), CV.d (D.int .i64 n19), CV.d (D.int .i64 n20), CV.d (D.slice 1 l21), CV.d (D.slice 7 l22)]), (7, [CV.d (D.str s24), CV.d (D.int .i64 n25), CV.d (D.int .i64 n26), CV.d (D.int .i64 n27), CV.d (D.slice 1 l28), CV.d (D.slice 7 l29)]), (9, [CV.d (D.str s31), CV.d (D.int .i64 n32), CV.d (D.int .i64 n33), CV.d (D.int .i64 n34), CV.d (D.slice 1 l35), CV.d (D.slice 7 l36)])] objs'))))))))))))))))))))))))))))))))))))))))))))))))))))))))))) := by kernel_rfl
theorem zvc10 (n0 : Int) (s1 : Bytes) (n2 : Int) (n3 : Int) (n4 : Int) (l5 : List D) (l6 : List D) (res : CV) (objs' : List (Nat × List CV)) : walkA P (tbF P [118,148,112,163,1000101,7000102,107500054,1072002147,75,117,139,172,138,2000035093,2000020094] [] 10) (anOf (afOf P HZ7 10) []) (afOf P HZ7 10) [CV.d (D.int .i64 n0), CV.d (D.agg [D.str s1, D.int .i64 n2, D.int .i64 n3, D.int .i64 n4, D.slice 1 l5, D.slice 7 l6])] [] (fun rs => endE rs res objs') = ((∃ n7 : Int, ((Runs P 13 [CV.d (D.agg [D.str s1, D.int .i64 n2, D.int .i64 n3, D.int .i64 n4, D.slice 1 l5, D.slice 7 l6])] [] (CV.d (D.int .i64 n7)) []) ∧ (∃ n8 : Int, (((!decide (n7 > 0)) = true → Runs P 14 [CV.d (D.agg [D.str s1, D.int .i64 n2, D.int .i64 n3, D.int .i64 n4, D.slice 1 l5, D.slice 7 l6])] [] (CV.d (D.int .i64 n8)) []) ∧ (∀ b9 : Bool, ((decide (n7 > 0) || n8 != 0) = b9 → (((b9) = true → (∃ b10 : Bool, ((Runs P 21 [] [] (CV.d (D.bool b10)) []) ∧ EndR (CV.d (D.bool b10)) res [(3, [CV.d (D.str s1), CV.d (D.int .i64 n2), CV.d (D.int .i64 n3), CV.d (D.int .i64 n4), CV.d (D.slice 1 l5), CV.d (D.slice 7 l6)])] objs'))) ∧ ((b9) = false → (∀ n11 : Int, (Go.IntKind.wrap Go.IntKind.u64 n0 = n11 → (((3 : Int) ≠ (0 : Int)) ∧ (∀ n12 : Int, (Int.tmod n11 3 = n12 → (∀ n13 : Int, (Go.IntKind.wrap Go.IntKind.i64 n12 = n13 → (∀ n14 : Int, (Go.IntKind.wrap Go.IntKind.i64 (1 + n13) = n14 → (∃ s15 : Bytes, (∃ n16 : Int, (∃ n17 : Int, (∃ n18 : Int, (∃ l19 : List D, (∃ l20 : List D, (∃ n21 : Int, ((Runs P 22 [CV.d (D.int .i64 n14), CV.d (D.agg [D.str s1, D.int .i64 n2, D.int .i64 n3, D.int .i64 n4, D.slice 1 l5, D.slice 7 l6])] [] (CV.tup [CV.d (D.agg [D.str s15, D.int .i64 n16, D.int .i64 n17, D.int .i64 n18, D.slice 1 l19, D.slice 7 l20]), CV.d (D.int .i64 n21)]) []) ∧ (∃ s22 : Bytes, (∃ n23 : Int, (∃ n24 : Int, (∃ n25 : Int, (∃ l26 : List D, (∃ l27 : List D, (∃ n28 : Int, ((Runs P 22 [CV.d (D.int .i64 n14), CV.d (D.agg [D.str s15, D.int .i64 n16, D.int .i64 n17, D.int .i64 n18, D.slice 1 l19, D.slice 7 l20])] [] (CV.tup [CV.d (D.agg [D.str s22, D.int .i64 n23, D.int .i64 n24, D.int .i64 n25, D.slice 1 l26, D.slice 7 l27]), CV.d (D.int .i64 n28)]) []) ∧ (∃ l29 : List D, (∃ n30 : Int, ((Runs P 24 [CV.d (D.int .i64 1), CV.d (D.agg [D.str s1, D.int .i64 n2, D.int .i64 n3, D.int .i64 n4, D.slice 1 l5, D.slice 7 l6])] [] (CV.tup [CV.d (D.slice 3 l29), CV.d (D.int .i64 n30)]) []) ∧ (∃ l31 : List D, (∃ n32 : Int, ((Runs P 24 [CV.d (D.int .i64 2), CV.d (D.agg [D.str s1, D.int .i64 n2, D.int .i64 n3, D.int .i64 n4, D.slice 1 l5, D.slice 7 l6])] [] (CV.tup [CV.d (D.slice 3 l31), CV.d (D.int .i64 n32)]) []) ∧ (∃ l33 : List D, (∃ l34 : List D, (∃ n35 : Int, ((Runs P 16 [CV.d (D.int .i64 n14), CV.d (D.agg [D.str s1, D.int .i64 n2, D.int .i64 n3, D.int .i64 n4, D.slice 1 l5, D.slice 7 l6])] [] (CV.tup [CV.d (D.slice 1 l33), CV.d (D.slice 11 l34), CV.d (D.int .i64 n35)]) []) ∧ (∀ b36 : Bool, ((n21 != 0 || n28 != 0) = b36 → (∃ b37 : Bool, (((!b36) = true → Runs P 18 [CV.d (D.agg [D.str s15, D.int .i64 n16, D.int .i64 n17, D.int .i64 n18, D.slice 1 l19, D.slice 7 l20]), CV.d (D.agg [D.str s22, D.int .i64 n23, D.int .i64 n24, D.int .i64 n25, D.slice 1 l26, D.slice 7 l27])] [] (CV.d (D.bool b37)) []) ∧ (∀ b38 : Bool, ((b36 || !b37) = b38 → (∀ b39 : Bool, ((b38 || decide (nI (List.length l29) < nI (List.length l31))) = b39 → (((b39) = true → EndR (CV.d (D.bool false)) res [(3, [CV.d (D.str s1), CV.d (D.int .i64 n2), CV.d (D.int .i64 n3), CV.d (D.int .i64 n4), CV.d (D.slice 1 l5), CV.d (D.slice 7 l6)]), (5, [CV.d (D.str s15), CV.d (D.int .i64 n16), CV.d (D.int .i64 n17), CV.d (D.int .i64 n18), CV.d (D.slice 1 l19), CV.d (D.slice 7 l20)]), (7, [CV.d (D.str s22), CV.d (D.int .i64 n23), CV.d (D.int .i64 n24), CV.d (D.int .i64 n25), CV.d (D.slice 1 l26), CV.d (D.slice 7 l27)])] objs') ∧ ((b39) = false → (((n35 != 0) = true → (∃ b40 : Bool, (((n35 == 4) = true → Runs P 21 [] [] (CV.d (D.bool b40)) []) ∧ (∀ b41 : Bool, ((n35 == 4 && b40) = b41 → EndR (CV.d (D.bool b41)) res [(3, [CV.d (D.str s1), CV.d (D.int .i64 n2), CV.d (D.int .i64 n3), CV.d (D.int .i64 n4), CV.d (D.slice 1 l5), CV.d (D.slice 7 l6)]), (5, [CV.d (D.str s15), CV.d (D.int .i64 n16), CV.d (D.int .i64 n17), CV.d (D.int .i64 n18), CV.d (D.slice 1 l19), CV.d (D.slice 7 l20)]), (7, [CV.d (D.str s22), CV.d (D.int .i64 n23), CV.d (D.int .i64 n24), CV.d (D.int .i64 n25), CV.d (D.slice 1 l26), CV.d (D.slice 7 l27)])] objs'))))) ∧ ((n35 != 0) = false → (∃ s42 : Bytes, (∃ n43 : Int, (∃ n44 : Int, (∃ n45 : Int, (∃ l46 : List D, (∃ l47 : List D, (∃ n48 : Int, ((Runs P 29 [CV.d (D.slice 1 l33), CV.d (D.str s1)] [] (CV.tup [CV.d (D.agg [D.str s42, D.int .i64 n43, D.int .i64 n44, D.int .i64 n45, D.slice 1 l46, D.slice 7 l47]), CV.d (D.int .i64 n48)]) []) ∧ (∃ b49 : Bool, (((n48 == 0) = true → Runs P 18 [CV.d (D.agg [D.str s42, D.int .i64 n43, D.int .i64 n44, D.int .i64 n45, D.slice 1 l46, D.slice 7 l47]), CV.d (D.agg [D.str s15, D.int .i64 n16, D.int .i64 n17, D.int .i64 n18, D.slice 1 l19, D.slice 7 l20])] [] (CV.d (D.bool b49)) []) ∧ (∀ b50 : Bool, ((n48 == 0 && b49) = b50 → (∃ b51 : Bool, ((b50 = true → Runs P 21 [] [] (CV.d (D.bool b51)) []) ∧ (∀ b52 : Bool, ((b50 && b51) = b52 → EndR (CV.d (D.bool b52)) res [(3, [CV.d (D.str s1), CV.d (D.int .i64 n2), CV.d (D.int .i64 n3), CV.d (D.int .i64 n4), CV.d (D.slice 1 l5), CV.d (D.slice 7 l6)]), (5, [CV.d (D.str s15), CV.d (D.int .i64 n16), CV.d (D.int .i64 n17), CV.d (D.int .i64 n18), CV.d (D.slice 1 l19), CV.d (D.slice 7 l20)]), (7, [CV.d (D.str s22), CV.d (D.int .i64 n23), CV.d (D.int .i64 n24), CV.d (D.int .i64 n25), CV.d (D.slice 1 l26), CV.d (D.slice 7 l27)]), (16, [CV.d (D.str s42), CV.d (D.int .i64 n43), CV.d (D.int .i64 n44), CV.d (D.int .i64 n45), CV.d (D.slice 1 l46), CV.d (D.slice 7 l47)])] objs')))))))))))))))))))))))))))))))))))))))))))))))))))))))))))))))))))))))) := by kernel_rfl
end B
end Go.Proofs.YtmkkljbfmdngfaaGreatDoor

namespace Go.Proofs.YtmkkljbfmdngfaaGreatDoor
namespace B
open Go.RowKit

theorem itoa7 : Lib.itoa 7 = [55] := by kernel_rfl
theorem itoa1 : Lib.itoa 1 = [49] := by kernel_rfl
theorem lossA : lossR 1 boxA = [⟨7, 0, [55]⟩, ⟨5, 1, [120]⟩, ⟨6, 1, [55]⟩] := by
  unfold lossR
  rw [restA]
  have e1 : lossOf 1 boxA.words (highRow 7) = [⟨7, 0, [55]⟩] := by
    unfold lossOf textL highRow
    simp only
    rw [if_neg (by decide), if_pos (by decide), if_neg (by decide), itoa7]
  have e2 : lossOf 1 boxA.words (nameRow 1 [120]) = [⟨5, 1, [120]⟩] := by
    unfold lossOf textL nameRow
    simp only
    rw [if_neg (by decide), if_neg (by decide), if_neg (by decide)]
  have e3 : lossOf 1 boxA.words (modRow 1 7) = [⟨6, 1, [55]⟩] := by
    unfold lossOf textL modRow
    simp only
    rw [if_neg (by decide), if_pos (by decide), if_neg (by decide), itoa7]
  simp only [List.flatMap_cons, List.flatMap_nil, e1, e2, e3]; rfl
theorem lossA3 : lossR 3 boxA = [] := rfl
theorem y21 : Runs P 21 [] [] (.d (.bool true)) [] := by
  refine runs_walkZ zt21 (zvc21 _ _) rfl (by simp) ?_
  have h1 := y24 (v := 1) (.inl rfl) boxA_may (fun r hr h2 => by
    rw [restA] at hr
    simp only [List.mem_cons, List.not_mem_nil, or_false] at hr
    rcases hr with rfl | rfl | rfl <;> exact absurd h2 (by decide))
  have h3 := y24 (v := 3) (.inr (.inr rfl)) boxA_may (fun r hr h2 => by
    rw [show restR 3 boxA = [] from rfl] at hr; cases hr)
  rw [lossA] at h1
  rw [lossA3] at h3
  have t1 := y27 ⟨7, 0, [55]⟩ (by decide) (by decide) (by decide)
  have t2 := y27 ⟨5, 1, [120]⟩ (by decide) (by decide) (by decide)
  have t3 := y27 ⟨6, 1, [55]⟩ (by decide) (by decide) (by decide)
  rw [show lossT ⟨7, 0, [55]⟩ = [104, 105, 103, 104, 32, 55] from rfl] at t1
  rw [show lossT ⟨5, 1, [120]⟩ = [110, 97, 109, 101, 32, 49, 32, 120] from by
    unfold lossT sp4; simp only; rw [if_neg (by decide), if_neg (by decide), if_pos (by decide), itoa1]; rfl] at t2
  rw [show lossT ⟨6, 1, [55]⟩ = [109, 111, 100, 32, 49, 32, 55] from by
    unfold lossT sp4; simp only; rw [if_neg (by decide), if_neg (by decide), if_neg (by decide), if_pos (by decide), itoa1]; rfl] at t3
  refine ⟨_, _, h1, _, _, h3, ?_⟩
  rintro _ rfl _ rfl _ rfl
  refine ⟨fun _ => ⟨by decide, by decide⟩, _, _, _, fun _ => rfl, _, fun _ => t1, ?_⟩
  rintro _ rfl
  refine ⟨fun _ => ⟨by decide, by decide⟩, _, _, _, fun _ => rfl, _, fun _ => t2, ?_⟩
  rintro _ rfl
  refine ⟨fun _ => ⟨by decide, by decide⟩, _, _, _, fun _ => rfl, _, fun _ => t3, ?_⟩
  rintro _ rfl
  exact endB rfl
theorem z22m {v : Int} (hv : v = 1 ∨ v = 2 ∨ v = 3) {b : Box} (hM : BoxMay b) : Runs P 22 [.d (iD v), .d b.d] [] (.tup [.d (sayB v b).d, .d (iD 0)]) [] := by
  have h := z22 v b (BoxOk.of hM)
  rw [show projV v b = (sayB v b, 0) from if_pos ⟨by omega, boxMay.2 hM⟩] at h
  exact h
theorem z9 (b : Box) (hb : BoxIn b) : Runs P 9 [.d b.d] [] (.d (.bool true)) [] := by
  refine runs_walkZ zt9 (zvc9 _ _ _ _ _ _ _ _) rfl (by simp) ?_
  refine ⟨_, r15 b hb.sz, _, fun _ => r16 b hb.ok, ?_⟩
  rintro b8 h8
  refine ⟨fun _ => ⟨_, y21, endB rfl⟩, fun h => ?_⟩
  rw [h] at h8
  have h0 : mayBox b = 0 := by
    simp only [Bool.or_eq_false_iff, bne_eq_false_iff_eq] at h8
    exact h8.2
  have hM := boxMay.1 h0
  have hM2 := say_may 2 hM
  have e := say_older b
  have h1 := z22m (v := 1) (.inl rfl) hM
  have h2 := z22m (v := 2) (.inr (.inl rfl)) hM
  have h12 := z22m (v := 1) (.inl rfl) hM2
  have h3 := z22m (v := 3) (.inr (.inr rfl)) hM
  rw [e] at h12
  rw [show sayB 3 b = b from rfl] at h3
  have s1 := r20 (sayB 1 b) (sayB 1 b) (BoxOk.of (say_may 1 hM))
  have s2 := r20 b b (BoxOk.of hM)
  rw [sameB_refl] at s1 s2
  refine ⟨_, _, _, _, _, _, _, h1, _, _, _, _, _, _, _, h2, _, _, _, _, _, _, _, h12, _, _, _, _, _, _, _, h3, ?_⟩
  rintro _ rfl _ rfl _ rfl
  refine ⟨true, fun _ => s1, ?_⟩
  rintro _ rfl
  refine ⟨true, fun _ => s2, ?_⟩
  rintro _ rfl
  refine ⟨true, fun _ => y21, ?_⟩
  rintro _ rfl
  exact endB rfl
end B
end Go.Proofs.YtmkkljbfmdngfaaGreatDoor

namespace Go.Proofs.YtmkkljbfmdngfaaGreatDoor
namespace B
open Go.RowKit

theorem joinS_cons (s : Bytes) : ∀ r : List Bytes, joinS (s :: r) = s ++ r.flatMap fun x => [32] ++ x
  | [] => by simp [joinS]
  | t :: r => by
    rw [joinS, joinS_cons t r, List.flatMap_cons]
    simp [List.append_assoc]
    all_goals intro h; cases h
theorem joinS_eq (l : List Bytes) : joinS l = joinB [32] l := by
  cases l with
  | nil => rfl
  | cons s r => exact joinS_cons s r
theorem wordsK_eq (ws : List Bytes) : ∀ ks : List Int, wordsK ws ks = (ks.filter fun k => decide (0 ≤ k) && decide (k < (ws.length : Int))).map fun k => ws.getD k.toNat []
  | [] => rfl
  | k :: r => by
    have ih := wordsK_eq ws r
    unfold wordsK at ih ⊢
    rw [List.filterMap_cons, List.filter_cons]
    by_cases h0 : 0 ≤ k
    · by_cases h1 : k < (ws.length : Int)
      · have hk : k.toNat < ws.length := by omega
        rw [if_pos h0, List.getElem?_eq_getElem hk, decide_eq_true h0, decide_eq_true h1]
        simp only [Bool.and_self, if_true, List.map_cons]
        rw [ih]
        congr 1
        simp [List.getD_eq_getElem?_getD, hk]
      · have hk : ws.length ≤ k.toNat := by omega
        rw [if_pos h0, List.getElem?_eq_none hk, decide_eq_true h0, decide_eq_false h1]
        simp only [Bool.and_false, Bool.false_eq_true, if_false]
        exact ih
    · rw [if_neg h0, decide_eq_false h0]
      simp only [Bool.false_and, Bool.false_eq_true, if_false]
      exact ih
theorem keep_late (ks : List Int) : keepF pb ks = lateK ks := by
  unfold keepF lateK
  congr 1
  funext k
  unfold pb
  by_cases h : k < 32
  · rw [decide_eq_true h, decide_eq_false (by omega)]; rfl
  · rw [decide_eq_false h, decide_eq_true (by omega)]; rfl
theorem y60 {b : Box} (hM : BoxMay b) (ks : List Int) (hk : ks.length ≤ 64) : Runs P 60 [.d b.d, .d (.slice 1 (ints ks))] [] (.d (.str (lateS b.words ks))) [] := by
  refine runs_walkZ zt60 (zvc60 b.id b.valid b.next b.high (strs b.words) (b.msgs.map Msg.d) (ints ks) _ _) rfl (by simp) ?_
  have hw := hM.nw
  have h85 := r82R 6 (ints ks) (by rw [ints_len]; omega)
  have h55 := (y55b ks (by omega)).swap 2001 6
  refine ⟨_, h85, _, _, h55, ?_⟩
  have hl : (lateK ks).length ≤ ks.length := List.length_filter_le _ _
  have htake : List.take (keepF pb ks).length (ints (shutF pb ks)) = ints (lateK ks) := by
    rw [← keep_late]
    unfold shutF ints
    rw [List.map_append, List.take_append_of_le_length (by simp), List.take_of_length_le (by simp)]
  rw [htake]
  have h39 := z39 b ⟨0, 0, 0, [], 0, lateK ks, []⟩ (by omega) (by simp only; omega)
  rw [← wordsK_eq] at h39
  have hwl : (wordsK b.words (lateK ks)).length ≤ 64 := by
    rw [wordsK_eq, List.length_map]
    have := List.length_filter_le (fun k => decide (0 ≤ k) && decide (k < (b.words.length : Int))) (lateK ks)
    omega
  have hsz : sizes (wordsK b.words (lateK ks)) ≤ 24 * 64 := by
    have hall : ∀ w ∈ wordsK b.words (lateK ks), w.length ≤ 24 := fun w hw' => by
      unfold wordsK at hw'
      obtain ⟨k, _, hk⟩ := List.mem_filterMap.1 hw'
      split at hk
      · exact (atom_len ((wordsB_iff.1 hM.words).1 w (List.mem_of_getElem? hk)).1).2
      · cases hk
    have gen : ∀ l : List Bytes, (∀ w ∈ l, w.length ≤ 24) → sizes l ≤ 24 * l.length := fun l => by
      induction l with
      | nil => intro _; simp [sizes]
      | cons x r ih =>
        intro h
        have h1 := h x (by simp)
        have h2 := ih fun w hw => h w (by simp [hw])
        simp only [sizes, List.map_cons, List.sum_cons, List.length_cons] at *
        omega
    have := gen _ hall
    omega
  have h105 := k105 [32] (wordsK b.words (lateK ks)) (by decide) (by simp only [List.length_cons, List.length_nil]; omega)
  refine ⟨by rw [ints_len]; unfold shutF; rw [List.length_append]; omega, _, h39, _, h105, endS ?_⟩
  unfold lateS
  rw [joinS_eq]
theorem rest_keys {v : Int} {b : Box} (hM : BoxMay b) : ∀ r ∈ restR v b, r.kind = 2 → r.msg.keys.length ≤ 64 := by
  intro r hr h2
  have hw := hM.nw
  unfold restR at hr
  split at hr
  · simp at hr
  · rcases List.mem_append.1 hr with h | h
    · split at h
      · simp at h; subst h; exact absurd (show (7 : Int) = 2 from h2) (by decide)
      · simp at h
    · rcases List.mem_append.1 h with h | h
      · obtain ⟨w, _, rfl⟩ := List.mem_map.1 h
        exact absurd (show (4 : Int) = 2 from h2) (by decide)
      · obtain ⟨m, hm, h⟩ := List.mem_flatMap.1 h
        have hmm := ((msgsMay.1 hM.msgs).all m hm).2.1.keyLen
        unfold leftR at h
        rcases List.mem_append.1 h with h | h
        · split at h
          · simp at h; subst h
            show m.keys.length ≤ 64
            omega
          · simp at h
        · rcases List.mem_append.1 h with h | h
          · split at h
            · simp at h
            · simp at h; subst h; exact absurd (show (5 : Int) = 2 from h2) (by decide)
          · split at h
            · simp at h; subst h; exact absurd (show (6 : Int) = 2 from h2) (by decide)
            · simp at h
theorem y24m {v : Int} (hv : v = 1 ∨ v = 2 ∨ v = 3) {b : Box} (hM : BoxMay b) : Runs P 24 [.d (iD v), .d b.d] [] (.tup [.d (.slice 3 ((lossR v b).map Loss.d)), .d (iD 0)]) [] :=
  y24 hv hM fun r hr h2 => y60 hM r.msg.keys (rest_keys hM r hr h2)
def frmN (n : Int) : Int := 1 + (n % 18446744073709551616) % 3
theorem frmN_or (n : Int) : frmN n = 1 ∨ frmN n = 2 ∨ frmN n = 3 := by unfold frmN; omega
theorem z10 (n : Int) (b : Box) (hb : BoxIn b) : Runs P 10 [.d (iD n), .d b.d] [] (.d (.bool true)) [] := by
  refine runs_walkZ zt10 (zvc10 n b.id b.valid b.next b.high (strs b.words) (b.msgs.map Msg.d) _ _) rfl (by simp) ?_
  refine ⟨_, r15 b hb.sz, _, fun _ => r16 b hb.ok, ?_⟩
  rintro b8 h8
  refine ⟨fun _ => ⟨_, y21, endB rfl⟩, fun h => ?_⟩
  rw [h] at h8
  have h0 : mayBox b = 0 := by
    simp only [Bool.or_eq_false_iff, bne_eq_false_iff_eq] at h8
    exact h8.2
  have hM := boxMay.1 h0
  rintro _ rfl
  refine ⟨by decide, ?_⟩
  rintro _ rfl _ rfl _ rfl
  have ef : Go.IntKind.wrap Go.IntKind.i64 (1 + Go.IntKind.wrap Go.IntKind.i64 (Int.tmod (Go.IntKind.wrap Go.IntKind.u64 n) 3)) = frmN n := by
    unfold frmN
    rw [WU64, Int.tmod_eq_emod_of_nonneg (by omega), W64 (n := n % 18446744073709551616 % 3) (by omega) (by omega), W64 (by omega) (by omega)]
  rw [ef]
  have hv := frmN_or n
  generalize frmN n = v at hv ⊢
  have hMp := say_may v hM
  have h1 := z22m hv hM
  have h2 := z22m hv hMp
  rw [say_say hv] at h2
  have s1 := r20 (sayB v b) (sayB v b) (BoxOk.of hMp)
  rw [sameB_refl] at s1
  have hpl := imgB_len v hM
  have hp := z29 (imgB v b) b.id (by have := hM.id.2; omega) (by omega)
  rw [parse_img hv hM, resP_eq] at hp
  refine ⟨_, _, _, _, _, _, _, h1, _, _, _, _, _, _, _, h2, _, _, y24m (.inl rfl) hM, _, _, y24m (.inr (.inl rfl)) hM, _, _, _, z16m hv hM, ?_⟩
  rintro _ rfl
  refine ⟨true, fun _ => s1, ?_⟩
  rintro _ rfl
  have hm := loss_more b
  have hlt : decide (nI (List.length ((lossR 1 b).map Loss.d)) < nI (List.length ((lossR 2 b).map Loss.d))) = false := decide_eq_false (by simp only [List.length_map, nI]; omega)
  rw [hlt]
  rintro _ rfl
  refine ⟨fun h => absurd h (by decide), fun _ => ⟨fun h => absurd h (by decide), fun _ => ?_⟩⟩
  refine ⟨_, _, _, _, _, _, _, hp, true, fun _ => s1, ?_⟩
  rintro _ rfl
  refine ⟨true, fun _ => y21, ?_⟩
  rintro _ rfl
  exact endB rfl
end B
end Go.Proofs.YtmkkljbfmdngfaaGreatDoor
