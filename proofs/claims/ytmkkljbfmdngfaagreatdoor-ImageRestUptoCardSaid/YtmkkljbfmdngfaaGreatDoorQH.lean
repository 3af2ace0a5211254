/- RowKeeps: abstract texts and what their walks come to: printed by wip/B/gen. No condition. -/
import Derived.Test.YtmkkljbfmdngfaaGreatDoorQG
set_option linter.all false
namespace Go.Proofs.YtmkkljbfmdngfaaGreatDoor
namespace B
set_option maxRecDepth 100000
end B
end Go.Proofs.YtmkkljbfmdngfaaGreatDoor

namespace Go.Proofs.YtmkkljbfmdngfaaGreatDoor
namespace B
open Go.RowKit

end B
end Go.Proofs.YtmkkljbfmdngfaaGreatDoor

namespace Go.Proofs.YtmkkljbfmdngfaaGreatDoor
namespace B
set_option maxRecDepth 100000
theorem t44 :okF P HR 20 2=true:=by kernel_rfl
theorem t97 :okF P HR 53 2=true:=by kernel_rfl
theorem vc97 (n0 : Int) (n1 : Int) (n2 : Int) (n3 : Int) (n4 : Int) (n5 : Int) (s6 : Bytes) (n7 : Int) (l8 : List D) (s9 : Bytes) (s10 : Bytes) (n11 : Int) (n12 : Int) (n13 : Int) (n14 : Int) (n15 : Int) (n16 : Int) (s17 : Bytes) (n18 : Int) (l19 : List D) (s20 : Bytes) (s21 : Bytes) (res : CV) (objs' : List (Nat × List CV)) : walkA P (tbF P [163,148,112,129,134,118,1000101,7000102,107500054,1072002147,75,117] [] 53) (anOf (afOf P HR 53) []) (afOf P HR 53) [CV.d (D.agg [D.int .i64 n0, D.int .i64 n1, D.int .i64 n2, D.int .i64 n3, D.int .i64 n4, D.int .i64 n5, D.str s6, D.int .i64 n7, D.slice 1 l8, D.str s9, D.str s10]), CV.d (D.agg [D.int .i64 n11, D.int .i64 n12, D.int .i64 n13, D.int .i64 n14, D.int .i64 n15, D.int .i64 n16, D.str s17, D.int .i64 n18, D.slice 1 l19, D.str s20, D.str s21])] [] (fun rs => endE rs res objs') = ((∀ b22 : Bool, ((n0 == n11 && n1 == n12) = b22 → (∀ b23 : Bool, ((b22 && n2 == n13) = b23 → (∀ b24 : Bool, ((b23 && s10 == s21) = b24 → (∃ b25 : Bool, ((b24 = true → Runs P 49 [CV.d (D.agg [D.int .i64 n3, D.int .i64 n4, D.int .i64 n5, D.str s6, D.int .i64 n7, D.slice 1 l8, D.str s9]), CV.d (D.agg [D.int .i64 n14, D.int .i64 n15, D.int .i64 n16, D.str s17, D.int .i64 n18, D.slice 1 l19, D.str s20])] [] (CV.d (D.bool b25)) []) ∧ (∀ b26 : Bool, ((b24 && b25) = b26 → EndR (CV.d (D.bool b26)) res [(2, [CV.d (D.int .i64 n0), CV.d (D.int .i64 n1), CV.d (D.int .i64 n2), CV.d (D.int .i64 n3), CV.d (D.int .i64 n4), CV.d (D.int .i64 n5), CV.d (D.str s6), CV.d (D.int .i64 n7), CV.d (D.slice 1 l8), CV.d (D.str s9), CV.d (D.str s10)]), (3, [CV.d (D.int .i64 n11), CV.d (D.int .i64 n12), CV.d (D.int .i64 n13), CV.d (D.int .i64 n14), CV.d (D.int .i64 n15), CV.d (D.int .i64 n16), CV.d (D.str s17), CV.d (D.int .i64 n18), CV.d (D.slice 1 l19), CV.d (D.str s20), CV.d (D.str s21)])] objs'))))))))))) := by kernel_rfl
theorem vc44 (l0 : List D) (l1 : List D) (res : CV) (objs' : List (Nat × List CV)) : walkA P (tbF P [163,148,112,129,134,118,1000101,7000102,107500054,1072002147,75,117] [] 20) (anOf (afOf P HR 20) []) (afOf P HR 20) [CV.d (D.slice 11 l0), CV.d (D.slice 11 l1)] [] (fun rs => endE rs res objs') = ((((nI (List.length l0) != nI (List.length l1)) = true → EndR (CV.d (D.bool false)) res [] objs') ∧ ((nI (List.length l0) != nI (List.length l1)) = false → (∃ I2 : (Int → (Nat → Prop)), ((∃ k3 : Nat, I2 0 k3) ∧ (∀ n4 : Int, (∀ k5 : Nat, (I2 n4 k5 → (((decide (n4 < nI (List.length l0))) = true → ((0 ≤ n4 ∧ n4 < nI (List.length l0)) ∧ (∃ n6 : Int, (∃ n7 : Int, (∃ n8 : Int, (∃ n9 : Int, (∃ n10 : Int, (∃ n11 : Int, (∃ s12 : Bytes, (∃ n13 : Int, (∃ l14 : List D, (∃ s15 : Bytes, (∃ s16 : Bytes, ((D.cells (List.getD l0 (Int.toNat n4) D.nilp) = [D.int .i64 n6, D.int .i64 n7, D.int .i64 n8, D.int .i64 n9, D.int .i64 n10, D.int .i64 n11, D.str s12, D.int .i64 n13, D.slice 1 l14, D.str s15, D.str s16]) ∧ ((0 ≤ n4 ∧ n4 < nI (List.length l1)) ∧ (∃ n17 : Int, (∃ n18 : Int, (∃ n19 : Int, (∃ n20 : Int, (∃ n21 : Int, (∃ n22 : Int, (∃ s23 : Bytes, (∃ n24 : Int, (∃ l25 : List D, (∃ s26 : Bytes, (∃ s27 : Bytes, ((D.cells (List.getD l1 (Int.toNat n4) D.nilp) = [D.int .i64 n17, D.int .i64 n18, D.int .i64 n19, D.int .i64 n20, D.int .i64 n21, D.int .i64 n22, D.str s23, D.int .i64 n24, D.slice 1 l25, D.str s26, D.str s27]) ∧ (∃ b28 : Bool, ((Runs P 53 [CV.d (D.agg [D.int .i64 n6, D.int .i64 n7, D.int .i64 n8, D.int .i64 n9, D.int .i64 n10, D.int .i64 n11, D.str s12, D.int .i64 n13, D.slice 1 l14, D.str s15, D.str s16]), CV.d (D.agg [D.int .i64 n17, D.int .i64 n18, D.int .i64 n19, D.int .i64 n20, D.int .i64 n21, D.int .i64 n22, D.str s23, D.int .i64 n24, D.slice 1 l25, D.str s26, D.str s27])] [] (CV.d (D.bool b28)) []) ∧ (((!b28) = true → EndR (CV.d (D.bool false)) res [] objs') ∧ ((!b28) = false → (∀ n29 : Int, (Go.IntKind.wrap Go.IntKind.i64 (n4 + 1) = n29 → (∃ k30 : Nat, ((k30 < k5) ∧ I2 n29 k30))))))))))))))))))))))))))))))))))) ∧ ((decide (n4 < nI (List.length l0))) = false → EndR (CV.d (D.bool true)) res [] objs')))))))))) := by kernel_rfl
end B
end Go.Proofs.YtmkkljbfmdngfaaGreatDoor

namespace Go.Proofs.YtmkkljbfmdngfaaGreatDoor
namespace B
open Go.RowKit

def sameR (a b : Row) : Bool := (((a.kind == b.kind && a.uid == b.uid) && a.mod == b.mod) && a.text == b.text) && sameM a.msg b.msg
theorem sameR_iff {a b : Row} : sameR a b = true ↔ a = b := by
  cases a; cases b
  unfold sameR
  simp only [Bool.and_eq_true, beq_iff_eq, sameM_iff, Row.mk.injEq]
  constructor
  · rintro ⟨⟨⟨⟨rfl, rfl⟩, rfl⟩, rfl⟩, rfl⟩; simp
  · rintro ⟨rfl, rfl, rfl, rfl, rfl⟩; simp
theorem r97 (a b : Row) (ha : a.msg.keys.length ≤ 9223372036854775806) : Runs P 53 [.d a.d, .d b.d] [] (.d (.bool (sameR a b))) [] := by
  refine runs_walkZ t97 (vc97 _ _ _ _ _ _ _ _ _ _ _ _ _ _ _ _ _ _ _ _ _ _ _ _) rfl (by simp) ?_
  rintro _ rfl _ rfl _ rfl
  have w := r37 a.msg b.msg ha
  refine ⟨sameM a.msg b.msg, fun _ => ?_, ?_⟩
  · exact w
  rintro _ rfl
  exact endB rfl
def sameRs : List Row → List Row → Bool
  | [], [] => true
  | a :: r, b :: t => sameR a b && sameRs r t
  | _, _ => false
theorem sameRs_iff : ∀ {a b : List Row}, sameRs a b = true ↔ a = b
  | [], [] => by simp [sameRs]
  | a :: r, b :: t => by simp only [sameRs, Bool.and_eq_true, sameR_iff, sameRs_iff, List.cons.injEq]
  | [], _ :: _ => by simp [sameRs]
  | _ :: _, [] => by simp [sameRs]
theorem r44 (a b : List Row) (hl : a.length ≤ 1099511627776) (ha : ∀ r ∈ a, r.msg.keys.length ≤ 9223372036854775806) : Runs P 20 [.d (.slice 11 (a.map Row.d)), .d (.slice 11 (b.map Row.d))] [] (.d (.bool (sameRs a b))) [] := by
  refine runs_walkZ t44 (vc44 _ _ _ _) rfl (by simp) ?_
  rw [nI_map, nI_map]
  refine ⟨fun h => endB ?_, fun h => ?_⟩
  · have hne : a.length ≠ b.length := fun e => by rw [e] at h; simp at h
    cases e : sameRs a b with
    | false => rfl
    | true => rw [sameRs_iff.1 e] at hne; exact absurd rfl hne
  have hab : a.length = b.length := by have : nI a.length = nI b.length := by simpa using h
                                       simp only [nI] at this; omega
  refine range1 (N := a.length) (fun i => sameRs (a.drop i) (b.drop i) = sameRs a b) (by omega) rfl (fun i hi bd hJ I k next => ?_) fun hJ => ?_
  · have hi2 : i < b.length := by omega
    have w := r97 a[i] b[i] (ha _ (List.getElem_mem hi))
    refine ⟨bd, _, _, _, _, _, _, _, _, _, _, _, by rw [rows_get _ hi]; rfl, ⟨by omega, by simp only [nI]; omega⟩, _, _, _, _, _, _, _, _, _, _, _, by rw [rows_get _ hi2]; rfl, _, w, ?_⟩
    rw [drop_cons hi, drop_cons hi2, sameRs] at hJ
    refine ⟨fun h => endB ?_, fun h => next ?_⟩
    · have h : sameR a[i] b[i] = false := by simpa using h
      rw [← hJ, h]; rfl
    · have h : sameR a[i] b[i] = true := by simpa using h
      rw [← hJ, h, Bool.true_and]
  · rw [List.drop_length, hab, List.drop_length] at hJ
    exact endB hJ
end B
end Go.Proofs.YtmkkljbfmdngfaaGreatDoor
