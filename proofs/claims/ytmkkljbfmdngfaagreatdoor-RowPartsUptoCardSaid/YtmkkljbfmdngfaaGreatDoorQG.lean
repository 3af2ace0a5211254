/- Flags and what it calls: abstract texts and what their walks come to: printed by wip/B/gen. No condition. -/
import Derived.Test.YtmkkljbfmdngfaaGreatDoorQF
set_option linter.all false
namespace Go.Proofs.YtmkkljbfmdngfaaGreatDoor
namespace B
set_option maxRecDepth 100000
theorem t85 :okF P HR 87 2=true:=by kernel_rfl
theorem vc85 (l0 : List D) (l1 : List D) (res : CV) (objs' : List (Nat × List CV)) : walkA P (tbF P [163,148,112,129,134,118,1000101,7000102,107500054,1072002147,75,117] [] 87) (anOf (afOf P HR 87) []) (afOf P HR 87) [CV.d (D.slice 1 l0), CV.d (D.slice 1 l1)] [] (fun rs => endE rs res objs') = ((((nI (List.length l0) != nI (List.length l1)) = true → EndR (CV.d (D.bool false)) res [] objs') ∧ ((nI (List.length l0) != nI (List.length l1)) = false → (∃ I2 : (Int → (Nat → Prop)), ((∃ k3 : Nat, I2 0 k3) ∧ (∀ n4 : Int, (∀ k5 : Nat, (I2 n4 k5 → (((decide (n4 < nI (List.length l0))) = true → ((0 ≤ n4 ∧ n4 < nI (List.length l0)) ∧ (∃ n6 : Int, ((D.cells (List.getD l0 (Int.toNat n4) D.nilp) = [D.int .i64 n6]) ∧ ((0 ≤ n4 ∧ n4 < nI (List.length l1)) ∧ (∃ n7 : Int, ((D.cells (List.getD l1 (Int.toNat n4) D.nilp) = [D.int .i64 n7]) ∧ (((n6 != n7) = true → EndR (CV.d (D.bool false)) res [] objs') ∧ ((n6 != n7) = false → (∀ n8 : Int, (Go.IntKind.wrap Go.IntKind.i64 (n4 + 1) = n8 → (∃ k9 : Nat, ((k9 < k5) ∧ I2 n8 k9))))))))))))) ∧ ((decide (n4 < nI (List.length l0))) = false → EndR (CV.d (D.bool true)) res [] objs')))))))))) := by kernel_rfl
end B
end Go.Proofs.YtmkkljbfmdngfaaGreatDoor

namespace Go.Proofs.YtmkkljbfmdngfaaGreatDoor
namespace B
open Go.RowKit Go.Sort

theorem r85 (a b : List Int) (ha : a.length ≤ 9223372036854775806) : Runs P 87 [.d (.slice 1 (ints a)), .d (.slice 1 (ints b))] [] (.d (.bool (a == b))) [] := by
  refine runs_walkZ t85 (vc85 _ _ _ _) rfl (by simp) ?_
  rw [ints_len, ints_len]
  have no : a ≠ b → EndR (.d (.bool false)) (.d (.bool (a == b))) [] [] := fun h => endB (by simp [h])
  refine ⟨fun h => no (by rintro rfl; simp at h), fun h => ?_⟩
  have hl : a.length = b.length := by simp [nI] at h; omega
  refine range1 (N := a.length) (fun i => a.take i = b.take i) ha (by simp) (fun i hi bd hJ I k next => ?_) fun hJ => ?_
  · have hi2 : i < b.length := by omega
    refine ⟨bd, a[i], by rw [ints_get _ hi]; rfl, ⟨by omega, by simp only [nI]; omega⟩, b[i], by rw [ints_get _ hi2]; rfl, fun h => no (by rintro rfl; simp at h), fun h => ?_⟩
    have he : a[i] = b[i] := by simpa using h
    exact next (by rw [List.take_add_one, List.take_add_one, hJ, List.getElem?_eq_getElem hi, List.getElem?_eq_getElem hi2, he])
  · have : a = b := by
      rw [List.take_length] at hJ
      rw [hJ, hl, List.take_length]
    exact endB (by simp [this])
end B
end Go.Proofs.YtmkkljbfmdngfaaGreatDoor

namespace Go.Proofs.YtmkkljbfmdngfaaGreatDoor
namespace B
open Go.RowKit Go.Sort

def wordAt (ws : List Bytes) (k : Int) : Option Bytes := if 0 ≤ k ∧ k < ws.length then ws[k.toNat]? else none
def wordsOf (ws : List Bytes) (ks : List Int) : List Bytes := ks.filterMap (wordAt ws)
theorem MsgMay.key {nw : Nat} {m : Msg} (h : MsgMay nw m) : ∀ k ∈ m.keys, 0 ≤ k ∧ k < nw := fun k hk => by
  have := (keys_all h.keys).1 k hk
  omega
end B
end Go.Proofs.YtmkkljbfmdngfaaGreatDoor

namespace Go.Proofs.YtmkkljbfmdngfaaGreatDoor
namespace B
open Go.RowKit

theorem runB_may : ∀ {l : List Row} {b c : Box}, BoxMay b → runB b l = (0, c) → BoxMay c ∧ Rose b c
  | [], b, c, hb, h => by
    simp only [runB, Prod.mk.injEq, true_and] at h
    subst h
    exact ⟨hb, rfl, rfl, Int.le_refl _, Int.le_refl _, [], by simp⟩
  | r :: l, b, c, hb, h => by
    rw [runB] at h
    split at h
    · rename_i h0
      obtain ⟨k1, k2⟩ := applyB_may hb (c := (applyB b r).2) (Prod.ext h0 rfl)
      obtain ⟨q1, q2⟩ := runB_may k1 h
      obtain ⟨w1, e1⟩ := k2.words
      obtain ⟨w2, e2⟩ := q2.words
      exact ⟨q1, q2.id.trans k2.id, q2.valid.trans k2.valid, Int.le_trans k2.next q2.next, Int.le_trans k2.high q2.high, w1 ++ w2, by rw [e2, e1, List.append_assoc]⟩
    · rename_i h0
      have := congrArg Prod.fst h
      exact absurd this h0
structure Kept (b c : Box) (i : Nat) (ks : List Int) (fl : Int) : Prop where
  may : BoxMay c
  len : c.msgs.length = b.msgs.length
  other : ∀ j, j ≠ i → c.msgs[j]? = b.msgs[j]?
  words : wordsOf c.words ks = wordsOf b.words ks
end B
end Go.Proofs.YtmkkljbfmdngfaaGreatDoor
