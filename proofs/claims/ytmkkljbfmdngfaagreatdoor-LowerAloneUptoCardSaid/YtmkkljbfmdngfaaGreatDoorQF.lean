/- SameBox, SameMsg, SameTexts: contracts on data. Conditions: sizes. -/
import Derived.Test.YtmkkljbfmdngfaaGreatDoorQC
set_option linter.all false
namespace Go.Proofs.YtmkkljbfmdngfaaGreatDoor
namespace B
open Go.RowKit
set_option maxRecDepth 100000
theorem t20 :okF P HR 18 2=true:=by kernel_rfl
theorem t37 :okF P HR 49 2=true:=by kernel_rfl
theorem t38 :okF P HR 48 2=true:=by kernel_rfl
theorem t87 :okF P HR 99 2=true:=by kernel_rfl
theorem vc20 (s0 : Bytes) (n1 : Int) (n2 : Int) (n3 : Int) (l4 : List D) (l5 : List D) (s6 : Bytes) (n7 : Int) (n8 : Int) (n9 : Int) (l10 : List D) (l11 : List D) (res : CV) (objs' : List (Nat × List CV)) : walkA P (tbF P [163,148,112,129,134,118,7000058] [] 18) (anOf (afOf P HR 18) []) (afOf P HR 18) [CV.d (D.agg [D.str s0, D.int .i64 n1, D.int .i64 n2, D.int .i64 n3, D.slice 1 l4, D.slice 7 l5]), CV.d (D.agg [D.str s6, D.int .i64 n7, D.int .i64 n8, D.int .i64 n9, D.slice 1 l10, D.slice 7 l11])] [] (fun rs => endE rs res objs') = ((∀ b12 : Bool, ((!s0 == s6 || n1 != n7) = b12 → (∀ b13 : Bool, ((b12 || n2 != n8) = b13 → (∀ b14 : Bool, ((b13 || n3 != n9) = b14 → (∃ b15 : Bool, (((!b14) = true → Runs P 48 [CV.d (D.slice 1 l4), CV.d (D.slice 1 l10)] [] (CV.d (D.bool b15)) []) ∧ (∀ b16 : Bool, ((b14 || !b15) = b16 → (∀ b17 : Bool, ((b16 || nI (List.length l5) != nI (List.length l11)) = b17 → (((b17) = true → EndR (CV.d (D.bool false)) res [(2, [CV.d (D.str s0), CV.d (D.int .i64 n1), CV.d (D.int .i64 n2), CV.d (D.int .i64 n3), CV.d (D.slice 1 l4), CV.d (D.slice 7 l5)]), (3, [CV.d (D.str s6), CV.d (D.int .i64 n7), CV.d (D.int .i64 n8), CV.d (D.int .i64 n9), CV.d (D.slice 1 l10), CV.d (D.slice 7 l11)])] objs') ∧ ((b17) = false → (∃ I18 : (Int → (Nat → Prop)), ((∃ k19 : Nat, I18 0 k19) ∧ (∀ n20 : Int, (∀ k21 : Nat, (I18 n20 k21 → (((decide (n20 < nI (List.length l5))) = true → ((0 ≤ n20 ∧ n20 < nI (List.length l5)) ∧ (∃ n22 : Int, (∃ n23 : Int, (∃ n24 : Int, (∃ s25 : Bytes, (∃ n26 : Int, (∃ l27 : List D, (∃ s28 : Bytes, ((D.cells (List.getD l5 (Int.toNat n20) D.nilp) = [D.int .i64 n22, D.int .i64 n23, D.int .i64 n24, D.str s25, D.int .i64 n26, D.slice 1 l27, D.str s28]) ∧ ((0 ≤ n20 ∧ n20 < nI (List.length l11)) ∧ (∃ n29 : Int, (∃ n30 : Int, (∃ n31 : Int, (∃ s32 : Bytes, (∃ n33 : Int, (∃ l34 : List D, (∃ s35 : Bytes, ((D.cells (List.getD l11 (Int.toNat n20) D.nilp) = [D.int .i64 n29, D.int .i64 n30, D.int .i64 n31, D.str s32, D.int .i64 n33, D.slice 1 l34, D.str s35]) ∧ (∃ b36 : Bool, ((Runs P 49 [CV.d (D.agg [D.int .i64 n22, D.int .i64 n23, D.int .i64 n24, D.str s25, D.int .i64 n26, D.slice 1 l27, D.str s28]), CV.d (D.agg [D.int .i64 n29, D.int .i64 n30, D.int .i64 n31, D.str s32, D.int .i64 n33, D.slice 1 l34, D.str s35])] [] (CV.d (D.bool b36)) []) ∧ (((!b36) = true → EndR (CV.d (D.bool false)) res [(2, [CV.d (D.str s0), CV.d (D.int .i64 n1), CV.d (D.int .i64 n2), CV.d (D.int .i64 n3), CV.d (D.slice 1 l4), CV.d (D.slice 7 l5)]), (3, [CV.d (D.str s6), CV.d (D.int .i64 n7), CV.d (D.int .i64 n8), CV.d (D.int .i64 n9), CV.d (D.slice 1 l10), CV.d (D.slice 7 l11)])] objs') ∧ ((!b36) = false → (∀ n37 : Int, (Go.IntKind.wrap Go.IntKind.i64 (n20 + 1) = n37 → (∃ k38 : Nat, ((k38 < k21) ∧ I18 n37 k38))))))))))))))))))))))))))) ∧ ((decide (n20 < nI (List.length l5))) = false → EndR (CV.d (D.bool true)) res [(2, [CV.d (D.str s0), CV.d (D.int .i64 n1), CV.d (D.int .i64 n2), CV.d (D.int .i64 n3), CV.d (D.slice 1 l4), CV.d (D.slice 7 l5)]), (3, [CV.d (D.str s6), CV.d (D.int .i64 n7), CV.d (D.int .i64 n8), CV.d (D.int .i64 n9), CV.d (D.slice 1 l10), CV.d (D.slice 7 l11)])] objs')))))))))))))))))))))) := by kernel_rfl
theorem vc38 (l0 : List D) (l1 : List D) (res : CV) (objs' : List (Nat × List CV)) : walkA P (tbF P [163,148,112,129,134,118,7000058] [] 48) (anOf (afOf P HR 48) []) (afOf P HR 48) [CV.d (D.slice 1 l0), CV.d (D.slice 1 l1)] [] (fun rs => endE rs res objs') = ((((nI (List.length l0) != nI (List.length l1)) = true → EndR (CV.d (D.bool false)) res [] objs') ∧ ((nI (List.length l0) != nI (List.length l1)) = false → (∃ I2 : (Int → (Nat → Prop)), ((∃ k3 : Nat, I2 0 k3) ∧ (∀ n4 : Int, (∀ k5 : Nat, (I2 n4 k5 → (((decide (n4 < nI (List.length l0))) = true → ((0 ≤ n4 ∧ n4 < nI (List.length l0)) ∧ (∃ s6 : Bytes, ((D.cells (List.getD l0 (Int.toNat n4) D.nilp) = [D.str s6]) ∧ ((0 ≤ n4 ∧ n4 < nI (List.length l1)) ∧ (∃ s7 : Bytes, ((D.cells (List.getD l1 (Int.toNat n4) D.nilp) = [D.str s7]) ∧ (((!s6 == s7) = true → EndR (CV.d (D.bool false)) res [] objs') ∧ ((!s6 == s7) = false → (∀ n8 : Int, (Go.IntKind.wrap Go.IntKind.i64 (n4 + 1) = n8 → (∃ k9 : Nat, ((k9 < k5) ∧ I2 n8 k9))))))))))))) ∧ ((decide (n4 < nI (List.length l0))) = false → EndR (CV.d (D.bool true)) res [] objs')))))))))) := by kernel_rfl
theorem vc37 (n0 : Int) (n1 : Int) (n2 : Int) (s3 : Bytes) (n4 : Int) (l5 : List D) (s6 : Bytes) (n7 : Int) (n8 : Int) (n9 : Int) (s10 : Bytes) (n11 : Int) (l12 : List D) (s13 : Bytes) (res : CV) (objs' : List (Nat × List CV)) : walkA P (tbF P [163,148,112,129,134,118,7000058] [] 49) (anOf (afOf P HR 49) []) (afOf P HR 49) [CV.d (D.agg [D.int .i64 n0, D.int .i64 n1, D.int .i64 n2, D.str s3, D.int .i64 n4, D.slice 1 l5, D.str s6]), CV.d (D.agg [D.int .i64 n7, D.int .i64 n8, D.int .i64 n9, D.str s10, D.int .i64 n11, D.slice 1 l12, D.str s13])] [] (fun rs => endE rs res objs') = ((∀ b14 : Bool, ((n0 == n7 && n1 == n8) = b14 → (∀ b15 : Bool, ((b14 && n2 == n9) = b15 → (∀ b16 : Bool, ((b15 && s3 == s10) = b16 → (∀ b17 : Bool, ((b16 && n4 == n11) = b17 → (∃ b18 : Bool, ((b17 = true → Runs P 99 [CV.d (D.slice 1 l5), CV.d (D.slice 1 l12)] [] (CV.d (D.bool b18)) []) ∧ (∀ b19 : Bool, ((b17 && b18) = b19 → (∀ b20 : Bool, ((b19 && s6 == s13) = b20 → EndR (CV.d (D.bool b20)) res [(2, [CV.d (D.int .i64 n0), CV.d (D.int .i64 n1), CV.d (D.int .i64 n2), CV.d (D.str s3), CV.d (D.int .i64 n4), CV.d (D.slice 1 l5), CV.d (D.str s6)]), (3, [CV.d (D.int .i64 n7), CV.d (D.int .i64 n8), CV.d (D.int .i64 n9), CV.d (D.str s10), CV.d (D.int .i64 n11), CV.d (D.slice 1 l12), CV.d (D.str s13)])] objs'))))))))))))))) := by kernel_rfl
theorem vc87 (l0 : List D) (l1 : List D) (res : CV) (objs' : List (Nat × List CV)) : walkA P (tbF P [163,148,112,129,134,118,7000058] [] 99) (anOf (afOf P HR 99) []) (afOf P HR 99) [CV.d (D.slice 1 l0), CV.d (D.slice 1 l1)] [] (fun rs => endE rs res objs') = ((((nI (List.length l0) != nI (List.length l1)) = true → EndR (CV.d (D.bool false)) res [] objs') ∧ ((nI (List.length l0) != nI (List.length l1)) = false → (∃ I2 : (Int → (Nat → Prop)), ((∃ k3 : Nat, I2 0 k3) ∧ (∀ n4 : Int, (∀ k5 : Nat, (I2 n4 k5 → (((decide (n4 < nI (List.length l0))) = true → ((0 ≤ n4 ∧ n4 < nI (List.length l0)) ∧ (∃ n6 : Int, ((D.cells (List.getD l0 (Int.toNat n4) D.nilp) = [D.int .i64 n6]) ∧ ((0 ≤ n4 ∧ n4 < nI (List.length l1)) ∧ (∃ n7 : Int, ((D.cells (List.getD l1 (Int.toNat n4) D.nilp) = [D.int .i64 n7]) ∧ (((n6 != n7) = true → EndR (CV.d (D.bool false)) res [] objs') ∧ ((n6 != n7) = false → (∀ n8 : Int, (Go.IntKind.wrap Go.IntKind.i64 (n4 + 1) = n8 → (∃ k9 : Nat, ((k9 < k5) ∧ I2 n8 k9))))))))))))) ∧ ((decide (n4 < nI (List.length l0))) = false → EndR (CV.d (D.bool true)) res [] objs')))))))))) := by kernel_rfl
theorem r87 (a b : List Int) (ha : a.length ≤ 9223372036854775806) : Runs P 99 [.d (.slice 1 (ints a)), .d (.slice 1 (ints b))] [] (.d (.bool (a == b))) [] := by
  refine runs_walkZ t87 (vc87 _ _ _ _) rfl (by simp) ?_
  rw [ints_len, ints_len]
  have no : a ≠ b → EndR (.d (.bool false)) (.d (.bool (a == b))) [] [] := fun h => endB (by simp [h])
  refine ⟨fun h => no (by rintro rfl; simp at h), fun h => ?_⟩
  have hl : a.length = b.length := by simp [nI] at h; omega
  refine range1 (N := a.length) (fun i => a.take i = b.take i) ha (by simp) (fun i hi bd hJ I k next => ?_) fun hJ => ?_
  · have hi2 : i < b.length := by omega
    refine ⟨bd, a[i], by rw [ints_get _ hi]; rfl, ⟨by omega, by simp only [nI]; omega⟩, b[i], by rw [ints_get _ hi2]; rfl, fun h => no (by rintro rfl; simp at h), fun h => ?_⟩
    have he : a[i] = b[i] := by simpa using h
    exact next (by rw [List.take_add_one, List.take_add_one, hJ, List.getElem?_eq_getElem hi, List.getElem?_eq_getElem hi2, he])
  · have : a = b := by
      rw [List.take_length] at hJ
      rw [hJ, hl, List.take_length]
    exact endB (by simp [this])
theorem r38 (a b : List Bytes) (ha : a.length ≤ 9223372036854775806) : Runs P 48 [.d (.slice 1 (strs a)), .d (.slice 1 (strs b))] [] (.d (.bool (a == b))) [] := by
  refine runs_walkZ t38 (vc38 _ _ _ _) rfl (by simp) ?_
  rw [strs_len, strs_len]
  have no : a ≠ b → EndR (.d (.bool false)) (.d (.bool (a == b))) [] [] := fun h => endB (by simp [h])
  refine ⟨fun h => no (by rintro rfl; simp at h), fun h => ?_⟩
  have hl : a.length = b.length := by simp [nI] at h; omega
  refine range1 (N := a.length) (fun i => a.take i = b.take i) ha (by simp) (fun i hi bd hJ I k next => ?_) fun hJ => ?_
  · have hi2 : i < b.length := by omega
    refine ⟨bd, a[i], by rw [strs_get _ hi]; rfl, ⟨by omega, by simp only [nI]; omega⟩, b[i], by rw [strs_get _ hi2]; rfl, fun h => no (by rintro rfl; simp at h), fun h => ?_⟩
    have he : a[i] = b[i] := by simpa using h
    exact next (by rw [List.take_add_one, List.take_add_one, hJ, List.getElem?_eq_getElem hi, List.getElem?_eq_getElem hi2, he])
  · have : a = b := by
      rw [List.take_length] at hJ
      rw [hJ, hl, List.take_length]
    exact endB (by simp [this])
def sameM (a b : Msg) : Bool := (((((a.uid == b.uid && a.mod == b.mod) && a.date == b.date) && a.id == b.id) && a.flags == b.flags) && a.keys == b.keys) && a.text == b.text
theorem sameM_iff {a b : Msg} : sameM a b = true ↔ a = b := by
  cases a; cases b
  unfold sameM
  simp only [Bool.and_eq_true, beq_iff_eq, Msg.mk.injEq]
  constructor
  · rintro ⟨⟨⟨⟨⟨⟨rfl, rfl⟩, rfl⟩, rfl⟩, rfl⟩, rfl⟩, rfl⟩; simp
  · rintro ⟨rfl, rfl, rfl, rfl, rfl, rfl, rfl⟩; simp
theorem r37 (a b : Msg) (ha : a.keys.length ≤ 9223372036854775806) : Runs P 49 [.d a.d, .d b.d] [] (.d (.bool (sameM a b))) [] := by
  refine runs_walkZ t37 (vc37 _ _ _ _ _ _ _ _ _ _ _ _ _ _ _ _) rfl (by simp) ?_
  rintro _ rfl _ rfl _ rfl _ rfl
  refine ⟨_, fun _ => r87 _ _ ha, ?_⟩
  rintro _ rfl _ rfl
  exact endB rfl
def sameMs : List Msg → List Msg → Bool
  | [], [] => true
  | a :: r, b :: t => sameM a b && sameMs r t
  | _, _ => false
theorem sameMs_iff : ∀ {a b : List Msg}, sameMs a b = true ↔ a = b
  | [], [] => by simp [sameMs]
  | a :: r, b :: t => by simp only [sameMs, Bool.and_eq_true, sameM_iff, sameMs_iff, List.cons.injEq]
  | [], _ :: _ => by simp [sameMs]
  | _ :: _, [] => by simp [sameMs]
def sameB (a b : Box) : Bool := !(((((!(a.id == b.id) || a.valid != b.valid) || a.next != b.next) || a.high != b.high) || !(a.words == b.words)) || a.msgs.length != b.msgs.length) && sameMs a.msgs b.msgs
theorem sameB_iff {a b : Box} : sameB a b = true ↔ a = b := by
  cases a; cases b
  unfold sameB
  simp only [Bool.and_eq_true, Bool.not_eq_true', Bool.or_eq_false_iff, Bool.not_eq_false', beq_iff_eq, bne_eq_false_iff_eq, sameMs_iff, Box.mk.injEq]
  constructor
  · rintro ⟨⟨⟨⟨⟨⟨rfl, rfl⟩, rfl⟩, rfl⟩, rfl⟩, _⟩, rfl⟩; simp
  · rintro ⟨rfl, rfl, rfl, rfl, rfl, rfl⟩; simp
theorem r20 (a b : Box) (ha : BoxOk a) : Runs P 18 [.d a.d, .d b.d] [] (.d (.bool (sameB a b))) [] := by
  refine runs_walkZ t20 (vc20 _ _ _ _ _ _ _ _ _ _ _ _ _ _) rfl (by simp) ?_
  simp only [nI, List.length_map]
  rintro _ rfl _ rfl _ rfl
  refine ⟨_, fun _ => r38 _ _ ha.nw, ?_⟩
  rintro _ rfl b17 h17
  have e17 : b17 = (((((!(a.id == b.id) || a.valid != b.valid) || a.next != b.next) || a.high != b.high) || !(a.words == b.words)) || a.msgs.length != b.msgs.length) := by
    rw [← h17]
    congr 1
    rw [Bool.eq_iff_iff]; simp only [bne_iff_ne, ne_eq]; omega
  refine ⟨fun h => endB ?_, fun h => ?_⟩
  · unfold sameB; rw [← e17, h]; rfl
  have hs : sameB a b = sameMs a.msgs b.msgs := by unfold sameB; rw [← e17, h]; rfl
  have hl : a.msgs.length = b.msgs.length := by
    rw [h] at e17
    have := e17.symm
    simp only [Bool.or_eq_false_iff, bne_eq_false_iff_eq] at this
    exact this.2
  rw [hs]
  refine range1 (N := a.msgs.length) (fun i => sameMs (a.msgs.drop i) (b.msgs.drop i) = sameMs a.msgs b.msgs) ha.nm rfl (fun i hi bd hJ I k next => ?_) fun hJ => ?_
  · have hi2 : i < b.msgs.length := by omega
    refine ⟨⟨bd.1, by have := bd.2; simpa [nI] using this⟩, _, _, _, _, _, _, _, by rw [msgs_get _ hi]; rfl, ⟨by omega, by omega⟩, _, _, _, _, _, _, _, by rw [msgs_get _ hi2]; rfl, _, r37 a.msgs[i] b.msgs[i] (ha.msgs _ (List.getElem_mem hi)).keys, ?_⟩
    rw [drop_cons hi, drop_cons hi2, sameMs] at hJ
    refine ⟨fun h => endB ?_, fun h => next ?_⟩
    · have h : sameM a.msgs[i] b.msgs[i] = false := by simpa using h
      rw [← hJ, h]; rfl
    · have h : sameM a.msgs[i] b.msgs[i] = true := by simpa using h
      rw [← hJ, h, Bool.true_and]
  · rw [List.drop_length, hl, List.drop_length] at hJ
    exact endB hJ

end B
end Go.Proofs.YtmkkljbfmdngfaaGreatDoor

namespace Go.Proofs.YtmkkljbfmdngfaaGreatDoor
namespace B

end B
end Go.Proofs.YtmkkljbfmdngfaaGreatDoor

namespace Go.Proofs.YtmkkljbfmdngfaaGreatDoor
namespace B
set_option maxRecDepth 100000
end B
end Go.Proofs.YtmkkljbfmdngfaaGreatDoor

namespace Go.Proofs.YtmkkljbfmdngfaaGreatDoor
namespace B
open Go.RowKit

theorem WU64 (n : Int) : Go.IntKind.wrap .u64 n = n % 18446744073709551616 := by
  unfold Go.IntKind.wrap Go.IntKind.bits Go.IntKind.signed
  simp
end B
end Go.Proofs.YtmkkljbfmdngfaaGreatDoor

namespace Go.Proofs.YtmkkljbfmdngfaaGreatDoor
namespace B
set_option maxRecDepth 100000
end B
end Go.Proofs.YtmkkljbfmdngfaaGreatDoor

namespace Go.Proofs.YtmkkljbfmdngfaaGreatDoor
namespace B
open Go.RowKit Go.Sort

theorem spI (l : List Int) {i : Nat} (hi : i < l.length) (v : Int) : setEl (ints l) (addO 0 (Int.toNat (i : Int))) 0 [.int .i64 v] = ints (l.set i v) := by
  unfold setEl
  rw [add0]
  have : List.getD (ints l) i D.nilp = iD l[i] := by have := ints_get l hi; simpa using this
  rw [this]
  show (ints l).set i (.int .i64 v) = _
  unfold ints
  rw [List.map_set]
theorem el_int (l : List Int) {i : Nat} (h : i < l.length) : List.take 1 (List.drop 0 (D.cells (List.getD (ints l) (addO 0 (Int.toNat (i : Int))) D.nilp))) = [D.int .i64 l[i]] := by
  have := ints_get l h
  rw [add0]
  rw [show List.getD (ints l) i D.nilp = iD l[i] from by simpa using this]; rfl

def idxF (p : Int → Bool) (l : List Int) : Int := match l.findIdx? p with | some j => (j : Int) | none => -1
end B
end Go.Proofs.YtmkkljbfmdngfaaGreatDoor

namespace Go.Proofs.YtmkkljbfmdngfaaGreatDoor
namespace B
open Go.RowKit Go.Sort

def wordAt (ws : List Bytes) (k : Int) : Option Bytes := if 0 ≤ k ∧ k < ws.length then ws[k.toNat]? else none
def wordsOf (ws : List Bytes) (ks : List Int) : List Bytes := ks.filterMap (wordAt ws)
def flagRow (uid mod fl : Int) (keys : List Int) : Row := ⟨2, uid, mod, ⟨0, 0, 0, [], fl, keys, []⟩, []⟩
theorem MsgMay.key {nw : Nat} {m : Msg} (h : MsgMay nw m) : ∀ k ∈ m.keys, 0 ≤ k ∧ k < nw := fun k hk => by
  have := (keys_all h.keys).1 k hk
  omega
end B
end Go.Proofs.YtmkkljbfmdngfaaGreatDoor

namespace Go.Proofs.YtmkkljbfmdngfaaGreatDoor
namespace B
open Go.RowKit

theorem rise_eq : ∀ {a b : List Int}, a.Pairwise (· < ·) → b.Pairwise (· < ·) → (∀ x, x ∈ a ↔ x ∈ b) → a = b
  | [], [], _, _, _ => rfl
  | [], y :: t, _, _, h => absurd ((h y).2 (by simp)) (by simp)
  | x :: r, [], _, _, h => absurd ((h x).1 (by simp)) (by simp)
  | x :: r, y :: t, ha, hb, h => by
    rw [List.pairwise_cons] at ha hb
    have hxy : x = y := by
      rcases List.mem_cons.1 ((h x).1 (by simp)) with e | e
      · exact e
      · rcases List.mem_cons.1 ((h y).2 (by simp)) with e' | e'
        · exact e'.symm
        · have h1 := ha.1 _ e'
          have h2 := hb.1 _ e
          omega
    subst hxy
    congr 1
    refine rise_eq ha.2 hb.2 fun z => ⟨fun hz => ?_, fun hz => ?_⟩
    · rcases List.mem_cons.1 ((h z).1 (by simp [hz])) with e | e
      · subst e; have := ha.1 _ hz; omega
      · exact e
    · rcases List.mem_cons.1 ((h z).2 (by simp [hz])) with e | e
      · subst e; have := hb.1 _ hz; omega
      · exact e
theorem keysB_iff {n : Int} : ∀ {l : List Int} {was : Int}, keysB n was l = true ↔ l.Pairwise (· < ·) ∧ ∀ k ∈ l, was < k ∧ k < n
  | [], was => by simp [keysB]
  | k :: r, was => by
    simp only [keysB, Bool.and_eq_true, decide_eq_true_eq, keysB_iff (l := r), List.pairwise_cons]
    constructor
    · rintro ⟨⟨h1, h2⟩, h3, h4⟩
      refine ⟨⟨fun x hx => (h4 x hx).1, h3⟩, fun x hx => ?_⟩
      rcases List.mem_cons.1 hx with rfl | hx
      · exact ⟨h1, h2⟩
      · have := h4 x hx; omega
    · rintro ⟨⟨h1, h2⟩, h3⟩
      exact ⟨h3 k (by simp), h2, fun x hx => ⟨h1 x hx, (h3 x (by simp [hx])).2⟩⟩
theorem wordsB_iff : ∀ {l pre : List Bytes}, wordsB pre l = true ↔ (∀ w ∈ l, atomB w = true ∧ w ∉ pre) ∧ l.Nodup
  | [], pre => by simp [wordsB]
  | u :: r, pre => by
    simp only [wordsB, Bool.and_eq_true]
    rw [wordsB_iff (l := r)]
    simp only [List.nodup_cons, List.mem_cons, List.mem_append]
    constructor
    · rintro ⟨⟨h1, h2⟩, h3, h4⟩
      refine ⟨?_, fun hu => ?_, h4⟩
      · rintro v (rfl | hv)
        · exact ⟨h1, by simpa using h2⟩
        · exact ⟨(h3 v hv).1, fun hh => (h3 v hv).2 (.inl hh)⟩
      · exact (h3 u hu).2 (.inr (.inl rfl))
    · rintro ⟨h1, h2, h3⟩
      refine ⟨⟨(h1 u (.inl rfl)).1, by simpa using (h1 u (.inl rfl)).2⟩, fun v hv => ⟨(h1 v (.inr hv)).1, ?_⟩, h3⟩
      rintro (hh | hh | hh)
      · exact (h1 v (.inr hv)).2 hh
      · subst hh; exact h2 hv
      · cases hh
structure Kept (b c : Box) (i : Nat) (ks : List Int) (fl : Int) : Prop where
  may : BoxMay c
  len : c.msgs.length = b.msgs.length
  other : ∀ j, j ≠ i → c.msgs[j]? = b.msgs[j]?
  words : wordsOf c.words ks = wordsOf b.words ks
end B
end Go.Proofs.YtmkkljbfmdngfaaGreatDoor
