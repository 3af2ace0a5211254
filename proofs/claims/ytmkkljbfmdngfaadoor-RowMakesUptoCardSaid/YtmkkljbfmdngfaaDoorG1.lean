/- Data of mailboxes; laws of loops. No condition. -/
import Derived.Test.YtmkkljbfmdngfaaDoorProg
import Derived.Test.YtmkkljbfmdngfaaDoorSh
import Derived.Test.YtmkkljbfmdngfaaDoorB30
import Derived.Lib.AppendIntMem
import Derived.Lib.ItoaLen
set_option linter.all false
namespace Go.Proofs.YtmkkljbfmdngfaaDoor
namespace B
open Go.RowKit
noncomputable abbrev P : Program := Tryd.prog

theorem W64 {n : Int} (h : -9223372036854775808 ≤ n) (h' : n ≤ 9223372036854775807) : Go.IntKind.wrap .i64 n = n := by
  unfold Go.IntKind.wrap Go.IntKind.bits Go.IntKind.signed
  simp
  omega
theorem endB {c : Bool} {bs : List (Nat × List CV)} {b : Bool} (h : c = b) : EndR (.d (.bool c)) (.d (.bool b)) bs [] := end0 (by rw [h]) rfl
theorem endI {c : Int} {bs : List (Nat × List CV)} {b : Int} (h : c = b) : EndR (.d (.int .i64 c)) (.d (.int .i64 b)) bs [] := end0 (by rw [h]) rfl
theorem endS {c : Bytes} {bs : List (Nat × List CV)} {b : Bytes} (h : c = b) : EndR (.d (.str c)) (.d (.str b)) bs [] := end0 (by rw [h]) rfl
theorem maxI64 : Go.IntKind.max Go.IntKind.i64 = 9223372036854775807 := by decide

theorem range1 {N : Nat} {G : (Int → Nat → Prop) → Int → Nat → Prop} {E : Int → Prop} (J : Nat → Prop) (hN : N ≤ 9223372036854775806) (h0 : J 0)
    (hs : ∀ i, i < N → (0 ≤ (i : Int) ∧ (i : Int) < nI N) → J i → ∀ (I : Int → Nat → Prop) (k : Nat), (J (i + 1) → ∀ m : Int, Go.IntKind.wrap .i64 ((i : Int) + 1) = m → ∃ k', k' < k ∧ I m k') → G I i k) (he : J N → E N) :
    ∃ I : Int → Nat → Prop, (∃ k, I 0 k) ∧ ∀ n k, I n k → ((decide (n < nI N) = true → G I n k) ∧ (decide (n < nI N) = false → E n)) := by
  refine ⟨fun n k => ∃ i : Nat, n = i ∧ i ≤ N ∧ J i ∧ k = N - i, ⟨_, 0, rfl, by omega, h0, rfl⟩, ?_⟩
  rintro _ _ ⟨i, rfl, hi, hj, rfl⟩
  refine ⟨fun h => ?_, fun h => ?_⟩
  · have h := of_decide_eq_true h
    refine hs i (by simp only [nI] at h; omega) ⟨by omega, h⟩ hj _ _ fun hj' m hm => ?_
    simp only [nI] at h
    subst hm
    exact ⟨N - (i + 1), by omega, i + 1, by rw [W64 (by omega) (by omega)]; rfl, by omega, hj', rfl⟩
  · have h := of_decide_eq_false h
    simp only [nI] at h
    obtain rfl : i = N := by omega
    exact he hj
theorem range2 {X : Type} {N : Nat} {G : (X → Int → Nat → Prop) → X → Int → Nat → Prop} {E : X → Int → Prop} {x0 : X} (J : Nat → X → Prop) (hN : N ≤ 9223372036854775806) (h0 : J 0 x0)
    (hs : ∀ i, i < N → (0 ≤ (i : Int) ∧ (i : Int) < nI N) → ∀ x, J i x → ∀ (I : X → Int → Nat → Prop) (k : Nat), (∀ x', J (i + 1) x' → ∀ m : Int, Go.IntKind.wrap .i64 ((i : Int) + 1) = m → ∃ k', k' < k ∧ I x' m k') → G I x i k) (he : ∀ x, J N x → E x N) :
    ∃ I : X → Int → Nat → Prop, (∃ k, I x0 0 k) ∧ ∀ x n k, I x n k → ((decide (n < nI N) = true → G I x n k) ∧ (decide (n < nI N) = false → E x n)) := by
  refine ⟨fun x n k => ∃ i : Nat, n = i ∧ i ≤ N ∧ J i x ∧ k = N - i, ⟨_, 0, rfl, by omega, h0, rfl⟩, ?_⟩
  rintro x _ _ ⟨i, rfl, hi, hj, rfl⟩
  refine ⟨fun h => ?_, fun h => ?_⟩
  · have h := of_decide_eq_true h
    refine hs i (by simp only [nI] at h; omega) ⟨by omega, h⟩ x hj _ _ fun x' hj' m hm => ?_
    simp only [nI] at h
    subst hm
    exact ⟨N - (i + 1), by omega, i + 1, by rw [W64 (by omega) (by omega)]; rfl, by omega, hj', rfl⟩
  · have h := of_decide_eq_false h
    simp only [nI] at h
    obtain rfl : i = N := by omega
    exact he x hj
theorem range2' {X : Type} {N : Nat} {G : (Int → X → Nat → Prop) → Int → X → Nat → Prop} {E : X → Int → Prop} {x0 : X} (J : Nat → X → Prop) (hN : N ≤ 9223372036854775806) (h0 : J 0 x0)
    (hs : ∀ i, i < N → (0 ≤ (i : Int) ∧ (i : Int) < nI N) → ∀ x, J i x → ∀ (I : Int → X → Nat → Prop) (k : Nat), (∀ x', J (i + 1) x' → ∀ m : Int, Go.IntKind.wrap .i64 ((i : Int) + 1) = m → ∃ k', k' < k ∧ I m x' k') → G I i x k) (he : ∀ x, J N x → E x N) :
    ∃ I : Int → X → Nat → Prop, (∃ k, I 0 x0 k) ∧ ∀ n x k, I n x k → ((decide (n < nI N) = true → G I n x k) ∧ (decide (n < nI N) = false → E x n)) := by
  refine ⟨fun n x k => ∃ i : Nat, n = i ∧ i ≤ N ∧ J i x ∧ k = N - i, ⟨_, 0, rfl, by omega, h0, rfl⟩, ?_⟩
  rintro _ x _ ⟨i, rfl, hi, hj, rfl⟩
  refine ⟨fun h => ?_, fun h => ?_⟩
  · have h := of_decide_eq_true h
    refine hs i (by simp only [nI] at h; omega) ⟨by omega, h⟩ x hj _ _ fun x' hj' m hm => ?_
    simp only [nI] at h
    subst hm
    exact ⟨N - (i + 1), by omega, i + 1, by rw [W64 (by omega) (by omega)]; rfl, by omega, hj', rfl⟩
  · have h := of_decide_eq_false h
    simp only [nI] at h
    obtain rfl : i = N := by omega
    exact he x hj
theorem drop_cons {α : Type} {l : List α} {i : Nat} (h : i < l.length) : l.drop i = l[i] :: l.drop (i + 1) := (List.getElem_cons_drop h).symm
theorem getD_map {α : Type} (f : α → D) (l : List α) {i : Nat} (h : i < l.length) : (l.map f).getD (Int.toNat (i : Int)) .nilp = f l[i] := by
  simp [List.getD_eq_getElem?_getD, h]
theorem getD_byte (s : Bytes) {i : Nat} (h : i < s.length) : s.getD (Int.toNat (i : Int)) 0 = s[i] := by
  simp [List.getD_eq_getElem?_getD, h]
theorem nI_map {α β : Type} (f : α → β) (l : List α) : nI (List.length (l.map f)) = nI l.length := by simp

structure Msg where
  uid : Int
  mod : Int
  date : Int
  id : Bytes
  flags : Int
  keys : List Int
  text : Bytes
structure Box where
  id : Bytes
  valid : Int
  next : Int
  high : Int
  words : List Bytes
  msgs : List Msg
abbrev iD (n : Int) : D := .int .i64 n
def ints (l : List Int) : List D := l.map iD
def strs (l : List Bytes) : List D := l.map .str
def bs (s : Bytes) : List D := s.map byteD
def Msg.cs (m : Msg) : List D := [iD m.uid, iD m.mod, iD m.date, .str m.id, iD m.flags, .slice 1 (ints m.keys), .str m.text]
def Msg.d (m : Msg) : D := .agg m.cs
def Box.cs (b : Box) : List D := [.str b.id, iD b.valid, iD b.next, iD b.high, .slice 1 (strs b.words), .slice 7 (b.msgs.map Msg.d)]
def Box.d (b : Box) : D := .agg b.cs
def errB (b : Bool) : Int := if b = true then 0 else 1
theorem ints_len (l : List Int) : (ints l).length = l.length := by simp [ints]
theorem strs_len (l : List Bytes) : (strs l).length = l.length := by simp [strs]
theorem ints_get (l : List Int) {i : Nat} (h : i < l.length) : (ints l).getD (Int.toNat (i : Int)) .nilp = iD l[i] := getD_map _ l h
theorem strs_get (l : List Bytes) {i : Nat} (h : i < l.length) : (strs l).getD (Int.toNat (i : Int)) .nilp = .str l[i] := getD_map _ l h
theorem msgs_get (l : List Msg) {i : Nat} (h : i < l.length) : (l.map Msg.d).getD (Int.toNat (i : Int)) .nilp = l[i].d := getD_map _ l h
end B
end Go.Proofs.YtmkkljbfmdngfaaDoor

namespace Go.Proofs.YtmkkljbfmdngfaaDoor
namespace B
def HH : Hint := ⟨fun f _ => if f == 112 || f == 116 || f == 62 || f == 70 then [1100] else [], fun f => if f == 56 || f == 58 || f == 105 || f == 48 || f == 53 then some 0 else none⟩
set_option maxRecDepth 100000
def af15 : AF := ⟨(.seq (.ops [⟨(some 1), (.box 6 true (.t 0)), none⟩, ⟨(some 2), (.mov (.c (.d (.int .i64 0))) true none), none⟩]) (.seq (.ops [⟨(some 8), (.fieldA 0 (.t 1)), none⟩, ⟨(some 9), (.load false 1 (.t 8) false), none⟩, ⟨(some 10), (.lenS (.t 9)), none⟩, ⟨(some 11), (.fieldA 4 (.t 1)), none⟩, ⟨(some 12), (.load false 1 (.t 11) false), none⟩, ⟨(some 13), (.len (.t 12)), none⟩, ⟨(some 14), (.bin false .add (.t 10) (.t 13)), none⟩, ⟨(some 15), (.fieldA 5 (.t 1)), none⟩, ⟨(some 16), (.load false 1 (.t 15) false), none⟩, ⟨(some 17), (.len (.t 16)), none⟩, ⟨(some 18), (.bin false .add (.t 14) (.t 17)), none⟩, ⟨(some 3), (.mov (.t 18) true none), none⟩]) (.seq (.seq (.ops [⟨(some 19), (.fieldA 4 (.t 1)), none⟩, ⟨(some 20), (.load false 1 (.t 19) false), none⟩, ⟨(some 21), (.len (.t 20)), none⟩, ⟨(some 22), (.mov (.c (.d (.int .i64 0))) false none), none⟩]) (.block 0 (.loop (.seq (.ops [⟨(some 23), (.bin false .lss (.t 22) (.t 21)), none⟩]) (.seq (.cond (.t 23) .skip (.exit 0)) (.seq (.block 1 (.seq (.ops [⟨(some 24), (.idxA 1 (.t 20) (.t 22)), none⟩, ⟨(some 25), (.load false 1 (.t 24) false), none⟩, ⟨(some 5), (.mov (.t 25) true none), none⟩]) (.ops [⟨(some 26), (.mov (.t 3) false none), none⟩, ⟨(some 27), (.mov (.t 5) false none), none⟩, ⟨(some 28), (.lenS (.t 27)), none⟩, ⟨(some 29), (.bin false .add (.t 26) (.t 28)), none⟩, ⟨(some 3), (.mov (.t 29) true none), none⟩]))) (.ops [⟨(some 30), (.bin false .add (.t 22) (.c (.d (.int .i64 1)))), none⟩, ⟨(some 22), (.mov (.t 30) true none), none⟩]))))))) (.seq (.seq (.ops [⟨(some 31), (.fieldA 5 (.t 1)), none⟩, ⟨(some 32), (.load false 1 (.t 31) false), none⟩, ⟨(some 33), (.len (.t 32)), none⟩, ⟨(some 34), (.mov (.c (.d (.int .i64 0))) false none), none⟩]) (.block 2 (.loop (.seq (.ops [⟨(some 35), (.bin false .lss (.t 34) (.t 33)), none⟩]) (.seq (.cond (.t 35) .skip (.exit 2)) (.seq (.block 3 (.seq (.ops [⟨(some 36), (.idxA 7 (.t 32) (.t 34)), none⟩, ⟨(some 37), (.load true 7 (.t 36) false), none⟩, ⟨(some 7), (.alloc [(.d (.int .i64 0)), (.d (.int .i64 0)), (.d (.int .i64 0)), (.d (.str [])), (.d (.int .i64 0)), (.own 1 []), (.d (.str []))]), none⟩, ⟨none, (.store true 7 (.t 7) (.t 37) none), none⟩]) (.ops [⟨(some 38), (.mov (.t 3) false none), none⟩, ⟨(some 39), (.fieldA 5 (.t 7)), none⟩, ⟨(some 40), (.load false 1 (.t 39) false), none⟩, ⟨(some 41), (.len (.t 40)), none⟩, ⟨(some 42), (.fieldA 6 (.t 7)), none⟩, ⟨(some 43), (.load false 1 (.t 42) false), none⟩, ⟨(some 44), (.lenS (.t 43)), none⟩, ⟨(some 45), (.bin false .add (.t 41) (.t 44)), none⟩, ⟨(some 46), (.fieldA 3 (.t 7)), none⟩, ⟨(some 47), (.load false 1 (.t 46) false), none⟩, ⟨(some 48), (.lenS (.t 47)), none⟩, ⟨(some 49), (.bin false .add (.t 45) (.t 48)), none⟩, ⟨(some 50), (.bin false .add (.t 38) (.t 49)), none⟩, ⟨(some 3), (.mov (.t 50) true none), none⟩]))) (.ops [⟨(some 51), (.bin false .add (.t 34) (.c (.d (.int .i64 1)))), none⟩, ⟨(some 34), (.mov (.t 51) true none), none⟩]))))))) (.seq (.seq (.ops [⟨(some 52), (.mov (.t 3) false none), none⟩, ⟨(some 53), (.bin false .gtr (.t 52) (.c (.d (.int .i64 60000)))), none⟩, ⟨(some 54), (.mov (.t 53) true none), none⟩, ⟨(some 55), (.fieldA 4 (.t 1)), (some (54, false))⟩, ⟨(some 56), (.load false 1 (.t 55) false), (some (54, false))⟩, ⟨(some 57), (.len (.t 56)), (some (54, false))⟩, ⟨(some 58), (.bin false .gtr (.t 57) (.c (.d (.int .i64 100)))), (some (54, false))⟩, ⟨(some 59), (.pick (.t 54) (.c (.d (.bool true))) (.t 58)), none⟩, ⟨(some 60), (.mov (.t 59) true none), none⟩, ⟨(some 61), (.fieldA 5 (.t 1)), (some (60, false))⟩, ⟨(some 62), (.load false 1 (.t 61) false), (some (60, false))⟩, ⟨(some 63), (.len (.t 62)), (some (60, false))⟩, ⟨(some 64), (.bin false .gtr (.t 63) (.c (.d (.int .i64 100)))), (some (60, false))⟩, ⟨(some 65), (.pick (.t 60) (.c (.d (.bool true))) (.t 64)), none⟩]) (.cond (.t 65) (.seq (.ops [⟨(some 2), (.mov (.c (.d (.int .i64 1))) true none), none⟩]) .ret) .skip)) (.seq (.ops [⟨(some 2), (.mov (.c (.d (.int .i64 0))) true none), none⟩]) .ret)))))), [(.tm 2)], 1, 66⟩
theorem t15 : trF P HH 15 = some af15 := by kernel_rfl
def af16 : AF := ⟨(.seq (.ops [⟨(some 1), (.box 6 true (.t 0)), none⟩, ⟨(some 2), (.mov (.c (.d (.int .i64 0))) true none), none⟩]) (.seq (.seq (.ops [⟨(some 9), (.fieldA 0 (.t 1)), none⟩, ⟨(some 10), (.load false 1 (.t 9) false), none⟩, ⟨(some 11), (.call 45 [((.t 10), none)] none), none⟩, ⟨(some 12), (.not (.t 11)), none⟩, ⟨(some 13), (.mov (.t 12) true none), none⟩, ⟨(some 14), (.fieldA 0 (.t 1)), (some (13, false))⟩, ⟨(some 15), (.load false 1 (.t 14) false), (some (13, false))⟩, ⟨(some 16), (.lenS (.t 15)), (some (13, false))⟩, ⟨(some 17), (.bin false .gtr (.t 16) (.c (.d (.int .i64 12)))), (some (13, false))⟩, ⟨(some 18), (.pick (.t 13) (.c (.d (.bool true))) (.t 17)), none⟩, ⟨(some 19), (.mov (.t 18) true none), none⟩, ⟨(some 20), (.fieldA 1 (.t 1)), (some (19, false))⟩, ⟨(some 21), (.load false 1 (.t 20) false), (some (19, false))⟩, ⟨(some 22), (.bin false .lss (.t 21) (.c (.d (.int .i64 1)))), (some (19, false))⟩, ⟨(some 23), (.pick (.t 19) (.c (.d (.bool true))) (.t 22)), none⟩, ⟨(some 24), (.mov (.t 23) true none), none⟩, ⟨(some 25), (.fieldA 1 (.t 1)), (some (24, false))⟩, ⟨(some 26), (.load false 1 (.t 25) false), (some (24, false))⟩, ⟨(some 27), (.bin false .gtr (.t 26) (.c (.d (.int .i64 1000000)))), (some (24, false))⟩, ⟨(some 28), (.pick (.t 24) (.c (.d (.bool true))) (.t 27)), none⟩, ⟨(some 29), (.mov (.t 28) true none), none⟩, ⟨(some 30), (.fieldA 3 (.t 1)), (some (29, false))⟩, ⟨(some 31), (.load false 1 (.t 30) false), (some (29, false))⟩, ⟨(some 32), (.bin false .lss (.t 31) (.c (.d (.int .i64 1)))), (some (29, false))⟩, ⟨(some 33), (.pick (.t 29) (.c (.d (.bool true))) (.t 32)), none⟩, ⟨(some 34), (.mov (.t 33) true none), none⟩, ⟨(some 35), (.fieldA 3 (.t 1)), (some (34, false))⟩, ⟨(some 36), (.load false 1 (.t 35) false), (some (34, false))⟩, ⟨(some 37), (.bin false .gtr (.t 36) (.c (.d (.int .i64 1000000)))), (some (34, false))⟩, ⟨(some 38), (.pick (.t 34) (.c (.d (.bool true))) (.t 37)), none⟩, ⟨(some 39), (.mov (.t 38) true none), none⟩, ⟨(some 40), (.fieldA 2 (.t 1)), (some (39, false))⟩, ⟨(some 41), (.load false 1 (.t 40) false), (some (39, false))⟩, ⟨(some 42), (.bin false .lss (.t 41) (.c (.d (.int .i64 1)))), (some (39, false))⟩, ⟨(some 43), (.pick (.t 39) (.c (.d (.bool true))) (.t 42)), none⟩, ⟨(some 44), (.mov (.t 43) true none), none⟩, ⟨(some 45), (.fieldA 2 (.t 1)), (some (44, false))⟩, ⟨(some 46), (.load false 1 (.t 45) false), (some (44, false))⟩, ⟨(some 47), (.bin false .gtr (.t 46) (.c (.d (.int .i64 1000000)))), (some (44, false))⟩, ⟨(some 48), (.pick (.t 44) (.c (.d (.bool true))) (.t 47)), none⟩]) (.cond (.t 48) (.seq (.ops [⟨(some 2), (.mov (.c (.d (.int .i64 1))) true none), none⟩]) .ret) .skip)) (.seq (.seq (.ops [⟨(some 49), (.fieldA 4 (.t 1)), none⟩, ⟨(some 50), (.load false 1 (.t 49) false), none⟩, ⟨(some 51), (.len (.t 50)), none⟩, ⟨(some 52), (.bin false .gtr (.t 51) (.c (.d (.int .i64 64)))), none⟩, ⟨(some 53), (.mov (.t 52) true none), none⟩, ⟨(some 54), (.fieldA 5 (.t 1)), (some (53, false))⟩, ⟨(some 55), (.load false 1 (.t 54) false), (some (53, false))⟩, ⟨(some 56), (.len (.t 55)), (some (53, false))⟩, ⟨(some 57), (.bin false .gtr (.t 56) (.c (.d (.int .i64 60)))), (some (53, false))⟩, ⟨(some 58), (.pick (.t 53) (.c (.d (.bool true))) (.t 57)), none⟩]) (.cond (.t 58) (.seq (.ops [⟨(some 2), (.mov (.c (.d (.int .i64 4))) true none), none⟩]) .ret) .skip)) (.seq (.seq (.ops [⟨(some 59), (.fieldA 4 (.t 1)), none⟩, ⟨(some 60), (.load false 1 (.t 59) false), none⟩, ⟨(some 61), (.len (.t 60)), none⟩, ⟨(some 62), (.mov (.c (.d (.int .i64 0))) false none), none⟩]) (.block 0 (.loop (.seq (.ops [⟨(some 63), (.bin false .lss (.t 62) (.t 61)), none⟩]) (.seq (.cond (.t 63) .skip (.exit 0)) (.seq (.block 1 (.seq (.ops [⟨(some 64), (.mov (.t 62) true none), none⟩, ⟨(some 65), (.idxA 1 (.t 60) (.t 62)), none⟩, ⟨(some 66), (.load false 1 (.t 65) false), none⟩, ⟨(some 3), (.mov (.t 64) true none), none⟩, ⟨(some 4), (.mov (.t 66) true none), none⟩]) (.seq (.ops [⟨(some 67), (.mov (.t 4) false none), none⟩, ⟨(some 68), (.call 45 [((.t 67), none)] none), none⟩, ⟨(some 69), (.not (.t 68)), none⟩, ⟨(some 70), (.mov (.t 69) true none), none⟩, ⟨(some 71), (.fieldA 4 (.t 1)), (some (70, false))⟩, ⟨(some 72), (.load false 1 (.t 71) false), (some (70, false))⟩, ⟨(some 73), (.mov (.t 3) false none), (some (70, false))⟩, ⟨(some 74), (.slice 1 (.t 72) none (some (.t 73))), (some (70, false))⟩, ⟨(some 75), (.mov (.t 4) false none), (some (70, false))⟩, ⟨(some 76), (.call 36 [((.t 74), (some 1)), ((.t 75), none)] none), (some (70, false))⟩, ⟨(some 77), (.pick (.t 70) (.c (.d (.bool true))) (.t 76)), none⟩]) (.cond (.t 77) (.seq (.ops [⟨(some 2), (.mov (.c (.d (.int .i64 1))) true none), none⟩]) .ret) .skip)))) (.ops [⟨(some 78), (.bin false .add (.t 62) (.c (.d (.int .i64 1)))), none⟩, ⟨(some 62), (.mov (.t 78) true none), none⟩]))))))) (.seq (.ops [⟨(some 5), (.mov (.c (.d (.int .i64 0))) true none), none⟩]) (.seq (.seq (.ops [⟨(some 79), (.fieldA 5 (.t 1)), none⟩, ⟨(some 80), (.load false 1 (.t 79) false), none⟩, ⟨(some 81), (.len (.t 80)), none⟩, ⟨(some 82), (.mov (.c (.d (.int .i64 0))) false none), none⟩]) (.block 2 (.loop (.seq (.ops [⟨(some 83), (.bin false .lss (.t 82) (.t 81)), none⟩]) (.seq (.cond (.t 83) .skip (.exit 2)) (.seq (.block 3 (.seq (.ops [⟨(some 84), (.idxA 7 (.t 80) (.t 82)), none⟩, ⟨(some 85), (.load true 7 (.t 84) false), none⟩, ⟨(some 7), (.alloc [(.d (.int .i64 0)), (.d (.int .i64 0)), (.d (.int .i64 0)), (.d (.str [])), (.d (.int .i64 0)), (.own 1 []), (.d (.str []))]), none⟩, ⟨none, (.store true 7 (.t 7) (.t 85) none), none⟩]) (.seq (.seq (.ops [⟨(some 86), (.load true 6 (.t 1) false), none⟩, ⟨(some 87), (.load true 7 (.t 7) false), none⟩, ⟨(some 88), (.call 46 [((.t 86), none), ((.t 87), none)] none), none⟩, ⟨(some 8), (.mov (.t 88) true none), none⟩]) (.seq (.ops [⟨(some 89), (.mov (.t 8) false none), none⟩, ⟨(some 90), (.bin false .neq (.t 89) (.c (.d (.int .i64 0)))), none⟩]) (.cond (.t 90) (.seq (.ops [⟨(some 91), (.mov (.t 8) true none), none⟩, ⟨(some 2), (.mov (.t 91) true none), none⟩]) .ret) .skip))) (.seq (.seq (.ops [⟨(some 92), (.fieldA 0 (.t 7)), none⟩, ⟨(some 93), (.load false 1 (.t 92) false), none⟩, ⟨(some 94), (.mov (.t 5) false none), none⟩, ⟨(some 95), (.bin false .leq (.t 93) (.t 94)), none⟩, ⟨(some 96), (.mov (.t 95) true none), none⟩, ⟨(some 97), (.fieldA 0 (.t 7)), (some (96, false))⟩, ⟨(some 98), (.load false 1 (.t 97) false), (some (96, false))⟩, ⟨(some 99), (.fieldA 2 (.t 1)), (some (96, false))⟩, ⟨(some 100), (.load false 1 (.t 99) false), (some (96, false))⟩, ⟨(some 101), (.bin false .geq (.t 98) (.t 100)), (some (96, false))⟩, ⟨(some 102), (.pick (.t 96) (.c (.d (.bool true))) (.t 101)), none⟩, ⟨(some 103), (.mov (.t 102) true none), none⟩, ⟨(some 104), (.fieldA 1 (.t 7)), (some (103, false))⟩, ⟨(some 105), (.load false 1 (.t 104) false), (some (103, false))⟩, ⟨(some 106), (.fieldA 3 (.t 1)), (some (103, false))⟩, ⟨(some 107), (.load false 1 (.t 106) false), (some (103, false))⟩, ⟨(some 108), (.bin false .gtr (.t 105) (.t 107)), (some (103, false))⟩, ⟨(some 109), (.pick (.t 103) (.c (.d (.bool true))) (.t 108)), none⟩]) (.cond (.t 109) (.seq (.ops [⟨(some 2), (.mov (.c (.d (.int .i64 1))) true none), none⟩]) .ret) .skip)) (.ops [⟨(some 110), (.fieldA 0 (.t 7)), none⟩, ⟨(some 111), (.load false 1 (.t 110) false), none⟩, ⟨(some 5), (.mov (.t 111) true none), none⟩]))))) (.ops [⟨(some 112), (.bin false .add (.t 82) (.c (.d (.int .i64 1)))), none⟩, ⟨(some 82), (.mov (.t 112) true none), none⟩]))))))) (.seq (.ops [⟨(some 2), (.mov (.c (.d (.int .i64 0))) true none), none⟩]) .ret))))))), [(.tm 2)], 1, 113⟩
theorem t16 : trF P HH 16 = some af16 := by kernel_rfl
def af36 : AF := ⟨(.seq (.ops [⟨(some 4), (.mov (.c (.d (.bool false))) true none), none⟩]) (.seq (.seq (.ops [⟨(some 7), (.mov (.t 0) false (some 1)), none⟩, ⟨(some 8), (.len (.t 7)), none⟩, ⟨(some 9), (.mov (.c (.d (.int .i64 0))) false none), none⟩]) (.block 0 (.loop (.seq (.ops [⟨(some 10), (.bin false .lss (.t 9) (.t 8)), none⟩]) (.seq (.cond (.t 10) .skip (.exit 0)) (.seq (.block 1 (.seq (.ops [⟨(some 11), (.idxA 1 (.t 7) (.t 9)), none⟩, ⟨(some 12), (.load false 1 (.t 11) false), none⟩, ⟨(some 6), (.mov (.t 12) true none), none⟩]) (.seq (.ops [⟨(some 13), (.mov (.t 6) false none), none⟩, ⟨(some 14), (.mov (.t 1) false none), none⟩, ⟨(some 15), (.bin false .eql (.t 13) (.t 14)), none⟩]) (.cond (.t 15) (.seq (.ops [⟨(some 4), (.mov (.c (.d (.bool true))) true none), none⟩]) .ret) .skip)))) (.ops [⟨(some 16), (.bin false .add (.t 9) (.c (.d (.int .i64 1)))), none⟩, ⟨(some 9), (.mov (.t 16) true none), none⟩]))))))) (.seq (.ops [⟨(some 4), (.mov (.c (.d (.bool false))) true none), none⟩]) .ret))), [(.tm 4)], 2, 17⟩
theorem t36 : trF P HH 36 = some af36 := by kernel_rfl
def af45 : AF := ⟨(.seq (.ops [⟨(some 2), (.mov (.c (.d (.bool false))) true none), none⟩]) (.seq (.seq (.ops [⟨(some 5), (.mov (.t 0) false none), none⟩, ⟨(some 6), (.lenS (.t 5)), none⟩, ⟨(some 7), (.bin false .lss (.t 6) (.c (.d (.int .i64 1)))), none⟩, ⟨(some 8), (.mov (.t 7) true none), none⟩, ⟨(some 9), (.mov (.t 0) false none), (some (8, false))⟩, ⟨(some 10), (.lenS (.t 9)), (some (8, false))⟩, ⟨(some 11), (.bin false .gtr (.t 10) (.c (.d (.int .i64 24)))), (some (8, false))⟩, ⟨(some 12), (.pick (.t 8) (.c (.d (.bool true))) (.t 11)), none⟩]) (.cond (.t 12) (.seq (.ops [⟨(some 2), (.mov (.c (.d (.bool false))) true none), none⟩]) .ret) .skip)) (.seq (.seq (.ops [⟨(some 13), (.mov (.t 0) false none), none⟩, ⟨(some 14), (.lenS (.t 13)), none⟩, ⟨(some 15), (.mov (.c (.d (.int .i64 0))) false none), none⟩]) (.block 0 (.loop (.seq (.ops [⟨(some 16), (.bin false .lss (.t 15) (.t 14)), none⟩]) (.seq (.cond (.t 16) .skip (.exit 0)) (.seq (.block 1 (.seq (.ops [⟨(some 17), (.mov (.t 15) true none), none⟩, ⟨(some 3), (.mov (.t 17) true none), none⟩]) (.seq (.ops [⟨(some 18), (.mov (.t 0) false none), none⟩, ⟨(some 19), (.mov (.t 3) false none), none⟩, ⟨(some 20), (.idxS (.t 18) (.t 19)), none⟩, ⟨(some 4), (.mov (.t 20) true none), none⟩]) (.seq (.ops [⟨(some 21), (.mov (.t 4) false none), none⟩, ⟨(some 22), (.bin false .lss (.t 21) (.c (.d (.int .u8 97)))), none⟩, ⟨(some 23), (.mov (.t 22) true none), none⟩, ⟨(some 24), (.mov (.t 4) false none), (some (23, false))⟩, ⟨(some 25), (.bin false .gtr (.t 24) (.c (.d (.int .u8 122)))), (some (23, false))⟩, ⟨(some 26), (.pick (.t 23) (.c (.d (.bool true))) (.t 25)), none⟩, ⟨(some 27), (.mov (.t 26) true none), none⟩, ⟨(some 28), (.mov (.t 4) false none), (some (27, true))⟩, ⟨(some 29), (.bin false .lss (.t 28) (.c (.d (.int .u8 65)))), (some (27, true))⟩, ⟨(some 30), (.mov (.t 29) true none), (some (27, true))⟩, ⟨(some 31), (.mov (.t 4) false none), (some (30, false))⟩, ⟨(some 32), (.bin false .gtr (.t 31) (.c (.d (.int .u8 90)))), (some (30, false))⟩, ⟨(some 33), (.pick (.t 30) (.c (.d (.bool true))) (.t 32)), (some (27, true))⟩, ⟨(some 34), (.pick (.t 27) (.t 33) (.c (.d (.bool false)))), none⟩, ⟨(some 35), (.mov (.t 34) true none), none⟩, ⟨(some 36), (.mov (.t 4) false none), (some (35, true))⟩, ⟨(some 37), (.bin false .lss (.t 36) (.c (.d (.int .u8 48)))), (some (35, true))⟩, ⟨(some 38), (.mov (.t 37) true none), (some (35, true))⟩, ⟨(some 39), (.mov (.t 4) false none), (some (38, false))⟩, ⟨(some 40), (.bin false .gtr (.t 39) (.c (.d (.int .u8 57)))), (some (38, false))⟩, ⟨(some 41), (.pick (.t 38) (.c (.d (.bool true))) (.t 40)), (some (35, true))⟩, ⟨(some 42), (.pick (.t 35) (.t 41) (.c (.d (.bool false)))), none⟩, ⟨(some 43), (.mov (.t 42) true none), none⟩, ⟨(some 44), (.mov (.t 4) false none), (some (43, true))⟩, ⟨(some 45), (.bin false .neq (.t 44) (.c (.d (.int .u8 46)))), (some (43, true))⟩, ⟨(some 46), (.pick (.t 43) (.t 45) (.c (.d (.bool false)))), none⟩, ⟨(some 47), (.mov (.t 46) true none), none⟩, ⟨(some 48), (.mov (.t 4) false none), (some (47, true))⟩, ⟨(some 49), (.bin false .neq (.t 48) (.c (.d (.int .u8 95)))), (some (47, true))⟩, ⟨(some 50), (.pick (.t 47) (.t 49) (.c (.d (.bool false)))), none⟩, ⟨(some 51), (.mov (.t 50) true none), none⟩, ⟨(some 52), (.mov (.t 4) false none), (some (51, true))⟩, ⟨(some 53), (.bin false .neq (.t 52) (.c (.d (.int .u8 45)))), (some (51, true))⟩, ⟨(some 54), (.pick (.t 51) (.t 53) (.c (.d (.bool false)))), none⟩, ⟨(some 55), (.mov (.t 54) true none), none⟩, ⟨(some 56), (.mov (.t 4) false none), (some (55, true))⟩, ⟨(some 57), (.bin false .neq (.t 56) (.c (.d (.int .u8 36)))), (some (55, true))⟩, ⟨(some 58), (.pick (.t 55) (.t 57) (.c (.d (.bool false)))), none⟩, ⟨(some 59), (.mov (.t 58) true none), none⟩, ⟨(some 60), (.mov (.t 4) false none), (some (59, true))⟩, ⟨(some 61), (.bin false .neq (.t 60) (.c (.d (.int .u8 47)))), (some (59, true))⟩, ⟨(some 62), (.pick (.t 59) (.t 61) (.c (.d (.bool false)))), none⟩]) (.cond (.t 62) (.seq (.ops [⟨(some 2), (.mov (.c (.d (.bool false))) true none), none⟩]) .ret) .skip))))) (.ops [⟨(some 63), (.bin false .add (.t 15) (.c (.d (.int .i64 1)))), none⟩, ⟨(some 15), (.mov (.t 63) true none), none⟩]))))))) (.seq (.ops [⟨(some 2), (.mov (.c (.d (.bool true))) true none), none⟩]) .ret)))), [(.tm 2)], 1, 64⟩
theorem t45 : trF P HH 45 = some af45 := by kernel_rfl
def af46 : AF := ⟨(.seq (.ops [⟨(some 2), (.box 6 true (.t 0)), none⟩, ⟨(some 3), (.box 7 true (.t 1)), none⟩, ⟨(some 4), (.mov (.c (.d (.int .i64 0))) true none), none⟩]) (.seq (.seq (.ops [⟨(some 5), (.fieldA 0 (.t 3)), none⟩, ⟨(some 6), (.load false 1 (.t 5) false), none⟩, ⟨(some 7), (.bin false .lss (.t 6) (.c (.d (.int .i64 1)))), none⟩, ⟨(some 8), (.mov (.t 7) true none), none⟩, ⟨(some 9), (.fieldA 0 (.t 3)), (some (8, false))⟩, ⟨(some 10), (.load false 1 (.t 9) false), (some (8, false))⟩, ⟨(some 11), (.bin false .geq (.t 10) (.c (.d (.int .i64 1000000)))), (some (8, false))⟩, ⟨(some 12), (.pick (.t 8) (.c (.d (.bool true))) (.t 11)), none⟩, ⟨(some 13), (.mov (.t 12) true none), none⟩, ⟨(some 14), (.fieldA 1 (.t 3)), (some (13, false))⟩, ⟨(some 15), (.load false 1 (.t 14) false), (some (13, false))⟩, ⟨(some 16), (.bin false .lss (.t 15) (.c (.d (.int .i64 1)))), (some (13, false))⟩, ⟨(some 17), (.pick (.t 13) (.c (.d (.bool true))) (.t 16)), none⟩, ⟨(some 18), (.mov (.t 17) true none), none⟩, ⟨(some 19), (.fieldA 1 (.t 3)), (some (18, false))⟩, ⟨(some 20), (.load false 1 (.t 19) false), (some (18, false))⟩, ⟨(some 21), (.bin false .gtr (.t 20) (.c (.d (.int .i64 1000000)))), (some (18, false))⟩, ⟨(some 22), (.pick (.t 18) (.c (.d (.bool true))) (.t 21)), none⟩, ⟨(some 23), (.mov (.t 22) true none), none⟩, ⟨(some 24), (.fieldA 2 (.t 3)), (some (23, false))⟩, ⟨(some 25), (.load false 1 (.t 24) false), (some (23, false))⟩, ⟨(some 26), (.bin false .lss (.t 25) (.c (.d (.int .i64 0)))), (some (23, false))⟩, ⟨(some 27), (.pick (.t 23) (.c (.d (.bool true))) (.t 26)), none⟩, ⟨(some 28), (.mov (.t 27) true none), none⟩, ⟨(some 29), (.fieldA 2 (.t 3)), (some (28, false))⟩, ⟨(some 30), (.load false 1 (.t 29) false), (some (28, false))⟩, ⟨(some 31), (.bin false .gtr (.t 30) (.c (.d (.int .i64 1000000)))), (some (28, false))⟩, ⟨(some 32), (.pick (.t 28) (.c (.d (.bool true))) (.t 31)), none⟩, ⟨(some 33), (.mov (.t 32) true none), none⟩, ⟨(some 34), (.fieldA 3 (.t 3)), (some (33, false))⟩, ⟨(some 35), (.load false 1 (.t 34) false), (some (33, false))⟩, ⟨(some 36), (.call 45 [((.t 35), none)] none), (some (33, false))⟩, ⟨(some 37), (.not (.t 36)), (some (33, false))⟩, ⟨(some 38), (.pick (.t 33) (.c (.d (.bool true))) (.t 37)), none⟩, ⟨(some 39), (.mov (.t 38) true none), none⟩, ⟨(some 40), (.fieldA 4 (.t 3)), (some (39, false))⟩, ⟨(some 41), (.load false 1 (.t 40) false), (some (39, false))⟩, ⟨(some 42), (.bin false .lss (.t 41) (.c (.d (.int .i64 0)))), (some (39, false))⟩, ⟨(some 43), (.pick (.t 39) (.c (.d (.bool true))) (.t 42)), none⟩, ⟨(some 44), (.mov (.t 43) true none), none⟩, ⟨(some 45), (.fieldA 4 (.t 3)), (some (44, false))⟩, ⟨(some 46), (.load false 1 (.t 45) false), (some (44, false))⟩, ⟨(some 47), (.bin false .gtr (.t 46) (.c (.d (.int .i64 31)))), (some (44, false))⟩, ⟨(some 48), (.pick (.t 44) (.c (.d (.bool true))) (.t 47)), none⟩, ⟨(some 49), (.mov (.t 48) true none), none⟩, ⟨(some 50), (.fieldA 5 (.t 3)), (some (49, false))⟩, ⟨(some 51), (.load false 1 (.t 50) false), (some (49, false))⟩, ⟨(some 52), (.fieldA 4 (.t 2)), (some (49, false))⟩, ⟨(some 53), (.load false 1 (.t 52) false), (some (49, false))⟩, ⟨(some 54), (.len (.t 53)), (some (49, false))⟩, ⟨(some 55), (.call 98 [((.t 51), (some 1)), ((.t 54), none)] none), (some (49, false))⟩, ⟨(some 56), (.not (.t 55)), (some (49, false))⟩, ⟨(some 57), (.pick (.t 49) (.c (.d (.bool true))) (.t 56)), none⟩, ⟨(some 58), (.mov (.t 57) true none), none⟩, ⟨(some 59), (.fieldA 6 (.t 3)), (some (58, false))⟩, ⟨(some 60), (.load false 1 (.t 59) false), (some (58, false))⟩, ⟨(some 61), (.lenS (.t 60)), (some (58, false))⟩, ⟨(some 62), (.bin false .gtr (.t 61) (.c (.d (.int .i64 300)))), (some (58, false))⟩, ⟨(some 63), (.pick (.t 58) (.c (.d (.bool true))) (.t 62)), none⟩]) (.cond (.t 63) (.seq (.ops [⟨(some 4), (.mov (.c (.d (.int .i64 1))) true none), none⟩]) .ret) .skip)) (.seq (.ops [⟨(some 4), (.mov (.c (.d (.int .i64 0))) true none), none⟩]) .ret))), [(.tm 4)], 2, 64⟩
theorem t46 : trF P HH 46 = some af46 := by kernel_rfl
def af47 : AF := ⟨(.seq (.ops [⟨(some 1), (.box 6 true (.t 0)), none⟩, ⟨(some 2), (.mov (.c (.d (.int .i64 0))) true none), none⟩]) (.seq (.block 0 (.seq (.ops [⟨(some 9), (.fieldA 0 (.t 1)), none⟩, ⟨(some 10), (.load false 1 (.t 9) false), none⟩, ⟨(some 11), (.call 99 [((.t 10), none)] none), none⟩, ⟨(some 12), (.not (.t 11)), none⟩, ⟨(some 13), (.mov (.t 12) true none), none⟩, ⟨(some 14), (.fieldA 0 (.t 1)), (some (13, false))⟩, ⟨(some 15), (.load false 1 (.t 14) false), (some (13, false))⟩, ⟨(some 16), (.lenS (.t 15)), (some (13, false))⟩, ⟨(some 17), (.bin false .gtr (.t 16) (.c (.d (.int .i64 12)))), (some (13, false))⟩, ⟨(some 18), (.pick (.t 13) (.c (.d (.bool true))) (.t 17)), none⟩, ⟨(some 19), (.mov (.t 18) true none), none⟩, ⟨(some 20), (.fieldA 1 (.t 1)), (some (19, false))⟩, ⟨(some 21), (.load false 1 (.t 20) false), (some (19, false))⟩, ⟨(some 22), (.call 100 [((.t 21), none), ((.c (.d (.int .i64 1))), none), ((.c (.d (.int .i64 1000000))), none)] none), (some (19, false))⟩, ⟨(some 23), (.not (.t 22)), (some (19, false))⟩, ⟨(some 24), (.pick (.t 19) (.c (.d (.bool true))) (.t 23)), none⟩, ⟨(some 25), (.mov (.t 24) true none), none⟩, ⟨(some 26), (.fieldA 3 (.t 1)), (some (25, false))⟩, ⟨(some 27), (.load false 1 (.t 26) false), (some (25, false))⟩, ⟨(some 28), (.call 100 [((.t 27), none), ((.c (.d (.int .i64 1))), none), ((.c (.d (.int .i64 1000000))), none)] none), (some (25, false))⟩, ⟨(some 29), (.not (.t 28)), (some (25, false))⟩, ⟨(some 30), (.pick (.t 25) (.c (.d (.bool true))) (.t 29)), none⟩, ⟨(some 31), (.mov (.t 30) true none), none⟩, ⟨(some 32), (.fieldA 2 (.t 1)), (some (31, false))⟩, ⟨(some 33), (.load false 1 (.t 32) false), (some (31, false))⟩, ⟨(some 34), (.call 100 [((.t 33), none), ((.c (.d (.int .i64 1))), none), ((.c (.d (.int .i64 1000000))), none)] none), (some (31, false))⟩, ⟨(some 35), (.not (.t 34)), (some (31, false))⟩, ⟨(some 36), (.pick (.t 31) (.c (.d (.bool true))) (.t 35)), none⟩, ⟨(some 8), (.mov (.t 36) true none), none⟩]) (.cond (.t 8) (.seq (.ops [⟨(some 2), (.mov (.c (.d (.int .i64 1))) true none), none⟩]) .ret) (.seq (.ops [⟨(some 38), (.fieldA 4 (.t 1)), none⟩, ⟨(some 39), (.load false 1 (.t 38) false), none⟩, ⟨(some 40), (.len (.t 39)), none⟩, ⟨(some 41), (.bin false .gtr (.t 40) (.c (.d (.int .i64 64)))), none⟩, ⟨(some 42), (.mov (.t 41) true none), none⟩, ⟨(some 43), (.fieldA 5 (.t 1)), (some (42, false))⟩, ⟨(some 44), (.load false 1 (.t 43) false), (some (42, false))⟩, ⟨(some 45), (.len (.t 44)), (some (42, false))⟩, ⟨(some 46), (.bin false .gtr (.t 45) (.c (.d (.int .i64 60)))), (some (42, false))⟩, ⟨(some 47), (.pick (.t 42) (.c (.d (.bool true))) (.t 46)), none⟩, ⟨(some 37), (.mov (.t 47) true none), none⟩]) (.cond (.t 37) (.seq (.ops [⟨(some 2), (.mov (.c (.d (.int .i64 4))) true none), none⟩]) .ret) .skip))))) (.seq (.seq (.ops [⟨(some 48), (.fieldA 4 (.t 1)), none⟩, ⟨(some 49), (.load false 1 (.t 48) false), none⟩, ⟨(some 50), (.len (.t 49)), none⟩, ⟨(some 51), (.mov (.c (.d (.int .i64 0))) false none), none⟩]) (.block 1 (.loop (.seq (.ops [⟨(some 52), (.bin false .lss (.t 51) (.t 50)), none⟩]) (.seq (.cond (.t 52) .skip (.exit 1)) (.seq (.block 2 (.seq (.ops [⟨(some 53), (.mov (.t 51) true none), none⟩, ⟨(some 54), (.idxA 1 (.t 49) (.t 51)), none⟩, ⟨(some 55), (.load false 1 (.t 54) false), none⟩, ⟨(some 3), (.mov (.t 53) true none), none⟩, ⟨(some 4), (.mov (.t 55) true none), none⟩]) (.seq (.ops [⟨(some 56), (.mov (.t 4) false none), none⟩, ⟨(some 57), (.call 101 [((.t 56), none)] none), none⟩, ⟨(some 58), (.not (.t 57)), none⟩, ⟨(some 59), (.mov (.t 58) true none), none⟩, ⟨(some 60), (.fieldA 4 (.t 1)), (some (59, false))⟩, ⟨(some 61), (.load false 1 (.t 60) false), (some (59, false))⟩, ⟨(some 62), (.mov (.t 3) false none), (some (59, false))⟩, ⟨(some 63), (.slice 1 (.t 61) none (some (.t 62))), (some (59, false))⟩, ⟨(some 64), (.mov (.t 4) false none), (some (59, false))⟩, ⟨(some 65), (.call 84 [((.t 63), (some 1)), ((.t 64), none)] none), (some (59, false))⟩, ⟨(some 66), (.pick (.t 59) (.c (.d (.bool true))) (.t 65)), none⟩]) (.cond (.t 66) (.seq (.ops [⟨(some 2), (.mov (.c (.d (.int .i64 1))) true none), none⟩]) .ret) .skip)))) (.ops [⟨(some 67), (.bin false .add (.t 51) (.c (.d (.int .i64 1)))), none⟩, ⟨(some 51), (.mov (.t 67) true none), none⟩]))))))) (.seq (.ops [⟨(some 5), (.mov (.c (.d (.int .i64 0))) true none), none⟩]) (.seq (.seq (.ops [⟨(some 68), (.fieldA 5 (.t 1)), none⟩, ⟨(some 69), (.load false 1 (.t 68) false), none⟩, ⟨(some 70), (.len (.t 69)), none⟩, ⟨(some 71), (.mov (.c (.d (.int .i64 0))) false none), none⟩]) (.block 3 (.loop (.seq (.ops [⟨(some 72), (.bin false .lss (.t 71) (.t 70)), none⟩]) (.seq (.cond (.t 72) .skip (.exit 3)) (.seq (.block 4 (.seq (.ops [⟨(some 73), (.idxA 7 (.t 69) (.t 71)), none⟩, ⟨(some 74), (.load true 7 (.t 73) false), none⟩, ⟨(some 7), (.alloc [(.d (.int .i64 0)), (.d (.int .i64 0)), (.d (.int .i64 0)), (.d (.str [])), (.d (.int .i64 0)), (.own 1 []), (.d (.str []))]), none⟩, ⟨none, (.store true 7 (.t 7) (.t 74) none), none⟩]) (.seq (.seq (.ops [⟨(some 75), (.load true 6 (.t 1) false), none⟩, ⟨(some 76), (.load true 7 (.t 7) false), none⟩, ⟨(some 77), (.call 89 [((.t 75), none), ((.t 76), none)] none), none⟩, ⟨(some 78), (.bin false .neq (.t 77) (.c (.d (.int .i64 0)))), none⟩, ⟨(some 79), (.mov (.t 78) true none), none⟩, ⟨(some 80), (.fieldA 0 (.t 7)), (some (79, false))⟩, ⟨(some 81), (.load false 1 (.t 80) false), (some (79, false))⟩, ⟨(some 82), (.mov (.t 5) false none), (some (79, false))⟩, ⟨(some 83), (.bin false .leq (.t 81) (.t 82)), (some (79, false))⟩, ⟨(some 84), (.pick (.t 79) (.c (.d (.bool true))) (.t 83)), none⟩, ⟨(some 85), (.mov (.t 84) true none), none⟩, ⟨(some 86), (.fieldA 0 (.t 7)), (some (85, false))⟩, ⟨(some 87), (.load false 1 (.t 86) false), (some (85, false))⟩, ⟨(some 88), (.fieldA 2 (.t 1)), (some (85, false))⟩, ⟨(some 89), (.load false 1 (.t 88) false), (some (85, false))⟩, ⟨(some 90), (.bin false .geq (.t 87) (.t 89)), (some (85, false))⟩, ⟨(some 91), (.pick (.t 85) (.c (.d (.bool true))) (.t 90)), none⟩, ⟨(some 92), (.mov (.t 91) true none), none⟩, ⟨(some 93), (.fieldA 1 (.t 7)), (some (92, false))⟩, ⟨(some 94), (.load false 1 (.t 93) false), (some (92, false))⟩, ⟨(some 95), (.fieldA 3 (.t 1)), (some (92, false))⟩, ⟨(some 96), (.load false 1 (.t 95) false), (some (92, false))⟩, ⟨(some 97), (.bin false .gtr (.t 94) (.t 96)), (some (92, false))⟩, ⟨(some 98), (.pick (.t 92) (.c (.d (.bool true))) (.t 97)), none⟩]) (.cond (.t 98) (.seq (.ops [⟨(some 2), (.mov (.c (.d (.int .i64 1))) true none), none⟩]) .ret) .skip)) (.ops [⟨(some 99), (.fieldA 0 (.t 7)), none⟩, ⟨(some 100), (.load false 1 (.t 99) false), none⟩, ⟨(some 5), (.mov (.t 100) true none), none⟩])))) (.ops [⟨(some 101), (.bin false .add (.t 71) (.c (.d (.int .i64 1)))), none⟩, ⟨(some 71), (.mov (.t 101) true none), none⟩]))))))) (.seq (.ops [⟨(some 2), (.mov (.c (.d (.int .i64 0))) true none), none⟩]) .ret)))))), [(.tm 2)], 1, 102⟩
theorem t47 : trF P HH 47 = some af47 := by kernel_rfl
def af84 : AF := ⟨(.seq (.ops [⟨(some 4), (.mov (.c (.d (.bool false))) true none), none⟩]) (.seq (.ops [⟨(some 5), (.mov (.t 0) false (some 1)), none⟩, ⟨(some 6), (.mov (.t 1) false none), none⟩, ⟨(some 7), (.call 124 [((.t 5), (some 1)), ((.t 6), none)] none), none⟩, ⟨(some 8), (.bin false .geq (.t 7) (.c (.d (.int .i64 0)))), none⟩, ⟨(some 4), (.mov (.t 8) true none), none⟩]) .ret)), [(.tm 4)], 2, 9⟩
theorem t84 : trF P HH 84 = some af84 := by kernel_rfl
def af89 : AF := ⟨(.seq (.ops [⟨(some 2), (.box 6 true (.t 0)), none⟩, ⟨(some 3), (.box 7 true (.t 1)), none⟩, ⟨(some 4), (.mov (.c (.d (.int .i64 0))) true none), none⟩]) (.seq (.seq (.ops [⟨(some 5), (.fieldA 0 (.t 3)), none⟩, ⟨(some 6), (.load false 1 (.t 5) false), none⟩, ⟨(some 7), (.call 100 [((.t 6), none), ((.c (.d (.int .i64 1))), none), ((.c (.d (.int .i64 999999))), none)] none), none⟩, ⟨(some 8), (.not (.t 7)), none⟩, ⟨(some 9), (.mov (.t 8) true none), none⟩, ⟨(some 10), (.fieldA 1 (.t 3)), (some (9, false))⟩, ⟨(some 11), (.load false 1 (.t 10) false), (some (9, false))⟩, ⟨(some 12), (.call 100 [((.t 11), none), ((.c (.d (.int .i64 1))), none), ((.c (.d (.int .i64 1000000))), none)] none), (some (9, false))⟩, ⟨(some 13), (.not (.t 12)), (some (9, false))⟩, ⟨(some 14), (.pick (.t 9) (.c (.d (.bool true))) (.t 13)), none⟩, ⟨(some 15), (.mov (.t 14) true none), none⟩, ⟨(some 16), (.fieldA 2 (.t 3)), (some (15, false))⟩, ⟨(some 17), (.load false 1 (.t 16) false), (some (15, false))⟩, ⟨(some 18), (.call 100 [((.t 17), none), ((.c (.d (.int .i64 0))), none), ((.c (.d (.int .i64 1000000))), none)] none), (some (15, false))⟩, ⟨(some 19), (.not (.t 18)), (some (15, false))⟩, ⟨(some 20), (.pick (.t 15) (.c (.d (.bool true))) (.t 19)), none⟩, ⟨(some 21), (.mov (.t 20) true none), none⟩, ⟨(some 22), (.fieldA 3 (.t 3)), (some (21, false))⟩, ⟨(some 23), (.load false 1 (.t 22) false), (some (21, false))⟩, ⟨(some 24), (.call 99 [((.t 23), none)] none), (some (21, false))⟩, ⟨(some 25), (.not (.t 24)), (some (21, false))⟩, ⟨(some 26), (.pick (.t 21) (.c (.d (.bool true))) (.t 25)), none⟩, ⟨(some 27), (.mov (.t 26) true none), none⟩, ⟨(some 28), (.fieldA 4 (.t 3)), (some (27, false))⟩, ⟨(some 29), (.load false 1 (.t 28) false), (some (27, false))⟩, ⟨(some 30), (.call 100 [((.t 29), none), ((.c (.d (.int .i64 0))), none), ((.c (.d (.int .i64 31))), none)] none), (some (27, false))⟩, ⟨(some 31), (.not (.t 30)), (some (27, false))⟩, ⟨(some 32), (.pick (.t 27) (.c (.d (.bool true))) (.t 31)), none⟩, ⟨(some 33), (.mov (.t 32) true none), none⟩, ⟨(some 34), (.fieldA 5 (.t 3)), (some (33, false))⟩, ⟨(some 35), (.load false 1 (.t 34) false), (some (33, false))⟩, ⟨(some 36), (.fieldA 4 (.t 2)), (some (33, false))⟩, ⟨(some 37), (.load false 1 (.t 36) false), (some (33, false))⟩, ⟨(some 38), (.len (.t 37)), (some (33, false))⟩, ⟨(some 39), (.call 128 [((.t 35), (some 1)), ((.t 38), none)] none), (some (33, false))⟩, ⟨(some 40), (.not (.t 39)), (some (33, false))⟩, ⟨(some 41), (.pick (.t 33) (.c (.d (.bool true))) (.t 40)), none⟩, ⟨(some 42), (.mov (.t 41) true none), none⟩, ⟨(some 43), (.fieldA 6 (.t 3)), (some (42, false))⟩, ⟨(some 44), (.load false 1 (.t 43) false), (some (42, false))⟩, ⟨(some 45), (.lenS (.t 44)), (some (42, false))⟩, ⟨(some 46), (.bin false .gtr (.t 45) (.c (.d (.int .i64 300)))), (some (42, false))⟩, ⟨(some 47), (.pick (.t 42) (.c (.d (.bool true))) (.t 46)), none⟩]) (.cond (.t 47) (.seq (.ops [⟨(some 4), (.mov (.c (.d (.int .i64 1))) true none), none⟩]) .ret) .skip)) (.seq (.ops [⟨(some 4), (.mov (.c (.d (.int .i64 0))) true none), none⟩]) .ret))), [(.tm 4)], 2, 48⟩
theorem t89 : trF P HH 89 = some af89 := by kernel_rfl
def af98 : AF := ⟨(.seq (.ops [⟨(some 4), (.mov (.c (.d (.bool false))) true none), none⟩]) (.seq (.ops [⟨(some 5), (.mov (.c (.d (.int .i64 (-1)))) true none), none⟩]) (.seq (.seq (.ops [⟨(some 8), (.mov (.t 0) false (some 1)), none⟩, ⟨(some 9), (.len (.t 8)), none⟩, ⟨(some 10), (.mov (.c (.d (.int .i64 0))) false none), none⟩]) (.block 0 (.loop (.seq (.ops [⟨(some 11), (.bin false .lss (.t 10) (.t 9)), none⟩]) (.seq (.cond (.t 11) .skip (.exit 0)) (.seq (.block 1 (.seq (.ops [⟨(some 12), (.idxA 1 (.t 8) (.t 10)), none⟩, ⟨(some 13), (.load false 1 (.t 12) false), none⟩, ⟨(some 7), (.mov (.t 13) true none), none⟩]) (.seq (.seq (.ops [⟨(some 14), (.mov (.t 7) false none), none⟩, ⟨(some 15), (.mov (.t 5) false none), none⟩, ⟨(some 16), (.bin false .leq (.t 14) (.t 15)), none⟩, ⟨(some 17), (.mov (.t 16) true none), none⟩, ⟨(some 18), (.mov (.t 7) false none), (some (17, false))⟩, ⟨(some 19), (.mov (.t 1) false none), (some (17, false))⟩, ⟨(some 20), (.bin false .geq (.t 18) (.t 19)), (some (17, false))⟩, ⟨(some 21), (.pick (.t 17) (.c (.d (.bool true))) (.t 20)), none⟩]) (.cond (.t 21) (.seq (.ops [⟨(some 4), (.mov (.c (.d (.bool false))) true none), none⟩]) .ret) .skip)) (.ops [⟨(some 22), (.mov (.t 7) false none), none⟩, ⟨(some 5), (.mov (.t 22) true none), none⟩])))) (.ops [⟨(some 23), (.bin false .add (.t 10) (.c (.d (.int .i64 1)))), none⟩, ⟨(some 10), (.mov (.t 23) true none), none⟩]))))))) (.seq (.ops [⟨(some 4), (.mov (.c (.d (.bool true))) true none), none⟩]) .ret)))), [(.tm 4)], 2, 24⟩
theorem t98 : trF P HH 98 = some af98 := by kernel_rfl
def af99 : AF := ⟨(.seq (.ops [⟨(some 2), (.mov (.c (.d (.bool false))) true none), none⟩]) (.seq (.seq (.ops [⟨(some 5), (.mov (.t 0) false none), none⟩, ⟨(some 6), (.lenS (.t 5)), none⟩, ⟨(some 7), (.mov (.c (.d (.int .i64 0))) false none), none⟩]) (.block 0 (.loop (.seq (.ops [⟨(some 8), (.bin false .lss (.t 7) (.t 6)), none⟩]) (.seq (.cond (.t 8) .skip (.exit 0)) (.seq (.block 1 (.seq (.ops [⟨(some 9), (.mov (.t 7) true none), none⟩, ⟨(some 3), (.mov (.t 9) true none), none⟩]) (.seq (.ops [⟨(some 10), (.mov (.t 0) false none), none⟩, ⟨(some 11), (.mov (.t 3) false none), none⟩, ⟨(some 12), (.idxS (.t 10) (.t 11)), none⟩, ⟨(some 4), (.mov (.t 12) true none), none⟩]) (.seq (.ops [⟨(some 13), (.mov (.t 4) false none), none⟩, ⟨(some 14), (.bin false .geq (.t 13) (.c (.d (.int .u8 97)))), none⟩, ⟨(some 15), (.mov (.t 14) true none), none⟩, ⟨(some 16), (.mov (.t 4) false none), (some (15, true))⟩, ⟨(some 17), (.bin false .leq (.t 16) (.c (.d (.int .u8 122)))), (some (15, true))⟩, ⟨(some 18), (.pick (.t 15) (.t 17) (.c (.d (.bool false)))), none⟩, ⟨(some 19), (.mov (.t 18) true none), none⟩, ⟨(some 20), (.mov (.t 4) false none), (some (19, false))⟩, ⟨(some 21), (.bin false .geq (.t 20) (.c (.d (.int .u8 65)))), (some (19, false))⟩, ⟨(some 22), (.mov (.t 21) true none), (some (19, false))⟩, ⟨(some 23), (.mov (.t 4) false none), (some (22, true))⟩, ⟨(some 24), (.bin false .leq (.t 23) (.c (.d (.int .u8 90)))), (some (22, true))⟩, ⟨(some 25), (.pick (.t 22) (.t 24) (.c (.d (.bool false)))), (some (19, false))⟩, ⟨(some 26), (.pick (.t 19) (.c (.d (.bool true))) (.t 25)), none⟩, ⟨(some 27), (.mov (.t 26) true none), none⟩, ⟨(some 28), (.mov (.t 4) false none), (some (27, false))⟩, ⟨(some 29), (.bin false .geq (.t 28) (.c (.d (.int .u8 48)))), (some (27, false))⟩, ⟨(some 30), (.mov (.t 29) true none), (some (27, false))⟩, ⟨(some 31), (.mov (.t 4) false none), (some (30, true))⟩, ⟨(some 32), (.bin false .leq (.t 31) (.c (.d (.int .u8 57)))), (some (30, true))⟩, ⟨(some 33), (.pick (.t 30) (.t 32) (.c (.d (.bool false)))), (some (27, false))⟩, ⟨(some 34), (.pick (.t 27) (.c (.d (.bool true))) (.t 33)), none⟩, ⟨(some 35), (.mov (.t 34) true none), none⟩, ⟨(some 36), (.mov (.t 4) false none), (some (35, false))⟩, ⟨(some 37), (.call 130 [((.c (.d (.str [46, 95, 45, 36, 47]))), none), ((.t 36), none)] none), (some (35, false))⟩, ⟨(some 38), (.bin false .geq (.t 37) (.c (.d (.int .i64 0)))), (some (35, false))⟩, ⟨(some 39), (.pick (.t 35) (.c (.d (.bool true))) (.t 38)), none⟩, ⟨(some 40), (.not (.t 39)), none⟩]) (.cond (.t 40) (.seq (.ops [⟨(some 2), (.mov (.c (.d (.bool false))) true none), none⟩]) .ret) .skip))))) (.ops [⟨(some 41), (.bin false .add (.t 7) (.c (.d (.int .i64 1)))), none⟩, ⟨(some 7), (.mov (.t 41) true none), none⟩]))))))) (.seq (.ops [⟨(some 42), (.mov (.t 0) false none), none⟩, ⟨(some 43), (.lenS (.t 42)), none⟩, ⟨(some 44), (.bin false .geq (.t 43) (.c (.d (.int .i64 1)))), none⟩, ⟨(some 45), (.mov (.t 44) true none), none⟩, ⟨(some 46), (.mov (.t 0) false none), (some (45, true))⟩, ⟨(some 47), (.lenS (.t 46)), (some (45, true))⟩, ⟨(some 48), (.bin false .leq (.t 47) (.c (.d (.int .i64 24)))), (some (45, true))⟩, ⟨(some 49), (.pick (.t 45) (.t 48) (.c (.d (.bool false)))), none⟩, ⟨(some 2), (.mov (.t 49) true none), none⟩]) .ret))), [(.tm 2)], 1, 50⟩
theorem t99 : trF P HH 99 = some af99 := by kernel_rfl
def af100 : AF := ⟨(.seq (.ops [⟨(some 6), (.mov (.c (.d (.bool false))) true none), none⟩]) (.seq (.ops [⟨(some 7), (.mov (.t 0) false none), none⟩, ⟨(some 8), (.mov (.t 1) false none), none⟩, ⟨(some 9), (.bin false .geq (.t 7) (.t 8)), none⟩, ⟨(some 10), (.mov (.t 9) true none), none⟩, ⟨(some 11), (.mov (.t 0) false none), (some (10, true))⟩, ⟨(some 12), (.mov (.t 2) false none), (some (10, true))⟩, ⟨(some 13), (.bin false .leq (.t 11) (.t 12)), (some (10, true))⟩, ⟨(some 14), (.pick (.t 10) (.t 13) (.c (.d (.bool false)))), none⟩, ⟨(some 6), (.mov (.t 14) true none), none⟩]) .ret)), [(.tm 6)], 3, 15⟩
theorem t100 : trF P HH 100 = some af100 := by kernel_rfl
def af101 : AF := ⟨(.seq (.ops [⟨(some 2), (.mov (.c (.d (.bool false))) true none), none⟩]) (.seq (.ops [⟨(some 3), (.mov (.t 0) false none), none⟩, ⟨(some 4), (.call 99 [((.t 3), none)] none), none⟩, ⟨(some 2), (.mov (.t 4) true none), none⟩]) .ret)), [(.tm 2)], 1, 5⟩
theorem t101 : trF P HH 101 = some af101 := by kernel_rfl
def af124 : AF := ⟨(.seq (.ops [⟨(some 4), (.mov (.c (.d (.int .i64 0))) true none), none⟩]) (.seq (.seq (.ops [⟨(some 6), (.mov (.t 0) false (some 1)), none⟩, ⟨(some 7), (.len (.t 6)), none⟩, ⟨(some 8), (.mov (.c (.d (.int .i64 0))) false none), none⟩]) (.block 0 (.loop (.seq (.ops [⟨(some 9), (.bin false .lss (.t 8) (.t 7)), none⟩]) (.seq (.cond (.t 9) .skip (.exit 0)) (.seq (.block 1 (.seq (.ops [⟨(some 10), (.mov (.t 8) true none), none⟩, ⟨(some 5), (.mov (.t 10) true none), none⟩]) (.seq (.ops [⟨(some 11), (.mov (.t 1) false none), none⟩, ⟨(some 12), (.mov (.t 0) false (some 1)), none⟩, ⟨(some 13), (.mov (.t 5) false none), none⟩, ⟨(some 14), (.idxA 1 (.t 12) (.t 13)), none⟩, ⟨(some 15), (.load false 1 (.t 14) false), none⟩, ⟨(some 16), (.bin false .eql (.t 11) (.t 15)), none⟩]) (.cond (.t 16) (.seq (.ops [⟨(some 17), (.mov (.t 5) true none), none⟩, ⟨(some 4), (.mov (.t 17) true none), none⟩]) .ret) .skip)))) (.ops [⟨(some 18), (.bin false .add (.t 8) (.c (.d (.int .i64 1)))), none⟩, ⟨(some 8), (.mov (.t 18) true none), none⟩]))))))) (.seq (.ops [⟨(some 4), (.mov (.c (.d (.int .i64 (-1)))) true none), none⟩]) .ret))), [(.tm 4)], 2, 19⟩
theorem t124 : trF P HH 124 = some af124 := by kernel_rfl
def af128 : AF := ⟨(.seq (.ops [⟨(some 4), (.mov (.c (.d (.bool false))) true none), none⟩]) (.seq (.ops [⟨(some 5), (.mov (.c (.d (.int .i64 (-1)))) true none), none⟩]) (.seq (.seq (.ops [⟨(some 8), (.mov (.t 0) false (some 1)), none⟩, ⟨(some 9), (.len (.t 8)), none⟩, ⟨(some 10), (.mov (.c (.d (.int .i64 0))) false none), none⟩]) (.block 0 (.loop (.seq (.ops [⟨(some 11), (.bin false .lss (.t 10) (.t 9)), none⟩]) (.seq (.cond (.t 11) .skip (.exit 0)) (.seq (.block 1 (.seq (.ops [⟨(some 12), (.idxA 1 (.t 8) (.t 10)), none⟩, ⟨(some 13), (.load false 1 (.t 12) false), none⟩, ⟨(some 7), (.mov (.t 13) true none), none⟩]) (.seq (.seq (.ops [⟨(some 14), (.mov (.t 7) false none), none⟩, ⟨(some 15), (.mov (.t 5) false none), none⟩, ⟨(some 16), (.bin false .leq (.t 14) (.t 15)), none⟩, ⟨(some 17), (.mov (.t 16) true none), none⟩, ⟨(some 18), (.mov (.t 7) false none), (some (17, false))⟩, ⟨(some 19), (.mov (.t 1) false none), (some (17, false))⟩, ⟨(some 20), (.bin false .geq (.t 18) (.t 19)), (some (17, false))⟩, ⟨(some 21), (.pick (.t 17) (.c (.d (.bool true))) (.t 20)), none⟩]) (.cond (.t 21) (.seq (.ops [⟨(some 4), (.mov (.c (.d (.bool false))) true none), none⟩]) .ret) .skip)) (.ops [⟨(some 22), (.mov (.t 7) false none), none⟩, ⟨(some 5), (.mov (.t 22) true none), none⟩])))) (.ops [⟨(some 23), (.bin false .add (.t 10) (.c (.d (.int .i64 1)))), none⟩, ⟨(some 10), (.mov (.t 23) true none), none⟩]))))))) (.seq (.ops [⟨(some 4), (.mov (.c (.d (.bool true))) true none), none⟩]) .ret)))), [(.tm 4)], 2, 24⟩
theorem t128 : trF P HH 128 = some af128 := by kernel_rfl
theorem vc101 (s0 : Bytes) (res : CV) (objs' : List (Nat × List CV)) : walkA P (tbF P [102,103,50,48,53,56,105,58,107] [] 101) (anOf af101 []) af101 [CV.d (D.str s0)] [] (fun rs => endE rs res objs') = ((∃ b1 : Bool, ((Runs P 99 [CV.d (D.str s0)] [] (CV.d (D.bool b1)) []) ∧ EndR (CV.d (D.bool b1)) res [] objs'))) := by kernel_rfl
theorem vc100 (n0 : Int) (n1 : Int) (n2 : Int) (res : CV) (objs' : List (Nat × List CV)) : walkA P (tbF P [102,103,50,48,53,56,105,58,107] [] 100) (anOf af100 []) af100 [CV.d (D.int .i64 n0), CV.d (D.int .i64 n1), CV.d (D.int .i64 n2)] [] (fun rs => endE rs res objs') = ((∀ b3 : Bool, ((decide (n0 ≥ n1) && decide (n0 ≤ n2)) = b3 → EndR (CV.d (D.bool b3)) res [] objs'))) := by kernel_rfl
theorem vc99 (s0 : Bytes) (res : CV) (objs' : List (Nat × List CV)) : walkA P (tbF P [102,103,50,48,53,56,105,58,107] [] 99) (anOf af99 []) af99 [CV.d (D.str s0)] [] (fun rs => endE rs res objs') = ((∃ I1 : (Int → (Nat → Prop)), ((∃ k2 : Nat, I1 0 k2) ∧ (∀ n3 : Int, (∀ k4 : Nat, (I1 n3 k4 → (((decide (n3 < nI (List.length s0))) = true → ((0 ≤ n3 ∧ n3 < nI (List.length s0)) ∧ (∀ b5 : Bool, ((decide (nI (UInt8.toNat (List.getD s0 (Int.toNat n3) 0)) ≥ 97) && decide (nI (UInt8.toNat (List.getD s0 (Int.toNat n3) 0)) ≤ 122)) = b5 → (∀ b6 : Bool, ((decide (nI (UInt8.toNat (List.getD s0 (Int.toNat n3) 0)) ≥ 65) && decide (nI (UInt8.toNat (List.getD s0 (Int.toNat n3) 0)) ≤ 90)) = b6 → (∀ b7 : Bool, ((b5 || b6) = b7 → (∀ b8 : Bool, ((decide (nI (UInt8.toNat (List.getD s0 (Int.toNat n3) 0)) ≥ 48) && decide (nI (UInt8.toNat (List.getD s0 (Int.toNat n3) 0)) ≤ 57)) = b8 → (∀ b9 : Bool, ((b7 || b8) = b9 → (∃ n10 : Int, (((!b9) = true → Runs P 130 [CV.d (D.str [46, 95, 45, 36, 47]), CV.d (D.int .u8 (nI (UInt8.toNat (List.getD s0 (Int.toNat n3) 0))))] [] (CV.d (D.int .i64 n10)) []) ∧ (∀ b11 : Bool, ((b9 || decide (n10 ≥ 0)) = b11 → (((!b11) = true → EndR (CV.d (D.bool false)) res [] objs') ∧ ((!b11) = false → (∀ n12 : Int, (Go.IntKind.wrap Go.IntKind.i64 (n3 + 1) = n12 → (∃ k13 : Nat, ((k13 < k4) ∧ I1 n12 k13)))))))))))))))))))))) ∧ ((decide (n3 < nI (List.length s0))) = false → (∀ b14 : Bool, ((decide (nI (List.length s0) ≥ 1) && decide (nI (List.length s0) ≤ 24)) = b14 → EndR (CV.d (D.bool b14)) res [] objs')))))))))) := by kernel_rfl
theorem vc45 (s0 : Bytes) (res : CV) (objs' : List (Nat × List CV)) : walkA P (tbF P [102,103,50,48,53,56,105,58,107] [] 45) (anOf af45 []) af45 [CV.d (D.str s0)] [] (fun rs => endE rs res objs') = ((∀ b1 : Bool, ((decide (nI (List.length s0) < 1) || decide (nI (List.length s0) > 24)) = b1 → (((b1) = true → EndR (CV.d (D.bool false)) res [] objs') ∧ ((b1) = false → (∃ I2 : (Int → (Nat → Prop)), ((∃ k3 : Nat, I2 0 k3) ∧ (∀ n4 : Int, (∀ k5 : Nat, (I2 n4 k5 → (((decide (n4 < nI (List.length s0))) = true → ((0 ≤ n4 ∧ n4 < nI (List.length s0)) ∧ (∀ b6 : Bool, ((decide (nI (UInt8.toNat (List.getD s0 (Int.toNat n4) 0)) < 97) || decide (nI (UInt8.toNat (List.getD s0 (Int.toNat n4) 0)) > 122)) = b6 → (∀ b7 : Bool, ((decide (nI (UInt8.toNat (List.getD s0 (Int.toNat n4) 0)) < 65) || decide (nI (UInt8.toNat (List.getD s0 (Int.toNat n4) 0)) > 90)) = b7 → (∀ b8 : Bool, ((b6 && b7) = b8 → (∀ b9 : Bool, ((decide (nI (UInt8.toNat (List.getD s0 (Int.toNat n4) 0)) < 48) || decide (nI (UInt8.toNat (List.getD s0 (Int.toNat n4) 0)) > 57)) = b9 → (∀ b10 : Bool, ((b8 && b9) = b10 → (∀ b11 : Bool, ((b10 && nI (UInt8.toNat (List.getD s0 (Int.toNat n4) 0)) != 46) = b11 → (∀ b12 : Bool, ((b11 && nI (UInt8.toNat (List.getD s0 (Int.toNat n4) 0)) != 95) = b12 → (∀ b13 : Bool, ((b12 && nI (UInt8.toNat (List.getD s0 (Int.toNat n4) 0)) != 45) = b13 → (∀ b14 : Bool, ((b13 && nI (UInt8.toNat (List.getD s0 (Int.toNat n4) 0)) != 36) = b14 → (∀ b15 : Bool, ((b14 && nI (UInt8.toNat (List.getD s0 (Int.toNat n4) 0)) != 47) = b15 → (((b15) = true → EndR (CV.d (D.bool false)) res [] objs') ∧ ((b15) = false → (∀ n16 : Int, (Go.IntKind.wrap Go.IntKind.i64 (n4 + 1) = n16 → (∃ k17 : Nat, ((k17 < k5) ∧ I2 n16 k17)))))))))))))))))))))))))))) ∧ ((decide (n4 < nI (List.length s0))) = false → EndR (CV.d (D.bool true)) res [] objs')))))))))))) := by kernel_rfl
theorem vc98 (l0 : List D) (n1 : Int) (res : CV) (objs' : List (Nat × List CV)) : walkA P (tbF P [102,103,50,48,53,56,105,58,107] [] 98) (anOf af98 []) af98 [CV.d (D.slice 1 l0), CV.d (D.int .i64 n1)] [] (fun rs => endE rs res objs') = ((∃ I2 : (Int → (Int → (Nat → Prop))), ((∃ k3 : Nat, I2 (-1) 0 k3) ∧ (∀ n4 : Int, (∀ n5 : Int, (∀ k6 : Nat, (I2 n4 n5 k6 → (((decide (n5 < nI (List.length l0))) = true → ((0 ≤ n5 ∧ n5 < nI (List.length l0)) ∧ (∃ n7 : Int, ((D.cells (List.getD l0 (Int.toNat n5) D.nilp) = [D.int .i64 n7]) ∧ (∀ b8 : Bool, ((decide (n7 ≤ n4) || decide (n7 ≥ n1)) = b8 → (((b8) = true → EndR (CV.d (D.bool false)) res [] objs') ∧ ((b8) = false → (∀ n9 : Int, (Go.IntKind.wrap Go.IntKind.i64 (n5 + 1) = n9 → (∃ k10 : Nat, ((k10 < k6) ∧ I2 n7 n9 k10)))))))))))) ∧ ((decide (n5 < nI (List.length l0))) = false → EndR (CV.d (D.bool true)) res [] objs'))))))))) := by kernel_rfl
theorem vc128 (l0 : List D) (n1 : Int) (res : CV) (objs' : List (Nat × List CV)) : walkA P (tbF P [102,103,50,48,53,56,105,58,107] [] 128) (anOf af128 []) af128 [CV.d (D.slice 1 l0), CV.d (D.int .i64 n1)] [] (fun rs => endE rs res objs') = ((∃ I2 : (Int → (Int → (Nat → Prop))), ((∃ k3 : Nat, I2 (-1) 0 k3) ∧ (∀ n4 : Int, (∀ n5 : Int, (∀ k6 : Nat, (I2 n4 n5 k6 → (((decide (n5 < nI (List.length l0))) = true → ((0 ≤ n5 ∧ n5 < nI (List.length l0)) ∧ (∃ n7 : Int, ((D.cells (List.getD l0 (Int.toNat n5) D.nilp) = [D.int .i64 n7]) ∧ (∀ b8 : Bool, ((decide (n7 ≤ n4) || decide (n7 ≥ n1)) = b8 → (((b8) = true → EndR (CV.d (D.bool false)) res [] objs') ∧ ((b8) = false → (∀ n9 : Int, (Go.IntKind.wrap Go.IntKind.i64 (n5 + 1) = n9 → (∃ k10 : Nat, ((k10 < k6) ∧ I2 n7 n9 k10)))))))))))) ∧ ((decide (n5 < nI (List.length l0))) = false → EndR (CV.d (D.bool true)) res [] objs'))))))))) := by kernel_rfl
theorem vc36 (l0 : List D) (s1 : Bytes) (res : CV) (objs' : List (Nat × List CV)) : walkA P (tbF P [102,103,50,48,53,56,105,58,107] [] 36) (anOf af36 []) af36 [CV.d (D.slice 1 l0), CV.d (D.str s1)] [] (fun rs => endE rs res objs') = ((∃ I2 : (Int → (Nat → Prop)), ((∃ k3 : Nat, I2 0 k3) ∧ (∀ n4 : Int, (∀ k5 : Nat, (I2 n4 k5 → (((decide (n4 < nI (List.length l0))) = true → ((0 ≤ n4 ∧ n4 < nI (List.length l0)) ∧ (∃ s6 : Bytes, ((D.cells (List.getD l0 (Int.toNat n4) D.nilp) = [D.str s6]) ∧ (((s6 == s1) = true → EndR (CV.d (D.bool true)) res [] objs') ∧ ((s6 == s1) = false → (∀ n7 : Int, (Go.IntKind.wrap Go.IntKind.i64 (n4 + 1) = n7 → (∃ k8 : Nat, ((k8 < k5) ∧ I2 n7 k8)))))))))) ∧ ((decide (n4 < nI (List.length l0))) = false → EndR (CV.d (D.bool false)) res [] objs')))))))) := by kernel_rfl
theorem vc84 (l0 : List D) (s1 : Bytes) (res : CV) (objs' : List (Nat × List CV)) : walkA P (tbF P [102,103,50,48,53,56,105,58,107] [] 84) (anOf af84 []) af84 [CV.d (D.slice 1 l0), CV.d (D.str s1)] [] (fun rs => endE rs res objs') = ((∃ n2 : Int, ((Runs P 124 [CV.d (D.slice 1 l0), CV.d (D.str s1)] [] (CV.d (D.int .i64 n2)) []) ∧ EndR (CV.d (D.bool (decide (n2 ≥ 0)))) res [] objs'))) := by kernel_rfl
theorem vc124 (l0 : List D) (s1 : Bytes) (res : CV) (objs' : List (Nat × List CV)) : walkA P (tbF P [102,103,50,48,53,56,105,58,107] [] 124) (anOf af124 []) af124 [CV.d (D.slice 1 l0), CV.d (D.str s1)] [] (fun rs => endE rs res objs') = ((∃ I2 : (Int → (Nat → Prop)), ((∃ k3 : Nat, I2 0 k3) ∧ (∀ n4 : Int, (∀ k5 : Nat, (I2 n4 k5 → (((decide (n4 < nI (List.length l0))) = true → ((0 ≤ n4 ∧ n4 < nI (List.length l0)) ∧ (∃ s6 : Bytes, ((D.cells (List.getD l0 (Int.toNat n4) D.nilp) = [D.str s6]) ∧ (((s1 == s6) = true → EndR (CV.d (D.int .i64 n4)) res [] objs') ∧ ((s1 == s6) = false → (∀ n7 : Int, (Go.IntKind.wrap Go.IntKind.i64 (n4 + 1) = n7 → (∃ k8 : Nat, ((k8 < k5) ∧ I2 n7 k8)))))))))) ∧ ((decide (n4 < nI (List.length l0))) = false → EndR (CV.d (D.int .i64 (-1 : Int))) res [] objs')))))))) := by kernel_rfl
theorem vc89 (s0 : Bytes) (n1 : Int) (n2 : Int) (n3 : Int) (l4 : List D) (l5 : List D) (n6 : Int) (n7 : Int) (n8 : Int) (s9 : Bytes) (n10 : Int) (l11 : List D) (s12 : Bytes) (res : CV) (objs' : List (Nat × List CV)) : walkA P (tbF P [102,103,50,48,53,56,105,58,107] [] 89) (anOf af89 []) af89 [CV.d (D.agg [D.str s0, D.int .i64 n1, D.int .i64 n2, D.int .i64 n3, D.slice 1 l4, D.slice 7 l5]), CV.d (D.agg [D.int .i64 n6, D.int .i64 n7, D.int .i64 n8, D.str s9, D.int .i64 n10, D.slice 1 l11, D.str s12])] [] (fun rs => endE rs res objs') = ((∃ b13 : Bool, ((Runs P 100 [CV.d (D.int .i64 n6), CV.d (D.int .i64 1), CV.d (D.int .i64 999999)] [] (CV.d (D.bool b13)) []) ∧ (∃ b14 : Bool, (((!!b13) = true → Runs P 100 [CV.d (D.int .i64 n7), CV.d (D.int .i64 1), CV.d (D.int .i64 1000000)] [] (CV.d (D.bool b14)) []) ∧ (∀ b15 : Bool, ((!b13 || !b14) = b15 → (∃ b16 : Bool, (((!b15) = true → Runs P 100 [CV.d (D.int .i64 n8), CV.d (D.int .i64 0), CV.d (D.int .i64 1000000)] [] (CV.d (D.bool b16)) []) ∧ (∀ b17 : Bool, ((b15 || !b16) = b17 → (∃ b18 : Bool, (((!b17) = true → Runs P 99 [CV.d (D.str s9)] [] (CV.d (D.bool b18)) []) ∧ (∀ b19 : Bool, ((b17 || !b18) = b19 → (∃ b20 : Bool, (((!b19) = true → Runs P 100 [CV.d (D.int .i64 n10), CV.d (D.int .i64 0), CV.d (D.int .i64 31)] [] (CV.d (D.bool b20)) []) ∧ (∀ b21 : Bool, ((b19 || !b20) = b21 → (∃ b22 : Bool, (((!b21) = true → Runs P 128 [CV.d (D.slice 1 l11), CV.d (D.int .i64 (nI (List.length l4)))] [] (CV.d (D.bool b22)) []) ∧ (∀ b23 : Bool, ((b21 || !b22) = b23 → (∀ b24 : Bool, ((b23 || decide (nI (List.length s12) > 300)) = b24 → (((b24) = true → EndR (CV.d (D.int .i64 (1 : Int))) res [(2, [CV.d (D.str s0), CV.d (D.int .i64 n1), CV.d (D.int .i64 n2), CV.d (D.int .i64 n3), CV.d (D.slice 1 l4), CV.d (D.slice 7 l5)]), (3, [CV.d (D.int .i64 n6), CV.d (D.int .i64 n7), CV.d (D.int .i64 n8), CV.d (D.str s9), CV.d (D.int .i64 n10), CV.d (D.slice 1 l11), CV.d (D.str s12)])] objs') ∧ ((b24) = false → EndR (CV.d (D.int .i64 (0 : Int))) res [(2, [CV.d (D.str s0), CV.d (D.int .i64 n1), CV.d (D.int .i64 n2), CV.d (D.int .i64 n3), CV.d (D.slice 1 l4), CV.d (D.slice 7 l5)]), (3, [CV.d (D.int .i64 n6), CV.d (D.int .i64 n7), CV.d (D.int .i64 n8), CV.d (D.str s9), CV.d (D.int .i64 n10), CV.d (D.slice 1 l11), CV.d (D.str s12)])] objs'))))))))))))))))))))))))))) := by kernel_rfl
theorem vc46 (s0 : Bytes) (n1 : Int) (n2 : Int) (n3 : Int) (l4 : List D) (l5 : List D) (n6 : Int) (n7 : Int) (n8 : Int) (s9 : Bytes) (n10 : Int) (l11 : List D) (s12 : Bytes) (res : CV) (objs' : List (Nat × List CV)) : walkA P (tbF P [102,103,50,48,53,56,105,58,107] [] 46) (anOf af46 []) af46 [CV.d (D.agg [D.str s0, D.int .i64 n1, D.int .i64 n2, D.int .i64 n3, D.slice 1 l4, D.slice 7 l5]), CV.d (D.agg [D.int .i64 n6, D.int .i64 n7, D.int .i64 n8, D.str s9, D.int .i64 n10, D.slice 1 l11, D.str s12])] [] (fun rs => endE rs res objs') = ((∀ b13 : Bool, ((decide (n6 < 1) || decide (n6 ≥ 1000000)) = b13 → (∀ b14 : Bool, ((b13 || decide (n7 < 1)) = b14 → (∀ b15 : Bool, ((b14 || decide (n7 > 1000000)) = b15 → (∀ b16 : Bool, ((b15 || decide (n8 < 0)) = b16 → (∀ b17 : Bool, ((b16 || decide (n8 > 1000000)) = b17 → (∃ b18 : Bool, (((!b17) = true → Runs P 45 [CV.d (D.str s9)] [] (CV.d (D.bool b18)) []) ∧ (∀ b19 : Bool, ((b17 || !b18) = b19 → (∀ b20 : Bool, ((b19 || decide (n10 < 0)) = b20 → (∀ b21 : Bool, ((b20 || decide (n10 > 31)) = b21 → (∃ b22 : Bool, (((!b21) = true → Runs P 98 [CV.d (D.slice 1 l11), CV.d (D.int .i64 (nI (List.length l4)))] [] (CV.d (D.bool b22)) []) ∧ (∀ b23 : Bool, ((b21 || !b22) = b23 → (∀ b24 : Bool, ((b23 || decide (nI (List.length s12) > 300)) = b24 → (((b24) = true → EndR (CV.d (D.int .i64 (1 : Int))) res [(2, [CV.d (D.str s0), CV.d (D.int .i64 n1), CV.d (D.int .i64 n2), CV.d (D.int .i64 n3), CV.d (D.slice 1 l4), CV.d (D.slice 7 l5)]), (3, [CV.d (D.int .i64 n6), CV.d (D.int .i64 n7), CV.d (D.int .i64 n8), CV.d (D.str s9), CV.d (D.int .i64 n10), CV.d (D.slice 1 l11), CV.d (D.str s12)])] objs') ∧ ((b24) = false → EndR (CV.d (D.int .i64 (0 : Int))) res [(2, [CV.d (D.str s0), CV.d (D.int .i64 n1), CV.d (D.int .i64 n2), CV.d (D.int .i64 n3), CV.d (D.slice 1 l4), CV.d (D.slice 7 l5)]), (3, [CV.d (D.int .i64 n6), CV.d (D.int .i64 n7), CV.d (D.int .i64 n8), CV.d (D.str s9), CV.d (D.int .i64 n10), CV.d (D.slice 1 l11), CV.d (D.str s12)])] objs'))))))))))))))))))))))))))) := by kernel_rfl
theorem vc47 (s0 : Bytes) (n1 : Int) (n2 : Int) (n3 : Int) (l4 : List D) (l5 : List D) (res : CV) (objs' : List (Nat × List CV)) : walkA P (tbF P [102,103,50,48,53,56,105,58,107] [] 47) (anOf af47 []) af47 [CV.d (D.agg [D.str s0, D.int .i64 n1, D.int .i64 n2, D.int .i64 n3, D.slice 1 l4, D.slice 7 l5])] [] (fun rs => endE rs res objs') = ((∃ b6 : Bool, ((Runs P 99 [CV.d (D.str s0)] [] (CV.d (D.bool b6)) []) ∧ (∀ b7 : Bool, ((!b6 || decide (nI (List.length s0) > 12)) = b7 → (∃ b8 : Bool, (((!b7) = true → Runs P 100 [CV.d (D.int .i64 n1), CV.d (D.int .i64 1), CV.d (D.int .i64 1000000)] [] (CV.d (D.bool b8)) []) ∧ (∀ b9 : Bool, ((b7 || !b8) = b9 → (∃ b10 : Bool, (((!b9) = true → Runs P 100 [CV.d (D.int .i64 n3), CV.d (D.int .i64 1), CV.d (D.int .i64 1000000)] [] (CV.d (D.bool b10)) []) ∧ (∀ b11 : Bool, ((b9 || !b10) = b11 → (∃ b12 : Bool, (((!b11) = true → Runs P 100 [CV.d (D.int .i64 n2), CV.d (D.int .i64 1), CV.d (D.int .i64 1000000)] [] (CV.d (D.bool b12)) []) ∧ (∀ b13 : Bool, ((b11 || !b12) = b13 → (((b13) = true → EndR (CV.d (D.int .i64 (1 : Int))) res [(1, [CV.d (D.str s0), CV.d (D.int .i64 n1), CV.d (D.int .i64 n2), CV.d (D.int .i64 n3), CV.d (D.slice 1 l4), CV.d (D.slice 7 l5)])] objs') ∧ ((b13) = false → (∀ b14 : Bool, ((decide (nI (List.length l4) > 64) || decide (nI (List.length l5) > 60)) = b14 → (((b14) = true → EndR (CV.d (D.int .i64 (4 : Int))) res [(1, [CV.d (D.str s0), CV.d (D.int .i64 n1), CV.d (D.int .i64 n2), CV.d (D.int .i64 n3), CV.d (D.slice 1 l4), CV.d (D.slice 7 l5)])] objs') ∧ ((b14) = false → (∃ I15 : (Int → (Nat → Prop)), ((∃ k16 : Nat, I15 0 k16) ∧ (∀ n17 : Int, (∀ k18 : Nat, (I15 n17 k18 → (((decide (n17 < nI (List.length l4))) = true → ((0 ≤ n17 ∧ n17 < nI (List.length l4)) ∧ (∃ s19 : Bytes, ((D.cells (List.getD l4 (Int.toNat n17) D.nilp) = [D.str s19]) ∧ (∃ b20 : Bool, ((Runs P 101 [CV.d (D.str s19)] [] (CV.d (D.bool b20)) []) ∧ (((!!b20) = true → 0 ≤ nI 0 ∧ nI 0 ≤ n17 ∧ n17 ≤ nI (List.length l4)) ∧ (∀ l21 : List D, (List.drop (Int.toNat (nI 0)) (List.take (Int.toNat n17) l4) = l21 → (∃ b22 : Bool, (((!!b20) = true → Runs P 84 [CV.d (D.slice 1 l21), CV.d (D.str s19)] [] (CV.d (D.bool b22)) []) ∧ (∀ b23 : Bool, ((!b20 || b22) = b23 → (((b23) = true → EndR (CV.d (D.int .i64 (1 : Int))) res [(1, [CV.d (D.str s0), CV.d (D.int .i64 n1), CV.d (D.int .i64 n2), CV.d (D.int .i64 n3), CV.d (D.slice 1 l4), CV.d (D.slice 7 l5)])] objs') ∧ ((b23) = false → (∀ n24 : Int, (Go.IntKind.wrap Go.IntKind.i64 (n17 + 1) = n24 → (∃ k25 : Nat, ((k25 < k18) ∧ I15 n24 k25))))))))))))))))))) ∧ ((decide (n17 < nI (List.length l4))) = false → (∃ I26 : (Int → (Int → (Nat → Prop))), ((∃ k27 : Nat, I26 0 0 k27) ∧ (∀ n28 : Int, (∀ n29 : Int, (∀ k30 : Nat, (I26 n28 n29 k30 → (((decide (n29 < nI (List.length l5))) = true → ((0 ≤ n29 ∧ n29 < nI (List.length l5)) ∧ (∃ n31 : Int, (∃ n32 : Int, (∃ n33 : Int, (∃ s34 : Bytes, (∃ n35 : Int, (∃ l36 : List D, (∃ s37 : Bytes, ((D.cells (List.getD l5 (Int.toNat n29) D.nilp) = [D.int .i64 n31, D.int .i64 n32, D.int .i64 n33, D.str s34, D.int .i64 n35, D.slice 1 l36, D.str s37]) ∧ (∃ n38 : Int, ((Runs P 89 [CV.d (D.agg [D.str s0, D.int .i64 n1, D.int .i64 n2, D.int .i64 n3, D.slice 1 l4, D.slice 7 l5]), CV.d (D.agg [D.int .i64 n31, D.int .i64 n32, D.int .i64 n33, D.str s34, D.int .i64 n35, D.slice 1 l36, D.str s37])] [] (CV.d (D.int .i64 n38)) []) ∧ (∀ b39 : Bool, ((n38 != 0 || decide (n31 ≤ n28)) = b39 → (∀ b40 : Bool, ((b39 || decide (n31 ≥ n2)) = b40 → (∀ b41 : Bool, ((b40 || decide (n32 > n3)) = b41 → (((b41) = true → EndR (CV.d (D.int .i64 (1 : Int))) res [(1, [CV.d (D.str s0), CV.d (D.int .i64 n1), CV.d (D.int .i64 n2), CV.d (D.int .i64 n3), CV.d (D.slice 1 l4), CV.d (D.slice 7 l5)]), (7, [CV.d (D.int .i64 n31), CV.d (D.int .i64 n32), CV.d (D.int .i64 n33), CV.d (D.str s34), CV.d (D.int .i64 n35), CV.d (D.slice 1 l36), CV.d (D.str s37)])] objs') ∧ ((b41) = false → (∀ n42 : Int, (Go.IntKind.wrap Go.IntKind.i64 (n29 + 1) = n42 → (∃ k43 : Nat, ((k43 < k30) ∧ I26 n31 n42 k43)))))))))))))))))))))))) ∧ ((decide (n29 < nI (List.length l5))) = false → EndR (CV.d (D.int .i64 (0 : Int))) res [(1, [CV.d (D.str s0), CV.d (D.int .i64 n1), CV.d (D.int .i64 n2), CV.d (D.int .i64 n3), CV.d (D.slice 1 l4), CV.d (D.slice 7 l5)])] objs')))))))))))))))))))))))))))))))))))))) := by kernel_rfl
theorem vc16 (s0 : Bytes) (n1 : Int) (n2 : Int) (n3 : Int) (l4 : List D) (l5 : List D) (res : CV) (objs' : List (Nat × List CV)) : walkA P (tbF P [102,103,50,48,53,56,105,58,107] [] 16) (anOf af16 []) af16 [CV.d (D.agg [D.str s0, D.int .i64 n1, D.int .i64 n2, D.int .i64 n3, D.slice 1 l4, D.slice 7 l5])] [] (fun rs => endE rs res objs') = ((∃ b6 : Bool, ((Runs P 45 [CV.d (D.str s0)] [] (CV.d (D.bool b6)) []) ∧ (∀ b7 : Bool, ((!b6 || decide (nI (List.length s0) > 12)) = b7 → (∀ b8 : Bool, ((b7 || decide (n1 < 1)) = b8 → (∀ b9 : Bool, ((b8 || decide (n1 > 1000000)) = b9 → (∀ b10 : Bool, ((b9 || decide (n3 < 1)) = b10 → (∀ b11 : Bool, ((b10 || decide (n3 > 1000000)) = b11 → (∀ b12 : Bool, ((b11 || decide (n2 < 1)) = b12 → (∀ b13 : Bool, ((b12 || decide (n2 > 1000000)) = b13 → (((b13) = true → EndR (CV.d (D.int .i64 (1 : Int))) res [(1, [CV.d (D.str s0), CV.d (D.int .i64 n1), CV.d (D.int .i64 n2), CV.d (D.int .i64 n3), CV.d (D.slice 1 l4), CV.d (D.slice 7 l5)])] objs') ∧ ((b13) = false → (∀ b14 : Bool, ((decide (nI (List.length l4) > 64) || decide (nI (List.length l5) > 60)) = b14 → (((b14) = true → EndR (CV.d (D.int .i64 (4 : Int))) res [(1, [CV.d (D.str s0), CV.d (D.int .i64 n1), CV.d (D.int .i64 n2), CV.d (D.int .i64 n3), CV.d (D.slice 1 l4), CV.d (D.slice 7 l5)])] objs') ∧ ((b14) = false → (∃ I15 : (Int → (Nat → Prop)), ((∃ k16 : Nat, I15 0 k16) ∧ (∀ n17 : Int, (∀ k18 : Nat, (I15 n17 k18 → (((decide (n17 < nI (List.length l4))) = true → ((0 ≤ n17 ∧ n17 < nI (List.length l4)) ∧ (∃ s19 : Bytes, ((D.cells (List.getD l4 (Int.toNat n17) D.nilp) = [D.str s19]) ∧ (∃ b20 : Bool, ((Runs P 45 [CV.d (D.str s19)] [] (CV.d (D.bool b20)) []) ∧ (((!!b20) = true → 0 ≤ nI 0 ∧ nI 0 ≤ n17 ∧ n17 ≤ nI (List.length l4)) ∧ (∀ l21 : List D, (List.drop (Int.toNat (nI 0)) (List.take (Int.toNat n17) l4) = l21 → (∃ b22 : Bool, (((!!b20) = true → Runs P 36 [CV.d (D.slice 1 l21), CV.d (D.str s19)] [] (CV.d (D.bool b22)) []) ∧ (∀ b23 : Bool, ((!b20 || b22) = b23 → (((b23) = true → EndR (CV.d (D.int .i64 (1 : Int))) res [(1, [CV.d (D.str s0), CV.d (D.int .i64 n1), CV.d (D.int .i64 n2), CV.d (D.int .i64 n3), CV.d (D.slice 1 l4), CV.d (D.slice 7 l5)])] objs') ∧ ((b23) = false → (∀ n24 : Int, (Go.IntKind.wrap Go.IntKind.i64 (n17 + 1) = n24 → (∃ k25 : Nat, ((k25 < k18) ∧ I15 n24 k25))))))))))))))))))) ∧ ((decide (n17 < nI (List.length l4))) = false → (∃ I26 : (Int → (Int → (Nat → Prop))), ((∃ k27 : Nat, I26 0 0 k27) ∧ (∀ n28 : Int, (∀ n29 : Int, (∀ k30 : Nat, (I26 n28 n29 k30 → (((decide (n29 < nI (List.length l5))) = true → ((0 ≤ n29 ∧ n29 < nI (List.length l5)) ∧ (∃ n31 : Int, (∃ n32 : Int, (∃ n33 : Int, (∃ s34 : Bytes, (∃ n35 : Int, (∃ l36 : List D, (∃ s37 : Bytes, ((D.cells (List.getD l5 (Int.toNat n29) D.nilp) = [D.int .i64 n31, D.int .i64 n32, D.int .i64 n33, D.str s34, D.int .i64 n35, D.slice 1 l36, D.str s37]) ∧ (∃ n38 : Int, ((Runs P 46 [CV.d (D.agg [D.str s0, D.int .i64 n1, D.int .i64 n2, D.int .i64 n3, D.slice 1 l4, D.slice 7 l5]), CV.d (D.agg [D.int .i64 n31, D.int .i64 n32, D.int .i64 n33, D.str s34, D.int .i64 n35, D.slice 1 l36, D.str s37])] [] (CV.d (D.int .i64 n38)) []) ∧ (((n38 != 0) = true → EndR (CV.d (D.int .i64 n38)) res [(1, [CV.d (D.str s0), CV.d (D.int .i64 n1), CV.d (D.int .i64 n2), CV.d (D.int .i64 n3), CV.d (D.slice 1 l4), CV.d (D.slice 7 l5)]), (7, [CV.d (D.int .i64 n31), CV.d (D.int .i64 n32), CV.d (D.int .i64 n33), CV.d (D.str s34), CV.d (D.int .i64 n35), CV.d (D.slice 1 l36), CV.d (D.str s37)])] objs') ∧ ((n38 != 0) = false → (∀ b39 : Bool, ((decide (n31 ≤ n28) || decide (n31 ≥ n2)) = b39 → (∀ b40 : Bool, ((b39 || decide (n32 > n3)) = b40 → (((b40) = true → EndR (CV.d (D.int .i64 (1 : Int))) res [(1, [CV.d (D.str s0), CV.d (D.int .i64 n1), CV.d (D.int .i64 n2), CV.d (D.int .i64 n3), CV.d (D.slice 1 l4), CV.d (D.slice 7 l5)]), (7, [CV.d (D.int .i64 n31), CV.d (D.int .i64 n32), CV.d (D.int .i64 n33), CV.d (D.str s34), CV.d (D.int .i64 n35), CV.d (D.slice 1 l36), CV.d (D.str s37)])] objs') ∧ ((b40) = false → (∀ n41 : Int, (Go.IntKind.wrap Go.IntKind.i64 (n29 + 1) = n41 → (∃ k42 : Nat, ((k42 < k30) ∧ I26 n31 n41 k42)))))))))))))))))))))))) ∧ ((decide (n29 < nI (List.length l5))) = false → EndR (CV.d (D.int .i64 (0 : Int))) res [(1, [CV.d (D.str s0), CV.d (D.int .i64 n1), CV.d (D.int .i64 n2), CV.d (D.int .i64 n3), CV.d (D.slice 1 l4), CV.d (D.slice 7 l5)])] objs')))))))))))))))))))))))))))))))))))))) := by kernel_rfl
theorem vc15 (s0 : Bytes) (n1 : Int) (n2 : Int) (n3 : Int) (l4 : List D) (l5 : List D) (res : CV) (objs' : List (Nat × List CV)) : walkA P (tbF P [102,103,50,48,53,56,105,58,107] [] 15) (anOf af15 []) af15 [CV.d (D.agg [D.str s0, D.int .i64 n1, D.int .i64 n2, D.int .i64 n3, D.slice 1 l4, D.slice 7 l5])] [] (fun rs => endE rs res objs') = ((∀ n6 : Int, (Go.IntKind.wrap Go.IntKind.i64 (nI (List.length s0) + nI (List.length l4)) = n6 → (∀ n7 : Int, (Go.IntKind.wrap Go.IntKind.i64 (n6 + nI (List.length l5)) = n7 → (∃ I8 : (Int → (Int → (Nat → Prop))), ((∃ k9 : Nat, I8 n7 0 k9) ∧ (∀ n10 : Int, (∀ n11 : Int, (∀ k12 : Nat, (I8 n10 n11 k12 → (((decide (n11 < nI (List.length l4))) = true → ((0 ≤ n11 ∧ n11 < nI (List.length l4)) ∧ (∃ s13 : Bytes, ((D.cells (List.getD l4 (Int.toNat n11) D.nilp) = [D.str s13]) ∧ (∀ n14 : Int, (Go.IntKind.wrap Go.IntKind.i64 (n10 + nI (List.length s13)) = n14 → (∀ n15 : Int, (Go.IntKind.wrap Go.IntKind.i64 (n11 + 1) = n15 → (∃ k16 : Nat, ((k16 < k12) ∧ I8 n14 n15 k16)))))))))) ∧ ((decide (n11 < nI (List.length l4))) = false → (∃ I17 : (Int → (Int → (Nat → Prop))), ((∃ k18 : Nat, I17 n10 0 k18) ∧ (∀ n19 : Int, (∀ n20 : Int, (∀ k21 : Nat, (I17 n19 n20 k21 → (((decide (n20 < nI (List.length l5))) = true → ((0 ≤ n20 ∧ n20 < nI (List.length l5)) ∧ (∃ n22 : Int, (∃ n23 : Int, (∃ n24 : Int, (∃ s25 : Bytes, (∃ n26 : Int, (∃ l27 : List D, (∃ s28 : Bytes, ((D.cells (List.getD l5 (Int.toNat n20) D.nilp) = [D.int .i64 n22, D.int .i64 n23, D.int .i64 n24, D.str s25, D.int .i64 n26, D.slice 1 l27, D.str s28]) ∧ (∀ n29 : Int, (Go.IntKind.wrap Go.IntKind.i64 (nI (List.length l27) + nI (List.length s28)) = n29 → (∀ n30 : Int, (Go.IntKind.wrap Go.IntKind.i64 (n29 + nI (List.length s25)) = n30 → (∀ n31 : Int, (Go.IntKind.wrap Go.IntKind.i64 (n19 + n30) = n31 → (∀ n32 : Int, (Go.IntKind.wrap Go.IntKind.i64 (n20 + 1) = n32 → (∃ k33 : Nat, ((k33 < k21) ∧ I17 n31 n32 k33)))))))))))))))))))) ∧ ((decide (n20 < nI (List.length l5))) = false → (∀ b34 : Bool, ((decide (n19 > 60000) || decide (nI (List.length l4) > 100)) = b34 → (∀ b35 : Bool, ((b34 || decide (nI (List.length l5) > 100)) = b35 → (((b35) = true → EndR (CV.d (D.int .i64 (1 : Int))) res [(1, [CV.d (D.str s0), CV.d (D.int .i64 n1), CV.d (D.int .i64 n2), CV.d (D.int .i64 n3), CV.d (D.slice 1 l4), CV.d (D.slice 7 l5)])] objs') ∧ ((b35) = false → EndR (CV.d (D.int .i64 (0 : Int))) res [(1, [CV.d (D.str s0), CV.d (D.int .i64 n1), CV.d (D.int .i64 n2), CV.d (D.int .i64 n3), CV.d (D.slice 1 l4), CV.d (D.slice 7 l5)])] objs'))))))))))))))))))))))))))) := by kernel_rfl
end B
end Go.Proofs.YtmkkljbfmdngfaaDoor

namespace Go.Proofs.YtmkkljbfmdngfaaDoor
namespace B
open Go.RowKit

theorem gzTab {ρ : Nat → Role} {w : World} (h : GzOk ρ w) : Lib.TabIs P w "internal/strconv.uint64pow10" .u64 Lib.pow10Tab := by
  obtain ⟨m, h⟩ := h
  obtain ⟨_, t, fz, k⟩ := h 0 _ rfl
  unfold Lib.TabIs World.var?
  rw [show P.globalNamed "internal/strconv.uint64pow10" = some 0 by kernel_rfl]
  simp only [Option.bind_some]
  rw [k]
/-- Itoa. -/
theorem r57 (n : Int) (h0 : -9223372036854775808 ≤ n) (h1 : n ≤ 9223372036854775807) : Runs P 57 [.d (.int .i64 n)] [] (.d (.str (Lib.itoa n))) [] := by
  refine ⟨⟨Tryd.f57, Tryd.func57, by kernel_rfl, by kernel_rfl⟩, fun Γ ρ bl vals w h hz => ?_⟩
  obtain ⟨v, rfl, hv⟩ := vals1 h
  obtain rfl := rep_int hv
  refine (Tryd.strconv_Itoa n h0 h1 w (gzTab hz)).mono ?_
  rintro e w' ⟨rfl, k, os, rfl⟩
  exact done_below h (Go.Lib.below_grow _ _ (Nat.le_refl _) k os) (Rep.str _) (fun _ h => h)
/-- IndexByte. -/
theorem r130 (s : Bytes) (c : Int) : Runs P 130 [.d (.str s), .d (.int .u8 c)] [] (.d (.int .i64 (Lib.indexByte s c.toNat.toUInt8))) [] := by
  refine ⟨⟨Tryd.f130, Tryd.func130, by kernel_rfl, by kernel_rfl⟩, fun Γ ρ bl vals w h hz => ?_⟩
  obtain ⟨v, u, rfl, hv, hu⟩ := vals2 h
  obtain rfl := rep_str hv
  obtain rfl := rep_int hu
  refine (Tryd.strings_IndexByte ⟨s.toArray⟩ c w).mono ?_
  rintro e w' ⟨rfl, rfl⟩
  exact done_below h ⟨rfl, rfl, rfl, Nat.le_refl _, fun _ _ => rfl⟩ (Rep.int _ _) (fun _ h => h)

def atomC (c : UInt8) : Bool := (decide (97 ≤ c.toNat) && decide (c.toNat ≤ 122)) || (decide (65 ≤ c.toNat) && decide (c.toNat ≤ 90)) || (decide (48 ≤ c.toNat) && decide (c.toNat ≤ 57)) || c.toNat == 46 || c.toNat == 95 || c.toNat == 45 || c.toNat == 36 || c.toNat == 47
def atomB (s : Bytes) : Bool := decide (1 ≤ s.length) && decide (s.length ≤ 24) && s.all atomC
theorem idx_cons (b : UInt8) (l : Bytes) (c : UInt8) : decide (Lib.indexByte (b :: l) c ≥ 0) = (c.toNat == b.toNat || decide (Lib.indexByte l c ≥ 0)) := by
  have e : (b == c) = (c.toNat == b.toNat) := by
    rw [Bool.eq_iff_iff, beq_iff_eq, beq_iff_eq]
    constructor
    · rintro rfl; rfl
    · intro h; exact (UInt8.toNat_inj.1 h).symm
  rw [Lib.indexByte, ← e]
  have := Lib.indexByte_ge l c
  cases b == c
  · by_cases h : Lib.indexByte l c = -1
    · simp [h]
    · simp [h]; omega
  · simp
theorem index5 (c : UInt8) : decide (Lib.indexByte [46, 95, 45, 36, 47] c ≥ 0) = (c.toNat == 46 || (c.toNat == 95 || (c.toNat == 45 || (c.toNat == 36 || c.toNat == 47)))) := by
  simp only [idx_cons]
  have : decide (Lib.indexByte [] c ≥ 0) = false := by simp [Lib.indexByte]
  rw [this, Bool.or_false]
  rfl
theorem r99 (s : Bytes) (hl : s.length ≤ 9223372036854775806) : Runs P 99 [.d (.str s)] [] (.d (.bool (atomB s))) [] := by
  refine runs_walkA t99 rfl (vc99 _ _ _) (by simp) ?_
  refine range1 (fun i => s.all atomC = (s.drop i).all atomC) hl (by simp) (fun i hi bd hJ I k next => ⟨bd, ?_⟩) fun hJ => ?_
  · rw [getD_byte s hi]
    rintro _ rfl _ rfl _ rfl _ rfl _ rfl
    refine ⟨_, fun _ => r130 _ _, ?_⟩
    rintro b11 h11
    have e0 : (nI s[i].toNat).toNat.toUInt8 = s[i] := by
      show (Int.toNat ((s[i].toNat : Nat) : Int)).toUInt8 = s[i]
      rw [Int.toNat_natCast]; simp
    rw [e0, index5] at h11
    have e : atomC s[i] = b11 := by
      rw [← h11]; unfold atomC; simp only [nI, Bool.or_assoc, ge_iff_le]
      congr 1 <;> first | (congr 1 <;> exact decide_eq_decide.2 (by omega)) | skip
      congr 1 <;> first | (congr 1 <;> exact decide_eq_decide.2 (by omega)) | skip
      congr 1
      congr 1 <;> exact decide_eq_decide.2 (by omega)
    rw [drop_cons hi, List.all_cons, e] at hJ
    refine ⟨fun h => endB ?_, fun h => next ?_⟩
    · have : b11 = false := by simpa using h
      rw [this] at hJ
      unfold atomB; rw [hJ]; simp
    · have : b11 = true := by simpa using h
      rw [this] at hJ
      rw [hJ]; simp
  · rw [List.drop_length] at hJ
    rintro _ rfl
    refine endB ?_
    unfold atomB; rw [hJ]
    simp only [nI, ge_iff_le, List.all_nil, Bool.and_true]
    congr 1 <;> exact decide_eq_decide.2 (by omega)
theorem r45 (s : Bytes) (hl : s.length ≤ 9223372036854775806) : Runs P 45 [.d (.str s)] [] (.d (.bool (atomB s))) [] := by
  refine runs_walkA t45 rfl (vc45 _ _ _) (by simp) ?_
  rintro b1 h1
  have e1 : (decide (1 ≤ s.length) && decide (s.length ≤ 24)) = !b1 := by
    rw [← h1]; simp only [nI, Bool.not_or, ← decide_not]
    congr 1 <;> exact decide_eq_decide.2 (by omega)
  refine ⟨fun h => endB (by unfold atomB; rw [e1, h]; rfl), fun h => ?_⟩
  subst h
  refine range1 (fun i => s.all atomC = (s.drop i).all atomC) hl (by simp) (fun i hi bd hJ I k next => ⟨bd, ?_⟩) fun hJ => ?_
  · rw [getD_byte s hi]
    rintro _ rfl _ rfl _ rfl _ rfl _ rfl _ rfl _ rfl _ rfl _ rfl b15 h15
    have e : atomC s[i] = !b15 := by
      have q : ∀ n : Nat, (nI s[i].toNat != (n : Int)) = !(s[i].toNat == n) := fun n => by
        simp only [nI, bne, Bool.not_not]; congr 1
        rw [Bool.eq_iff_iff, beq_iff_eq, beq_iff_eq]; omega
      rw [← h15]
      rw [show (46 : Int) = ((46 : Nat) : Int) from rfl, show (95 : Int) = ((95 : Nat) : Int) from rfl, show (45 : Int) = ((45 : Nat) : Int) from rfl, show (36 : Int) = ((36 : Nat) : Int) from rfl, show (47 : Int) = ((47 : Nat) : Int) from rfl]
      simp only [q, Bool.not_and, Bool.not_or, Bool.not_not, ← decide_not]
      unfold atomC
      simp only [nI]
      congr 1; congr 1; congr 1; congr 1; congr 1; congr 1
      · congr 1 <;> (congr 1 <;> exact decide_eq_decide.2 (by omega))
      · congr 1 <;> exact decide_eq_decide.2 (by omega)
    rw [drop_cons hi, List.all_cons, e] at hJ
    refine ⟨fun h => endB ?_, fun h => next ?_⟩
    · rw [h] at hJ; unfold atomB; rw [hJ]; simp
    · rw [h] at hJ; rw [hJ]; simp
  · rw [List.drop_length] at hJ
    refine endB ?_
    unfold atomB; rw [e1, hJ]; rfl
theorem r101 (s : Bytes) (hl : s.length ≤ 9223372036854775806) : Runs P 101 [.d (.str s)] [] (.d (.bool (atomB s))) [] := by
  refine runs_walkA t101 rfl (vc101 _ _ _) (by simp) ?_
  exact ⟨_, r99 s hl, endB rfl⟩
def withinB (n a b : Int) : Bool := decide (a ≤ n) && decide (n ≤ b)
theorem r100 (n a b : Int) : Runs P 100 [.d (.int .i64 n), .d (.int .i64 a), .d (.int .i64 b)] [] (.d (.bool (withinB n a b))) [] := by
  refine runs_walkA t100 rfl (vc100 _ _ _ _ _) (by simp) ?_
  rintro _ rfl
  exact endB rfl

def keysB (n : Int) : Int → List Int → Bool
  | _, [] => true
  | was, k :: r => decide (was < k) && decide (k < n) && keysB n k r
theorem keys_step {n was k : Int} {r : List Int} {b : Bool} (h : (decide (k ≤ was) || decide (k ≥ n)) = b) : keysB n was (k :: r) = (!b && keysB n k r) := by
  simp only [keysB]
  congr 1
  rw [← h, Bool.not_or, ← decide_not, ← decide_not]
  congr 1 <;> exact decide_eq_decide.2 (by omega)
theorem r98 (l : List Int) (n : Int) (hl : l.length ≤ 9223372036854775806) : Runs P 98 [.d (.slice 1 (ints l)), .d (.int .i64 n)] [] (.d (.bool (keysB n (-1) l))) [] := by
  refine runs_walkA t98 rfl (vc98 _ _ _ _) (by simp) ?_
  rw [ints_len]
  refine range2 (fun i was => keysB n (-1) l = keysB n was (l.drop i)) hl rfl (fun i hi bd was hJ I k next => ⟨bd, ?_⟩) fun was hJ => ?_
  · refine ⟨l[i], by rw [ints_get l hi]; rfl, fun b hb => ?_⟩
    rw [drop_cons hi, keys_step hb] at hJ
    exact ⟨fun h => endB (by rw [hJ, h]; rfl), fun h => next _ (by rw [hJ, h]; rfl)⟩
  · rw [List.drop_length] at hJ
    exact endB hJ.symm
theorem r128 (l : List Int) (n : Int) (hl : l.length ≤ 9223372036854775806) : Runs P 128 [.d (.slice 1 (ints l)), .d (.int .i64 n)] [] (.d (.bool (keysB n (-1) l))) [] := by
  refine runs_walkA t128 rfl (vc128 _ _ _ _) (by simp) ?_
  rw [ints_len]
  refine range2 (fun i was => keysB n (-1) l = keysB n was (l.drop i)) hl rfl (fun i hi bd was hJ I k next => ⟨bd, ?_⟩) fun was hJ => ?_
  · refine ⟨l[i], by rw [ints_get l hi]; rfl, fun b hb => ?_⟩
    rw [drop_cons hi, keys_step hb] at hJ
    exact ⟨fun h => endB (by rw [hJ, h]; rfl), fun h => next _ (by rw [hJ, h]; rfl)⟩
  · rw [List.drop_length] at hJ
    exact endB hJ.symm

theorem r36 (l : List Bytes) (s : Bytes) (hl : l.length ≤ 9223372036854775806) : Runs P 36 [.d (.slice 1 (strs l)), .d (.str s)] [] (.d (.bool (l.contains s))) [] := by
  refine runs_walkA t36 rfl (vc36 _ _ _ _) (by simp) ?_
  rw [strs_len]
  refine range1 (fun i => l.contains s = (l.drop i).contains s) hl rfl (fun i hi bd hJ I k next => ⟨bd, ?_⟩) fun hJ => ?_
  · refine ⟨l[i], by rw [strs_get l hi]; rfl, ?_⟩
    rw [drop_cons hi, List.contains_cons] at hJ
    refine ⟨fun h => endB ?_, fun h => next ?_⟩
    · rw [hJ, BEq.comm, h]; rfl
    · rw [hJ, BEq.comm, h]; rfl
  · rw [List.drop_length] at hJ
    exact endB hJ.symm
def idxOf (l : List Bytes) (s : Bytes) : Int := if l.contains s then (l.idxOf s : Int) else -1
theorem r124 (l : List Bytes) (s : Bytes) (hl : l.length ≤ 9223372036854775806) : Runs P 124 [.d (.slice 1 (strs l)), .d (.str s)] [] (.d (.int .i64 (idxOf l s))) [] := by
  refine runs_walkA t124 rfl (vc124 _ _ _ _) (by simp) ?_
  rw [strs_len]
  refine range1 (fun i => l.contains s = (l.drop i).contains s ∧ l.idxOf s = i + (l.drop i).idxOf s) hl ⟨rfl, by simp⟩ (fun i hi bd hJ I k next => ⟨bd, ?_⟩) fun hJ => ?_
  · refine ⟨l[i], by rw [strs_get l hi]; rfl, ?_⟩
    rw [drop_cons hi, List.contains_cons, List.idxOf_cons] at hJ
    refine ⟨fun h => endI ?_, fun h => next ?_⟩
    · rw [BEq.comm] at h
      rw [BEq.comm, h] at hJ
      unfold idxOf; rw [hJ.1, hJ.2]; simp [h]
    · rw [BEq.comm] at h
      rw [BEq.comm, h] at hJ
      refine ⟨by rw [hJ.1]; rfl, ?_⟩
      rw [hJ.2]; simp only [h, cond_false]; omega
  · rw [List.drop_length] at hJ
    refine endI ?_
    unfold idxOf; rw [hJ.1]; rfl
theorem idxOf_ge (l : List Bytes) (s : Bytes) : decide (idxOf l s ≥ 0) = l.contains s := by
  unfold idxOf
  cases l.contains s <;> simp <;> omega
theorem r84 (l : List Bytes) (s : Bytes) (hl : l.length ≤ 9223372036854775806) : Runs P 84 [.d (.slice 1 (strs l)), .d (.str s)] [] (.d (.bool (l.contains s))) [] := by
  refine runs_walkA t84 rfl (vc84 _ _ _ _) (by simp) ?_
  exact ⟨_, r124 l s hl, endB (idxOf_ge l s)⟩

def mayMsg (nw : Nat) (m : Msg) : Bool := withinB m.uid 1 999999 && (withinB m.mod 1 1000000 && (withinB m.date 0 1000000 && (atomB m.id && (withinB m.flags 0 31 && (keysB nw (-1) m.keys && decide (m.text.length ≤ 300))))))
structure MsgOk (m : Msg) : Prop where
  id : m.id.length ≤ 9223372036854775806
  keys : m.keys.length ≤ 9223372036854775806
structure BoxOk (b : Box) : Prop where
  id : b.id.length ≤ 9223372036854775806
  nw : b.words.length ≤ 9223372036854775806
  nm : b.msgs.length ≤ 9223372036854775806
  words : ∀ w ∈ b.words, w.length ≤ 9223372036854775806
  msgs : ∀ m ∈ b.msgs, MsgOk m
theorem r89 (b : Box) (m : Msg) (hm : MsgOk m) : Runs P 89 [.d b.d, .d m.d] [] (.d (.int .i64 (errB (mayMsg b.words.length m)))) [] := by
  refine runs_walkA t89 rfl (vc89 _ _ _ _ _ _ _ _ _ _ _ _ _ _ _) (by simp) ?_
  rw [strs_len]
  refine ⟨_, r100 _ _ _, _, fun _ => r100 _ _ _, ?_⟩
  rintro _ rfl
  refine ⟨_, fun _ => r100 _ _ _, ?_⟩
  rintro _ rfl
  refine ⟨_, fun _ => r99 _ hm.id, ?_⟩
  rintro _ rfl
  refine ⟨_, fun _ => r100 _ _ _, ?_⟩
  rintro _ rfl
  refine ⟨_, fun _ => r128 _ _ hm.keys, ?_⟩
  rintro _ rfl b24 h24
  have e : mayMsg b.words.length m = !b24 := by
    rw [← h24]; unfold mayMsg; simp only [Bool.not_or, Bool.not_not, ← decide_not, Bool.and_assoc]
    congr 6; exact decide_eq_decide.2 (by simp only [nI]; omega)
  rw [e]
  exact ⟨fun h => endI (by rw [h]; rfl), fun h => endI (by rw [h]; rfl)⟩
theorem r46 (b : Box) (m : Msg) (hm : MsgOk m) : Runs P 46 [.d b.d, .d m.d] [] (.d (.int .i64 (errB (mayMsg b.words.length m)))) [] := by
  refine runs_walkA t46 rfl (vc46 _ _ _ _ _ _ _ _ _ _ _ _ _ _ _) (by simp) ?_
  rw [strs_len]
  rintro _ rfl _ rfl _ rfl _ rfl _ rfl
  refine ⟨_, fun _ => r45 _ hm.id, ?_⟩
  rintro _ rfl _ rfl _ rfl
  refine ⟨_, fun _ => r98 _ _ hm.keys, ?_⟩
  rintro _ rfl b24 h24
  have e : mayMsg b.words.length m = !b24 := by
    rw [← h24]; unfold mayMsg withinB; simp only [Bool.not_or, Bool.not_not, ← decide_not, Bool.and_assoc]
    congr 1
    · exact decide_eq_decide.2 (by omega)
    congr 1
    · exact decide_eq_decide.2 (by omega)
    congr 1
    · exact decide_eq_decide.2 (by omega)
    congr 1
    · exact decide_eq_decide.2 (by omega)
    congr 1
    · exact decide_eq_decide.2 (by omega)
    congr 1
    · exact decide_eq_decide.2 (by omega)
    congr 1
    congr 1
    · exact decide_eq_decide.2 (by omega)
    congr 1
    · exact decide_eq_decide.2 (by omega)
    congr 1
    exact decide_eq_decide.2 (by simp only [nI]; omega)
  rw [e]
  exact ⟨fun h => endI (by rw [h]; rfl), fun h => endI (by rw [h]; rfl)⟩
def wordsB : List Bytes → List Bytes → Bool
  | _, [] => true
  | pre, w :: r => atomB w && !pre.contains w && wordsB (pre ++ [w]) r
def msgsB (nw : Nat) (next high : Int) : Int → List Msg → Bool
  | _, [] => true
  | was, m :: r => mayMsg nw m && (decide (was < m.uid) && (decide (m.uid < next) && (decide (m.mod ≤ high) && msgsB nw next high m.uid r)))
def headB (b : Box) : Bool := atomB b.id && (decide (b.id.length ≤ 12) && (withinB b.valid 1 1000000 && (withinB b.high 1 1000000 && withinB b.next 1 1000000)))
def sizeB (b : Box) : Bool := decide (b.words.length ≤ 64) && decide (b.msgs.length ≤ 60)
def mayBox (b : Box) : Int := if headB b = true then (if sizeB b = true then errB (wordsB [] b.words && msgsB b.words.length b.next b.high 0 b.msgs) else 4) else 1
theorem take_strs (l : List Bytes) (i : Nat) : List.drop (Int.toNat (nI 0)) (List.take (Int.toNat (i : Int)) (strs l)) = strs (l.take i) := by
  simp [nI, strs, List.map_take]
theorem r47 (b : Box) (hb : BoxOk b) : Runs P 47 [.d b.d] [] (.d (.int .i64 (mayBox b))) [] := by
  refine runs_walkA t47 rfl (vc47 _ _ _ _ _ _ _ _) (by simp) ?_
  rw [strs_len, nI_map]
  refine ⟨_, r99 _ hb.id, ?_⟩
  rintro _ rfl
  refine ⟨_, fun _ => r100 _ _ _, ?_⟩
  rintro _ rfl
  refine ⟨_, fun _ => r100 _ _ _, ?_⟩
  rintro _ rfl
  refine ⟨_, fun _ => r100 _ _ _, ?_⟩
  rintro b13 h13
  have e : headB b = !b13 := by
    rw [← h13]; unfold headB; simp only [Bool.not_or, Bool.not_not, ← decide_not, Bool.and_assoc]
    congr 2; exact decide_eq_decide.2 (by simp only [nI]; omega)
  refine ⟨fun h => endI (by unfold mayBox; rw [e, h]; rfl), fun h => ?_⟩
  subst h
  rintro b14 h14
  have e2 : sizeB b = !b14 := by
    rw [← h14]; unfold sizeB; simp only [Bool.not_or, ← decide_not]
    congr 1 <;> exact decide_eq_decide.2 (by simp only [nI]; omega)
  refine ⟨fun h => endI (by unfold mayBox; rw [e, e2, h]; rfl), fun h => ?_⟩
  subst h
  have e3 : mayBox b = errB (wordsB [] b.words && msgsB b.words.length b.next b.high 0 b.msgs) := by unfold mayBox; rw [e, e2]; rfl
  rw [e3]
  refine range1 (fun i => wordsB [] b.words = wordsB (b.words.take i) (b.words.drop i)) hb.nw rfl (fun i hi bd hJ I k next => ⟨bd, ?_⟩) fun hJ => ?_
  · have hw := hb.words _ (List.getElem_mem hi)
    refine ⟨b.words[i], by rw [strs_get _ hi]; rfl, _, r101 _ hw, fun _ => ⟨by simp [nI], bd.1, Int.le_of_lt bd.2⟩, ?_⟩
    rintro _ rfl
    rw [take_strs]
    refine ⟨_, fun _ => r84 _ _ (by have := hb.nw; rw [List.length_take]; omega), ?_⟩
    rintro b23 h23
    rw [drop_cons hi, wordsB, ← List.take_succ_eq_append_getElem hi, show (atomB b.words[i] && !(b.words.take i).contains b.words[i]) = !b23 by rw [← h23]; simp] at hJ
    exact ⟨fun h => endI (by rw [hJ, h]; rfl), fun h => next (by rw [hJ, h]; rfl)⟩
  · rw [List.drop_length, wordsB] at hJ
    rw [hJ, Bool.true_and]
    refine range2 (fun i was => msgsB b.words.length b.next b.high 0 b.msgs = msgsB b.words.length b.next b.high was (b.msgs.drop i)) hb.nm rfl (fun i hi bd was hJ I k next => ⟨bd, ?_⟩) fun was hJ => ?_
    · have hm := hb.msgs _ (List.getElem_mem hi)
      refine ⟨_, _, _, _, _, _, _, by rw [msgs_get _ hi]; rfl, _, r89 b b.msgs[i] hm, ?_⟩
      rintro _ rfl _ rfl b41 h41
      rw [drop_cons hi, msgsB, ← Bool.and_assoc, ← Bool.and_assoc, ← Bool.and_assoc, show (mayMsg b.words.length b.msgs[i] && decide (was < b.msgs[i].uid) && decide (b.msgs[i].uid < b.next) && decide (b.msgs[i].mod ≤ b.high)) = !b41 by
        rw [← h41]; simp only [Bool.not_or, ← decide_not]
        congr 1
        congr 1
        congr 1
        · cases mayMsg b.words.length b.msgs[i] <;> rfl
        · exact decide_eq_decide.2 (by omega)
        · exact decide_eq_decide.2 (by omega)
        · exact decide_eq_decide.2 (by omega)] at hJ
      exact ⟨fun h => endI (by rw [hJ, h]; rfl), fun h => next _ (by rw [hJ, h]; rfl)⟩
    · rw [List.drop_length, msgsB] at hJ
      exact endI (by rw [hJ]; rfl)
theorem r16 (b : Box) (hb : BoxOk b) : Runs P 16 [.d b.d] [] (.d (.int .i64 (mayBox b))) [] := by
  refine runs_walkA t16 rfl (vc16 _ _ _ _ _ _ _ _) (by simp) ?_
  rw [strs_len, nI_map]
  refine ⟨_, r45 _ hb.id, ?_⟩
  rintro _ rfl _ rfl _ rfl _ rfl _ rfl _ rfl b13 h13
  have e : headB b = !b13 := by
    rw [← h13]; unfold headB withinB; simp only [Bool.not_or, Bool.not_not, ← decide_not, Bool.and_assoc]
    congr 1
    congr 1
    · exact decide_eq_decide.2 (by simp only [nI]; omega)
    congr 1
    · exact decide_eq_decide.2 (by omega)
    congr 1
    · exact decide_eq_decide.2 (by omega)
    congr 1
    · exact decide_eq_decide.2 (by omega)
    congr 1
    · exact decide_eq_decide.2 (by omega)
    congr 1
    · exact decide_eq_decide.2 (by omega)
    · exact decide_eq_decide.2 (by omega)
  refine ⟨fun h => endI (by unfold mayBox; rw [e, h]; rfl), fun h => ?_⟩
  subst h
  rintro b14 h14
  have e2 : sizeB b = !b14 := by
    rw [← h14]; unfold sizeB; simp only [Bool.not_or, ← decide_not]
    congr 1 <;> exact decide_eq_decide.2 (by simp only [nI]; omega)
  refine ⟨fun h => endI (by unfold mayBox; rw [e, e2, h]; rfl), fun h => ?_⟩
  subst h
  have e3 : mayBox b = errB (wordsB [] b.words && msgsB b.words.length b.next b.high 0 b.msgs) := by unfold mayBox; rw [e, e2]; rfl
  rw [e3]
  refine range1 (fun i => wordsB [] b.words = wordsB (b.words.take i) (b.words.drop i)) hb.nw rfl (fun i hi bd hJ I k next => ⟨bd, ?_⟩) fun hJ => ?_
  · have hw := hb.words _ (List.getElem_mem hi)
    refine ⟨b.words[i], by rw [strs_get _ hi]; rfl, _, r45 _ hw, fun _ => ⟨by simp [nI], bd.1, Int.le_of_lt bd.2⟩, ?_⟩
    rintro _ rfl
    rw [take_strs]
    refine ⟨_, fun _ => r36 _ _ (by have := hb.nw; rw [List.length_take]; omega), ?_⟩
    rintro b23 h23
    rw [drop_cons hi, wordsB, ← List.take_succ_eq_append_getElem hi, show (atomB b.words[i] && !(b.words.take i).contains b.words[i]) = !b23 by rw [← h23]; simp] at hJ
    exact ⟨fun h => endI (by rw [hJ, h]; rfl), fun h => next (by rw [hJ, h]; rfl)⟩
  · rw [List.drop_length, wordsB] at hJ
    rw [hJ, Bool.true_and]
    refine range2 (fun i was => msgsB b.words.length b.next b.high 0 b.msgs = msgsB b.words.length b.next b.high was (b.msgs.drop i)) hb.nm rfl (fun i hi bd was hJ I k next => ⟨bd, ?_⟩) fun was hJ => ?_
    · have hm := hb.msgs _ (List.getElem_mem hi)
      rw [drop_cons hi, msgsB] at hJ
      refine ⟨_, _, _, _, _, _, _, by rw [msgs_get _ hi]; rfl, _, r46 b b.msgs[i] hm, fun h => endI ?_, fun h => ?_⟩
      · cases hc : mayMsg b.words.length b.msgs[i] with
        | true => rw [hc] at h; simp [errB] at h
        | false => rw [hJ, hc]; rfl
      have hc : mayMsg b.words.length b.msgs[i] = true := by
        cases hc : mayMsg b.words.length b.msgs[i] with
        | true => rfl
        | false => rw [hc] at h; simp [errB] at h
      rintro _ rfl b40 h40
      rw [hc, Bool.true_and, ← Bool.and_assoc, ← Bool.and_assoc, show (decide (was < b.msgs[i].uid) && decide (b.msgs[i].uid < b.next) && decide (b.msgs[i].mod ≤ b.high)) = !b40 by
        rw [← h40]; simp only [Bool.not_or, ← decide_not]
        congr 1
        congr 1
        · exact decide_eq_decide.2 (by omega)
        · exact decide_eq_decide.2 (by omega)
        · exact decide_eq_decide.2 (by omega)] at hJ
      exact ⟨fun h => endI (by rw [hJ, h]; rfl), fun h => next _ (by rw [hJ, h]; rfl)⟩
    · rw [List.drop_length, msgsB] at hJ
      exact endI (by rw [hJ]; rfl)

def szM (m : Msg) : Nat := m.keys.length + m.text.length + m.id.length
def szW (l : List Bytes) : Nat := (l.map List.length).sum
def szMs (l : List Msg) : Nat := (l.map szM).sum
def szBox (b : Box) : Nat := b.id.length + b.words.length + b.msgs.length + szW b.words + szMs b.msgs
def heavy (b : Box) : Bool := decide (60000 < szBox b) || decide (100 < b.words.length) || decide (100 < b.msgs.length)
theorem sum_take {α : Type} (f : α → Nat) (l : List α) {i : Nat} (h : i < l.length) : ((l.take (i + 1)).map f).sum = ((l.take i).map f).sum + f l[i] := by
  rw [List.take_succ_eq_append_getElem h, List.map_append, List.sum_append]; simp
theorem sum_take_le {α : Type} (f : α → Nat) (l : List α) (i : Nat) : ((l.take i).map f).sum ≤ (l.map f).sum := by
  conv => rhs; rw [← List.take_append_drop i l, List.map_append, List.sum_append]
  omega
theorem r15 (b : Box) (hs : szBox b ≤ 1099511627776) : Runs P 15 [.d b.d] [] (.d (.int .i64 (if heavy b = true then 1 else 0))) [] := by
  refine runs_walkA t15 rfl (vc15 _ _ _ _ _ _ _ _) (by simp) ?_
  have h1 : b.id.length ≤ 1099511627776 := by unfold szBox at hs; omega
  have h2 : b.words.length ≤ 1099511627776 := by unfold szBox at hs; omega
  have h3 : b.msgs.length ≤ 1099511627776 := by unfold szBox at hs; omega
  have h4 : szW b.words ≤ 1099511627776 := by unfold szBox at hs; omega
  have h5 : szMs b.msgs ≤ 1099511627776 := by unfold szBox at hs; omega
  rw [strs_len, nI_map]
  simp only [nI]
  rintro _ rfl _ rfl
  rw [W64 (n := (b.id.length : Int) + b.words.length) (by omega) (by omega), W64 (by omega) (by omega)]
  refine range2 (fun i n => n = ((b.id.length + b.words.length + b.msgs.length + szW (b.words.take i) : Nat) : Int)) (by omega) (by simp [szW]) (fun i hi bd n hJ I k next => ⟨bd, ?_⟩) fun n hJ => ?_
  · refine ⟨b.words[i], by rw [strs_get _ hi]; rfl, ?_⟩
    rintro _ rfl
    refine next _ ?_
    have e := sum_take List.length b.words hi
    have e2 := sum_take_le List.length b.words (i + 1)
    unfold szW at h4 ⊢ hJ
    rw [hJ, W64 (by omega) (by omega), e]; omega
  · rw [List.take_length] at hJ
    refine range2 (fun i n => n = ((b.id.length + b.words.length + b.msgs.length + szW b.words + szMs (b.msgs.take i) : Nat) : Int)) (by omega) (by rw [hJ]; simp [szMs]) (fun i hi bd n hJ I k next => ⟨bd, ?_⟩) fun n hJ => ?_
    · refine ⟨_, _, _, _, _, _, _, by rw [msgs_get _ hi]; rfl, ?_⟩
      rw [ints_len]
      rintro _ rfl _ rfl _ rfl
      refine next _ ?_
      have e := sum_take szM b.msgs hi
      have e2 := sum_take_le szM b.msgs (i + 1)
      unfold szMs at h5 ⊢ hJ
      have e3 : szM b.msgs[i] = b.msgs[i].keys.length + b.msgs[i].text.length + b.msgs[i].id.length := rfl
      rw [W64 (n := (b.msgs[i].keys.length : Int) + b.msgs[i].text.length) (by omega) (by omega), W64 (n := (b.msgs[i].keys.length : Int) + b.msgs[i].text.length + b.msgs[i].id.length) (by omega) (by omega), hJ, W64 (by omega) (by omega), e]; omega
    · rw [List.take_length] at hJ
      rintro _ rfl b35 h35
      have e : heavy b = b35 := by
        rw [← h35]; unfold heavy szBox; rw [hJ]
        congr 1
        congr 1
        · exact decide_eq_decide.2 (by omega)
        · exact decide_eq_decide.2 (by omega)
        · exact decide_eq_decide.2 (by omega)
      rw [e]
      exact ⟨fun h => endI (by rw [h]; rfl), fun h => endI (by rw [h]; rfl)⟩
end B
end Go.Proofs.YtmkkljbfmdngfaaDoor

namespace Go.Proofs.YtmkkljbfmdngfaaDoor
namespace B
set_option maxRecDepth 100000
def af26 : AF := ⟨(.seq (.ops [⟨(some 4), (.mov (.c (.d (.str []))) true none), none⟩]) (.seq (.ops [⟨(some 5), (.mov (.t 1) false none), none⟩, ⟨(some 6), (.mm true (.c (.d (.int .i64 0))) (.t 5)), none⟩, ⟨(some 7), (.call 57 [((.t 6), none)] none), none⟩, ⟨(some 8), (.bin false .add (.c (.d (.str [101]))) (.t 7)), none⟩, ⟨(some 9), (.bin false .add (.t 8) (.c (.d (.str [45])))), none⟩, ⟨(some 10), (.mov (.t 0) false none), none⟩, ⟨(some 11), (.bin false .add (.t 9) (.t 10)), none⟩, ⟨(some 4), (.mov (.t 11) true none), none⟩]) .ret)), [(.tm 4)], 2, 12⟩
theorem t26 : trF P HH 26 = some af26 := by kernel_rfl
def af51 : AF := ⟨(.seq (.ops [⟨(some 2), (.mov (.c (.d (.int .i64 0))) true none), none⟩]) (.seq (.ops [⟨(some 3), (.mov (.c (.d (.int .i64 0))) true none), none⟩]) (.seq (.seq (.ops [⟨(some 6), (.mov (.t 0) false (some 1)), none⟩, ⟨(some 7), (.len (.t 6)), none⟩, ⟨(some 8), (.mov (.c (.d (.int .i64 0))) false none), none⟩]) (.block 0 (.loop (.seq (.ops [⟨(some 9), (.bin false .lss (.t 8) (.t 7)), none⟩]) (.seq (.cond (.t 9) .skip (.exit 0)) (.seq (.block 1 (.seq (.ops [⟨(some 10), (.idxA 1 (.t 6) (.t 8)), none⟩, ⟨(some 11), (.load false 1 (.t 10) false), none⟩, ⟨(some 5), (.mov (.t 11) true none), none⟩]) (.seq (.ops [⟨(some 12), (.mov (.t 5) false none), none⟩, ⟨(some 13), (.bin false .lss (.t 12) (.c (.d (.int .i64 32)))), none⟩]) (.cond (.t 13) (.ops [⟨(some 14), (.mov (.t 3) false none), none⟩, ⟨(some 15), (.mov (.t 5) false none), none⟩, ⟨(some 16), (.bin false .shl (.c (.d (.int .i64 1))) (.t 15)), none⟩, ⟨(some 17), (.bin false .or (.t 14) (.t 16)), none⟩, ⟨(some 3), (.mov (.t 17) true none), none⟩]) .skip)))) (.ops [⟨(some 18), (.bin false .add (.t 8) (.c (.d (.int .i64 1)))), none⟩, ⟨(some 8), (.mov (.t 18) true none), none⟩]))))))) (.seq (.ops [⟨(some 19), (.mov (.t 3) true none), none⟩, ⟨(some 2), (.mov (.t 19) true none), none⟩]) .ret)))), [(.tm 2)], 1, 20⟩
theorem t51 : trF P HH 51 = some af51 := by kernel_rfl
def af53 : AF := ⟨(.seq (.ops [⟨(some 4), (.mov (.c .nils) true (some 1)), none⟩]) (.seq (.seq (.ops [⟨(some 7), (.mov (.t 1) false (some 1)), none⟩, ⟨(some 8), (.len (.t 7)), none⟩, ⟨(some 9), (.mov (.c (.d (.int .i64 0))) false none), none⟩]) (.block 0 (.loop (.seq (.ops [⟨(some 10), (.bin false .lss (.t 9) (.t 8)), none⟩]) (.seq (.cond (.t 10) .skip (.exit 0)) (.seq (.block 1 (.seq (.ops [⟨(some 11), (.idxA 1 (.t 7) (.t 9)), none⟩, ⟨(some 12), (.load false 1 (.t 11) false), none⟩, ⟨(some 6), (.mov (.t 12) true none), none⟩]) (.ops [⟨(some 13), (.mov (.t 0) false (some 1)), none⟩, ⟨(some 14), (.mov (.t 6) false none), none⟩, ⟨(some 15), (.call 102 [((.t 13), (some 1)), ((.t 14), none)] none), none⟩, ⟨(some 0), (.mov (.t 15) true (some 1)), none⟩]))) (.ops [⟨(some 16), (.bin false .add (.t 9) (.c (.d (.int .i64 1)))), none⟩, ⟨(some 9), (.mov (.t 16) true none), none⟩]))))))) (.seq (.ops [⟨(some 17), (.mov (.t 0) true (some 1)), none⟩, ⟨(some 4), (.mov (.t 17) true (some 1)), none⟩]) .ret))), [(.tm 4)], 2, 18⟩
theorem t53 : trF P HH 53 = some af53 := by kernel_rfl
def af88 : AF := ⟨(.seq (.ops [⟨(some 4), (.mov (.c (.d (.str []))) true none), none⟩]) (.seq (.ops [⟨(some 5), (.mov (.t 1) false none), none⟩, ⟨(some 6), (.mm true (.t 5) (.c (.d (.int .i64 0)))), none⟩, ⟨(some 7), (.call 57 [((.t 6), none)] none), none⟩, ⟨(some 8), (.bin false .add (.c (.d (.str [101]))) (.t 7)), none⟩, ⟨(some 9), (.bin false .add (.t 8) (.c (.d (.str [45])))), none⟩, ⟨(some 10), (.mov (.t 0) false none), none⟩, ⟨(some 11), (.bin false .add (.t 9) (.t 10)), none⟩, ⟨(some 4), (.mov (.t 11) true none), none⟩]) .ret)), [(.tm 4)], 2, 12⟩
theorem t88 : trF P HH 88 = some af88 := by kernel_rfl
def af22 : AF := ⟨(.seq (.ops [⟨(some 1), (.box 6 true (.t 0)), none⟩, ⟨(some 2), (.mov (.c .nils) true (some 1)), none⟩, ⟨(some 3), (.mov (.c (.d (.int .i64 0))) true none), none⟩]) (.seq (.seq (.ops [⟨(some 9), (.load true 6 (.t 1) false), none⟩, ⟨(some 10), (.call 47 [((.t 9), none)] none), none⟩, ⟨(some 11), (.bin false .neq (.t 10) (.c (.d (.int .i64 0)))), none⟩]) (.cond (.t 11) (.seq (.ops [⟨(some 2), (.mov (.c .nils) true (some 1)), none⟩, ⟨(some 3), (.mov (.c (.d (.int .i64 1))) true none), none⟩]) .ret) .skip)) (.seq (.draw [⟨(some 12), (.buildSl 1 [(.c (.d (.int .u8 77))), (.c (.d (.int .u8 66))), (.c (.d (.int .u8 50)))]), none⟩, ⟨(some 13), (.stringish (.t 12)), none⟩, ⟨(some 14), (.fieldA 1 (.t 1)), none⟩, ⟨(some 15), (.load false 1 (.t 14) false), none⟩, ⟨(some 16), (.fieldA 2 (.t 1)), none⟩, ⟨(some 17), (.load false 1 (.t 16) false), none⟩, ⟨(some 18), (.fieldA 3 (.t 1)), none⟩, ⟨(some 19), (.load false 1 (.t 18) false), none⟩, ⟨(some 20), (.load true 6 (.t 1) false), none⟩, ⟨(some 21), (.call 54 [((.t 20), none)] none), none⟩, ⟨(some 22), (.buildSl 1 [(.t 15), (.t 17), (.t 19), (.t 21)]), none⟩, ⟨(some 23), (.call 53 [((.t 13), (some 1)), ((.t 22), (some 1))] (some 0)), none⟩, ⟨(some 4), (.mov (.t 23) true (some 1)), none⟩] [0, 0, 0, 0, 0, 0, 0, 0, 0, 0, 0, 3, 3] []) (.seq (.seq (.draw [⟨(some 24), (.fieldA 4 (.t 1)), none⟩, ⟨(some 25), (.load false 1 (.t 24) false), none⟩, ⟨(some 26), (.load true 6 (.t 1) false), none⟩, ⟨(some 27), (.call 54 [((.t 26), none)] none), none⟩, ⟨(some 28), (.slice 1 (.t 25) none (some (.t 27))), none⟩, ⟨(some 29), (.len (.t 28)), none⟩, ⟨(some 30), (.mov (.c (.d (.int .i64 0))) false none), none⟩] [0, 0, 0, 0, 0, 0, 0] []) (.block 0 (.loop (.seq (.ops [⟨(some 31), (.bin false .lss (.t 30) (.t 29)), none⟩]) (.seq (.cond (.t 31) .skip (.exit 0)) (.seq (.block 1 (.seq (.ops [⟨(some 32), (.idxA 1 (.t 28) (.t 30)), none⟩, ⟨(some 33), (.load false 1 (.t 32) false), none⟩, ⟨(some 6), (.mov (.t 33) true none), none⟩]) (.ops [⟨(some 34), (.mov (.t 4) false (some 1)), none⟩, ⟨(some 35), (.mov (.t 6) false none), none⟩, ⟨(some 36), (.call 50 [((.t 34), (some 1)), ((.t 35), none)] none), none⟩, ⟨(some 4), (.mov (.t 36) true (some 1)), none⟩]))) (.ops [⟨(some 37), (.bin false .add (.t 30) (.c (.d (.int .i64 1)))), none⟩, ⟨(some 30), (.mov (.t 37) true none), none⟩]))))))) (.seq (.ops [⟨(some 38), (.mov (.t 4) true (some 1)), none⟩, ⟨(some 39), (.fieldA 5 (.t 1)), none⟩, ⟨(some 40), (.load false 1 (.t 39) false), none⟩, ⟨(some 41), (.len (.t 40)), none⟩, ⟨(some 42), (.buildSl 1 [(.t 41)]), none⟩, ⟨(some 43), (.call 53 [((.t 38), (some 1)), ((.t 42), (some 1))] (some 0)), none⟩, ⟨(some 4), (.mov (.t 43) true (some 1)), none⟩]) (.seq (.seq (.ops [⟨(some 44), (.fieldA 5 (.t 1)), none⟩, ⟨(some 45), (.load false 1 (.t 44) false), none⟩, ⟨(some 46), (.len (.t 45)), none⟩, ⟨(some 47), (.mov (.c (.d (.int .i64 0))) false none), none⟩]) (.block 2 (.loop (.seq (.ops [⟨(some 48), (.bin false .lss (.t 47) (.t 46)), none⟩]) (.seq (.cond (.t 48) .skip (.exit 2)) (.seq (.block 3 (.seq (.ops [⟨(some 49), (.idxA 7 (.t 45) (.t 47)), none⟩, ⟨(some 50), (.load true 7 (.t 49) false), none⟩, ⟨(some 8), (.alloc [(.d (.int .i64 0)), (.d (.int .i64 0)), (.d (.int .i64 0)), (.d (.str [])), (.d (.int .i64 0)), (.own 1 []), (.d (.str []))]), none⟩, ⟨none, (.store true 7 (.t 8) (.t 50) none), none⟩]) (.seq (.draw [⟨(some 51), (.mov (.t 4) true (some 1)), none⟩, ⟨(some 52), (.fieldA 0 (.t 8)), none⟩, ⟨(some 53), (.load false 1 (.t 52) false), none⟩, ⟨(some 54), (.fieldA 1 (.t 8)), none⟩, ⟨(some 55), (.load false 1 (.t 54) false), none⟩, ⟨(some 56), (.fieldA 2 (.t 8)), none⟩, ⟨(some 57), (.load false 1 (.t 56) false), none⟩, ⟨(some 58), (.buildSl 1 [(.t 53), (.t 55), (.t 57)]), none⟩, ⟨(some 59), (.call 53 [((.t 51), (some 1)), ((.t 58), (some 1))] (some 0)), none⟩, ⟨(some 60), (.fieldA 4 (.t 8)), none⟩, ⟨(some 61), (.load false 1 (.t 60) false), none⟩, ⟨(some 62), (.convInt .u8 (.t 61)), none⟩, ⟨(some 63), (.buildSl 1 [(.t 62)]), none⟩, ⟨(some 64), (.append 1 1 (.t 59) (.t 63)), none⟩, ⟨(some 4), (.mov (.t 64) true (some 1)), none⟩] [0, 0, 0, 0, 0, 0, 0, 0, 0, 0, 0, 0, 0, 3, 3] []) (.draw [⟨(some 65), (.mov (.t 4) true (some 1)), none⟩, ⟨(some 66), (.fieldA 5 (.t 8)), none⟩, ⟨(some 67), (.load false 1 (.t 66) false), none⟩, ⟨(some 68), (.call 55 [((.t 67), (some 1))] none), none⟩, ⟨(some 69), (.fieldA 6 (.t 8)), none⟩, ⟨(some 70), (.load false 1 (.t 69) false), none⟩, ⟨(some 71), (.lenS (.t 70)), none⟩, ⟨(some 72), (.buildSl 1 [(.t 68), (.t 71)]), none⟩, ⟨(some 73), (.call 53 [((.t 65), (some 1)), ((.t 72), (some 1))] (some 0)), none⟩, ⟨(some 74), (.fieldA 6 (.t 8)), none⟩, ⟨(some 75), (.load false 1 (.t 74) false), none⟩, ⟨(some 76), (.append 1 1 (.t 73) (.t 75)), none⟩, ⟨(some 4), (.mov (.t 76) true (some 1)), none⟩] [0, 0, 0, 0, 0, 0, 0, 0, 0, 0, 0, 3, 3] [])))) (.ops [⟨(some 77), (.bin false .add (.t 47) (.c (.d (.int .i64 1)))), none⟩, ⟨(some 47), (.mov (.t 77) true none), none⟩]))))))) (.seq (.ops [⟨(some 78), (.mov (.t 4) true (some 1)), none⟩, ⟨(some 2), (.mov (.t 78) true (some 1)), none⟩, ⟨(some 3), (.mov (.c (.d (.int .i64 0))) true none), none⟩]) .ret))))))), [(.tm 2), (.tm 3)], 1, 79⟩
theorem t22 : trF P HH 22 = some af22 := by kernel_rfl
theorem vc26 (s0 : Bytes) (n1 : Int) (res : CV) (objs' : List (Nat × List CV)) : walkA P (tbF P [102,103,50,48,53,56,105,58,107] [] 26) (anOf af26 []) af26 [CV.d (D.str s0), CV.d (D.int .i64 n1)] [] (fun rs => endE rs res objs') = ((∀ n2 : Int, (mmI true 0 n1 = n2 → (∃ s3 : Bytes, ((Runs P 57 [CV.d (D.int .i64 n2)] [] (CV.d (D.str s3)) []) ∧ ((nI (List.length [101] + List.length s3) ≤ Go.IntKind.max Go.IntKind.i64) ∧ (∀ s4 : Bytes, ([101] ++ s3 = s4 → ((nI (List.length s4 + List.length [45]) ≤ Go.IntKind.max Go.IntKind.i64) ∧ (∀ s5 : Bytes, (s4 ++ [45] = s5 → ((nI (List.length s5 + List.length s0) ≤ Go.IntKind.max Go.IntKind.i64) ∧ (∀ s6 : Bytes, (s5 ++ s0 = s6 → EndR (CV.d (D.str s6)) res [] objs')))))))))))))) := by kernel_rfl
theorem vc88 (s0 : Bytes) (n1 : Int) (res : CV) (objs' : List (Nat × List CV)) : walkA P (tbF P [102,103,50,48,53,56,105,58,107] [] 88) (anOf af88 []) af88 [CV.d (D.str s0), CV.d (D.int .i64 n1)] [] (fun rs => endE rs res objs') = ((∀ n2 : Int, (mmI true n1 0 = n2 → (∃ s3 : Bytes, ((Runs P 57 [CV.d (D.int .i64 n2)] [] (CV.d (D.str s3)) []) ∧ ((nI (List.length [101] + List.length s3) ≤ Go.IntKind.max Go.IntKind.i64) ∧ (∀ s4 : Bytes, ([101] ++ s3 = s4 → ((nI (List.length s4 + List.length [45]) ≤ Go.IntKind.max Go.IntKind.i64) ∧ (∀ s5 : Bytes, (s4 ++ [45] = s5 → ((nI (List.length s5 + List.length s0) ≤ Go.IntKind.max Go.IntKind.i64) ∧ (∀ s6 : Bytes, (s5 ++ s0 = s6 → EndR (CV.d (D.str s6)) res [] objs')))))))))))))) := by kernel_rfl
end B
end Go.Proofs.YtmkkljbfmdngfaaDoor

namespace Go.Proofs.YtmkkljbfmdngfaaDoor
namespace B
open Go.RowKit

theorem mmI_t (a b : Int) : mmI true a b = max a b := by unfold mmI; simp
/-- A message's own name. -/
def ownB (id : Bytes) (n : Int) : Bytes := [101] ++ Lib.itoa (max n 0) ++ [45] ++ id
theorem r26 (id : Bytes) (n : Int) (h1 : n ≤ 9223372036854775807) (h : id.length ≤ 1099511627776) : Runs P 26 [.d (.str id), .d (.int .i64 n)] [] (.d (.str (ownB id n))) [] := by
  refine runs_walkA t26 rfl (vc26 _ _ _ _) (by simp) ?_
  rintro _ rfl
  rw [mmI_t, Int.max_comm]
  have hl := Lib.itoa_length_le (max n 0) (by omega) (by omega)
  refine ⟨_, r57 _ (by omega) (by omega), by simp only [nI, maxI64]; simp; omega, ?_⟩
  rintro _ rfl
  refine ⟨by simp only [nI, maxI64]; simp; omega, ?_⟩
  rintro _ rfl
  refine ⟨by simp only [nI, maxI64]; simp; omega, ?_⟩
  rintro _ rfl
  exact endS rfl
theorem r88 (id : Bytes) (n : Int) (h1 : n ≤ 9223372036854775807) (h : id.length ≤ 1099511627776) : Runs P 88 [.d (.str id), .d (.int .i64 n)] [] (.d (.str (ownB id n))) [] := by
  refine runs_walkA t88 rfl (vc88 _ _ _ _) (by simp) ?_
  rintro _ rfl
  rw [mmI_t]
  have hl := Lib.itoa_length_le (max n 0) (by omega) (by omega)
  refine ⟨_, r57 _ (by omega) (by omega), by simp only [nI, maxI64]; simp; omega, ?_⟩
  rintro _ rfl
  refine ⟨by simp only [nI, maxI64]; simp; omega, ?_⟩
  rintro _ rfl
  refine ⟨by simp only [nI, maxI64]; simp; omega, ?_⟩
  rintro _ rfl
  exact endS rfl
end B
end Go.Proofs.YtmkkljbfmdngfaaDoor

namespace Go.Proofs.YtmkkljbfmdngfaaDoor
namespace B
open Go.RowKit

theorem keys_all {n : Int} : ∀ {l : List Int} {was : Int}, keysB n was l = true → (∀ k ∈ l, was < k ∧ k < n) ∧ was + l.length < max n (was + 1)
  | [], was, _ => ⟨by simp, by simp; omega⟩
  | k :: r, was, h => by
    simp only [keysB, Bool.and_eq_true, decide_eq_true_eq] at h
    obtain ⟨h1, h2⟩ := keys_all h.2
    refine ⟨fun x hx => ?_, by simp only [List.length_cons]; omega⟩
    rcases List.mem_cons.1 hx with rfl | hx
    · exact h.1
    · have := h1 x hx; omega
structure MsgMay (nw : Nat) (m : Msg) : Prop where
  uid : 1 ≤ m.uid ∧ m.uid ≤ 999999
  mod : 1 ≤ m.mod ∧ m.mod ≤ 1000000
  date : 0 ≤ m.date ∧ m.date ≤ 1000000
  id : atomB m.id = true
  flags : 0 ≤ m.flags ∧ m.flags ≤ 31
  keys : keysB nw (-1) m.keys = true
  text : m.text.length ≤ 300
theorem msgMay {nw : Nat} {m : Msg} : mayMsg nw m = true ↔ MsgMay nw m := by
  unfold mayMsg withinB
  simp only [Bool.and_eq_true, decide_eq_true_eq]
  constructor
  · rintro ⟨h1, h2, h3, h4, h5, h6, h7⟩; exact ⟨h1, h2, h3, h4, h5, h6, h7⟩
  · rintro ⟨h1, h2, h3, h4, h5, h6, h7⟩; exact ⟨h1, h2, h3, h4, h5, h6, h7⟩
theorem MsgMay.key0 {nw : Nat} {m : Msg} (h : MsgMay nw m) : ∀ k ∈ m.keys, 0 ≤ k ∧ k < nw := fun k hk => by
  have := (keys_all h.keys).1 k hk; omega
theorem MsgMay.keyLen {nw : Nat} {m : Msg} (h : MsgMay nw m) : m.keys.length ≤ nw := by
  have := (keys_all h.keys).2; omega
structure BoxMay (b : Box) : Prop where
  id : atomB b.id = true ∧ b.id.length ≤ 12
  valid : 1 ≤ b.valid ∧ b.valid ≤ 1000000
  high : 1 ≤ b.high ∧ b.high ≤ 1000000
  next : 1 ≤ b.next ∧ b.next ≤ 1000000
  nw : b.words.length ≤ 64
  nm : b.msgs.length ≤ 60
  words : wordsB [] b.words = true
  msgs : msgsB b.words.length b.next b.high 0 b.msgs = true
theorem boxMay {b : Box} : mayBox b = 0 ↔ BoxMay b := by
  unfold mayBox
  constructor
  · intro h
    split at h
    · rename_i h1
      split at h
      · rename_i h2
        unfold errB at h
        split at h
        · rename_i h3
          unfold headB withinB at h1; unfold sizeB at h2
          simp only [Bool.and_eq_true, decide_eq_true_eq] at h1 h2 h3
          exact ⟨⟨h1.1, h1.2.1⟩, h1.2.2.1, h1.2.2.2.1, h1.2.2.2.2, h2.1, h2.2, h3.1, h3.2⟩
        · cases h
      · cases h
    · cases h
  · rintro ⟨h1, h2, h3, h4, h5, h6, h7, h8⟩
    have e1 : headB b = true := by
      unfold headB withinB; simp only [Bool.and_eq_true, decide_eq_true_eq]; exact ⟨h1.1, h1.2, h2, h3, h4⟩
    have e2 : sizeB b = true := by unfold sizeB; simp only [Bool.and_eq_true, decide_eq_true_eq]; exact ⟨h5, h6⟩
    rw [if_pos e1, if_pos e2, h7, h8]; rfl
theorem atom_len {s : Bytes} (h : atomB s = true) : 1 ≤ s.length ∧ s.length ≤ 24 := by
  unfold atomB at h; simp only [Bool.and_eq_true, decide_eq_true_eq] at h; exact h.1

def box0 : Box := ⟨[98, 49], 5, 1, 1, [], []⟩
end B
end Go.Proofs.YtmkkljbfmdngfaaDoor
