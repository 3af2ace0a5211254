/- Readers: abstract texts and what their walks come to: printed by wip/B/gen. No condition. -/
import Derived.Test.YtmkkljbfmdngfaaGreatDoorG1
import Derived.Test.YtmkkljbfmdngfaaGreatDoorB30
set_option linter.all false
namespace Go.Proofs.YtmkkljbfmdngfaaGreatDoor
namespace B
set_option maxRecDepth 100000
theorem t61 :okF P HH 76 1=true:=by kernel_rfl
theorem t63 :okF P HH 124 1=true:=by kernel_rfl
theorem t64 :okF P HH 77 1=true:=by kernel_rfl
theorem t110 :okF P HH 151 2=true:=by kernel_rfl
theorem t134 :okF P HH 184 1=true:=by kernel_rfl
theorem t135 :okF P HH 185 1=true:=by kernel_rfl
theorem t136 :okF P HH 186 2=true:=by kernel_rfl
theorem vc61 (l0 : List D) (res : CV) (objs' : List (Nat × List CV)) : walkA P (tbF P [163,148,112,129,134,118] [] 76) (anOf (afOf P HH 76) []) (afOf P HH 76) [CV.d (D.slice 1 l0)] [] (fun rs => endE rs res objs') = ((∃ l1 : List D, ((Runs P 118 [CV.d (D.slice 1 l0)] [] (CV.own 1 l1) []) ∧ EndR (CV.ptr (6 : Nat) (0 : Nat)) res [(6, [CV.d (D.slice 1 l1), CV.d (D.int .i64 0)])] objs'))) := by kernel_rfl
theorem vc134 (l : List D) (e : Int) (res : CV) (objs' : List (Nat × List CV)) : walkA P (tbF P [163,148,112,129,134,118] [] 184) (anOf (afOf P HH 184) [(0, 1000, 0)]) (afOf P HH 184) [CV.ptr (1000 : Nat) (0 : Nat)] [(1000, [CV.d (D.slice 1 l), CV.d (D.int .i64 e)])] (fun rs => endE rs res objs') = ((∀ b2 : Bool, ((false || e != 0) = b2 → EndR (CV.d (D.bool b2)) res [(1000, [CV.d (D.slice 1 l), CV.d (D.int .i64 e)])] objs'))) := by kernel_rfl
theorem vc136 (l : List D) (e : Int) (n : Int) (res : CV) (objs' : List (Nat × List CV)) : walkA P (tbF P [163,148,112,129,134,118] [] 186) (anOf (afOf P HH 186) [(0, 1000, 0)]) (afOf P HH 186) [CV.ptr 1000 0, CV.d (D.int .i64 n)] [(1000, [CV.d (D.slice 1 l), CV.d (D.int .i64 e)])] (fun rs => endE rs res objs') = (EndR (CV.tup []) res [(1000, [CV.d (D.slice 1 l), CV.d (D.int .i64 n)])] objs') := by kernel_rfl
theorem vc63r (l : List D) (e : Int) (res : CV) (objs' : List (Nat × List CV)) : walkA P (tbF P [163,148,112,129,134,118] [] 124) (anOf (afOf P HH 124) [(0, 1000, 0)]) (afOf P HH 124) [CV.ptr (1000 : Nat) (0 : Nat)] [(1000, [CV.d (D.slice 1 l), CV.d (D.int .i64 e)])] (fun rs => endE rs res objs') = ((((false) = true → EndR (CV.d (D.int .i64 (1 : Int))) res [(1000, [CV.d (D.slice 1 l), CV.d (D.int .i64 e)])] objs') ∧ ((false) = false → EndR (CV.d (D.int .i64 e)) res [(1000, [CV.d (D.slice 1 l), CV.d (D.int .i64 e)])] objs'))) := by kernel_rfl
theorem vc64r (l : List D) (e : Int) (res : CV) (objs' : List (Nat × List CV)) : walkA P (tbF P [163,148,112,129,134,118] [] 77) (anOf (afOf P HH 77) [(0, 1000, 0)]) (afOf P HH 77) [CV.ptr (1000 : Nat) (0 : Nat)] [(1000, [CV.d (D.slice 1 l), CV.d (D.int .i64 e)])] (fun rs => endE rs res objs') = ((((false) = true → EndR (CV.d (D.int .i64 (0 : Int))) res [(1000, [CV.d (D.slice 1 l), CV.d (D.int .i64 e)])] objs') ∧ ((false) = false → EndR (CV.d (D.int .i64 (nI (List.length l)))) res [(1000, [CV.d (D.slice 1 l), CV.d (D.int .i64 e)])] objs'))) := by kernel_rfl
theorem vc135 (l0 : List D) (res : CV) (objs' : List (Nat × List CV)) : walkA P (tbF P [163,148,112,129,134,118] [] 185) (anOf (afOf P HH 185) []) (afOf P HH 185) [CV.d (D.slice 1 l0)] [] (fun rs => endE rs res objs') = ((∃ I1 : (Int → (Int → (Nat → Prop))), ((∃ k2 : Nat, I1 0 0 k2) ∧ (∀ n3 : Int, (∀ n4 : Int, (∀ k5 : Nat, (I1 n3 n4 k5 → (((decide (n3 < 6)) = true → (((n3 == nI (List.length l0)) = true → EndR (CV.tup [CV.d (D.int .i64 (0 : Int)), CV.d (D.int .i64 (0 : Int)), CV.d (D.int .i64 (2 : Int))]) res [] objs') ∧ ((n3 == nI (List.length l0)) = false → ((0 ≤ n3 ∧ n3 < nI (List.length l0)) ∧ (∃ n6 : Int, ((D.cells (List.getD l0 (Int.toNat n3) D.nilp) = [D.int .u8 n6]) ∧ (∀ n7 : Int, (Go.IntKind.wrap Go.IntKind.u8 (nI (BitVec.toNat (BitVec.ofInt (Go.IntKind.bits .u8) n6 &&& BitVec.ofInt (Go.IntKind.bits .u8) 127))) = n7 → (∀ n8 : Int, (Go.IntKind.wrap Go.IntKind.i64 n7 = n8 → (∀ n9 : Int, (Go.IntKind.wrap Go.IntKind.i64 (7 * n3) = n9 → ((0 ≤ n9) ∧ (∀ n10 : Int, (Go.IntKind.wrap Go.IntKind.i64 (n8 * 2 ^ Min.min (Int.toNat n9) (Go.IntKind.bits .i64)) = n10 → (∀ n11 : Int, (Go.IntKind.wrap Go.IntKind.i64 (nI (BitVec.toNat (BitVec.ofInt (Go.IntKind.bits .i64) n4 ||| BitVec.ofInt (Go.IntKind.bits .i64) n10))) = n11 → ((0 ≤ n3 ∧ n3 < nI (List.length l0)) ∧ (∃ n12 : Int, ((D.cells (List.getD l0 (Int.toNat n3) D.nilp) = [D.int .u8 n12]) ∧ (((decide (n12 ≥ 128)) = true → (∀ n13 : Int, (Go.IntKind.wrap Go.IntKind.i64 (n3 + 1) = n13 → (∃ k14 : Nat, ((k14 < k5) ∧ I1 n13 n11 k14))))) ∧ ((decide (n12 ≥ 128)) = false → ((0 ≤ n3 ∧ n3 < nI (List.length l0)) ∧ (∃ n15 : Int, ((D.cells (List.getD l0 (Int.toNat n3) D.nilp) = [D.int .u8 n15]) ∧ (∀ b16 : Bool, ((n15 == 0 && decide (n3 > 0)) = b16 → (∀ b17 : Bool, ((b16 || decide (n11 > 1099511627776)) = b17 → (((b17) = true → EndR (CV.tup [CV.d (D.int .i64 (0 : Int)), CV.d (D.int .i64 (0 : Int)), CV.d (D.int .i64 (3 : Int))]) res [] objs') ∧ ((b17) = false → (∀ n18 : Int, (Go.IntKind.wrap Go.IntKind.i64 (n3 + 1) = n18 → EndR (CV.tup [CV.d (D.int .i64 n11), CV.d (D.int .i64 n18), CV.d (D.int .i64 0)]) res [] objs'))))))))))))))))))))))))))))))))) ∧ ((decide (n3 < 6)) = false → EndR (CV.tup [CV.d (D.int .i64 (0 : Int)), CV.d (D.int .i64 (0 : Int)), CV.d (D.int .i64 (3 : Int))]) res [] objs'))))))))) := by kernel_rfl
theorem vc110 (l : List D) (e : Int) (n : Int) (res : CV) (objs' : List (Nat × List CV)) : walkA P (tbF P [163,148,112,129,134,118] [] 151) (anOf (afOf P HH 151) [(0, 1000, 0)]) (afOf P HH 151) [CV.ptr 1000 0, CV.d (D.int .i64 n)] [(1000, [CV.d (D.slice 1 l), CV.d (D.int .i64 e)])] (fun rs => endE rs res objs') = ((∃ l3 : List D, (∃ n4 : Int, (∃ b5 : Bool, ((Runs P 184 [CV.ptr 1000 0] [(1000, [CV.d (D.slice 1 l), CV.d (D.int .i64 e)])] (CV.d (D.bool b5)) [(1000, [CV.d (D.slice 1 l3), CV.d (D.int .i64 n4)])]) ∧ (((b5) = true → EndR (CV.d (D.str [])) res [(1000, [CV.d (D.slice 1 l3), CV.d (D.int .i64 n4)])] objs') ∧ ((b5) = false → (∃ n6 : Int, (∃ n7 : Int, (∃ n8 : Int, ((Runs P 185 [CV.d (D.slice 1 l3)] [] (CV.tup [CV.d (D.int .i64 n6), CV.d (D.int .i64 n7), CV.d (D.int .i64 n8)]) []) ∧ (((n8 != 0) = true → (((n8 != 0) = true → (∃ l9 : List D, (∃ n10 : Int, ((Runs P 186 [CV.ptr 1000 0, CV.d (D.int .i64 n8)] [(1000, [CV.d (D.slice 1 l3), CV.d (D.int .i64 n4)])] (CV.tup []) [(1000, [CV.d (D.slice 1 l9), CV.d (D.int .i64 n10)])]) ∧ EndR (CV.d (D.str [])) res [(1000, [CV.d (D.slice 1 l9), CV.d (D.int .i64 n10)])] objs')))) ∧ ((n8 != 0) = false → (∀ n11 : Int, (Go.IntKind.wrap Go.IntKind.i64 (n7 + n6) = n11 → ((0 ≤ n7 ∧ n7 ≤ n11 ∧ n11 ≤ nI (List.length l3)) ∧ (∀ l12 : List D, (List.drop (Int.toNat n7) (List.take (Int.toNat n11) l3) = l12 → (∃ s13 : Bytes, ((l12 = List.map byteD s13) ∧ (∀ n14 : Int, (Go.IntKind.wrap Go.IntKind.i64 (n7 + n6) = n14 → ((0 ≤ n14 ∧ n14 ≤ nI (List.length l3) ∧ nI (List.length l3) ≤ nI (List.length l3)) ∧ (∀ l15 : List D, (List.drop (Int.toNat n14) (List.take (Int.toNat (nI (List.length l3))) l3) = l15 → EndR (CV.d (D.str s13)) res [(1000, [CV.d (D.slice 1 l15), CV.d (D.int .i64 n4)])] objs'))))))))))))))) ∧ ((n8 != 0) = false → (((decide (n6 > n)) = true → (((3 != 0) = true → (∃ l16 : List D, (∃ n17 : Int, ((Runs P 186 [CV.ptr 1000 0, CV.d (D.int .i64 3)] [(1000, [CV.d (D.slice 1 l3), CV.d (D.int .i64 n4)])] (CV.tup []) [(1000, [CV.d (D.slice 1 l16), CV.d (D.int .i64 n17)])]) ∧ EndR (CV.d (D.str [])) res [(1000, [CV.d (D.slice 1 l16), CV.d (D.int .i64 n17)])] objs')))) ∧ ((3 != 0) = false → (∀ n18 : Int, (Go.IntKind.wrap Go.IntKind.i64 (n7 + n6) = n18 → ((0 ≤ n7 ∧ n7 ≤ n18 ∧ n18 ≤ nI (List.length l3)) ∧ (∀ l19 : List D, (List.drop (Int.toNat n7) (List.take (Int.toNat n18) l3) = l19 → (∃ s20 : Bytes, ((l19 = List.map byteD s20) ∧ (∀ n21 : Int, (Go.IntKind.wrap Go.IntKind.i64 (n7 + n6) = n21 → ((0 ≤ n21 ∧ n21 ≤ nI (List.length l3) ∧ nI (List.length l3) ≤ nI (List.length l3)) ∧ (∀ l22 : List D, (List.drop (Int.toNat n21) (List.take (Int.toNat (nI (List.length l3))) l3) = l22 → EndR (CV.d (D.str s20)) res [(1000, [CV.d (D.slice 1 l22), CV.d (D.int .i64 n4)])] objs'))))))))))))))) ∧ ((decide (n6 > n)) = false → (∀ n23 : Int, (Go.IntKind.wrap Go.IntKind.i64 (nI (List.length l3) - n7) = n23 → (((decide (n6 > n23)) = true → (((2 != 0) = true → (∃ l24 : List D, (∃ n25 : Int, ((Runs P 186 [CV.ptr 1000 0, CV.d (D.int .i64 2)] [(1000, [CV.d (D.slice 1 l3), CV.d (D.int .i64 n4)])] (CV.tup []) [(1000, [CV.d (D.slice 1 l24), CV.d (D.int .i64 n25)])]) ∧ EndR (CV.d (D.str [])) res [(1000, [CV.d (D.slice 1 l24), CV.d (D.int .i64 n25)])] objs')))) ∧ ((2 != 0) = false → (∀ n26 : Int, (Go.IntKind.wrap Go.IntKind.i64 (n7 + n6) = n26 → ((0 ≤ n7 ∧ n7 ≤ n26 ∧ n26 ≤ nI (List.length l3)) ∧ (∀ l27 : List D, (List.drop (Int.toNat n7) (List.take (Int.toNat n26) l3) = l27 → (∃ s28 : Bytes, ((l27 = List.map byteD s28) ∧ (∀ n29 : Int, (Go.IntKind.wrap Go.IntKind.i64 (n7 + n6) = n29 → ((0 ≤ n29 ∧ n29 ≤ nI (List.length l3) ∧ nI (List.length l3) ≤ nI (List.length l3)) ∧ (∀ l30 : List D, (List.drop (Int.toNat n29) (List.take (Int.toNat (nI (List.length l3))) l3) = l30 → EndR (CV.d (D.str s28)) res [(1000, [CV.d (D.slice 1 l30), CV.d (D.int .i64 n4)])] objs'))))))))))))))) ∧ ((decide (n6 > n23)) = false → (((n8 != 0) = true → (∃ l31 : List D, (∃ n32 : Int, ((Runs P 186 [CV.ptr 1000 0, CV.d (D.int .i64 n8)] [(1000, [CV.d (D.slice 1 l3), CV.d (D.int .i64 n4)])] (CV.tup []) [(1000, [CV.d (D.slice 1 l31), CV.d (D.int .i64 n32)])]) ∧ EndR (CV.d (D.str [])) res [(1000, [CV.d (D.slice 1 l31), CV.d (D.int .i64 n32)])] objs')))) ∧ ((n8 != 0) = false → (∀ n33 : Int, (Go.IntKind.wrap Go.IntKind.i64 (n7 + n6) = n33 → ((0 ≤ n7 ∧ n7 ≤ n33 ∧ n33 ≤ nI (List.length l3)) ∧ (∀ l34 : List D, (List.drop (Int.toNat n7) (List.take (Int.toNat n33) l3) = l34 → (∃ s35 : Bytes, ((l34 = List.map byteD s35) ∧ (∀ n36 : Int, (Go.IntKind.wrap Go.IntKind.i64 (n7 + n6) = n36 → ((0 ≤ n36 ∧ n36 ≤ nI (List.length l3) ∧ nI (List.length l3) ≤ nI (List.length l3)) ∧ (∀ l37 : List D, (List.drop (Int.toNat n36) (List.take (Int.toNat (nI (List.length l3))) l3) = l37 → EndR (CV.d (D.str s35)) res [(1000, [CV.d (D.slice 1 l37), CV.d (D.int .i64 n4)])] objs'))))))))))))))))))))))))))))))))) := by kernel_rfl
end B
end Go.Proofs.YtmkkljbfmdngfaaGreatDoor

namespace Go.Proofs.YtmkkljbfmdngfaaGreatDoor
namespace B
open Go.RowKit

theorem endO {c res : CV} {bx : List (Nat × List CV)} {cs : List CV} {b : Nat} (h : c = res) (h' : bx.lookup b = some cs) (hc : (⟨[res], [(b, cs)]⟩ : St).clo = true) : EndR c res bx [(b, cs)] := by
  subst h
  exact ⟨Wr_refl c, ⟨by rw [h']; exact WcL_refl cs, trivial⟩, hc⟩
theorem range2c {X : Type} {N : Nat} {G : (Int → X → Nat → Prop) → Int → X → Nat → Prop} {E : X → Int → Prop} {x0 : X} (c : Int) (hc : c = N) (J : Nat → X → Prop) (hN : N ≤ 9223372036854775806) (h0 : J 0 x0)
    (hs : ∀ i, i < N → ∀ x, J i x → ∀ (I : Int → X → Nat → Prop) (k : Nat), (∀ x', J (i + 1) x' → ∀ m : Int, Go.IntKind.wrap .i64 ((i : Int) + 1) = m → ∃ k', k' < k ∧ I m x' k') → G I i x k) (he : ∀ x, J N x → E x N) :
    ∃ I : Int → X → Nat → Prop, (∃ k, I 0 x0 k) ∧ ∀ n x k, I n x k → ((decide (n < c) = true → G I n x k) ∧ (decide (n < c) = false → E x n)) := by
  subst hc
  exact range2' J hN h0 (fun i hi _ => hs i hi) he
theorem bs_get (s : Bytes) {i : Nat} (h : i < s.length) : (bs s).getD (Int.toNat (i : Int)) .nilp = byteD s[i] := getD_map _ s h
theorem bs_drop (s : Bytes) (n : Int) : List.drop (Int.toNat n) (List.take (Int.toNat (nI s.length)) (bs s)) = bs (s.drop n.toNat) := by
  simp only [nI, Int.toNat_natCast]
  rw [List.take_of_length_le (by rw [bs_len]; exact Nat.le_refl _)]
  simp [bs, List.map_drop]
theorem bs_cut (s : Bytes) (a b : Nat) : List.drop (Int.toNat (a : Int)) (List.take (Int.toNat (b : Int)) (bs s)) = bs ((s.take b).drop a) := by
  simp only [Int.toNat_natCast, bs, List.map_take, List.map_drop]

abbrev Rd (α : Type) := Bytes → Except Int (α × Bytes)
def rd {α : Type} (p : Rd α) (x : α) (s : Bytes) (e : Int) : α × Bytes × Int := if e = 0 then (match p s with | .ok (a, r) => (a, r, 0) | .error k => (x, s, k)) else (x, s, e)
abbrev rdr (s : Bytes) (e : Int) : List CV := [.d (.slice 1 (bs s)), .d (.int .i64 e)]
theorem or_add (a b k : Nat) (h : b < 2 ^ k) : a * 2 ^ k ||| b = a * 2 ^ k + b := by
  rw [Nat.mul_comm]; exact (Nat.two_pow_add_eq_or_of_lt h a).symm

theorem r134 (s : Bytes) (e : Int) : Runs P 184 [.ptr 1000 0] [(1000, rdr s e)] (.d (.bool (e != 0))) [(1000, rdr s e)] := by
  refine runs_walkZ t134 (vc134 _ _ _ _) rfl (by simp) ?_
  rintro _ rfl
  exact endO (by simp) rfl rfl
theorem r136 (s : Bytes) (e n : Int) : Runs P 186 [.ptr 1000 0, .d (.int .i64 n)] [(1000, rdr s e)] (.tup []) [(1000, rdr s n)] := by
  refine runs_walkZ t136 (vc136 _ _ _ _ _) rfl (by simp) ?_
  exact endO rfl rfl rfl
theorem r63 (s : Bytes) (e : Int) : Runs P 124 [.ptr 1000 0] [(1000, rdr s e)] (.d (.int .i64 e)) [(1000, rdr s e)] := by
  refine runs_walkZ t63 (vc63r _ _ _ _) rfl (by simp) ?_
  exact ⟨fun h => by simp at h, fun _ => endO rfl rfl rfl⟩
theorem r64 (s : Bytes) (e : Int) : Runs P 77 [.ptr 1000 0] [(1000, rdr s e)] (.d (.int .i64 s.length)) [(1000, rdr s e)] := by
  refine runs_walkZ t64 (vc64r _ _ _ _) rfl (by simp) ?_
  exact ⟨fun h => by simp at h, fun _ => endO (by simp [nI, bs_len]) rfl rfl⟩
theorem r61 (s : Bytes) (h : s.length ≤ 1099511627776) : Runs P 76 [.d (.slice 1 (bs s))] [] (.ptr 6 0) [(6, rdr s 0)] := by
  refine runs_walkZ t61 (vc61 _ _ _) rfl (by simp) ?_
  exact ⟨_, r107 _ (by rw [bs_len]; omega), endO rfl rfl rfl⟩
theorem rd_e {α : Type} (p : Rd α) (x : α) (s : Bytes) {e : Int} (h : e ≠ 0) : rd p x s e = (x, s, e) := by unfold rd; rw [if_neg h]
theorem rd_ok {α : Type} {p : Rd α} (x : α) {s : Bytes} {a : α} {r : Bytes} (h : p s = .ok (a, r)) : rd p x s 0 = (a, r, 0) := by unfold rd; rw [if_pos rfl, h]
theorem rd_er {α : Type} {p : Rd α} (x : α) {s : Bytes} {k : Int} (h : p s = .error k) : rd p x s 0 = (x, s, k) := by unfold rd; rw [if_pos rfl, h]

def numGo : Nat → Nat → Nat → Bytes → Except Int (Nat × Nat)
  | 0, _, _, _ => .error 3
  | _ + 1, _, _, [] => .error 2
  | f + 1, i, acc, c :: r =>
    if 128 ≤ c.toNat then numGo f (i + 1) (acc + c.toNat % 128 * 128 ^ i) r
    else if (c.toNat = 0 ∧ 0 < i) ∨ 1099511627776 < acc + c.toNat * 128 ^ i then .error 3 else .ok (acc + c.toNat * 128 ^ i, i + 1)
def numP (s : Bytes) : Except Int (Nat × Nat) := numGo 6 0 0 s
def resN : Except Int (Nat × Nat) → CV
  | .ok (n, k) => .tup [.d (.int .i64 n), .d (.int .i64 k), .d (.int .i64 0)]
  | .error e => .tup [.d (.int .i64 0), .d (.int .i64 0), .d (.int .i64 e)]
theorem pow7 (i : Nat) (h : i < 6) : (2 : Int) ^ Min.min (Int.toNat ((7 * i : Nat) : Int)) (Go.IntKind.bits .i64) = ((128 ^ i : Nat) : Int) := by
  match i, h with
  | 0, _ => decide
  | 1, _ => decide
  | 2, _ => decide
  | 3, _ => decide
  | 4, _ => decide
  | 5, _ => decide
theorem p128 (i : Nat) : 128 ^ i = 2 ^ (7 * i) := by rw [Nat.pow_mul]
theorem acc_or {acc c i : Nat} (h : acc < 128 ^ i) : acc ||| c * 128 ^ i = acc + c * 128 ^ i := by
  rw [p128] at h ⊢
  rw [Nat.or_comm, or_add _ _ _ h]; omega
theorem acc_lt {acc c i : Nat} (h : acc < 128 ^ i) (hc : c < 128) : acc + c * 128 ^ i < 128 ^ (i + 1) := by
  rw [Nat.pow_succ]
  have : c * 128 ^ i ≤ 127 * 128 ^ i := Nat.mul_le_mul_right _ (by omega)
  omega
theorem pow_le6 {i : Nat} (h : i < 6) : 128 ^ (i + 1) ≤ 4398046511104 := by
  have : 128 ^ (i + 1) ≤ 128 ^ 6 := Nat.pow_le_pow_right (by decide) (by omega)
  exact Nat.le_trans this (by decide)
theorem and8_fin : ∀ r : Fin 256, (BitVec.ofInt 8 (r.val : Int) &&& BitVec.ofInt 8 127).toNat = r.val % 128 := by decide +kernel
theorem and8 (c : UInt8) : Go.IntKind.wrap .u8 (nI (BitVec.toNat (BitVec.ofInt (Go.IntKind.bits .u8) (c.toNat : Int) &&& BitVec.ofInt (Go.IntKind.bits .u8) 127))) = ((c.toNat % 128 : Nat) : Int) := by
  have := and8_fin ⟨c.toNat, c.toNat_lt⟩
  rw [show Go.IntKind.bits .u8 = 8 from rfl, this, w8]
  simp only [nI]; omega
theorem r135 (s : Bytes) (hs : s.length ≤ 1099511627776) : Runs P 185 [.d (.slice 1 (bs s))] [] (resN (numP s)) [] := by
  refine runs_walkZ t135 (vc135 _ _ _) rfl (by simp) ?_
  rw [bs_len]
  refine range2c (N := 6) 6 rfl (fun i n => ∃ acc : Nat, n = acc ∧ acc < 128 ^ i ∧ i ≤ s.length ∧ numP s = numGo (6 - i) i acc (s.drop i)) (by decide) ⟨0, rfl, by decide, by omega, rfl⟩ (fun i hi n hJ I k next => ?_) fun n hJ => ?_
  · obtain ⟨acc, rfl, ha, hil, hJ⟩ := hJ
    have e6 : 6 - i = (6 - (i + 1)) + 1 := by omega
    rw [e6] at hJ
    refine ⟨fun h => ?_, fun h => ?_⟩
    · have : i = s.length := by simp only [nI, beq_iff_eq] at h; omega
      subst this
      rw [List.drop_length, numGo] at hJ
      rw [hJ]; exact end0 rfl rfl
    have hlt : i < s.length := by simp only [nI, beq_eq_false_iff_ne] at h; omega
    rw [drop_cons hlt, numGo] at hJ
    have hc := s[i].toNat_lt
    have bd : 0 ≤ (i : Int) ∧ (i : Int) < nI s.length := ⟨by omega, by simp only [nI]; omega⟩
    refine ⟨bd, (s[i].toNat : Int), by rw [bs_get _ hlt]; rfl, ?_⟩
    rintro n7 h7 n8 h8 n9 h9
    rw [and8] at h7
    rw [← h7, W64 (by omega) (by omega)] at h8
    have h9 : n9 = ((7 * i : Nat) : Int) := by rw [← h9, W64 (by omega) (by omega)]; omega
    subst h9
    refine ⟨by omega, ?_⟩
    rintro n10 h10 n11 h11
    have hal := acc_lt (c := s[i].toNat % 128) ha (by omega)
    have hpl := pow_le6 hi
    have h10 : n10 = ((s[i].toNat % 128 * 128 ^ i : Nat) : Int) := by
      rw [← h10, ← h8, pow7 i hi, ← Int.natCast_mul, W64 (by omega) (by omega)]
    rw [h10, or64 _ _ (by omega) (by omega), acc_or ha] at h11
    refine ⟨bd, (s[i].toNat : Int), by rw [bs_get _ hlt]; rfl, fun h => ?_, fun h => ?_⟩
    · have h := of_decide_eq_true h
      rw [if_pos (by omega)] at hJ
      exact next _ ⟨_, h11.symm, hal, by omega, hJ⟩
    · have h := of_decide_eq_false h
      rw [if_neg (by omega)] at hJ
      refine ⟨bd, (s[i].toNat : Int), by rw [bs_get _ hlt]; rfl, ?_⟩
      have hm : s[i].toNat % 128 = s[i].toNat := by omega
      rw [hm] at h11
      rintro _ rfl b17 h17
      have e17 : b17 = true ↔ ((s[i].toNat = 0 ∧ 0 < i) ∨ 1099511627776 < acc + s[i].toNat * 128 ^ i) := by
        rw [← h17, ← h11]
        simp only [Bool.or_eq_true, Bool.and_eq_true, beq_iff_eq, decide_eq_true_eq]
        omega
      refine ⟨fun h => ?_, fun h => ?_⟩
      · rw [if_pos (e17.1 h)] at hJ
        rw [hJ]; exact end0 rfl rfl
      · rw [if_neg (fun hh => by rw [e17.2 hh] at h; cases h)] at hJ
        rintro _ rfl
        rw [hJ, W64 (by omega) (by omega), ← h11]; exact end0 rfl rfl
  · obtain ⟨acc, rfl, ha, hil, hJ⟩ := hJ
    rw [hJ]; exact end0 rfl rfl
theorem numGo_len : ∀ (f i acc : Nat) (s : Bytes) (n k : Nat), numGo f i acc s = .ok (n, k) → i < k ∧ k ≤ i + s.length ∧ n ≤ 1099511627776
  | 0, _, _, _, _, _, h => by simp [numGo] at h
  | _ + 1, _, _, [], _, _, h => by simp [numGo] at h
  | f + 1, i, acc, c :: r, n, k, h => by
    rw [numGo] at h
    split at h
    · have := numGo_len f (i + 1) _ r n k h
      simp only [List.length_cons]; omega
    · split at h
      · cases h
      · rename_i h1
        simp only [Except.ok.injEq, Prod.mk.injEq] at h
        simp only [List.length_cons]; omega
def textP (most : Int) : Rd Bytes := fun s => match numP s with
  | .error e => .error e
  | .ok (n, k) => if (n : Int) > most then .error 3 else if n > s.length - k then .error 2 else .ok ((s.drop k).take n, s.drop (k + n))
theorem numGo_er : ∀ (f i acc : Nat) (s : Bytes) (e : Int), numGo f i acc s = .error e → e = 2 ∨ e = 3
  | 0, _, _, _, _, h => by simp [numGo] at h; omega
  | _ + 1, _, _, [], _, h => by simp [numGo] at h; omega
  | f + 1, i, acc, c :: r, e, h => by
    rw [numGo] at h
    split at h
    · exact numGo_er f (i + 1) _ r e h
    · split at h
      · simp at h; omega
      · cases h
end B
end Go.Proofs.YtmkkljbfmdngfaaGreatDoor

namespace Go.Proofs.YtmkkljbfmdngfaaGreatDoor
namespace B
open Go.RowKit

theorem Runs.at {f : Nat} {xs : List D} {s s' : Bytes} {e e' : Int} {res : D} (h : Runs P f (.ptr 1000 0 :: xs.map .d) [(1000, rdr s e)] (.d res) [(1000, rdr s' e')]) (b : Nat) (hm : mvF f = false := by decide) :
    Runs P f (.ptr b 0 :: xs.map .d) [(b, rdr s e)] (.d res) [(b, rdr s' e')] := by
  have := h.swap 1000 b (.inr hm)
  simpa [CV.ren, CV.ren1, renB, swp, Function.comp_def] using this
theorem sub_take (s : Bytes) (k n : Nat) : (s.take (k + n)).drop k = (s.drop k).take n := by
  rw [List.drop_take]; congr 1; omega
theorem r110 (s : Bytes) (e most : Int) (hs : s.length ≤ 1099511627776) : Runs P 151 [.ptr 1000 0, .d (.int .i64 most)] [(1000, rdr s e)] (.d (.str (rd (textP most) [] s e).1)) [(1000, rdr (rd (textP most) [] s e).2.1 (rd (textP most) [] s e).2.2)] := by
  refine runs_walkZ t110 (vc110 _ _ _ _ _) rfl (by simp) ?_
  refine ⟨_, _, _, r134 s e, fun h => ?_, fun h => ?_⟩
  · have h : e ≠ 0 := by simpa using h
    rw [rd_e _ _ _ h]
    exact endO rfl rfl rfl
  have h : e = 0 := by simpa using h
  subst h
  have h135 := r135 s hs
  rw [bs_len]
  cases hN : numP s with
  | error x =>
    rw [hN] at h135
    have hx := numGo_er 6 0 0 s x hN
    have e1 : textP most s = .error x := by unfold textP; rw [hN]
    rw [rd_er _ e1]
    refine ⟨_, _, _, h135, fun _ => ⟨fun _ => ⟨_, _, r136 s 0 x, endO rfl rfl rfl⟩, fun h => ?_⟩, fun h => ?_⟩
    · simp at h; omega
    · simp at h; omega
  | ok p =>
    obtain ⟨n, k⟩ := p
    rw [hN] at h135
    obtain ⟨hk1, hk2, hn⟩ := numGo_len 6 0 0 s n k hN
    refine ⟨_, _, _, h135, fun h => by simp at h, fun _ => ⟨fun h1 => ?_, fun h1 => ?_⟩⟩
    · have h1 := of_decide_eq_true h1
      have e1 : textP most s = .error 3 := by unfold textP; rw [hN]; simp only; rw [if_pos h1]
      rw [rd_er _ e1]
      exact ⟨fun _ => ⟨_, _, r136 s 0 3, endO rfl rfl rfl⟩, fun h => by simp at h⟩
    have h1 := of_decide_eq_false h1
    rintro n23 h23
    simp only [nI] at h23
    rw [W64 (by omega) (by omega)] at h23
    subst h23
    refine ⟨fun h2 => ?_, fun h2 => ?_⟩
    · have h2 := of_decide_eq_true h2
      have e1 : textP most s = .error 2 := by unfold textP; rw [hN]; simp only; rw [if_neg h1, if_pos (by omega)]
      rw [rd_er _ e1]
      exact ⟨fun _ => ⟨_, _, r136 s 0 2, endO rfl rfl rfl⟩, fun h => by simp at h⟩
    have h2 := of_decide_eq_false h2
    have e1 : textP most s = .ok ((s.drop k).take n, s.drop (k + n)) := by unfold textP; rw [hN]; simp only; rw [if_neg h1, if_neg (by omega)]
    rw [rd_ok _ e1]
    refine ⟨fun h => by simp at h, fun _ => ?_⟩
    rintro n33 h33
    rw [W64 (by omega) (by omega)] at h33
    have h33 : n33 = ((k + n : Nat) : Int) := by rw [← h33]; omega
    subst h33
    refine ⟨⟨by omega, by omega, by simp only [nI]; omega⟩, ?_⟩
    rintro _ rfl
    refine ⟨(s.take (k + n)).drop k, by rw [bs_cut]; rfl, ?_⟩
    rintro n36 h36
    rw [W64 (by omega) (by omega)] at h36
    have h36 : n36 = ((k + n : Nat) : Int) := by rw [← h36]; omega
    subst h36
    refine ⟨⟨by omega, by simp only [nI]; omega, Int.le_refl _⟩, ?_⟩
    rintro _ rfl
    exact endO (by rw [sub_take]) (by rw [bs_drop, Int.toNat_natCast]; rfl) rfl

end B
end Go.Proofs.YtmkkljbfmdngfaaGreatDoor

namespace Go.Proofs.YtmkkljbfmdngfaaGreatDoor
namespace B
open Go.RowKit

def LI (N : Nat) (J : Nat → Prop) (n : Int) (k : Nat) : Prop := ∃ i : Nat, n = i ∧ i ≤ N ∧ k = N - i ∧ J i
theorem LI.next {N i : Nat} {J : Nat → Prop} {n : Int} (hN : N ≤ 9223372036854775806) (hi : i < N) (hn : Go.IntKind.wrap .i64 ((i : Int) + 1) = n) (h : J (i + 1)) : N - (i + 1) < N - i ∧ LI N J n (N - (i + 1)) :=
  ⟨by omega, i + 1, by rw [← hn, W64 (by omega) (by omega)]; omega, hi, rfl, h⟩

def Rd.bind {α β : Type} (p : Rd α) (f : α → Rd β) : Rd β := fun s => match p s with
  | .ok (a, r) => f a r
  | .error e => .error e
def Rd.pure {α : Type} (a : α) : Rd α := fun s => .ok (a, s)
def Dead (x e : Int) (off : Bool) : Prop := if off = true then x = 3 else e = x ∧ x ≠ 0
theorem live_or (e : Int) (off : Bool) : (e = 0 ∧ off = false) ∨ ∃ x, Dead x e off := by
  cases off with
  | true => exact .inr ⟨3, rfl⟩
  | false =>
    by_cases h : e = 0
    · exact .inl ⟨h, rfl⟩
    · exact .inr ⟨e, rfl, h⟩
theorem Dead.no {x : Int} (h : Dead x 0 false) : False := h.2 h.1.symm
structure Step {α : Type} (p : Rd α) (s : Bytes) (e : Int) (off : Bool) (a : α) (s' : Bytes) (e' : Int) (off' : Bool) : Prop where
  live : e = 0 → off = false → (∃ a0 r, p s = .ok (a0, r) ∧ a = a0 ∧ s' = r ∧ e' = 0 ∧ off' = false) ∨ ∃ x, p s = .error x ∧ Dead x e' off'
  dead : ∀ x, Dead x e off → Dead x e' off'
  len : s'.length ≤ s.length
theorem Step.ok {α : Type} {p : Rd α} {s : Bytes} {e : Int} {off : Bool} {a : α} {s' : Bytes} {e' : Int} {off' : Bool} (h : Step p s e off a s' e' off') (g : e' = 0) (g' : off' = false) : e = 0 ∧ off = false ∧ p s = .ok (a, s') := by
  subst g g'
  rcases live_or e off with ⟨h1, h2⟩ | ⟨x, hx⟩
  · refine ⟨h1, h2, ?_⟩
    rcases h.live h1 h2 with ⟨a0, r, q1, rfl, rfl, _, _⟩ | ⟨x, _, q⟩
    · exact q1
    · exact q.no.elim
  · exact (h.dead x hx).no.elim
theorem Step.bind {α β : Type} {p : Rd α} {f : α → Rd β} {s : Bytes} {e : Int} {off : Bool} {a : α} {s1 : Bytes} {e1 : Int} {o1 : Bool} {b : β} {s2 : Bytes} {e2 : Int} {o2 : Bool} (h1 : Step p s e off a s1 e1 o1) (h2 : Step (f a) s1 e1 o1 b s2 e2 o2) : Step (p.bind f) s e off b s2 e2 o2 := by
  refine ⟨fun he ho => ?_, fun x hx => h2.dead x (h1.dead x hx), Nat.le_trans h2.len h1.len⟩
  unfold Rd.bind
  rcases h1.live he ho with ⟨a0, r, q1, rfl, rfl, q2, q3⟩ | ⟨x, q1, q2⟩
  · rw [q1]; exact h2.live q2 q3
  · rw [q1]; exact .inr ⟨x, rfl, h2.dead x q2⟩
theorem Step.pure {α : Type} (a : α) (s : Bytes) (e : Int) (off : Bool) : Step (Rd.pure a) s e off a s e off :=
  ⟨fun h1 h2 => .inl ⟨a, s, rfl, rfl, rfl, h1, h2⟩, fun _ h => h, Nat.le_refl _⟩
theorem Step.any {α : Type} (p : Rd α) (a : α) (s : Bytes) {e : Int} {off : Bool} (h : (!off && e == 0) = false) : Step p s e off a s e off := by
  refine ⟨fun h1 h2 => ?_, fun _ h => h, Nat.le_refl _⟩
  subst h1 h2; cases h
theorem step_rd {α : Type} (p : Rd α) (x0 : α) (hp : ∀ s x, p s = .error x → x ≠ 0) (hl : ∀ s a r, p s = .ok (a, r) → r.length ≤ s.length) (s : Bytes) (e : Int) (off : Bool) :
    Step p s e off (rd p x0 s e).1 (rd p x0 s e).2.1 (rd p x0 s e).2.2 off := by
  refine ⟨fun he ho => ?_, fun x hx => ?_, ?_⟩
  · subst he ho
    cases h : p s with
    | ok q => obtain ⟨a, r⟩ := q; rw [rd_ok x0 h]; exact .inl ⟨a, r, rfl, rfl, rfl, rfl, rfl⟩
    | error x => rw [rd_er x0 h]; exact .inr ⟨x, rfl, rfl, hp s x h⟩
  · cases off with
    | true => exact hx
    | false =>
      obtain ⟨rfl, h⟩ := hx
      rw [rd_e p x0 s h]; exact ⟨rfl, h⟩
  · by_cases he : e = 0
    · subst he
      cases h : p s with
      | ok q => obtain ⟨a, r⟩ := q; rw [rd_ok x0 h]; exact hl s a r h
      | error x => rw [rd_er x0 h]; exact Nat.le_refl _
    · rw [rd_e p x0 s he]; exact Nat.le_refl _
theorem textP_er {m : Int} (s : Bytes) (x : Int) (h : textP m s = .error x) : x ≠ 0 := by
  unfold textP at h; split at h
  · rename_i e hN
    have := numGo_er 6 0 0 s e hN
    cases h; omega
  · split at h
    · cases h; decide
    · split at h
      · cases h; decide
      · cases h
theorem textP_len {m : Int} (s : Bytes) (a : Bytes) (r : Bytes) (h : textP m s = .ok (a, r)) : r.length ≤ s.length ∧ (a.length : Int) ≤ max m 0 := by
  unfold textP at h; split at h
  · cases h
  · split at h
    · cases h
    · split at h
      · cases h
      · cases h
        simp only [List.length_drop, List.length_take]
        omega
theorem c63 (s : Bytes) (e : Int) : Runs P 124 [.ptr 1100 0] [(1100, rdr s e)] (.d (.int .i64 e)) [(1100, rdr s e)] := Runs.at (xs := []) (r63 s e) 1100

end B
end Go.Proofs.YtmkkljbfmdngfaaGreatDoor
