/- SameBox, SameMsg, SameTexts: contracts on data. Conditions: sizes. -/
import Derived.Test.YtmkkljbfmdngfaaGreatDoorQD
set_option linter.all false
namespace Go.Proofs.YtmkkljbfmdngfaaGreatDoor
namespace B
open Go.RowKit
set_option maxRecDepth 100000
theorem t20 :okF P HR 18 2=true:=by kernel_rfl
theorem t37 :okF P HR 49 2=true:=by kernel_rfl
def sameM (a b : Msg) : Bool := (((((a.uid == b.uid && a.mod == b.mod) && a.date == b.date) && a.id == b.id) && a.flags == b.flags) && a.keys == b.keys) && a.text == b.text
theorem sameM_iff {a b : Msg} : sameM a b = true ↔ a = b := by
  cases a; cases b
  unfold sameM
  simp only [Bool.and_eq_true, beq_iff_eq, Msg.mk.injEq]
  constructor
  · rintro ⟨⟨⟨⟨⟨⟨rfl, rfl⟩, rfl⟩, rfl⟩, rfl⟩, rfl⟩, rfl⟩; simp
  · rintro ⟨rfl, rfl, rfl, rfl, rfl, rfl, rfl⟩; simp
end B
end Go.Proofs.YtmkkljbfmdngfaaGreatDoor

namespace Go.Proofs.YtmkkljbfmdngfaaGreatDoor
namespace B

theorem findM_isSome {l : List Msg} {u : Int} : (findM l u).isSome = true ↔ ∃ m ∈ l, m.uid = u := by
  induction l with
  | nil => simp [findM]
  | cons m r ih =>
    rw [findM_cons]
    split
    · rename_i h; simp at h; simp [h]
    · rename_i h
      simp at h
      simp [ih, h]
theorem erase_filter : ∀ {l : List Msg} {u : Int} {j : Nat}, (l.map Msg.uid).Pairwise (· < ·) → findM l u = some j → l.eraseIdx j = l.filter fun m => !(m.uid == u)
  | [], u, j, _, h => by simp [findM] at h
  | m :: t, u, j, hp, h => by
    rw [findM_cons] at h
    simp only [List.map_cons, List.pairwise_cons] at hp
    split at h
    · rename_i hm
      cases h
      have hm' : m.uid = u := by simpa using hm
      rw [List.eraseIdx_cons_zero, List.filter_cons, if_neg (by simp [hm'])]
      refine (List.filter_eq_self.2 fun x hx => ?_).symm
      have := hp.1 x.uid (List.mem_map_of_mem hx)
      simp; omega
    · rename_i hm
      cases e : findM t u with
      | none => rw [e] at h; simp at h
      | some j' =>
        rw [e] at h
        simp at h
        subst h
        rw [List.eraseIdx_cons_succ, List.filter_cons, if_pos (by simpa using hm), erase_filter hp.2 e]
def cutRow (u m : Int) : Row := ⟨3, u, m, ⟨0, 0, 0, [], 0, [], []⟩, []⟩
def cutRows (h : Int) : List Int → List Row
  | [] => []
  | u :: r => cutRow u (h + 1) :: cutRows (h + 1) r
theorem cutRows_snoc : ∀ (l : List Int) (h u : Int), cutRows h (l ++ [u]) = cutRows h l ++ [cutRow u (h + l.length + 1)]
  | [], h, u => by simp [cutRows]
  | x :: r, h, u => by
    rw [List.cons_append, cutRows, cutRows_snoc r, cutRows, List.cons_append]
    congr 4
    simp only [List.length_cons]; omega
theorem cutRows_len : ∀ (l : List Int) (h : Int), (cutRows h l).length = l.length
  | [], _ => rfl
  | x :: r, h => by rw [cutRows, List.length_cons, cutRows_len r, List.length_cons]
def leftM (l : List Int) (ms : List Msg) : List Msg := ms.filter fun m => !l.contains m.uid
theorem run_cuts : ∀ (l : List Int) (c : Box), BoxMay c → l.Nodup → (∀ u ∈ l, (findM c.msgs u).isSome = true) → c.high + l.length ≤ 1000000 →
    runB c (cutRows c.high l) = (0, { c with msgs := leftM l c.msgs, high := c.high + l.length }) ∧ (leftM l c.msgs).length + l.length = c.msgs.length
  | [], c, _, _, _, _ => by
    have : leftM [] c.msgs = c.msgs := List.filter_eq_self.2 fun x _ => by simp
    simp [cutRows, runB, this]
  | u :: r, c, hc, hn, hp, hh => by
    rw [List.nodup_cons] at hn
    simp only [List.length_cons] at hh
    obtain ⟨j, hj⟩ := Option.isSome_iff_exists.1 (hp u (by simp))
    obtain ⟨hjl, hju⟩ := findM_some hj
    have hM := msgsMay.1 hc.msgs
    have he := erase_filter hM.rise hj
    have hch := hc.high
    have hap : applyB c (cutRow u (c.high + 1)) = (0, { c with msgs := c.msgs.eraseIdx j, high := c.high + 1 }) := by
      rw [applyB_some c (cutRow u (c.high + 1)) (by simp [cutRow]) hj hjl]
      have h1 : oneB c j c.msgs[j] (cutRow u (c.high + 1)) = (0, { c with msgs := c.msgs.eraseIdx j }) := by
        unfold oneB
        have hq : modB (cutRow u (c.high + 1)).mod = true := by
          show (decide (1 ≤ c.high + 1) && decide (c.high + 1 ≤ 1000000)) = true
          rw [decide_eq_true (by omega), decide_eq_true (by omega)]; rfl
        rw [if_neg (by simp [cutRow]), if_neg (by simp [cutRow]), if_neg (by rw [hq]; decide), if_pos (by simp [cutRow])]
      rw [h1, if_neg (by simp [cutRow])]
      have : max c.high (cutRow u (c.high + 1)).mod = c.high + 1 := by show max c.high (c.high + 1) = c.high + 1; omega
      rw [this]
    have hc2 := (applyB_may hc hap).1
    obtain ⟨c', hcc⟩ : ∃ c' : Box, c' = { c with msgs := c.msgs.eraseIdx j, high := c.high + 1 } := ⟨_, rfl⟩
    rw [← hcc] at hc2 hap
    have em : c'.msgs = c.msgs.filter fun m => !(m.uid == u) := by rw [hcc]; exact he
    have eh : c'.high = c.high + 1 := by rw [hcc]
    obtain ⟨q1, q2⟩ := run_cuts r c' hc2 hn.2 (fun v hv => by
      obtain ⟨m, hm, hmu⟩ := findM_isSome.1 (hp v (by simp [hv]))
      refine findM_isSome.2 ⟨m, ?_, hmu⟩
      rw [em]
      refine List.mem_filter.2 ⟨hm, ?_⟩
      have : v ≠ u := fun e => hn.1 (e ▸ hv)
      simp [hmu, this]) (by rw [eh]; omega)
    have el : leftM r c'.msgs = leftM (u :: r) c.msgs := by
      unfold leftM
      rw [em, List.filter_filter]
      refine List.filter_congr fun m _ => ?_
      rw [List.contains_cons, Bool.not_or, Bool.and_comm]
    rw [el] at q1 q2
    refine ⟨?_, ?_⟩
    · rw [cutRows, runB, hap, if_pos rfl]
      dsimp only
      rw [← eh, q1, eh]
      rw [hcc]
      simp only [List.length_cons]
      congr 2
      omega
    · have : c'.msgs.length + 1 = c.msgs.length := by
        rw [hcc]; show (c.msgs.eraseIdx j).length + 1 = _
        rw [List.length_eraseIdx_of_lt hjl]; omega
      simp only [List.length_cons]; omega
def cutsB (b : Box) : List Int → List Int → Bool
  | _, [] => true
  | pre, u :: r => ((findM b.msgs u).isSome && !pre.contains u) && cutsB b (pre ++ [u]) r
theorem cutsB_iff (b : Box) : ∀ (l pre : List Int), cutsB b pre l = true ↔ (∀ u ∈ l, (findM b.msgs u).isSome = true ∧ u ∉ pre) ∧ l.Nodup
  | [], pre => by simp [cutsB]
  | u :: r, pre => by
    simp only [cutsB, Bool.and_eq_true]
    rw [cutsB_iff b r]
    simp only [List.nodup_cons, List.mem_cons, List.mem_append]
    constructor
    · rintro ⟨⟨h1, h2⟩, h3, h4⟩
      refine ⟨?_, fun hu => ?_, h4⟩
      · rintro v (rfl | hv)
        · exact ⟨h1, by simpa using h2⟩
        · exact ⟨(h3 v hv).1, fun hh => (h3 v hv).2 (.inl hh)⟩
      · exact (h3 u hu).2 (.inr (.inl rfl))
    · rintro ⟨h1, h2, h3⟩
      refine ⟨⟨(h1 u (.inl rfl)).1, by simpa using (h1 u (.inl rfl)).2⟩, fun v hv => ⟨(h1 v (.inr hv)).1, ?_⟩, h3⟩
      rintro (hh | hh | hh)
      · exact (h1 v (.inr hv)).2 hh
      · subst hh; exact h2 hv
      · cases hh
def cutOut (b : Box) (l : List Int) : Int × List Row :=
  if mayBox b ≠ 0 then (1, []) else if cutsB b [] l = false then (6, []) else if 1000000 < b.high + l.length then (9, []) else (0, cutRows b.high l)
end B
end Go.Proofs.YtmkkljbfmdngfaaGreatDoor

namespace Go.Proofs.YtmkkljbfmdngfaaGreatDoor
namespace B
set_option maxRecDepth 100000
theorem t31 :okF P HR 42 2=true:=by kernel_rfl
theorem vc31 (s0 : Bytes) (n1 : Int) (n2 : Int) (n3 : Int) (l4 : List D) (l5 : List D) (l6 : List D) (res : CV) (objs' : List (Nat × List CV)) : walkA P (tbF P [163,148,112,129,134,118,1000101,7000102,107500054,1072002147,75,117] [] 42) (anOf (afOf P HR 42) []) (afOf P HR 42) [CV.d (D.agg [D.str s0, D.int .i64 n1, D.int .i64 n2, D.int .i64 n3, D.slice 1 l4, D.slice 7 l5]), CV.d (D.slice 1 l6)] [] (fun rs => endE rs res objs') = ((∃ n7 : Int, ((Runs P 35 [CV.d (D.agg [D.str s0, D.int .i64 n1, D.int .i64 n2, D.int .i64 n3, D.slice 1 l4, D.slice 7 l5])] [] (CV.d (D.int .i64 n7)) []) ∧ (((n7 != 0) = true → EndR (CV.tup [CV.own (11 : Nat) [], CV.d (D.int .i64 (1 : Int))]) res [(2, [CV.d (D.str s0), CV.d (D.int .i64 n1), CV.d (D.int .i64 n2), CV.d (D.int .i64 n3), CV.d (D.slice 1 l4), CV.d (D.slice 7 l5)])] objs') ∧ ((n7 != 0) = false → (∃ I8 : (Int → (Nat → Prop)), ((∃ k9 : Nat, I8 0 k9) ∧ (∀ n10 : Int, (∀ k11 : Nat, (I8 n10 k11 → (((decide (n10 < nI (List.length l6))) = true → ((0 ≤ n10 ∧ n10 < nI (List.length l6)) ∧ (∃ n12 : Int, ((D.cells (List.getD l6 (Int.toNat n10) D.nilp) = [D.int .i64 n12]) ∧ (∃ n13 : Int, ((Runs P 41 [CV.d (D.agg [D.str s0, D.int .i64 n1, D.int .i64 n2, D.int .i64 n3, D.slice 1 l4, D.slice 7 l5]), CV.d (D.int .i64 n12)] [] (CV.d (D.int .i64 n13)) []) ∧ (((!decide (n13 < 0)) = true → 0 ≤ nI (0 : Nat) ∧ nI (0 : Nat) ≤ n10 ∧ n10 ≤ nI (List.length l6)) ∧ (∀ l14 : List D, (List.drop (Int.toNat (nI (0 : Nat))) (List.take (Int.toNat n10) l6) = l14 → (∃ b15 : Bool, (((!decide (n13 < 0)) = true → Runs P 90 [CV.d (D.slice 1 l14), CV.d (D.int .i64 n12)] [] (CV.d (D.bool b15)) []) ∧ (∀ b16 : Bool, ((decide (n13 < 0) || b15) = b16 → (((b16) = true → EndR (CV.tup [CV.own (11 : Nat) [], CV.d (D.int .i64 (6 : Int))]) res [(2, [CV.d (D.str s0), CV.d (D.int .i64 n1), CV.d (D.int .i64 n2), CV.d (D.int .i64 n3), CV.d (D.slice 1 l4), CV.d (D.slice 7 l5)])] objs') ∧ ((b16) = false → (∀ n17 : Int, (Go.IntKind.wrap Go.IntKind.i64 (n10 + 1) = n17 → (∃ k18 : Nat, ((k18 < k11) ∧ I8 n17 k18))))))))))))))))))) ∧ ((decide (n10 < nI (List.length l6))) = false → (∀ n19 : Int, (Go.IntKind.wrap Go.IntKind.i64 (n3 + nI (List.length l6)) = n19 → (((decide (n19 > 1000000)) = true → EndR (CV.tup [CV.own (11 : Nat) [], CV.d (D.int .i64 (9 : Int))]) res [(2, [CV.d (D.str s0), CV.d (D.int .i64 n1), CV.d (D.int .i64 n2), CV.d (D.int .i64 n3), CV.d (D.slice 1 l4), CV.d (D.slice 7 l5)])] objs') ∧ ((decide (n19 > 1000000)) = false → (∃ I20 : (Int → (List D → (Nat → Prop))), ((∃ k21 : Nat, I20 0 [] k21) ∧ (∀ n22 : Int, (∀ l23 : List D, (∀ k24 : Nat, (I20 n22 l23 k24 → (((decide (n22 < nI (List.length l6))) = true → ((0 ≤ n22 ∧ n22 < nI (List.length l6)) ∧ (∃ n25 : Int, ((D.cells (List.getD l6 (Int.toNat n22) D.nilp) = [D.int .i64 n25]) ∧ (∀ n26 : Int, (Go.IntKind.wrap Go.IntKind.i64 (n3 + 1) = n26 → (∀ n27 : Int, (Go.IntKind.wrap Go.IntKind.i64 (n26 + n22) = n27 → (((List.length l23 + List.length [D.agg [D.int .i64 3, D.int .i64 n25, D.int .i64 n27, D.int .i64 0, D.int .i64 0, D.int .i64 0, D.str [], D.int .i64 0, D.slice 1 [], D.str [], D.str []]]) * 128 ≤ 140737488355328) ∧ (∀ n28 : Int, (Go.IntKind.wrap Go.IntKind.i64 (n22 + 1) = n28 → (∃ k29 : Nat, ((k29 < k24) ∧ I20 n28 (l23 ++ [D.agg [D.int .i64 3, D.int .i64 n25, D.int .i64 n27, D.int .i64 0, D.int .i64 0, D.int .i64 0, D.str [], D.int .i64 0, D.slice 1 [], D.str [], D.str []]]) k29))))))))))))) ∧ ((decide (n22 < nI (List.length l6))) = false → EndR (CV.tup [CV.own 11 l23, CV.d (D.int .i64 0)]) res [(2, [CV.d (D.str s0), CV.d (D.int .i64 n1), CV.d (D.int .i64 n2), CV.d (D.int .i64 n3), CV.d (D.slice 1 l4), CV.d (D.slice 7 l5)])] objs')))))))))))))))))))))))) := by kernel_rfl
theorem vc33 (s0 : Bytes) (n1 : Int) (n2 : Int) (n3 : Int) (l4 : List D) (l5 : List D) (n6 : Int) (res : CV) (objs' : List (Nat × List CV)) : walkA P (tbF P [163,148,112,129,134,118,1000101,7000102,107500054,1072002147,75,117] [] 41) (anOf (afOf P HR 41) []) (afOf P HR 41) [CV.d (D.agg [D.str s0, D.int .i64 n1, D.int .i64 n2, D.int .i64 n3, D.slice 1 l4, D.slice 7 l5]), CV.d (D.int .i64 n6)] [] (fun rs => endE rs res objs') = ((∃ n7 : Int, (∃ n8 : Int, ((Runs P 88 [CV.d (D.slice 7 l5), CV.fn 89 [3]] [(3, [CV.d (D.int .i64 n6)])] (CV.d (D.int .i64 n8)) [(3, [CV.d (D.int .i64 n7)])]) ∧ EndR (CV.d (D.int .i64 n8)) res [(2, [CV.d (D.str s0), CV.d (D.int .i64 n1), CV.d (D.int .i64 n2), CV.d (D.int .i64 n3), CV.d (D.slice 1 l4), CV.d (D.slice 7 l5)]), (3, [CV.d (D.int .i64 n7)])] objs')))) := by kernel_rfl
theorem t71 :okF P HR 90 2=true:=by kernel_rfl
theorem t117 :okF P HR 127 2=true:=by kernel_rfl
theorem vc74d (ms : List D) (u : Int) (res : CV) (objs' : List (Nat × List CV)) : walkA P (tbF P [163,148,112,129,134,118,1000101,7000102,107500054,1072002147,75,117] [] 88) (anOf (afOf P HR 88) []) (afOf P HR 88) [CV.d (D.slice 7 ms), CV.fn 89 [1000]] [(1000, [CV.d (D.int .i64 u)])] (fun rs => endE rs res objs') = ((∃ I2 : (Int → (Int → (Nat → Prop))), ((∃ k3 : Nat, I2 0 u k3) ∧ (∀ n4 : Int, (∀ n5 : Int, (∀ k6 : Nat, (I2 n4 n5 k6 → (((decide (n4 < nI (List.length ms))) = true → ((0 ≤ n4 ∧ n4 < nI (List.length ms)) ∧ (∃ n7 : Int, (∃ n8 : Int, (∃ n9 : Int, (∃ s10 : Bytes, (∃ n11 : Int, (∃ l12 : List D, (∃ s13 : Bytes, ((D.cells (List.getD ms (Int.toNat n4) D.nilp) = [D.int .i64 n7, D.int .i64 n8, D.int .i64 n9, D.str s10, D.int .i64 n11, D.slice 1 l12, D.str s13]) ∧ (∃ n14 : Int, (∃ b15 : Bool, ((Runs P 89 [CV.d (D.agg [D.int .i64 n7, D.int .i64 n8, D.int .i64 n9, D.str s10, D.int .i64 n11, D.slice 1 l12, D.str s13]), CV.ptr 1000 0] [(1000, [CV.d (D.int .i64 n5)])] (CV.d (D.bool b15)) [(1000, [CV.d (D.int .i64 n14)])]) ∧ (((b15) = true → EndR (CV.d (D.int .i64 n4)) res [(1000, [CV.d (D.int .i64 n14)])] objs') ∧ ((b15) = false → (∀ n16 : Int, (Go.IntKind.wrap Go.IntKind.i64 (n4 + 1) = n16 → (∃ k17 : Nat, ((k17 < k6) ∧ I2 n16 n14 k17))))))))))))))))))) ∧ ((decide (n4 < nI (List.length ms))) = false → EndR (CV.d (D.int .i64 (-1 : Int))) res [(1000, [CV.d (D.int .i64 n5)])] objs'))))))))) := by kernel_rfl
theorem vc71 (l0 : List D) (n1 : Int) (res : CV) (objs' : List (Nat × List CV)) : walkA P (tbF P [163,148,112,129,134,118,1000101,7000102,107500054,1072002147,75,117] [] 90) (anOf (afOf P HR 90) []) (afOf P HR 90) [CV.d (D.slice 1 l0), CV.d (D.int .i64 n1)] [] (fun rs => endE rs res objs') = ((∃ n2 : Int, ((Runs P 127 [CV.d (D.slice 1 l0), CV.d (D.int .i64 n1)] [] (CV.d (D.int .i64 n2)) []) ∧ EndR (CV.d (D.bool (decide (n2 ≥ 0)))) res [] objs'))) := by kernel_rfl
theorem vc117 (l0 : List D) (n1 : Int) (res : CV) (objs' : List (Nat × List CV)) : walkA P (tbF P [163,148,112,129,134,118,1000101,7000102,107500054,1072002147,75,117] [] 127) (anOf (afOf P HR 127) []) (afOf P HR 127) [CV.d (D.slice 1 l0), CV.d (D.int .i64 n1)] [] (fun rs => endE rs res objs') = ((∃ I2 : (Int → (Nat → Prop)), ((∃ k3 : Nat, I2 0 k3) ∧ (∀ n4 : Int, (∀ k5 : Nat, (I2 n4 k5 → (((decide (n4 < nI (List.length l0))) = true → ((0 ≤ n4 ∧ n4 < nI (List.length l0)) ∧ (∃ n6 : Int, ((D.cells (List.getD l0 (Int.toNat n4) D.nilp) = [D.int .i64 n6]) ∧ (((n1 == n6) = true → EndR (CV.d (D.int .i64 n4)) res [] objs') ∧ ((n1 == n6) = false → (∀ n7 : Int, (Go.IntKind.wrap Go.IntKind.i64 (n4 + 1) = n7 → (∃ k8 : Nat, ((k8 < k5) ∧ I2 n7 k8)))))))))) ∧ ((decide (n4 < nI (List.length l0))) = false → EndR (CV.d (D.int .i64 (-1 : Int))) res [] objs')))))))) := by kernel_rfl
end B
end Go.Proofs.YtmkkljbfmdngfaaGreatDoor

namespace Go.Proofs.YtmkkljbfmdngfaaGreatDoor
namespace B
open Go.RowKit

def idxI (l : List Int) (s : Int) : Int := if l.contains s then (l.idxOf s : Int) else -1
theorem r117 (l : List Int) (s : Int) (hl : l.length ≤ 9223372036854775806) : Runs P 127 [.d (.slice 1 (ints l)), .d (.int .i64 s)] [] (.d (.int .i64 (idxI l s))) [] := by
  refine runs_walkZ t117 (vc117 _ _ _ _) rfl (by simp) ?_
  rw [ints_len]
  refine range1 (fun i => l.contains s = (l.drop i).contains s ∧ l.idxOf s = i + (l.drop i).idxOf s) hl ⟨rfl, by simp⟩ (fun i hi bd hJ I k next => ⟨bd, ?_⟩) fun hJ => ?_
  · refine ⟨l[i], by rw [ints_get l hi]; rfl, ?_⟩
    rw [drop_cons hi, List.contains_cons, List.idxOf_cons] at hJ
    refine ⟨fun h => endI ?_, fun h => next ?_⟩
    · have hq : (l[i] == s) = true := by rw [BEq.comm]; exact h
      rw [hq, h] at hJ
      unfold idxI
      rw [hJ.1, hJ.2]; rfl
    · have hq : (l[i] == s) = false := by rw [BEq.comm]; exact h
      rw [hq, h] at hJ
      refine ⟨by rw [hJ.1]; rfl, ?_⟩
      rw [hJ.2]; simp only [cond_false]; omega
  · rw [List.drop_length] at hJ
    refine endI ?_
    unfold idxI; rw [hJ.1]; rfl
theorem r71 (l : List Int) (s : Int) (hl : l.length ≤ 9223372036854775806) : Runs P 90 [.d (.slice 1 (ints l)), .d (.int .i64 s)] [] (.d (.bool (l.contains s))) [] := by
  refine runs_walkZ t71 (vc71 _ _ _ _) rfl (by simp) ?_
  refine ⟨_, r117 l s hl, endB ?_⟩
  unfold idxI
  cases l.contains s <;> simp <;> omega
theorem r74d (l : List Msg) (u : Int) (hl : l.length ≤ 9223372036854775806) : Runs P 88 [.d (.slice 7 (l.map Msg.d)), .fn 89 [1000]] [(1000, [.d (iD u)])] (.d (iD (findI l u))) [(1000, [.d (iD u)])] := by
  refine runs_walkZ t74 (vc74d (l.map Msg.d) u _ _) rfl (by simp) ?_
  rw [nI_map]
  refine range2' (fun i x => x = u ∧ findI l u = match findM (l.drop i) u with | some j => ((i + j : Nat) : Int) | none => -1) hl ⟨rfl, by unfold findI; rw [List.drop_zero]; cases findM l u <;> simp⟩ (fun i hi bd x hJ I k next => ⟨bd, ?_⟩) fun x hJ => ?_
  · obtain ⟨rfl, hJ⟩ := hJ
    refine ⟨_, _, _, _, _, _, _, by rw [msgs_get l hi]; rfl, _, _, r75r l[i] x, fun h => ?_, fun h => ?_⟩
    · rw [drop_cons hi, findM_cons, h, if_pos rfl] at hJ
      exact endL (by rw [hJ]; rfl) ⟨rfl, trivial⟩ rfl
    · rw [drop_cons hi, findM_cons, h] at hJ
      refine next _ ⟨rfl, ?_⟩
      rw [hJ]
      cases findM (l.drop (i + 1)) x with
      | none => rfl
      | some j => show ((i + (j + 1) : Nat) : Int) = ((i + 1 + j : Nat) : Int); congr 1; omega
  · obtain ⟨rfl, hJ⟩ := hJ
    rw [List.drop_length] at hJ
    exact endL (by rw [hJ]; rfl) ⟨rfl, trivial⟩ rfl
theorem r33 (b : Box) (u : Int) (hl : b.msgs.length ≤ 9223372036854775806) : Runs P 41 [.d b.d, .d (iD u)] [] (.d (iD (findI b.msgs u))) [] := by
  refine runs_walkZ t33 (vc33 b.id b.valid b.next b.high (strs b.words) (b.msgs.map Msg.d) u _ _) rfl (by simp) ?_
  have h := (r74d b.msgs u hl).swap 1000 3
  exact ⟨_, _, by simpa [CV.ren, CV.ren1, renB, swp] using h, end0 rfl rfl⟩
theorem findI_neg (l : List Msg) (u : Int) : decide (findI l u < 0) = !(findM l u).isSome := by
  unfold findI
  cases findM l u with
  | none => rfl
  | some i => simp
theorem take_ints (l : List Int) (i : Nat) : List.drop (Int.toNat (nI 0)) (List.take (Int.toNat (i : Int)) (ints l)) = ints (l.take i) := by
  simp [nI, ints, List.map_take]
theorem r31 (b : Box) (l : List Int) (hb : BoxOk b) (hl : l.length ≤ 1099511627776) : Runs P 42 [.d b.d, .d (.slice 1 (ints l))] [] (.tup [.d (.slice 11 ((cutOut b l).2.map Row.d)), .d (iD (cutOut b l).1)]) [] := by
  refine runs_walkZ t31 (vc31 b.id b.valid b.next b.high (strs b.words) (b.msgs.map Msg.d) (ints l) _ _) rfl (by simp) ?_
  refine ⟨_, r47 b hb, fun h => ?_, fun h => ?_⟩
  · rw [show cutOut b l = (1, []) from by unfold cutOut; rw [if_pos (by simpa using h)]]
    exact endTO rfl
  have h0 : mayBox b = 0 := by simpa using h
  have hM := boxMay.1 h0
  have c0 : ¬ mayBox b ≠ 0 := fun q => q h0
  have hn : nI (List.length (ints l)) = nI l.length := by rw [ints_len]
  rw [hn]
  refine range1 (fun i => cutsB b [] l = cutsB b (l.take i) (l.drop i)) (by omega) rfl (fun i hi bd hJ I k next => ⟨bd, l[i], by rw [ints_get l hi]; rfl, _, r33 b l[i] (by have := hM.nm; omega), fun _ => ⟨by simp [nI], bd.1, Int.le_of_lt bd.2⟩, ?_⟩) fun hJ => ?_
  · rintro _ rfl
    rw [take_ints]
    refine ⟨_, fun _ => r71 (l.take i) l[i] (by rw [List.length_take]; omega), ?_⟩
    rintro b16 h16
    rw [findI_neg] at h16
    rw [drop_cons hi, cutsB, ← List.take_succ_eq_append_getElem hi, show ((findM b.msgs l[i]).isSome && !(l.take i).contains l[i]) = !b16 by rw [← h16]; simp] at hJ
    refine ⟨fun h => ?_, fun h => next (by rw [hJ, h]; rfl)⟩
    rw [h] at hJ
    rw [show cutOut b l = (6, []) from by unfold cutOut; rw [if_neg c0, if_pos (by rw [hJ]; rfl)]]
    exact endTO rfl
  · rw [List.drop_length, cutsB] at hJ
    have hh := hM.high
    rintro _ rfl
    rw [W64 (by simp only [nI]; omega) (by simp only [nI]; omega)]
    simp only [nI]
    refine ⟨fun h => ?_, fun h => ?_⟩
    · have h := of_decide_eq_true h
      rw [show cutOut b l = (9, []) from by unfold cutOut; rw [if_neg c0, if_neg (by rw [hJ]; decide), if_pos (by omega)]]
      exact endTO rfl
    · have h := of_decide_eq_false h
      rw [show cutOut b l = (0, cutRows b.high l) from by unfold cutOut; rw [if_neg c0, if_neg (by rw [hJ]; decide), if_neg (by omega)]]
      refine range2' (fun i x => x = (cutRows b.high (l.take i)).map Row.d) (by omega) rfl (fun i hi bd x hJ I k next => ⟨bd, l[i], by rw [ints_get l hi]; rfl, ?_⟩) fun x hJ => ?_
      · subst hJ
        rintro _ rfl _ rfl
        rw [W64 (n := b.high + 1) (by omega) (by omega), W64 (by omega) (by omega)]
        refine ⟨by rw [List.length_map, cutRows_len, List.length_take]; simp; omega, ?_⟩
        refine next _ ?_
        rw [List.take_succ_eq_append_getElem hi, cutRows_snoc, List.map_append]
        congr 1
        have : b.high + (List.length (l.take i) : Int) + 1 = b.high + 1 + (i : Int) := by rw [List.length_take]; omega
        rw [this]; rfl
      · subst hJ
        rw [List.take_length]
        exact endTO rfl

theorem WU64 (n : Int) : Go.IntKind.wrap .u64 n = n % 18446744073709551616 := by
  unfold Go.IntKind.wrap Go.IntKind.bits Go.IntKind.signed
  simp
theorem cutRows_ok : ∀ (l : List Int) (h : Int), ∀ r ∈ cutRows h l, RowOk r
  | u :: t, h, r, hr => by
    rw [cutRows] at hr
    rcases List.mem_cons.1 hr with rfl | hr
    · exact ⟨by simp [cutRow], by simp [cutRow], by simp [cutRow]⟩
    · exact cutRows_ok t _ r hr
theorem all_cuts {b : Box} {l : List Int} (hM : BoxMay b) (h1 : cutsB b [] l = true) (h2 : b.high + l.length ≤ 1000000) :
    allB b (cutRows b.high l) = (0, { b with msgs := leftM l b.msgs, high := b.high + l.length }) ∧ (leftM l b.msgs).length + l.length = b.msgs.length := by
  obtain ⟨q1, q2⟩ := (cutsB_iff b l []).1 h1
  unfold allB
  rw [if_pos (boxMay.2 hM)]
  exact run_cuts l b hM q2 (fun u hu => (q1 u hu).1) h2
end B
end Go.Proofs.YtmkkljbfmdngfaaGreatDoor
