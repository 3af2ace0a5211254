/- Numbers the wrong way round, on data. No condition. -/
import Derived.Test.YtmiclaoelbemkaaDoorN9
import Derived.Lib.ItoaLen
set_option linter.all false
namespace Go.Proofs.YtmiclaoelbemkaaDoor
namespace B
open Go.RowKit

def swp2 (p : Int × Int) : Int × Int := (p.2, p.1)
def fixS (most : Int) (p : Int × Int) : Int × Int := (ends most p.1, ends most p.2)
theorem any_rev_map {α β : Type} (l : List α) (g : α → β) (f : β → Bool) (f' : α → Bool) (h : ∀ x ∈ l, f (g x) = f' x) : (l.reverse.map g).any f = l.any f' := by
  rw [List.any_map, List.any_reverse, Bool.eq_iff_iff, List.any_eq_true, List.any_eq_true]
  constructor
  · rintro ⟨x, hx, h1⟩; exact ⟨x, hx, by rw [← h x hx]; exact h1⟩
  · rintro ⟨x, hx, h1⟩; exact ⟨x, hx, by show f (g x) = true; rw [h x hx]; exact h1⟩
theorem has_swap (l : List (Int × Int)) (n most : Int) : hasS (l.reverse.map swp2) n most = hasS l n most := by
  unfold hasS mayS
  rw [any_rev_map l swp2 offS offS (fun x _ => by unfold offS swp2; simp [Bool.or_comm]), any_rev_map l swp2 (has1 n most) (has1 n most) (fun x _ => by
    unfold has1 swp2; simp only [Int.min_comm, Int.max_comm, Bool.or_comm])]
  simp
theorem has_fix (l : List (Int × Int)) (n most : Int) (hm : mayS l = true) (h1 : 1 ≤ most) (h2 : most ≤ 1000000) : hasS (l.reverse.map (fixS most)) n 0 = hasS l n most := by
  have hr := may_range hm
  unfold hasS mayS
  rw [any_rev_map l (fixS most) offS offS (fun x hx => by
    have := hr x hx
    unfold offS fixS ends off
    by_cases e1 : x.1 = 0 <;> by_cases e2 : x.2 = 0 <;> simp [e1, e2] <;> omega), any_rev_map l (fixS most) (has1 n 0) (has1 n most) (fun x hx => by
    have := hr x hx
    unfold has1 fixS ends
    by_cases e1 : x.1 = 0 <;> by_cases e2 : x.2 = 0 <;> simp [e1, e2, show ¬ most = 0 by omega, show ¬ most < 1 by omega])]
  simp
theorem rev_take {l : List (Int × Int)} {i : Nat} (h : i < l.length) : l.reverse.take (i + 1) = l.reverse.take i ++ [l[l.length - 1 - i]] := by
  rw [List.take_succ_eq_append_getElem (by simpa using h), List.getElem_reverse]
theorem map_snoc {α : Type} (l : List α) (x : α) (f : α → Int × Int) : (l.map f).map sp ++ [sp (f x)] = ((l ++ [x]).map f).map sp := by simp
theorem numsTurned (l : List (Int × Int)) (n most : Int) (hl : l.length ≤ 9223372036854775806) :
    Runs P 4 [.d (.slice 2 (l.map sp)), .d (.int .i64 n), .d (.int .i64 most)] [] (.d (.bool true)) [] := by
  refine runs_walkA t4 rfl (vc4 _ _ _ _ _) (by simp) ?_
  refine ⟨_, r8 l, ?_⟩
  rintro _ rfl _ rfl b6 hb6
  refine ⟨fun _ => ⟨_, r10, endB rfl⟩, fun h => ?_⟩
  subst h
  simp only [nI, List.length_map, Bool.or_eq_false_iff, Bool.not_eq_false', decide_eq_false_iff_not] at hb6
  obtain ⟨⟨⟨hm, h60⟩, h1⟩, h2⟩ := hb6
  have hl20 : l.length ≤ 20 := by unfold mayS at hm; simp at hm; omega
  have hlen : nI (List.length (l.map sp)) = (l.length : Int) := by simp [nI]
  rw [hlen]
  refine ⟨fun i t u k => ∃ i' : Nat, i = i' ∧ i' ≤ l.length ∧ t = ((l.reverse.take i').map swp2).map sp ∧ u = ((l.reverse.take i').map (fixS most)).map sp ∧ k = l.length - i', ⟨_, 0, rfl, by omega, by simp, by simp, rfl⟩, ?_⟩
  rintro _ _ _ k ⟨i, rfl, hi, rfl, rfl, rfl⟩
  refine ⟨fun hlt => ?_, fun hge => ?_⟩
  · have hlt : i < l.length := by have := of_decide_eq_true hlt; omega
    rintro n14 h14 n15 h15
    have e14 : n14 = (l.length : Int) - 1 := by rw [← h14, W64 (by omega) (by omega)]
    have e15 : n15 = ((l.length - 1 - i : Nat) : Int) := by rw [← h15, W64 (by omega) (by omega)]; omega
    subst e15
    have hj : l.length - 1 - i < l.length := by omega
    refine ⟨⟨by omega, by omega⟩, l[l.length - 1 - i].1, l[l.length - 1 - i].2, by rw [getD_sp _ _ hj]; rfl, by simp; omega, ?_⟩
    have e1 := rev_take hlt
    have fin : ∀ q : Int × Int, q = fixS most l[l.length - 1 - i] → ∀ m : Int, Go.IntKind.wrap Go.IntKind.i64 ((i : Int) + 1) = m → ∃ k11 : Nat, k11 < l.length - i ∧ ∃ i' : Nat, m = i' ∧ i' ≤ l.length ∧ ((l.reverse.take i).map swp2).map sp ++ [D.agg [.int .i64 l[l.length - 1 - i].2, .int .i64 l[l.length - 1 - i].1]] = ((l.reverse.take i').map swp2).map sp ∧ ((l.reverse.take i).map (fixS most)).map sp ++ [D.agg [.int .i64 q.1, .int .i64 q.2]] = ((l.reverse.take i').map (fixS most)).map sp ∧ k11 = l.length - i' := by
      rintro q rfl _ rfl
      refine ⟨l.length - (i + 1), by omega, i + 1, ?_, by omega, ?_, ?_, rfl⟩
      · rw [W64 (by omega) (by omega)]; rfl
      · rw [e1]; exact map_snoc _ _ swp2
      · rw [e1]; exact map_snoc _ _ (fixS most)
    refine ⟨fun ha => ⟨fun hb => ⟨by simp; omega, fin (most, most) ?_⟩, fun hb => ⟨by simp; omega, fin (most, _) ?_⟩⟩, fun ha => ⟨fun hb => ⟨by simp; omega, fin (_, most) ?_⟩, fun hb => ⟨by simp; omega, fin (_, _) ?_⟩⟩⟩ <;>
      (simp only [beq_iff_eq, beq_eq_false_iff_ne, ne_eq] at ha hb; unfold fixS ends; simp only [ha, hb, if_true, if_false, not_false_eq_true] <;> rfl)
  · have hge : i = l.length := by have := of_decide_eq_false hge; omega
    subst hge
    rw [List.take_of_length_le (by simp)]
    refine ⟨_, r13 _ _ _, _, r13 l n most, _, fun _ => r13 _ _ _, _, fun _ => r13 l n most, ?_⟩
    rintro _ rfl
    refine ⟨_, fun _ => r10, ?_⟩
    rintro _ rfl
    refine endB ?_
    rw [has_swap, has_fix l n most hm (by omega) (by omega)]
    simp
end B
end Go.Proofs.YtmiclaoelbemkaaDoor
namespace Go.Proofs.YtmiclaoelbemkaaDoor
namespace B
open Go.RowKit

theorem occ1 (s : Bytes) (c : UInt8) (i : Nat) : Lib.occAt s [c] i = decide (s[i]? = some c) := by
  unfold Lib.occAt
  rw [← List.head?_drop]
  cases h : s.drop i with
  | nil => simp [List.isPrefixOf]
  | cons b r => simp [List.isPrefixOf, eq_comm]; rfl
theorem index_app {c : UInt8} {s : Bytes} (h : c ∉ s) (r : Bytes) : Lib.index (s ++ c :: r) [c] = s.length := by
  refine Lib.index_first (by simp) (by rw [occ1]; simp) fun j hj => ?_
  rw [occ1, List.getElem?_append_left hj]
  simp only [decide_eq_false_iff_not]
  intro e
  exact h (List.mem_of_getElem? e)
theorem index_not {c : UInt8} {s : Bytes} (h : c ∉ s) : Lib.index s [c] = -1 := by
  refine Lib.index_none fun j _ => ?_
  rw [occ1]
  simp only [decide_eq_false_iff_not]
  exact fun e => h (List.mem_of_getElem? e)
theorem pieces_eq (t s : Bytes) : pieces t s = Lib.splitK t 0 (Lib.count s t) s := by
  unfold pieces
  rw [Lib.splitB_data]
theorem join_cons (c : UInt8) (s x : Bytes) (r : List Bytes) : joinB [c] (s :: x :: r) = s ++ c :: joinB [c] (x :: r) := by
  simp [joinB]
theorem pieces_join (c : UInt8) : ∀ (r : List Bytes) (s : Bytes), c ∉ s → (∀ x ∈ r, c ∉ x) → pieces [c] (joinB [c] (s :: r)) = s :: r
  | [], s, h, _ => by
    rw [pieces_eq, show joinB [c] [s] = s by simp [joinB], Lib.count_miss (index_not h)]; rfl
  | x :: r, s, h, hr => by
    have ih := pieces_join c r x (hr x (by simp)) fun y hy => hr y (by simp [hy])
    rw [pieces_eq] at ih ⊢
    rw [join_cons, Lib.count_hit (by simp) (index_app h _)]
    have e : (s ++ c :: joinB [c] (x :: r)).drop (s.length + [c].length) = joinB [c] (x :: r) := by
      rw [List.drop_append]; simp
    rw [e, Nat.add_comm 1, Lib.splitK, index_app h]
    rw [if_neg (by first | (simp; done) | (simp; omega))]
    simp only [Int.toNat_natCast, Nat.add_zero]
    rw [e, ih]
    simp
theorem cut_hit {c : UInt8} {s : Bytes} (h : c ∉ s) (r : Bytes) : Lib.cut (s ++ c :: r) [c] = (s, r, true) := by
  unfold Lib.cut
  rw [index_app h, if_pos (by omega)]
  simp [List.drop_append]
theorem cut_miss {c : UInt8} {s : Bytes} (h : c ∉ s) : Lib.cut s [c] = (s, [], false) := by
  unfold Lib.cut
  rw [index_not h, if_neg (by omega)]

/-! ### decimal numbers -/
def decV (s : Bytes) : Int := s.foldl (fun n c => n * 10 + ((c.toNat : Int) - 48)) 0
def isDig (c : UInt8) : Bool := decide (48 ≤ c.toNat) && decide (c.toNat ≤ 57)
theorem decV_snoc (s : Bytes) (c : UInt8) : decV (s ++ [c]) = decV s * 10 + ((c.toNat : Int) - 48) := by simp [decV]
theorem dig_nat (u : Nat) (h : u < 10) : (UInt8.ofNat (48 + u)).toNat = 48 + u := by
  simp [UInt8.toNat_ofNat']; omega
theorem digits_dec (u : Nat) : ∀ c ∈ Lib.decDigits u, isDig c = true := by
  induction u using Nat.strongRecOn with
  | _ u ih =>
    rw [Lib.decDigits]
    split
    · rename_i h; intro c hc; rw [List.mem_singleton] at hc; subst hc; unfold isDig; rw [dig_nat u h]; simp; omega
    · rename_i h
      intro c hc
      rcases List.mem_append.1 hc with hc | hc
      · exact ih (u / 10) (by omega) c hc
      · rw [List.mem_singleton] at hc; subst hc; unfold isDig; rw [dig_nat (u % 10) (by omega)]; simp; omega
theorem decV_dec (u : Nat) : decV (Lib.decDigits u) = u := by
  induction u using Nat.strongRecOn with
  | _ u ih =>
    rw [Lib.decDigits]
    split
    · rename_i h; simp only [decV, List.foldl_cons, List.foldl_nil]; rw [dig_nat u h]; omega
    · rename_i h
      rw [decV_snoc, ih (u / 10) (by omega), dig_nat (u % 10) (by omega)]; omega
theorem dec_ne (u : Nat) : Lib.decDigits u ≠ [] := by
  rw [Lib.decDigits]; split <;> simp
theorem dec_head (u : Nat) (h : 1 ≤ u) : (Lib.decDigits u).getD 0 0 ≠ 48 := by
  induction u using Nat.strongRecOn with
  | _ u ih =>
    rw [Lib.decDigits]
    split
    · rename_i h1
      intro e
      have := congrArg UInt8.toNat e
      simp only [List.getD_cons_zero] at this
      rw [dig_nat u h1] at this
      simp at this; omega
    · rename_i h1
      have := ih (u / 10) (by omega) (by omega)
      have hn := dec_ne (u / 10)
      cases hd : Lib.decDigits (u / 10) with
      | nil => exact absurd hd hn
      | cons b r => rw [hd] at this; simpa using this
theorem foldl_ge (f : Int → UInt8 → Int) (hf : ∀ n c, 0 ≤ n → isDig c = true → n ≤ f n c) : ∀ (s : Bytes) (n : Int), 0 ≤ n → (∀ c ∈ s, isDig c = true) → n ≤ s.foldl f n
  | [], n, _, _ => by simp
  | c :: r, n, h0, hc => by
    have h1 := hf n c h0 (hc c (by simp))
    have := foldl_ge f hf r (f n c) (by omega) fun x hx => hc x (by simp [hx])
    simp only [List.foldl_cons]; omega
theorem step_ge (n : Int) (c : UInt8) (h : 0 ≤ n) (hc : isDig c = true) : n ≤ n * 10 + ((c.toNat : Int) - 48) := by
  unfold isDig at hc; simp at hc; omega
theorem decV_take (s : Bytes) (hs : ∀ c ∈ s, isDig c = true) (i : Nat) : 0 ≤ decV (s.take i) ∧ decV (s.take i) ≤ decV s := by
  have h0 : 0 ≤ decV (s.take i) := foldl_ge _ step_ge _ 0 (by omega) fun c hc => hs c (List.mem_of_mem_take hc)
  refine ⟨h0, ?_⟩
  conv => rhs; rw [← List.take_append_drop i s, decV, List.foldl_append]
  exact foldl_ge _ step_ge _ _ h0 fun c hc => hs c (List.mem_of_mem_drop hc)
theorem textB_cases (n : Int) (h : 0 ≤ n) : textB n = [42] ∧ n = 0 ∨ ∃ u : Nat, n = u ∧ 1 ≤ u ∧ textB n = Lib.decDigits u := by
  unfold textB
  by_cases e : n = 0
  · left; simp [e]
  · right
    obtain ⟨u, rfl⟩ := Int.eq_ofNat_of_zero_le h
    exact ⟨u, rfl, by omega, by rw [if_neg e]; exact Lib.itoa_nonneg u⟩
theorem textB_no (n : Int) (h : 0 ≤ n) (c : UInt8) (h1 : isDig c = false) (h2 : c ≠ 42) : c ∉ textB n := by
  rcases textB_cases n h with ⟨e, _⟩ | ⟨u, _, _, e⟩
  · rw [e]; simpa using h2
  · rw [e]; intro hc; have := digits_dec u c hc; rw [h1] at this; cases this
def valB (s : Bytes) : Int := if s = [42] then 0 else decV s
theorem dec_ne42 (u : Nat) : Lib.decDigits u ≠ [42] := fun e => by
  have := digits_dec u 42 (by rw [e]; simp)
  revert this; decide
theorem valB_text (n : Int) (h : 0 ≤ n) : valB (textB n) = n := by
  rcases textB_cases n h with ⟨e, e0⟩ | ⟨u, e0, h1, e⟩
  · rw [e, e0]; rfl
  · rw [e, valB, if_neg (dec_ne42 u), decV_dec, e0]
theorem textB_ne (n : Int) (h : 0 ≤ n) : textB n ≠ [] := by
  rcases textB_cases n h with ⟨e, e0⟩ | ⟨u, e0, h1, e⟩
  · rw [e]; simp
  · rw [e]; exact dec_ne u
theorem textB_len (n : Int) (h : 0 ≤ n) (h1 : n ≤ 1000000) : (textB n).length ≤ 100 := by
  unfold textB
  split
  · simp
  · have := Lib.itoa_length_le n (by omega) (by omega); omega
/-- A part, read. -/
def readB (s : Bytes) : Int × Int := if (Lib.cut s [58]).2.2 = true then (valB (Lib.cut s [58]).1, valB (Lib.cut s [58]).2.1) else (valB s, valB s)
theorem partB_cut (p : Int × Int) (h1 : 0 ≤ p.1) (h2 : 0 ≤ p.2) : Lib.cut (partB p) [58] = if p.2 = p.1 then (textB p.1, [], false) else (textB p.1, textB p.2, true) := by
  unfold partB
  split
  · exact cut_miss (textB_no _ h1 58 rfl (by decide))
  · exact cut_hit (textB_no _ h1 58 rfl (by decide)) _
theorem readB_part (p : Int × Int) (h1 : 0 ≤ p.1) (h2 : 0 ≤ p.2) : readB (partB p) = p := by
  unfold readB
  rw [partB_cut p h1 h2]
  by_cases e : p.2 = p.1
  · rw [if_pos e, if_neg (by simp), partB, if_pos e, valB_text _ h1]
    obtain ⟨a, b⟩ := p
    simp at e; subst e; rfl
  · rw [if_neg e, if_pos rfl]
    simp only [valB_text _ h1, valB_text _ h2]
theorem part_no44 (p : Int × Int) (h1 : 0 ≤ p.1) (h2 : 0 ≤ p.2) : 44 ∉ partB p := by
  have a := textB_no _ h1 44 rfl (by decide)
  have b := textB_no _ h2 44 rfl (by decide)
  unfold partB
  split
  · exact a
  · simp [a, b]
theorem pieces_text (l : List (Int × Int)) (hm : mayS l = true) : pieces [44] (joinB [44] (l.map partB)) = l.map partB := by
  have hr := may_range hm
  cases l with
  | nil => simp [mayS] at hm
  | cons p r =>
    exact pieces_join 44 _ _ (part_no44 p (hr p (by simp)).1 (hr p (by simp)).2.2.1) fun x hx => by
      obtain ⟨q, hq, rfl⟩ := List.mem_map.1 hx
      exact part_no44 q (hr q (by simp [hq])).1 (hr q (by simp [hq])).2.2.1
theorem map_read (l : List (Int × Int)) (hm : mayS l = true) : (l.map partB).map readB = l := by
  have hr := may_range hm
  rw [List.map_map]
  conv => rhs; rw [← List.map_id l]
  exact List.map_congr_left fun p hp => readB_part p (hr p hp).1 (hr p hp).2.2.1
theorem text_inj (l m : List (Int × Int)) (hl : mayS l = true) (hm : mayS m = true) : (joinB [44] (l.map partB) == joinB [44] (m.map partB)) = (l == m) := by
  rw [Bool.eq_iff_iff, beq_iff_eq, beq_iff_eq]
  constructor
  · intro h
    rw [← map_read l hl, ← map_read m hm, ← pieces_text l hl, ← pieces_text m hm, h]
  · rintro rfl; rfl
theorem text_ne (l : List (Int × Int)) (hl : mayS l = true) : joinB [44] (l.map partB) ≠ [] := by
  have hr := may_range hl
  cases l with
  | nil => simp [mayS] at hl
  | cons p r =>
    have := textB_ne p.1 (hr p (by simp)).1
    simp only [List.map_cons, joinB, ne_eq, List.append_eq_nil_iff, not_and]
    intro h
    exfalso
    unfold partB at h
    split at h
    · exact this h
    · simp at h
end B
end Go.Proofs.YtmiclaoelbemkaaDoor
namespace Go.Proofs.YtmiclaoelbemkaaDoor
namespace B
open Go.RowKit

theorem wrapU8 (n : Int) (h : 0 ≤ n) (h1 : n ≤ 255) : Go.IntKind.wrap Go.IntKind.u8 n = n := by
  unfold Go.IntKind.wrap Go.IntKind.bits Go.IntKind.signed; simp; omega
theorem r23 (s : Bytes) (hne : s ≠ []) (h42 : s ≠ [42]) (h48 : s.getD 0 0 ≠ 48) (hd : ∀ c ∈ s, isDig c = true) (hv : decV s ≤ 1000000) (hlen : s.length ≤ 1000) :
    Runs P 23 [.d (.str s)] [] (.tup [.d (.int .i64 (decV s)), .d (.bool true)]) [] := by
  refine runs_walkA t23 rfl (vc23 _ _ _) (by simp) ?_
  have hpos : 1 ≤ s.length := by cases s with | nil => exact absurd rfl hne | cons _ _ => simp
  refine ⟨(fun h => absurd (by simpa using h) h42), fun _ => ⟨fun _ => ⟨by omega, by simp only [nI]; omega⟩, fun b hb => ?_⟩⟩
  have hb : b = false := by
    rw [← hb, Bool.or_eq_false_iff]
    refine ⟨decide_eq_false (by simp only [nI]; omega), ?_⟩
    have : (s.getD 0 0).toNat ≠ 48 := fun e => h48 (UInt8.toNat_inj.1 e)
    simp only [nI, beq_eq_false_iff_ne, Int.toNat_zero]; omega
  subst hb
  refine ⟨(fun h => by cases h), fun _ => ?_⟩
  refine ⟨fun i n k => ∃ i' : Nat, i = i' ∧ i' ≤ s.length ∧ n = decV (s.take i') ∧ k = s.length - i', ⟨_, 0, rfl, by omega, by simp [decV], rfl⟩, ?_⟩
  rintro _ _ k ⟨i, rfl, hi, rfl, rfl⟩
  refine ⟨fun hlt => ?_, fun hge => ?_⟩
  · have hlt : i < s.length := by have := of_decide_eq_true hlt; simp only [nI] at this; omega
    have hc := hd _ (List.getElem_mem hlt)
    have e : s.getD (Int.toNat (i : Int)) 0 = s[i] := by simp [List.getD_eq_getElem?_getD, hlt]
    have hc' : 48 ≤ s[i].toNat ∧ s[i].toNat ≤ 57 := by unfold isDig at hc; simpa using hc
    obtain ⟨t0, t1⟩ := decV_take s hd i
    obtain ⟨t2, t3⟩ := decV_take s hd (i + 1)
    have e2 : decV (s.take (i + 1)) = decV (s.take i) * 10 + ((s[i].toNat : Int) - 48) := by
      rw [List.take_succ_eq_append_getElem hlt, decV_snoc]
    rw [e]
    refine ⟨⟨by omega, by simp only [nI]; omega⟩, fun _ => ⟨by omega, by simp only [nI]; omega⟩, fun b hb => ?_⟩
    have hb : b = false := by
      rw [← hb, Bool.or_eq_false_iff]
      exact ⟨decide_eq_false (by simp only [nI]; omega), decide_eq_false (by simp only [nI]; omega)⟩
    subst hb
    refine ⟨(fun h => by cases h), fun _ => ?_⟩
    rintro n8 h8
    refine ⟨⟨by omega, by simp only [nI]; omega⟩, ?_⟩
    rintro n9 h9 n10 h10 n11 h11
    have e8 : n8 = decV (s.take i) * 10 := by rw [← h8, W64 (by omega) (by omega)]
    have e9 : n9 = (s[i].toNat : Int) - 48 := by rw [← h9, wrapU8 _ (by simp only [nI]; omega) (by simp only [nI]; omega)]
    have e10 : n10 = n9 := by rw [← h10, W64 (by omega) (by omega)]
    have e11 : n11 = decV (s.take (i + 1)) := by rw [← h11, W64 (by omega) (by omega)]; omega
    refine ⟨fun h => by have := of_decide_eq_true h; omega, fun _ => ?_⟩
    rintro _ rfl
    exact ⟨s.length - (i + 1), by omega, i + 1, by rw [W64 (by omega) (by omega)]; rfl, by omega, e11, rfl⟩
  · have hge : i = s.length := by have := of_decide_eq_false hge; simp only [nI] at this; omega
    subst hge
    rw [List.take_length]
    exact end0 rfl rfl
theorem r23text (n : Int) (h : 0 ≤ n) (h1 : n ≤ 1000000) : Runs P 23 [.d (.str (textB n))] [] (.tup [.d (.int .i64 n), .d (.bool true)]) [] := by
  have hl := textB_len n h h1
  rcases textB_cases n h with ⟨e, e0⟩ | ⟨u, e0, h2, e⟩
  · rw [e, e0]; exact r23star
  · rw [e] at hl ⊢
    have := r23 (Lib.decDigits u) (dec_ne u) (dec_ne42 u) (dec_head u h2) (digits_dec u) (by rw [decV_dec]; omega) (by omega)
    rw [decV_dec] at this
    rw [e0]; exact this
theorem partB_len (p : Int × Int) (h : 0 ≤ p.1 ∧ p.1 ≤ 1000000 ∧ 0 ≤ p.2 ∧ p.2 ≤ 1000000) : (partB p).length ≤ 300 := by
  have h1 := textB_len p.1 h.1 h.2.1
  have h2 := textB_len p.2 h.2.2.1 h.2.2.2
  unfold partB; split <;> simp <;> omega
theorem join_len (l : List (Int × Int)) (hm : mayS l = true) : (joinB [44] (l.map partB)).length ≤ 100000 := by
  have hr := may_range hm
  have hl : l.length ≤ 20 := by unfold mayS at hm; simp at hm; omega
  have : ∀ m : List (Int × Int), (∀ p ∈ m, (partB p).length ≤ 300) → sizes (m.map partB) ≤ 300 * m.length := by
    intro m
    induction m with
    | nil => intro _; simp [sizes]
    | cons p r ih =>
      intro h
      have h1 := h p (by simp)
      have h2 := ih fun q hq => h q (by simp [hq])
      simp only [sizes, List.map_cons, List.sum_cons, List.length_cons] at h2 ⊢
      omega
  have h3 := this l fun p hp => partB_len p (hr p hp)
  cases l with
  | nil => simp [joinB]
  | cons p r =>
    simp only [List.map_cons, joinB, List.length_append]
    have := flat_len [44] (r.map partB)
    rw [this]
    simp only [sizes, List.map_cons, List.sum_cons, List.length_cons, List.length_map, List.length_nil] at *
    omega
/-- Parse of Text. -/
theorem r11text (l : List (Int × Int)) (hm : mayS l = true) : Runs P 11 [.d (.str (joinB [44] (l.map partB)))] [] (.tup [.d (.slice 2 (l.map sp)), .d (.bool true)]) [] := by
  refine runs_walkA t11 rfl (vc11 _ _ _) (by simp) ?_
  have hr := may_range hm
  have hl20 : l.length ≤ 20 := by unfold mayS at hm; simp at hm; omega
  have hjl := join_len l hm
  have h21 := Runs.toD (r21 (joinB [44] (l.map partB)) [44] (by omega) (by decide))
  rw [pieces_text l hm] at h21
  refine ⟨_, h21, ?_⟩
  have hlen : nI (List.length ((l.map partB).map D.str)) = (l.length : Int) := by simp [nI]
  rw [hlen]
  refine ⟨fun out i k => ∃ i' : Nat, i = i' ∧ i' ≤ l.length ∧ out = (l.take i').map sp ∧ k = l.length - i', ⟨_, 0, rfl, by omega, by simp, rfl⟩, ?_⟩
  rintro _ _ k ⟨i, rfl, hi, rfl, rfl⟩
  refine ⟨fun hlt => ?_, fun hge => ?_⟩
  · have hlt : i < l.length := by have := of_decide_eq_true hlt; omega
    have hp := hr _ (List.getElem_mem hlt)
    have hg : ((l.map partB).map D.str).getD (Int.toNat (i : Int)) .nilp = .str (partB l[i]) := by simp [List.getD_eq_getElem?_getD, hlt]
    have e1 : (l.take (i + 1)).map sp = (l.take i).map sp ++ [sp l[i]] := by rw [List.take_succ_eq_append_getElem hlt, List.map_append]; rfl
    have fin : ∀ m : Int, Go.IntKind.wrap Go.IntKind.i64 ((i : Int) + 1) = m → ∀ q : D, q = sp l[i] → ∃ k11 : Nat, k11 < l.length - i ∧ ∃ i' : Nat, m = i' ∧ i' ≤ l.length ∧ (l.take i).map sp ++ [q] = (l.take i').map sp ∧ k11 = l.length - i' := by
      rintro _ rfl _ rfl
      exact ⟨l.length - (i + 1), by omega, i + 1, by rw [W64 (by omega) (by omega)]; rfl, by omega, e1.symm, rfl⟩
    have hlp := partB_len _ hp
    refine ⟨⟨by omega, by omega⟩, partB l[i], by rw [hg]; rfl, ?_⟩
    by_cases e : l[i].2 = l[i].1
    · refine ⟨_, _, _, r22' _ _ _ _ _ (by omega) (by rw [partB_cut _ hp.1 hp.2.2.1, if_pos e]), fun _ => ?_, (fun h => by cases h)⟩
      refine ⟨_, _, r23text _ hp.1 hp.2.1, _, _, r23text _ hp.1 hp.2.1, ?_⟩
      rintro _ rfl
      refine ⟨(fun h => by cases h), fun _ => ⟨by simp; omega, fun m hm' => fin m hm' _ (by unfold sp; rw [e])⟩⟩
    · refine ⟨_, _, _, r22' _ _ _ _ _ (by omega) (by rw [partB_cut _ hp.1 hp.2.2.1, if_neg e]), (fun h => by cases h), fun _ => ?_⟩
      refine ⟨_, _, r23text _ hp.1 hp.2.1, _, _, r23text _ hp.2.2.1 hp.2.2.2, ?_⟩
      rintro _ rfl
      exact ⟨(fun h => by cases h), fun _ => ⟨by simp; omega, fun m hm' => fin m hm' _ rfl⟩⟩
  · have hge : i = l.length := by have := of_decide_eq_false hge; omega
    subst hge
    rw [List.take_length]
    exact ⟨_, r8 l, (fun h => by rw [hm] at h; cases h), fun _ => ⟨⟨rfl, rfl, trivial⟩, trivial, rfl⟩⟩
/-- Alike. -/
theorem r12 (l m : List (Int × Int)) (hl : l.length ≤ 9223372036854775806) : Runs P 12 [.d (.slice 2 (l.map sp)), .d (.slice 2 (m.map sp))] [] (.d (.bool (l == m))) [] := by
  refine runs_walkA t12 rfl (vc12 _ _ _ _) (by simp) ?_
  simp only [nI, List.length_map]
  refine ⟨fun h => endB ?_, fun h => ?_⟩
  · have : l ≠ m := by rintro rfl; simp at h
    simpa using this
  have hlm : l.length = m.length := by simp only [bne_eq_false_iff_eq] at h; omega
  refine ⟨fun i k => ∃ i' : Nat, i = i' ∧ i' ≤ l.length ∧ l.take i' = m.take i' ∧ k = l.length - i', ⟨_, 0, rfl, by omega, by simp, rfl⟩, ?_⟩
  rintro _ k ⟨i, rfl, hi, ht, rfl⟩
  refine ⟨fun hlt => ?_, fun hge => ?_⟩
  · have hlt : i < l.length := by have := of_decide_eq_true hlt; omega
    have hlt' : i < m.length := by omega
    refine ⟨⟨by omega, by omega⟩, l[i].1, l[i].2, by rw [getD_sp _ _ hlt]; rfl, ⟨by omega, by omega⟩, m[i].1, m[i].2, by rw [getD_sp _ _ hlt']; rfl, fun hy => endB ?_, fun hn => ?_⟩
    · have : l ≠ m := by rintro rfl; simp at hy
      simpa using this
    · rintro _ rfl
      refine ⟨l.length - (i + 1), by omega, i + 1, by rw [W64 (by omega) (by omega)]; rfl, by omega, ?_, rfl⟩
      rw [List.take_succ_eq_append_getElem hlt, List.take_succ_eq_append_getElem hlt', ht]
      congr 2
      simp at hn
      exact Prod.ext hn.1 hn.2
  · have hge : i = l.length := by have := of_decide_eq_false hge; omega
    subst hge
    rw [List.take_length, List.take_of_length_le (by omega)] at ht
    exact endB (by simp [ht])
theorem r9m (l : List (Int × Int)) (hm : mayS l = true) : Runs P 9 [.d (.slice 2 (l.map sp))] [] (.d (.str (joinB [44] (l.map partB)))) [] :=
  r9 l hm fun p hp => by
    have := may_range hm p hp
    exact ⟨textB_len _ this.1 this.2.1, textB_len _ this.2.2.1 this.2.2.2⟩
theorem r9n (l : List (Int × Int)) (hm : mayS l = false) : Runs P 9 [.d (.slice 2 (l.map sp))] [] (.d (.str [])) [] := by
  refine runs_walkA t9 rfl (vc9 _ _ _) (by simp) ?_
  exact ⟨_, r8 l, fun _ => end0 rfl rfl, fun h => by rw [hm] at h; cases h⟩
theorem numsBack (l m : List (Int × Int)) (hl : l.length ≤ 9223372036854775806) (hm : m.length ≤ 9223372036854775806) :
    Runs P 3 [.d (.slice 2 (l.map sp)), .d (.slice 2 (m.map sp))] [] (.d (.bool true)) [] := by
  refine runs_walkA t3 rfl (vc3 _ _ _ _) (by simp) ?_
  refine ⟨_, r8 l, _, fun _ => r8 m, ?_⟩
  rintro _ rfl _ rfl b6 hb6
  refine ⟨fun _ => ?_, fun h => ?_⟩
  · cases hc : mayS l with
    | true =>
      refine ⟨_, r9m l hc, _, r8 l, _, fun _ => r10, ?_⟩
      rintro _ rfl
      refine endB ?_
      have := text_ne l hc
      rw [hc, Bool.and_true, beq_iff_eq, Bool.not_true, beq_eq_false_iff_ne]
      exact this
    | false =>
      refine ⟨_, r9n l hc, _, r8 l, _, fun _ => r10, ?_⟩
      rintro _ rfl
      exact endB (by rw [hc]; rfl)
  · subst h
    simp only [nI, List.length_map, Bool.or_eq_false_iff, Bool.not_eq_false', decide_eq_false_iff_not] at hb6
    obtain ⟨⟨⟨h1, h2⟩, h3⟩, h4⟩ := hb6
    refine ⟨_, r9m l h1, _, _, r11text l h1, _, fun _ => r12 l l hl, ?_⟩
    rintro _ rfl
    refine ⟨_, fun _ => r9m l h1, _, fun _ => r9m m h2, _, fun _ => r12 l m hl, ?_⟩
    rintro _ rfl
    refine ⟨_, fun _ => r10, ?_⟩
    rintro _ rfl
    refine endB ?_
    rw [text_inj l m h1 h2]
    simp
end B
end Go.Proofs.YtmiclaoelbemkaaDoor
