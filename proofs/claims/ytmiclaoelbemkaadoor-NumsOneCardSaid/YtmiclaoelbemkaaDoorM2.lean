/- Numbers, on data. No condition. -/
import Derived.Test.YtmiclaoelbemkaaDoorM1
import Derived.Test.YtmiclaoelbemkaaDoorB30
import Derived.Test.YtmiclaoelbemkaaDoorB31
import Derived.Lib.ItoaLen
set_option linter.all false
namespace Go.Proofs.YtmiclaoelbemkaaDoor
namespace B
open Go.RowKit

theorem W64 {n : Int} (h : -9223372036854775808 ≤ n) (h' : n ≤ 9223372036854775807) : Go.IntKind.wrap .i64 n = n := by
  unfold Go.IntKind.wrap Go.IntKind.bits Go.IntKind.signed
  simp
  omega
theorem endB {c : Bool} {bs : List (Nat × List CV)} {b : Bool} (h : c = b) : EndR (.d (.bool c)) (.d (.bool b)) bs [] := end0 (by rw [h]) rfl
theorem end1 {c : CV} {bs : List (Nat × List CV)} {b : Nat} {cs : List CV} (h : bs.lookup b = some cs) (hc : (⟨[c], [(b, cs)]⟩ : St).clo = true) : EndR c c bs [(b, cs)] :=
  ⟨Wr_refl c, ⟨by rw [h]; exact WcL_refl cs, trivial⟩, hc⟩
theorem end2 {c : CV} {bs : List (Nat × List CV)} {b b' : Nat} {cs cs' : List CV} (h : bs.lookup b = some cs) (h' : bs.lookup b' = some cs') (hc : (⟨[c], [(b, cs), (b', cs')]⟩ : St).clo = true) : EndR c c bs [(b, cs), (b', cs')] :=
  ⟨Wr_refl c, ⟨by rw [h]; exact WcL_refl cs, by rw [h']; exact WcL_refl cs', trivial⟩, hc⟩

theorem end2B {c c' : Bool} {bs : List (Nat × List CV)} {b b' : Nat} {cs cs' : List CV} (e : c = c') (h : bs.lookup b = some cs) (h' : bs.lookup b' = some cs') (hc : (⟨[.d (.bool c')], [(b, cs), (b', cs')]⟩ : St).clo = true) : EndR (.d (.bool c)) (.d (.bool c')) bs [(b, cs), (b', cs')] := by
  subst e; exact end2 h h' hc
/-- Spans, as data. -/
def sp (p : Int × Int) : D := .agg [.int .i64 p.1, .int .i64 p.2]
def off (n : Int) : Bool := decide (n < 0) || decide (n > 1000000)
def offS (p : Int × Int) : Bool := off p.1 || off p.2
def mayS (l : List (Int × Int)) : Bool := decide (1 ≤ l.length) && decide (l.length ≤ 20) && !l.any offS
def ends (most n : Int) : Int := if n = 0 then most else n
def has1 (n most : Int) (p : Int × Int) : Bool := !((p.1 == 0 || p.2 == 0) && decide (most < 1)) && (decide (min (ends most p.1) (ends most p.2) ≤ n) && decide (n ≤ max (ends most p.1) (ends most p.2)))
def hasS (l : List (Int × Int)) (n most : Int) : Bool := mayS l && !decide (n < 1) && l.any (has1 n most)
def idxS (f : Int × Int → Bool) (l : List (Int × Int)) : Int := if l.any f then (l.findIdx f : Int) else -1
theorem idxS_ge (f : Int × Int → Bool) (l : List (Int × Int)) : decide (idxS f l ≥ 0) = l.any f := by
  unfold idxS
  cases h : l.any f <;> simp <;> omega
theorem getD_sp (l : List (Int × Int)) (i : Nat) (h : i < l.length) : (l.map sp).getD (i : Int).toNat .nilp = sp l[i] := by
  simp [List.getD_eq_getElem?_getD, h]

theorem r16 (n : Int) : Runs P 16 [.d (.int .i64 n)] [] (.d (.bool (off n))) [] := by
  refine runs_walkA t16 rfl (vc16 _ _ _) (by simp) ?_
  rintro _ rfl
  exact endB rfl

theorem r18a (p : Int × Int) : Runs P 18 [.d (sp p), .ptr 1001 0] [(1001, [.fn 16 []])] (.d (.bool (offS p))) [(1001, [.fn 16 []])] := by
  refine runs_walkA t18 rfl (vc18m _ _ _ _) (by simp) ?_
  refine ⟨_, r16 _, _, fun _ => r16 _, ?_⟩
  rintro _ rfl
  exact end1 rfl rfl
theorem r18 (b : Nat) (p : Int × Int) : Runs P 18 [.d (sp p), .ptr b 0] [(b, [.fn 16 []])] (.d (.bool (offS p))) [(b, [.fn 16 []])] := by
  have := (r18a p).swap 1001 b
  simpa [CV.ren, CV.ren1, renB, swp, sp] using this

theorem r27ma (l : List (Int × Int)) (hl : l.length ≤ 9223372036854775806) : Runs P 27 [.d (.slice 2 (l.map sp)), .fn 18 [2000]] [(2000, [.fn 16 []])] (.d (.int .i64 (idxS offS l))) [(2000, [.fn 16 []])] := by
  refine runs_walkA t27 rfl (vc27m _ _ _) (by simp) ?_
  refine ⟨fun i k => ∃ i' : Nat, i = i' ∧ i' ≤ l.length ∧ k = l.length - i' ∧ (l.take i').any offS = false, ⟨rfl, _, 0, rfl, by omega, rfl, by simp⟩, ?_⟩
  rintro _ k ⟨i, rfl, hi, rfl, hno⟩
  refine ⟨fun hlt => ?_, fun hge => ?_⟩
  · have hlt : i < l.length := by simp [nI] at hlt; omega
    refine ⟨by simp [nI]; omega, l[i].1, l[i].2, by rw [getD_sp _ _ hlt]; rfl, _, r18 _ _, fun hy => ?_, fun hn => ?_⟩
    · have e : idxS offS l = i := by
        have hany : l.any offS = true := List.any_eq_true.2 ⟨l[i], List.getElem_mem hlt, hy⟩
        unfold idxS
        rw [if_pos hany]
        congr 1
        refine (List.findIdx_eq hlt).2 ⟨hy, fun j hj => ?_⟩
        have := List.any_eq_false.1 hno l[j] (List.mem_take_iff_getElem.2 ⟨j, by omega, rfl⟩)
        simpa using this
      rw [e]
      exact end1 rfl rfl
    · rintro _ rfl
      refine ⟨rfl, l.length - (i + 1), by omega, i + 1, ?_, by omega, rfl, ?_⟩
      · rw [W64 (by omega) (by omega)]; rfl
      · rw [List.take_succ_eq_append_getElem hlt, List.any_append, hno]
        simpa using hn
  · have hge : i = l.length := by simp [nI] at hge; omega
    subst hge
    rw [List.take_length] at hno
    have e : idxS offS l = -1 := by unfold idxS; rw [if_neg (by simp [hno])]
    rw [e]
    exact end1 rfl rfl
theorem r27m (b : Nat) (l : List (Int × Int)) (hl : l.length ≤ 9223372036854775806) : Runs P 27 [.d (.slice 2 (l.map sp)), .fn 18 [b]] [(b, [.fn 16 []])] (.d (.int .i64 (idxS offS l))) [(b, [.fn 16 []])] := by
  have := (r27ma l hl).swap 2000 b
  simpa [CV.ren, CV.ren1, renB, swp] using this
theorem r17ma (l : List (Int × Int)) (hl : l.length ≤ 9223372036854775806) : Runs P 17 [.d (.slice 2 (l.map sp)), .fn 18 [2000]] [(2000, [.fn 16 []])] (.d (.bool (l.any offS))) [(2000, [.fn 16 []])] := by
  refine runs_walkA t17 rfl (vc17m _ _ _) (by simp) ?_
  refine ⟨_, r27m _ l hl, ?_⟩
  rw [idxS_ge]
  exact end1 rfl rfl
theorem r17m (b : Nat) (l : List (Int × Int)) (hl : l.length ≤ 9223372036854775806) : Runs P 17 [.d (.slice 2 (l.map sp)), .fn 18 [b]] [(b, [.fn 16 []])] (.d (.bool (l.any offS))) [(b, [.fn 16 []])] := by
  have := (r17ma l hl).swap 2000 b
  simpa [CV.ren, CV.ren1, renB, swp] using this
/-- May. -/
theorem r8 (l : List (Int × Int)) : Runs P 8 [.d (.slice 2 (l.map sp))] [] (.d (.bool (mayS l))) [] := by
  refine runs_walkA t8 rfl (vc8 _ _ _) (by simp) ?_
  intro b1 hb1
  refine ⟨l.any offS, fun h => r17m _ l ?_, ?_⟩
  · subst h
    simp [nI] at hb1; omega
  · rintro _ rfl
    refine endB ?_
    rw [← hb1]
    simp only [mayS, nI, List.length_map]
    congr 2
    · exact decide_eq_decide.2 (by omega)
    · exact decide_eq_decide.2 (by omega)

/-- Has, of one span. -/
theorem r24a (p : Int × Int) (most n : Int) : Runs P 24 [.d (sp p), .ptr 1001 0, .ptr 1002 0] [(1001, [.d (.int .i64 most)]), (1002, [.d (.int .i64 n)])] (.d (.bool (has1 n most p))) [(1001, [.d (.int .i64 most)]), (1002, [.d (.int .i64 n)])] := by
  refine runs_walkA t24 rfl (vc24h _ _ _ _ _ _) (by simp) ?_
  obtain ⟨a, b⟩ := p
  rintro _ rfl _ rfl
  refine ⟨fun h => ?_, fun h => ⟨fun ha => ⟨fun hb => ?_, fun hb => ?_⟩, fun ha => ⟨fun hb => ?_, fun hb => ?_⟩⟩⟩
  · have e : has1 n most (a, b) = false := by unfold has1; simp only [h]; simp
    rw [e]; exact end2 rfl rfl rfl
  all_goals
    rintro _ rfl _ rfl _ rfl
    refine end2B ?_ rfl rfl rfl
    unfold has1
    simp only at ha hb h
    rw [h]
    have ha' := ha; have hb' := hb
    simp only [beq_iff_eq, beq_eq_false_iff_ne] at ha' hb'
    simp only [ends, mmI, ha', hb', if_true, if_false, Bool.not_false, Bool.true_and, not_true, not_false_iff]
    first | rfl | (simp; done) | skip
theorem r24 (b b' : Nat) (h1 : b ≠ 1001) (h2 : b ≠ 1002) (h3 : b' ≠ 1001) (h4 : b' ≠ 1002) (h5 : b ≠ b') (p : Int × Int) (most n : Int) : Runs P 24 [.d (sp p), .ptr b 0, .ptr b' 0] [(b, [.d (.int .i64 most)]), (b', [.d (.int .i64 n)])] (.d (.bool (has1 n most p))) [(b, [.d (.int .i64 most)]), (b', [.d (.int .i64 n)])] := by
  have := ((r24a p most n).swap 1001 b).swap 1002 b'
  simpa [CV.ren, CV.ren1, renB, swp, sp, h1, h2, h3, h4, h5, Ne.symm h1, Ne.symm h2, Ne.symm h3, Ne.symm h4, Ne.symm h5] using this

theorem r27ha (l : List (Int × Int)) (most n : Int) (hl : l.length ≤ 9223372036854775806) : Runs P 27 [.d (.slice 2 (l.map sp)), .fn 24 [2000, 2001]] [(2000, [.d (.int .i64 most)]), (2001, [.d (.int .i64 n)])] (.d (.int .i64 (idxS (has1 n most) l))) [(2000, [.d (.int .i64 most)]), (2001, [.d (.int .i64 n)])] := by
  refine runs_walkA t27 rfl (vc27h _ _ _ _ _) (by simp) ?_
  refine ⟨fun i m' n' k => m' = most ∧ n' = n ∧ ∃ i' : Nat, i = i' ∧ i' ≤ l.length ∧ k = l.length - i' ∧ (l.take i').any (has1 n most) = false, ⟨_, rfl, rfl, 0, rfl, by omega, rfl, by simp⟩, ?_⟩
  rintro _ mm nn k ⟨rfl, rfl, i, rfl, hi, rfl, hno⟩
  refine ⟨fun hlt => ?_, fun hge => ?_⟩
  · have hlt : i < l.length := by simp [nI] at hlt; omega
    refine ⟨by simp [nI]; omega, l[i].1, l[i].2, by rw [getD_sp _ _ hlt]; rfl, _, _, _, r24 2000 2001 (by decide) (by decide) (by decide) (by decide) (by decide) _ _ _, fun hy => ?_, fun hn => ?_⟩
    · have e : idxS (has1 nn mm) l = i := by
        have hany : l.any (has1 nn mm) = true := List.any_eq_true.2 ⟨l[i], List.getElem_mem hlt, hy⟩
        unfold idxS
        rw [if_pos hany]
        congr 1
        refine (List.findIdx_eq hlt).2 ⟨hy, fun j hj => ?_⟩
        have := List.any_eq_false.1 hno l[j] (List.mem_take_iff_getElem.2 ⟨j, by omega, rfl⟩)
        simpa using this
      rw [e]
      exact end2 rfl rfl rfl
    · rintro _ rfl
      refine ⟨l.length - (i + 1), by omega, rfl, rfl, i + 1, ?_, by omega, rfl, ?_⟩
      · rw [W64 (by omega) (by omega)]; rfl
      · rw [List.take_succ_eq_append_getElem hlt, List.any_append, hno]
        simpa using hn
  · have hge : i = l.length := by simp [nI] at hge; omega
    subst hge
    rw [List.take_length] at hno
    have e : idxS (has1 nn mm) l = -1 := by unfold idxS; rw [if_neg (by simp [hno])]
    rw [e]
    exact end2 rfl rfl rfl
theorem r27h (b b' : Nat) (h1 : b ≠ 2000) (h2 : b ≠ 2001) (h3 : b' ≠ 2000) (h4 : b' ≠ 2001) (h5 : b ≠ b') (l : List (Int × Int)) (most n : Int) (hl : l.length ≤ 9223372036854775806) : Runs P 27 [.d (.slice 2 (l.map sp)), .fn 24 [b, b']] [(b, [.d (.int .i64 most)]), (b', [.d (.int .i64 n)])] (.d (.int .i64 (idxS (has1 n most) l))) [(b, [.d (.int .i64 most)]), (b', [.d (.int .i64 n)])] := by
  have := ((r27ha l most n hl).swap 2000 b).swap 2001 b'
  simpa [CV.ren, CV.ren1, renB, swp, h1, h2, h3, h4, h5, Ne.symm h1, Ne.symm h2, Ne.symm h3, Ne.symm h4, Ne.symm h5] using this
theorem r17ha (l : List (Int × Int)) (most n : Int) (hl : l.length ≤ 9223372036854775806) : Runs P 17 [.d (.slice 2 (l.map sp)), .fn 24 [2000, 2001]] [(2000, [.d (.int .i64 most)]), (2001, [.d (.int .i64 n)])] (.d (.bool (l.any (has1 n most)))) [(2000, [.d (.int .i64 most)]), (2001, [.d (.int .i64 n)])] := by
  refine runs_walkA t17 rfl (vc17h _ _ _ _ _) (by simp) ?_
  exact ⟨_, _, _, r27ha l most n hl, end2B (idxS_ge _ _) rfl rfl rfl⟩
/-- Has. -/
theorem r13 (l : List (Int × Int)) (n most : Int) : Runs P 13 [.d (.slice 2 (l.map sp)), .d (.int .i64 n), .d (.int .i64 most)] [] (.d (.bool (hasS l n most))) [] := by
  refine runs_walkA t13 rfl (vc13 _ _ _ _ _) (by simp) ?_
  refine ⟨_, r8 l, ?_⟩
  intro b hb
  refine ⟨fun h => endB ?_, fun h => ?_⟩
  · subst h
    unfold hasS
    cases hm : mayS l <;> simp [hm] at hb ⊢
    intro h; omega
  · subst h
    have hm : mayS l = true ∧ ¬ n < 1 := by
      cases hm : mayS l <;> simp [hm] at hb ⊢
      exact hb
    have hl : l.length ≤ 20 := by
      have := hm.1
      unfold mayS at this
      simp at this; omega
    refine ⟨_, _, _, ((r17ha l most n (by omega)).swap 2000 5).swap 2001 4 |> fun h => by simpa [CV.ren, CV.ren1, renB, swp] using h, endB ?_⟩
    unfold hasS
    simp [hm.1, hm.2]
/-- MaySpans. -/
theorem r14 (l : List (Int × Int)) (hl : l.length ≤ 9223372036854775806) : Runs P 14 [.d (.slice 2 (l.map sp))] [] (.d (.bool (mayS l))) [] := by
  refine runs_walkA t14 rfl (vc14 _ _ _) (by simp) ?_
  refine ⟨fun i k => ∃ i' : Nat, i = i' ∧ i' ≤ l.length ∧ k = l.length - i' ∧ (l.take i').any offS = false, ⟨_, 0, rfl, by omega, rfl, by simp⟩, ?_⟩
  rintro _ k ⟨i, rfl, hi, rfl, hno⟩
  refine ⟨fun hlt => ?_, fun hge => ?_⟩
  · have hlt : i < l.length := by simp [nI] at hlt; omega
    refine ⟨by simp [nI]; omega, l[i].1, l[i].2, by rw [getD_sp _ _ hlt]; rfl, ?_⟩
    rintro _ rfl _ rfl b9 hb9
    have e9 : offS l[i] = b9 := by rw [← hb9]; unfold offS off; simp [Bool.or_assoc]
    refine ⟨fun hy => ?_, fun hn => ?_⟩
    · refine endB ?_
      have hany : l.any offS = true := List.any_eq_true.2 ⟨l[i], List.getElem_mem hlt, e9.trans hy⟩
      unfold mayS; simp [hany]
    · rintro _ rfl
      refine ⟨l.length - (i + 1), by omega, i + 1, ?_, by omega, rfl, ?_⟩
      · rw [W64 (by omega) (by omega)]; rfl
      · rw [List.take_succ_eq_append_getElem hlt, List.any_append, hno]
        simpa using e9.trans hn
  · have hge : i = l.length := by simp [nI] at hge; omega
    subst hge
    rw [List.take_length] at hno
    rintro _ rfl
    refine endB ?_
    simp only [mayS, nI, List.length_map, hno, Bool.not_false, Bool.and_true]
    congr 1
    · exact decide_eq_decide.2 (by omega)
    · exact decide_eq_decide.2 (by omega)
end B
end Go.Proofs.YtmiclaoelbemkaaDoor
namespace Go.Proofs.YtmiclaoelbemkaaDoor
namespace B
open Go.RowKit

theorem getD_str (l : List Bytes) (i : Nat) (h : i < l.length) : (l.map D.str).getD (i : Int).toNat .nilp = .str l[i] := by
  simp [List.getD_eq_getElem?_getD, h]
/-- Texts, with another one between. -/
def joinB (sep : Bytes) : List Bytes → Bytes
  | [] => []
  | s :: r => s ++ r.flatMap fun x => sep ++ x
def sizes (l : List Bytes) : Nat := (l.map List.length).sum
theorem sizes_take {l : List Bytes} {i : Nat} (h : i < l.length) : sizes (l.take (i + 1)) = sizes (l.take i) + l[i].length := by
  unfold sizes
  rw [List.take_succ_eq_append_getElem h, List.map_append, List.sum_append]; simp
theorem sizes_le (l : List Bytes) (i : Nat) : sizes (l.take i) ≤ sizes l := by
  unfold sizes
  conv => rhs; rw [← List.take_append_drop i l, List.map_append, List.sum_append]
  omega
theorem flat_len (sep : Bytes) (l : List Bytes) : (l.flatMap fun x => sep ++ x).length = sep.length * l.length + sizes l := by
  induction l with
  | nil => simp [sizes]
  | cons x r ih =>
    simp only [sizes, List.flatMap_cons, List.length_append, List.length_cons, List.map_cons, List.sum_cons] at *
    rw [ih, Nat.mul_add]; omega

/-- Join. -/
theorem r20 (sep : Bytes) (l : List Bytes) (hs : 0 < sep.length) (hb : sep.length * l.length + sizes l ≤ 1099511627776) : Runs P 20 [.d (.slice 1 (l.map .str)), .d (.str sep)] [] (.d (.str (joinB sep l))) [] := by
  refine runs_walkA t20 rfl (vc20 _ _ _ _) (by simp) ?_
  have hll : l.length ≤ 1099511627776 := by
    have : l.length ≤ sep.length * l.length := Nat.le_mul_of_pos_left _ hs
    omega
  have hsl : l ≠ [] → sep.length ≤ 1099511627776 := fun h => by
    have : sep.length ≤ sep.length * l.length := Nat.le_mul_of_pos_right _ (List.length_pos_iff.2 h)
    omega
  refine ⟨fun h => ?_, fun h0 => ⟨fun h => ?_, fun h1 => ⟨fun _ => ?_, fun h => ?_⟩⟩⟩
  · have : l = [] := by simpa [nI] using h
    subst this; exact end0 rfl rfl
  · match l, h with
    | [s], _ => exact ⟨by simp [nI], s, rfl, end0 (by simp [joinB]) rfl⟩
    | [], h => simp [nI] at h
    | _ :: _ :: _, h => simp [nI] at h; omega
  · match l, h0, h1, hb, hll, hsl with
    | [], h0, _, _, _, _ => simp [nI] at h0
    | [s], _, h1, _, _, _ => simp [nI] at h1
    | s :: x :: r, h0, h1, hb, hll, hsl =>
      have hsep := hsl (by simp)
      generalize hl : s :: x :: r = l at *
      have h2 : 2 ≤ l.length := by rw [← hl]; simp
      rintro n3 hn3
      have hn3 : n3 = (l.length : Int) - 1 := by rw [← hn3, W64 (by simp [nI]; omega) (by simp [nI]; omega)]; simp [nI]
      refine ⟨by omega, ?_⟩
      rintro n4 hn4
      have hq : (9223372036854775807 : Int).tdiv n3 = 9223372036854775807 / n3 := Int.tdiv_eq_ediv_of_nonneg (by omega)
      have hq1 : (0 : Int) ≤ 9223372036854775807 / n3 := Int.ediv_nonneg (by omega) (by omega)
      have hq2 : (9223372036854775807 : Int) / n3 ≤ 9223372036854775807 := Int.ediv_le_self _ (by omega)
      have hn4 : n4 = 9223372036854775807 / n3 := by rw [← hn4, hq, W64 (by omega) (by omega)]
      have hmul : (sep.length : Int) * n3 ≤ 1099511627776 := by
        have e1 : sep.length * (l.length - 1) ≤ sep.length * l.length := Nat.mul_le_mul_left _ (by omega)
        have e2 : n3 = ((l.length - 1 : Nat) : Int) := by omega
        rw [e2]
        have e3 : ((sep.length * (l.length - 1) : Nat) : Int) ≤ 1099511627776 := by omega
        simpa using e3
      refine ⟨fun hbig => ?_, fun _ => ?_⟩
      · have hbig := of_decide_eq_true hbig
        simp only [nI] at hbig
        have : (9223372036854775807 : Int) / n3 ≤ sep.length := by rw [← hn4]; exact hbig
        have h5 : (9223372036854775807 : Int) < (sep.length + 1) * n3 := by
          have := Int.lt_mul_of_ediv_lt (a := 9223372036854775807) (b := sep.length + 1) (c := n3) (by omega) (by omega)
          exact this
        rw [Int.add_mul] at h5
        omega
      rintro _ rfl
      rw [W64 (n := nI (l.map D.str).length - 1) (by simp [nI]; omega) (by simp [nI]; omega)]
      rintro n6 hn6
      have hn6 : n6 = (sep.length : Int) * n3 := by
        have e : nI sep.length * (nI (l.map D.str).length - 1) = (sep.length : Int) * n3 := by rw [hn3]; simp [nI]
        rw [← hn6, e, W64 (by have : (0 : Int) ≤ (sep.length : Int) * n3 := Int.mul_nonneg (by omega) (by omega); omega) (by omega)]
      have h6 : (0 : Int) ≤ n6 := by rw [hn6]; exact Int.mul_nonneg (by omega) (by omega)
      rintro n7 hn7
      have hn7 : n7 = n6 := by rw [← hn7, W64 (by omega) (by omega)]; omega
      refine ⟨fun a i k => ∃ i' : Nat, i = i' ∧ i' ≤ l.length ∧ a = n6 + sizes (l.take i') ∧ k = l.length - i', ⟨_, 0, rfl, by omega, by simp [hn7, sizes], rfl⟩, ?_⟩
      rintro _ _ k ⟨i, rfl, hi, rfl, rfl⟩
      have hsz := sizes_le l i
      refine ⟨fun hlt => ?_, fun hge => ?_⟩
      · have hlt : i < l.length := by simp [nI] at hlt; omega
        have hsz1 := sizes_take hlt
        have hsz2 := sizes_le l (i + 1)
        refine ⟨by simp [nI]; omega, l[i], by rw [getD_str _ _ hlt]; rfl, ?_⟩
        rintro _ rfl
        rw [W64 (n := 9223372036854775807 - (n6 + (sizes (l.take i) : Int))) (by omega) (by omega)]
        refine ⟨fun hbig => ?_, fun _ => ?_⟩
        · have := of_decide_eq_true hbig
          simp only [nI] at this; omega
        rintro _ rfl _ rfl
        refine ⟨l.length - (i + 1), by omega, i + 1, ?_, by omega, ?_, rfl⟩
        · rw [W64 (by omega) (by omega)]; rfl
        · rw [W64 (by simp only [nI]; omega) (by simp only [nI]; omega), hsz1]; simp [nI]; omega
      · have hge : i = l.length := by simp [nI] at hge; omega
        subst hge
        rw [List.take_length] at *
        obtain ⟨m, hm⟩ : ∃ m : Nat, n6 + (sizes l : Int) = m := ⟨(n6 + (sizes l : Int)).toNat, by omega⟩
        rw [hm]
        have hfl : ∀ j, (joinB sep (s :: (x :: r).take j)).length ≤ 1099511627776 := by
          intro j
          have h1 := flat_len sep ((x :: r).take j)
          have h2 : sizes ((x :: r).take j) ≤ sizes (x :: r) := sizes_le _ _
          have h3 : sizes l = s.length + sizes (x :: r) := by rw [← hl]; simp [sizes]
          have h4 : sep.length * ((x :: r).take j).length ≤ sep.length * l.length := Nat.mul_le_mul_left _ (by rw [← hl]; simp; omega)
          simp only [joinB, List.length_append]
          omega
        refine ⟨_, r29 8 m (by omega), by simp [nI]; omega, s, ?_, _, _, r30 8 false [] s (by have := hfl 0; simp [joinB] at this; simp; omega), ⟨by omega, by simp [nI]; omega, by simp [nI]⟩, ?_⟩
        · rw [← hl]; rfl
        intro l23 hl23
        have hl23 : l23 = (x :: r).map .str := by
          rw [← hl23, show Int.toNat (nI (l.map D.str).length) = (l.map D.str).length by simp only [nI, Int.toNat_natCast], List.take_length, ← hl]; rfl
        subst hl23
        refine ⟨fun i c k => ∃ i' : Nat, i = i' ∧ i' ≤ (x :: r).length ∧ c = joinB sep (s :: (x :: r).take i') ∧ k = (x :: r).length - i', ⟨rfl, _, 0, rfl, by omega, by simp [joinB], rfl⟩, ?_⟩
        rintro _ _ k ⟨i, rfl, hi, rfl, rfl⟩
        have hrl : (x :: r).length < l.length := by rw [← hl]; simp
        refine ⟨fun hlt => ?_, fun hge => ?_⟩
        · have hlt : i < (x :: r).length := by
            have := of_decide_eq_true hlt
            simp only [nI, List.length_map] at this; omega
          have hj : joinB sep (s :: (x :: r).take i) ++ sep ++ (x :: r)[i] = joinB sep (s :: (x :: r).take (i + 1)) := by
            simp only [joinB]
            rw [List.take_succ_eq_append_getElem hlt, List.flatMap_append]
            simp
          have hb1 := hfl (i + 1)
          rw [← hj] at hb1
          simp only [List.length_append] at hb1
          refine ⟨⟨by omega, by simp only [nI, List.length_map]; omega⟩, (x :: r)[i], by rw [getD_str _ _ hlt]; rfl, _, _, r30 8 false _ sep (by omega), _, _, r30 8 false _ _ (by simp only [List.length_append]; omega), ?_⟩
          rintro _ rfl
          refine ⟨rfl, (x :: r).length - (i + 1), by omega, i + 1, ?_, by omega, hj, rfl⟩
          rw [W64 (by omega) (by omega)]; rfl
        · have hge : i = (x :: r).length := by
            have := of_decide_eq_false hge
            simp only [nI, List.length_map] at this; omega
          subst hge
          rw [List.take_length, hl]
          exact ⟨_, _, r31 8 false _, end0 rfl rfl⟩
  · exfalso; have := of_decide_eq_false h; simp only [nI] at this; omega
end B
end Go.Proofs.YtmiclaoelbemkaaDoor
namespace Go.Proofs.YtmiclaoelbemkaaDoor
namespace B
open Go.RowKit

/-- A number as a text. -/
def textB (n : Int) : Bytes := if n = 0 then [42] else Lib.itoa n
theorem r19 (n : Int) (h0 : -9223372036854775808 ≤ n) (h1 : n ≤ 9223372036854775807) : Runs P 19 [.d (.int .i64 n)] [] (.d (.str (textB n))) [] := by
  refine runs_walkA t19 rfl (vc19 _ _ _) (by simp) ?_
  refine ⟨fun h => end0 (by unfold textB; rw [if_pos (by simpa using h)]) rfl, fun h => ⟨_, r28 n h0 h1, end0 (by unfold textB; rw [if_neg (by simpa using h)]) rfl⟩⟩
def partB (p : Int × Int) : Bytes := if p.2 = p.1 then textB p.1 else textB p.1 ++ ([58] ++ textB p.2)
theorem may_range {l : List (Int × Int)} (h : mayS l = true) : ∀ p ∈ l, 0 ≤ p.1 ∧ p.1 ≤ 1000000 ∧ 0 ≤ p.2 ∧ p.2 ≤ 1000000 := by
  intro p hp
  unfold mayS at h
  simp only [Bool.and_eq_true, Bool.not_eq_true'] at h
  have := List.any_eq_false.1 h.2 p hp
  unfold offS off at this
  simp at this
  omega
/-- Text. -/
theorem r9 (l : List (Int × Int)) (hm : mayS l = true) (ht : ∀ p ∈ l, (textB p.1).length ≤ 100 ∧ (textB p.2).length ≤ 100) : Runs P 9 [.d (.slice 2 (l.map sp))] [] (.d (.str (joinB [44] (l.map partB)))) [] := by
  refine runs_walkA t9 rfl (vc9 _ _ _) (by simp) ?_
  have hl : l.length ≤ 20 := by unfold mayS at hm; simp at hm; omega
  have hr := may_range hm
  have hp : ∀ p ∈ l, (partB p).length ≤ 300 := fun p hp => by
    have := ht p hp
    unfold partB
    split <;> simp <;> omega
  refine ⟨_, r8 l, fun h => by simp [hm] at h, fun _ => ?_⟩
  refine ⟨fun parts i k => ∃ i' : Nat, i = i' ∧ i' ≤ l.length ∧ parts = ((l.take i').map partB).map .str ∧ k = l.length - i', ⟨_, 0, rfl, by omega, by simp, rfl⟩, ?_⟩
  rintro _ _ k ⟨i, rfl, hi, rfl, rfl⟩
  refine ⟨fun hlt => ?_, fun hge => ?_⟩
  · have hlt : i < l.length := by have := of_decide_eq_true hlt; simp only [nI, List.length_map] at this; omega
    have hmem := List.getElem_mem hlt
    have hri := hr _ hmem
    have hti := ht _ hmem
    have e1 : ((l.take i).map partB).map D.str ++ [D.str (partB l[i])] = ((l.take (i + 1)).map partB).map .str := by
      rw [List.take_succ_eq_append_getElem hlt, List.map_append, List.map_append]; rfl
    refine ⟨⟨by omega, by simp only [nI, List.length_map]; omega⟩, l[i].1, l[i].2, by rw [getD_sp _ _ hlt]; rfl, _, r19 _ (by omega) (by omega), fun hne => ?_, fun he => ?_⟩
    · have hne : l[i].2 ≠ l[i].1 := by simpa using hne
      refine ⟨_, r19 _ (by omega) (by omega), ?_, ?_⟩
      · simp only [nI, List.length_cons, List.length_nil]; unfold Go.IntKind.max; simp [Go.IntKind.signed, Go.IntKind.bits]; omega
      rintro _ rfl
      refine ⟨?_, ?_⟩
      · simp only [nI, List.length_append, List.length_cons, List.length_nil]; unfold Go.IntKind.max; simp [Go.IntKind.signed, Go.IntKind.bits]; omega
      rintro _ rfl
      refine ⟨by simp; omega, ?_⟩
      rintro _ rfl
      refine ⟨l.length - (i + 1), by omega, i + 1, ?_, by omega, ?_, rfl⟩
      · rw [W64 (by omega) (by omega)]; rfl
      · rw [← e1, partB, if_neg hne]
    · have he : l[i].2 = l[i].1 := by simpa using he
      refine ⟨by simp; omega, ?_⟩
      rintro _ rfl
      refine ⟨l.length - (i + 1), by omega, i + 1, ?_, by omega, ?_, rfl⟩
      · rw [W64 (by omega) (by omega)]; rfl
      · rw [← e1, partB, if_pos he]
  · have hge : i = l.length := by have := of_decide_eq_false hge; simp only [nI, List.length_map] at this; omega
    subst hge
    rw [List.take_length]
    refine ⟨_, r20 [44] (l.map partB) (by simp) ?_, end0 rfl rfl⟩
    have : ∀ m : List (Int × Int), (∀ p ∈ m, (partB p).length ≤ 300) → sizes (m.map partB) ≤ 300 * m.length := by
      intro m
      induction m with
      | nil => intro _; simp [sizes]
      | cons p r ih =>
        intro h
        have h1 := h p (by simp)
        have h2 := ih fun q hq => h q (by simp [hq])
        simp only [sizes, List.map_cons, List.sum_cons, List.length_cons] at h2 ⊢
        omega
    have := this l hp
    simp only [List.length_map, List.length_cons, List.length_nil]
    omega

/-- A digit alone. -/
theorem r23one (c : UInt8) (h1 : 49 ≤ c.toNat) (h2 : c.toNat ≤ 57) : Runs P 23 [.d (.str [c])] [] (.tup [.d (.int .i64 (c.toNat - 48 : Int)), .d (.bool true)]) [] := by
  refine runs_walkA t23 rfl (vc23 _ _ _) (by simp) ?_
  have hc : ([c] == [42]) = false := by
    have : c ≠ 42 := by rintro rfl; simp at h1
    simpa using this
  refine ⟨(fun h => by rw [hc] at h; cases h), fun _ => ⟨fun _ => by simp [nI], fun b hb => ?_⟩⟩
  have hb : b = false := by rw [← hb]; simp [nI]; omega
  subst hb
  refine ⟨(fun h => by cases h), fun _ => ?_⟩
  refine ⟨fun i n k => (i = 0 ∧ n = 0 ∧ k = 1) ∨ (i = 1 ∧ n = (c.toNat - 48 : Int) ∧ k = 0), ⟨1, .inl ⟨rfl, rfl, rfl⟩⟩, ?_⟩
  rintro i n k (⟨rfl, rfl, rfl⟩ | ⟨rfl, rfl, rfl⟩)
  · refine ⟨fun _ => ⟨by simp [nI], fun _ => by simp [nI], fun b hb => ?_⟩, fun h => by simp [nI] at h⟩
    have hb : b = false := by rw [← hb]; simp [nI]; omega
    subst hb
    refine ⟨(fun h => by cases h), fun _ => ?_⟩
    rintro _ rfl
    refine ⟨by simp [nI], ?_⟩
    rintro n9 hn9
    have hn9 : n9 = (c.toNat : Int) - 48 := by
      rw [← hn9]; unfold Go.IntKind.wrap Go.IntKind.bits Go.IntKind.signed; simp [nI]; omega
    rintro _ rfl n11 hn11
    have hn11 : n11 = (c.toNat : Int) - 48 := by
      rw [← hn11, W64 (n := n9) (by omega) (by omega), W64 (n := 0 * 10) (by omega) (by omega), W64 (by omega) (by omega)]; omega
    refine ⟨fun h => by have := of_decide_eq_true h; omega, fun _ => ?_⟩
    rintro _ rfl
    exact ⟨0, by omega, .inr ⟨by rw [W64 (by omega) (by omega)]; rfl, hn11, rfl⟩⟩
  · exact ⟨fun h => by simp [nI] at h, fun _ => end0 rfl rfl⟩
theorem r23star : Runs P 23 [.d (.str [42])] [] (.tup [.d (.int .i64 0), .d (.bool true)]) [] := by
  refine runs_walkA t23 rfl (vc23 _ _ _) (by simp) ?_
  exact ⟨fun _ => end0 rfl rfl, (fun h => by cases h)⟩
end B
end Go.Proofs.YtmiclaoelbemkaaDoor
namespace Go.Proofs.YtmiclaoelbemkaaDoor
namespace B
open Go.RowKit

theorem Runs.toD {f z : Nat} {args : List CV} {objs objs' : List (Nat × List CV)} {l : List D} (h : Runs P f args objs (.own z l) objs') : Runs P f args objs (.d (.slice z l)) objs' := by
  refine ⟨h.1, fun Γ ρ bl vals w hs hz => (h.2 Γ ρ bl vals w hs hz).mono ?_⟩
  rintro e w' ⟨v, Γ', ρ', bl', rfl, hs', hf, hb⟩
  obtain ⟨u, hu, hr⟩ := hs'.slots 0 _ rfl
  obtain rfl : u = v := by simpa using hu.symm
  exact ⟨_, _, _, _, rfl, hs'.result (res := .d (.slice z l)) (Own.rep hr) (fun b hb => hb.elim), hf, hb⟩
theorem r22' (s t a b : Bytes) (f : Bool) (hs : s.length < 4294967281) (h : Lib.cut s t = (a, b, f)) : Runs P 22 [.d (.str s), .d (.str t)] [] (.tup [.d (.str a), .d (.str b), .d (.bool f)]) [] := by
  have := r22 s t hs
  rw [h] at this; exact this
theorem pieces3 : pieces [44] [53, 58, 51, 44, 57, 44, 42] = [[53, 58, 51], [57], [42]] := by decide +kernel
theorem cut1 : Lib.cut [53, 58, 51] [58] = ([53], [51], true) := by decide +kernel
theorem cut2 : Lib.cut [57] [58] = ([57], [], false) := by decide +kernel
theorem cut3 : Lib.cut [42] [58] = ([42], [], false) := by decide +kernel
abbrev three : List (Int × Int) := [(5, 3), (9, 9), (0, 0)]
theorem r11three : Runs P 11 [.d (.str [53, 58, 51, 44, 57, 44, 42])] [] (.tup [.d (.slice 2 (three.map sp)), .d (.bool true)]) [] := by
  refine runs_walkA t11 rfl (vc11 _ _ _) (by simp) ?_
  have h21 := Runs.toD (r21 [53, 58, 51, 44, 57, 44, 42] [44] (by decide) (by decide))
  rw [pieces3] at h21
  have d5 := r23one 53 (by decide) (by decide)
  have d3 := r23one 51 (by decide) (by decide)
  have d9 := r23one 57 (by decide) (by decide)
  refine ⟨_, h21, ?_⟩
  refine ⟨fun out i k => (i = 0 ∧ out = [] ∧ k = 3) ∨ (i = 1 ∧ out = [sp (5, 3)] ∧ k = 2) ∨ (i = 2 ∧ out = [sp (5, 3), sp (9, 9)] ∧ k = 1) ∨ (i = 3 ∧ out = three.map sp ∧ k = 0), ⟨3, .inl ⟨rfl, rfl, rfl⟩⟩, ?_⟩
  rintro out i k (⟨rfl, rfl, rfl⟩ | ⟨rfl, rfl, rfl⟩ | ⟨rfl, rfl, rfl⟩ | ⟨rfl, rfl, rfl⟩)
  · refine ⟨fun _ => ⟨by simp [nI], [53, 58, 51], rfl, _, _, _, r22' _ _ _ _ _ (by decide) cut1, (fun h => by cases h), fun _ => ⟨_, _, d5, _, _, d3, ?_⟩⟩, fun h => by simp [nI] at h⟩
    rintro _ rfl
    refine ⟨(fun h => by cases h), fun _ => ⟨by decide, ?_⟩⟩
    rintro _ rfl
    exact ⟨2, by omega, .inr (.inl ⟨by decide, rfl, rfl⟩)⟩
  · refine ⟨fun _ => ⟨by simp [nI], [57], rfl, _, _, _, r22' _ _ _ _ _ (by decide) cut2, (fun _ => ⟨_, _, d9, _, _, d9, ?_⟩), fun h => by cases h⟩, fun h => by simp [nI] at h⟩
    rintro _ rfl
    refine ⟨(fun h => by cases h), fun _ => ⟨by decide, ?_⟩⟩
    rintro _ rfl
    exact ⟨1, by omega, .inr (.inr (.inl ⟨by decide, rfl, rfl⟩))⟩
  · refine ⟨fun _ => ⟨by simp [nI], [42], rfl, _, _, _, r22' _ _ _ _ _ (by decide) cut3, (fun _ => ⟨_, _, r23star, _, _, r23star, ?_⟩), fun h => by cases h⟩, fun h => by simp [nI] at h⟩
    rintro _ rfl
    refine ⟨(fun h => by cases h), fun _ => ⟨by decide, ?_⟩⟩
    rintro _ rfl
    exact ⟨0, by omega, .inr (.inr (.inr ⟨by decide, rfl, rfl⟩))⟩
  · refine ⟨fun h => by simp [nI] at h, fun _ => ⟨_, r8 three, (fun h => by cases h), fun _ => ⟨⟨rfl, rfl, trivial⟩, trivial, rfl⟩⟩⟩
theorem r9three : Runs P 9 [.d (.slice 2 (three.map sp))] [] (.d (.str [53, 58, 51, 44, 57, 44, 42])) [] := by
  have := r9 three (by decide) (by decide +kernel)
  have e : joinB [44] (three.map partB) = [53, 58, 51, 44, 57, 44, 42] := by decide +kernel
  rw [e] at this; exact this
/-- awake. -/
theorem r10 : Runs P 10 [] [] (.d (.bool true)) [] := by
  refine runs_walkA t10 rfl (vc10 _ _) (by simp) ?_
  refine ⟨_, _, r11three, ?_⟩
  rintro _ rfl
  refine ⟨_, fun _ => r13 three 4 12, ?_⟩
  rintro _ rfl
  refine ⟨_, fun _ => r13 three 12 12, ?_⟩
  rintro _ rfl
  refine ⟨_, fun _ => r13 three 10 12, ?_⟩
  rintro _ rfl
  refine ⟨_, fun _ => r9three, ?_⟩
  rintro _ rfl
  exact endB (by decide)
end B
end Go.Proofs.YtmiclaoelbemkaaDoor
namespace Go.Proofs.YtmiclaoelbemkaaDoor
namespace B
open Go.RowKit

theorem has_more (l : List (Int × Int)) (x : Int × Int) (n most : Int) (h1 : mayS l = true) (h2 : mayS (l ++ [x]) = true) : hasS (l ++ [x]) n most = (hasS l n most || hasS [x] n most) := by
  have h3 : mayS [x] = true := by
    unfold mayS at h2 ⊢
    simp only [Bool.and_eq_true, Bool.not_eq_true', List.any_append, Bool.or_eq_false_iff] at h2
    simp [h2.2.2]
  unfold hasS
  rw [h1, h2, h3, List.any_append]
  cases decide (n < 1) <;> simp
theorem numsMore (l : List (Int × Int)) (x : Int × Int) (n most : Int) (hl : (l.length + 1) * 16 ≤ 140737488355328) :
    Runs P 5 [.d (.slice 2 (l.map sp)), .d (sp x), .d (.int .i64 n), .d (.int .i64 most)] [] (.d (.bool true)) [] := by
  refine runs_walkA t5 rfl (vc5 _ _ _ _ _ _ _) (by simp) ?_
  have em : l.map sp ++ [D.agg [.int .i64 x.1, .int .i64 x.2]] = (l ++ [x]).map sp := by simp [sp]
  refine ⟨by simp; omega, by simp; omega, mayS l, fun _ => r14 l (by omega), ?_⟩
  intro b6 hb6
  refine ⟨mayS (l ++ [x]), fun _ => by rw [em]; exact r14 _ (by simp; omega), ?_⟩
  intro b8 hb8
  refine ⟨fun _ => ⟨_, r10, endB rfl⟩, fun h => ?_⟩
  subst h
  have h1 : mayS l = true := by
    cases h : mayS l
    · rw [h] at hb6; simp at hb6; subst hb6; simp at hb8
    · rfl
  have h2 : mayS (l ++ [x]) = true := by
    cases h : mayS (l ++ [x])
    · rw [h] at hb8; simp at hb8
    · rfl
  refine ⟨_, by rw [em]; exact r13 _ _ _, _, r13 l _ _, hasS [x] n most, fun _ => r13 [x] n most, ?_⟩
  rintro _ rfl
  refine ⟨_, fun _ => r10, ?_⟩
  rintro _ rfl
  refine endB ?_
  rw [has_more l x n most h1 h2]; simp
end B
end Go.Proofs.YtmiclaoelbemkaaDoor
namespace Go.Proofs.YtmiclaoelbemkaaDoor
namespace B
open Go.RowKit

theorem cells30 : P.cellsOf 30 = 2 := by kernel_rfl
set_option maxRecDepth 100000 in
theorem span_of {n : Nat} {x : D} (h : TyV P (n + 2) 30 x) : ∃ p : Int × Int, x = sp p := by
  obtain ⟨parts, rfl, hl, hp⟩ := ty_struct Tryd.underlying30 h
  have hl : parts.length = 2 := hl
  match parts, hl with
  | [a, b], _ =>
    have ha := hp 0 _ a rfl rfl
    have hb := hp 1 _ b rfl rfl
    unfold Ty at ha hb
    rw [show P.underlying 3 = _ from Tryd.underlying3] at ha hb
    obtain ⟨y, rfl, _⟩ := ha
    obtain ⟨z, rfl, _⟩ := hb
    exact ⟨(y, z), rfl⟩
theorem spans_of {n : Nat} {x : D} (h : TyV P (n + 3) 22 x) : ∃ l : List (Int × Int), x = .slice 2 (l.map sp) := by
  obtain ⟨l, rfl, _, hl⟩ := ty_slice Tryd.underlying22 h
  obtain ⟨ps, rfl⟩ := ty_list (f := sp) (fun y hy => span_of (hl y hy))
  exact ⟨ps, by rw [cells30]⟩
end B
end Go.Proofs.YtmiclaoelbemkaaDoor
namespace Go.Proofs.YtmiclaoelbemkaaDoor
namespace B
open Go.RowKit

def swp2 (p : Int × Int) : Int × Int := (p.2, p.1)
def fixS (most : Int) (p : Int × Int) : Int × Int := (ends most p.1, ends most p.2)
theorem any_rev_map {α β : Type} (l : List α) (g : α → β) (f : β → Bool) (f' : α → Bool) (h : ∀ x ∈ l, f (g x) = f' x) : (l.reverse.map g).any f = l.any f' := by
  rw [List.any_map, List.any_reverse, Bool.eq_iff_iff, List.any_eq_true, List.any_eq_true]
  constructor
  · rintro ⟨x, hx, h1⟩; exact ⟨x, hx, by rw [← h x hx]; exact h1⟩
  · rintro ⟨x, hx, h1⟩; exact ⟨x, hx, by show f (g x) = true; rw [h x hx]; exact h1⟩
theorem has_swap (l : List (Int × Int)) (n most : Int) : hasS (l.reverse.map swp2) n most = hasS l n most := by
  unfold hasS mayS
  rw [any_rev_map l swp2 offS offS (fun x _ => by unfold offS swp2; simp [Bool.or_comm]), any_rev_map l swp2 (has1 n most) (has1 n most) (fun x _ => by
    unfold has1 swp2; simp only [Int.min_comm, Int.max_comm, Bool.or_comm])]
  simp
theorem has_fix (l : List (Int × Int)) (n most : Int) (hm : mayS l = true) (h1 : 1 ≤ most) (h2 : most ≤ 1000000) : hasS (l.reverse.map (fixS most)) n 0 = hasS l n most := by
  have hr := may_range hm
  unfold hasS mayS
  rw [any_rev_map l (fixS most) offS offS (fun x hx => by
    have := hr x hx
    unfold offS fixS ends off
    by_cases e1 : x.1 = 0 <;> by_cases e2 : x.2 = 0 <;> simp [e1, e2] <;> omega), any_rev_map l (fixS most) (has1 n 0) (has1 n most) (fun x hx => by
    have := hr x hx
    unfold has1 fixS ends
    by_cases e1 : x.1 = 0 <;> by_cases e2 : x.2 = 0 <;> simp [e1, e2, show ¬ most = 0 by omega, show ¬ most < 1 by omega])]
  simp
theorem rev_take {l : List (Int × Int)} {i : Nat} (h : i < l.length) : l.reverse.take (i + 1) = l.reverse.take i ++ [l[l.length - 1 - i]] := by
  rw [List.take_succ_eq_append_getElem (by simpa using h), List.getElem_reverse]
theorem map_snoc {α : Type} (l : List α) (x : α) (f : α → Int × Int) : (l.map f).map sp ++ [sp (f x)] = ((l ++ [x]).map f).map sp := by simp
theorem numsTurned (l : List (Int × Int)) (n most : Int) (hl : l.length ≤ 9223372036854775806) :
    Runs P 4 [.d (.slice 2 (l.map sp)), .d (.int .i64 n), .d (.int .i64 most)] [] (.d (.bool true)) [] := by
  refine runs_walkA t4 rfl (vc4 _ _ _ _ _) (by simp) ?_
  refine ⟨_, r8 l, ?_⟩
  rintro _ rfl _ rfl b6 hb6
  refine ⟨fun _ => ⟨_, r10, endB rfl⟩, fun h => ?_⟩
  subst h
  simp only [nI, List.length_map, Bool.or_eq_false_iff, Bool.not_eq_false', decide_eq_false_iff_not] at hb6
  obtain ⟨⟨⟨hm, h60⟩, h1⟩, h2⟩ := hb6
  have hl20 : l.length ≤ 20 := by unfold mayS at hm; simp at hm; omega
  have hlen : nI (List.length (l.map sp)) = (l.length : Int) := by simp [nI]
  rw [hlen]
  refine ⟨fun i t u k => ∃ i' : Nat, i = i' ∧ i' ≤ l.length ∧ t = ((l.reverse.take i').map swp2).map sp ∧ u = ((l.reverse.take i').map (fixS most)).map sp ∧ k = l.length - i', ⟨_, 0, rfl, by omega, by simp, by simp, rfl⟩, ?_⟩
  rintro _ _ _ k ⟨i, rfl, hi, rfl, rfl, rfl⟩
  refine ⟨fun hlt => ?_, fun hge => ?_⟩
  · have hlt : i < l.length := by have := of_decide_eq_true hlt; omega
    rintro n14 h14 n15 h15
    have e14 : n14 = (l.length : Int) - 1 := by rw [← h14, W64 (by omega) (by omega)]
    have e15 : n15 = ((l.length - 1 - i : Nat) : Int) := by rw [← h15, W64 (by omega) (by omega)]; omega
    subst e15
    have hj : l.length - 1 - i < l.length := by omega
    refine ⟨⟨by omega, by omega⟩, l[l.length - 1 - i].1, l[l.length - 1 - i].2, by rw [getD_sp _ _ hj]; rfl, by simp; omega, ?_⟩
    have e1 := rev_take hlt
    have fin : ∀ q : Int × Int, q = fixS most l[l.length - 1 - i] → ∀ m : Int, Go.IntKind.wrap Go.IntKind.i64 ((i : Int) + 1) = m → ∃ k11 : Nat, k11 < l.length - i ∧ ∃ i' : Nat, m = i' ∧ i' ≤ l.length ∧ ((l.reverse.take i).map swp2).map sp ++ [D.agg [.int .i64 l[l.length - 1 - i].2, .int .i64 l[l.length - 1 - i].1]] = ((l.reverse.take i').map swp2).map sp ∧ ((l.reverse.take i).map (fixS most)).map sp ++ [D.agg [.int .i64 q.1, .int .i64 q.2]] = ((l.reverse.take i').map (fixS most)).map sp ∧ k11 = l.length - i' := by
      rintro q rfl _ rfl
      refine ⟨l.length - (i + 1), by omega, i + 1, ?_, by omega, ?_, ?_, rfl⟩
      · rw [W64 (by omega) (by omega)]; rfl
      · rw [e1]; exact map_snoc _ _ swp2
      · rw [e1]; exact map_snoc _ _ (fixS most)
    refine ⟨fun ha => ⟨fun hb => ⟨by simp; omega, fin (most, most) ?_⟩, fun hb => ⟨by simp; omega, fin (most, _) ?_⟩⟩, fun ha => ⟨fun hb => ⟨by simp; omega, fin (_, most) ?_⟩, fun hb => ⟨by simp; omega, fin (_, _) ?_⟩⟩⟩ <;>
      (simp only [beq_iff_eq, beq_eq_false_iff_ne, ne_eq] at ha hb; unfold fixS ends; simp only [ha, hb, if_true, if_false, not_false_eq_true] <;> rfl)
  · have hge : i = l.length := by have := of_decide_eq_false hge; omega
    subst hge
    rw [List.take_of_length_le (by simp)]
    refine ⟨_, r13 _ _ _, _, r13 l n most, _, fun _ => r13 _ _ _, _, fun _ => r13 l n most, ?_⟩
    rintro _ rfl
    refine ⟨_, fun _ => r10, ?_⟩
    rintro _ rfl
    refine endB ?_
    rw [has_swap, has_fix l n most hm (by omega) (by omega)]
    simp
end B
end Go.Proofs.YtmiclaoelbemkaaDoor
namespace Go.Proofs.YtmiclaoelbemkaaDoor
namespace B
open Go.RowKit

theorem occ1 (s : Bytes) (c : UInt8) (i : Nat) : Lib.occAt s [c] i = decide (s[i]? = some c) := by
  unfold Lib.occAt
  rw [← List.head?_drop]
  cases h : s.drop i with
  | nil => simp [List.isPrefixOf]
  | cons b r => simp [List.isPrefixOf, eq_comm]; rfl
theorem index_app {c : UInt8} {s : Bytes} (h : c ∉ s) (r : Bytes) : Lib.index (s ++ c :: r) [c] = s.length := by
  refine Lib.index_first (by simp) (by rw [occ1]; simp) fun j hj => ?_
  rw [occ1, List.getElem?_append_left hj]
  simp only [decide_eq_false_iff_not]
  intro e
  exact h (List.mem_of_getElem? e)
theorem index_not {c : UInt8} {s : Bytes} (h : c ∉ s) : Lib.index s [c] = -1 := by
  refine Lib.index_none fun j _ => ?_
  rw [occ1]
  simp only [decide_eq_false_iff_not]
  exact fun e => h (List.mem_of_getElem? e)
theorem pieces_eq (t s : Bytes) : pieces t s = Lib.splitK t 0 (Lib.count s t) s := by
  unfold pieces
  rw [Lib.splitB_data]
theorem join_cons (c : UInt8) (s x : Bytes) (r : List Bytes) : joinB [c] (s :: x :: r) = s ++ c :: joinB [c] (x :: r) := by
  simp [joinB]
theorem pieces_join (c : UInt8) : ∀ (r : List Bytes) (s : Bytes), c ∉ s → (∀ x ∈ r, c ∉ x) → pieces [c] (joinB [c] (s :: r)) = s :: r
  | [], s, h, _ => by
    rw [pieces_eq, show joinB [c] [s] = s by simp [joinB], Lib.count_miss (index_not h)]; rfl
  | x :: r, s, h, hr => by
    have ih := pieces_join c r x (hr x (by simp)) fun y hy => hr y (by simp [hy])
    rw [pieces_eq] at ih ⊢
    rw [join_cons, Lib.count_hit (by simp) (index_app h _)]
    have e : (s ++ c :: joinB [c] (x :: r)).drop (s.length + [c].length) = joinB [c] (x :: r) := by
      rw [List.drop_append]; simp
    rw [e, Nat.add_comm 1, Lib.splitK, index_app h]
    rw [if_neg (by first | (simp; done) | (simp; omega))]
    simp only [Int.toNat_natCast, Nat.add_zero]
    rw [e, ih]
    simp
theorem cut_hit {c : UInt8} {s : Bytes} (h : c ∉ s) (r : Bytes) : Lib.cut (s ++ c :: r) [c] = (s, r, true) := by
  unfold Lib.cut
  rw [index_app h, if_pos (by omega)]
  simp [List.drop_append]
theorem cut_miss {c : UInt8} {s : Bytes} (h : c ∉ s) : Lib.cut s [c] = (s, [], false) := by
  unfold Lib.cut
  rw [index_not h, if_neg (by omega)]

/-! ### decimal numbers -/
def decV (s : Bytes) : Int := s.foldl (fun n c => n * 10 + ((c.toNat : Int) - 48)) 0
def isDig (c : UInt8) : Bool := decide (48 ≤ c.toNat) && decide (c.toNat ≤ 57)
theorem decV_snoc (s : Bytes) (c : UInt8) : decV (s ++ [c]) = decV s * 10 + ((c.toNat : Int) - 48) := by simp [decV]
theorem dig_nat (u : Nat) (h : u < 10) : (UInt8.ofNat (48 + u)).toNat = 48 + u := by
  simp [UInt8.toNat_ofNat']; omega
theorem digits_dec (u : Nat) : ∀ c ∈ Lib.decDigits u, isDig c = true := by
  induction u using Nat.strongRecOn with
  | _ u ih =>
    rw [Lib.decDigits]
    split
    · rename_i h; intro c hc; rw [List.mem_singleton] at hc; subst hc; unfold isDig; rw [dig_nat u h]; simp; omega
    · rename_i h
      intro c hc
      rcases List.mem_append.1 hc with hc | hc
      · exact ih (u / 10) (by omega) c hc
      · rw [List.mem_singleton] at hc; subst hc; unfold isDig; rw [dig_nat (u % 10) (by omega)]; simp; omega
theorem decV_dec (u : Nat) : decV (Lib.decDigits u) = u := by
  induction u using Nat.strongRecOn with
  | _ u ih =>
    rw [Lib.decDigits]
    split
    · rename_i h; simp only [decV, List.foldl_cons, List.foldl_nil]; rw [dig_nat u h]; omega
    · rename_i h
      rw [decV_snoc, ih (u / 10) (by omega), dig_nat (u % 10) (by omega)]; omega
theorem dec_ne (u : Nat) : Lib.decDigits u ≠ [] := by
  rw [Lib.decDigits]; split <;> simp
theorem dec_head (u : Nat) (h : 1 ≤ u) : (Lib.decDigits u).getD 0 0 ≠ 48 := by
  induction u using Nat.strongRecOn with
  | _ u ih =>
    rw [Lib.decDigits]
    split
    · rename_i h1
      intro e
      have := congrArg UInt8.toNat e
      simp only [List.getD_cons_zero] at this
      rw [dig_nat u h1] at this
      simp at this; omega
    · rename_i h1
      have := ih (u / 10) (by omega) (by omega)
      have hn := dec_ne (u / 10)
      cases hd : Lib.decDigits (u / 10) with
      | nil => exact absurd hd hn
      | cons b r => rw [hd] at this; simpa using this
theorem foldl_ge (f : Int → UInt8 → Int) (hf : ∀ n c, 0 ≤ n → isDig c = true → n ≤ f n c) : ∀ (s : Bytes) (n : Int), 0 ≤ n → (∀ c ∈ s, isDig c = true) → n ≤ s.foldl f n
  | [], n, _, _ => by simp
  | c :: r, n, h0, hc => by
    have h1 := hf n c h0 (hc c (by simp))
    have := foldl_ge f hf r (f n c) (by omega) fun x hx => hc x (by simp [hx])
    simp only [List.foldl_cons]; omega
theorem step_ge (n : Int) (c : UInt8) (h : 0 ≤ n) (hc : isDig c = true) : n ≤ n * 10 + ((c.toNat : Int) - 48) := by
  unfold isDig at hc; simp at hc; omega
theorem decV_take (s : Bytes) (hs : ∀ c ∈ s, isDig c = true) (i : Nat) : 0 ≤ decV (s.take i) ∧ decV (s.take i) ≤ decV s := by
  have h0 : 0 ≤ decV (s.take i) := foldl_ge _ step_ge _ 0 (by omega) fun c hc => hs c (List.mem_of_mem_take hc)
  refine ⟨h0, ?_⟩
  conv => rhs; rw [← List.take_append_drop i s, decV, List.foldl_append]
  exact foldl_ge _ step_ge _ _ h0 fun c hc => hs c (List.mem_of_mem_drop hc)
theorem textB_cases (n : Int) (h : 0 ≤ n) : textB n = [42] ∧ n = 0 ∨ ∃ u : Nat, n = u ∧ 1 ≤ u ∧ textB n = Lib.decDigits u := by
  unfold textB
  by_cases e : n = 0
  · left; simp [e]
  · right
    obtain ⟨u, rfl⟩ := Int.eq_ofNat_of_zero_le h
    exact ⟨u, rfl, by omega, by rw [if_neg e]; exact Lib.itoa_nonneg u⟩
theorem textB_no (n : Int) (h : 0 ≤ n) (c : UInt8) (h1 : isDig c = false) (h2 : c ≠ 42) : c ∉ textB n := by
  rcases textB_cases n h with ⟨e, _⟩ | ⟨u, _, _, e⟩
  · rw [e]; simpa using h2
  · rw [e]; intro hc; have := digits_dec u c hc; rw [h1] at this; cases this
def valB (s : Bytes) : Int := if s = [42] then 0 else decV s
theorem dec_ne42 (u : Nat) : Lib.decDigits u ≠ [42] := fun e => by
  have := digits_dec u 42 (by rw [e]; simp)
  revert this; decide
theorem valB_text (n : Int) (h : 0 ≤ n) : valB (textB n) = n := by
  rcases textB_cases n h with ⟨e, e0⟩ | ⟨u, e0, h1, e⟩
  · rw [e, e0]; rfl
  · rw [e, valB, if_neg (dec_ne42 u), decV_dec, e0]
theorem textB_ne (n : Int) (h : 0 ≤ n) : textB n ≠ [] := by
  rcases textB_cases n h with ⟨e, e0⟩ | ⟨u, e0, h1, e⟩
  · rw [e]; simp
  · rw [e]; exact dec_ne u
theorem textB_len (n : Int) (h : 0 ≤ n) (h1 : n ≤ 1000000) : (textB n).length ≤ 100 := by
  unfold textB
  split
  · simp
  · have := Lib.itoa_length_le n (by omega) (by omega); omega
/-- A part, read. -/
def readB (s : Bytes) : Int × Int := if (Lib.cut s [58]).2.2 = true then (valB (Lib.cut s [58]).1, valB (Lib.cut s [58]).2.1) else (valB s, valB s)
theorem partB_cut (p : Int × Int) (h1 : 0 ≤ p.1) (h2 : 0 ≤ p.2) : Lib.cut (partB p) [58] = if p.2 = p.1 then (textB p.1, [], false) else (textB p.1, textB p.2, true) := by
  unfold partB
  split
  · exact cut_miss (textB_no _ h1 58 rfl (by decide))
  · exact cut_hit (textB_no _ h1 58 rfl (by decide)) _
theorem readB_part (p : Int × Int) (h1 : 0 ≤ p.1) (h2 : 0 ≤ p.2) : readB (partB p) = p := by
  unfold readB
  rw [partB_cut p h1 h2]
  by_cases e : p.2 = p.1
  · rw [if_pos e, if_neg (by simp), partB, if_pos e, valB_text _ h1]
    obtain ⟨a, b⟩ := p
    simp at e; subst e; rfl
  · rw [if_neg e, if_pos rfl]
    simp only [valB_text _ h1, valB_text _ h2]
theorem part_no44 (p : Int × Int) (h1 : 0 ≤ p.1) (h2 : 0 ≤ p.2) : 44 ∉ partB p := by
  have a := textB_no _ h1 44 rfl (by decide)
  have b := textB_no _ h2 44 rfl (by decide)
  unfold partB
  split
  · exact a
  · simp [a, b]
theorem pieces_text (l : List (Int × Int)) (hm : mayS l = true) : pieces [44] (joinB [44] (l.map partB)) = l.map partB := by
  have hr := may_range hm
  cases l with
  | nil => simp [mayS] at hm
  | cons p r =>
    exact pieces_join 44 _ _ (part_no44 p (hr p (by simp)).1 (hr p (by simp)).2.2.1) fun x hx => by
      obtain ⟨q, hq, rfl⟩ := List.mem_map.1 hx
      exact part_no44 q (hr q (by simp [hq])).1 (hr q (by simp [hq])).2.2.1
theorem map_read (l : List (Int × Int)) (hm : mayS l = true) : (l.map partB).map readB = l := by
  have hr := may_range hm
  rw [List.map_map]
  conv => rhs; rw [← List.map_id l]
  exact List.map_congr_left fun p hp => readB_part p (hr p hp).1 (hr p hp).2.2.1
theorem text_inj (l m : List (Int × Int)) (hl : mayS l = true) (hm : mayS m = true) : (joinB [44] (l.map partB) == joinB [44] (m.map partB)) = (l == m) := by
  rw [Bool.eq_iff_iff, beq_iff_eq, beq_iff_eq]
  constructor
  · intro h
    rw [← map_read l hl, ← map_read m hm, ← pieces_text l hl, ← pieces_text m hm, h]
  · rintro rfl; rfl
theorem text_ne (l : List (Int × Int)) (hl : mayS l = true) : joinB [44] (l.map partB) ≠ [] := by
  have hr := may_range hl
  cases l with
  | nil => simp [mayS] at hl
  | cons p r =>
    have := textB_ne p.1 (hr p (by simp)).1
    simp only [List.map_cons, joinB, ne_eq, List.append_eq_nil_iff, not_and]
    intro h
    exfalso
    unfold partB at h
    split at h
    · exact this h
    · simp at h
end B
end Go.Proofs.YtmiclaoelbemkaaDoor
namespace Go.Proofs.YtmiclaoelbemkaaDoor
namespace B
open Go.RowKit

theorem wrapU8 (n : Int) (h : 0 ≤ n) (h1 : n ≤ 255) : Go.IntKind.wrap Go.IntKind.u8 n = n := by
  unfold Go.IntKind.wrap Go.IntKind.bits Go.IntKind.signed; simp; omega
theorem r23 (s : Bytes) (hne : s ≠ []) (h42 : s ≠ [42]) (h48 : s.getD 0 0 ≠ 48) (hd : ∀ c ∈ s, isDig c = true) (hv : decV s ≤ 1000000) (hlen : s.length ≤ 1000) :
    Runs P 23 [.d (.str s)] [] (.tup [.d (.int .i64 (decV s)), .d (.bool true)]) [] := by
  refine runs_walkA t23 rfl (vc23 _ _ _) (by simp) ?_
  have hpos : 1 ≤ s.length := by cases s with | nil => exact absurd rfl hne | cons _ _ => simp
  refine ⟨(fun h => absurd (by simpa using h) h42), fun _ => ⟨fun _ => ⟨by omega, by simp only [nI]; omega⟩, fun b hb => ?_⟩⟩
  have hb : b = false := by
    rw [← hb, Bool.or_eq_false_iff]
    refine ⟨decide_eq_false (by simp only [nI]; omega), ?_⟩
    have : (s.getD 0 0).toNat ≠ 48 := fun e => h48 (UInt8.toNat_inj.1 e)
    simp only [nI, beq_eq_false_iff_ne, Int.toNat_zero]; omega
  subst hb
  refine ⟨(fun h => by cases h), fun _ => ?_⟩
  refine ⟨fun i n k => ∃ i' : Nat, i = i' ∧ i' ≤ s.length ∧ n = decV (s.take i') ∧ k = s.length - i', ⟨_, 0, rfl, by omega, by simp [decV], rfl⟩, ?_⟩
  rintro _ _ k ⟨i, rfl, hi, rfl, rfl⟩
  refine ⟨fun hlt => ?_, fun hge => ?_⟩
  · have hlt : i < s.length := by have := of_decide_eq_true hlt; simp only [nI] at this; omega
    have hc := hd _ (List.getElem_mem hlt)
    have e : s.getD (Int.toNat (i : Int)) 0 = s[i] := by simp [List.getD_eq_getElem?_getD, hlt]
    have hc' : 48 ≤ s[i].toNat ∧ s[i].toNat ≤ 57 := by unfold isDig at hc; simpa using hc
    obtain ⟨t0, t1⟩ := decV_take s hd i
    obtain ⟨t2, t3⟩ := decV_take s hd (i + 1)
    have e2 : decV (s.take (i + 1)) = decV (s.take i) * 10 + ((s[i].toNat : Int) - 48) := by
      rw [List.take_succ_eq_append_getElem hlt, decV_snoc]
    rw [e]
    refine ⟨⟨by omega, by simp only [nI]; omega⟩, fun _ => ⟨by omega, by simp only [nI]; omega⟩, fun b hb => ?_⟩
    have hb : b = false := by
      rw [← hb, Bool.or_eq_false_iff]
      exact ⟨decide_eq_false (by simp only [nI]; omega), decide_eq_false (by simp only [nI]; omega)⟩
    subst hb
    refine ⟨(fun h => by cases h), fun _ => ?_⟩
    rintro n8 h8
    refine ⟨⟨by omega, by simp only [nI]; omega⟩, ?_⟩
    rintro n9 h9 n10 h10 n11 h11
    have e8 : n8 = decV (s.take i) * 10 := by rw [← h8, W64 (by omega) (by omega)]
    have e9 : n9 = (s[i].toNat : Int) - 48 := by rw [← h9, wrapU8 _ (by simp only [nI]; omega) (by simp only [nI]; omega)]
    have e10 : n10 = n9 := by rw [← h10, W64 (by omega) (by omega)]
    have e11 : n11 = decV (s.take (i + 1)) := by rw [← h11, W64 (by omega) (by omega)]; omega
    refine ⟨fun h => by have := of_decide_eq_true h; omega, fun _ => ?_⟩
    rintro _ rfl
    exact ⟨s.length - (i + 1), by omega, i + 1, by rw [W64 (by omega) (by omega)]; rfl, by omega, e11, rfl⟩
  · have hge : i = s.length := by have := of_decide_eq_false hge; simp only [nI] at this; omega
    subst hge
    rw [List.take_length]
    exact end0 rfl rfl
theorem r23text (n : Int) (h : 0 ≤ n) (h1 : n ≤ 1000000) : Runs P 23 [.d (.str (textB n))] [] (.tup [.d (.int .i64 n), .d (.bool true)]) [] := by
  have hl := textB_len n h h1
  rcases textB_cases n h with ⟨e, e0⟩ | ⟨u, e0, h2, e⟩
  · rw [e, e0]; exact r23star
  · rw [e] at hl ⊢
    have := r23 (Lib.decDigits u) (dec_ne u) (dec_ne42 u) (dec_head u h2) (digits_dec u) (by rw [decV_dec]; omega) (by omega)
    rw [decV_dec] at this
    rw [e0]; exact this
theorem partB_len (p : Int × Int) (h : 0 ≤ p.1 ∧ p.1 ≤ 1000000 ∧ 0 ≤ p.2 ∧ p.2 ≤ 1000000) : (partB p).length ≤ 300 := by
  have h1 := textB_len p.1 h.1 h.2.1
  have h2 := textB_len p.2 h.2.2.1 h.2.2.2
  unfold partB; split <;> simp <;> omega
theorem join_len (l : List (Int × Int)) (hm : mayS l = true) : (joinB [44] (l.map partB)).length ≤ 100000 := by
  have hr := may_range hm
  have hl : l.length ≤ 20 := by unfold mayS at hm; simp at hm; omega
  have : ∀ m : List (Int × Int), (∀ p ∈ m, (partB p).length ≤ 300) → sizes (m.map partB) ≤ 300 * m.length := by
    intro m
    induction m with
    | nil => intro _; simp [sizes]
    | cons p r ih =>
      intro h
      have h1 := h p (by simp)
      have h2 := ih fun q hq => h q (by simp [hq])
      simp only [sizes, List.map_cons, List.sum_cons, List.length_cons] at h2 ⊢
      omega
  have h3 := this l fun p hp => partB_len p (hr p hp)
  cases l with
  | nil => simp [joinB]
  | cons p r =>
    simp only [List.map_cons, joinB, List.length_append]
    have := flat_len [44] (r.map partB)
    rw [this]
    simp only [sizes, List.map_cons, List.sum_cons, List.length_cons, List.length_map, List.length_nil] at *
    omega
/-- Parse of Text. -/
theorem r11text (l : List (Int × Int)) (hm : mayS l = true) : Runs P 11 [.d (.str (joinB [44] (l.map partB)))] [] (.tup [.d (.slice 2 (l.map sp)), .d (.bool true)]) [] := by
  refine runs_walkA t11 rfl (vc11 _ _ _) (by simp) ?_
  have hr := may_range hm
  have hl20 : l.length ≤ 20 := by unfold mayS at hm; simp at hm; omega
  have hjl := join_len l hm
  have h21 := Runs.toD (r21 (joinB [44] (l.map partB)) [44] (by omega) (by decide))
  rw [pieces_text l hm] at h21
  refine ⟨_, h21, ?_⟩
  have hlen : nI (List.length ((l.map partB).map D.str)) = (l.length : Int) := by simp [nI]
  rw [hlen]
  refine ⟨fun out i k => ∃ i' : Nat, i = i' ∧ i' ≤ l.length ∧ out = (l.take i').map sp ∧ k = l.length - i', ⟨_, 0, rfl, by omega, by simp, rfl⟩, ?_⟩
  rintro _ _ k ⟨i, rfl, hi, rfl, rfl⟩
  refine ⟨fun hlt => ?_, fun hge => ?_⟩
  · have hlt : i < l.length := by have := of_decide_eq_true hlt; omega
    have hp := hr _ (List.getElem_mem hlt)
    have hg : ((l.map partB).map D.str).getD (Int.toNat (i : Int)) .nilp = .str (partB l[i]) := by simp [List.getD_eq_getElem?_getD, hlt]
    have e1 : (l.take (i + 1)).map sp = (l.take i).map sp ++ [sp l[i]] := by rw [List.take_succ_eq_append_getElem hlt, List.map_append]; rfl
    have fin : ∀ m : Int, Go.IntKind.wrap Go.IntKind.i64 ((i : Int) + 1) = m → ∀ q : D, q = sp l[i] → ∃ k11 : Nat, k11 < l.length - i ∧ ∃ i' : Nat, m = i' ∧ i' ≤ l.length ∧ (l.take i).map sp ++ [q] = (l.take i').map sp ∧ k11 = l.length - i' := by
      rintro _ rfl _ rfl
      exact ⟨l.length - (i + 1), by omega, i + 1, by rw [W64 (by omega) (by omega)]; rfl, by omega, e1.symm, rfl⟩
    have hlp := partB_len _ hp
    refine ⟨⟨by omega, by omega⟩, partB l[i], by rw [hg]; rfl, ?_⟩
    by_cases e : l[i].2 = l[i].1
    · refine ⟨_, _, _, r22' _ _ _ _ _ (by omega) (by rw [partB_cut _ hp.1 hp.2.2.1, if_pos e]), fun _ => ?_, (fun h => by cases h)⟩
      refine ⟨_, _, r23text _ hp.1 hp.2.1, _, _, r23text _ hp.1 hp.2.1, ?_⟩
      rintro _ rfl
      refine ⟨(fun h => by cases h), fun _ => ⟨by simp; omega, fun m hm' => fin m hm' _ (by unfold sp; rw [e])⟩⟩
    · refine ⟨_, _, _, r22' _ _ _ _ _ (by omega) (by rw [partB_cut _ hp.1 hp.2.2.1, if_neg e]), (fun h => by cases h), fun _ => ?_⟩
      refine ⟨_, _, r23text _ hp.1 hp.2.1, _, _, r23text _ hp.2.2.1 hp.2.2.2, ?_⟩
      rintro _ rfl
      exact ⟨(fun h => by cases h), fun _ => ⟨by simp; omega, fun m hm' => fin m hm' _ rfl⟩⟩
  · have hge : i = l.length := by have := of_decide_eq_false hge; omega
    subst hge
    rw [List.take_length]
    exact ⟨_, r8 l, (fun h => by rw [hm] at h; cases h), fun _ => ⟨⟨rfl, rfl, trivial⟩, trivial, rfl⟩⟩
/-- Alike. -/
theorem r12 (l m : List (Int × Int)) (hl : l.length ≤ 9223372036854775806) : Runs P 12 [.d (.slice 2 (l.map sp)), .d (.slice 2 (m.map sp))] [] (.d (.bool (l == m))) [] := by
  refine runs_walkA t12 rfl (vc12 _ _ _ _) (by simp) ?_
  simp only [nI, List.length_map]
  refine ⟨fun h => endB ?_, fun h => ?_⟩
  · have : l ≠ m := by rintro rfl; simp at h
    simpa using this
  have hlm : l.length = m.length := by simp only [bne_eq_false_iff_eq] at h; omega
  refine ⟨fun i k => ∃ i' : Nat, i = i' ∧ i' ≤ l.length ∧ l.take i' = m.take i' ∧ k = l.length - i', ⟨_, 0, rfl, by omega, by simp, rfl⟩, ?_⟩
  rintro _ k ⟨i, rfl, hi, ht, rfl⟩
  refine ⟨fun hlt => ?_, fun hge => ?_⟩
  · have hlt : i < l.length := by have := of_decide_eq_true hlt; omega
    have hlt' : i < m.length := by omega
    refine ⟨⟨by omega, by omega⟩, l[i].1, l[i].2, by rw [getD_sp _ _ hlt]; rfl, ⟨by omega, by omega⟩, m[i].1, m[i].2, by rw [getD_sp _ _ hlt']; rfl, fun hy => endB ?_, fun hn => ?_⟩
    · have : l ≠ m := by rintro rfl; simp at hy
      simpa using this
    · rintro _ rfl
      refine ⟨l.length - (i + 1), by omega, i + 1, by rw [W64 (by omega) (by omega)]; rfl, by omega, ?_, rfl⟩
      rw [List.take_succ_eq_append_getElem hlt, List.take_succ_eq_append_getElem hlt', ht]
      congr 2
      simp at hn
      exact Prod.ext hn.1 hn.2
  · have hge : i = l.length := by have := of_decide_eq_false hge; omega
    subst hge
    rw [List.take_length, List.take_of_length_le (by omega)] at ht
    exact endB (by simp [ht])
theorem r9m (l : List (Int × Int)) (hm : mayS l = true) : Runs P 9 [.d (.slice 2 (l.map sp))] [] (.d (.str (joinB [44] (l.map partB)))) [] :=
  r9 l hm fun p hp => by
    have := may_range hm p hp
    exact ⟨textB_len _ this.1 this.2.1, textB_len _ this.2.2.1 this.2.2.2⟩
theorem r9n (l : List (Int × Int)) (hm : mayS l = false) : Runs P 9 [.d (.slice 2 (l.map sp))] [] (.d (.str [])) [] := by
  refine runs_walkA t9 rfl (vc9 _ _ _) (by simp) ?_
  exact ⟨_, r8 l, fun _ => end0 rfl rfl, fun h => by rw [hm] at h; cases h⟩
theorem numsBack (l m : List (Int × Int)) (hl : l.length ≤ 9223372036854775806) (hm : m.length ≤ 9223372036854775806) :
    Runs P 3 [.d (.slice 2 (l.map sp)), .d (.slice 2 (m.map sp))] [] (.d (.bool true)) [] := by
  refine runs_walkA t3 rfl (vc3 _ _ _ _) (by simp) ?_
  refine ⟨_, r8 l, _, fun _ => r8 m, ?_⟩
  rintro _ rfl _ rfl b6 hb6
  refine ⟨fun _ => ?_, fun h => ?_⟩
  · cases hc : mayS l with
    | true =>
      refine ⟨_, r9m l hc, _, r8 l, _, fun _ => r10, ?_⟩
      rintro _ rfl
      refine endB ?_
      have := text_ne l hc
      rw [hc, Bool.and_true, beq_iff_eq, Bool.not_true, beq_eq_false_iff_ne]
      exact this
    | false =>
      refine ⟨_, r9n l hc, _, r8 l, _, fun _ => r10, ?_⟩
      rintro _ rfl
      exact endB (by rw [hc]; rfl)
  · subst h
    simp only [nI, List.length_map, Bool.or_eq_false_iff, Bool.not_eq_false', decide_eq_false_iff_not] at hb6
    obtain ⟨⟨⟨h1, h2⟩, h3⟩, h4⟩ := hb6
    refine ⟨_, r9m l h1, _, _, r11text l h1, _, fun _ => r12 l l hl, ?_⟩
    rintro _ rfl
    refine ⟨_, fun _ => r9m l h1, _, fun _ => r9m m h2, _, fun _ => r12 l m hl, ?_⟩
    rintro _ rfl
    refine ⟨_, fun _ => r10, ?_⟩
    rintro _ rfl
    refine endB ?_
    rw [text_inj l m h1 h2]
    simp
end B
end Go.Proofs.YtmiclaoelbemkaaDoor
