/- Numbers, on data. No condition. -/
import Derived.Test.YtmiclaoelbemkaaDoorN4
import Derived.Test.YtmiclaoelbemkaaDoorB30
set_option linter.all false
namespace Go.Proofs.YtmiclaoelbemkaaDoor
namespace B
open Go.RowKit

theorem W64 {n : Int} (h : -9223372036854775808 ≤ n) (h' : n ≤ 9223372036854775807) : Go.IntKind.wrap .i64 n = n := by
  unfold Go.IntKind.wrap Go.IntKind.bits Go.IntKind.signed
  simp
  omega
theorem endB {c : Bool} {bs : List (Nat × List CV)} {b : Bool} (h : c = b) : EndR (.d (.bool c)) (.d (.bool b)) bs [] := end0 (by rw [h]) rfl
theorem end1 {c : CV} {bs : List (Nat × List CV)} {b : Nat} {cs : List CV} (h : bs.lookup b = some cs) (hc : (⟨[c], [(b, cs)]⟩ : St).clo = true) : EndR c c bs [(b, cs)] :=
  ⟨Wr_refl c, ⟨by rw [h]; exact WcL_refl cs, trivial⟩, hc⟩
theorem end2 {c : CV} {bs : List (Nat × List CV)} {b b' : Nat} {cs cs' : List CV} (h : bs.lookup b = some cs) (h' : bs.lookup b' = some cs') (hc : (⟨[c], [(b, cs), (b', cs')]⟩ : St).clo = true) : EndR c c bs [(b, cs), (b', cs')] :=
  ⟨Wr_refl c, ⟨by rw [h]; exact WcL_refl cs, by rw [h']; exact WcL_refl cs', trivial⟩, hc⟩

theorem end2B {c c' : Bool} {bs : List (Nat × List CV)} {b b' : Nat} {cs cs' : List CV} (e : c = c') (h : bs.lookup b = some cs) (h' : bs.lookup b' = some cs') (hc : (⟨[.d (.bool c')], [(b, cs), (b', cs')]⟩ : St).clo = true) : EndR (.d (.bool c)) (.d (.bool c')) bs [(b, cs), (b', cs')] := by
  subst e; exact end2 h h' hc
/-- Spans, as data. -/
def sp (p : Int × Int) : D := .agg [.int .i64 p.1, .int .i64 p.2]
def off (n : Int) : Bool := decide (n < 0) || decide (n > 1000000)
def offS (p : Int × Int) : Bool := off p.1 || off p.2
def mayS (l : List (Int × Int)) : Bool := decide (1 ≤ l.length) && decide (l.length ≤ 20) && !l.any offS
def ends (most n : Int) : Int := if n = 0 then most else n
def has1 (n most : Int) (p : Int × Int) : Bool := !((p.1 == 0 || p.2 == 0) && decide (most < 1)) && (decide (min (ends most p.1) (ends most p.2) ≤ n) && decide (n ≤ max (ends most p.1) (ends most p.2)))
def hasS (l : List (Int × Int)) (n most : Int) : Bool := mayS l && !decide (n < 1) && l.any (has1 n most)
def idxS (f : Int × Int → Bool) (l : List (Int × Int)) : Int := if l.any f then (l.findIdx f : Int) else -1
theorem idxS_ge (f : Int × Int → Bool) (l : List (Int × Int)) : decide (idxS f l ≥ 0) = l.any f := by
  unfold idxS
  cases h : l.any f <;> simp <;> omega
theorem getD_sp (l : List (Int × Int)) (i : Nat) (h : i < l.length) : (l.map sp).getD (i : Int).toNat .nilp = sp l[i] := by
  simp [List.getD_eq_getElem?_getD, h]

theorem r16 (n : Int) : Runs P 16 [.d (.int .i64 n)] [] (.d (.bool (off n))) [] := by
  refine runs_walkA t16 rfl (vc16 _ _ _) (by simp) ?_
  rintro _ rfl
  exact endB rfl

theorem r18a (p : Int × Int) : Runs P 18 [.d (sp p), .ptr 1001 0] [(1001, [.fn 16 []])] (.d (.bool (offS p))) [(1001, [.fn 16 []])] := by
  refine runs_walkA t18 rfl (vc18m _ _ _ _) (by simp) ?_
  refine ⟨_, r16 _, _, fun _ => r16 _, ?_⟩
  rintro _ rfl
  exact end1 rfl rfl
theorem r18 (b : Nat) (p : Int × Int) : Runs P 18 [.d (sp p), .ptr b 0] [(b, [.fn 16 []])] (.d (.bool (offS p))) [(b, [.fn 16 []])] := by
  have := (r18a p).swap 1001 b
  simpa [CV.ren, CV.ren1, renB, swp, sp] using this

theorem r27ma (l : List (Int × Int)) (hl : l.length ≤ 9223372036854775806) : Runs P 27 [.d (.slice 2 (l.map sp)), .fn 18 [2000]] [(2000, [.fn 16 []])] (.d (.int .i64 (idxS offS l))) [(2000, [.fn 16 []])] := by
  refine runs_walkA t27 rfl (vc27m _ _ _) (by simp) ?_
  refine ⟨fun i k => ∃ i' : Nat, i = i' ∧ i' ≤ l.length ∧ k = l.length - i' ∧ (l.take i').any offS = false, ⟨rfl, _, 0, rfl, by omega, rfl, by simp⟩, ?_⟩
  rintro _ k ⟨i, rfl, hi, rfl, hno⟩
  refine ⟨fun hlt => ?_, fun hge => ?_⟩
  · have hlt : i < l.length := by simp [nI] at hlt; omega
    refine ⟨by simp [nI]; omega, l[i].1, l[i].2, by rw [getD_sp _ _ hlt]; rfl, _, r18 _ _, fun hy => ?_, fun hn => ?_⟩
    · have e : idxS offS l = i := by
        have hany : l.any offS = true := List.any_eq_true.2 ⟨l[i], List.getElem_mem hlt, hy⟩
        unfold idxS
        rw [if_pos hany]
        congr 1
        refine (List.findIdx_eq hlt).2 ⟨hy, fun j hj => ?_⟩
        have := List.any_eq_false.1 hno l[j] (List.mem_take_iff_getElem.2 ⟨j, by omega, rfl⟩)
        simpa using this
      rw [e]
      exact end1 rfl rfl
    · rintro _ rfl
      refine ⟨rfl, l.length - (i + 1), by omega, i + 1, ?_, by omega, rfl, ?_⟩
      · rw [W64 (by omega) (by omega)]; rfl
      · rw [List.take_succ_eq_append_getElem hlt, List.any_append, hno]
        simpa using hn
  · have hge : i = l.length := by simp [nI] at hge; omega
    subst hge
    rw [List.take_length] at hno
    have e : idxS offS l = -1 := by unfold idxS; rw [if_neg (by simp [hno])]
    rw [e]
    exact end1 rfl rfl
theorem r27m (b : Nat) (l : List (Int × Int)) (hl : l.length ≤ 9223372036854775806) : Runs P 27 [.d (.slice 2 (l.map sp)), .fn 18 [b]] [(b, [.fn 16 []])] (.d (.int .i64 (idxS offS l))) [(b, [.fn 16 []])] := by
  have := (r27ma l hl).swap 2000 b
  simpa [CV.ren, CV.ren1, renB, swp] using this
theorem r17ma (l : List (Int × Int)) (hl : l.length ≤ 9223372036854775806) : Runs P 17 [.d (.slice 2 (l.map sp)), .fn 18 [2000]] [(2000, [.fn 16 []])] (.d (.bool (l.any offS))) [(2000, [.fn 16 []])] := by
  refine runs_walkA t17 rfl (vc17m _ _ _) (by simp) ?_
  refine ⟨_, r27m _ l hl, ?_⟩
  rw [idxS_ge]
  exact end1 rfl rfl
theorem r17m (b : Nat) (l : List (Int × Int)) (hl : l.length ≤ 9223372036854775806) : Runs P 17 [.d (.slice 2 (l.map sp)), .fn 18 [b]] [(b, [.fn 16 []])] (.d (.bool (l.any offS))) [(b, [.fn 16 []])] := by
  have := (r17ma l hl).swap 2000 b
  simpa [CV.ren, CV.ren1, renB, swp] using this
/-- May. -/
theorem r8 (l : List (Int × Int)) : Runs P 8 [.d (.slice 2 (l.map sp))] [] (.d (.bool (mayS l))) [] := by
  refine runs_walkA t8 rfl (vc8 _ _ _) (by simp) ?_
  intro b1 hb1
  refine ⟨l.any offS, fun h => r17m _ l ?_, ?_⟩
  · subst h
    simp [nI] at hb1; omega
  · rintro _ rfl
    refine endB ?_
    rw [← hb1]
    simp only [mayS, nI, List.length_map]
    congr 2
    · exact decide_eq_decide.2 (by omega)
    · exact decide_eq_decide.2 (by omega)

/-- Has, of one span. -/
theorem r24a (p : Int × Int) (most n : Int) : Runs P 24 [.d (sp p), .ptr 1001 0, .ptr 1002 0] [(1001, [.d (.int .i64 most)]), (1002, [.d (.int .i64 n)])] (.d (.bool (has1 n most p))) [(1001, [.d (.int .i64 most)]), (1002, [.d (.int .i64 n)])] := by
  refine runs_walkA t24 rfl (vc24h _ _ _ _ _ _) (by simp) ?_
  obtain ⟨a, b⟩ := p
  rintro _ rfl _ rfl
  refine ⟨fun h => ?_, fun h => ⟨fun ha => ⟨fun hb => ?_, fun hb => ?_⟩, fun ha => ⟨fun hb => ?_, fun hb => ?_⟩⟩⟩
  · have e : has1 n most (a, b) = false := by unfold has1; simp only [h]; simp
    rw [e]; exact end2 rfl rfl rfl
  all_goals
    rintro _ rfl _ rfl _ rfl
    refine end2B ?_ rfl rfl rfl
    unfold has1
    simp only at ha hb h
    rw [h]
    have ha' := ha; have hb' := hb
    simp only [beq_iff_eq, beq_eq_false_iff_ne] at ha' hb'
    simp only [ends, mmI, ha', hb', if_true, if_false, Bool.not_false, Bool.true_and, not_true, not_false_iff]
    first | rfl | (simp; done) | skip
theorem r24 (b b' : Nat) (h1 : b ≠ 1001) (h2 : b ≠ 1002) (h3 : b' ≠ 1001) (h4 : b' ≠ 1002) (h5 : b ≠ b') (p : Int × Int) (most n : Int) : Runs P 24 [.d (sp p), .ptr b 0, .ptr b' 0] [(b, [.d (.int .i64 most)]), (b', [.d (.int .i64 n)])] (.d (.bool (has1 n most p))) [(b, [.d (.int .i64 most)]), (b', [.d (.int .i64 n)])] := by
  have := ((r24a p most n).swap 1001 b).swap 1002 b'
  simpa [CV.ren, CV.ren1, renB, swp, sp, h1, h2, h3, h4, h5, Ne.symm h1, Ne.symm h2, Ne.symm h3, Ne.symm h4, Ne.symm h5] using this

theorem r27ha (l : List (Int × Int)) (most n : Int) (hl : l.length ≤ 9223372036854775806) : Runs P 27 [.d (.slice 2 (l.map sp)), .fn 24 [2000, 2001]] [(2000, [.d (.int .i64 most)]), (2001, [.d (.int .i64 n)])] (.d (.int .i64 (idxS (has1 n most) l))) [(2000, [.d (.int .i64 most)]), (2001, [.d (.int .i64 n)])] := by
  refine runs_walkA t27 rfl (vc27h _ _ _ _ _) (by simp) ?_
  refine ⟨fun i m' n' k => m' = most ∧ n' = n ∧ ∃ i' : Nat, i = i' ∧ i' ≤ l.length ∧ k = l.length - i' ∧ (l.take i').any (has1 n most) = false, ⟨_, rfl, rfl, 0, rfl, by omega, rfl, by simp⟩, ?_⟩
  rintro _ mm nn k ⟨rfl, rfl, i, rfl, hi, rfl, hno⟩
  refine ⟨fun hlt => ?_, fun hge => ?_⟩
  · have hlt : i < l.length := by simp [nI] at hlt; omega
    refine ⟨by simp [nI]; omega, l[i].1, l[i].2, by rw [getD_sp _ _ hlt]; rfl, _, _, _, r24 2000 2001 (by decide) (by decide) (by decide) (by decide) (by decide) _ _ _, fun hy => ?_, fun hn => ?_⟩
    · have e : idxS (has1 nn mm) l = i := by
        have hany : l.any (has1 nn mm) = true := List.any_eq_true.2 ⟨l[i], List.getElem_mem hlt, hy⟩
        unfold idxS
        rw [if_pos hany]
        congr 1
        refine (List.findIdx_eq hlt).2 ⟨hy, fun j hj => ?_⟩
        have := List.any_eq_false.1 hno l[j] (List.mem_take_iff_getElem.2 ⟨j, by omega, rfl⟩)
        simpa using this
      rw [e]
      exact end2 rfl rfl rfl
    · rintro _ rfl
      refine ⟨l.length - (i + 1), by omega, rfl, rfl, i + 1, ?_, by omega, rfl, ?_⟩
      · rw [W64 (by omega) (by omega)]; rfl
      · rw [List.take_succ_eq_append_getElem hlt, List.any_append, hno]
        simpa using hn
  · have hge : i = l.length := by simp [nI] at hge; omega
    subst hge
    rw [List.take_length] at hno
    have e : idxS (has1 nn mm) l = -1 := by unfold idxS; rw [if_neg (by simp [hno])]
    rw [e]
    exact end2 rfl rfl rfl
theorem r27h (b b' : Nat) (h1 : b ≠ 2000) (h2 : b ≠ 2001) (h3 : b' ≠ 2000) (h4 : b' ≠ 2001) (h5 : b ≠ b') (l : List (Int × Int)) (most n : Int) (hl : l.length ≤ 9223372036854775806) : Runs P 27 [.d (.slice 2 (l.map sp)), .fn 24 [b, b']] [(b, [.d (.int .i64 most)]), (b', [.d (.int .i64 n)])] (.d (.int .i64 (idxS (has1 n most) l))) [(b, [.d (.int .i64 most)]), (b', [.d (.int .i64 n)])] := by
  have := ((r27ha l most n hl).swap 2000 b).swap 2001 b'
  simpa [CV.ren, CV.ren1, renB, swp, h1, h2, h3, h4, h5, Ne.symm h1, Ne.symm h2, Ne.symm h3, Ne.symm h4, Ne.symm h5] using this
theorem r17ha (l : List (Int × Int)) (most n : Int) (hl : l.length ≤ 9223372036854775806) : Runs P 17 [.d (.slice 2 (l.map sp)), .fn 24 [2000, 2001]] [(2000, [.d (.int .i64 most)]), (2001, [.d (.int .i64 n)])] (.d (.bool (l.any (has1 n most)))) [(2000, [.d (.int .i64 most)]), (2001, [.d (.int .i64 n)])] := by
  refine runs_walkA t17 rfl (vc17h _ _ _ _ _) (by simp) ?_
  exact ⟨_, _, _, r27ha l most n hl, end2B (idxS_ge _ _) rfl rfl rfl⟩
/-- Has. -/
theorem r13 (l : List (Int × Int)) (n most : Int) : Runs P 13 [.d (.slice 2 (l.map sp)), .d (.int .i64 n), .d (.int .i64 most)] [] (.d (.bool (hasS l n most))) [] := by
  refine runs_walkA t13 rfl (vc13 _ _ _ _ _) (by simp) ?_
  refine ⟨_, r8 l, ?_⟩
  intro b hb
  refine ⟨fun h => endB ?_, fun h => ?_⟩
  · subst h
    unfold hasS
    cases hm : mayS l <;> simp [hm] at hb ⊢
    intro h; omega
  · subst h
    have hm : mayS l = true ∧ ¬ n < 1 := by
      cases hm : mayS l <;> simp [hm] at hb ⊢
      exact hb
    have hl : l.length ≤ 20 := by
      have := hm.1
      unfold mayS at this
      simp at this; omega
    refine ⟨_, _, _, ((r17ha l most n (by omega)).swap 2000 5).swap 2001 4 |> fun h => by simpa [CV.ren, CV.ren1, renB, swp] using h, endB ?_⟩
    unfold hasS
    simp [hm.1, hm.2]
/-- MaySpans. -/
theorem r14 (l : List (Int × Int)) (hl : l.length ≤ 9223372036854775806) : Runs P 14 [.d (.slice 2 (l.map sp))] [] (.d (.bool (mayS l))) [] := by
  refine runs_walkA t14 rfl (vc14 _ _ _) (by simp) ?_
  refine ⟨fun i k => ∃ i' : Nat, i = i' ∧ i' ≤ l.length ∧ k = l.length - i' ∧ (l.take i').any offS = false, ⟨_, 0, rfl, by omega, rfl, by simp⟩, ?_⟩
  rintro _ k ⟨i, rfl, hi, rfl, hno⟩
  refine ⟨fun hlt => ?_, fun hge => ?_⟩
  · have hlt : i < l.length := by simp [nI] at hlt; omega
    refine ⟨by simp [nI]; omega, l[i].1, l[i].2, by rw [getD_sp _ _ hlt]; rfl, ?_⟩
    rintro _ rfl _ rfl b9 hb9
    have e9 : offS l[i] = b9 := by rw [← hb9]; unfold offS off; simp [Bool.or_assoc]
    refine ⟨fun hy => ?_, fun hn => ?_⟩
    · refine endB ?_
      have hany : l.any offS = true := List.any_eq_true.2 ⟨l[i], List.getElem_mem hlt, e9.trans hy⟩
      unfold mayS; simp [hany]
    · rintro _ rfl
      refine ⟨l.length - (i + 1), by omega, i + 1, ?_, by omega, rfl, ?_⟩
      · rw [W64 (by omega) (by omega)]; rfl
      · rw [List.take_succ_eq_append_getElem hlt, List.any_append, hno]
        simpa using e9.trans hn
  · have hge : i = l.length := by simp [nI] at hge; omega
    subst hge
    rw [List.take_length] at hno
    rintro _ rfl
    refine endB ?_
    simp only [mayS, nI, List.length_map, hno, Bool.not_false, Bool.and_true]
    congr 1
    · exact decide_eq_decide.2 (by omega)
    · exact decide_eq_decide.2 (by omega)
end B
end Go.Proofs.YtmiclaoelbemkaaDoor
