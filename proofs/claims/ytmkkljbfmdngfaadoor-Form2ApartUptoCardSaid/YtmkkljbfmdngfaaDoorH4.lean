/- Form1Apart, Form2Apart, on data. No condition. -/
import Derived.Test.YtmkkljbfmdngfaaDoorH3
set_option linter.all false
namespace Go.Proofs.YtmkkljbfmdngfaaDoor
namespace B
open Go.RowKit

theorem apart1 {a b : Box} (ha : BoxMay a) (hb : BoxMay b) (hid : a.id = b.id) : (formB 1 a == formB 1 b) = sameB (projB 1 a) (projB 1 b) := by
  rw [Bool.eq_iff_iff, beq_iff_eq, sameB_iff]
  constructor
  · intro h
    have h1 := parse_form1 ha
    rw [hid, h, parse_form1 hb] at h1
    injection h1 with h1; exact h1.symm
  · intro h
    rw [← projB_form 1 ha, h, projB_form 1 hb]
theorem apart2 {a b : Box} (ha : BoxMay a) (hb : BoxMay b) (hid : a.id = b.id) : (formB 2 a == formB 2 b) = sameB (projB 2 a) (projB 2 b) := by
  rw [Bool.eq_iff_iff, beq_iff_eq, sameB_iff]
  constructor
  · intro h
    have h1 := parse_form2 ha
    rw [hid, h, parse_form2 hb] at h1
    injection h1 with h1; exact h1.symm
  · intro h
    rw [← projB_form 2 ha, h, projB_form 2 hb]
theorem projB_ok (form : Nat) {b : Box} (hM : BoxMay b) : BoxOk (projB form b) := by
  have hP := projB_may form hM
  have hid := hP.id.2
  refine ⟨by omega, by have := hP.nw; omega, by have := hP.nm; omega, fun w hw => ?_, fun m hm => ?_⟩
  · have := atom_len (words_all hP.words w hw); omega
  · have q := (msgs_all hP.msgs m hm).1
    have q1 := atom_len q.id
    have q2 := q.keyLen
    have q3 := hP.nw
    exact ⟨by omega, by omega⟩
theorem r3 (a b : Box) (ha : BoxIn a) (hb : BoxIn b) : Runs P 3 [.d a.d, .d b.d] [] (.d (.bool true)) [] := by
  refine runs_walkA t3 rfl (vc3 _ _ _ _ _ _ _ _ _ _ _ _ _ _) (by simp) ?_
  refine ⟨_, r15 a ha.sz, _, r15 b hb.sz, ?_⟩
  rintro n14 h14
  refine ⟨_, fun _ => r16 a ha.ok, ?_⟩
  rintro b16 h16
  refine ⟨_, fun _ => r16 b hb.ok, ?_⟩
  rintro b18 h18 b19 h19
  refine ⟨fun h => ⟨true, r17, endB rfl⟩, fun h => ?_⟩
  subst h
  simp only [Bool.or_eq_false_iff, Bool.not_eq_false', beq_iff_eq] at h19
  obtain ⟨rfl, hid⟩ := h19
  simp only [Bool.or_eq_false_iff, bne_eq_false_iff_eq] at h18
  obtain ⟨rfl, mb⟩ := h18
  simp only [Bool.or_eq_false_iff, bne_eq_false_iff_eq] at h16
  have ma := h16.2
  have hA := boxMay.1 ma
  have hB := boxMay.1 mb
  have wa := r18 a ha.ok
  have wb := r18 b hb.ok
  rw [resB_ok ma 1] at wa
  rw [resB_ok mb 1] at wb
  refine ⟨_, _, wa, _, _, wb, _, _, _, _, _, _, _, r19 1 (by decide) a hA ha.ok, _, _, _, _, _, _, _, r19 1 (by decide) b hB hb.ok, ?_⟩
  rintro b39 h39
  refine ⟨_, fun _ => rfl, _, fun _ => rfl, _, fun _ => r20 (projB 1 a) (projB 1 b) (projB_ok 1 hA), ?_⟩
  rintro b43 h43
  refine ⟨true, fun _ => r17, ?_⟩
  rintro b45 h45
  refine endB ?_
  rw [← h45, ← h43, ← h39, apart1 hA hB hid]
  simp
theorem r4 (a b : Box) (ha : BoxIn a) (hb : BoxIn b) : Runs P 4 [.d a.d, .d b.d] [] (.d (.bool true)) [] := by
  refine runs_walkA t4 rfl (vc4 _ _ _ _ _ _ _ _ _ _ _ _ _ _) (by simp) ?_
  refine ⟨_, r15 a ha.sz, _, r15 b hb.sz, ?_⟩
  rintro n14 h14
  refine ⟨_, fun _ => r16 a ha.ok, ?_⟩
  rintro b16 h16
  refine ⟨_, fun _ => r16 b hb.ok, ?_⟩
  rintro b18 h18 b19 h19
  refine ⟨fun h => ⟨true, r21, endB rfl⟩, fun h => ?_⟩
  subst h
  simp only [Bool.or_eq_false_iff, Bool.not_eq_false', beq_iff_eq] at h19
  obtain ⟨rfl, hid⟩ := h19
  simp only [Bool.or_eq_false_iff, bne_eq_false_iff_eq] at h18
  obtain ⟨rfl, mb⟩ := h18
  simp only [Bool.or_eq_false_iff, bne_eq_false_iff_eq] at h16
  have ma := h16.2
  have hA := boxMay.1 ma
  have hB := boxMay.1 mb
  have wa := r22 a ha.ok
  have wb := r22 b hb.ok
  rw [resB_ok ma 2] at wa
  rw [resB_ok mb 2] at wb
  refine ⟨_, _, wa, _, _, wb, _, _, _, _, _, _, _, r19 2 (by decide) a hA ha.ok, _, _, _, _, _, _, _, r19 2 (by decide) b hB hb.ok, ?_⟩
  rintro b39 h39
  refine ⟨_, fun _ => rfl, _, fun _ => rfl, _, fun _ => r20 (projB 2 a) (projB 2 b) (projB_ok 2 hA), ?_⟩
  rintro b43 h43
  refine ⟨true, fun _ => r21, ?_⟩
  rintro b45 h45
  refine endB ?_
  rw [← h45, ← h43, ← h39, apart2 hA hB hid]
  simp
end B
end Go.Proofs.YtmkkljbfmdngfaaDoor
