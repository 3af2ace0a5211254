/- Form1Cut, Form2Cut: on data. Printed by f20.py. No condition. -/
import Derived.Test.YtmkkljbfmdngfaaDoorF19
set_option linter.all false
namespace Go.Proofs.YtmkkljbfmdngfaaDoor
namespace B
open Go.RowKit

theorem resP_er {e : Except Int Box} {x : Int} (h : e = .error x) : resP e = .tup [.d box00.d, .d (.int .i64 x)] := by rw [h]; rfl
theorem wu64' (n : Int) : 0 ≤ Go.IntKind.wrap .u64 n := by
  unfold Go.IntKind.wrap
  simp [Go.IntKind.signed, Go.IntKind.bits]
  omega

theorem r7 (b : Box) (at' more : Int) (h0 : 0 ≤ more) (h1 : more ≤ 255) (hb : BoxIn b) : Runs P 7 [.d b.d, .d (.int .i64 at'), .d (.int .u8 more)] [] (.d (.bool true)) [] := by
  refine runs_walkA t7 rfl (vc7 _ _ _ _ _ _ _ _ _ _) (by simp) ?_
  refine ⟨_, r15 b hb.sz, _, fun _ => r16 b hb.ok, ?_⟩
  rintro b8 h8
  refine ⟨fun h => ⟨true, r17, endB rfl⟩, fun h => ?_⟩
  rw [h] at h8
  have hm : mayBox b = 0 := by
    simp only [Bool.or_eq_false_iff, bne_eq_false_iff_eq] at h8; exact h8.2
  have hM := boxMay.1 hm
  have w18 := r18 b hb.ok
  rw [resB_ok hm 1] at w18
  have hl := formB_len hM 1
  have hid := hM.id.2
  have hread := box_read1 hM []
  rw [List.append_nil] at hread
  have hform : formB 1 b = ([77, 66, 49] : Bytes) ++ bodyB 1 b := form_body 1 b
  have hpos : 3 ≤ (formB 1 b).length := by rw [hform, List.length_append]; simp
  refine ⟨_, _, w18, ?_⟩
  rintro b14 h14
  have e14 : b14 = false := by
    rw [← h14, bs_len]; simp [nI]; intro e; rw [e] at hpos; simp at hpos
  subst e14
  refine ⟨fun h => (by cases h), fun _ => ?_⟩
  rintro n15 h15 n16 h16
  have p15 := wu64' at'
  rw [h15] at p15
  rw [bs_len, wu64 (by simp only [nI]; omega) (by simp only [nI]; omega)] at h16
  simp only [nI] at h16
  subst h16
  refine ⟨by omega, ?_⟩
  rintro n17 h17 n18 h18
  obtain ⟨u, rfl⟩ : ∃ u : Nat, n15 = u := ⟨n15.toNat, by omega⟩
  have hk : u % (formB 1 b).length < (formB 1 b).length := Nat.mod_lt _ (by omega)
  have e17 : n17 = ((u % (formB 1 b).length : Nat) : Int) := by rw [← h17]; rfl
  generalize u % (formB 1 b).length = k at hk e17
  subst e17
  rw [W64 (by omega) (by omega)] at h18
  subst h18
  refine ⟨⟨by simp [nI], by simp only [nI]; omega, by rw [bs_len]; simp only [nI]; omega⟩, ?_⟩
  rintro _ rfl
  rw [bs_take, Int.toNat_natCast]
  obtain ⟨x, hx, hx23⟩ := parse_cut (good_box1 b.id) (pre := [77, 66, 49]) hread (k := k) (by rw [← hform]; exact hk)
  rw [← hform] at hx
  have w24 := r24 ((formB 1 b).take k) b.id (by omega) (by rw [List.length_take]; omega)
  rw [resP_er hx] at w24
  have hmore := parse_more (good_box1 b.id) (pre := [77, 66, 49]) hread (UInt8.ofNat more.toNat)
  rw [← hform] at hmore
  have w24' := r24 (formB 1 b ++ [UInt8.ofNat more.toNat]) b.id (by omega) (by rw [List.length_append]; simp; omega)
  rw [resP_er hmore, bs_app] at w24'
  have em : bs [UInt8.ofNat more.toNat] = [.int .u8 more] := by
    have : ((UInt8.ofNat more.toNat).toNat : Int) = more := by simp; omega
    show [D.int .u8 ((UInt8.ofNat more.toNat).toNat : Int)] = _
    rw [this]
  rw [em] at w24'
  refine ⟨_, _, _, _, _, _, _, w24, by rw [bs_len]; omega, by rw [bs_len]; simp; omega, _, _, _, _, _, _, _, w24', ?_⟩
  rintro _ rfl _ rfl
  refine ⟨true, fun _ => r17, ?_⟩
  rintro _ rfl
  refine endB ?_
  rcases hx23 with rfl | rfl <;> rfl

theorem r10 (b : Box) (at' more : Int) (h0 : 0 ≤ more) (h1 : more ≤ 255) (hb : BoxIn b) : Runs P 10 [.d b.d, .d (.int .i64 at'), .d (.int .u8 more)] [] (.d (.bool true)) [] := by
  refine runs_walkA t10 rfl (vc10 _ _ _ _ _ _ _ _ _ _) (by simp) ?_
  refine ⟨_, r15 b hb.sz, _, fun _ => r16 b hb.ok, ?_⟩
  rintro b8 h8
  refine ⟨fun h => ⟨true, r21, endB rfl⟩, fun h => ?_⟩
  rw [h] at h8
  have hm : mayBox b = 0 := by
    simp only [Bool.or_eq_false_iff, bne_eq_false_iff_eq] at h8; exact h8.2
  have hM := boxMay.1 hm
  have w18 := r22 b hb.ok
  rw [resB_ok hm 2] at w18
  have hl := formB_len hM 2
  have hid := hM.id.2
  have hread := box_read2 hM []
  rw [List.append_nil] at hread
  have hform : formB 2 b = ([77, 66, 50] : Bytes) ++ bodyB 2 b := form_body 2 b
  have hpos : 3 ≤ (formB 2 b).length := by rw [hform, List.length_append]; simp
  refine ⟨_, _, w18, ?_⟩
  rintro b14 h14
  have e14 : b14 = false := by
    rw [← h14, bs_len]; simp [nI]; intro e; rw [e] at hpos; simp at hpos
  subst e14
  refine ⟨fun h => (by cases h), fun _ => ?_⟩
  rintro n15 h15 n16 h16
  have p15 := wu64' at'
  rw [h15] at p15
  rw [bs_len, wu64 (by simp only [nI]; omega) (by simp only [nI]; omega)] at h16
  simp only [nI] at h16
  subst h16
  refine ⟨by omega, ?_⟩
  rintro n17 h17 n18 h18
  obtain ⟨u, rfl⟩ : ∃ u : Nat, n15 = u := ⟨n15.toNat, by omega⟩
  have hk : u % (formB 2 b).length < (formB 2 b).length := Nat.mod_lt _ (by omega)
  have e17 : n17 = ((u % (formB 2 b).length : Nat) : Int) := by rw [← h17]; rfl
  generalize u % (formB 2 b).length = k at hk e17
  subst e17
  rw [W64 (by omega) (by omega)] at h18
  subst h18
  refine ⟨⟨by simp [nI], by simp only [nI]; omega, by rw [bs_len]; simp only [nI]; omega⟩, ?_⟩
  rintro _ rfl
  rw [bs_take, Int.toNat_natCast]
  obtain ⟨x, hx, hx23⟩ := parse_cut (good_box2 b.id) (pre := [77, 66, 50]) hread (k := k) (by rw [← hform]; exact hk)
  rw [← hform] at hx
  have w24 := r27 ((formB 2 b).take k) b.id (by omega) (by rw [List.length_take]; omega)
  rw [resP_er hx] at w24
  have hmore := parse_more (good_box2 b.id) (pre := [77, 66, 50]) hread (UInt8.ofNat more.toNat)
  rw [← hform] at hmore
  have w24' := r27 (formB 2 b ++ [UInt8.ofNat more.toNat]) b.id (by omega) (by rw [List.length_append]; simp; omega)
  rw [resP_er hmore, bs_app] at w24'
  have em : bs [UInt8.ofNat more.toNat] = [.int .u8 more] := by
    have : ((UInt8.ofNat more.toNat).toNat : Int) = more := by simp; omega
    show [D.int .u8 ((UInt8.ofNat more.toNat).toNat : Int)] = _
    rw [this]
  rw [em] at w24'
  refine ⟨_, _, _, _, _, _, _, w24, by rw [bs_len]; omega, by rw [bs_len]; simp; omega, _, _, _, _, _, _, _, w24', ?_⟩
  rintro _ rfl _ rfl
  refine ⟨true, fun _ => r21, ?_⟩
  rintro _ rfl
  refine endB ?_
  rcases hx23 with rfl | rfl <;> rfl
end B
end Go.Proofs.YtmkkljbfmdngfaaDoor
