/- The line's functions on data. No condition. -/
import Derived.Test.YtednbnhaohbnjaaB29
import Derived.Test.YtednbnhaohbnjaaLW
set_option linter.all false
namespace Go.Proofs.Ytednbnhaohbnjaa
namespace B
open Go.RowKit

theorem setB_one (l : List CV) (b : Nat) (cs cs' : List CV) : (⟨l, [(b, cs)]⟩ : St).set (.b b) (.agg cs') = ⟨l, [(b, cs')]⟩ := by simp [St.set, setB]

theorem ok9 : CallOk Try.prog 9 := ⟨Try.f9, Try.func9, rfl, rfl⟩
theorem ok11 : CallOk Try.prog 11 := ⟨Try.f11, Try.func11, rfl, rfl⟩
theorem ok10 : CallOk Try.prog 10 := ⟨Try.f10, Try.func10, rfl, rfl⟩
theorem ok18 : CallOk Try.prog 18 := ⟨Try.f18, Try.func18, rfl, rfl⟩
theorem ok8 : CallOk Try.prog 8 := ⟨Try.f8, Try.func8, rfl, rfl⟩

/-- Put. -/
theorem r9 (b cap : Nat) (l : List D) (x : D) : Runs Try.prog 9 [.ptr b 0, .d x] [(b, [.line cap l])] (.d (.bool (decide (l.length < cap)))) [(b, [.line cap (if l.length < cap then l ++ [x] else l)])] := by
  refine ⟨ok9, fun Γ ρ bl vals w h hz => ?_⟩
  obtain ⟨g, buf, s, r, e, k1, k2, k3, k4, k5, k6, k7⟩ := h.line (b := b) (cap := cap) (l := l) (by simp [St.bx])
  obtain ⟨v0, hv0, hr0⟩ := h.slots 0 _ rfl
  obtain ⟨v1, hv1, hr1⟩ := h.slots 1 _ rfl
  have hr0 : v0 = .pointer (some ⟨bl b, 0, none⟩) := hr0
  have hr1 : Rep Γ x v1 := hr1
  have hvals : vals = #[.pointer (some ⟨bl b, 0, none⟩), v1] := by
    have hl : vals.size = 2 := h.len
    subst hr0
    exact Array.ext (by simp [hl]) fun i h1 h2 => by
      simp at h2
      match i, h2 with
      | 0, _ => have := Array.getElem?_eq_getElem h1; rw [hv0] at this; simpa using this.symm
      | 1, _ => have := Array.getElem?_eq_getElem h1; rw [hv1] at this; simpa using this.symm
  rw [hvals]
  by_cases hr : l.length < cap
  · refine (LW.put9_room w (bl b) g cap s r v1 buf k2 k3 (by omega)).mono ?_
    rintro e' w' ⟨rfl, rfl⟩
    obtain ⟨h2, f2⟩ := h.setLine (cap := cap) (l := l) (l' := l ++ [x]) (buf' := buf.push v1) (s' := s + 1) (r' := r) (by simp [St.bx]) k1 k4 k5 (by simp [k6]) (fun k d u hd hu => by
      by_cases hk : k < l.length
      · rw [List.getElem?_append_left hk] at hd
        rw [Array.getElem?_push_lt (by omega)] at hu
        exact k7 k d u hd (by rw [Array.getElem?_eq_getElem (by omega)]; exact hu)
      · have hk2 : k = l.length := by
          have := (List.getElem?_eq_some_iff.1 hd).1
          simp at this; omega
        subst hk2
        simp at hd; subst hd
        rw [← k6] at hu; simp at hu; subst hu
        exact hr1)
    rw [setB_one] at h2
    rw [if_pos hr, decide_eq_true hr]
    exact ⟨_, _, _, _, rfl, h2.result (.bool true) (fun _ h => h.elim), f2.to0, fun _ _ _ => RK.refl⟩
  · refine (LW.put9_full w (bl b) g cap s r v1 buf k2 k3 (by omega)).mono ?_
    rintro e' w' ⟨rfl, rfl⟩
    rw [if_neg hr, decide_eq_false hr]
    exact ⟨_, _, _, _, rfl, h.result (.bool false) (fun _ h => h.elim), (Fr.refl _ _ _).to0, fun _ _ _ => RK.refl⟩

theorem one_val {Γ : Froz} {ρ : Nat → Role} {bl : Nat → Nat} {b : Nat} {objs : List (Nat × List CV)} {vals : Array Value} {w : World} (h : SR Γ ρ bl ⟨[.ptr b 0], objs⟩ vals w) : vals = #[.pointer (some ⟨bl b, 0, none⟩)] := by
  obtain ⟨v0, hv0, hr0⟩ := h.slots 0 _ rfl
  have hr0 : v0 = .pointer (some ⟨bl b, 0, none⟩) := hr0
  have hl : vals.size = 1 := h.len
  subst hr0
  exact Array.ext (by simp [hl]) fun i h1 h2 => by
    simp at h2
    subst h2
    have := Array.getElem?_eq_getElem h1; rw [hv0] at this; simpa using this.symm

/-- Take. -/
theorem r11_some (b cap : Nat) (x : D) (l : List D) : Runs Try.prog 11 [.ptr b 0] [(b, [.line cap (x :: l)])] (.tup [.d x, .d (.bool true)]) [(b, [.line cap l])] := by
  refine ⟨ok11, fun Γ ρ bl vals w h hz => ?_⟩
  obtain ⟨g, buf, s, r, e, k1, k2, k3, k4, k5, k6, k7⟩ := h.line (b := b) (cap := cap) (l := x :: l) (by simp [St.bx])
  rw [one_val h]
  have hb0 : 0 < buf.size := by rw [k6]; simp
  have hx : Rep Γ x (buf.getD 0 undef) := k7 0 x _ rfl (by simp [Array.getD, hb0])
  refine (LW.take11_some w (bl b) g cap s r buf k2 k3 hb0).mono ?_
  rintro e' w' ⟨rfl, rfl⟩
  obtain ⟨h2, f2⟩ := h.setLine (cap := cap) (l := x :: l) (l' := l) (buf' := buf.extract 1 buf.size) (s' := s) (r' := r + 1) (by simp [St.bx]) k1 k4 k5 (by simp at k6 ⊢; omega) (fun k d u hd hu => by
    refine k7 (k + 1) d u (by simpa using hd) ?_
    rw [Array.getElem?_extract] at hu
    split at hu
    · rw [← hu, Nat.add_comm]
    · cases hu)
  rw [setB_one] at h2
  refine ⟨_, _, _, _, rfl, h2.result (res := .tup [.d x, .d (.bool true)]) ⟨[buf.getD 0 undef, .bool true], rfl, rfl, fun i c v hc hv => ?_⟩ (fun b hb => ?_), f2.to0, fun _ _ _ => RK.refl⟩
  · match i with
    | 0 => simp at hc hv; subst hc; subst hv; exact (by simpa using hx : Rep Γ x (buf[0]?.getD undef))
    | 1 => simp at hc hv; subst hc; subst hv; exact Rep.bool true
    | k + 2 => simp at hc
  · obtain ⟨c, hc, hm⟩ := hb
    simp at hc
    rcases hc with rfl | rfl <;> exact hm.elim
/-- Len. -/
theorem r10 (b cap : Nat) (l : List D) : Runs Try.prog 10 [.ptr b 0] [(b, [.line cap l])] (.d (.int .i64 l.length)) [(b, [.line cap l])] := by
  refine ⟨ok10, fun Γ ρ bl vals w h hz => ?_⟩
  obtain ⟨g, buf, s, r, e, k1, k2, k3, k4, k5, k6, k7⟩ := h.line (b := b) (cap := cap) (l := l) (by simp [St.bx])
  rw [one_val h]
  refine (LW.len10 w (bl b) g cap s r buf k2 k3).mono ?_
  rintro e' w' ⟨rfl, rfl⟩
  rw [k6]
  exact ⟨_, _, _, _, rfl, h.result (.int _ _) (fun _ h => h.elim), (Fr.refl _ _ _).to0, fun _ _ _ => RK.refl⟩

/-- Room. -/
theorem r18 (b cap : Nat) (l : List D) (hc : cap ≤ 1000) (hl : l.length ≤ 1000) : Runs Try.prog 18 [.ptr b 0] [(b, [.line cap l])] (.d (.int .i64 ((cap : Int) - l.length))) [(b, [.line cap l])] := by
  refine ⟨ok18, fun Γ ρ bl vals w h hz => ?_⟩
  obtain ⟨g, buf, s, r, e, k1, k2, k3, k4, k5, k6, k7⟩ := h.line (b := b) (cap := cap) (l := l) (by simp [St.bx])
  rw [one_val h]
  refine (LW.room18 w (bl b) g cap s r buf k2 k3 hc (by omega)).mono ?_
  rintro e' w' ⟨rfl, n, rfl⟩
  rw [k6]
  have h2 : SR Γ ρ bl ⟨[.ptr b 0], [(b, [.line cap l])]⟩ vals (w.drewN n) := h.world (Nat.le_refl _) fun _ _ => rfl
  exact ⟨_, _, _, _, rfl, h2.result (.int _ _) (fun _ h => h.elim), ⟨.refl _, Nat.le_refl _, rfl, rfl, rfl, fun _ _ h => ⟨rfl, h⟩, fun _ _ h => .inl h⟩, fun _ _ _ => RK.refl⟩

/-- New. -/
theorem r8 (b : Nat) (most : Int) (n : Nat) (hn : (n : Int) = min (max most 0) 1000) : Runs Try.prog 8 [.d (.int .i64 most)] [] (.ptr b 0) [(b, [.line n []])] := by
  refine ⟨ok8, fun Γ ρ bl vals w h hz => ?_⟩
  obtain ⟨v0, hv0, hr0⟩ := h.slots 0 _ rfl
  have hr0 : v0 = .int .i64 most := rep_int hr0
  have hvals : vals = #[.int .i64 most] := by
    have hl : vals.size = 1 := h.len
    subst hr0
    exact Array.ext (by simp [hl]) fun i h1 h2 => by
      simp at h2
      subst h2
      have := Array.getElem?_eq_getElem h1; rw [hv0] at this; simpa using this.symm
  subst hvals
  refine (LW.new8 most n hn w).mono ?_
  rintro e' w' ⟨rfl, rfl⟩
  obtain ⟨ρ', bl', h2, f2, hb, hk⟩ := h.newLine (b := b) (by simp [St.bx]) n 46
  have hst : (⟨[.d (.int .i64 most)], []⟩ : St).set (.b b) (.agg [.line n []]) = ⟨[.d (.int .i64 most)], [(b, [.line n []])]⟩ := by simp [St.set, setB]
  rw [hst] at h2
  exact ⟨_, _, _, _, rfl, h2.result (res := .ptr b 0) (by show _ = _; rw [hb]) (fun k hm => by have hm : b = k := hm; subst hm; simp), f2.to0, fun k hk => by cases hk⟩

theorem ok13 : CallOk Try.prog 13 := ⟨Try.f13, Try.func13, rfl, rfl⟩
theorem ok14 : CallOk Try.prog 14 := ⟨Try.f14, Try.func14, rfl, rfl⟩
theorem ok16 : CallOk Try.prog 16 := ⟨Try.f16, Try.func16, rfl, rfl⟩
theorem ok17 : CallOk Try.prog 17 := ⟨Try.f17, Try.func17, rfl, rfl⟩
theorem ok12 : CallOk Try.prog 12 := ⟨Try.f12, Try.func12, rfl, rfl⟩

/-- Put. -/
theorem r13 (b cap : Nat) (l : List D) (x : D) : Runs Try.prog 13 [.ptr b 0, .d x] [(b, [.line cap l])] (.d (.bool (decide (l.length < cap)))) [(b, [.line cap (if l.length < cap then l ++ [x] else l)])] := by
  refine ⟨ok13, fun Γ ρ bl vals w h hz => ?_⟩
  obtain ⟨g, buf, s, r, e, k1, k2, k3, k4, k5, k6, k7⟩ := h.line (b := b) (cap := cap) (l := l) (by simp [St.bx])
  obtain ⟨v0, hv0, hr0⟩ := h.slots 0 _ rfl
  obtain ⟨v1, hv1, hr1⟩ := h.slots 1 _ rfl
  have hr0 : v0 = .pointer (some ⟨bl b, 0, none⟩) := hr0
  have hr1 : Rep Γ x v1 := hr1
  have hvals : vals = #[.pointer (some ⟨bl b, 0, none⟩), v1] := by
    have hl : vals.size = 2 := h.len
    subst hr0
    exact Array.ext (by simp [hl]) fun i h1 h2 => by
      simp at h2
      match i, h2 with
      | 0, _ => have := Array.getElem?_eq_getElem h1; rw [hv0] at this; simpa using this.symm
      | 1, _ => have := Array.getElem?_eq_getElem h1; rw [hv1] at this; simpa using this.symm
  rw [hvals]
  by_cases hr : l.length < cap
  · refine (LW.put13_room w (bl b) g cap s r v1 buf k2 k3 (by omega)).mono ?_
    rintro e' w' ⟨rfl, rfl⟩
    obtain ⟨h2, f2⟩ := h.setLine (cap := cap) (l := l) (l' := l ++ [x]) (buf' := buf.push v1) (s' := s + 1) (r' := r) (by simp [St.bx]) k1 k4 k5 (by simp [k6]) (fun k d u hd hu => by
      by_cases hk : k < l.length
      · rw [List.getElem?_append_left hk] at hd
        rw [Array.getElem?_push_lt (by omega)] at hu
        exact k7 k d u hd (by rw [Array.getElem?_eq_getElem (by omega)]; exact hu)
      · have hk2 : k = l.length := by
          have := (List.getElem?_eq_some_iff.1 hd).1
          simp at this; omega
        subst hk2
        simp at hd; subst hd
        rw [← k6] at hu; simp at hu; subst hu
        exact hr1)
    rw [setB_one] at h2
    rw [if_pos hr, decide_eq_true hr]
    exact ⟨_, _, _, _, rfl, h2.result (.bool true) (fun _ h => h.elim), f2.to0, fun _ _ _ => RK.refl⟩
  · refine (LW.put13_full w (bl b) g cap s r v1 buf k2 k3 (by omega)).mono ?_
    rintro e' w' ⟨rfl, rfl⟩
    rw [if_neg hr, decide_eq_false hr]
    exact ⟨_, _, _, _, rfl, h.result (.bool false) (fun _ h => h.elim), (Fr.refl _ _ _).to0, fun _ _ _ => RK.refl⟩

/-- Take. -/
theorem r14_some (b cap : Nat) (x : D) (l : List D) : Runs Try.prog 14 [.ptr b 0] [(b, [.line cap (x :: l)])] (.tup [.d x, .d (.bool true)]) [(b, [.line cap l])] := by
  refine ⟨ok14, fun Γ ρ bl vals w h hz => ?_⟩
  obtain ⟨g, buf, s, r, e, k1, k2, k3, k4, k5, k6, k7⟩ := h.line (b := b) (cap := cap) (l := x :: l) (by simp [St.bx])
  rw [one_val h]
  have hb0 : 0 < buf.size := by rw [k6]; simp
  have hx : Rep Γ x (buf.getD 0 undef) := k7 0 x _ rfl (by simp [Array.getD, hb0])
  refine (LW.take14_some w (bl b) g cap s r buf k2 k3 hb0).mono ?_
  rintro e' w' ⟨rfl, rfl⟩
  obtain ⟨h2, f2⟩ := h.setLine (cap := cap) (l := x :: l) (l' := l) (buf' := buf.extract 1 buf.size) (s' := s) (r' := r + 1) (by simp [St.bx]) k1 k4 k5 (by simp at k6 ⊢; omega) (fun k d u hd hu => by
    refine k7 (k + 1) d u (by simpa using hd) ?_
    rw [Array.getElem?_extract] at hu
    split at hu
    · rw [← hu, Nat.add_comm]
    · cases hu)
  rw [setB_one] at h2
  refine ⟨_, _, _, _, rfl, h2.result (res := .tup [.d x, .d (.bool true)]) ⟨[buf.getD 0 undef, .bool true], rfl, rfl, fun i c v hc hv => ?_⟩ (fun b hb => ?_), f2.to0, fun _ _ _ => RK.refl⟩
  · match i with
    | 0 => simp at hc hv; subst hc; subst hv; exact (by simpa using hx : Rep Γ x (buf[0]?.getD undef))
    | 1 => simp at hc hv; subst hc; subst hv; exact Rep.bool true
    | k + 2 => simp at hc
  · obtain ⟨c, hc, hm⟩ := hb
    simp at hc
    rcases hc with rfl | rfl <;> exact hm.elim
theorem r14_none (b cap : Nat) : Runs Try.prog 14 [.ptr b 0] [(b, [.line cap []])] (.tup [.d (.int .i64 0), .d (.bool false)]) [(b, [.line cap []])] := by
  refine ⟨ok14, fun Γ ρ bl vals w h hz => ?_⟩
  obtain ⟨g, buf, s, r, e, k1, k2, k3, k4, k5, k6, k7⟩ := h.line (b := b) (cap := cap) (l := []) (by simp [St.bx])
  rw [one_val h]
  obtain rfl : buf = #[] := by simpa using k6
  refine (LW.take14_none w (bl b) g cap s r k2 k3).mono ?_
  rintro e' w' ⟨rfl, rfl⟩
  refine ⟨_, _, _, _, rfl, h.result (res := .tup [.d (.int .i64 0), .d (.bool false)]) ⟨[.int .i64 0, .bool false], rfl, rfl, fun i c v hc hv => ?_⟩ (fun b hb => ?_), (Fr.refl _ _ _).to0, fun _ _ _ => RK.refl⟩
  · match i with
    | 0 => simp at hc hv; subst hc; subst hv; exact Rep.int _ _
    | 1 => simp at hc hv; subst hc; subst hv; exact Rep.bool false
    | k + 2 => simp at hc
  · obtain ⟨c, hc, hm⟩ := hb
    simp at hc
    rcases hc with rfl | rfl <;> exact hm.elim

/-- Len. -/
theorem r16 (b cap : Nat) (l : List D) : Runs Try.prog 16 [.ptr b 0] [(b, [.line cap l])] (.d (.int .i64 l.length)) [(b, [.line cap l])] := by
  refine ⟨ok16, fun Γ ρ bl vals w h hz => ?_⟩
  obtain ⟨g, buf, s, r, e, k1, k2, k3, k4, k5, k6, k7⟩ := h.line (b := b) (cap := cap) (l := l) (by simp [St.bx])
  rw [one_val h]
  refine (LW.len16 w (bl b) g cap s r buf k2 k3).mono ?_
  rintro e' w' ⟨rfl, rfl⟩
  rw [k6]
  exact ⟨_, _, _, _, rfl, h.result (.int _ _) (fun _ h => h.elim), (Fr.refl _ _ _).to0, fun _ _ _ => RK.refl⟩

/-- Room. -/
theorem r17 (b cap : Nat) (l : List D) (hc : cap ≤ 1000) (hl : l.length ≤ 1000) : Runs Try.prog 17 [.ptr b 0] [(b, [.line cap l])] (.d (.int .i64 ((cap : Int) - l.length))) [(b, [.line cap l])] := by
  refine ⟨ok17, fun Γ ρ bl vals w h hz => ?_⟩
  obtain ⟨g, buf, s, r, e, k1, k2, k3, k4, k5, k6, k7⟩ := h.line (b := b) (cap := cap) (l := l) (by simp [St.bx])
  rw [one_val h]
  refine (LW.room17 w (bl b) g cap s r buf k2 k3 hc (by omega)).mono ?_
  rintro e' w' ⟨rfl, n, rfl⟩
  rw [k6]
  have h2 : SR Γ ρ bl ⟨[.ptr b 0], [(b, [.line cap l])]⟩ vals (w.drewN n) := h.world (Nat.le_refl _) fun _ _ => rfl
  exact ⟨_, _, _, _, rfl, h2.result (.int _ _) (fun _ h => h.elim), ⟨.refl _, Nat.le_refl _, rfl, rfl, rfl, fun _ _ h => ⟨rfl, h⟩, fun _ _ h => .inl h⟩, fun _ _ _ => RK.refl⟩

/-- New. -/
theorem r12 (b : Nat) (most : Int) (n : Nat) (hn : (n : Int) = min (max most 0) 1000) : Runs Try.prog 12 [.d (.int .i64 most)] [] (.ptr b 0) [(b, [.line n []])] := by
  refine ⟨ok12, fun Γ ρ bl vals w h hz => ?_⟩
  obtain ⟨v0, hv0, hr0⟩ := h.slots 0 _ rfl
  have hr0 : v0 = .int .i64 most := rep_int hr0
  have hvals : vals = #[.int .i64 most] := by
    have hl : vals.size = 1 := h.len
    subst hr0
    exact Array.ext (by simp [hl]) fun i h1 h2 => by
      simp at h2
      subst h2
      have := Array.getElem?_eq_getElem h1; rw [hv0] at this; simpa using this.symm
  subst hvals
  refine (LW.new12 most n hn w).mono ?_
  rintro e' w' ⟨rfl, rfl⟩
  obtain ⟨ρ', bl', h2, f2, hb, hk⟩ := h.newLine (b := b) (by simp [St.bx]) n 49
  have hst : (⟨[.d (.int .i64 most)], []⟩ : St).set (.b b) (.agg [.line n []]) = ⟨[.d (.int .i64 most)], [(b, [.line n []])]⟩ := by simp [St.set, setB]
  rw [hst] at h2
  exact ⟨_, _, _, _, rfl, h2.result (res := .ptr b 0) (by show _ = _; rw [hb]) (fun k hm => by have hm : b = k := hm; subst hm; simp), f2.to0, fun k hk => by cases hk⟩
end B
end Go.Proofs.Ytednbnhaohbnjaa
