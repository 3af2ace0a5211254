/- strings.Builder's WriteString and Grow, on data. No condition. -/
import Derived.Test.YtmkkljbfmdngfaaGreatDoorG2
import Derived.Test.YtmkkljbfmdngfaaGreatDoorKX
import Derived.Test.YtmkkljbfmdngfaaGreatDoorJY
set_option linter.all false
namespace Go.Proofs.YtmkkljbfmdngfaaGreatDoor
namespace B
open Go.RowKit

theorem tup0 (Γ : Froz) (ρ : Nat → Role) (bl : Nat → Nat) (w : World) : RepC Γ ρ bl w (.s 0) (.tup []) (.tuple #[]) := ⟨[], rfl, rfl, fun i c v hc => by simp at hc⟩
theorem tup0_ment (k : Nat) : ¬ (CV.tup []).ment k := by rintro ⟨c, hc, _⟩; cases hc
/-- WriteString. -/
theorem k143 (b : Nat) (f : Bool) (l s : Bytes) (hlen : l.length + s.length ≤ 140737488355328) :
    Runs P 143 [.ptr b 0, .d (.str s)] [(b, [.sp b 167, .bld 5 f l])] (.tup [.d (.int .i64 s.length), .junk]) [(b, [.sp b 167, .bld 5 false (l ++ s)])] := by
  refine ⟨⟨Tryz.f143, Tryz.func143, by kernel_rfl, by kernel_rfl⟩, fun Γ ρ bl vals w h hz => ?_⟩
  obtain ⟨v, u, rfl, hv, hu⟩ := vals2 h
  have hv : v = .pointer (some ⟨bl b, 0, none⟩) := hv
  subst hv
  obtain rfl := rep_str hu
  obtain ⟨v0, v1, k1, k2, k3⟩ := h.bld (bk_bx _ b _)
  have hsz : (⟨s.toArray⟩ : ByteArray).size = s.length := by simp [ByteArray.size]
  refine (NT.write w (bl b) v0 v1 l ⟨s.toArray⟩ k1 k2 k3.2.1 (ownF_ne k3.2.1 k1) (by rw [hsz]; exact hlen)).mono ?_
  rintro e w' ⟨rfl, v', hw⟩
  obtain ⟨ρ', h2, f2⟩ := h.bldSet (f' := false) (l' := l ++ s) k1 k3 hw.size hw.os hw.tape hw.output (fun k q1 q2 q3 => hw.block k q1 q2 q3) hw.box (.inr rfl) (fun e => by cases e) (by simpa using hw.row) hw.own
  refine ⟨_, _, _, _, rfl, h2.result (res := .tup [.d (.int .i64 s.length), .junk]) ⟨[_, _], rfl, rfl, fun i c v hc hv => ?_⟩ (fun k hk => ?_), f2.to0, h.rkb rfl _⟩
  · match i with
    | 0 => simp at hc hv; subst hc; subst hv; rw [hsz]; exact Rep.int _ _
    | 1 => simp at hc; subst hc; trivial
    | i + 2 => simp at hc
  · obtain ⟨c, hc, hm⟩ := hk
    simp at hc
    rcases hc with rfl | rfl <;> exact hm.elim

/-- Grow. -/
theorem k142 (b n : Nat) (hn : n ≤ 140737488355328) : Runs P 142 [.ptr b 0, .d (.int .i64 n)] [(b, [.sp b 167, .bld 5 true []])] (.tup []) [(b, [.sp b 167, .bld 5 false []])] := by
  refine ⟨⟨Tryz.f142, Tryz.func142, by kernel_rfl, by kernel_rfl⟩, fun Γ ρ bl vals w h hz => ?_⟩
  obtain ⟨v, u, rfl, hv, hu⟩ := vals2 h
  have hv : v = .pointer (some ⟨bl b, 0, none⟩) := hv
  subst hv
  obtain rfl := rep_int hu
  obtain ⟨v0, v1, k1, k2, k3⟩ := h.bld (bk_bx _ b _)
  have hv1 : v1 = .slice none 0 0 := k3.1 rfl
  have k1' := k1
  rw [hv1] at k1'
  refine (NT.Grow w (bl b) n v0 k1' k2 hn).mono ?_
  rintro e w' ⟨rfl, v', hw⟩
  rw [← hv1] at hw
  obtain ⟨ρ', h2, f2⟩ := h.bldSet (f' := false) (l' := []) k1 k3 hw.size hw.os hw.tape hw.output (fun k q1 q2 q3 => hw.block k q1 q2 q3) hw.box (.inr rfl) (fun e => by cases e) hw.row hw.own
  exact ⟨_, _, _, _, rfl, h2.result (tup0 _ _ _ _) (fun k hk => (tup0_ment k hk).elim), f2.to0, h.rkb rfl _⟩
end B
end Go.Proofs.YtmkkljbfmdngfaaGreatDoor

namespace Go.Proofs.YtmkkljbfmdngfaaGreatDoor
namespace B
open Go.RowKit

theorem getD_str (l : List Bytes) (i : Nat) (h : i < l.length) : (l.map D.str).getD (i : Int).toNat .nilp = .str l[i] := by
  simp [List.getD_eq_getElem?_getD, h]
/-- Texts, with another one between. -/
def joinB (sep : Bytes) : List Bytes → Bytes
  | [] => []
  | s :: r => s ++ r.flatMap fun x => sep ++ x
def sizes (l : List Bytes) : Nat := (l.map List.length).sum
theorem sizes_take {l : List Bytes} {i : Nat} (h : i < l.length) : sizes (l.take (i + 1)) = sizes (l.take i) + l[i].length := by
  unfold sizes
  rw [List.take_succ_eq_append_getElem h, List.map_append, List.sum_append]; simp
theorem sizes_le (l : List Bytes) (i : Nat) : sizes (l.take i) ≤ sizes l := by
  unfold sizes
  conv => rhs; rw [← List.take_append_drop i l, List.map_append, List.sum_append]
  omega
theorem join_len (sep : Bytes) (l : List Bytes) : (l.flatMap fun x => sep ++ x).length = sep.length * l.length + sizes l := by
  induction l with
  | nil => simp [sizes]
  | cons x r ih =>
    simp only [sizes, List.flatMap_cons, List.length_append, List.length_cons, List.map_cons, List.sum_cons] at *
    rw [ih, Nat.mul_add]; omega

/-- Join. -/
theorem k105 (sep : Bytes) (l : List Bytes) (hs : 0 < sep.length) (hb : sep.length * l.length + sizes l ≤ 1099511627776) : Runs P 105 [.d (.slice 1 (l.map .str)), .d (.str sep)] [] (.d (.str (joinB sep l))) [] := by
  refine runs_walkZ zt105 (zvc105 _ _ _ _) rfl (by simp) ?_
  have hll : l.length ≤ 1099511627776 := by
    have : l.length ≤ sep.length * l.length := Nat.le_mul_of_pos_left _ hs
    omega
  have hsl : l ≠ [] → sep.length ≤ 1099511627776 := fun h => by
    have : sep.length ≤ sep.length * l.length := Nat.le_mul_of_pos_right _ (List.length_pos_iff.2 h)
    omega
  refine ⟨fun h => ?_, fun h0 => ⟨fun h => ?_, fun h1 => ⟨fun _ => ?_, fun h => ?_⟩⟩⟩
  · have : l = [] := by simpa [nI] using h
    subst this; exact end0 rfl rfl
  · match l, h with
    | [s], _ => exact ⟨by simp [nI], s, rfl, end0 (by simp [joinB]) rfl⟩
    | [], h => simp [nI] at h
    | _ :: _ :: _, h => simp [nI] at h; omega
  · match l, h0, h1, hb, hll, hsl with
    | [], h0, _, _, _, _ => simp [nI] at h0
    | [s], _, h1, _, _, _ => simp [nI] at h1
    | s :: x :: r, h0, h1, hb, hll, hsl =>
      have hsep := hsl (by simp)
      generalize hl : s :: x :: r = l at *
      have h2 : 2 ≤ l.length := by rw [← hl]; simp
      rintro n3 hn3
      have hn3 : n3 = (l.length : Int) - 1 := by rw [← hn3, W64 (by simp [nI]; omega) (by simp [nI]; omega)]; simp [nI]
      refine ⟨by omega, ?_⟩
      rintro n4 hn4
      have hq : (9223372036854775807 : Int).tdiv n3 = 9223372036854775807 / n3 := Int.tdiv_eq_ediv_of_nonneg (by omega)
      have hq1 : (0 : Int) ≤ 9223372036854775807 / n3 := Int.ediv_nonneg (by omega) (by omega)
      have hq2 : (9223372036854775807 : Int) / n3 ≤ 9223372036854775807 := Int.ediv_le_self _ (by omega)
      have hn4 : n4 = 9223372036854775807 / n3 := by rw [← hn4, hq, W64 (by omega) (by omega)]
      have hmul : (sep.length : Int) * n3 ≤ 1099511627776 := by
        have e1 : sep.length * (l.length - 1) ≤ sep.length * l.length := Nat.mul_le_mul_left _ (by omega)
        have e2 : n3 = ((l.length - 1 : Nat) : Int) := by omega
        rw [e2]
        have e3 : ((sep.length * (l.length - 1) : Nat) : Int) ≤ 1099511627776 := by omega
        simpa using e3
      refine ⟨fun hbig => ?_, fun _ => ?_⟩
      · have hbig := of_decide_eq_true hbig
        simp only [nI] at hbig
        have : (9223372036854775807 : Int) / n3 ≤ sep.length := by rw [← hn4]; exact hbig
        have h5 : (9223372036854775807 : Int) < (sep.length + 1) * n3 := by
          have := Int.lt_mul_of_ediv_lt (a := 9223372036854775807) (b := sep.length + 1) (c := n3) (by omega) (by omega)
          exact this
        rw [Int.add_mul] at h5
        omega
      rintro _ rfl
      rw [W64 (n := nI (l.map D.str).length - 1) (by simp [nI]; omega) (by simp [nI]; omega)]
      rintro n6 hn6
      have hn6 : n6 = (sep.length : Int) * n3 := by
        have e : nI sep.length * (nI (l.map D.str).length - 1) = (sep.length : Int) * n3 := by rw [hn3]; simp [nI]
        rw [← hn6, e, W64 (by have : (0 : Int) ≤ (sep.length : Int) * n3 := Int.mul_nonneg (by omega) (by omega); omega) (by omega)]
      have h6 : (0 : Int) ≤ n6 := by rw [hn6]; exact Int.mul_nonneg (by omega) (by omega)
      rintro n7 hn7
      have hn7 : n7 = n6 := by rw [← hn7, W64 (by omega) (by omega)]; omega
      refine ⟨fun a i k => ∃ i' : Nat, i = i' ∧ i' ≤ l.length ∧ a = n6 + sizes (l.take i') ∧ k = l.length - i', ⟨_, 0, rfl, by omega, by simp [hn7, sizes], rfl⟩, ?_⟩
      rintro _ _ k ⟨i, rfl, hi, rfl, rfl⟩
      have hsz := sizes_le l i
      refine ⟨fun hlt => ?_, fun hge => ?_⟩
      · have hlt : i < l.length := by simp [nI] at hlt; omega
        have hsz1 := sizes_take hlt
        have hsz2 := sizes_le l (i + 1)
        refine ⟨by simp [nI]; omega, l[i], by rw [getD_str _ _ hlt]; rfl, ?_⟩
        rintro _ rfl
        rw [W64 (n := 9223372036854775807 - (n6 + (sizes (l.take i) : Int))) (by omega) (by omega)]
        refine ⟨fun hbig => ?_, fun _ => ?_⟩
        · have := of_decide_eq_true hbig
          simp only [nI] at this; omega
        rintro _ rfl _ rfl
        refine ⟨l.length - (i + 1), by omega, i + 1, ?_, by omega, ?_, rfl⟩
        · rw [W64 (by omega) (by omega)]; rfl
        · rw [W64 (by simp only [nI]; omega) (by simp only [nI]; omega), hsz1]; simp [nI]; omega
      · have hge : i = l.length := by simp [nI] at hge; omega
        subst hge
        rw [List.take_length] at *
        obtain ⟨m, hm⟩ : ∃ m : Nat, n6 + (sizes l : Int) = m := ⟨(n6 + (sizes l : Int)).toNat, by omega⟩
        rw [hm]
        have hfl : ∀ j, (joinB sep (s :: (x :: r).take j)).length ≤ 1099511627776 := by
          intro j
          have h1 := join_len sep ((x :: r).take j)
          have h2 : sizes ((x :: r).take j) ≤ sizes (x :: r) := sizes_le _ _
          have h3 : sizes l = s.length + sizes (x :: r) := by rw [← hl]; simp [sizes]
          have h4 : sep.length * ((x :: r).take j).length ≤ sep.length * l.length := Nat.mul_le_mul_left _ (by rw [← hl]; simp; omega)
          simp only [joinB, List.length_append]
          omega
        refine ⟨_, k142 8 m (by omega), by simp [nI]; omega, s, ?_, _, _, k143 8 false [] s (by have := hfl 0; simp [joinB] at this; simp; omega), ⟨by omega, by simp [nI]; omega, by simp [nI]⟩, ?_⟩
        · rw [← hl]; rfl
        intro l23 hl23
        have hl23 : l23 = (x :: r).map .str := by
          rw [← hl23, show Int.toNat (nI (l.map D.str).length) = (l.map D.str).length by simp only [nI, Int.toNat_natCast], List.take_length, ← hl]; rfl
        subst hl23
        refine ⟨fun i c k => ∃ i' : Nat, i = i' ∧ i' ≤ (x :: r).length ∧ c = joinB sep (s :: (x :: r).take i') ∧ k = (x :: r).length - i', ⟨rfl, _, 0, rfl, by omega, by simp [joinB], rfl⟩, ?_⟩
        rintro _ _ k ⟨i, rfl, hi, rfl, rfl⟩
        have hrl : (x :: r).length < l.length := by rw [← hl]; simp
        refine ⟨fun hlt => ?_, fun hge => ?_⟩
        · have hlt : i < (x :: r).length := by
            have := of_decide_eq_true hlt
            simp only [nI, List.length_map] at this; omega
          have hj : joinB sep (s :: (x :: r).take i) ++ sep ++ (x :: r)[i] = joinB sep (s :: (x :: r).take (i + 1)) := by
            simp only [joinB]
            rw [List.take_succ_eq_append_getElem hlt, List.flatMap_append]
            simp
          have hb1 := hfl (i + 1)
          rw [← hj] at hb1
          simp only [List.length_append] at hb1
          refine ⟨⟨by omega, by simp only [nI, List.length_map]; omega⟩, (x :: r)[i], by rw [getD_str _ _ hlt]; rfl, _, _, k143 8 false _ sep (by omega), _, _, k143 8 false _ _ (by simp only [List.length_append]; omega), ?_⟩
          rintro _ rfl
          refine ⟨rfl, (x :: r).length - (i + 1), by omega, i + 1, ?_, by omega, hj, rfl⟩
          rw [W64 (by omega) (by omega)]; rfl
        · have hge : i = (x :: r).length := by
            have := of_decide_eq_false hge
            simp only [nI, List.length_map] at this; omega
          subst hge
          rw [List.take_length, hl]
          exact ⟨_, _, r159 8 false _, end0 rfl rfl⟩
  · exfalso; have := of_decide_eq_false h; simp only [nI] at this; omega
end B
end Go.Proofs.YtmkkljbfmdngfaaGreatDoor
