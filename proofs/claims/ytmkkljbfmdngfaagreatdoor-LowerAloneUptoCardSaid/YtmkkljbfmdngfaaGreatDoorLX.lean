/- box.Copy and lower.Project, walked: what is new in memory. Conditions: sizes. -/
import Derived.Test.YtmkkljbfmdngfaaGreatDoorRs
import Derived.Test.YtmkkljbfmdngfaaGreatDoorSo
import Derived.Test.YtmkkljbfmdngfaaGreatDoorB30
import Derived.Deep.CutRange
import Derived.Deep.DeepCutAuto
import Derived.Deep.RegionWith
import Derived.Deep.RegionHeld3
set_option linter.all false
namespace Go.Proofs.YtmkkljbfmdngfaaGreatDoor
namespace LA
open Go.RowKit Go.Shelf Go.Lib Go.Sort
theorem info_of {t : TypeId} {n b : Nat} {z : Value} (h : (Tryz.prog.info? t).map (fun i => (i.size, i.bytes)) = some (n, b)) (hz : (Tryz.prog.info? t).map (fun i => i.zero) = some (some z)) : ∃ i0, Tryz.prog.info? t = some i0 ∧ i0.zero = some z ∧ i0.size = n ∧ i0.bytes = b := by
  cases e : Tryz.prog.info? t with
  | none => rw [e] at h; cases h
  | some i => rw [e] at h hz; simp at h hz; exact ⟨i, rfl, hz, h.1, h.2⟩
theorem info3 : ∃ i0, Tryz.prog.info? 3 = some i0 ∧ i0.zero = some (.int .i64 0) ∧ i0.size = 1 ∧ i0.bytes = 8 := info_of (by kernel_rfl) (by kernel_rfl)
theorem info9 : ∃ i0, Tryz.prog.info? 9 = some i0 ∧ i0.zero = some (.string .empty) ∧ i0.size = 1 ∧ i0.bytes = 16 := info_of (by kernel_rfl) (by kernel_rfl)
abbrev zeroMsg : Array Value := #[.int .i64 0, .int .i64 0, .int .i64 0, .string .empty, .int .i64 0, .slice none 0 0, .string .empty]
theorem info44 : ∃ i0, Tryz.prog.info? 44 = some i0 ∧ i0.zero = some (.agg zeroMsg) ∧ i0.size = 7 ∧ i0.bytes = 88 := info_of (by kernel_rfl) (by kernel_rfl)
/-- A slice whose cells are these. -/
def SlV (w : World) (v : Value) (n : Nat) (xs : List Value) : Prop := ∃ ao c, v = .slice ao n c ∧ (ao = none → xs = []) ∧ ∀ a, ao = some a → ∀ (j : Nat) u, xs[j]? = some u → w.cell? (a.add j) = some u
theorem SlV.below {w w' : World} {v : Value} {n : Nat} {xs : List Value} (h : SlV w v n xs) (hb : Below w.heap.size w w') : SlV w' v n xs := by
  obtain ⟨ao, c, h1, h2, h3⟩ := h
  refine ⟨ao, c, h1, h2, fun a ha j u hu => ?_⟩
  have := h3 a ha j u hu
  rw [World.cell?_of_block (hb.block _ (block_lt_of_cell this))]; exact this
theorem ownsRow_low {w : World} {a b e sz n : Nat} {v : Value} {xs : List Value} (h : w.ownsRow b e sz v n xs) (hab : a ≤ b) : w.ownsRow a e sz v n xs := by
  refine ⟨h.1, ?_⟩
  rcases h.2 with h2 | ⟨g, cap, cur, h1, h3, h4⟩
  · exact .inl h2
  · exact .inr ⟨g, cap, cur, h1, by omega, h4⟩
theorem ownsRow_below {w w' : World} {b e sz n m : Nat} {v : Value} {xs : List Value} (h : w.ownsRow b e sz v n xs) (hb : Below m w w') (hm : ∀ g, v.ownBlock = some g → g < m) : w'.ownsRow b e sz v n xs := by
  refine ⟨h.1, ?_⟩
  rcases h.2 with h2 | ⟨g, cap, cur, h1, h3, h4, h5⟩
  · exact .inl h2
  · exact .inr ⟨g, cap, cur, h1, h3, (hb.block g (hm g (by rw [h1]; rfl))).trans h4, h5⟩
theorem clone101 {w : World} {v : Value} {n : Nat} {xs : List Value} (h : SlV w v n xs) (hl : xs.length = n) (hn : n ≤ 1099511627776) (h1 : ∀ u ∈ xs, u.oneCell' = true) :
    Calls Tryz.prog 101 #[v] w fun e w' => ∃ v', e = .returned v' ∧ w'.ownsRow w.heap.size 9 1 v' n xs ∧ Below w.heap.size w w' := by
  obtain ⟨i0, q1, q2, q3, q4⟩ := info9
  obtain ⟨ao, c, rfl, h2, h3⟩ := h
  cases ao with
  | none =>
    refine (AnyE.slices_Clone_nil Tryz.laysC118 n c w).mono ?_
    rintro e w' ⟨rfl, rfl⟩
    have hx := h2 rfl
    subst hx
    exact ⟨_, rfl, ⟨by simpa using hl, .inl ⟨rfl, by simpa using hl.symm⟩⟩, Below.refl _ _⟩
  | some a =>
    refine (SD.slices_CloneA Tryz.laysC118 i0 _ 1 16 q1 q2 q3 q4 rfl (by decide) Tryz.sizeOf9 a n c xs w (by omega) (by unfold maxLen; omega) (by omega) (h3 a rfl) h1).mono ?_
    rintro e w' ⟨v', rfl, ho, _, hb⟩
    exact ⟨v', rfl, ho, hb⟩
theorem clone85 {w : World} {v : Value} {n : Nat} {xs : List Value} (h : SlV w v n xs) (hl : xs.length = n) (hn : n ≤ 1099511627776) (h1 : ∀ u ∈ xs, u.oneCell' = true) :
    Calls Tryz.prog 85 #[v] w fun e w' => ∃ v', e = .returned v' ∧ w'.ownsRow w.heap.size 3 1 v' n xs ∧ Below w.heap.size w w' := by
  obtain ⟨i0, q1, q2, q3, q4⟩ := info3
  obtain ⟨ao, c, rfl, h2, h3⟩ := h
  cases ao with
  | none =>
    refine (AnyE.slices_Clone_nil Tryz.laysC82 n c w).mono ?_
    rintro e w' ⟨rfl, rfl⟩
    have hx := h2 rfl
    subst hx
    exact ⟨_, rfl, ⟨by simpa using hl, .inl ⟨rfl, by simpa using hl.symm⟩⟩, Below.refl _ _⟩
  | some a =>
    refine (SD.slices_CloneA Tryz.laysC82 i0 _ 1 8 q1 q2 q3 q4 rfl (by decide) Tryz.sizeOf3 a n c xs w (by omega) (by unfold maxLen; omega) (by omega) (h3 a rfl) h1).mono ?_
    rintro e w' ⟨v', rfl, ho, _, hb⟩
    exact ⟨v', rfl, ho, hb⟩
theorem clone102 {w : World} {v : Value} {n : Nat} {xs : List Value} (h : SlV w v n xs) (hl : xs.length = n * 7) (hn : n ≤ 1099511627776) (h1 : ∀ u ∈ xs, u.oneCell' = true) :
    Calls Tryz.prog 102 #[v] w fun e w' => ∃ v', e = .returned v' ∧ w'.ownsRow w.heap.size 44 7 v' n xs ∧ Below w.heap.size w w' := by
  obtain ⟨i0, q1, q2, q3, q4⟩ := info44
  obtain ⟨ao, c, rfl, h2, h3⟩ := h
  cases ao with
  | none =>
    refine (AnyE.slices_Clone_nil Tryz.laysC119 n c w).mono ?_
    rintro e w' ⟨rfl, rfl⟩
    have hx := h2 rfl
    subst hx
    exact ⟨_, rfl, ⟨by simpa using hl, .inl ⟨rfl, by simp at hl; omega⟩⟩, Below.refl _ _⟩
  | some a =>
    refine (SD.slices_CloneA Tryz.laysC119 i0 _ 7 88 q1 q2 q3 q4 rfl (by decide) Tryz.sizeOf44 a n c xs w (by omega) (by unfold maxLen; omega) (by omega) (h3 a rfl) h1).mono ?_
    rintro e w' ⟨v', rfl, ho, _, hb⟩
    exact ⟨v', rfl, ho, hb⟩
end LA
end Go.Proofs.YtmkkljbfmdngfaaGreatDoor

namespace Go.Proofs.YtmkkljbfmdngfaaGreatDoor
namespace LA
open Go.RowKit Go.Shelf Go.Lib Go.Sort

structure Fit (w : World) (ws ms : Value) (nw nm : Nat) (xw xm : List Value) (kn : Nat → Nat) (kx : Nat → List Value) : Prop where
  sw : SlV w ws nw xw
  sm : SlV w ms nm xm
  lw : xw.length = nw
  lm : xm.length = nm * 7
  hw : nw ≤ 1099511627776
  hm : nm ≤ 1099511627776
  ow : ∀ u ∈ xw, u.oneCell' = true
  om : ∀ u ∈ xm, u.oneCell' = true
  keys : ∀ j, j < nm → ∃ kv, xm[j * 7 + 5]? = some kv ∧ SlV w kv (kn j) (kx j) ∧ (kx j).length = kn j ∧ kn j ≤ 1099511627776 ∧ ∀ u ∈ kx j, u.oneCell' = true
abbrev boxObj (i0 i1 i2 i3 ws ms : Value) : Obj := .cells #[i0, i1, i2, i3, ws, ms] 25
abbrev zeroBox : Obj := .cells #[.string .empty, .int .i64 0, .int .i64 0, .int .i64 0, .slice none 0 0, .slice none 0 0] 25

theorem row_form {w : World} {b e sz n : Nat} {v : Value} {xs : List Value} (h : w.ownsRow b e sz v n xs) : ∃ ao c, v = .slice ao n c := by
  rcases h.2 with ⟨h2, h3⟩ | ⟨g, cap, cur, h1, _⟩
  · exact ⟨none, 0, by rw [h2, h3]⟩
  · exact ⟨_, _, h1⟩
theorem after2 {w wa : World} {o o' : Obj} (hb : Below (((w.alloc o).alloc o').drew).heap.size (((w.alloc o).alloc o').drew) wa) : wa.heap[w.heap.size]? = some o ∧ wa.heap[w.heap.size + 1]? = some o' ∧ w.heap.size + 2 ≤ wa.heap.size ∧ Below w.heap.size w wa := by
  have hs : (((w.alloc o).alloc o').drew).heap.size = w.heap.size + 2 := by simp
  have hB : Below w.heap.size w (((w.alloc o).alloc o').drew) := (((Below.refl _ _).alloc (Nat.le_refl _) o).alloc (by simp) o').drew
  refine ⟨?_, ?_, ?_, ?_⟩
  · rw [hb.block _ (by rw [hs]; omega)]
    show ((w.alloc o).alloc o').heap[w.heap.size]? = some o
    rw [heap_alloc_old _ _ (by simp)]; exact heap_alloc_new w o
  · rw [hb.block _ (by rw [hs]; omega)]
    show ((w.alloc o).alloc o').heap[w.heap.size + 1]? = some o'
    have := heap_alloc_new (w.alloc o) o'
    simpa using this
  · have := hb.size; omega
  · exact hB.trans (hb.mono (by rw [hs]; omega))
theorem set2 {w : World} {b : Nat} {i0 i1 i2 i3 ws ms u v : Value} (h : w.heap[b]? = some (boxObj i0 i1 i2 i3 ws ms)) :
    ((w.setCell ⟨b, 4, none⟩ u).setCell ⟨b, 5, none⟩ v).heap[b]? = some (boxObj i0 i1 i2 i3 u v) ∧ (∀ k, k ≠ b → ((w.setCell ⟨b, 4, none⟩ u).setCell ⟨b, 5, none⟩ v).heap[k]? = w.heap[k]?) ∧ ((w.setCell ⟨b, 4, none⟩ u).setCell ⟨b, 5, none⟩ v).heap.size = w.heap.size := by
  refine ⟨by simp [World.setCell, Array.getElem?_modify, h], fun k hk => ?_, by simp [World.setCell]⟩
  simp only [World.setCell, Array.getElem?_modify]
  rw [if_neg (fun e => hk e.symm), if_neg (fun e => hk e.symm)]
theorem own_keep {w w' : World} {a e sz n : Nat} {v : Value} {xs : List Value} (h : w.ownsRow a e sz v n xs) (hs : ∀ g, a ≤ g → w'.heap[g]? = w.heap[g]?) : w'.ownsRow a e sz v n xs := by
  refine ⟨h.1, ?_⟩
  rcases h.2 with h2 | ⟨g, cap, cur, h1, h3, h4, h5⟩
  · exact .inl h2
  · exact .inr ⟨g, cap, cur, h1, h3, (hs g h3).trans h4, h5⟩
theorem own_lt {w : World} {a e sz n : Nat} {v : Value} {xs : List Value} (h : w.ownsRow a e sz v n xs) {g : Nat} (hg : v.ownBlock = some g) : a ≤ g ∧ g < w.heap.size := by
  rcases h.2 with ⟨h2, _⟩ | ⟨g', cap, cur, h1, h3, h4, h5⟩
  · rw [h2] at hg; simp [Value.ownBlock] at hg
  · rw [h1] at hg
    have : g' = g := by simpa [Value.ownBlock] using hg
    subst this
    exact ⟨h3, (Array.getElem?_eq_some_iff.1 h4).1⟩
theorem own_below {w w' : World} {a e sz n : Nat} {v : Value} {xs : List Value} (h : w.ownsRow a e sz v n xs) (hb : Below w.heap.size w w') : w'.ownsRow a e sz v n xs := ownsRow_below h hb fun g hg => (own_lt h hg).2
/-- Both are new, one behind the other. -/
theorem meet {w W0 wa wc : World} {e1 zq1 l1 e2 zq2 l2 : Nat} {v1 v2 u v i0 i1 i2 i3 ws ms : Value} {x1 x2 : List Value} (hs : W0.heap.size = w.heap.size + 2) (h0 : Below w.heap.size w W0)
    (h1 : wa.ownsRow W0.heap.size e1 zq1 v1 l1 x1) (hba : Below W0.heap.size W0 wa) (h2 : wc.ownsRow wa.heap.size e2 zq2 v2 l2 x2) (hbc : Below wa.heap.size wa wc)
    (kc1 : wc.heap[w.heap.size]? = some (boxObj i0 i1 i2 i3 ws ms)) (kc2 : wc.heap[w.heap.size + 1]? = some zeroBox) :
    ((wc.setCell ⟨w.heap.size, 4, none⟩ u).setCell ⟨w.heap.size, 5, none⟩ v).heap[w.heap.size]? = some (boxObj i0 i1 i2 i3 u v) ∧ ((wc.setCell ⟨w.heap.size, 4, none⟩ u).setCell ⟨w.heap.size, 5, none⟩ v).heap[w.heap.size + 1]? = some zeroBox ∧
    ((wc.setCell ⟨w.heap.size, 4, none⟩ u).setCell ⟨w.heap.size, 5, none⟩ v).ownsRow (w.heap.size + 2) e1 zq1 v1 l1 x1 ∧ ((wc.setCell ⟨w.heap.size, 4, none⟩ u).setCell ⟨w.heap.size, 5, none⟩ v).ownsRow (w.heap.size + 2) e2 zq2 v2 l2 x2 ∧
    (∀ g, v1.ownBlock = some g → v2.ownBlock ≠ some g) ∧ Below w.heap.size w ((wc.setCell ⟨w.heap.size, 4, none⟩ u).setCell ⟨w.heap.size, 5, none⟩ v) := by
  obtain ⟨k1, k2, k3⟩ := set2 (u := u) (v := v) kc1
  have q1 := hba.size
  have q2 := hbc.size
  refine ⟨k1, (k2 _ (by omega)).trans kc2, own_keep (ownsRow_low (own_below h1 hbc) (by omega)) fun g hg => k2 g (by omega), own_keep (ownsRow_low h2 (by omega)) fun g hg => k2 g (by omega), fun g hg hg' => ?_, ?_⟩
  · have a1 := (own_lt h1 hg).2
    have a2 := (own_lt h2 hg').1
    omega
  · have hw : Below w.heap.size w wc := (h0.trans (hba.mono (by omega))).trans (hbc.mono (by omega))
    exact ⟨hw.os, hw.tape, hw.output, by rw [k3]; exact hw.size, fun k hk => (k2 k (by omega)).trans (hw.block k hk)⟩
theorem facts {w : World} {b : Nat} {i0 i1 i2 i3 ws ms : Value} (h : w.heap[b]? = some (boxObj i0 i1 i2 i3 ws ms)) :
    w.cell? ⟨b, 4, none⟩ = some ws ∧ w.cell? ⟨b, 5, none⟩ = some ms ∧ w.frozen? ⟨b, 4, none⟩ = false ∧ w.frozen? ⟨b, 5, none⟩ = false :=
  ⟨by rw [Lib.cell_of_heap h]; rfl, by rw [Lib.cell_of_heap h]; rfl, Lib.frozen_of_heap h 4, Lib.frozen_of_heap h 5⟩
theorem meas {i nm : Nat} (h : i < nm) : nm - ((i : Int) + 1).toNat < nm - (i : Int).toNat := by omega
theorem facts6 {w : World} {b : Nat} {i0 i1 i2 i3 ws ms : Value} (h : w.heap[b]? = some (boxObj i0 i1 i2 i3 ws ms)) :
    w.cell? ⟨b, 0, none⟩ = some i0 ∧ w.cell? ⟨b, 1, none⟩ = some i1 ∧ w.cell? ⟨b, 2, none⟩ = some i2 ∧ w.cell? ⟨b, 3, none⟩ = some i3 ∧ w.cell? ⟨b, 4, none⟩ = some ws ∧ w.cell? ⟨b, 5, none⟩ = some ms :=
  ⟨by rw [Lib.cell_of_heap h]; rfl, by rw [Lib.cell_of_heap h]; rfl, by rw [Lib.cell_of_heap h]; rfl, by rw [Lib.cell_of_heap h]; rfl, by rw [Lib.cell_of_heap h]; rfl, by rw [Lib.cell_of_heap h]; rfl⟩
theorem facts6z {w : World} {b : Nat} (h : w.heap[b]? = some zeroBox) :
    (w.cell? ⟨b, 0, none⟩ = some (.string .empty) ∧ w.cell? ⟨b, 1, none⟩ = some (.int .i64 0) ∧ w.cell? ⟨b, 2, none⟩ = some (.int .i64 0) ∧ w.cell? ⟨b, 3, none⟩ = some (.int .i64 0) ∧ w.cell? ⟨b, 4, none⟩ = some (.slice none 0 0) ∧ w.cell? ⟨b, 5, none⟩ = some (.slice none 0 0)) ∧ w.frozen? ⟨b, 0, none⟩ = false ∧ w.frozen? ⟨b, 1, none⟩ = false ∧ w.frozen? ⟨b, 2, none⟩ = false ∧ w.frozen? ⟨b, 3, none⟩ = false ∧ w.frozen? ⟨b, 4, none⟩ = false ∧ w.frozen? ⟨b, 5, none⟩ = false :=
  ⟨facts6 h, Lib.frozen_of_heap h _, Lib.frozen_of_heap h _, Lib.frozen_of_heap h _, Lib.frozen_of_heap h _, Lib.frozen_of_heap h _, Lib.frozen_of_heap h _⟩
theorem next {wr we : World} {G k e : Nat} {cur : Array Value} {kv : Value} (q : wr.heap[G]? = some (.cells cur e (0, 0))) (hx : cur[k]? = some kv) (hb : Below wr.drew.heap.size wr.drew we) : we.cell? ⟨G, k, none⟩ = some kv ∧ we.frozen? ⟨G, k, none⟩ = false := by
  have h : we.heap[G]? = some (.cells cur e (0, 0)) := (hb.block G (Array.getElem?_eq_some_iff.1 q).1).trans q
  exact ⟨by rw [Lib.cell_of_heap h]; exact hx, Lib.frozen_of_heap h _⟩
/-- While the keys are copied: the first 'i' messages have keys of their own. -/
structure Inv (w wc wr : World) (a1 a2 : Value) (n2 n3 : Int) (ws ms : Value) (nw nm : Nat) (xw xm : List Value) (kn : Nat → Nat) (kx : Nat → List Value) (xs : List Value) (i : Nat) : Prop where
  b1 : wr.heap[w.heap.size]? = some (boxObj a1 a2 (.int .i64 n2) (.int .i64 n3) ws ms)
  b2 : wr.heap[w.heap.size + 1]? = some zeroBox
  wo : wr.ownsRow (w.heap.size + 2) 9 1 ws nw xw
  mo : wr.ownsRow (w.heap.size + 2) 44 7 ms nm xs
  other : ∀ k, k % 7 ≠ 5 → xs[k]? = xm[k]?
  late : ∀ j, i ≤ j → xs[j * 7 + 5]? = xm[j * 7 + 5]?
  own : ∀ j, j < i → ∃ kv, xs[j * 7 + 5]? = some kv ∧ wr.ownsRow wc.heap.size 3 1 kv (kn j) (kx j)
  apart : ∀ j j' kv kv' g, j < j' → j' < i → xs[j * 7 + 5]? = some kv → xs[j' * 7 + 5]? = some kv' → kv.ownBlock = some g → kv'.ownBlock ≠ some g
  wl : ∀ g, ws.ownBlock = some g → g < wc.heap.size
  ml : ∀ g, ms.ownBlock = some g → g < wc.heap.size
  wm : ∀ g, ws.ownBlock = some g → ms.ownBlock ≠ some g
  below : Below w.heap.size w wr
  size : wc.heap.size ≤ wr.heap.size
  base : w.heap.size + 2 ≤ wc.heap.size
theorem Inv.start {w wc : World} {a1 a2 : Value} {n2 n3 : Int} {ws ms : Value} {nw nm : Nat} {xw xm : List Value} (kn : Nat → Nat) (kx : Nat → List Value)
    (k1 : wc.heap[w.heap.size]? = some (boxObj a1 a2 (.int .i64 n2) (.int .i64 n3) ws ms)) (k2 : wc.heap[w.heap.size + 1]? = some zeroBox) (k3 : wc.ownsRow (w.heap.size + 2) 9 1 ws nw xw) (k4 : wc.ownsRow (w.heap.size + 2) 44 7 ms nm xm)
    (k5 : ∀ g, ws.ownBlock = some g → ms.ownBlock ≠ some g) (k6 : Below w.heap.size w wc) : Inv w wc wc a1 a2 n2 n3 ws ms nw nm xw xm kn kx xm 0 := by
  have hlt := (Array.getElem?_eq_some_iff.1 k2).1
  exact ⟨k1, k2, k3, k4, fun _ _ => rfl, fun _ _ => rfl, fun j hj => (by omega), fun j j' kv kv' g h1 h2 => (by omega), fun g hg => (own_lt k3 hg).2, fun g hg => (own_lt k4 hg).2, k5, k6, Nat.le_refl _, by omega⟩
/-- The row of messages, in memory. -/
theorem Inv.real {w wc wr : World} {a1 a2 : Value} {n2 n3 : Int} {ws ms : Value} {nw nm : Nat} {xw xm : List Value} {kn : Nat → Nat} {kx : Nat → List Value} {xs : List Value} {i : Nat} (I : Inv w wc wr a1 a2 n2 n3 ws ms nw nm xw xm kn kx xs i) (hi : i < nm) :
    ∃ G c cur, ms = .slice (some ⟨G, 0, none⟩) nm c ∧ w.heap.size + 2 ≤ G ∧ G < wc.heap.size ∧ wr.heap[G]? = some (.cells cur 44 (0, 0)) ∧ nm ≤ c ∧ c ≤ maxLen ∧ cur.size = c * 7 ∧ cur.toList.take (nm * 7) = xs := by
  rcases I.mo.2 with ⟨h1, h2⟩ | ⟨G, c, cur, h1, h2, h3, h4, h5, h6, h7⟩
  · omega
  · exact ⟨G, c, cur, h1, h2, I.ml G (by rw [h1]; rfl), h3, h4, h5, h6, h7⟩
/-- One message's keys more. -/
theorem Inv.step {w wc wr we : World} {a1 a2 : Value} {n2 n3 : Int} {ws ms kv : Value} {nw nm : Nat} {xw xm : List Value} {kn : Nat → Nat} {kx : Nat → List Value} {xs : List Value} {i G c : Nat} (I : Inv w wc wr a1 a2 n2 n3 ws ms nw nm xw xm kn kx xs i) (hi : i < nm)
    (hms : ms = .slice (some ⟨G, 0, none⟩) nm c) (hG : w.heap.size + 2 ≤ G) (hG2 : G < wc.heap.size) (ho : we.ownsRow wr.heap.size 3 1 kv (kn i) (kx i)) (hb : Below wr.heap.size wr we) :
    Inv w wc (we.setCell ⟨G, i * 7 + 5, none⟩ kv) a1 a2 n2 n3 ws ms nw nm xw xm kn kx (xs.set (i * 7 + 5) kv) (i + 1) := by
  have hsz := I.size
  have hbs := hb.size
  have hbase := I.base
  have hlen : xs.length = nm * 7 := I.mo.1
  have hset : ∀ k, k ≠ G → (we.setCell ⟨G, i * 7 + 5, none⟩ kv).heap[k]? = we.heap[k]? := fun k hk => by
    simp only [World.setCell, Array.getElem?_modify]
    rw [if_neg (fun e => hk e.symm)]
  have hss : (we.setCell ⟨G, i * 7 + 5, none⟩ kv).heap.size = we.heap.size := by simp [World.setCell]
  have old : ∀ k, k < wr.heap.size → k ≠ G → (we.setCell ⟨G, i * 7 + 5, none⟩ kv).heap[k]? = wr.heap[k]? := fun k hk hk' => (hset k hk').trans (hb.block k hk)
  have set_ne : ∀ k, k ≠ i * 7 + 5 → (xs.set (i * 7 + 5) kv)[k]? = xs[k]? := fun k hk => List.getElem?_set_ne (fun e => hk e.symm)
  have set_eq : (xs.set (i * 7 + 5) kv)[i * 7 + 5]? = some kv := by rw [List.getElem?_set_self (by omega)]
  refine ⟨(old _ (by omega) (by omega)).trans I.b1, (old _ (by omega) (by omega)).trans I.b2, ?_, ?_, fun k hk => ?_, fun j hj => ?_, fun j hj => ?_, fun j j' kv1 kv2 g h1 h2 h3 h4 h5 h6 => ?_, I.wl, I.ml, I.wm, ?_, by rw [hss]; omega, hbase⟩
  · refine ⟨I.wo.1, ?_⟩
    rcases I.wo.2 with h | ⟨g, cap, cur, h1, h2, h3, h4⟩
    · exact .inl h
    · have hg := I.wl g (by rw [h1]; rfl)
      have hne : g ≠ G := fun e => I.wm g (by rw [h1]; rfl) (by rw [hms, e]; rfl)
      exact .inr ⟨g, cap, cur, h1, h2, (old g (by omega) hne).trans h3, h4⟩
  · rcases I.mo.2 with ⟨h, h0⟩ | ⟨g, cap, cur, h1, h2, h3, h4, h5, h6, h7⟩
    · omega
    · rw [hms] at h1
      injection h1 with e1 _ e2
      have e1 : G = g := by simpa using e1
      subst e1; subst e2
      refine ⟨by rw [List.length_set]; exact hlen, .inr ⟨G, c, cur.setIfInBounds (i * 7 + 5) kv, hms, hG, ?_, h4, h5, by simpa using h6, ?_⟩⟩
      · have := (hb.block G (by omega)).trans h3
        simp [World.setCell, Array.getElem?_modify, this]
      · rw [← h7]
        simp only [Array.toList_setIfInBounds]
        rw [List.take_set]
  · rw [set_ne k (by omega)]; exact I.other k hk
  · rw [set_ne _ (by omega)]; exact I.late j (by omega)
  · by_cases e : j = i
    · subst e
      exact ⟨kv, set_eq, own_keep (ownsRow_low ho hsz) fun g hg => hset g (by omega)⟩
    · obtain ⟨kv', h1, h2⟩ := I.own j (by omega)
      exact ⟨kv', (set_ne _ (by omega)).trans h1, own_keep (own_below h2 hb) fun g hg => hset g (by omega)⟩
  · by_cases e : j' = i
    · subst e
      rw [set_eq] at h4; cases h4
      rw [set_ne _ (by omega)] at h3
      obtain ⟨kv', h7, h8⟩ := I.own j h1
      rw [h3] at h7; cases h7
      have p1 := (own_lt h8 h5).2
      have p2 := (own_lt ho h6).1
      omega
    · rw [set_ne _ (by omega)] at h3 h4
      exact I.apart j j' kv1 kv2 g h1 (by omega) h3 h4 h5 h6
  · exact ⟨hb.os.trans I.below.os, hb.tape.trans I.below.tape, hb.output.trans I.below.output, by rw [hss]; omega, fun k hk => by
      rw [old k (by have := I.below.size; omega) (by omega)]; exact I.below.block k hk⟩
theorem Inv.drew {w wc wr : World} {a1 a2 : Value} {n2 n3 : Int} {ws ms : Value} {nw nm : Nat} {xw xm : List Value} {kn : Nat → Nat} {kx : Nat → List Value} {xs : List Value} {i : Nat} (I : Inv w wc wr a1 a2 n2 n3 ws ms nw nm xw xm kn kx xs i) : Inv w wc wr.drew a1 a2 n2 n3 ws ms nw nm xw xm kn kx xs i :=
  ⟨I.b1, I.b2, I.wo, I.mo, I.other, I.late, I.own, I.apart, I.wl, I.ml, I.wm, I.below.drew, I.size, I.base⟩
/-- What Copy leaves: all is new, and apart. -/
structure Done (w w' : World) (ws ms : Value) (nw nm : Nat) (xw xm : List Value) (kn : Nat → Nat) (kx : Nat → List Value) (xs : List Value) : Prop where
  wo : w'.ownsRow w.heap.size 9 1 ws nw xw
  mo : w'.ownsRow w.heap.size 44 7 ms nm xs
  other : ∀ k, k % 7 ≠ 5 → xs[k]? = xm[k]?
  own : ∀ j, j < nm → ∃ kv, xs[j * 7 + 5]? = some kv ∧ w'.ownsRow w.heap.size 3 1 kv (kn j) (kx j)
  apart : ∀ j j' kv kv' g, j < j' → j' < nm → xs[j * 7 + 5]? = some kv → xs[j' * 7 + 5]? = some kv' → kv.ownBlock = some g → kv'.ownBlock ≠ some g
  wm : ∀ g, ws.ownBlock = some g → ms.ownBlock ≠ some g
  km : ∀ j kv g, j < nm → xs[j * 7 + 5]? = some kv → kv.ownBlock = some g → ms.ownBlock ≠ some g ∧ ws.ownBlock ≠ some g
  below : Below w.heap.size w w'
theorem Inv.fin {w wc wr w' : World} {a1 a2 : Value} {n2 n3 : Int} {ws ms : Value} {nw nm : Nat} {xw xm : List Value} {kn : Nat → Nat} {kx : Nat → List Value} {xs : List Value} (I : Inv w wc wr a1 a2 n2 n3 ws ms nw nm xw xm kn kx xs nm)
    (h : ∀ k, k ≠ w.heap.size + 1 → w'.heap[k]? = wr.heap[k]?) (hs : w'.heap.size = wr.heap.size) (h1 : w'.os = wr.os) (h2 : w'.tape = wr.tape) (h3 : w'.output = wr.output) : Done w w' ws ms nw nm xw xm kn kx xs := by
  have hb := I.base
  refine ⟨ownsRow_low (own_keep I.wo fun g hg => h g (by omega)) (by omega), ownsRow_low (own_keep I.mo fun g hg => h g (by omega)) (by omega), I.other, fun j hj => ?_, I.apart, I.wm, fun j kv g hj hx hg => ?_, ?_⟩
  · obtain ⟨kv, q1, q2⟩ := I.own j hj
    exact ⟨kv, q1, ownsRow_low (own_keep q2 fun g hg => h g (by omega)) (by omega)⟩
  · obtain ⟨kv', q1, q2⟩ := I.own j hj
    rw [hx] at q1; cases q1
    have p := (own_lt q2 hg).1
    exact ⟨fun e => by have := I.ml g e; omega, fun e => by have := I.wl g e; omega⟩
  · exact ⟨h1.trans I.below.os, h2.trans I.below.tape, h3.trans I.below.output, by rw [hs]; exact I.below.size, fun k hk => (h k (by omega)).trans (I.below.block k hk)⟩
set_option maxHeartbeats 2000000 in
set_option maxRecDepth 1000000 in
theorem copy_walk (w : World) (id : ByteArray) (n1 n2 n3 : Int) (ws ms : Value) (nw nm : Nat) (xw xm : List Value) (kn : Nat → Nat) (kx : Nat → List Value) (F : Fit w ws ms nw nm xw xm kn kx) :
    Calls Tryz.prog 54 #[.agg #[.string id, .int .i64 n1, .int .i64 n2, .int .i64 n3, ws, ms]] w fun e w' => ∃ ws' ms' xs, e = .returned (.agg #[.string id, .int .i64 n1, .int .i64 n2, .int .i64 n3, ws', ms']) ∧ Done w w' ws' ms' nw nm xw xm kn kx xs := by
  have hC1 : ∀ W, Below w.heap.size w W → Calls Tryz.prog 101 #[ws] W fun e W' => ∃ ao c, e = .returned (.slice ao nw c) ∧ W'.ownsRow W.heap.size 9 1 (.slice ao nw c) nw xw ∧ Below W.heap.size W W' := fun W hb => (clone101 (F.sw.below hb) F.lw F.hw F.ow).mono (by
    rintro e w' ⟨v, rfl, h1, h2⟩
    obtain ⟨ao, c, rfl⟩ := row_form h1
    exact ⟨ao, c, rfl, h1, h2⟩)
  have hC2 : ∀ W, Below w.heap.size w W → Calls Tryz.prog 102 #[ms] W fun e W' => ∃ ao c, e = .returned (.slice ao nm c) ∧ W'.ownsRow W.heap.size 44 7 (.slice ao nm c) nm xm ∧ Below W.heap.size W W' := fun W hb => (clone102 (F.sm.below hb) F.lm F.hm F.om).mono (by
    rintro e w' ⟨v, rfl, h1, h2⟩
    obtain ⟨ao, c, rfl⟩ := row_form h1
    exact ⟨ao, c, rfl, h1, h2⟩)
  have hB : ∀ o o', Below w.heap.size w ((w.alloc o).alloc o') := fun o o' => ((Below.refl _ _).alloc (Nat.le_refl _) o).alloc (by simp) o'
  have hBd : ∀ o o', Below w.heap.size w (((w.alloc o).alloc o').drew) := fun o o' => (hB o o').drew
  go_enter Tryz.func54, Tryz.ntmps54
  go_upto_region 1 with fail
  go_cut [] (fun wx => ∃ ws' ms', wx.heap[w.heap.size]? = some (boxObj (.string id) (.int .i64 n1) (.int .i64 n2) (.int .i64 n3) ws' ms') ∧ wx.heap[w.heap.size + 1]? = some zeroBox ∧
      wx.ownsRow (w.heap.size + 2) 9 1 ws' nw xw ∧ wx.ownsRow (w.heap.size + 2) 44 7 ms' nm xm ∧ (∀ g, ws'.ownBlock = some g → ms'.ownBlock ≠ some g) ∧ Below w.heap.size w wx)
  case first =>
    go_region_with (first
      | (go_at_call 101; refine (hC1 _ (hBd _ _)).mono ?_; rintro e wa ⟨aa, ca, rfl, hoa, hba⟩; obtain ⟨ka1, ka2, ka3, ka4⟩ := after2 hba; have ka5 : wa.cell? ⟨w.heap.size, 5, none⟩ = some ms := by rw [Lib.cell_of_heap ka1]; rfl)
      | (go_at_call 102; refine (hC2 _ (hBd _ _)).mono ?_; rintro e wb ⟨ab, cb, rfl, hob, hbb⟩; obtain ⟨kb1, kb2, kb3, kb4⟩ := after2 hbb; have kb5 : wb.cell? ⟨w.heap.size, 4, none⟩ = some ws := by rw [Lib.cell_of_heap kb1]; rfl)
      | (go_at_call 102; refine (hC2 _ ka4).mono ?_; rintro e wc ⟨ab, cb, rfl, hob, hbb⟩; have kc1 := (hbb.block _ (by omega)).trans ka1; have kc2 := (hbb.block _ (by omega)).trans ka2; obtain ⟨c4, c5, f4, f5⟩ := facts kc1)
      | (go_at_call 101; refine (hC1 _ kb4).mono ?_; rintro e wc ⟨aa, ca, rfl, hoa, hba⟩; have kc1 := (hba.block _ (by omega)).trans kb1; have kc2 := (hba.block _ (by omega)).trans kb2; obtain ⟨c4, c5, f4, f5⟩ := facts kc1))
    all_goals (go_wp2_with fail)
    all_goals go_meet
    all_goals first
      | (obtain ⟨m1, m2, m3, m4, m5, m6⟩ := meet (u := .slice aa nw ca) (v := .slice ab nm cb) (by simp) (hBd _ _) hoa hba hob hbb kc1 kc2; exact ⟨_, _, m1, m2, m3, m4, m5, m6⟩)
      | (obtain ⟨m1, m2, m3, m4, m5, m6⟩ := meet (u := .slice aa nw ca) (v := .slice ab nm cb) (by simp) (hBd _ _) hob hbb hoa hba kc1 kc2; exact ⟨_, _, m1, m2, m4, m3, fun g h1 h2 => m5 g h2 h1, m6⟩)
      | (trace_state; sorry)
  case rest =>
    obtain ⟨ws', ms', k1, k2, k3, k4, k5, k6⟩ := hcut
    obtain ⟨aw, cw, rfl⟩ := row_form k3
    obtain ⟨am, cm, rfl⟩ := row_form k4
    obtain ⟨c4, c5, f4, f5⟩ := facts k1
    have I0 := Inv.start kn kx k1 k2 k3 k4 k5 k6
    go_wp2_with fail
    go_loopw [15] (fun v wr => ∃ (i : Nat) (xs : List Value), i ≤ nm ∧ v = .int .i64 i ∧ Inv w wc wr (.string id) (.int .i64 n1) n2 n3 (.slice aw nw cw) (.slice am nm cm) nw nm xw xm kn kx xs i)
      (fun v _ => nm - (match v with | .int _ n => n.toNat | _ => 0))
    case atStart => exact ⟨0, xm, by omega, rfl, I0⟩
    case round =>
      obtain ⟨i, xs, hi, rfl, I⟩ := hrel
      by_cases hlt : i < nm
      · obtain ⟨G, c, cur, hms, q1, q2, q3, q4, q5, q6, q7⟩ := I.real hlt
        injection hms with hm1 hm2 hm3
        subst hm1; subst hm3
        obtain ⟨d4, d5, g4, g5⟩ := facts I.b1
        have hil : (i : Int) < (nm : Int) := by omega
        obtain ⟨kv, hk1, hk2, hk3, hk4, hk5⟩ := F.keys i hlt
        have hxs : xs[i * 7 + 5]? = some kv := (I.late i (Nat.le_refl _)).trans hk1
        have hcell : wr.cell? ⟨G, i * 7 + 5, none⟩ = some kv := by
          rw [Lib.cell_of_heap q3]
          rw [← q7, List.getElem?_take] at hxs
          split at hxs
          · simpa using hxs
          · cases hxs
        have hfr : wr.frozen? ⟨G, i * 7 + 5, none⟩ = false := Lib.frozen_of_heap q3 _
        have hC3 : ∀ W, Below w.heap.size w W → Calls Tryz.prog 85 #[kv] W fun e W' => ∃ ao c, e = .returned (.slice ao (kn i) c) ∧ W'.ownsRow W.heap.size 3 1 (.slice ao (kn i) c) (kn i) (kx i) ∧ Below W.heap.size W W' := fun W hb => (clone85 (hk2.below hb) hk3 hk4 hk5).mono (by
          rintro e w' ⟨v, rfl, h1, h2⟩
          obtain ⟨ao, c, rfl⟩ := row_form h1
          exact ⟨ao, c, rfl, h1, h2⟩)
        have hb1 : w.heap.size < wr.drew.heap.size := by have := I.base; have := I.size; show w.heap.size < wr.heap.size; omega
        have hxs' : cur[i * 7 + 5]? = some kv := by
          rw [← q7, List.getElem?_take] at hxs
          split at hxs
          · simpa using hxs
          · cases hxs
        have hwr : wrap64 ((i : Int) + 1) = ((i : Int) + 1) := by simp only [maxLen] at q5; unfold wrap64; omega
        go_upto_region 5 with fail
        go_region_with (first
          | (go_at_call 85; refine (hC3 _ I.below.drew).mono ?_; rintro e we ⟨ak, ck, rfl, hok, hbk⟩; have e1 := (hbk.block _ hb1).trans I.b1; obtain ⟨d4', d5', g4', g5'⟩ := facts e1; obtain ⟨hcell', hfr'⟩ := next q3 hxs' hbk))
        all_goals (go_wp2_with fail)
        all_goals go_roundw
        all_goals first
          | exact ⟨i + 1, _, hlt, by simp only [hwr]; rfl, I.drew.step hlt rfl q1 q2 hok hbk⟩
          | (simp only [hwr]; exact meas hlt)
      · have hin : i = nm := by omega
        subst hin
        have hil : ¬ (i : Int) < (i : Int) := by omega
        obtain ⟨d4, d5, g4, g5⟩ := facts I.b1
        obtain ⟨⟨x0, x1, x2, x3, x4, x5⟩, ⟨t0, t1, t2, t3, t4, t5⟩, y0, y1, y2, y3, y4, y5⟩ := And.intro (facts6 I.b1) (facts6z I.b2)
        go_wp2_with fail
        refine bodyPost_ret (v := .agg #[.string id, .int .i64 n1, .int .i64 n2, .int .i64 n3, .slice aw nw cw, .slice am i cm]) (by simp [results, Tryz.results54, go_sem, t0, t1, t2, t3, t4, t5]) rfl ?_
        refine ⟨_, _, rfl, xs, ?_⟩
        refine Inv.fin I ?f1 ?f2 ?f3 ?f4 ?f5
        case f1 =>
          intro k hk
          simp only [World.setCell, Array.getElem?_modify]
          simp only [if_neg (show ¬ w.heap.size + 1 = k from fun e => hk e.symm)]
        case f2 => simp only [World.setCell, Array.size_modify]
        case f3 => simp only [World.setCell]
        case f4 => simp only [World.setCell]
        case f5 => simp only [World.setCell]
end LA
end Go.Proofs.YtmkkljbfmdngfaaGreatDoor

namespace Go.Proofs.YtmkkljbfmdngfaaGreatDoor
namespace LA
open Go.RowKit Go.Shelf Go.Lib Go.Sort

theorem Fit.below {w W : World} {ws ms : Value} {nw nm : Nat} {xw xm : List Value} {kn : Nat → Nat} {kx : Nat → List Value} (F : Fit w ws ms nw nm xw xm kn kx) (hb : Below w.heap.size w W) : Fit W ws ms nw nm xw xm kn kx :=
  ⟨F.sw.below hb, F.sm.below hb, F.lw, F.lm, F.hw, F.hm, F.ow, F.om, fun j hj => let ⟨kv, h1, h2, h3⟩ := F.keys j hj; ⟨kv, h1, h2.below hb, h3⟩⟩
abbrev ivs (l : List Int) : List Value := l.map (Value.int .i64)
/-- The world while the messages are projected: 'o' is the box of the result. -/
structure Q (w : World) (o : Nat) (a0 a1 a2 a3 b3 ws0 ms0 ws wst ms : Value) (nw nm : Nat) (xw xs : List Value) (K : Nat → List Int) (wr : World) : Prop where
  b0 : wr.heap[w.heap.size]? = some (boxObj a0 a1 a2 a3 ws0 ms0)
  b1 : wr.heap[w.heap.size + 1]? = some zeroBox
  bo : wr.heap[o]? = some (boxObj a0 a1 a2 b3 wst ms)
  wo : wr.ownsRow (w.heap.size + 2) 9 1 ws nw xw
  mo : wr.ownsRow (w.heap.size + 2) 44 7 ms nm xs
  keys : ∀ j, j < nm → ∃ kv, xs[j * 7 + 5]? = some kv ∧ wr.ownsRow (w.heap.size + 2) 3 1 kv (K j).length (ivs (K j))
  apart : ∀ j j' kv kv' g, j < j' → j' < nm → xs[j * 7 + 5]? = some kv → xs[j' * 7 + 5]? = some kv' → kv.ownBlock = some g → kv'.ownBlock ≠ some g
  wm : ∀ g, ws.ownBlock = some g → ms.ownBlock ≠ some g
  km : ∀ j kv g, j < nm → xs[j * 7 + 5]? = some kv → kv.ownBlock = some g → ms.ownBlock ≠ some g ∧ ws.ownBlock ≠ some g
  wl : ∀ g, ws.ownBlock = some g → g < o
  ml : ∀ g, ms.ownBlock = some g → g < o
  kl : ∀ j kv g, j < nm → xs[j * 7 + 5]? = some kv → kv.ownBlock = some g → g < o
  below : Below w.heap.size w wr
  base : w.heap.size + 2 ≤ o
  top : o < wr.heap.size
variable {w wr we : World} {o : Nat} {a0 a1 a2 a3 b3 ws0 ms0 ws wst ms : Value} {nw nm : Nat} {xw xs : List Value} {K : Nat → List Int}
/-- New blocks only. -/
theorem Q.next (q : Q w o a0 a1 a2 a3 b3 ws0 ms0 ws wst ms nw nm xw xs K wr) (hb : Below wr.heap.size wr we) : Q w o a0 a1 a2 a3 b3 ws0 ms0 ws wst ms nw nm xw xs K we := by
  have ht := q.top
  have hz := q.base
  have hs := hb.size
  exact ⟨(hb.block _ (by omega)).trans q.b0, (hb.block _ (by omega)).trans q.b1, (hb.block _ ht).trans q.bo, own_below q.wo hb, own_below q.mo hb, fun j hj => let ⟨kv, h1, h2⟩ := q.keys j hj; ⟨kv, h1, own_below h2 hb⟩,
    q.apart, q.wm, q.km, q.wl, q.ml, q.kl, q.below.trans (hb.mono (by have := q.below.size; omega)), hz, by omega⟩
theorem Q.drew (q : Q w o a0 a1 a2 a3 b3 ws0 ms0 ws wst ms nw nm xw xs K wr) : Q w o a0 a1 a2 a3 b3 ws0 ms0 ws wst ms nw nm xw xs K wr.drew :=
  ⟨q.b0, q.b1, q.bo, q.wo, q.mo, q.keys, q.apart, q.wm, q.km, q.wl, q.ml, q.kl, q.below.drew, q.base, q.top⟩
theorem Q.real (q : Q w o a0 a1 a2 a3 b3 ws0 ms0 ws wst ms nw nm xw xs K wr) (hi : 0 < nm) : ∃ G c cur, ms = .slice (some ⟨G, 0, none⟩) nm c ∧ w.heap.size + 2 ≤ G ∧ G < o ∧ wr.heap[G]? = some (.cells cur 44 (0, 0)) ∧ nm ≤ c ∧ c ≤ maxLen ∧ cur.size = c * 7 ∧ cur.toList.take (nm * 7) = xs := by
  rcases q.mo.2 with ⟨h1, h2⟩ | ⟨G, c, cur, h1, h2, h3, h4, h5, h6, h7⟩
  · omega
  · exact ⟨G, c, cur, h1, h2, q.ml G (by rw [h1]; rfl), h3, h4, h5, h6, h7⟩
/-- A cell of the messages, written: one that is not the keys'; or the keys, shorter. -/
theorem Q.put (q : Q w o a0 a1 a2 a3 b3 ws0 ms0 ws wst ms nw nm xw xs K wr) {G c k : Nat} {v : Value} {K' : Nat → List Int} (hms : ms = .slice (some ⟨G, 0, none⟩) nm c) (hk : k < nm * 7) (hss : wr.heap.size ≤ we.heap.size) (hos : we.os = wr.os) (hta : we.tape = wr.tape) (hou : we.output = wr.output)
    (old : ∀ g, g < wr.heap.size → (∀ kv, xs[k]? = some kv → k % 7 = 5 → kv.ownBlock ≠ some g) → we.heap[g]? = wr.heap[g]?)
    (hv : ∀ j, j < nm → k = j * 7 + 5 → (we.ownsRow (w.heap.size + 2) 3 1 v (K' j).length (ivs (K' j)) ∧ ∀ kv, xs[k]? = some kv → v.ownBlock = kv.ownBlock)) (hK : ∀ j, k ≠ j * 7 + 5 → K' j = K j) :
    Q w o a0 a1 a2 a3 b3 ws0 ms0 ws wst ms nw nm xw (xs.set k v) K' (we.setCell ⟨G, k, none⟩ v) := by
  have ht := q.top
  have hz := q.base
  have hlen : xs.length = nm * 7 := q.mo.1
  have hGo : G < o := q.ml G (by rw [hms]; rfl)
  have hset : ∀ g, g ≠ G → (we.setCell ⟨G, k, none⟩ v).heap[g]? = we.heap[g]? := fun g hg => by
    simp only [World.setCell, Array.getElem?_modify]
    rw [if_neg (fun e => hg e.symm)]
  have hsz : (we.setCell ⟨G, k, none⟩ v).heap.size = we.heap.size := by simp [World.setCell]
  have kblk : ∀ kv, xs[k]? = some kv → k % 7 = 5 → ∀ g, kv.ownBlock = some g → w.heap.size + 2 ≤ g ∧ g < o ∧ g ≠ G ∧ ws.ownBlock ≠ some g := fun kv hx h5 g hg => by
    obtain ⟨j, rfl⟩ : ∃ j, k = j * 7 + 5 := ⟨k / 7, by omega⟩
    have hj : j < nm := by omega
    obtain ⟨kv', h1, h2⟩ := q.keys j hj
    rw [hx] at h1; cases h1
    obtain ⟨m1, m2⟩ := q.km j kv g hj hx hg
    exact ⟨(own_lt h2 hg).1, q.kl j kv g hj hx hg, fun e => m1 (by rw [hms, e]; rfl), m2⟩
  have old' : ∀ g, g < wr.heap.size → g ≠ G → (∀ kv, xs[k]? = some kv → k % 7 = 5 → kv.ownBlock ≠ some g) → (we.setCell ⟨G, k, none⟩ v).heap[g]? = wr.heap[g]? := fun g h1 h2 h3 => (hset g h2).trans (old g h1 h3)
  have set_ne : ∀ i, i ≠ k → (xs.set k v)[i]? = xs[i]? := fun i hi => List.getElem?_set_ne (fun e => hi e.symm)
  have set_eq : (xs.set k v)[k]? = some v := by rw [List.getElem?_set_self (by omega)]
  have get_key : ∀ j kv, j < nm → (xs.set k v)[j * 7 + 5]? = some kv → ∃ kv0, xs[j * 7 + 5]? = some kv0 ∧ kv.ownBlock = kv0.ownBlock := fun j kv hj hx => by
    by_cases e : k = j * 7 + 5
    · rw [← e, set_eq] at hx; cases hx
      obtain ⟨kv0, h1, _⟩ := q.keys j hj
      exact ⟨kv0, h1, (hv j hj e).2 kv0 (by rw [e]; exact h1)⟩
    · rw [set_ne _ (fun h => e h.symm)] at hx
      exact ⟨kv, hx, rfl⟩
  refine ⟨?_, ?_, ?_, ?_, ?_, fun j hj => ?_, fun j j' kv kv' g h1 h2 h3 h4 h5 h6 => ?_, q.wm, fun j kv g hj hx hg => ?_, q.wl, q.ml, fun j kv g hj hx hg => ?_, ?_, hz, by rw [hsz]; omega⟩
  · exact (old' _ (by omega) (by have := (own_lt q.mo (g := G) (by rw [hms]; rfl)).1; omega) fun kv hx h5 hg => by have := (kblk kv hx h5 _ hg).1; omega).trans q.b0
  · exact (old' _ (by omega) (by have := (own_lt q.mo (g := G) (by rw [hms]; rfl)).1; omega) fun kv hx h5 hg => by have := (kblk kv hx h5 _ hg).1; omega).trans q.b1
  · exact (old' _ ht (by omega) fun kv hx h5 hg => by have := (kblk kv hx h5 _ hg).2.1; omega).trans q.bo
  · refine ⟨q.wo.1, ?_⟩
    rcases q.wo.2 with h | ⟨g, cap, cur, h1, h2, h3, h4⟩
    · exact .inl h
    · have hg := q.wl g (by rw [h1]; rfl)
      have hne : g ≠ G := fun e => q.wm g (by rw [h1]; rfl) (by rw [hms, e]; rfl)
      exact .inr ⟨g, cap, cur, h1, h2, (old' g (by omega) hne fun kv hx h5 hgk => (kblk kv hx h5 _ hgk).2.2.2 (by rw [h1]; rfl)).trans h3, h4⟩
  · rcases q.mo.2 with ⟨h, h0⟩ | ⟨g, cap, cur, h1, h2, h3, h4, h5, h6, h7⟩
    · omega
    · rw [hms] at h1
      injection h1 with e1 _ e2
      have e1 : G = g := by simpa using e1
      subst e1; subst e2
      refine ⟨by rw [List.length_set]; exact hlen, .inr ⟨G, c, cur.setIfInBounds k v, hms, h2, ?_, h4, h5, by simpa using h6, ?_⟩⟩
      · have := (old G (by omega) fun kv hx h5 hgk => (kblk kv hx h5 _ hgk).2.2.1 rfl).trans h3
        simp [World.setCell, Array.getElem?_modify, this]
      · rw [← h7]
        simp only [Array.toList_setIfInBounds]
        rw [List.take_set]
  · by_cases e : k = j * 7 + 5
    · obtain ⟨kv0, p1, _⟩ := q.keys j hj
      have hb0 := (hv j hj e).2 kv0 (by rw [e]; exact p1)
      refine ⟨v, by rw [← e]; exact set_eq, (hv j hj e).1.1, ?_⟩
      rcases (hv j hj e).1.2 with h | ⟨g, cap, cur, g1, g2, g3, g4⟩
      · exact .inl h
      · exact .inr ⟨g, cap, cur, g1, g2, (hset g fun e' => (q.km j kv0 g hj p1 (by rw [← hb0, g1]; rfl)).1 (by rw [hms, e']; rfl)).trans g3, g4⟩
    · obtain ⟨kv, h1, h2⟩ := q.keys j hj
      refine ⟨kv, (set_ne _ (fun h => e h.symm)).trans h1, ?_⟩
      rw [hK j e]
      refine ⟨h2.1, ?_⟩
      rcases h2.2 with h | ⟨g, cap, cur, g1, g2, g3, g4⟩
      · exact .inl h
      · have hgk : kv.ownBlock = some g := by rw [g1]; rfl
        have hgo := q.kl j kv g hj h1 hgk
        refine .inr ⟨g, cap, cur, g1, g2, (old' g (by omega) (fun e' => (q.km j kv g hj h1 hgk).1 (by rw [hms, e']; rfl)) fun kv' hx h5 hg' => ?_).trans g3, g4⟩
        obtain ⟨j', rfl⟩ : ∃ j', k = j' * 7 + 5 := ⟨k / 7, by omega⟩
        rcases Nat.lt_trichotomy j j' with hlt | rfl | hlt
        · exact q.apart j j' kv kv' g hlt (by omega) h1 hx hgk hg'
        · exact e rfl
        · exact q.apart j' j kv' kv g hlt hj hx h1 hg' hgk
  · obtain ⟨u1, p1, p2⟩ := get_key j kv (by omega) h3
    obtain ⟨u2, p3, p4⟩ := get_key j' kv' h2 h4
    exact q.apart j j' u1 u2 g h1 h2 p1 p3 (p2 ▸ h5) (p4 ▸ h6)
  · obtain ⟨u1, p1, p2⟩ := get_key j kv hj hx
    exact q.km j u1 g hj p1 (p2 ▸ hg)
  · obtain ⟨u1, p1, p2⟩ := get_key j kv hj hx
    exact q.kl j u1 g hj p1 (p2 ▸ hg)
  · refine ⟨hos.trans q.below.os, hta.trans q.below.tape, hou.trans q.below.output, by rw [hsz]; have := q.below.size; omega, fun g hg => ?_⟩
    have hwz := q.below.size
    rw [old' g (by omega) (by have := (own_lt q.mo (g := G) (by rw [hms]; rfl)).1; omega) fun kv hx h5 hgk => by have := (kblk kv hx h5 _ hgk).1; omega]
    exact q.below.block g hg
end LA
end Go.Proofs.YtmkkljbfmdngfaaGreatDoor

namespace Go.Proofs.YtmkkljbfmdngfaaGreatDoor
namespace LA
open Go.RowKit Go.Shelf Go.Lib Go.Sort

def fl (ks : List Int) : List Int := ks.filter fun k => decide (k < 32)
/-- The messages' cells, the first 'i' projected. -/
structure L (v : Int) (nm : Nat) (own : Nat → ByteArray) (xm xs : List Value) (i : Nat) : Prop where
  other : ∀ k, k % 7 = 0 ∨ k % 7 = 2 ∨ k % 7 = 4 ∨ k % 7 = 6 → xs[k]? = xm[k]?
  late : ∀ j, i ≤ j → xs[j * 7 + 1]? = xm[j * 7 + 1]? ∧ xs[j * 7 + 3]? = xm[j * 7 + 3]?
  done : ∀ j, j < i → xs[j * 7 + 3]? = some (.string (own j)) ∧ xs[j * 7 + 1]? = if v = 1 then some (.int .i64 1) else xm[j * 7 + 1]?
theorem L.step {v : Int} {nm : Nat} {own : Nat → ByteArray} {xm xs : List Value} {i : Nat} (l : L v nm own xm xs i) (hl : xs.length = nm * 7) (hi : i < nm) (kv : Value) :
    (v = 1 → L v nm own xm (((xs.set (i * 7 + 5) kv).set (i * 7 + 3) (.string (own i))).set (i * 7 + 1) (.int .i64 1)) (i + 1)) ∧
    (v ≠ 1 → L v nm own xm ((xs.set (i * 7 + 5) kv).set (i * 7 + 3) (.string (own i))) (i + 1)) := by
  refine ⟨fun hv => ⟨fun k hk => ?_, fun j hj => ⟨?_, ?_⟩, fun j hj => ?_⟩, fun hv => ⟨fun k hk => ?_, fun j hj => ⟨?_, ?_⟩, fun j hj => ?_⟩⟩
  · rw [List.getElem?_set_ne (by omega), List.getElem?_set_ne (by omega), List.getElem?_set_ne (by omega)]; exact l.other k hk
  · rw [List.getElem?_set_ne (by omega), List.getElem?_set_ne (by omega), List.getElem?_set_ne (by omega)]; exact (l.late j (by omega)).1
  · rw [List.getElem?_set_ne (by omega), List.getElem?_set_ne (by omega), List.getElem?_set_ne (by omega)]; exact (l.late j (by omega)).2
  · by_cases e : j = i
    · subst e
      refine ⟨?_, ?_⟩
      · rw [List.getElem?_set_ne (by omega), List.getElem?_set_self (by rw [List.length_set]; omega)]
      · rw [List.getElem?_set_self (by rw [List.length_set, List.length_set]; omega), if_pos hv]
    · rw [List.getElem?_set_ne (by omega), List.getElem?_set_ne (by omega), List.getElem?_set_ne (by omega), List.getElem?_set_ne (by omega), List.getElem?_set_ne (by omega), List.getElem?_set_ne (by omega)]
      exact l.done j (by omega)
  · rw [List.getElem?_set_ne (by omega), List.getElem?_set_ne (by omega)]; exact l.other k hk
  · rw [List.getElem?_set_ne (by omega), List.getElem?_set_ne (by omega)]; exact (l.late j (by omega)).1
  · rw [List.getElem?_set_ne (by omega), List.getElem?_set_ne (by omega)]; exact (l.late j (by omega)).2
  · by_cases e : j = i
    · subst e
      refine ⟨?_, ?_⟩
      · rw [List.getElem?_set_self (by rw [List.length_set]; omega)]
      · rw [List.getElem?_set_ne (by omega), List.getElem?_set_ne (by omega), if_neg hv]; exact (l.late j (Nat.le_refl _)).1
    · rw [List.getElem?_set_ne (by omega), List.getElem?_set_ne (by omega), List.getElem?_set_ne (by omega), List.getElem?_set_ne (by omega)]
      exact l.done j (by omega)
/-- What the callees do. -/
structure Hyp (w : World) (v : Int) (id : ByteArray) (bv : Value) (nm : Nat) (uid : Nat → Int) (own : Nat → ByteArray) (e : Int) : Prop where
  make : ∀ W, Below w.heap.size w W → Calls Tryz.prog 16 #[.int .i64 v, bv] W fun x W' => ∃ u t, x = .returned (.tuple #[u, t, .int .i64 e]) ∧ Below W.heap.size W W'
  own : ∀ j W, j < nm → Below w.heap.size w W → Calls Tryz.prog 57 #[.string id, .int .i64 (uid j)] W fun x W' => x = .returned (.string (own j)) ∧ Below W.heap.size W W'
  del : ∀ W kv (ks : List Int), Below w.heap.size w W → W.ownsRow (w.heap.size + 2) 3 1 kv ks.length (ivs ks) → Calls Tryz.prog 55 #[kv, .func (.func 56) #[] #[]] W fun x W' => ∃ ao c, x = .returned (.slice ao (fl ks).length c) ∧ (Value.slice ao (fl ks).length c).ownBlock = kv.ownBlock ∧
    W'.ownsRow (w.heap.size + 2) 3 1 (.slice ao (fl ks).length c) (fl ks).length (ivs (fl ks)) ∧ (∀ g, g < W.heap.size → kv.ownBlock ≠ some g → W'.heap[g]? = W.heap[g]?) ∧ W.heap.size ≤ W'.heap.size ∧ W'.os = W.os ∧ W'.tape = W.tape ∧ W'.output = W.output

theorem after2n {w wa : World} {o o' : Obj} (hb : Below ((w.alloc o).alloc o').heap.size ((w.alloc o).alloc o') wa) : wa.heap[w.heap.size]? = some o ∧ wa.heap[w.heap.size + 1]? = some o' ∧ w.heap.size + 2 ≤ wa.heap.size ∧ Below w.heap.size w wa := after2 (w := w) ⟨hb.os, hb.tape, hb.output, hb.size, hb.block⟩
set_option maxHeartbeats 2000000 in
set_option maxRecDepth 1000000 in
theorem proj_bad (w : World) (v : Int) (id : ByteArray) (n1 n2 n3 : Int) (ws ms : Value) (nm : Nat) (uid : Nat → Int) (own : Nat → ByteArray) (e : Int) (he : e ≠ 0) (H : Hyp w v id (.agg #[.string id, .int .i64 n1, .int .i64 n2, .int .i64 n3, ws, ms]) nm uid own e) :
    Calls Tryz.prog 22 #[.int .i64 v, .agg #[.string id, .int .i64 n1, .int .i64 n2, .int .i64 n3, ws, ms]] w fun x w' => x = .returned (.tuple #[.agg #[.string .empty, .int .i64 0, .int .i64 0, .int .i64 0, .slice none 0 0, .slice none 0 0], .int .i64 e]) ∧ Below w.heap.size w w' := by
  have hB : ∀ o o', Below w.heap.size w ((w.alloc o).alloc o') := fun o o' => ((Below.refl _ _).alloc (Nat.le_refl _) o).alloc (by simp) o'
  go_enter Tryz.func22, Tryz.ntmps22
  have hne : (e != 0) = true := by simpa using he
  have hne' : ¬ e = 0 := he
  go_wp2_with (go_at_call 16; refine (H.make _ (hB _ _)).mono ?_; rintro x wa ⟨u, t, rfl, hba⟩; obtain ⟨ka1, ka2, ka3, ka4⟩ := after2n hba; obtain ⟨⟨t0, t1, t2, t3, t4, t5⟩, y0, y1, y2, y3, y4, y5⟩ := facts6z ka2)
  refine bodyPost_ret (v := .tuple #[.agg #[.string .empty, .int .i64 0, .int .i64 0, .int .i64 0, .slice none 0 0, .slice none 0 0], .int .i64 e]) (by simp [results, Tryz.results22, go_sem, t0, t1, t2, t3, t4, t5]; rfl) rfl ?_
  refine ⟨rfl, ?b1, ?b2, ?b3, ?b4, fun k hk => ?b5⟩
  case b1 => simp only [World.setCell]; exact ka4.os
  case b2 => simp only [World.setCell]; exact ka4.tape
  case b3 => simp only [World.setCell]; exact ka4.output
  case b4 => simp only [World.setCell, Array.size_modify]; exact ka4.size
  case b5 =>
    simp only [World.setCell, Array.getElem?_modify]
    simp only [if_neg (show ¬ w.heap.size + 1 = k from by omega)]
    exact ka4.block k hk
theorem Q.start {w wa wb : World} {a0 a1 a2 a3 ws0 ms0 ws ms : Value} {nw nm : Nat} {xw xm xs : List Value} {K : Nat → List Int} (wst : Value) (k1 : wa.heap[w.heap.size]? = some (boxObj a0 a1 a2 a3 ws0 ms0)) (k2 : wa.heap[w.heap.size + 1]? = some zeroBox)
    (k3 : w.heap.size + 2 ≤ wa.heap.size) (k4 : Below w.heap.size w wa) (D : Done wa wb ws ms nw nm xw xm (fun j => (K j).length) (fun j => ivs (K j)) xs) :
    Q w wb.heap.size a0 a1 a2 a3 a3 ws0 ms0 ws wst ms nw nm xw xs K (wb.alloc (boxObj a0 a1 a2 a3 wst ms)) := by
  have hs := D.below.size
  have al : ∀ k, k < wb.heap.size → (wb.alloc (boxObj a0 a1 a2 a3 wst ms)).heap[k]? = wb.heap[k]? := fun k hk => heap_alloc_old _ _ hk
  have hB : Below wb.heap.size wb (wb.alloc (boxObj a0 a1 a2 a3 wst ms)) := (Below.refl _ _).alloc (Nat.le_refl _) _
  refine ⟨(al _ (by omega)).trans ((D.below.block _ (by omega)).trans k1), (al _ (by omega)).trans ((D.below.block _ (by omega)).trans k2), heap_alloc_new _ _, ownsRow_low (own_below D.wo hB) k3, ownsRow_low (own_below D.mo hB) k3, fun j hj => ?_, D.apart, D.wm, D.km, fun g hg => (own_lt D.wo hg).2, fun g hg => (own_lt D.mo hg).2, fun j kv g hj hx hg => ?_, (k4.trans (D.below.mono (by omega))).trans (hB.mono (by omega)), by omega, by simp⟩
  · obtain ⟨kv, h1, h2⟩ := D.own j hj
    exact ⟨kv, h1, ownsRow_low (own_below h2 hB) k3⟩
  · obtain ⟨kv', h1, h2⟩ := D.own j hj
    rw [hx] at h1; cases h1
    exact (own_lt h2 hg).2
/-- The keys, the first 'i' messages' projected. -/
def KK (K : Nat → List Int) (i j : Nat) : List Int := if j < i then fl (K j) else K j
theorem nextG {wr we : World} {G k e : Nat} {cur : Array Value} {kv : Value} (q : wr.heap[G]? = some (.cells cur e (0, 0))) (hx : cur[k]? = some kv) (hb : we.heap[G]? = wr.heap[G]?) : we.cell? ⟨G, k, none⟩ = some kv ∧ we.frozen? ⟨G, k, none⟩ = false := by
  have h : we.heap[G]? = some (.cells cur e (0, 0)) := hb.trans q
  exact ⟨by rw [Lib.cell_of_heap h]; exact hx, Lib.frozen_of_heap h _⟩
theorem cells7 {cur : Array Value} {n k : Nat} {xs : List Value} {v : Value} (h : cur.toList.take n = xs) (hx : xs[k]? = some v) : cur[k]? = some v := by
  rw [← h, List.getElem?_take] at hx
  split at hx
  · simpa using hx
  · cases hx
theorem KK_ne (K : Nat → List Int) {i j : Nat} (h : i ≠ j) : KK K (i + 1) j = KK K i j := by
  unfold KK
  by_cases h1 : j < i
  · rw [if_pos h1, if_pos (by omega)]
  · rw [if_neg h1, if_neg (by omega)]
theorem ar1 {i nm : Nat} (h : i < nm) : i * 7 + 5 < nm * 7 ∧ i * 7 + 3 < nm * 7 ∧ i * 7 + 1 < nm * 7 ∧ i * 7 < nm * 7 := by omega
theorem ar2 {i j : Nat} (h : i * 7 + 5 = j * 7 + 5) : i = j := by omega
theorem ar3 (i : Nat) : (i * 7 + 5) % 7 = 5 ∧ (i * 7) % 7 = 0 ∧ i * 7 + 5 ≠ i * 7 ∧ i * 7 + 3 ≠ i * 7 + 5 ∧ i * 7 + 1 ≠ i * 7 + 5 := by omega
theorem ar4 (i j : Nat) : i * 7 + 3 ≠ j * 7 + 5 ∧ i * 7 + 1 ≠ j * 7 + 5 := by omega
theorem ar6 {i nm : Nat} (h : i < nm) (hm : nm ≤ 1099511627776) : wrap64 ((i : Int) + 1) = ((i : Int) + 1) ∧ (i : Int) < (nm : Int) ∧ 0 < nm := by unfold wrap64; omega
theorem nz {a : Nat} {l : List Value} (h : a < l.length) : ∃ v, l[a]? = some v := ⟨_, List.getElem?_eq_getElem h⟩
theorem minN (n : Nat) : (min (n : Int) 32).toNat = min n 32 := by omega
theorem Q.fin {w w' wr : World} {o : Nat} {a0 a1 a2 a3 b3 ws0 ms0 ws wst ms : Value} {nw nm : Nat} {xw xs : List Value} {K : Nat → List Int} (q : Q w o a0 a1 a2 a3 b3 ws0 ms0 ws wst ms nw nm xw xs K wr)
    (h : ∀ g, g ≠ o → g ≠ w.heap.size + 1 → w'.heap[g]? = wr.heap[g]?) (hs : w'.heap.size = wr.heap.size) (h1 : w'.os = wr.os) (h2 : w'.tape = wr.tape) (h3 : w'.output = wr.output) :
    w'.ownsRow w.heap.size 9 1 ws nw xw ∧ w'.ownsRow w.heap.size 44 7 ms nm xs ∧ (∀ j, j < nm → ∃ kv, xs[j * 7 + 5]? = some kv ∧ w'.ownsRow w.heap.size 3 1 kv (K j).length (ivs (K j))) ∧ Below w.heap.size w w' := by
  have hb := q.base
  have gen : ∀ {e sz n : Nat} {v : Value} {ys : List Value}, wr.ownsRow (w.heap.size + 2) e sz v n ys → (∀ g, v.ownBlock = some g → g < o) → w'.ownsRow w.heap.size e sz v n ys := fun {e sz n v ys} ho hl => by
    refine ⟨ho.1, ?_⟩
    rcases ho.2 with h | ⟨g, cap, cur, g1, g2, g3, g4⟩
    · exact .inl h
    · have hg := hl g (by rw [g1]; rfl)
      exact .inr ⟨g, cap, cur, g1, by omega, (h g (by omega) (by omega)).trans g3, g4⟩
  refine ⟨gen q.wo q.wl, gen q.mo q.ml, fun j hj => ?_, ?_⟩
  · obtain ⟨kv, k1, k2⟩ := q.keys j hj
    exact ⟨kv, k1, gen k2 fun g hg => q.kl j kv g hj k1 hg⟩
  · exact ⟨h1.trans q.below.os, h2.trans q.below.tape, h3.trans q.below.output, by rw [hs]; exact q.below.size, fun g hg => (h g (by omega) (by omega)).trans (q.below.block g hg)⟩
/-- What Project hands back. -/
def ProjRes (w : World) (v : Int) (id : ByteArray) (n1 n2 n3 : Int) (nw nm : Nat) (xw xm : List Value) (K0 : Nat → List Int) (own : Nat → ByteArray) (x : Ending) (w' : World) : Prop :=
  ∃ aw cw ms' xs, x = .returned (.tuple #[.agg #[.string id, .int .i64 n1, .int .i64 n2, .int .i64 (if v = 1 then 1 else n3), .slice aw (min nw 32) cw, ms'], .int .i64 0]) ∧
      w'.ownsRow w.heap.size 9 1 (.slice aw nw cw) nw xw ∧ w'.ownsRow w.heap.size 44 7 ms' nm xs ∧ (∀ j, j < nm → ∃ kv, xs[j * 7 + 5]? = some kv ∧ w'.ownsRow w.heap.size 3 1 kv (fl (K0 j)).length (ivs (fl (K0 j)))) ∧ L v nm own xm xs nm ∧ Below w.heap.size w w'
theorem Q.done {w w' wr : World} {o : Nat} {id : ByteArray} {n1 n2 n3 v : Int} {b3 ws0 ms0 wst ms : Value} {aw : Option Addr} {cw nw nm : Nat} {xw xm xs : List Value} {K0 : Nat → List Int} {own : Nat → ByteArray} (q : Q w o (.string id) (.int .i64 n1) (.int .i64 n2) (.int .i64 n3) b3 ws0 ms0 (.slice aw nw cw) wst ms nw nm xw xs (KK K0 nm) wr) (l : L v nm own xm xs nm) {m3 : Int} (hm : m3 = if v = 1 then 1 else n3)
    (h : ∀ g, g ≠ o → g ≠ w.heap.size + 1 → w'.heap[g]? = wr.heap[g]?) (hs : w'.heap.size = wr.heap.size) (h1 : w'.os = wr.os) (h2 : w'.tape = wr.tape) (h3 : w'.output = wr.output) :
    ProjRes w v id n1 n2 n3 nw nm xw xm K0 own (.returned (.tuple #[.agg #[.string id, .int .i64 n1, .int .i64 n2, .int .i64 m3, .slice aw (min (nw : Int) 32).toNat cw, ms], .int .i64 0])) w' := by
  obtain ⟨zq1, zq2, zq3, zq4⟩ := q.fin h hs h1 h2 h3
  refine ⟨aw, cw, ms, xs, by rw [hm, minN], zq1, zq2, fun j hj => ?_, l, zq4⟩
  obtain ⟨kv, k1, k2⟩ := zq3 j hj
  rw [show KK K0 nm j = fl (K0 j) from if_pos hj] at k2
  exact ⟨kv, k1, k2⟩
set_option maxHeartbeats 4000000 in
set_option maxRecDepth 1000000 in
theorem proj_ok (w : World) (v : Int) (id : ByteArray) (n1 n2 n3 : Int) (ws ms : Value) (nw nm : Nat) (xw xm : List Value) (K0 : Nat → List Int) (uid : Nat → Int) (own : Nat → ByteArray)
    (F : Fit w ws ms nw nm xw xm (fun j => (K0 j).length) (fun j => ivs (K0 j))) (hv : v ≠ 3) (hu : ∀ j, j < nm → xm[j * 7]? = some (.int .i64 (uid j)))
    (H : Hyp w v id (.agg #[.string id, .int .i64 n1, .int .i64 n2, .int .i64 n3, ws, ms]) nm uid own 0) :
    Calls Tryz.prog 22 #[.int .i64 v, .agg #[.string id, .int .i64 n1, .int .i64 n2, .int .i64 n3, ws, ms]] w (ProjRes w v id n1 n2 n3 nw nm xw xm K0 own) := by
  have hB : ∀ o o', Below w.heap.size w ((w.alloc o).alloc o') := fun o o' => ((Below.refl _ _).alloc (Nat.le_refl _) o).alloc (by simp) o'
  have hv3 : (v == 3) = false := by simpa using hv
  go_enter Tryz.func22, Tryz.ntmps22
  go_upto_region 5 with (first
    | (go_at_call 16; refine (H.make _ (hB _ _)).mono ?_; rintro x wa ⟨u, t, rfl, hba⟩; obtain ⟨ka1, ka2, ka3, ka4⟩ := after2n hba; obtain ⟨x0, x1, x2, x3, x4, x5⟩ := facts6 ka1)
    | (go_at_call 54; refine (copy_walk _ id n1 n2 n3 ws ms nw nm xw xm _ _ (F.below ka4)).mono ?_; rintro x wb ⟨ws', ms', xs0, rfl, D⟩; obtain ⟨aw, cw, rfl⟩ := row_form D.wo; obtain ⟨am, cm, rfl⟩ := row_form D.mo))
  obtain ⟨wst, HW⟩ : ∃ wst, Hid (wst = Value.slice aw (min (nw : Int) 32).toNat cw) := ⟨_, rfl⟩
  have Q0 := Q.start wst ka1 ka2 ka3 ka4 D
  have L0 : L v nm own xm xs0 0 := ⟨fun k hk => D.other k (by omega), fun j _ => ⟨D.other _ (by omega), D.other _ (by omega)⟩, fun j hj => (by omega)⟩
  have hcw : nw ≤ cw := by
    rcases D.wo.2 with ⟨h1, h2⟩ | ⟨g, cap, cur, h1, h2, h3, h4, h5, h6, h7⟩
    · omega
    · injection h1 with e1 e2 e3
      omega
  have hm0 : (0 : Int) ≤ min (nw : Int) 32 := by omega
  have hm1 : min (nw : Int) 32 ≤ (cw : Int) := by omega
  go_wp2_with fail
  rw [← HW.out]
  generalize wb.alloc (boxObj (.string id) (.int .i64 n1) (.int .i64 n2) (.int .i64 n3) wst (.slice am nm cm)) = wl at Q0 ⊢
  generalize wb.heap.size = o at Q0 ⊢
  go_loopw [39] (fun u wr => ∃ (i : Nat) (xs : List Value), i ≤ nm ∧ u = .int .i64 i ∧ Q w o (.string id) (.int .i64 n1) (.int .i64 n2) (.int .i64 n3) (.int .i64 n3) ws ms (.slice aw nw cw) wst (.slice am nm cm) nw nm xw xs (KK K0 i) wr ∧ L v nm own xm xs i)
    (fun v _ => nm - (match v with | .int _ n => n.toNat | _ => 0))
  case atStart => exact ⟨0, xs0, by omega, rfl, Q0, L0⟩
  case round =>
    obtain ⟨i, xs, hi, rfl, q, l⟩ := hrel
    by_cases hlt : i < nm
    · obtain ⟨G, c, cur, hms, q1, q2, q3, q4, q5, q6, q7⟩ := q.real (Nat.zero_lt_of_lt hlt)
      have hil : (i : Int) < (nm : Int) := (ar6 hlt F.hm).2.1
      have hwr := (ar6 hlt F.hm).1
      injection hms with hm1' hm2' hm3'
      subst hm1'; subst hm3'
      obtain ⟨d0, _, _, _, _, d5⟩ := facts6 q.bo
      obtain ⟨p0, _, _, _, _, _⟩ := facts6 q.b0
      have hlen : xs.length = nm * 7 := q.mo.1
      have cell : ∀ k v, xs[k]? = some v → wr.cell? ⟨G, k, none⟩ = some v := fun k v hx => by
        rw [Lib.cell_of_heap q3]
        rw [← q7, List.getElem?_take] at hx
        split at hx
        · simpa using hx
        · cases hx
      obtain ⟨kv, hx5, hk5⟩ := q.keys i hlt
      have c5 := cell _ _ hx5
      have f5 : wr.frozen? ⟨G, i * 7 + 5, none⟩ = false := Lib.frozen_of_heap q3 _
      have eK : KK K0 i i = K0 i := if_neg (Nat.lt_irrefl _)
      have eK' : KK K0 (i + 1) i = fl (K0 i) := if_pos (Nat.lt_succ_self _)
      rw [eK] at hk5
      go_upto_region 12 with fail
      go_cut [39] from 39 to 69 (fun s39 wx => s39 = .int .i64 i ∧ ∃ kv', Q w o (.string id) (.int .i64 n1) (.int .i64 n2) (.int .i64 n3) (.int .i64 n3) ws ms (.slice aw nw cw) wst (.slice (some ⟨G, 0, none⟩) nm cm) nw nm xw (xs.set (i * 7 + 5) kv') (KK K0 (i + 1)) wx)
      case first =>
        go_wp2_with (go_at_call 55; refine (H.del _ kv (K0 i) q.below hk5).mono ?_; rintro x we ⟨ao, ck, rfl, hbk, hok, hold, hsz, ho1, ho2, ho3⟩; obtain ⟨hcell', hfr'⟩ := nextG q3 (cells7 q7 hx5) (hold G (Nat.lt_trans q2 q.top) (fun h => (q.km i kv G hlt hx5 h).1 rfl)))
        have hv5 : ∀ j, j < nm → i * 7 + 5 = j * 7 + 5 → (we.ownsRow (w.heap.size + 2) 3 1 (.slice ao (fl (K0 i)).length ck) (KK K0 (i + 1) j).length (ivs (KK K0 (i + 1) j)) ∧ ∀ kv0, xs[i * 7 + 5]? = some kv0 → (Value.slice ao (fl (K0 i)).length ck).ownBlock = kv0.ownBlock) := fun j hj hje => by
          obtain rfl := ar2 hje
          rw [eK']
          exact ⟨hok, fun kv0 h0 => by rw [hx5] at h0; cases h0; exact hbk⟩
        have hK5 : ∀ j, i * 7 + 5 ≠ j * 7 + 5 → KK K0 (i + 1) j = KK K0 i j := fun j hne => KK_ne K0 (fun h => hne (by rw [h]))
        have qp := q.put (we := we) (G := G) (c := cm) (k := i * 7 + 5) (v := .slice ao (fl (K0 i)).length ck) (K' := KK K0 (i + 1)) rfl (ar1 hlt).1 hsz ho1 ho2 ho3 (fun g hg hne => hold g hg (hne kv hx5 (ar3 i).1)) hv5 hK5
        go_meet
        exact ⟨rfl, _, qp⟩
      case rest =>
        obtain ⟨rfl, kv', qa⟩ := hcut
        have hsl : (xs.set (i * 7 + 5) kv').length = nm * 7 := by rw [List.length_set]; exact hlen
        obtain ⟨G2, c2, cur2, hms2, r1, r2, r3, r4, r5, r6, r7⟩ := qa.real (Nat.zero_lt_of_lt hlt)
        injection hms2 with hn1 hn2 hn3
        injection hn1 with hn1
        injection hn1 with hn1 _ _
        subst hn1; subst hn3
        obtain ⟨pa0, _, _, _, _, _⟩ := facts6 qa.b0
        have hxu : (xs.set (i * 7 + 5) kv')[i * 7]? = some (.int .i64 (uid i)) := by
          rw [List.getElem?_set_ne (ar3 i).2.2.1, l.other _ (.inl (ar3 i).2.1)]; exact hu i hlt
        obtain ⟨cu, _⟩ := nextG (we := wc) r3 (cells7 r7 hxu) rfl
        obtain ⟨v3, hx3⟩ := nz (l := xs.set (i * 7 + 5) kv') (a := i * 7 + 3) (by rw [hsl]; exact (ar1 hlt).2.1)
        obtain ⟨c3, f3⟩ := nextG (we := wc) r3 (cells7 r7 hx3) rfl
        go_upto_region 13 with fail
        go_cut [39] from 39 to 69 (fun s39 wx => s39 = .int .i64 i ∧ Q w o (.string id) (.int .i64 n1) (.int .i64 n2) (.int .i64 n3) (.int .i64 n3) ws ms (.slice aw nw cw) wst (.slice (some ⟨G, 0, none⟩) nm cm) nw nm xw ((xs.set (i * 7 + 5) kv').set (i * 7 + 3) (.string (own i))) (KK K0 (i + 1)) wx)
        case first =>
          go_region_with (go_at_call 57; refine (H.own i _ hlt qa.below.drew).mono ?_; rintro x we ⟨rfl, hbe⟩; obtain ⟨c3', f3'⟩ := nextG r3 (cells7 r7 hx3) (hbe.block G (Nat.lt_trans r2 qa.top)))
          all_goals have qb := (qa.drew.next hbe).put (we := we) (G := G) (c := cm) (k := i * 7 + 3) (v := .string (own i)) (K' := KK K0 (i + 1)) rfl (ar1 hlt).2.1 (Nat.le_refl _) rfl rfl rfl (fun g _ _ => rfl) (fun j _ h => absurd h (ar4 i j).1) (fun _ _ => rfl)
          all_goals go_wp2_with fail
          all_goals go_meet
          all_goals exact ⟨rfl, qb⟩
        case rest =>
          obtain ⟨rfl, qb⟩ := hcut
          have hsl2 : ((xs.set (i * 7 + 5) kv').set (i * 7 + 3) (.string (own i))).length = nm * 7 := by rw [List.length_set]; exact hsl
          by_cases hv1 : v = 1
          · obtain ⟨G3, c3', cur3, hms3, s1, s2, s3, s4, s5, s6, s7⟩ := qb.real (Nat.zero_lt_of_lt hlt)
            injection hms3 with hn1 hn2 hn3
            injection hn1 with hn1
            injection hn1 with hn1 _ _
            subst hn1; subst hn3
            obtain ⟨v1, hx1⟩ := nz (l := (xs.set (i * 7 + 5) kv').set (i * 7 + 3) (.string (own i))) (a := i * 7 + 1) (by rw [hsl2]; exact (ar1 hlt).2.2.1)
            obtain ⟨k1, k2⟩ := nextG (we := wc) s3 (cells7 s7 hx1) rfl
            have hb1 : (v == 1) = true := by rw [hv1]; rfl
            have qc := qb.put (we := wc) (G := G) (c := cm) (k := i * 7 + 1) (v := .int .i64 1) (K' := KK K0 (i + 1)) rfl (ar1 hlt).2.2.1 (Nat.le_refl _) rfl rfl rfl (fun g _ _ => rfl) (fun j _ h => absurd h (ar4 i j).2) (fun _ _ => rfl)
            have lc := (l.step hlen hlt kv').1 hv1
            go_wp2_with fail
            go_roundw
            case rel => exact ⟨i + 1, _, hlt, by simp only [hwr]; rfl, qc, lc⟩
            case measure => simp only [hwr]; exact meas hlt
          · have hb1 : (v == 1) = false := by simpa using hv1
            have lc := (l.step hlen hlt kv').2 hv1
            go_wp2_with fail
            go_roundw
            case rel => exact ⟨i + 1, _, hlt, by simp only [hwr]; rfl, qb, lc⟩
            case measure => simp only [hwr]; exact meas hlt
    · have hin : i = nm := Nat.le_antisymm hi (Nat.le_of_not_lt hlt)
      subst hin
      have hil : ¬ (i : Int) < (i : Int) := Int.lt_irrefl _
      obtain ⟨d0, d1, d2, d3, d4, d5⟩ := facts6 q.bo
      obtain ⟨⟨t0, t1, t2, t3, t4, t5⟩, y0, y1, y2, y3, y4, y5⟩ := facts6z q.b1
      have fo := Lib.frozen_of_heap q.bo 3
      have ho1 : ¬ o = w.heap.size + 1 := by have := q.base; omega
      have ho2 : ¬ w.heap.size + 1 = o := fun h => ho1 h.symm
      have hwst := HW.out
      subst hwst
      by_cases hv1 : v = 1
      · subst hv1
        go_wp2_with fail
        refine bodyPost_ret (v := .tuple #[.agg #[.string id, .int .i64 n1, .int .i64 n2, .int .i64 1, .slice aw (min (nw : Int) 32).toNat cw, .slice am i cm], .int .i64 0]) (by simp [results, Tryz.results22, go_sem, t0, t1, t2, t3, t4, t5]) rfl ?_
        refine q.done l (if_pos rfl).symm ?f1 ?f2 ?f3 ?f4 ?f5
        case f1 =>
          intro k hk1 hk2
          simp only [World.setCell, Array.getElem?_modify]
          simp only [if_neg (show ¬ w.heap.size + 1 = k from fun e => hk2 e.symm), if_neg (show ¬ o = k from fun e => hk1 e.symm)]
        case f2 => simp only [World.setCell, Array.size_modify]
        case f3 => simp only [World.setCell]
        case f4 => simp only [World.setCell]
        case f5 => simp only [World.setCell]
      · have hb1 : (v == 1) = false := by simpa using hv1
        go_wp2_with fail
        refine bodyPost_ret (v := .tuple #[.agg #[.string id, .int .i64 n1, .int .i64 n2, .int .i64 n3, .slice aw (min (nw : Int) 32).toNat cw, .slice am i cm], .int .i64 0]) (by simp [results, Tryz.results22, go_sem, t0, t1, t2, t3, t4, t5]) rfl ?_
        refine q.done l (if_neg hv1).symm ?g1 ?g2 ?g3 ?g4 ?g5
        case g1 =>
          intro k hk1 hk2
          simp only [World.setCell, Array.getElem?_modify]
          simp only [if_neg (show ¬ w.heap.size + 1 = k from fun e => hk2 e.symm)]
        case g2 => simp only [World.setCell, Array.size_modify]
        case g3 => simp only [World.setCell]
        case g4 => simp only [World.setCell]
        case g5 => simp only [World.setCell]
/-- What Project hands back as it is. -/
def CopyRes (w : World) (id : ByteArray) (n1 n2 n3 : Int) (nw nm : Nat) (xw xm : List Value) (K0 : Nat → List Int) (x : Ending) (w' : World) : Prop :=
  ∃ ws' ms' xs, x = .returned (.tuple #[.agg #[.string id, .int .i64 n1, .int .i64 n2, .int .i64 n3, ws', ms'], .int .i64 0]) ∧
      w'.ownsRow w.heap.size 9 1 ws' nw xw ∧ w'.ownsRow w.heap.size 44 7 ms' nm xs ∧ (∀ j, j < nm → ∃ kv, xs[j * 7 + 5]? = some kv ∧ w'.ownsRow w.heap.size 3 1 kv (K0 j).length (ivs (K0 j))) ∧ (∀ k, k % 7 ≠ 5 → xs[k]? = xm[k]?) ∧ Below w.heap.size w w'
theorem Q.same {w w' wr : World} {o : Nat} {id : ByteArray} {n1 n2 n3 : Int} {b3 ws0 ms0 ws wst ms : Value} {nw nm : Nat} {xw xm xs : List Value} {K0 : Nat → List Int} (q : Q w o (.string id) (.int .i64 n1) (.int .i64 n2) (.int .i64 n3) b3 ws0 ms0 ws wst ms nw nm xw xs K0 wr) (l : ∀ k, k % 7 ≠ 5 → xs[k]? = xm[k]?)
    (h : ∀ g, g ≠ o → g ≠ w.heap.size + 1 → w'.heap[g]? = wr.heap[g]?) (hs : w'.heap.size = wr.heap.size) (h1 : w'.os = wr.os) (h2 : w'.tape = wr.tape) (h3 : w'.output = wr.output) :
    CopyRes w id n1 n2 n3 nw nm xw xm K0 (.returned (.tuple #[.agg #[.string id, .int .i64 n1, .int .i64 n2, .int .i64 n3, ws, ms], .int .i64 0])) w' := by
  obtain ⟨zq1, zq2, zq3, zq4⟩ := q.fin h hs h1 h2 h3
  exact ⟨ws, ms, xs, rfl, zq1, zq2, zq3, l, zq4⟩
set_option maxHeartbeats 4000000 in
set_option maxRecDepth 1000000 in
theorem proj_three (w : World) (id : ByteArray) (n1 n2 n3 : Int) (ws ms : Value) (nw nm : Nat) (xw xm : List Value) (K0 : Nat → List Int) (uid : Nat → Int) (own : Nat → ByteArray)
    (F : Fit w ws ms nw nm xw xm (fun j => (K0 j).length) (fun j => ivs (K0 j)))
    (H : Hyp w 3 id (.agg #[.string id, .int .i64 n1, .int .i64 n2, .int .i64 n3, ws, ms]) nm uid own 0) :
    Calls Tryz.prog 22 #[.int .i64 3, .agg #[.string id, .int .i64 n1, .int .i64 n2, .int .i64 n3, ws, ms]] w (CopyRes w id n1 n2 n3 nw nm xw xm K0) := by
  have hB : ∀ o o', Below w.heap.size w ((w.alloc o).alloc o') := fun o o' => ((Below.refl _ _).alloc (Nat.le_refl _) o).alloc (by simp) o'
  go_enter Tryz.func22, Tryz.ntmps22
  go_upto_region 5 with (first
    | (go_at_call 16; refine (H.make _ (hB _ _)).mono ?_; rintro x wa ⟨u, t, rfl, hba⟩; obtain ⟨ka1, ka2, ka3, ka4⟩ := after2n hba; obtain ⟨x0, x1, x2, x3, x4, x5⟩ := facts6 ka1)
    | (go_at_call 54; refine (copy_walk _ id n1 n2 n3 ws ms nw nm xw xm _ _ (F.below ka4)).mono ?_; rintro x wb ⟨ws', ms', xs0, rfl, D⟩; obtain ⟨aw, cw, rfl⟩ := row_form D.wo; obtain ⟨am, cm, rfl⟩ := row_form D.mo))
  have Q0 := Q.start (.slice aw nw cw) ka1 ka2 ka3 ka4 D
  have L0 := D.other
  generalize wb.alloc (boxObj (.string id) (.int .i64 n1) (.int .i64 n2) (.int .i64 n3) (.slice aw nw cw) (.slice am nm cm)) = wl at Q0 ⊢
  generalize wb.heap.size = o at Q0 ⊢
  obtain ⟨d0, d1, d2, d3, d4, d5⟩ := facts6 Q0.bo
  obtain ⟨⟨t0, t1, t2, t3, t4, t5⟩, y0, y1, y2, y3, y4, y5⟩ := facts6z Q0.b1
  go_wp2_with fail
  refine bodyPost_ret (v := .tuple #[.agg #[.string id, .int .i64 n1, .int .i64 n2, .int .i64 n3, .slice aw nw cw, .slice am nm cm], .int .i64 0]) (by simp [results, Tryz.results22, go_sem, t0, t1, t2, t3, t4, t5]) rfl ?_
  refine Q0.same L0 ?f1 ?f2 ?f3 ?f4 ?f5
  case f1 =>
    intro k hk1 hk2
    simp only [World.setCell, Array.getElem?_modify]
    simp only [if_neg (show ¬ w.heap.size + 1 = k from fun e => hk2 e.symm)]
  case f2 => simp only [World.setCell, Array.size_modify]
  case f3 => simp only [World.setCell]
  case f4 => simp only [World.setCell]
  case f5 => simp only [World.setCell]
end LA
end Go.Proofs.YtmkkljbfmdngfaaGreatDoor
