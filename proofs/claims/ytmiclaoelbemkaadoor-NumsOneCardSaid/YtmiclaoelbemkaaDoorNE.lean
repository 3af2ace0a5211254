/- strings.Builder's Grow at a builder that was not written, walked. No condition. -/
import Derived.Test.YtmiclaoelbemkaaDoorNC
import Derived.Test.YtmiclaoelbemkaaDoorND
set_option linter.all false
namespace Go.Proofs.YtmiclaoelbemkaaDoor
namespace NB
open Go.RowKit Go.Shelf Go.Lib

theorem roomed_wrote {w w1 w' : World} {b : Nat} {v0 : Value} (hbk : w.heap[b]? = some (.cells #[v0, .slice none 0 0] 55 (0, 0))) (hbk1 : w1.heap[b]? = some (.cells #[.pointer (some ⟨b, 0, none⟩), .slice none 0 0] 55 (0, 0))) (hg1 : w.grownBy w1 (some b))
    (h : Roomed w1 w' b) : ∃ v', Wrote w w' b (.slice none 0 0) v' [] := by
  obtain ⟨cs, hcs, hh⟩ := h.heap
  have hlt : b < w1.heap.size := (Array.getElem?_eq_some_iff.1 hbk1).1
  have hsz : ((w1.setRow b #[.pointer (some ⟨b, 0, none⟩), .slice (some ⟨w1.heap.size, 0, none⟩) 0 cs.size]).alloc (.cells cs 5)).heap.size = w1.heap.size + 1 := by simp
  have hnew := heap_alloc_new (w1.setRow b #[.pointer (some ⟨b, 0, none⟩), .slice (some ⟨w1.heap.size, 0, none⟩) 0 cs.size]) (.cells cs 5)
  have hs1 : (w1.setRow b #[.pointer (some ⟨b, 0, none⟩), .slice (some ⟨w1.heap.size, 0, none⟩) 0 cs.size]).heap.size = w1.heap.size := by simp
  rw [hs1] at hnew
  refine ⟨.slice (some ⟨w1.heap.size, 0, none⟩) 0 cs.size, ?_, ?_, ?_, ?_, fun k hk hkb _ => ?_, ?_, ?_, fun g hg => ?_⟩
  · rw [h.os, hg1.os]
  · rw [h.tape, hg1.tape]
  · rw [h.output, hg1.output]
  · rw [hh, hsz]; have := hg1.size; omega
  · rw [hh, heap_alloc_old _ _ (by rw [hs1]; have := hg1.size; omega), setRow_other w1 b k _ hkb, hg1.block k hk (by simpa using hkb)]
  · rw [hh, heap_alloc_old _ _ (by rw [hs1]; exact hlt), setRow_heap w1 b _ _ 55 (0, 0) hbk1]
  · refine ⟨rfl, .inr ⟨w1.heap.size, cs.size, cs, (0, 0), rfl, Nat.zero_le _, by rw [hh]; exact hnew, Nat.zero_le _, Nat.zero_le _, hcs, by simp, by simp [byteCells]⟩⟩
  · simp [Value.ownBlock] at hg
    exact .inr (by have := hg1.size; omega)

theorem same_wrote {w w1 : World} {b : Nat} {v0 : Value} (hbk1 : w1.heap[b]? = some (.cells #[.pointer (some ⟨b, 0, none⟩), .slice none 0 0] 55 (0, 0))) (hg1 : w.grownBy w1 (some b)) : ∃ v', Wrote w w1.drew b (.slice none 0 0) v' [] :=
  ⟨.slice none 0 0, hg1.os, hg1.tape, hg1.output, hg1.size, fun k hk hkb _ => hg1.block k hk (by simpa using hkb), hbk1, World.ownsRowF_nil _ 0 5 1, fun g hg => by simp [Value.ownBlock] at hg⟩

set_option maxHeartbeats 2000000 in
set_option maxRecDepth 1000000 in
theorem Grow (w : World) (b n : Nat) (v0 : Value) (hbk : w.heap[b]? = some (.cells #[v0, .slice none 0 0] 55 (0, 0))) (h0 : v0 = .pointer none ∨ v0 = .pointer (some ⟨b, 0, none⟩)) (hn : n ≤ 140737488355328) :
    Calls Tryd.prog 29 #[.pointer (some ⟨b, 0, none⟩), .int .i64 n] w fun e w' => e = .returned (.tuple #[]) ∧ ∃ v', Wrote w w' b (.slice none 0 0) v' [] := by
  have hchk : Calls Tryd.prog 37 #[.pointer (some ⟨b, 0, none⟩)] w fun e w' => e = .returned (.tuple #[]) ∧ w'.heap[b]? = some (.cells #[.pointer (some ⟨b, 0, none⟩), .slice none 0 0] 55 (0, 0)) ∧ w.grownBy w' (some b) := by
    rcases h0 with rfl | rfl
    · refine (check_fresh w b (by rw [Lib.cell_of_heap hbk]; rfl) (by simp [World.shape?, hbk]) (Lib.frozen_of_heap hbk 0)).mono ?_
      rintro e w' ⟨rfl, rfl⟩
      refine ⟨rfl, by simp [World.setCell, Array.getElem?_modify, hbk], ⟨rfl, rfl, rfl, by simp [World.setCell], fun k _ hk => ?_⟩⟩
      simp only [World.setCell, Array.getElem?_modify]
      rw [if_neg (fun e => hk (by simp [e]))]
    · refine (check_used w b (by rw [Lib.cell_of_heap hbk]; rfl)).mono ?_
      rintro e w' ⟨rfl, rfl⟩
      exact ⟨rfl, hbk, ⟨rfl, rfl, rfl, Nat.le_refl _, fun _ _ _ => rfl⟩⟩
  have mixed : Tryd.prog.follows Departure.mixedOrders = true := by kernel_rfl
  have e37 : ∀ args w, (callFunc 37 args).run Tryd.prog w = .ok (.enter 37 args) w := enters_of Tryd.func37 (by kernel_rfl) rfl
  have e38 : ∀ args w, (callFunc 38 args).run Tryd.prog w = .ok (.enter 38 args) w := enters_of Tryd.func38 (by kernel_rfl) rfl
  go_enter Tryd.func29, Tryd.ntmps29
  go_wp2_with (go_at_fn 37; refine hchk.mono ?_)
  rintro e w1 ⟨rfl, hbk1, hg1⟩
  have c1 : w1.drew.cell? ⟨b, 1, none⟩ = some (.slice none 0 0) := by
    have : w1.drew.heap[b]? = some (.cells #[.pointer (some ⟨b, 0, none⟩), .slice none 0 0] 55 (0, 0)) := hbk1
    rw [Lib.cell_of_heap this]; rfl
  have c1' : w1.cell? ⟨b, 1, none⟩ = some (.slice none 0 0) := c1
  go_wp2
  go_region_o
  all_goals go_wp2_with (go_at_fn 38; refine (grow_fresh w1.drew b n hbk1 hn).mono ?_; rintro e w' ⟨rfl, h1⟩)
  all_goals first
    | (go_end0; exact ⟨rfl, roomed_wrote hbk hbk1 hg1 ⟨h1.os, h1.tape, h1.output, h1.heap⟩⟩)
    | (go_end0; exact ⟨rfl, same_wrote (v0 := v0) hbk1 hg1⟩)
end NB
end Go.Proofs.YtmiclaoelbemkaaDoor
