/- strings.Builder, walked. No condition. -/
import Derived.Test.YtmiclaoelbemkaaDoorProg
import Derived.Shelf.RegionOpenPlain
import Derived.Lib.Strings
import Derived.Lib.Slices
import Derived.Lib.Walk
import Derived.Lib.Builder
import Derived.Lib.AppendStr
import Derived.Lib.UnsafeStr
import Derived.Lib.MakeNoZero
import Derived.WalkKit
import Derived.Laws.Externs
import Derived.Laws.IdiomCopy
import Derived.Laws.Tables
import Derived.KernelRfl
set_option linter.all false
namespace Go.Proofs.YtmiclaoelbemkaaDoor
namespace NB
open Go.RowKit Go.Shelf
theorem sizeB : (Tryd.prog.info? 55).map (·.size) = some 2 := by kernel_rfl
theorem liesB : liesAt Tryd.prog Tryd.prog.depth 55 (2 / Tryd.prog.cellsOf 55) 0 55 1 = true := by kernel_rfl
theorem cellsByte : Tryd.prog.cellsOf 5 = 1 := by kernel_rfl
theorem sizeByte : (Tryd.prog.info? 5).map (·.size) = some 1 := by kernel_rfl

set_option maxRecDepth 100000 in
theorem check_fresh (w : World) (b : Nat) (h : w.cell? ⟨b, 0, none⟩ = some (.pointer none)) (hsh : w.shape? b = some (55, 2)) (hfz : w.frozen? ⟨b, 0, none⟩ = false) :
    Calls Tryd.prog 37 #[.pointer (some ⟨b, 0, none⟩)] w fun e w' => e = .returned (.tuple #[]) ∧ w' = w.setCell ⟨b, 0, none⟩ (.pointer (some ⟨b, 0, none⟩)) := by
  obtain ⟨j, hj, hjs⟩ := Option.map_eq_some_iff.1 sizeB
  go_enter Tryd.func37, Tryd.ntmps37
  go_wp2
  rw [Lib.run_to_unsafe w ⟨b, 0, none⟩ Tryd.underlying52 Tryd.underlying80 hj (by rw [hjs]; decide) hsh (Nat.zero_lt_succ 1)]
  simp only [Result.andThen]
  rw [Oper.upon_value]
  go_wp2
  rw [run_callFunc_extern Tryd.func55 (by kernel_rfl) (by kernel_rfl) (by kernel_rfl) (e := Extern.AbiNoEscape.same) (by kernel_rfl)]
  rw [Lib.run_noEscape]
  simp only [Result.andThen]
  rw [Oper.upon_value]
  go_wp2
  rw [Lib.run_from_unsafe w ⟨b, 0, none⟩ Tryd.underlying80 Tryd.underlying52 hj hsh liesB]
  simp only [Result.andThen]
  rw [Oper.upon_value]
  go_wp2
  go_end0
  exact ⟨rfl, rfl⟩
set_option maxRecDepth 100000 in
theorem check_used (w : World) (b : Nat) (h : w.cell? ⟨b, 0, none⟩ = some (.pointer (some ⟨b, 0, none⟩))) :
    Calls Tryd.prog 37 #[.pointer (some ⟨b, 0, none⟩)] w fun e w' => e = .returned (.tuple #[]) ∧ w' = w := by
  obtain ⟨j, hj, hjs⟩ := Option.map_eq_some_iff.1 sizeB
  go_enter Tryd.func37, Tryd.ntmps37
  go_wp2
  rw [Lib.run_neq_ptr_same w _ Tryd.underlying52 hj]
  go_wp2
  go_end0
  exact ⟨rfl, rfl⟩

/-- The text of a builder's bytes: the world but for draws, and the bytes frozen. -/
structure Froze (w w' : World) (g n : Nat) : Prop where
  os : w'.os = w.os
  tape : w'.tape = w.tape
  output : w'.output = w.output
  size : w'.heap.size = w.heap.size
  block : ∀ k, k ≠ g → w'.heap[k]? = w.heap[k]?
  row : ∀ cur e fz, w.heap[g]? = some (.cells cur e fz) → fz.2 ≤ n → ∃ fz', w'.heap[g]? = some (.cells cur e fz') ∧ fz'.2 ≤ n

theorem froze_freeze (w : World) (g n : Nat) : Froze w (w.drew.freeze ⟨g, 0, none⟩ n) g n := by
  have e : w.drew.heap = w.heap := rfl
  unfold World.freeze
  split
  · exact ⟨rfl, rfl, rfl, rfl, fun _ _ => rfl, fun cur e fz h h2 => ⟨fz, h, h2⟩⟩
  · refine ⟨rfl, rfl, rfl, ?_, fun k hk => ?_, fun cur ty fz h h2 => ?_⟩
    · simp only [e, Array.size_modify]
    · simp only [e, Array.getElem?_modify]
      rw [if_neg (Ne.symm hk)]
    · simp only [e, Array.getElem?_modify, h, if_true, Option.map_some]
      refine ⟨_, rfl, ?_⟩
      split
      · simp
      · simp; omega

set_option maxHeartbeats 1000000 in
set_option maxRecDepth 100000 in
theorem text (w : World) (b g cap : Nat) (p : Value) (l : List UInt8) (cur : Array Value) (hbk : w.heap[b]? = some (.cells #[p, .slice (some ⟨g, 0, none⟩) l.length cap] 55 (0, 0))) (h0 : l ≠ []) (fz : Nat × Nat) (hg : w.heap[g]? = some (.cells cur 5 fz)) (hnc : l.length ≤ cap) (hcm : cap ≤ maxLen) (hcs : cur.size = cap)
    (htake : cur.toList.take l.length = Lib.byteCells l) :
    Calls Tryd.prog 31 #[.pointer (some ⟨b, 0, none⟩)] w fun e w' => e = .returned (.string ⟨l.toArray⟩) ∧ Froze w w' g l.length := by
  have hl0 : l.length ≠ 0 := by simpa using h0
  have c1 : w.drew.cell? ⟨b, 1, none⟩ = some (.slice (some ⟨g, 0, none⟩) l.length cap) := by
    have : w.drew.heap[b]? = some (.cells #[p, .slice (some ⟨g, 0, none⟩) l.length cap] 55 (0, 0)) := hbk
    rw [Lib.cell_of_heap this]; rfl
  have hg' : w.drew.heap[g]? = some (.cells cur 5 fz) := hg
  have hSD : ∀ (ts : Array TypeId) (ty : TypeId), (Builtin.unsafeSliceData_ ts ty #[.slice (some ⟨g, 0, none⟩) l.length cap]).run Tryd.prog w.drew = .ok (.pointer (some ⟨g, 0, none⟩)) w.drew := fun ts ty =>
    Lib.run_unsafeSliceData_row _ _ _ _ _ _ (by omega)
  have hUS : (Builtin.unsafeString_ #[66, 3] 9 #[.pointer (some ⟨g, 0, none⟩), .int .i64 l.length]).run Tryd.prog w.drew = .ok (.string ⟨l.toArray⟩) (w.drew.freeze ⟨g, 0, none⟩ l.length) := by
    refine Lib.run_unsafeString_row w.drew 66 3 9 5 Tryd.underlying66 cellsByte g cur.size (by simp [World.shape?, hg']) l h0 (by omega) (by unfold maxLen at hcm; omega) ?_
    intro j x hx
    have : (Lib.byteCells l)[j]? = some (.int .u8 x.toNat) := by simp [Lib.byteCells, hx]
    rw [← htake, List.getElem?_take] at this
    split at this
    · have hadd : (⟨g, 0, none⟩ : Addr).add j = ⟨g, j, none⟩ := by unfold Addr.add; split <;> simp_all
      rw [hadd, Lib.cell_of_heap hg']; simpa using this
    · cases this
  have mixed : Tryd.prog.follows Departure.mixedOrders = true := by kernel_rfl
  go_enter Tryd.func31, Tryd.ntmps31
  go_wp2
  go_region_o
  all_goals (go_wp2; go_ret; exact ⟨rfl, froze_freeze w g _⟩)

/-- The text of a builder that holds nothing. -/
structure Same (w w' : World) : Prop where
  os : w'.os = w.os
  tape : w'.tape = w.tape
  output : w'.output = w.output
  size : w.heap.size ≤ w'.heap.size
  block : ∀ k, k < w.heap.size → w'.heap[k]? = w.heap[k]?
theorem Same.drew (w : World) : Same w w.drew := ⟨rfl, rfl, rfl, Nat.le_refl _, fun _ _ => rfl⟩
theorem Same.view (w : World) (o : Obj) : Same w (w.drew.alloc o) := ⟨rfl, rfl, rfl, by show _ ≤ (w.heap.push o).size; simp, fun k hk => heap_alloc_old w.drew o hk⟩

set_option maxHeartbeats 1000000 in
set_option maxRecDepth 100000 in
theorem text_nil (w : World) (b : Nat) (p : Value) (hbk : w.heap[b]? = some (.cells #[p, .slice none 0 0] 55 (0, 0))) :
    Calls Tryd.prog 31 #[.pointer (some ⟨b, 0, none⟩)] w fun e w' => e = .returned (.string .empty) ∧ Same w w' := by
  have c1 : w.drew.cell? ⟨b, 1, none⟩ = some (.slice none 0 0) := by
    have : w.drew.heap[b]? = some (.cells #[p, .slice none 0 0] 55 (0, 0)) := hbk
    rw [Lib.cell_of_heap this]; rfl
  have hSD : ∀ (ts : Array TypeId) (ty : TypeId), (Builtin.unsafeSliceData_ ts ty #[.slice none 0 0]).run Tryd.prog w.drew = .ok (.pointer none) w.drew := fun ts ty => rfl
  have hUS : (Builtin.unsafeString_ #[66, 3] 9 #[.pointer none, .int .i64 0]).run Tryd.prog w.drew = .ok (.string .empty) w.drew := Lib.run_unsafeString_none _ _ _ _ _
  have mixed : Tryd.prog.follows Departure.mixedOrders = true := by kernel_rfl
  go_enter Tryd.func31, Tryd.ntmps31
  go_wp2
  go_region_o
  all_goals (go_wp2; go_ret; exact ⟨rfl, Same.drew w⟩)
set_option maxHeartbeats 1000000 in
set_option maxRecDepth 100000 in
theorem text_none (w : World) (b g cap : Nat) (p : Value) (hbk : w.heap[b]? = some (.cells #[p, .slice (some ⟨g, 0, none⟩) 0 cap] 55 (0, 0))) (hc : cap ≠ 0) :
    Calls Tryd.prog 31 #[.pointer (some ⟨b, 0, none⟩)] w fun e w' => e = .returned (.string .empty) ∧ Same w w' := by
  have c1 : w.drew.cell? ⟨b, 1, none⟩ = some (.slice (some ⟨g, 0, none⟩) 0 cap) := by
    have : w.drew.heap[b]? = some (.cells #[p, .slice (some ⟨g, 0, none⟩) 0 cap] 55 (0, 0)) := hbk
    rw [Lib.cell_of_heap this]; rfl
  have hSD : ∀ (ts : Array TypeId) (ty : TypeId), (Builtin.unsafeSliceData_ ts ty #[.slice (some ⟨g, 0, none⟩) 0 cap]).run Tryd.prog w.drew = .ok (.pointer (some ⟨g, 0, none⟩)) w.drew := fun ts ty =>
    Lib.run_unsafeSliceData_row _ _ _ _ _ _ hc
  have hUS : (Builtin.unsafeString_ #[66, 3] 9 #[.pointer (some ⟨g, 0, none⟩), .int .i64 0]).run Tryd.prog w.drew = .ok (.string .empty) w.drew := Lib.run_unsafeString_none _ _ _ _ _
  have mixed : Tryd.prog.follows Departure.mixedOrders = true := by kernel_rfl
  go_enter Tryd.func31, Tryd.ntmps31
  go_wp2
  go_region_o
  all_goals (go_wp2; go_ret; exact ⟨rfl, Same.drew w⟩)
set_option maxHeartbeats 1000000 in
set_option maxRecDepth 100000 in
theorem text_zero (w : World) (b g : Nat) (p : Value) (cur : Array Value) (fz : Nat × Nat) (hbk : w.heap[b]? = some (.cells #[p, .slice (some ⟨g, 0, none⟩) 0 0] 55 (0, 0))) (hg : w.heap[g]? = some (.cells cur 5 fz)) :
    Calls Tryd.prog 31 #[.pointer (some ⟨b, 0, none⟩)] w fun e w' => e = .returned (.string .empty) ∧ Same w w' := by
  have c1 : w.drew.cell? ⟨b, 1, none⟩ = some (.slice (some ⟨g, 0, none⟩) 0 0) := by
    have : w.drew.heap[b]? = some (.cells #[p, .slice (some ⟨g, 0, none⟩) 0 0] 55 (0, 0)) := hbk
    rw [Lib.cell_of_heap this]; rfl
  have hg' : w.drew.heap[g]? = some (.cells cur 5 fz) := hg
  have hSD : (Builtin.unsafeSliceData_ #[53] 66 #[.slice (some ⟨g, 0, none⟩) 0 0]).run Tryd.prog w.drew = .ok (.pointer (some ⟨w.drew.heap.size, 0, none⟩)) (w.drew.alloc (.view ⟨g, 0, none⟩ 5)) :=
    Lib.run_unsafeSliceData_zero _ _ 66 5 Tryd.underlying66 _ 0 (5, cur.size) (by simp [World.shape?, hg'])
  have hlt : b < w.heap.size := (Array.getElem?_eq_some_iff.1 hbk).1
  have c2 : (w.drew.alloc (.view ⟨g, 0, none⟩ 5)).cell? ⟨b, 1, none⟩ = some (.slice (some ⟨g, 0, none⟩) 0 0) := by
    rw [World.cell?_of_block (heap_alloc_old w.drew _ hlt)]; exact c1
  have c3 : (w.alloc (.view ⟨g, 0, none⟩ 5)).drew.cell? ⟨b, 1, none⟩ = some (.slice (some ⟨g, 0, none⟩) 0 0) := c2
  have c4 : w.cell? ⟨b, 1, none⟩ = some (.slice (some ⟨g, 0, none⟩) 0 0) := c1
  have hUS : ∀ (q : Option Addr) (W : World), (Builtin.unsafeString_ #[66, 3] 9 #[.pointer q, .int .i64 0]).run Tryd.prog W = .ok (.string .empty) W := fun q W => Lib.run_unsafeString_none _ _ _ _ _
  have mixed : Tryd.prog.follows Departure.mixedOrders = true := by kernel_rfl
  go_enter Tryd.func31, Tryd.ntmps31
  go_wp2
  go_region_o
  all_goals (go_wp2; go_ret; exact ⟨rfl, Same.view w _⟩)
end NB
end Go.Proofs.YtmiclaoelbemkaaDoor
