/- slices.DeleteFunc on keys, by the kit's contract. Condition: sizes. -/
import Derived.Ground.SlgnProg
import Derived.Ground.Names8Prog
import Derived.Shelf.SlicesE.DeleteFunc
import Derived.Test.YtmkkljbfmdngfaaGreatDoorLX
set_option linter.all false
namespace Go.Proofs
open Go.Shelf
def Tryz.laysD10_ren : Go.Shelf.Ren := ⟨fun | 10 => 55 | 6 => 103 | n => n, fun | 22 => 42 | 23 => 3 | 25 => 93 | n => n, fun | n => n⟩
theorem Tryz.laysD10 : Go.Proofs.SlLaysH.n10 Tryz.prog Tryz.laysD10_ren := {
  mixed := by kernel_rfl
  f6 := ⟨Tryz.f103.name, by decide, Tryz.func103.trans (congrArg some (by kernel_rfl))⟩
  f10 := ⟨Tryz.f55.name, by decide, Tryz.func55.trans (congrArg some (by kernel_rfl))⟩
  t0 := Tryz.underlying0
  a0 := Tryz.isAgg0
  z0 := Tryz.sizeOf0
  v0 := Tryz.zeroValue0
  t3 := Tryz.underlying3
  a3 := Tryz.isAgg3
  z3 := Tryz.sizeOf3
  v3 := Tryz.zeroValue3
  t4 := Tryz.underlying4
  a4 := Tryz.isAgg4
  z4 := Tryz.sizeOf4
  v4 := Tryz.zeroValue4
  t22 := Tryz.underlying42
  a22 := Tryz.isAgg42
  z22 := Tryz.sizeOf42
  v22 := Tryz.zeroValue42
  a23 := Tryz.isAgg3
  z23 := Tryz.sizeOf3
  t25 := Tryz.underlying93
  a25 := Tryz.isAgg93
  z25 := Tryz.sizeOf93
  v25 := Tryz.zeroValue93 }
namespace YtmkkljbfmdngfaaGreatDoor
namespace LA
open Go.RowKit Go.Lib Go.Sort
theorem gives56 (x : Int) (W : World) : Calls Tryz.prog 56 #[.int .i64 x] W fun e W' => e = .returned (.bool (decide (32 ≤ x))) ∧ W' = W := by
  go_enter Tryz.func56, Tryz.ntmps56
  go_wp2
  go_ret
  exact ⟨rfl, rfl⟩
theorem fl_eq (ks : List Int) : (ks.toArray.toList.filter fun x => !decide (32 ≤ x)) = fl ks := by
  unfold fl
  congr 1
  funext x
  by_cases h : x < 32
  · rw [decide_eq_true h, decide_eq_false (by omega)]; rfl
  · rw [decide_eq_false h, decide_eq_true (by omega)]; rfl
theorem del_nil (W : World) : Calls Tryz.prog 55 #[.slice none 0 0, .func (.func 56) #[] #[]] W fun x W' => x = .returned (.slice none 0 0) ∧ W' = W := by
  have L6 : SlLaysH.n6 Tryz.prog Tryz.laysD10_ren := { Tryz.laysD10 with }
  have h6 := fun w => AnyE.slices_IndexFunc_empty L6 none 0 (.func (.func 56) #[] #[]) w
  go_enter Tryz.func55, Tryz.ntmps55
  go_wp2_with (go_at_call 103; refine (h6 _).mono ?_; rintro x w' ⟨rfl, rfl⟩)
  go_ret
  exact ⟨rfl, rfl⟩
theorem del55 (a : Nat) (W : World) (kv : Value) (ks : List Int) (h : W.ownsRow a 3 1 kv ks.length (ivs ks)) : Calls Tryz.prog 55 #[kv, .func (.func 56) #[] #[]] W fun x W' => ∃ ao c, x = .returned (.slice ao (fl ks).length c) ∧ (Value.slice ao (fl ks).length c).ownBlock = kv.ownBlock ∧
    W'.ownsRow a 3 1 (.slice ao (fl ks).length c) (fl ks).length (ivs (fl ks)) ∧ (∀ g, g < W.heap.size → kv.ownBlock ≠ some g → W'.heap[g]? = W.heap[g]?) ∧ W.heap.size ≤ W'.heap.size ∧ W'.os = W.os ∧ W'.tape = W.tape ∧ W'.output = W.output := by
  rcases h.2 with ⟨h1, h2⟩ | ⟨g, c, cur, h1, h2, h3, h4, h5, h6, h7⟩
  · obtain rfl : ks = [] := List.eq_nil_of_length_eq_zero h2
    rw [h1]
    refine (del_nil W).mono ?_
    rintro x W' ⟨rfl, rfl⟩
    exact ⟨none, 0, rfl, rfl, ⟨rfl, .inl ⟨rfl, rfl⟩⟩, fun _ _ _ => rfl, Nat.le_refl _, rfl, rfl, rfl⟩
  · have hcur : ∀ j, j < ks.length → cur[j]? = some (Value.int .i64 ks[j]!) := fun j hj => by
      have := congrArg (fun x => x[j]?) h7
      simp only [Nat.mul_one, List.getElem?_take, hj, if_true, Array.getElem?_toList, List.getElem?_map] at this
      rw [this, List.getElem?_eq_getElem hj]; simp [hj]
    have hH : Go.Sort.Holds (Value.int .i64) W g 0 ks.toArray := fun j hj => by
      have hj : j < ks.length := by simpa using hj
      rw [Nat.zero_add]
      refine ⟨by rw [Lib.cell_of_heap h3, hcur j hj]; simp, Lib.frozen_of_heap h3 _⟩
    have eg : ∀ args w, (callFunc 56 args).run Tryz.prog w = .ok (.enter 56 args) w := enters_of Tryz.func56 (by kernel_rfl) rfl
    have hgive : ∀ x w, FnGives Tryz.prog 56 #[] #[Value.int .i64 x] (.bool (decide (32 ≤ x))) w := fun x w => (gives56 x w).mono (by
      rintro e w' ⟨rfl, rfl⟩; exact ⟨rfl, 0, rfl⟩)
    have hm : (ks.length : Nat) ≤ 9223372036854775807 := by unfold maxLen at h5; omega
    have con := AnyE.slices_DeleteFunc Tryz.laysD10 (Value.int .i64) (fun _ => rfl) (fun x => decide (32 ≤ x)) 56 #[] eg 0 Tryz.zeroValue3 g 0 c ks.toArray W (fun w x _ => hgive x w) (fun _ _ _ x _ => hgive x _) hH (by simpa using hm) (by simpa using h4)
    rw [h1]
    have e1 : (fl ks).length ≤ ks.length := List.length_filter_le _ _
    refine (show Calls Tryz.prog 55 #[.slice (some ⟨g, 0, none⟩) ks.length c, .func (.func 56) #[] #[]] W _ from con).mono ?_
    rintro x W' ⟨rfl, q, rfl⟩
    rw [fl_eq]
    obtain ⟨r, hr⟩ : ∃ r, r = (fl ks ++ List.replicate (ks.toArray.size - (fl ks).length) 0) := ⟨_, rfl⟩
    rw [← hr]
    have hrl : r.length = ks.length := by rw [hr]; simp; omega
    have hheap : ∀ k, (putRow (Value.int .i64) (Go.Sort.ahead W q) g 0 r.toArray).heap[k]? = if g = k then some (.cells (putCells (Value.int .i64) 0 r.toArray cur) 3 (0, 0)) else W.heap[k]? := fun k => by
      simp only [putRow, mapBlock, Go.Sort.ahead]
      rw [Array.getElem?_modify]
      split
      · rename_i e; subst e; rw [h3]; rfl
      · rfl
    have hcs : r.toArray.size ≤ cur.size := by simp only [List.size_toArray]; omega
    refine ⟨some ⟨g, 0, none⟩, c, rfl, rfl, ⟨by simp, .inr ⟨g, c, putCells (Value.int .i64) 0 r.toArray cur, rfl, h2, by rw [hheap, if_pos rfl], by omega, h5, by simpa [putCells] using h6, ?_⟩⟩, fun k hk hne => ?_, ?_, rfl, rfl, rfl⟩
    · rw [B.putCells_toList _ _ hcs, hr]
      simp only [Nat.mul_one, List.map_append, List.append_assoc]
      rw [List.take_append_of_le_length (by simp), List.take_of_length_le (by simp)]
    · rw [hheap, if_neg (fun e => hne (by rw [← e]; rfl))]
    · simp [putRow, mapBlock, Go.Sort.ahead]
end LA
end YtmkkljbfmdngfaaGreatDoor
end Go.Proofs
