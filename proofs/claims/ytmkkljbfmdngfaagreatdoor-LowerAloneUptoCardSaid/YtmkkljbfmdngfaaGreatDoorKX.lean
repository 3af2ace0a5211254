/- strings.Builder's room, walked. No condition. -/
import Derived.Test.YtmkkljbfmdngfaaGreatDoorG2
import Derived.Shelf.RegionOpenPlain
import Derived.Lib.Strings
import Derived.Lib.Slices
import Derived.Lib.Walk
import Derived.Lib.Builder
import Derived.Lib.AppendStr
import Derived.Lib.UnsafeStr
import Derived.Lib.MakeNoZero
import Derived.WalkKit
import Derived.Laws.Externs
import Derived.Laws.IdiomCopy
import Derived.Laws.Tables
import Derived.KernelRfl
import Derived.Lib.FrozenHead
set_option linter.all false
namespace Go.Proofs.YtmkkljbfmdngfaaGreatDoor
namespace NT
open NB
open Go.RowKit Go.Shelf
/-- Room was made: a new row, the buffer at its front; nothing else turned. -/
structure Roomed (w w' : World) (b : Nat) : Prop where
  os : w'.os = w.os
  tape : w'.tape = w.tape
  output : w'.output = w.output
  heap : ∃ cs : Array Value, cs.size ≤ maxLen ∧ w'.heap = ((w.setRow b #[.pointer (some ⟨b, 0, none⟩), .slice (some ⟨w.heap.size, 0, none⟩) 0 cs.size]).alloc (.cells cs 5)).heap

set_option maxHeartbeats 1000000 in
set_option maxRecDepth 1000000 in
theorem grow_fresh (w : World) (b n : Nat) (hbk : w.heap[b]? = some (.cells #[.pointer (some ⟨b, 0, none⟩), .slice none 0 0] 167 (0, 0))) (hn : n ≤ 140737488355328) :
    Calls Tryz.prog 178 #[.pointer (some ⟨b, 0, none⟩), .int .i64 n] w fun e w' => e = .returned (.tuple #[]) ∧ Roomed w w' b := by
  obtain ⟨cs, hrun, hle, hmax⟩ := Lib.run_makeNoZero (P := Tryz.prog) w.drew #[3] 31 5 Tryz.underlying31 n (by omega)
  have hw : IntKind.i64.wrap (IntKind.i64.wrap 0 + (n : Int)) = n := by
    rw [IntKind.wrap_i64, IntKind.wrap_i64]
    omega
  have hcall : (callFunc 199 #[.int .i64 (IntKind.i64.wrap (IntKind.i64.wrap 0 + (n : Int)))]).run Tryz.prog w.drew = .ok (.value (.slice (some ⟨w.drew.heap.size, 0, none⟩) n cs.size)) (w.drew.drew.drew.alloc (.cells cs 5)) := by
    rw [hw, run_callFunc_extern Tryz.func199 (by kernel_rfl) (by kernel_rfl) (by kernel_rfl) (e := Extern.BytealgMakeNoZero.makeNoZero #[3] #[31]) (by kernel_rfl), hrun]
    rfl
  have c1 : w.drew.cell? ⟨b, 1, none⟩ = some (.slice none 0 0) := by
    have : w.drew.heap[b]? = _ := hbk
    rw [Lib.cell_of_heap this]; rfl
  have hlt : b < w.heap.size := (Array.getElem?_eq_some_iff.1 hbk).1
  have hbk2 : (w.alloc (.cells cs 5)).heap[b]? = some (.cells #[.pointer (some ⟨b, 0, none⟩), .slice none 0 0] 167 (0, 0)) := (Lib.alloc_old w _ b hlt).trans hbk
  have c2 : (w.alloc (.cells cs 5)).cell? ⟨b, 1, none⟩ = some (.slice none 0 0) := by rw [Lib.cell_of_heap hbk2]; rfl
  have f2 : (w.alloc (.cells cs 5)).frozen? ⟨b, 1, none⟩ = false := Lib.frozen_of_heap hbk2 1
  have hcopy : ∀ W : World, (Builtin.copy_ #[31, 31] 3 #[.slice (some ⟨w.heap.size, 0, none⟩) 0 cs.size, .slice none 0 0]).run Tryz.prog W = .ok (goInt 0) W :=
    fun W => run_copy_none W 31 31 3 5 _ _ 0 cs.size 0 0 Tryz.underlying31 sizeByte rfl
  clear hw
  have hfin : ∀ w' : World, w'.os = w.os → w'.tape = w.tape → w'.output = w.output → w'.heap = ((w.setCell ⟨b, 1, none⟩ (.slice (some ⟨w.heap.size, 0, none⟩) 0 cs.size)).alloc (.cells cs 5)).heap → Roomed w w' b := by
    intro w' h1 h2 h3 h4
    refine ⟨h1, h2, h3, cs, hmax (by unfold maxLen; omega), ?_⟩
    rw [h4, setCell_eq_setRow _ _ _ _ _ _ _ hbk]
    rfl
  have mixed : Tryz.prog.follows Departure.mixedOrders = true := by kernel_rfl
  go_enter Tryz.func178, Tryz.ntmps178
  go_wp2
  go_region_o
  all_goals (go_wp2; go_end0; exact ⟨rfl, hfin _ rfl rfl rfl rfl⟩)
end NT
end Go.Proofs.YtmkkljbfmdngfaaGreatDoor

namespace Go.Proofs.YtmkkljbfmdngfaaGreatDoor
namespace NT
open NB
open Go.RowKit Go.Shelf Go.Lib
variable {P : Program}

theorem append_text (w : World) (t u ty e : TypeId) (i : TypeInfo) (ht : P.underlying t = some (.slice e)) (hu : P.underlying u = some .string) (hi : P.info? e = some i) (hz : i.zero = some (.int .u8 0))
    (hsize : i.size = 1) (hby : i.bytes = 1) (v : Value) (n : Nat) (xs : List Value) (hown : w.ownsRowF 0 e 1 v n xs) (s : ByteArray) (h63 : n + s.size ≤ maxLen) (hbytes : n + s.size ≤ 140737488355328) :
    ∃ v' w', (Builtin.append_ #[t, u] ty #[v, .string s]).run P w = .ok v' w' ∧ w'.ownsRowF 0 e 1 v' (n + s.size) (xs ++ strCells s) ∧ w.grownBy w' v.ownBlock ∧ ∀ g, v'.ownBlock = some g → v.ownBlock = some g ∨ w.heap.size ≤ g := by
  by_cases hv : v.ownBlock = none
  · have hown2 : w.ownsRowF w.heap.size e 1 v n xs := by
      refine ⟨hown.1, ?_⟩
      rcases hown.2 with h | ⟨g, cap, cur, fz, h, _⟩
      · exact .inl h
      · rw [h] at hv; simp [Value.ownBlock] at hv
    obtain ⟨v', w', h1, h2, h3, _⟩ := run_append_own_stringF (P := P) w w.heap.size t u ty e i ht hu hi hz hsize hby v n xs hown2 s h63 hbytes (Nat.le_refl _)
    refine ⟨v', w', h1, ⟨h2.1, ?_⟩, h3, fun g hg => .inr (h2.lt g hg).1⟩
    rcases h2.2 with h | ⟨g, cap, cur, fz, q1, _, q2⟩
    · exact .inl h
    · exact .inr ⟨g, cap, cur, fz, q1, Nat.zero_le _, q2⟩
  · obtain ⟨g, hg⟩ := Option.ne_none_iff_exists'.1 hv
    obtain ⟨v', w', h1, h2, h3, h4⟩ := run_append_own_stringF (P := P) w 0 t u ty e i ht hu hi hz hsize hby v n xs hown s h63 hbytes (Nat.zero_le _)
    refine ⟨v', w', h1, h2, h3, fun g' hg' => ?_⟩
    rcases hown.2 with ⟨q, _⟩ | ⟨g0, cap, cur, fz, rfl, _, hgg, hfz, hnc, hcm, hcs, htake⟩
    · rw [q] at hg; simp [Value.ownBlock] at hg
    · by_cases hroom : n + s.size ≤ cap
      · have hr := run_append_room_stringF (P := P) w t u ty e i ht hu hi hsize g0 n cap cur fz hgg (by simpa using hfz) s hroom (by omega)
        rw [h1] at hr
        injection hr with hr _
        rw [hr] at hg'
        exact .inl (by simpa [Value.ownBlock] using hg')
      · have hxl : xs.length = n := by simpa using hown.1
        have hr := run_append_grow_string (P := P) w t u ty e i (.int .u8 0) ht hu hi hz ⟨g0, 0, none⟩ n cap xs (by rw [hsize]; simpa using hxl) (hown.cells (g := g0) rfl) s (by omega) (by simp only [maxLen] at h63; omega) (by rw [hby]; exact growslice_fits (by omega) (by omega))
        rw [h1] at hr
        injection hr with hr _
        rw [hr] at hg'
        simp [Value.ownBlock] at hg'
        exact .inr (by omega)

theorem wpList_append_text {w : World} {ops : Array Oper} {rest : List Oper} {o : Oper} {a : Act} {Q : Exit → Act → World → Prop} (hgd : o.guard = none) (sl x : Operand) (t u : TypeId)
    (ho : o.op = .call { callee := .builtin .append, args := #[sl, x], argTypes := #[t, u] })
    (e : TypeId) (i : TypeInfo) (ht : P.underlying t = some (.slice e)) (hu : P.underlying u = some .string) (hi : P.info? e = some i) (hz : i.zero = some (.int .u8 0))
    (hsize : i.size = 1) (hby : i.bytes = 1)
    (v : Value) (n : Nat) (xs : List Value) (hs : a.eval sl = v) (hown : w.ownsRowF 0 e 1 v n xs) (s : ByteArray) (hx : a.eval x = .string s)
    (h63 : n + s.size ≤ maxLen) (hbytes : n + s.size ≤ 140737488355328)
    (h : ∀ v' w', w'.ownsRowF 0 e 1 v' (n + s.size) (xs ++ strCells s) → w.grownBy w' v.ownBlock → (∀ g, v'.ownBlock = some g → v.ownBlock = some g ∨ w.heap.size ≤ g) → wpList P ops Q rest (a.put o.dst v') w') : wpList P ops Q (o :: rest) a w := by
  refine wpList_plain hgd fun K hK => ?_
  obtain ⟨v', w', hr, h2, h3, h4⟩ := append_text (P := P) w t u o.type e i ht hu hi hz hsize hby v n xs hown s h63 hbytes
  unfold Oper.wp execOp
  simp only [ho, resolve, invoke, builtin, Sem.run_bind, Sem.run_pure, Result.andThen_ok, List.map_toArray, List.map_cons, List.map_nil, hs, hx, hr]
  exact hK _ _ (h v' w' h2 h3 h4)

/-- What writing leaves. -/
structure Wrote (w w' : World) (b : Nat) (v v' : Value) (l : List UInt8) : Prop where
  os : w'.os = w.os
  tape : w'.tape = w.tape
  output : w'.output = w.output
  size : w.heap.size ≤ w'.heap.size
  block : ∀ k, k < w.heap.size → k ≠ b → v.ownBlock ≠ some k → w'.heap[k]? = w.heap[k]?
  box : w'.heap[b]? = some (.cells #[.pointer (some ⟨b, 0, none⟩), v'] 167 (0, 0))
  row : w'.ownsRowF 0 5 1 v' l.length (byteCells l)
  own : ∀ g, v'.ownBlock = some g → v.ownBlock = some g ∨ w.heap.size ≤ g

theorem infoByte : (Tryz.prog.info? 5).map (fun i => (i.zero, i.size, i.bytes)) = some (some (.int .u8 0), 1, 1) := by kernel_rfl

set_option maxHeartbeats 1000000 in
set_option maxRecDepth 100000 in
theorem write (w : World) (b : Nat) (v0 v : Value) (l : List UInt8) (s : ByteArray) (hbk : w.heap[b]? = some (.cells #[v0, v] 167 (0, 0))) (h0 : v0 = .pointer none ∨ v0 = .pointer (some ⟨b, 0, none⟩))
    (hown : w.ownsRowF 0 5 1 v l.length (byteCells l)) (hne : v.ownBlock ≠ some b) (hlen : l.length + s.size ≤ 140737488355328) :
    Calls Tryz.prog 143 #[.pointer (some ⟨b, 0, none⟩), .string s] w fun e w' => e = .returned (.tuple #[.int .i64 s.size, .nilIface]) ∧ ∃ v', Wrote w w' b v v' (l ++ s.data.toList) := by
  obtain ⟨i0, hi, hz⟩ := Option.map_eq_some_iff.1 infoByte
  have hz0 : i0.zero = some (.int .u8 0) := by simpa using congrArg (·.1) hz
  have hz1 : i0.size = 1 := by simpa using congrArg (·.2.1) hz
  have hz2 : i0.bytes = 1 := by simpa using congrArg (·.2.2) hz
  have hlt : b < w.heap.size := (Array.getElem?_eq_some_iff.1 hbk).1
  have hchk : Calls Tryz.prog 177 #[.pointer (some ⟨b, 0, none⟩)] w fun e w' => e = .returned (.tuple #[]) ∧ w'.heap[b]? = some (.cells #[.pointer (some ⟨b, 0, none⟩), v] 167 (0, 0)) ∧ w.grownBy w' (some b) := by
    rcases h0 with rfl | rfl
    · refine (check_fresh w b (by rw [Lib.cell_of_heap hbk]; rfl) (by simp [World.shape?, hbk]) (Lib.frozen_of_heap hbk 0)).mono ?_
      rintro e w' ⟨rfl, rfl⟩
      refine ⟨rfl, by simp [World.setCell, Array.getElem?_modify, hbk], ⟨rfl, rfl, rfl, by simp [World.setCell], fun k _ hk => ?_⟩⟩
      simp only [World.setCell, Array.getElem?_modify]
      rw [if_neg (fun e => hk (by simp [e]))]
    · refine (check_used w b (by rw [Lib.cell_of_heap hbk]; rfl)).mono ?_
      rintro e w' ⟨rfl, rfl⟩
      exact ⟨rfl, hbk, ⟨rfl, rfl, rfl, Nat.le_refl _, fun _ _ _ => rfl⟩⟩
  have mixed : Tryz.prog.follows Departure.mixedOrders = true := by kernel_rfl
  have e177 : ∀ args w, (callFunc 177 args).run Tryz.prog w = .ok (.enter 177 args) w := enters_of Tryz.func177 (by kernel_rfl) rfl
  go_enter Tryz.func143, Tryz.ntmps143
  go_wp2_with (go_at_fn 177; refine hchk.mono ?_)
  rintro e w1 ⟨rfl, hbk1, hg1⟩
  have hown1 : w1.ownsRowF 0 5 1 v l.length (byteCells l) := hown.kept hg1 (.inr hne)
  have c0 : w1.cell? ⟨b, 0, none⟩ = some (.pointer (some ⟨b, 0, none⟩)) := by rw [Lib.cell_of_heap hbk1]; rfl
  have c1 : w1.cell? ⟨b, 1, none⟩ = some v := by rw [Lib.cell_of_heap hbk1]; rfl
  go_wp2_with (at_builtin; refine wpList_append_text rfl _ _ 31 9 rfl 5 i0 Tryz.underlying31 Tryz.underlying9 hi hz0 hz1 hz2 _ _ _ rfl hown1 s rfl ?c3 ?c4 ?_)
  case c3 => unfold maxLen; omega
  case c4 => omega
  intro v' w2 hown' hgrow hblk
  have hlt1 : b < w1.heap.size := (Array.getElem?_eq_some_iff.1 hbk1).1
  have hb2 : w2.heap[b]? = some (.cells #[.pointer (some ⟨b, 0, none⟩), v] 167 (0, 0)) := by
    rw [hgrow.block b hlt1 (fun e => hne e.symm)]; exact hbk1
  have d0 : w2.cell? ⟨b, 0, none⟩ = some (.pointer (some ⟨b, 0, none⟩)) := by rw [Lib.cell_of_heap hb2]; rfl
  have d1 : w2.cell? ⟨b, 1, none⟩ = some v := by rw [Lib.cell_of_heap hb2]; rfl
  have f1 : w2.frozen? ⟨b, 1, none⟩ = false := Lib.frozen_of_heap hb2 1
  obtain ⟨ao, n', cap, rfl⟩ : ∃ ao n' cap, v' = .slice ao n' cap := by
    rcases hown'.2 with ⟨hv, _⟩ | ⟨g, cap, cur, fz, hv, _⟩
    · exact ⟨_, _, _, hv⟩
    · exact ⟨_, _, _, hv⟩
  go_wp2
  go_ret2
  refine ⟨rfl, .slice ao n' cap, ?_, ?_, ?_, ?_, fun k hk hkb hkv => ?_, ?_, ?_, fun g hg => ?_⟩
  · show w2.os = _; rw [hgrow.os, hg1.os]
  · show w2.tape = _; rw [hgrow.tape, hg1.tape]
  · show w2.output = _; rw [hgrow.output, hg1.output]
  · have := hgrow.size; have := hg1.size; simp [World.setCell]; omega
  · have q : (w2.setCell ⟨b, 1, none⟩ (.slice ao n' cap)).heap[k]? = w2.heap[k]? := by
      simp only [World.setCell, Array.getElem?_modify]
      rw [if_neg (fun e => hkb e.symm)]
    rw [q, hgrow.block k (by have := hg1.size; omega) (fun e => hkv e.symm), hg1.block k hk (by simpa using hkb)]
  · simp [World.setCell, Array.getElem?_modify, hb2]
  · have h2 : w2.ownsRowF 0 5 1 (.slice ao n' cap) (l ++ s.data.toList).length (byteCells (l ++ s.data.toList)) := by
      have e1 : (l ++ s.data.toList).length = l.length + s.size := by rw [List.length_append, Array.length_toList]; rfl
      rw [e1, byteCells_append]; exact hown'
    refine h2.kept (row := some b) ⟨rfl, rfl, rfl, by simp [World.setCell], fun k _ hk => by
      simp only [World.setCell, Array.getElem?_modify]
      rw [if_neg (fun e => hk (by simp [e]))]⟩ (.inr fun e => ?_)
    rcases hblk b e with h3 | h3
    · exact hne h3
    · omega
  · rcases hblk g hg with h3 | h3
    · exact .inl h3
    · exact .inr (by have := hg1.size; omega)
end NT
end Go.Proofs.YtmkkljbfmdngfaaGreatDoor

namespace Go.Proofs.YtmkkljbfmdngfaaGreatDoor
namespace NT
open NB
open Go.RowKit Go.Shelf Go.Lib

theorem roomed_wrote {w w1 w' : World} {b : Nat} {v0 : Value} (hbk : w.heap[b]? = some (.cells #[v0, .slice none 0 0] 167 (0, 0))) (hbk1 : w1.heap[b]? = some (.cells #[.pointer (some ⟨b, 0, none⟩), .slice none 0 0] 167 (0, 0))) (hg1 : w.grownBy w1 (some b))
    (h : Roomed w1 w' b) : ∃ v', Wrote w w' b (.slice none 0 0) v' [] := by
  obtain ⟨cs, hcs, hh⟩ := h.heap
  have hlt : b < w1.heap.size := (Array.getElem?_eq_some_iff.1 hbk1).1
  have hsz : ((w1.setRow b #[.pointer (some ⟨b, 0, none⟩), .slice (some ⟨w1.heap.size, 0, none⟩) 0 cs.size]).alloc (.cells cs 5)).heap.size = w1.heap.size + 1 := by simp
  have hnew := heap_alloc_new (w1.setRow b #[.pointer (some ⟨b, 0, none⟩), .slice (some ⟨w1.heap.size, 0, none⟩) 0 cs.size]) (.cells cs 5)
  have hs1 : (w1.setRow b #[.pointer (some ⟨b, 0, none⟩), .slice (some ⟨w1.heap.size, 0, none⟩) 0 cs.size]).heap.size = w1.heap.size := by simp
  rw [hs1] at hnew
  refine ⟨.slice (some ⟨w1.heap.size, 0, none⟩) 0 cs.size, ?_, ?_, ?_, ?_, fun k hk hkb _ => ?_, ?_, ?_, fun g hg => ?_⟩
  · rw [h.os, hg1.os]
  · rw [h.tape, hg1.tape]
  · rw [h.output, hg1.output]
  · rw [hh, hsz]; have := hg1.size; omega
  · rw [hh, heap_alloc_old _ _ (by rw [hs1]; have := hg1.size; omega), setRow_other w1 b k _ hkb, hg1.block k hk (by simpa using hkb)]
  · rw [hh, heap_alloc_old _ _ (by rw [hs1]; exact hlt), setRow_heap w1 b _ _ 167 (0, 0) hbk1]
  · refine ⟨rfl, .inr ⟨w1.heap.size, cs.size, cs, (0, 0), rfl, Nat.zero_le _, by rw [hh]; exact hnew, Nat.zero_le _, Nat.zero_le _, hcs, by simp, by simp [byteCells]⟩⟩
  · simp [Value.ownBlock] at hg
    exact .inr (by have := hg1.size; omega)

theorem same_wrote {w w1 : World} {b : Nat} {v0 : Value} (hbk1 : w1.heap[b]? = some (.cells #[.pointer (some ⟨b, 0, none⟩), .slice none 0 0] 167 (0, 0))) (hg1 : w.grownBy w1 (some b)) : ∃ v', Wrote w w1.drew b (.slice none 0 0) v' [] :=
  ⟨.slice none 0 0, hg1.os, hg1.tape, hg1.output, hg1.size, fun k hk hkb _ => hg1.block k hk (by simpa using hkb), hbk1, World.ownsRowF_nil _ 0 5 1, fun g hg => by simp [Value.ownBlock] at hg⟩

set_option maxHeartbeats 2000000 in
set_option maxRecDepth 1000000 in
theorem Grow (w : World) (b n : Nat) (v0 : Value) (hbk : w.heap[b]? = some (.cells #[v0, .slice none 0 0] 167 (0, 0))) (h0 : v0 = .pointer none ∨ v0 = .pointer (some ⟨b, 0, none⟩)) (hn : n ≤ 140737488355328) :
    Calls Tryz.prog 142 #[.pointer (some ⟨b, 0, none⟩), .int .i64 n] w fun e w' => e = .returned (.tuple #[]) ∧ ∃ v', Wrote w w' b (.slice none 0 0) v' [] := by
  have hchk : Calls Tryz.prog 177 #[.pointer (some ⟨b, 0, none⟩)] w fun e w' => e = .returned (.tuple #[]) ∧ w'.heap[b]? = some (.cells #[.pointer (some ⟨b, 0, none⟩), .slice none 0 0] 167 (0, 0)) ∧ w.grownBy w' (some b) := by
    rcases h0 with rfl | rfl
    · refine (check_fresh w b (by rw [Lib.cell_of_heap hbk]; rfl) (by simp [World.shape?, hbk]) (Lib.frozen_of_heap hbk 0)).mono ?_
      rintro e w' ⟨rfl, rfl⟩
      refine ⟨rfl, by simp [World.setCell, Array.getElem?_modify, hbk], ⟨rfl, rfl, rfl, by simp [World.setCell], fun k _ hk => ?_⟩⟩
      simp only [World.setCell, Array.getElem?_modify]
      rw [if_neg (fun e => hk (by simp [e]))]
    · refine (check_used w b (by rw [Lib.cell_of_heap hbk]; rfl)).mono ?_
      rintro e w' ⟨rfl, rfl⟩
      exact ⟨rfl, hbk, ⟨rfl, rfl, rfl, Nat.le_refl _, fun _ _ _ => rfl⟩⟩
  have mixed : Tryz.prog.follows Departure.mixedOrders = true := by kernel_rfl
  have e177 : ∀ args w, (callFunc 177 args).run Tryz.prog w = .ok (.enter 177 args) w := enters_of Tryz.func177 (by kernel_rfl) rfl
  have e178 : ∀ args w, (callFunc 178 args).run Tryz.prog w = .ok (.enter 178 args) w := enters_of Tryz.func178 (by kernel_rfl) rfl
  go_enter Tryz.func142, Tryz.ntmps142
  go_wp2_with (go_at_fn 177; refine hchk.mono ?_)
  rintro e w1 ⟨rfl, hbk1, hg1⟩
  have c1 : w1.drew.cell? ⟨b, 1, none⟩ = some (.slice none 0 0) := by
    have : w1.drew.heap[b]? = some (.cells #[.pointer (some ⟨b, 0, none⟩), .slice none 0 0] 167 (0, 0)) := hbk1
    rw [Lib.cell_of_heap this]; rfl
  have c1' : w1.cell? ⟨b, 1, none⟩ = some (.slice none 0 0) := c1
  go_wp2
  go_region_o
  all_goals go_wp2_with (go_at_fn 178; refine (grow_fresh w1.drew b n hbk1 hn).mono ?_; rintro e w' ⟨rfl, h1⟩)
  all_goals first
    | (go_end0; exact ⟨rfl, roomed_wrote hbk hbk1 hg1 ⟨h1.os, h1.tape, h1.output, h1.heap⟩⟩)
    | (go_end0; exact ⟨rfl, same_wrote (v0 := v0) hbk1 hg1⟩)
end NT
end Go.Proofs.YtmkkljbfmdngfaaGreatDoor
