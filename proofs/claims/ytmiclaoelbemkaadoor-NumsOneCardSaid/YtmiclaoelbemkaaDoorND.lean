/- strings.Builder's WriteString, walked. No condition. -/
import Derived.Test.YtmiclaoelbemkaaDoorNB
import Derived.Lib.FrozenHead
set_option linter.all false
namespace Go.Proofs.YtmiclaoelbemkaaDoor
namespace NB
open Go.RowKit Go.Shelf Go.Lib
variable {P : Program}

theorem append_text (w : World) (t u ty e : TypeId) (i : TypeInfo) (ht : P.underlying t = some (.slice e)) (hu : P.underlying u = some .string) (hi : P.info? e = some i) (hz : i.zero = some (.int .u8 0))
    (hsize : i.size = 1) (hby : i.bytes = 1) (v : Value) (n : Nat) (xs : List Value) (hown : w.ownsRowF 0 e 1 v n xs) (s : ByteArray) (h63 : n + s.size ≤ maxLen) (hbytes : n + s.size ≤ 140737488355328) :
    ∃ v' w', (Builtin.append_ #[t, u] ty #[v, .string s]).run P w = .ok v' w' ∧ w'.ownsRowF 0 e 1 v' (n + s.size) (xs ++ strCells s) ∧ w.grownBy w' v.ownBlock ∧ ∀ g, v'.ownBlock = some g → v.ownBlock = some g ∨ w.heap.size ≤ g := by
  by_cases hv : v.ownBlock = none
  · have hown2 : w.ownsRowF w.heap.size e 1 v n xs := by
      refine ⟨hown.1, ?_⟩
      rcases hown.2 with h | ⟨g, cap, cur, fz, h, _⟩
      · exact .inl h
      · rw [h] at hv; simp [Value.ownBlock] at hv
    obtain ⟨v', w', h1, h2, h3, _⟩ := run_append_own_stringF (P := P) w w.heap.size t u ty e i ht hu hi hz hsize hby v n xs hown2 s h63 hbytes (Nat.le_refl _)
    refine ⟨v', w', h1, ⟨h2.1, ?_⟩, h3, fun g hg => .inr (h2.lt g hg).1⟩
    rcases h2.2 with h | ⟨g, cap, cur, fz, q1, _, q2⟩
    · exact .inl h
    · exact .inr ⟨g, cap, cur, fz, q1, Nat.zero_le _, q2⟩
  · obtain ⟨g, hg⟩ := Option.ne_none_iff_exists'.1 hv
    obtain ⟨v', w', h1, h2, h3, h4⟩ := run_append_own_stringF (P := P) w 0 t u ty e i ht hu hi hz hsize hby v n xs hown s h63 hbytes (Nat.zero_le _)
    refine ⟨v', w', h1, h2, h3, fun g' hg' => ?_⟩
    rcases hown.2 with ⟨q, _⟩ | ⟨g0, cap, cur, fz, rfl, _, hgg, hfz, hnc, hcm, hcs, htake⟩
    · rw [q] at hg; simp [Value.ownBlock] at hg
    · by_cases hroom : n + s.size ≤ cap
      · have hr := run_append_room_stringF (P := P) w t u ty e i ht hu hi hsize g0 n cap cur fz hgg (by simpa using hfz) s hroom (by omega)
        rw [h1] at hr
        injection hr with hr _
        rw [hr] at hg'
        exact .inl (by simpa [Value.ownBlock] using hg')
      · have hxl : xs.length = n := by simpa using hown.1
        have hr := run_append_grow_string (P := P) w t u ty e i (.int .u8 0) ht hu hi hz ⟨g0, 0, none⟩ n cap xs (by rw [hsize]; simpa using hxl) (hown.cells (g := g0) rfl) s (by omega) (by simp only [maxLen] at h63; omega) (by rw [hby]; exact growslice_fits (by omega) (by omega))
        rw [h1] at hr
        injection hr with hr _
        rw [hr] at hg'
        simp [Value.ownBlock] at hg'
        exact .inr (by omega)

theorem wpList_append_text {w : World} {ops : Array Oper} {rest : List Oper} {o : Oper} {a : Act} {Q : Exit → Act → World → Prop} (hgd : o.guard = none) (sl x : Operand) (t u : TypeId)
    (ho : o.op = .call { callee := .builtin .append, args := #[sl, x], argTypes := #[t, u] })
    (e : TypeId) (i : TypeInfo) (ht : P.underlying t = some (.slice e)) (hu : P.underlying u = some .string) (hi : P.info? e = some i) (hz : i.zero = some (.int .u8 0))
    (hsize : i.size = 1) (hby : i.bytes = 1)
    (v : Value) (n : Nat) (xs : List Value) (hs : a.eval sl = v) (hown : w.ownsRowF 0 e 1 v n xs) (s : ByteArray) (hx : a.eval x = .string s)
    (h63 : n + s.size ≤ maxLen) (hbytes : n + s.size ≤ 140737488355328)
    (h : ∀ v' w', w'.ownsRowF 0 e 1 v' (n + s.size) (xs ++ strCells s) → w.grownBy w' v.ownBlock → (∀ g, v'.ownBlock = some g → v.ownBlock = some g ∨ w.heap.size ≤ g) → wpList P ops Q rest (a.put o.dst v') w') : wpList P ops Q (o :: rest) a w := by
  refine wpList_plain hgd fun K hK => ?_
  obtain ⟨v', w', hr, h2, h3, h4⟩ := append_text (P := P) w t u o.type e i ht hu hi hz hsize hby v n xs hown s h63 hbytes
  unfold Oper.wp execOp
  simp only [ho, resolve, invoke, builtin, Sem.run_bind, Sem.run_pure, Result.andThen_ok, List.map_toArray, List.map_cons, List.map_nil, hs, hx, hr]
  exact hK _ _ (h v' w' h2 h3 h4)

/-- What writing leaves. -/
structure Wrote (w w' : World) (b : Nat) (v v' : Value) (l : List UInt8) : Prop where
  os : w'.os = w.os
  tape : w'.tape = w.tape
  output : w'.output = w.output
  size : w.heap.size ≤ w'.heap.size
  block : ∀ k, k < w.heap.size → k ≠ b → v.ownBlock ≠ some k → w'.heap[k]? = w.heap[k]?
  box : w'.heap[b]? = some (.cells #[.pointer (some ⟨b, 0, none⟩), v'] 55 (0, 0))
  row : w'.ownsRowF 0 5 1 v' l.length (byteCells l)
  own : ∀ g, v'.ownBlock = some g → v.ownBlock = some g ∨ w.heap.size ≤ g

theorem infoByte : (Tryd.prog.info? 5).map (fun i => (i.zero, i.size, i.bytes)) = some (some (.int .u8 0), 1, 1) := by kernel_rfl

set_option maxHeartbeats 1000000 in
set_option maxRecDepth 100000 in
theorem write (w : World) (b : Nat) (v0 v : Value) (l : List UInt8) (s : ByteArray) (hbk : w.heap[b]? = some (.cells #[v0, v] 55 (0, 0))) (h0 : v0 = .pointer none ∨ v0 = .pointer (some ⟨b, 0, none⟩))
    (hown : w.ownsRowF 0 5 1 v l.length (byteCells l)) (hne : v.ownBlock ≠ some b) (hlen : l.length + s.size ≤ 140737488355328) :
    Calls Tryd.prog 30 #[.pointer (some ⟨b, 0, none⟩), .string s] w fun e w' => e = .returned (.tuple #[.int .i64 s.size, .nilIface]) ∧ ∃ v', Wrote w w' b v v' (l ++ s.data.toList) := by
  obtain ⟨i0, hi, hz⟩ := Option.map_eq_some_iff.1 infoByte
  have hz0 : i0.zero = some (.int .u8 0) := by simpa using congrArg (·.1) hz
  have hz1 : i0.size = 1 := by simpa using congrArg (·.2.1) hz
  have hz2 : i0.bytes = 1 := by simpa using congrArg (·.2.2) hz
  have hlt : b < w.heap.size := (Array.getElem?_eq_some_iff.1 hbk).1
  have hchk : Calls Tryd.prog 37 #[.pointer (some ⟨b, 0, none⟩)] w fun e w' => e = .returned (.tuple #[]) ∧ w'.heap[b]? = some (.cells #[.pointer (some ⟨b, 0, none⟩), v] 55 (0, 0)) ∧ w.grownBy w' (some b) := by
    rcases h0 with rfl | rfl
    · refine (check_fresh w b (by rw [Lib.cell_of_heap hbk]; rfl) (by simp [World.shape?, hbk]) (Lib.frozen_of_heap hbk 0)).mono ?_
      rintro e w' ⟨rfl, rfl⟩
      refine ⟨rfl, by simp [World.setCell, Array.getElem?_modify, hbk], ⟨rfl, rfl, rfl, by simp [World.setCell], fun k _ hk => ?_⟩⟩
      simp only [World.setCell, Array.getElem?_modify]
      rw [if_neg (fun e => hk (by simp [e]))]
    · refine (check_used w b (by rw [Lib.cell_of_heap hbk]; rfl)).mono ?_
      rintro e w' ⟨rfl, rfl⟩
      exact ⟨rfl, hbk, ⟨rfl, rfl, rfl, Nat.le_refl _, fun _ _ _ => rfl⟩⟩
  have mixed : Tryd.prog.follows Departure.mixedOrders = true := by kernel_rfl
  have e37 : ∀ args w, (callFunc 37 args).run Tryd.prog w = .ok (.enter 37 args) w := enters_of Tryd.func37 (by kernel_rfl) rfl
  go_enter Tryd.func30, Tryd.ntmps30
  go_wp2_with (go_at_fn 37; refine hchk.mono ?_)
  rintro e w1 ⟨rfl, hbk1, hg1⟩
  have hown1 : w1.ownsRowF 0 5 1 v l.length (byteCells l) := hown.kept hg1 (.inr hne)
  have c0 : w1.cell? ⟨b, 0, none⟩ = some (.pointer (some ⟨b, 0, none⟩)) := by rw [Lib.cell_of_heap hbk1]; rfl
  have c1 : w1.cell? ⟨b, 1, none⟩ = some v := by rw [Lib.cell_of_heap hbk1]; rfl
  go_wp2_with (at_builtin; refine wpList_append_text rfl _ _ 53 9 rfl 5 i0 Tryd.underlying53 Tryd.underlying9 hi hz0 hz1 hz2 _ _ _ rfl hown1 s rfl ?c3 ?c4 ?_)
  case c3 => unfold maxLen; omega
  case c4 => omega
  intro v' w2 hown' hgrow hblk
  have hlt1 : b < w1.heap.size := (Array.getElem?_eq_some_iff.1 hbk1).1
  have hb2 : w2.heap[b]? = some (.cells #[.pointer (some ⟨b, 0, none⟩), v] 55 (0, 0)) := by
    rw [hgrow.block b hlt1 (fun e => hne e.symm)]; exact hbk1
  have d0 : w2.cell? ⟨b, 0, none⟩ = some (.pointer (some ⟨b, 0, none⟩)) := by rw [Lib.cell_of_heap hb2]; rfl
  have d1 : w2.cell? ⟨b, 1, none⟩ = some v := by rw [Lib.cell_of_heap hb2]; rfl
  have f1 : w2.frozen? ⟨b, 1, none⟩ = false := Lib.frozen_of_heap hb2 1
  obtain ⟨ao, n', cap, rfl⟩ : ∃ ao n' cap, v' = .slice ao n' cap := by
    rcases hown'.2 with ⟨hv, _⟩ | ⟨g, cap, cur, fz, hv, _⟩
    · exact ⟨_, _, _, hv⟩
    · exact ⟨_, _, _, hv⟩
  go_wp2
  go_ret2
  refine ⟨rfl, .slice ao n' cap, ?_, ?_, ?_, ?_, fun k hk hkb hkv => ?_, ?_, ?_, fun g hg => ?_⟩
  · show w2.os = _; rw [hgrow.os, hg1.os]
  · show w2.tape = _; rw [hgrow.tape, hg1.tape]
  · show w2.output = _; rw [hgrow.output, hg1.output]
  · have := hgrow.size; have := hg1.size; simp [World.setCell]; omega
  · have q : (w2.setCell ⟨b, 1, none⟩ (.slice ao n' cap)).heap[k]? = w2.heap[k]? := by
      simp only [World.setCell, Array.getElem?_modify]
      rw [if_neg (fun e => hkb e.symm)]
    rw [q, hgrow.block k (by have := hg1.size; omega) (fun e => hkv e.symm), hg1.block k hk (by simpa using hkb)]
  · simp [World.setCell, Array.getElem?_modify, hb2]
  · have h2 : w2.ownsRowF 0 5 1 (.slice ao n' cap) (l ++ s.data.toList).length (byteCells (l ++ s.data.toList)) := by
      have e1 : (l ++ s.data.toList).length = l.length + s.size := by rw [List.length_append, Array.length_toList]; rfl
      rw [e1, byteCells_append]; exact hown'
    refine h2.kept (row := some b) ⟨rfl, rfl, rfl, by simp [World.setCell], fun k _ hk => by
      simp only [World.setCell, Array.getElem?_modify]
      rw [if_neg (fun e => hk (by simp [e]))]⟩ (.inr fun e => ?_)
    rcases hblk b e with h3 | h3
    · exact hne h3
    · omega
  · rcases hblk g hg with h3 | h3
    · exact .inl h3
    · exact .inr (by have := hg1.size; omega)
end NB
end Go.Proofs.YtmiclaoelbemkaaDoor
