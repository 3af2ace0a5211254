/- A row that is frozen at the end; a row that the library sorts. No condition. -/
import Derived.Test.YtmkkljbfmdngfaaDoorB35
import Derived.Sort.Row
import Derived.Sort.Grow
set_option linter.all false
namespace Go.Proofs.YtmkkljbfmdngfaaDoor
namespace B
open Go.RowKit Go.Sort
variable {P : Program} {Γ : Froz} {ρ : Nat → Role} {bl : Nat → Nat} {w w' : World}

/-- A result alone. -/
theorem SR.alone {bl' : Nat → Nat} {st : St} {tmps : Array Value} {c : CV} {v : Value} (h : SR Γ ρ bl st tmps w) (hr : RepC Γ ρ bl' w (.s 0) c v) (hm : ∀ b, ¬ c.ment b) : SR Γ ρ bl' ⟨[c], []⟩ #[v] w := by
  refine ⟨h.agree, rfl, fun i c' hc => ?_, fun b cs hb => ?_, fun b cs z l hb => ?_, h.rowk, fun p b hb => ?_, h.rho, h.gl, fun b k t cs hb => ?_⟩
  · cases i with
    | zero => simp at hc; subst hc; exact ⟨v, rfl, hr⟩
    | succ i => simp at hc
  · simp [St.bx] at hb
  · simp [St.bx] at hb
  · exfalso
    cases p with
    | s n =>
      simp only [St.get, List.getD_eq_getElem?_getD] at hb
      cases n with
      | zero => exact hm b (by simpa using hb)
      | succ n => exact (show CV.ment b .junk from by simpa using hb).elim
    | b n => exact (show CV.ment b .junk from by simpa [St.get, St.bx] using hb).elim
  · simp [St.bx] at hb
theorem freeze_end {g k z cap : Nat} {l : List D} {st : St} {tmps : Array Value} {v : Value} {n : Nat} {cs : List CV} (h : SR Γ ρ bl st tmps w) (hk : mvb k = true) (hbx : st.bx k = some [.arr z l]) (hr : RowH ρ bl z k 0 l.length v) :
    ∃ Γ' ρ', Rep Γ' (.slice z l) v ∧ Le Γ Γ' ∧ Fr w Γ ρ w Γ' ρ' ∧ ∃ bl', SR Γ' ρ' bl' ⟨[.junk], []⟩ #[v] w := by
  rcases hr with ⟨hl0, hv⟩ | ⟨c, cap, hv, hc1, hrole, hc2⟩
  · obtain rfl : l = [] := List.eq_nil_of_length_eq_zero hl0
    refine ⟨Γ, ρ, ?_, .refl _, .refl _ _ _, bl, h.alone trivial fun _ h => h.elim⟩
    rcases hv with hv | ⟨ad, hv⟩
    · rw [hv]; exact .nil z
    · rw [hv]; exact .nil0 z ad
  · obtain ⟨arrk, ek, fzk, r1, r2, r3, r4, r5, r6, r7⟩ := h.real hbx rfl hrole
    have hj : SR Γ ρ (upd bl k w.heap.size) ⟨[.junk], []⟩ #[v] w := h.alone trivial fun _ h => h.elim
    have hgk : upd bl k w.heap.size k ≠ bl k := by
      rw [upd_same]
      have := h.rho (bl k) (by rw [hrole]; simp)
      omega
    obtain ⟨g3, f3⟩ := hj.freeze (vs := arrk.toList.take (l.length * z)) hrole hk (fun p hm => by
      cases p with
      | s n =>
        cases n with
        | zero => exact (show CV.ment k .junk from by simpa [St.get] using hm).elim
        | succ n => exact (show CV.ment k .junk from by simpa [St.get] using hm).elim
      | b n => exact (show CV.ment k .junk from by simpa [St.get, St.bx] using hm).elim) hgk r1 (fun j u hu => take_arr hu)
    refine ⟨_, _, ?_, f3.le, f3, _, g3⟩
    have := row_rep (.inr ⟨c, cap, hv, hc1, hrole, hc2⟩) r7 r6 (show 0 + l.length ≤ l.length by omega)
    rwa [List.drop_zero, List.take_length] at this
theorem Fr0.more {w0 : World} {Γ0 : Froz} {ρ0 : Nat → Role} {Γ' : Froz} {ρ' : Nat → Role} (h : Fr0 w0 Γ0 ρ0 w Γ ρ) (f : Fr w Γ ρ w Γ' ρ') : Fr0 w0 Γ0 ρ0 w Γ' ρ' := by
  refine ⟨h.le.trans f.le, h.size, h.os, h.tape, h.output, fun g hg hp => ?_, fun a v ha => ?_⟩
  · obtain ⟨h1, h2⟩ := h.block g hg hp
    exact ⟨h1, (f.block g (Nat.lt_of_lt_of_le hg h.size) h2).2⟩
  · rcases f.new a v ha with h1 | h1 | h1
    · exact h.new a v h1
    · exact .inr (.inl (Nat.le_trans h.size h1))
    · by_cases q : w0.heap.size ≤ a.block
      · exact .inr (.inl q)
      · refine .inr (.inr fun e => h1 (h.block a.block (by omega) e).2)
/-- A row that is given back: frozen. -/
theorem Runs.freezeM {f : Nat} {args : List CV} {z k n : Nat} {l : List D} (h : Runs P f args [] (.rs z k 0 n) [(k, [.arr z l])]) (hn : n = l.length) (hk : mvb k = true) : Runs P f args [] (.d (.slice z l)) [] := by
  subst hn
  refine ⟨h.1, fun Γ ρ bl vals w hs hz => (h.2 Γ ρ bl vals w hs hz).mono ?_⟩
  rintro e w' ⟨v, Γ', ρ', bl', rfl, hs', hf, _⟩
  have hbx : (⟨[.rs z k 0 l.length], [(k, [.arr z l])]⟩ : St).bx k = some [.arr z l] := by simp [St.bx]
  obtain ⟨u, hu, hr⟩ := hs'.slots 0 _ rfl
  have hu : v = u := by simpa using hu
  subst hu
  obtain ⟨Γ2, ρ2, k1, k2, k3, bl2, k4⟩ := freeze_end (n := 0) (g := 0) (cap := 0) (cs := []) hs' hk hbx hr
  exact ⟨v, Γ2, ρ2, bl2, rfl, k4.alone (show Rep Γ2 _ v from k1) (fun _ h => h.elim), hf.more k3, fun b hb _ => by simp at hb⟩
theorem Runs.freeze {f : Nat} {args : List CV} {z k n : Nat} {l : List D} (h : Runs P f args [] (.rs z k 0 n) [(k, [.arr z l])]) (hn : n = l.length) (hk : k < 1000) : Runs P f args [] (.d (.slice z l)) [] := h.freezeM hn (mvb_low hk)

/-! ### the library's sort -/
abbrev sortI (l : List Int) : List Int := l.mergeSort fun x y => decide (x ≤ y)
theorem putCells_toList (d : Array Int) (c : Array Value) (h : d.size ≤ c.size) : (putCells (Value.int .i64) 0 d c).toList = d.toList.map (Value.int .i64) ++ c.toList.drop d.size := by
  apply List.ext_getElem?
  intro i
  simp only [putCells, Array.getElem?_toList, Array.getElem?_mapIdx, Nat.zero_le, Nat.zero_add, true_and, Nat.sub_zero, List.getElem?_append, List.length_map, Array.length_toList, List.getElem?_map, List.getElem?_drop]
  split
  · rename_i hi
    rw [Array.getElem?_eq_getElem (by omega), Array.getElem?_eq_getElem hi]
    simp [hi]
  · rename_i hi
    rw [show d.size + (i - d.size) = i by omega]
    cases e : c[i]? with
    | none => rfl
    | some x => simp [hi]
theorem rep_ints (Γ : Froz) (l : List Int) : RepF Γ 1 (l.map fun z => D.int .i64 z) (l.map (Value.int .i64)) := by
  have hfl : flatten (l.map fun z => D.int .i64 z) = l.map fun z => D.int .i64 z := by
    simp only [flatten]
    induction l with
    | nil => rfl
    | cons b r ih => simp only [List.map_cons, List.flatMap_cons]; rw [ih]; rfl
  refine ⟨fun x hx => ?_, fun d hd => ?_, by rw [hfl]; simp, fun i d u hd hu => ?_⟩
  · rw [List.mem_map] at hx; obtain ⟨b, _, rfl⟩ := hx; rfl
  · rw [hfl, List.mem_map] at hd; obtain ⟨b, _, rfl⟩ := hd; rfl
  · rw [hfl, List.getElem?_map, Option.map_eq_some_iff] at hd
    obtain ⟨b, hb, rfl⟩ := hd
    rw [List.getElem?_map, hb] at hu
    cases hu
    exact Rep.int .i64 b
theorem ints_rep {Γ : Froz} {l : List Int} {vs : List Value} (h : RepF Γ 1 (l.map fun z => D.int .i64 z) vs) : vs = l.map (Value.int .i64) := by
  have hfl : flatten (l.map fun z => D.int .i64 z) = l.map fun z => D.int .i64 z := by
    simp only [flatten]
    clear h
    induction l with
    | nil => rfl
    | cons b r ih => simp only [List.map_cons, List.flatMap_cons]; rw [ih]; rfl
  have hlen := h.vs_len
  simp only [List.length_map, Nat.mul_one] at hlen
  obtain ⟨_, _, _, h4⟩ := h
  rw [hfl] at h4
  apply List.ext_getElem?
  intro i
  by_cases hi : i < l.length
  · have h1 : (l.map fun z => D.int .i64 z)[i]? = some (D.int .i64 l[i]) := by simp [hi]
    obtain ⟨u, h2⟩ : ∃ u, vs[i]? = some u := ⟨_, List.getElem?_eq_getElem (by omega)⟩
    have h5 := h4 i _ _ h1 h2
    cases h5
    rw [h2]; simp [hi]
  · rw [List.getElem?_eq_none (by omega), List.getElem?_eq_none (by simp; omega)]
theorem tupZ {p : Place} : RepC Γ ρ bl w p (.tup []) (.tuple #[]) := ⟨[], rfl, rfl, fun i c v hc => by simp at hc⟩
theorem Runs.sort {f : Nat} (hc : CallOk P f)
    (hs : ∀ (blk off cap : Nat) (zs : List Int) (w : World), Go.Sort.Holds (Value.int .i64) w blk off zs.toArray → blk < w.heap.size → zs.length < 4611686018427387904 →
      Calls P f #[.slice (some ⟨blk, off, none⟩) zs.length cap] w fun e w' => e = .returned (.tuple #[]) ∧ ∃ n os, w' = grow (putRow (Value.int .i64) (Go.Sort.ahead w n) blk off (sortI zs).toArray) os)
    (hn : ∀ (p : Option Addr) (cap : Nat) (w : World), Calls P f #[.slice p 0 cap] w fun e w' => e = .returned (.tuple #[]) ∧ w' = w)
    (k : Nat) (l : List Int) (hl : l.length ≤ 140737488355328) :
    Runs P f [.rs 1 k 0 l.length] [(k, [.arr 1 (l.map fun z => D.int .i64 z)])] (.tup []) [(k, [.arr 1 ((sortI l).map fun z => D.int .i64 z)])] := by
  refine ⟨hc, fun Γ ρ bl vals w h hz => ?_⟩
  obtain ⟨v, rfl, hv⟩ := vals1 h
  have hbx : (⟨[.rs 1 k 0 l.length], [(k, [.arr 1 (l.map fun z => D.int .i64 z)])]⟩ : St).bx k = some [.arr 1 (l.map fun z => D.int .i64 z)] := by simp [St.bx]
  have rk : ∀ b, (([(k, [CV.arr 1 (l.map fun z => D.int .i64 z)])] : List (Nat × List CV)).lookup b).isSome = true → lowB f b = true → RK ρ ρ bl bl b := fun _ _ _ => RK.refl
  rcases (hv : RowH ρ bl 1 k 0 l.length v) with ⟨hl0, hv⟩ | ⟨c, cap, hv, hc1, hrole, hc2⟩
  · obtain rfl : l = [] := List.eq_nil_of_length_eq_zero hl0
    obtain ⟨ao, rfl⟩ : ∃ ao, v = .slice ao 0 0 := by
      rcases hv with hv | ⟨ad, hv⟩
      · exact ⟨_, hv⟩
      · exact ⟨_, hv⟩
    refine (hn ao 0 w).mono ?_
    rintro e w' ⟨rfl, rfl⟩
    have e0 : sortI [] = [] := by simp [sortI]
    rw [e0]
    exact ⟨_, Γ, ρ, bl, rfl, h.result (res := .tup []) tupZ (fun b hb => by obtain ⟨c, hc, _⟩ := hb; cases hc), (Fr.refl _ _ _).to0, rk⟩
  · obtain ⟨arr, ek, fz, r1, r2, r3, r4, r5, r6, r7⟩ := h.real hbx rfl hrole
    rw [Nat.zero_mul] at hv
    subst hv
    have hcs : l.length ≤ arr.size := by rw [r3, Nat.mul_one]; omega
    have hvs := ints_rep r6
    rw [List.length_map, Nat.mul_one] at hvs
    have hlt : bl k < w.heap.size := h.rho _ (by rw [hrole]; simp)
    have hcell : ∀ j, j < l.length → arr[j]? = some (Value.int .i64 l[j]!) := fun j hj => by
      have := congrArg (fun x => x[j]?) hvs
      simp only [List.getElem?_take, hj, if_true, List.getElem?_map, Array.getElem?_toList] at this
      rw [this, List.getElem?_eq_getElem hj]; simp [hj]
    refine (hs (bl k) 0 c l w (fun j hj => ?_) hlt (by omega)).mono ?_
    · have hj : j < l.length := by simpa using hj
      rw [Nat.zero_add]
      refine ⟨by rw [cell_row r1, hcell j hj]; simp, ?_⟩
      unfold World.frozen?
      simp only [r1]
      rcases r2 with rfl | r2
      · simp
      · obtain ⟨lo, hi⟩ := fz
        simp only at r2 ⊢
        have : ¬ lo ≤ j := by omega
        simp [this]
    · rintro e w' ⟨rfl, n, os, rfl⟩
      have hsl : (sortI l).length = l.length := by simp [sortI]
      have hput := putCells_toList (sortI l).toArray arr (by simp only [List.size_toArray, hsl]; omega)
      obtain ⟨g1, g2⟩ := h.setRowEl hbx rfl hrole r1 (arr' := putCells (Value.int .i64) 0 (sortI l).toArray arr) (by simp [putCells]) ((sortI l).map fun z => D.int .i64 z) (by simp only [List.length_map, hsl]; omega) (by
        rw [hput]
        simp only [List.length_map, Nat.mul_one]
        rw [List.take_append_of_le_length (by simp), List.take_of_length_le (by simp)]
        exact rep_ints _ _)
      have hheap : ∀ g, g < (w.setRow (bl k) (putCells (Value.int .i64) 0 (sortI l).toArray arr)).heap.size → (grow (putRow (Value.int .i64) (Go.Sort.ahead w n) (bl k) 0 (sortI l).toArray) os).heap[g]? = (w.setRow (bl k) (putCells (Value.int .i64) 0 (sortI l).toArray arr)).heap[g]? := by
        intro g hg
        have hg : g < w.heap.size := by simpa [World.setRow] using hg
        simp only [grow, putRow, mapBlock, Go.Sort.ahead, World.setRow]
        rw [Array.getElem?_append_left (by simpa using hg), Array.getElem?_modify, Array.getElem?_modify]
        split
        · rename_i e
          subst e
          rw [r1]; rfl
        · rfl
      have hsize : w.heap.size ≤ (grow (putRow (Value.int .i64) (Go.Sort.ahead w n) (bl k) 0 (sortI l).toArray) os).heap.size := by
        simp [grow, putRow, mapBlock, Go.Sort.ahead]
      have hs1 : (w.setRow (bl k) (putCells (Value.int .i64) 0 (sortI l).toArray arr)).heap.size = w.heap.size := by simp [World.setRow]
      have g3 := g1.world (w' := grow (putRow (Value.int .i64) (Go.Sort.ahead w n) (bl k) 0 (sortI l).toArray) os) (by rw [hs1]; exact hsize) hheap
      have g4 : SR Γ ρ bl ⟨[.rs 1 k 0 l.length], [(k, [.arr 1 ((sortI l).map fun z => D.int .i64 z)])]⟩ #[.slice (some ⟨bl k, 0, none⟩) l.length c] (grow (putRow (Value.int .i64) (Go.Sort.ahead w n) (bl k) 0 (sortI l).toArray) os) :=
        g3.same rfl fun b => by
          rw [St.bx_setBox]
          split
          · rename_i e; subst e; simp [St.bx]
          · rename_i e; simp [St.bx, List.lookup, beq_eq_false_iff_ne.2 e]
      refine ⟨_, Γ, ρ, bl, rfl, g4.result (res := .tup []) tupZ (fun b hb => by obtain ⟨c, hc, _⟩ := hb; cases hc), ⟨.refl _, hsize, rfl, rfl, rfl, fun g hg hp => ?_, fun a v ha => .inl ha⟩, rk⟩
      exact ⟨by rw [hheap g (by rw [hs1]; exact hg)]; exact (g2.block g hg hp).1, hp⟩
/-- A row that a call has made. -/
theorem SR.newRowEnd {args : List CV} {vals : Array Value} {n sz k : Nat} {e : TypeId} {v : Value} {xs : List Value} {l : List D} (h : SR Γ ρ bl ⟨args, []⟩ vals w) (hb : Go.RowKit.Below w.heap.size w w') (ho : w'.ownsRow w.heap.size e sz v n xs) (hr : RepF Γ sz l xs) (hn : l.length = n) :
    ∃ ρ' bl', SR Γ ρ' bl' ⟨[.rs sz k 0 n], [(k, [.arr sz l])]⟩ #[v] w' ∧ Fr0 w Γ ρ w' Γ ρ' := by
  subst hn
  have hw := h.world hb.size hb.block
  have hst : ∀ b cs, (⟨[.rs sz k 0 l.length], [(k, [.arr sz l])]⟩ : St).bx b = some cs → b = k ∧ cs = [.arr sz l] := fun b cs hc => by
    simp only [St.bx, List.lookup] at hc
    split at hc
    · rename_i e; exact ⟨by simpa using e, by simpa using hc.symm⟩
    · cases hc
  have hcl : ∀ p b, ((⟨[.rs sz k 0 l.length], [(k, [.arr sz l])]⟩ : St).get p).ment b → b = k := fun p b hm => by
    cases p with
    | s j =>
      cases j with
      | zero => exact (show b = k from (by have : CV.ment b (.rs sz k 0 l.length) := by simpa [St.get] using hm
                                           exact (show k = b from this).symm))
      | succ j => exact (show CV.ment b .junk from by simpa [St.get] using hm).elim
    | b j =>
      simp only [St.get] at hm
      split at hm
      · rename_i cs hc
        obtain ⟨_, rfl⟩ := hst _ _ hc
        obtain ⟨c, hc, hm⟩ := hm
        simp at hc; subst hc; exact hm.elim
      · exact hm.elim
  have fr : ∀ ρ', (∀ g, g < w.heap.size → ρ g = .plain → ρ' g = .plain) → Fr0 w Γ ρ w' Γ ρ' := fun ρ' hp => ⟨.refl _, hb.size, hb.os, hb.tape, hb.output, fun g hg h0 => ⟨hb.block g hg, hp g hg h0⟩, fun a v ha => .inl ha⟩
  obtain ⟨_, ⟨rfl, hl0⟩ | ⟨g, cap, cur, rfl, hg, hh, hnc, hcm, hcs, htk⟩⟩ := ho
  · obtain rfl : l = [] := List.eq_nil_of_length_eq_zero hl0
    refine ⟨ρ, bl, ⟨hw.agree, rfl, fun i c hc => ?_, fun b cs hc hro => ?_, fun b cs z l' hc hro => ?_, hw.rowk, fun p b hm => ?_, hw.rho, hw.gl, fun b k' t cs hc hk => ?_⟩, fr ρ fun g _ h0 => h0⟩
    · cases i with
      | zero => simp at hc; subst hc; exact ⟨_, rfl, .inl ⟨rfl, .inl rfl⟩⟩
      | succ i => simp at hc
    · obtain ⟨_, rfl⟩ := hst _ _ hc; simp [rowOf] at hro
    · obtain ⟨_, rfl⟩ := hst _ _ hc
      simp [rowOf] at hro; exact .inl hro.2
    · rw [hcl p b hm]; simp [St.bx]
    · obtain ⟨_, rfl⟩ := hst _ _ hc; simp at hk
  · refine ⟨upd ρ g (.row k sz cap), upd bl k g, ⟨hw.agree, rfl, fun i c hc => ?_, fun b cs hc hro => ?_, fun b cs z l' hc hro => ?_, fun g' b z c hc => ?_, fun p b hm => ?_, fun g' hg' => ?_, hw.gl, fun b k' t cs hc hk => ?_⟩, fr _ fun g' hg' h0 => by rw [upd_ne _ _ (by omega)]; exact h0⟩
    · cases i with
      | zero => simp at hc; subst hc; exact ⟨_, rfl, .inr ⟨cap, cap, by simp [upd_same], hnc, by rw [upd_same]; exact upd_same _ _ _, by omega⟩⟩
      | succ i => simp at hc
    · obtain ⟨_, rfl⟩ := hst _ _ hc; simp [rowOf] at hro
    · obtain ⟨rfl, rfl⟩ := hst _ _ hc
      simp only [rowOf, Option.some.injEq, Prod.mk.injEq] at hro
      obtain ⟨rfl, rfl⟩ := hro
      rw [upd_same]
      exact .inr ⟨cur, e, (0, 0), cap, hh, upd_same _ _ _, hnc, by rw [htk]; exact hr⟩
    · by_cases q : g' = g
      · subst q
        rw [upd_same] at hc
        cases hc
        refine ⟨cur, e, (0, 0), hh, .inl rfl, hcs, hcm, fun o => ?_⟩
        cases e2 : Γ ⟨g', o, none⟩ with
        | none => rfl
        | some u =>
          have := block_lt_of_cell (h.agree _ _ e2)
          simp only at this; omega
      · rw [upd_ne _ _ q] at hc
        exact hw.rowk g' b z c hc
    · rw [hcl p b hm]; simp [St.bx]
    · by_cases q : g' = g
      · subst q; exact (Array.getElem?_eq_some_iff.1 hh).1
      · rw [upd_ne _ _ q] at hg'; exact hw.rho g' hg'
    · obtain ⟨_, rfl⟩ := hst _ _ hc; simp at hk
theorem Runs.cloneI {f : Nat} {T : TypeId} (hc : CallOk P f)
    (hs : ∀ (b off n c : Nat) (zs : List Int) (w : World), n ≤ zs.length → n * 8 ≤ 140737488355328 → (∀ j, j < zs.length → w.cell? ⟨b, off + j, none⟩ = some (.int .i64 (zs.getD j 0))) →
      Calls P f #[.slice (some ⟨b, off, none⟩) n c] w fun e w' => ∃ v', e = .returned v' ∧ w'.ownsRow w.heap.size T 1 v' n ((zs.take n).map (Value.int .i64)) ∧ v' ≠ .slice none 0 0 ∧ Go.RowKit.Below w.heap.size w w')
    (hn : ∀ (n c : Nat) (w : World), Calls P f #[.slice none n c] w fun e w' => e = .returned (.slice none 0 0) ∧ w' = w)
    (hz : ∀ (a : Addr) (c : Nat) (w : World), Calls P f #[.slice (some a) 0 c] w fun e w' => ∃ v', e = .returned v' ∧ w'.ownsRow w.heap.size T 1 v' 0 [] ∧ v' ≠ .slice none 0 0 ∧ Go.RowKit.Below w.heap.size w w')
    (k : Nat) (l : List Int) (hl : l.length * 8 ≤ 140737488355328) :
    Runs P f [.d (.slice 1 (l.map fun z => D.int .i64 z))] [] (.rs 1 k 0 l.length) [(k, [.arr 1 (l.map fun z => D.int .i64 z)])] := by
  refine ⟨hc, fun Γ ρ bl vals w h hgz => ?_⟩
  obtain ⟨v, rfl, hv⟩ := vals1 h
  have rk : ∀ bl' ρ', ∀ b, (([] : List (Nat × List CV)).lookup b).isSome = true → lowB f b = true → RK ρ ρ' bl bl' b := fun _ _ b hb _ => by simp at hb
  obtain ⟨ao, c, vs, rfl, hf, hne, ha⟩ := slice_vals hv
  have hvs := ints_rep hf
  rw [List.length_map]
  have fin : ∀ e w', (∃ v', e = Ending.returned v' ∧ w'.ownsRow w.heap.size T 1 v' l.length (l.map (Value.int .i64)) ∧ Go.RowKit.Below w.heap.size w w') →
      ∃ v Γ' ρ' bl', e = .returned v ∧ SR Γ' ρ' bl' ⟨[.rs 1 k 0 l.length], [(k, [.arr 1 (l.map fun z => D.int .i64 z)])]⟩ #[v] w' ∧ Fr0 w Γ ρ w' Γ' ρ' ∧ ∀ b, (([] : List (Nat × List CV)).lookup b).isSome = true → lowB f b = true → RK ρ ρ' bl bl' b := by
    rintro e w' ⟨v', rfl, ho, hb⟩
    obtain ⟨ρ', bl', g1, g2⟩ := h.newRowEnd (k := k) hb ho (rep_ints Γ l) (by simp)
    exact ⟨v', Γ, ρ', bl', rfl, g1, g2, rk _ _⟩
  have hlen : vs.length = l.length := by rw [hvs]; simp
  cases ao with
  | none =>
    have hv0 := hne rfl
    obtain rfl : l = [] := List.eq_nil_of_length_eq_zero (by rw [← hlen, hv0]; rfl)
    refine (hn _ _ w).mono ?_
    rintro e w' ⟨rfl, rfl⟩
    exact fin _ _ ⟨_, rfl, ⟨by simp, .inl ⟨rfl, rfl⟩⟩, ⟨rfl, rfl, rfl, Nat.le_refl _, fun _ _ => rfl⟩⟩
  | some a =>
    obtain ⟨hsp, hcell⟩ := ha a rfl
    by_cases hl0 : l = []
    · subst hl0
      refine (hz a c w).mono ?_
      rintro e w' ⟨v', rfl, ho, _, hb⟩
      exact fin _ _ ⟨v', rfl, by simpa using ho, hb⟩
    · obtain ⟨blk, off, spot⟩ := a
      have hvn : vs ≠ [] := fun e0 => hl0 (List.eq_nil_of_length_eq_zero (by rw [← hlen, e0]; rfl))
      have hsp := hsp hvn
      simp only at hsp
      subst hsp
      refine (hs blk off l.length c l w (Nat.le_refl _) hl (fun j hj => ?_)).mono ?_
      · have h1 : vs[j]? = some (Value.int .i64 l[j]) := by rw [hvs]; simp [hj]
        have h2 := h.agree _ _ (hcell j _ h1)
        rw [Addr.add_lit'] at h2
        rw [h2]; simp [List.getD_eq_getElem?_getD, hj]
      · rintro e w' ⟨v', rfl, ho, _, hb⟩
        exact fin _ _ ⟨v', rfl, by simpa using ho, hb⟩
end B
end Go.Proofs.YtmkkljbfmdngfaaDoor
