/- The library's Clone and Delete, on rows of any elements. No condition. -/
import Derived.Test.YtmkkljbfmdngfaaDoorB36
import Derived.Sort.Row
import Derived.Sort.Grow
set_option linter.all false
namespace Go.Proofs.YtmkkljbfmdngfaaDoor
namespace B
open Go.RowKit Go.Sort
variable {P : Program} {Γ : Froz} {ρ : Nat → Role} {bl : Nat → Nat} {w w' : World}

theorem RepF.take {sz : Nat} {l : List D} {vs : List Value} (r : RepF Γ sz l vs) (i : Nat) : RepF Γ sz (l.take i) (vs.take (i * sz)) := by
  refine ⟨fun x hx => r.uni x (List.mem_of_mem_take hx), fun d hd => ?_, ?_, fun j d u h1 h2 => ?_⟩
  · rw [flatten_take r.uni] at hd; exact r.flat d (List.mem_of_mem_take hd)
  · rw [flatten_take r.uni, List.length_take, List.length_take, r.len]
  · rw [flatten_take r.uni, List.getElem?_take] at h1
    rw [List.getElem?_take] at h2
    split at h1
    · rename_i c; rw [if_pos c] at h2; exact r.rep j d u h1 h2
    · cases h1
theorem RepF.drop {sz : Nat} {l : List D} {vs : List Value} (r : RepF Γ sz l vs) (i : Nat) : RepF Γ sz (l.drop i) (vs.drop (i * sz)) := by
  refine ⟨fun x hx => r.uni x (List.mem_of_mem_drop hx), fun d hd => ?_, ?_, fun j d u h1 h2 => ?_⟩
  · rw [flatten_drop r.uni] at hd; exact r.flat d (List.mem_of_mem_drop hd)
  · rw [flatten_drop r.uni, List.length_drop, List.length_drop, r.len]
  · rw [flatten_drop r.uni, List.getElem?_drop] at h1
    rw [List.getElem?_drop] at h2
    exact r.rep _ d u h1 h2
theorem vals3 {c d e : CV} {objs : List (Nat × List CV)} {vals : Array Value} (h : SR Γ ρ bl ⟨[c, d, e], objs⟩ vals w) : ∃ v u t, vals = #[v, u, t] ∧ RepC Γ ρ bl w (.s 0) c v ∧ RepC Γ ρ bl w (.s 1) d u ∧ RepC Γ ρ bl w (.s 2) e t := by
  obtain ⟨v0, hv0, hr0⟩ := h.slots 0 _ rfl
  obtain ⟨v1, hv1, hr1⟩ := h.slots 1 _ rfl
  obtain ⟨v2, hv2, hr2⟩ := h.slots 2 _ rfl
  have hl : vals.size = 3 := h.len
  refine ⟨v0, v1, v2, Array.ext (by simp [hl]) fun i h1 h2 => ?_, hr0, hr1, hr2⟩
  simp at h2
  match i, h2 with
  | 0, _ => have := Array.getElem?_eq_getElem h1; rw [hv0] at this; simpa using this.symm
  | 1, _ => have := Array.getElem?_eq_getElem h1; rw [hv1] at this; simpa using this.symm
  | 2, _ => have := Array.getElem?_eq_getElem h1; rw [hv2] at this; simpa using this.symm
/-- slices.Clone: a new row. -/
theorem Runs.cloneR {f : Nat} {T : TypeId} {sz bytes : Nat} (hc : CallOk P f)
    (hs : ∀ (ad : Addr) (n c : Nat) (news : List Value) (w : World), news.length = n * sz → n ≤ maxLen → n * bytes ≤ 140737488355328 → (∀ j u, news[j]? = some u → w.cell? (ad.add j) = some u) → (∀ u ∈ news, u.oneCell' = true) →
      Calls P f #[.slice (some ad) n c] w fun e w' => ∃ v', e = .returned v' ∧ w'.ownsRow w.heap.size T sz v' n news ∧ v' ≠ .slice none 0 0 ∧ Go.RowKit.Below w.heap.size w w')
    (hn : ∀ (n c : Nat) (w : World), Calls P f #[.slice none n c] w fun e w' => e = .returned (.slice none 0 0) ∧ w' = w)
    (hsz : 0 < sz) (k : Nat) (l : List D) (hm : l.length ≤ maxLen) (hl : l.length * bytes ≤ 140737488355328) :
    Runs P f [.d (.slice sz l)] [] (.rs sz k 0 l.length) [(k, [.arr sz l])] := by
  refine ⟨hc, fun Γ ρ bl vals w h hgz => ?_⟩
  obtain ⟨v, rfl, hv⟩ := vals1 h
  have rk : ∀ bl' ρ', ∀ b, (([] : List (Nat × List CV)).lookup b).isSome = true → lowB f b = true → RK ρ ρ' bl bl' b := fun _ _ b hb _ => by simp at hb
  obtain ⟨ao, c, vs, rfl, hf, hne, ha⟩ := slice_vals hv
  have fin : ∀ e w', (∃ v', e = Ending.returned v' ∧ w'.ownsRow w.heap.size T sz v' l.length vs ∧ Go.RowKit.Below w.heap.size w w') →
      ∃ v Γ' ρ' bl', e = .returned v ∧ SR Γ' ρ' bl' ⟨[.rs sz k 0 l.length], [(k, [.arr sz l])]⟩ #[v] w' ∧ Fr0 w Γ ρ w' Γ' ρ' ∧ ∀ b, (([] : List (Nat × List CV)).lookup b).isSome = true → lowB f b = true → RK ρ ρ' bl bl' b := by
    rintro e w' ⟨v', rfl, ho, hb⟩
    obtain ⟨ρ', bl', g1, g2⟩ := h.newRowEnd (k := k) hb ho hf rfl
    exact ⟨v', Γ, ρ', bl', rfl, g1, g2, rk _ _⟩
  have hlen : vs.length = l.length * sz := hf.vs_len
  have nil : vs = [] → l = [] := fun e0 => by
    rw [e0] at hlen
    have : l.length * sz = 0 := by simpa using hlen.symm
    rcases Nat.mul_eq_zero.1 this with h0 | h0
    · exact List.eq_nil_of_length_eq_zero h0
    · omega
  cases ao with
  | none =>
    have hv0 := hne rfl
    obtain rfl := nil hv0
    refine (hn _ _ w).mono ?_
    rintro e w' ⟨rfl, rfl⟩
    subst hv0
    exact fin _ _ ⟨_, rfl, ⟨by simp, .inl ⟨rfl, rfl⟩⟩, ⟨rfl, rfl, rfl, Nat.le_refl _, fun _ _ => rfl⟩⟩
  | some a =>
    obtain ⟨_, hcell⟩ := ha a rfl
    refine (hs a l.length c vs w hlen hm hl (fun j u hu => h.agree _ _ (hcell j _ hu)) hf.one).mono ?_
    rintro e w' ⟨v', rfl, ho, _, hb⟩
    exact fin _ _ ⟨v', rfl, ho, hb⟩

theorem putCellsV_toList (d c : Array Value) (h : d.size ≤ c.size) : (putCells id 0 d c).toList = d.toList ++ c.toList.drop d.size := by
  apply List.ext_getElem?
  intro i
  simp only [putCells, Array.getElem?_toList, Array.getElem?_mapIdx, Nat.zero_le, Nat.zero_add, true_and, Nat.sub_zero, List.getElem?_append, Array.length_toList, List.getElem?_drop]
  split
  · rename_i hi
    rw [Array.getElem?_eq_getElem (by omega), Array.getElem?_eq_getElem hi]
    simp [hi]
  · rename_i hi
    rw [show d.size + (i - d.size) = i by omega]
    cases e : c[i]? with
    | none => rfl
    | some x => simp [hi]
/-- slices.Delete of one element: in place. -/
theorem Runs.deleteR {f sz : Nat} (hc : CallOk P f) (tail : List Value) (ht : tail.length = sz)
    (hs : ∀ (blk cap n i : Nat) (d : Array Value) (w : World), Go.Sort.Holds id w blk 0 d → d.size = n * sz → (∀ u ∈ d, u.oneCell' = true) → n ≤ cap → cap ≤ 9223372036854775807 → i < n →
      Calls P f #[.slice (some ⟨blk, 0, none⟩) n cap, .int .i64 i, .int .i64 (i + 1 : Nat)] w fun e w' => e = .returned (.slice (some ⟨blk, 0, none⟩) (n - 1) cap) ∧ ∃ q, w' = putRow id (Go.Sort.ahead w q) blk 0 (d.toList.take (i * sz) ++ d.toList.drop ((i + 1) * sz) ++ tail).toArray)
    (k i : Nat) (l : List D) (hi : i < l.length) :
    Runs P f [.rs sz k 0 l.length, .d (.int .i64 i), .d (.int .i64 (i + 1 : Nat))] [(k, [.arr sz l])] (.rs sz k 0 (l.length - 1)) [(k, [.arr sz (l.eraseIdx i)])] := by
  refine ⟨hc, fun Γ ρ bl vals w h hz => ?_⟩
  obtain ⟨v, v1, v2, rfl, hv, hv1, hv2⟩ := vals3 h
  cases hv1; cases hv2
  have hbx : (⟨[.rs sz k 0 l.length, .d (.int .i64 i), .d (.int .i64 (i + 1 : Nat))], [(k, [.arr sz l])]⟩ : St).bx k = some [.arr sz l] := by simp [St.bx]
  have rk : ∀ b, (([(k, [CV.arr sz l])] : List (Nat × List CV)).lookup b).isSome = true → lowB f b = true → RK ρ ρ bl bl b := fun _ _ _ => RK.refl
  rcases (hv : RowH ρ bl sz k 0 l.length v) with ⟨hl0, _⟩ | ⟨c, cap, hv, hc1, hrole, hc2⟩
  · omega
  · obtain ⟨arr, ek, fz, r1, r2, r3, r4, r5, r6, r7⟩ := h.real hbx rfl hrole
    rw [Nat.zero_mul] at hv
    subst hv
    have hle : l.length * sz ≤ cap * sz := Nat.mul_le_mul_right _ (by omega)
    have hcs : l.length * sz ≤ arr.size := by rw [r3]; exact hle
    have hlt : bl k < w.heap.size := h.rho _ (by rw [hrole]; simp)
    obtain ⟨d, hd⟩ : ∃ d : Array Value, d = (arr.toList.take (l.length * sz)).toArray := ⟨_, rfl⟩
    have hdl : d.toList = arr.toList.take (l.length * sz) := by rw [hd]
    have hds : d.size = l.length * sz := by rw [hd]; simp; omega
    have hmul : (i + 1) * sz ≤ l.length * sz := Nat.mul_le_mul_right _ (by omega)
    have hmul2 : (i + 1) * sz = i * sz + sz := Nat.succ_mul _ _
    refine (hs (bl k) c l.length i d w (fun j hj => ?_) hds (fun u hu => r6.one u (by rw [← hdl]; simpa using hu)) (by omega) (by unfold Go.maxLen at *; omega) hi).mono ?_
    · rw [Nat.zero_add]
      have hj2 : j < l.length * sz := by rw [← hds]; exact hj
      refine ⟨?_, ?_⟩
      · rw [cell_row r1, getElem!_pos d j hj]
        have : d[j]? = arr[j]? := by rw [← Array.getElem?_toList, hdl, List.getElem?_take, if_pos hj2, Array.getElem?_toList]
        rw [← this, Array.getElem?_eq_getElem hj]; rfl
      · unfold World.frozen?
        simp only [r1]
        rcases r2 with rfl | r2
        · simp
        · obtain ⟨lo, hi⟩ := fz
          simp only at r2 ⊢
          have : ¬ lo ≤ j := by omega
          simp [this]
    · rintro e w' ⟨rfl, q, rfl⟩
      obtain ⟨nd, hnd⟩ : ∃ nd : Array Value, nd = (d.toList.take (i * sz) ++ d.toList.drop ((i + 1) * sz) ++ tail).toArray := ⟨_, rfl⟩
      rw [← hnd]
      have hndl : nd.toList = d.toList.take (i * sz) ++ d.toList.drop ((i + 1) * sz) ++ tail := by rw [hnd]
      have hnds : nd.size = l.length * sz := by rw [hnd]; simp [ht]; omega
      have hput := putCellsV_toList nd arr (by omega)
      have hl' : (l.eraseIdx i).length = l.length - 1 := List.length_eraseIdx_of_lt hi
      have hn1 : (l.length - 1) * sz = l.length * sz - sz := by rw [Nat.sub_mul, Nat.one_mul]
      have hrep : RepF Γ sz (l.eraseIdx i) (d.toList.take (i * sz) ++ d.toList.drop ((i + 1) * sz)) := by
        rw [List.eraseIdx_eq_take_drop_succ, hdl]
        exact (r6.take i).append (r6.drop (i + 1))
      obtain ⟨g1, g2⟩ := h.setRowEl hbx rfl hrole r1 (arr' := putCells id 0 nd arr) (by simp [putCells]) (l.eraseIdx i) (by rw [hl']; omega) (by
        rw [hput, hndl, List.append_assoc, List.append_assoc, ← List.append_assoc, List.take_append_of_le_length (by rw [← hrep.vs_len]; omega), List.take_of_length_le (by rw [← hrep.vs_len]; omega)]
        exact hrep)
      have hheap : ∀ g, g < (w.setRow (bl k) (putCells id 0 nd arr)).heap.size → (putRow id (Go.Sort.ahead w q) (bl k) 0 nd).heap[g]? = (w.setRow (bl k) (putCells id 0 nd arr)).heap[g]? := by
        intro g hg
        have hg : g < w.heap.size := by simpa [World.setRow] using hg
        simp only [putRow, mapBlock, Go.Sort.ahead, World.setRow]
        rw [Array.getElem?_modify, Array.getElem?_modify]
        split
        · rename_i e
          subst e
          rw [r1]; rfl
        · rfl
      have hsize : w.heap.size ≤ (putRow id (Go.Sort.ahead w q) (bl k) 0 nd).heap.size := by
        simp [putRow, mapBlock, Go.Sort.ahead]
      have hs1 : (w.setRow (bl k) (putCells id 0 nd arr)).heap.size = w.heap.size := by simp [World.setRow]
      have g3 := g1.world (w' := putRow id (Go.Sort.ahead w q) (bl k) 0 nd) (by rw [hs1]; exact hsize) hheap
      have g4 : SR Γ ρ bl ⟨[.rs sz k 0 l.length, .d (.int .i64 i), .d (.int .i64 (i + 1 : Nat))], [(k, [.arr sz (l.eraseIdx i)])]⟩ #[.slice (some ⟨bl k, 0, none⟩) l.length c, .int .i64 i, .int .i64 (i + 1 : Nat)] (putRow id (Go.Sort.ahead w q) (bl k) 0 nd) :=
        g3.same rfl fun b => by
          rw [St.bx_setBox]
          split
          · rename_i e; subst e; simp [St.bx]
          · rename_i e; simp [St.bx, List.lookup, beq_eq_false_iff_ne.2 e]
      refine ⟨_, Γ, ρ, bl, rfl, g4.result (res := .rs sz k 0 (l.length - 1)) (.inr ⟨c, cap, by rw [Nat.zero_mul], by omega, hrole, by omega⟩) (fun b hb => by
        have : k = b := hb
        subst this; simp), ⟨.refl _, hsize, rfl, rfl, rfl, fun g hg hp => ?_, fun a v ha => .inl ha⟩, rk⟩
      exact ⟨by rw [hheap g (by rw [hs1]; exact hg)]; exact (g2.block g hg hp).1, hp⟩
end B
end Go.Proofs.YtmkkljbfmdngfaaDoor
