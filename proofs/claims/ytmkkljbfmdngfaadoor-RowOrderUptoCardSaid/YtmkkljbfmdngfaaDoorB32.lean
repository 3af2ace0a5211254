/- A contract on values, as a contract on data. No condition. -/
import Derived.Test.YtmkkljbfmdngfaaDoorB31
set_option linter.all false
namespace Go.Proofs.YtmkkljbfmdngfaaDoor
namespace B
open Go.RowKit
variable {P : Program}

theorem vals1 {Γ : Froz} {ρ : Nat → Role} {bl : Nat → Nat} {c : CV} {objs : List (Nat × List CV)} {vals : Array Value} {w : World} (h : SR Γ ρ bl ⟨[c], objs⟩ vals w) : ∃ v, vals = #[v] ∧ RepC Γ ρ bl w (.s 0) c v := by
  obtain ⟨v0, hv0, hr0⟩ := h.slots 0 _ rfl
  have hl : vals.size = 1 := h.len
  refine ⟨v0, Array.ext (by simp [hl]) fun i h1 h2 => ?_, hr0⟩
  simp at h2; subst h2
  have := Array.getElem?_eq_getElem h1; rw [hv0] at this; simpa using this.symm
theorem vals2 {Γ : Froz} {ρ : Nat → Role} {bl : Nat → Nat} {c d : CV} {objs : List (Nat × List CV)} {vals : Array Value} {w : World} (h : SR Γ ρ bl ⟨[c, d], objs⟩ vals w) : ∃ v u, vals = #[v, u] ∧ RepC Γ ρ bl w (.s 0) c v ∧ RepC Γ ρ bl w (.s 1) d u := by
  obtain ⟨v0, hv0, hr0⟩ := h.slots 0 _ rfl
  obtain ⟨v1, hv1, hr1⟩ := h.slots 1 _ rfl
  have hl : vals.size = 2 := h.len
  refine ⟨v0, v1, Array.ext (by simp [hl]) fun i h1 h2 => ?_, hr0, hr1⟩
  simp at h2
  match i, h2 with
  | 0, _ => have := Array.getElem?_eq_getElem h1; rw [hv0] at this; simpa using this.symm
  | 1, _ => have := Array.getElem?_eq_getElem h1; rw [hv1] at this; simpa using this.symm

/-- Data come out; what lay there stands. -/
theorem done_below {f : Nat} {Γ : Froz} {ρ : Nat → Role} {bl : Nat → Nat} {args : List CV} {objs : List (Nat × List CV)} {vals : Array Value} {w w' : World} {x : CV} {v : Value} (h : SR Γ ρ bl ⟨args, objs⟩ vals w)
    (hb : Below w.heap.size w w') (hr : RepC Γ ρ bl w' (.s 0) x v) (hm : ∀ b, ¬ x.ment b) :
    ∃ v' Γ' ρ' bl', Ending.returned v = .returned v' ∧ SR Γ' ρ' bl' ⟨[x], objs⟩ #[v'] w' ∧ Fr0 w Γ ρ w' Γ' ρ' ∧ ∀ b, (objs.lookup b).isSome = true → lowB f b = true → RK ρ ρ' bl bl' b :=
  ⟨v, Γ, ρ, bl, rfl, (h.world hb.size hb.block).result hr (fun b e => (hm b e).elim), ⟨.refl _, hb.size, hb.os, hb.tape, hb.output, fun g hg hp => ⟨hb.block g hg, hp⟩, fun _ _ h => .inl h⟩, fun _ _ _ => RK.refl⟩

/-- A new slice of texts comes out, its owner's own. -/
theorem done_strs {f : Nat} {Γ : Froz} {ρ : Nat → Role} {bl : Nat → Nat} {args : List CV} {objs : List (Nat × List CV)} {vals : Array Value} {w : World} (h : SR Γ ρ bl ⟨args, objs⟩ vals w) (ss : List Bytes) (e : TypeId) (hlen : ss.length ≤ maxLen) (hne : ss ≠ []) :
    ∃ v' Γ' ρ' bl', Ending.returned (.slice (some ⟨w.heap.size, 0, none⟩) ss.length ss.length) = .returned v' ∧ SR Γ' ρ' bl' ⟨[.own 1 (ss.map .str)], objs⟩ #[v'] (w.alloc (.cells (ss.map fun s => Value.string ⟨s.toArray⟩).toArray e)) ∧
      Fr0 w Γ ρ (w.alloc (.cells (ss.map fun s => Value.string ⟨s.toArray⟩).toArray e)) Γ' ρ' ∧ ∀ b, (objs.lookup b).isSome = true → lowB f b = true → RK ρ ρ' bl bl' b := by
  have hfl : flatten (ss.map D.str) = ss.map .str := by
    induction ss with
    | nil => rfl
    | cons s r ih =>
      by_cases hr : r = []
      · subst hr; rfl
      · have := ih (by simp at hlen; omega) hr
        simp only [flatten, List.map_cons, List.flatMap_cons, D.cells] at this ⊢
        simp [this]
  obtain ⟨h1, f1⟩ := h.newOwn (ss.map fun s => Value.string ⟨s.toArray⟩).toArray e (ss.map fun s => Value.string ⟨s.toArray⟩) (fun i u hu => by simpa using hu) (.own (.s 0) 0)
  refine ⟨_, _, _, bl, rfl, h1.result ?_ (fun b e => e.elim), f1.to0, fun b _ _ => ⟨rfl, fun z cap e' => by rw [upd_ne _ _ (by have := h.rho _ (show ρ (bl b) ≠ .plain by rw [e']; simp); omega)]; exact e'⟩⟩
  refine .inl ⟨e, ss.map fun s => Value.string ⟨s.toArray⟩, ⟨by simp, .inr ⟨w.heap.size, ss.length, (ss.map fun s => Value.string ⟨s.toArray⟩).toArray, by rw [List.length_map], ⟨(0, 0), .inl rfl, heap_alloc_new w _⟩, by simp, hlen, by simp, by simp [List.take_of_length_le]⟩⟩, ⟨fun x hx => ?_, fun d hd => ?_, by rw [hfl]; simp, fun i d u hd hu => ?_⟩, fun g hg => ?_⟩
  · obtain ⟨s, _, rfl⟩ := List.mem_map.1 hx; rfl
  · rw [hfl] at hd; obtain ⟨s, _, rfl⟩ := List.mem_map.1 hd; rfl
  · rw [hfl, List.getElem?_map, Option.map_eq_some_iff] at hd
    rw [List.getElem?_map, Option.map_eq_some_iff] at hu
    obtain ⟨s, hs, rfl⟩ := hd
    obtain ⟨s', hs', rfl⟩ := hu
    rw [hs] at hs'; cases hs'
    exact .str s
  · simp [Value.ownBlock] at hg
    subst hg
    exact ⟨upd_same _ _ _, fun o => freezeRow_at _ _ _ _⟩
end B
end Go.Proofs.YtmkkljbfmdngfaaDoor
