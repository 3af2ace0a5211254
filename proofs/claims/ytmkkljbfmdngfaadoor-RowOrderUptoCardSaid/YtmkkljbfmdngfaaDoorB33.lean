/- A builder's box. No condition. -/
import Derived.Test.YtmkkljbfmdngfaaDoorB32
set_option linter.all false
namespace Go.Proofs.YtmkkljbfmdngfaaDoor
namespace B
open Go.RowKit
variable {P : Program} {Γ : Froz} {ρ : Nat → Role} {bl : Nat → Nat} {w w' : World}

/-- What a builder's box is, in memory. -/
theorem SR.bld {st : St} {tmps : Array Value} (h : SR Γ ρ bl st tmps w) {b T : Nat} {x : CV} (hb : st.bx b = some [.sp b T, x]) :
    ∃ v0 v1, w.heap[bl b]? = some (.cells #[v0, v1] T (0, 0)) ∧ (v0 = .pointer none ∨ v0 = .pointer (some ⟨bl b, 0, none⟩)) ∧ RepC1 Γ ρ bl w (.b b) 1 x v1 := by
  obtain ⟨arr, e, h1, h2, h3, h4⟩ := h.boxes b _ hb rfl
  obtain ⟨arr', fz, h5⟩ := h.bty b b T _ hb rfl
  rw [h1] at h5
  injection h5 with h5; injection h5 with e1 e2 e3
  subst e1; subst e2
  obtain ⟨arr⟩ := arr
  obtain ⟨k1, k2⟩ := h3
  match arr, k1, k2 with
  | [v0, v1], _, k2 => exact ⟨v0, v1, h1, k2 0 _ v0 rfl rfl, k2 1 _ v1 rfl rfl⟩

theorem SR.rkb {f : Nat} {args : List CV} {vals : Array Value} {b : Nat} {cs : List CV} (h : SR Γ ρ bl ⟨args, [(b, cs)]⟩ vals w) (hro : rowOf cs = none) (ρ' : Nat → Role) : ∀ b', (([(b, cs)] : List (Nat × List CV)).lookup b').isSome = true → lowB f b' = true → RK ρ ρ' bl bl b' := by
  intro b' hb _
  have : b' = b := by
    simp only [List.lookup] at hb
    split at hb
    · rename_i e; simpa using e
    · cases hb
  subst this
  obtain ⟨_, _, _, h2, _⟩ := h.boxes b' cs (by simp [St.bx]) hro
  exact ⟨rfl, fun z cap e => by rw [h2] at e; cases e⟩
theorem SR.bldSet {args : List CV} {vals : Array Value} {b T E : Nat} {f f' : Bool} {l l' : Bytes} (h : SR Γ ρ bl ⟨args, [(b, [.sp b T, .bld E f l])]⟩ vals w)
    {v0 v1 v0' v1' : Value} (hk : w.heap[bl b]? = some (.cells #[v0, v1] T (0, 0))) (hv1 : Bld Γ ρ w (.b b) 1 E f l v1)
    (hsz : w.heap.size ≤ w'.heap.size) (hos : w'.os = w.os) (htape : w'.tape = w.tape) (hout : w'.output = w.output)
    (hold : ∀ k, k < w.heap.size → k ≠ bl b → v1.ownBlock ≠ some k → w'.heap[k]? = w.heap[k]?)
    (hk' : w'.heap[bl b]? = some (.cells #[v0', v1'] T (0, 0))) (h0 : v0' = .pointer none ∨ v0' = .pointer (some ⟨bl b, 0, none⟩)) (hf' : f' = true → v1' = .slice none 0 0)
    (ho : w'.ownsRowF 0 E 1 v1' l'.length (Lib.byteCells l')) (hb : ∀ g, v1'.ownBlock = some g → v1.ownBlock = some g ∨ w.heap.size ≤ g) :
    ∃ ρ', SR Γ ρ' bl ⟨args, [(b, [.sp b T, .bld E f' l'])]⟩ vals w' ∧ Fr w Γ ρ w' Γ ρ' := by
  have hbx : (⟨args, [(b, [.sp b T, .bld E f l])]⟩ : St).bx b = some [.sp b T, .bld E f l] := by simp [St.bx]
  obtain ⟨arr, e, b1, b2, b3, b4⟩ := h.boxes b _ hbx rfl
  let ρ' : Nat → Role := fun g => if v1'.ownBlock = some g then .own (.b b) 1 else ρ g
  have hown : ∀ g, v1.ownBlock = some g → ρ g = .own (.b b) 1 ∧ ∀ o, Γ ⟨g, o, none⟩ = none := hv1.2.2
  have hne : ∀ g (p : Place) i, ρ g = .own p i → (p, i) ≠ (.b b, 1) → ρ' g = ρ g ∧ w'.heap[g]? = w.heap[g]? := by
    intro g p i hg hpi
    have hlt := h.rho g (by rw [hg]; simp)
    have h1 : v1.ownBlock ≠ some g := fun e1 => by rw [(hown g e1).1] at hg; cases hg; exact hpi rfl
    refine ⟨?_, hold g hlt (fun e1 => by rw [e1, b2] at hg; cases hg) h1⟩
    simp only [ρ']
    rw [if_neg]
    intro e1
    rcases hb g e1 with h2 | h2
    · exact h1 h2
    · omega
  have hrow : ∀ g k z cap, ρ g = .row k z cap → ρ' g = .row k z cap ∧ w'.heap[g]? = w.heap[g]? := by
    intro g k z cap hg
    have hlt := h.rho g (by rw [hg]; simp)
    have h1 : v1.ownBlock ≠ some g := fun e1 => by rw [(hown g e1).1] at hg; cases hg
    refine ⟨?_, hold g hlt (fun e1 => by rw [e1, b2] at hg; cases hg) h1⟩
    simp only [ρ']
    rw [if_neg, hg]
    intro e1
    rcases hb g e1 with h2 | h2
    · exact h1 h2
    · omega
  have hbl : bl b < w.heap.size := h.rho _ (by rw [b2]; simp)
  have hbρ : ρ' (bl b) = .box b := by
    simp only [ρ']
    rw [if_neg, b2]
    intro e1
    rcases hb _ e1 with h2 | h2
    · rw [(hown _ h2).1] at b2; cases b2
    · omega
  have hcell : ∀ a v, Γ a = some v → w'.cell? a = some v := by
    intro a v ha
    have h1 := h.agree a v ha
    have hsp : a.spot = none := by
      cases hs : a.spot with
      | none => rfl
      | some q => unfold World.cell? at h1; split at h1 <;> simp [hs] at h1
    have hlt : a.block < w.heap.size := block_lt_of_cell h1
    have n1 : a.block ≠ bl b := fun e1 => by
      have := b4 a.off
      rw [← e1, ← Addr.eq_lit a hsp, ha] at this; cases this
    have n2 : v1.ownBlock ≠ some a.block := fun e1 => by
      have := (hown _ e1).2 a.off
      rw [← Addr.eq_lit a hsp, ha] at this; cases this
    rw [World.cell?_of_block (hold _ hlt n1 n2)]; exact h1
  refine ⟨ρ', ⟨hcell, h.len, fun i c hc => ?_, fun k cs hcs _ => ?_, fun k cs z l3 hcs hro => ?_, fun g k z cap hg => ?_, fun p k hm => ?_, fun g hg => ?_, h.gl, fun k j t cs hcs hj => ?_⟩, ⟨.refl _, hsz, hos, htape, hout, fun g hg hp => ?_, fun _ _ h => .inl h, fun g k z cap e _ _ => (hrow g k z cap e).1⟩⟩
  · obtain ⟨v, hv, hr⟩ := h.slots i c hc
    refine ⟨v, hv, hr.keep (.refl _) (fun j _ g hg => ?_) fun k _ => ⟨rfl, fun z cap e => (hrow _ k z cap e).1⟩⟩
    obtain ⟨q1, q2⟩ := hne g _ _ hg (by simp)
    exact ⟨q1, q2, fun _ => rfl⟩
  · have : k = b ∧ cs = [.sp b T, .bld E f' l'] := by
      simp only [St.bx, List.lookup] at hcs
      split at hcs
      · rename_i e1; simp at e1; cases hcs; exact ⟨e1, rfl⟩
      · cases hcs
    obtain ⟨rfl, rfl⟩ := this
    refine ⟨_, _, hk', hbρ, ⟨rfl, fun i c v hc hv => ?_⟩, b4⟩
    match i with
    | 0 => simp at hc hv; subst hc; subst hv; exact h0
    | 1 =>
      simp at hc hv; subst hc; subst hv
      refine ⟨hf', ho, fun g hg => ⟨by simp only [ρ']; rw [if_pos hg], fun o => ?_⟩⟩
      rcases hb g hg with h2 | h2
      · exact (hown g h2).2 o
      · exact h.none_new h2 o
    | i + 2 => simp at hc
  · exfalso
    have : cs = [.sp b T, .bld E f' l'] := by
      simp only [St.bx, List.lookup] at hcs
      split at hcs
      · cases hcs; rfl
      · cases hcs
    subst this; cases hro
  · have hg2 : ρ g = .row k z cap := by
      simp only [ρ'] at hg
      split at hg
      · cases hg
      · exact hg
    obtain ⟨arr2, e2, fz2, q1, q2⟩ := h.rowk g k z cap hg2
    exact ⟨arr2, e2, fz2, by rw [(hrow g k z cap hg2).2]; exact q1, q2⟩
  · have hold' : ∀ q, ((⟨args, [(b, [.sp b T, .bld E f l])]⟩ : St).get q).ment k → ((⟨args, [(b, [.sp b T, .bld E f' l'])]⟩ : St).bx k).isSome = true := by
      intro q hq
      have := h.closed q k hq
      simp only [St.bx, List.lookup] at this ⊢
      split <;> simp_all
    cases p with
    | s n => exact hold' (.s n) hm
    | b n =>
      refine hold' (.b n) ?_
      simp only [St.get, St.bx, List.lookup] at hm ⊢
      by_cases e1 : (n == b) = true
      · simp only [e1] at hm ⊢
        obtain ⟨c, hc, hm⟩ := hm
        simp at hc
        rcases hc with rfl | rfl
        · exact ⟨_, by simp, hm⟩
        · exact hm.elim
      · simp only [e1] at hm
        exact hm.elim
  · simp only [ρ'] at hg
    split at hg
    · rename_i e1
      rcases ho.2 with ⟨q, _⟩ | ⟨g', cap, cur, fz, q, _, q2, _⟩
      · rw [q] at e1; simp [Value.ownBlock] at e1
      · rw [q] at e1; simp [Value.ownBlock] at e1; subst e1
        exact (Array.getElem?_eq_some_iff.1 q2).1
    · exact Nat.lt_of_lt_of_le (h.rho g hg) hsz
  · have : k = b ∧ cs = [.sp b T, .bld E f' l'] := by
      simp only [St.bx, List.lookup] at hcs
      split at hcs
      · rename_i e1; simp at e1; cases hcs; exact ⟨e1, rfl⟩
      · cases hcs
    obtain ⟨rfl, rfl⟩ := this
    simp at hj
    obtain ⟨_, rfl⟩ := hj
    exact ⟨_, _, hk'⟩
  · have n1 : g ≠ bl b := fun e1 => by rw [e1, b2] at hp; cases hp
    have n2 : v1.ownBlock ≠ some g := fun e1 => by rw [(hown g e1).1] at hp; cases hp
    refine ⟨hold g hg n1 n2, ?_⟩
    simp only [ρ']
    rw [if_neg, hp]
    intro e1
    rcases hb g e1 with h2 | h2
    · exact n2 h2
    · omega
end B
end Go.Proofs.YtmkkljbfmdngfaaDoor
