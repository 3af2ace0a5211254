/- The boxes' numbers are names alone. No condition. -/
import Derived.Test.YtmkkljbfmdngfaaGreatDoorB27
import Derived.Lib.LaidTab
import Derived.Below
import Derived.Sort.Row
import Derived.Sort.Grow
set_option linter.all false
namespace Go.Proofs.YtmkkljbfmdngfaaGreatDoor
namespace B
open Go.RowKit
variable {P : Program}

def CV.ren1 (σ : Nat → Nat) : CV → CV
  | .ptr b o => .ptr (σ b) o
  | .sp b t => .sp (σ b) t
  | .rs z b o n => .rs z (σ b) o n
  | .ea z b i o => .ea z (σ b) i o
  | .fn f caps => .fn f (caps.map σ)
  | c => c
def CV.ren (σ : Nat → Nat) : CV → CV
  | .tup l => .tup (l.map (CV.ren1 σ))
  | .agg l => .agg (l.map (CV.ren1 σ))
  | c => c.ren1 σ
def Place.ren (σ : Nat → Nat) : Place → Place
  | .b n => .b (σ n)
  | p => p
def Role.ren (σ : Nat → Nat) : Role → Role
  | .box b => .box (σ b)
  | .row b z cap => .row (σ b) z cap
  | .own p i => .own (p.ren σ) i
  | .plain => .plain
theorem rowOf_ren (σ : Nat → Nat) (cs : List CV) : rowOf (cs.map (CV.ren1 σ)) = rowOf cs := by
  match cs with
  | [] => rfl
  | [c] => cases c <;> rfl
  | a :: b :: r =>
    have n2 : ∀ (x y : CV) (t : List CV), rowOf (x :: y :: t) = none := fun x y t => by cases x <;> rfl
    simp only [List.map_cons, n2]
def renB (σ : Nat → Nat) (l : List (Nat × List CV)) : List (Nat × List CV) := l.map fun x => (σ x.1, x.2.map (CV.ren1 σ))
def St.ren (σ : Nat → Nat) (st : St) : St := ⟨st.s.map (CV.ren σ), renB σ st.b⟩

section
variable {σ τ : Nat → Nat} (h1 : ∀ n, τ (σ n) = n) (h2 : ∀ n, σ (τ n) = n)
include h1
theorem renB_lookup (b : Nat) : ∀ l : List (Nat × List CV), (renB σ l).lookup (σ b) = (l.lookup b).map fun cs => cs.map (CV.ren1 σ)
  | [] => rfl
  | (k, cs) :: r => by
    simp only [renB, List.map_cons, List.lookup]
    by_cases e : b = k
    · subst e; simp
    · have e1 : (b == k) = false := by simp [e]
      have e2 : (σ b == σ k) = false := by
        simp only [beq_eq_false_iff_ne]
        intro h; exact e (by rw [← h1 b, ← h1 k, h])
      rw [e1, e2]
      exact renB_lookup b r
include h2
theorem renB_lookup' (b : Nat) (l : List (Nat × List CV)) : (renB σ l).lookup b = (l.lookup (τ b)).map fun cs => cs.map (CV.ren1 σ) := by
  have := renB_lookup h1 (τ b) l
  rwa [h2] at this
omit h2
theorem rep1_ren {Γ : Froz} {ρ : Nat → Role} {bl : Nat → Nat} {w : World} {p : Place} {i : Nat} {c : CV} {v : Value} (h : RepC1 Γ ρ bl w p i c v) : RepC1 Γ (fun g => (ρ g).ren σ) (fun b => bl (τ b)) w (p.ren σ) i (c.ren1 σ) v := by
  cases c with
  | own sz l =>
    rcases h with ⟨e, vs, k1, k2, k3⟩ | h
    · exact .inl ⟨e, vs, k1, k2, fun g hg => ⟨by show (ρ g).ren σ = _; rw [(k3 g hg).1]; rfl, (k3 g hg).2⟩⟩
    · exact .inr h
  | ptr b o =>
    have h : v = .pointer (some ⟨bl b, o, none⟩) := h
    show v = .pointer (some ⟨bl (τ (σ b)), o, none⟩)
    rw [h1]; exact h
  | sp b t =>
    have h : v = .pointer none ∨ v = .pointer (some ⟨bl b, 0, none⟩) := h
    show v = .pointer none ∨ v = .pointer (some ⟨bl (τ (σ b)), 0, none⟩)
    rw [h1]; exact h
  | rs z k o n =>
    rcases (h : RowH ρ bl z k o n v) with h | ⟨c, cap, q1, q2, q3, q4⟩
    · exact .inl h
    · exact .inr ⟨c, cap, by dsimp only; rw [h1]; exact q1, q2, by dsimp only; rw [h1, q3]; rfl, q4⟩
  | ea z k j o =>
    obtain ⟨q1, cap, q3, q4⟩ := (h : RowA ρ bl z k j o v)
    exact ⟨by dsimp only; rw [h1]; exact q1, cap, by dsimp only; rw [h1, q3]; rfl, q4⟩
  | fn f caps =>
    have h : v = .func (.func f) #[] (caps.map fun b => Value.pointer (some ⟨bl b, 0, none⟩)).toArray := h
    show v = .func (.func f) #[] ((caps.map σ).map fun b => Value.pointer (some ⟨bl (τ b), 0, none⟩)).toArray
    rw [h, List.map_map]
    congr 2
    apply List.map_congr_left
    intro b _
    simp [h1]
  | bld e f l => exact ⟨h.1, h.2.1, fun g hg => ⟨by show (ρ g).ren σ = _; rw [(h.2.2 g hg).1]; rfl, (h.2.2 g hg).2⟩⟩
  | line z l => obtain ⟨g, buf, s, r, k1, k2, k3, k4⟩ := h; exact ⟨g, buf, s, r, k1, k2, by show (ρ g).ren σ = _; rw [k3]; rfl, k4⟩
  | _ => exact h
theorem repL_ren {Γ : Froz} {ρ : Nat → Role} {bl : Nat → Nat} {w : World} {p : Place} {cs : List CV} {vs : List Value} (h : RepL Γ ρ bl w p cs vs) : RepL Γ (fun g => (ρ g).ren σ) (fun b => bl (τ b)) w (p.ren σ) (cs.map (CV.ren1 σ)) vs := by
  refine ⟨by simpa using h.1, fun i c v hc hv => ?_⟩
  rw [List.getElem?_map, Option.map_eq_some_iff] at hc
  obtain ⟨c', hc', rfl⟩ := hc
  exact rep1_ren h1 (h.2 i c' v hc' hv)
theorem rep_ren {Γ : Froz} {ρ : Nat → Role} {bl : Nat → Nat} {w : World} {p : Place} {c : CV} {v : Value} (h : RepC Γ ρ bl w p c v) : RepC Γ (fun g => (ρ g).ren σ) (fun b => bl (τ b)) w (p.ren σ) (c.ren σ) v := by
  cases c with
  | tup l => obtain ⟨vs, k1, k2⟩ := h; exact ⟨vs, k1, repL_ren h1 k2⟩
  | agg l => obtain ⟨vs, k1, k2⟩ := h; exact ⟨vs, k1, repL_ren h1 k2⟩
  | d x => exact rep1_ren (Γ := Γ) (ρ := ρ) (bl := bl) (w := w) (p := p) (i := 0) (v := v) (c := .d x) h1 h
  | own z l => exact rep1_ren (Γ := Γ) (ρ := ρ) (bl := bl) (w := w) (p := p) (i := 0) (v := v) (c := .own z l) h1 h
  | nils => exact rep1_ren (Γ := Γ) (ρ := ρ) (bl := bl) (w := w) (p := p) (i := 0) (v := v) (c := .nils) h1 h
  | ptr k o => exact rep1_ren (Γ := Γ) (ρ := ρ) (bl := bl) (w := w) (p := p) (i := 0) (v := v) (c := .ptr k o) h1 h
  | ep cs => exact rep1_ren (Γ := Γ) (ρ := ρ) (bl := bl) (w := w) (p := p) (i := 0) (v := v) (c := .ep cs) h1 h
  | fn f cs => exact rep1_ren (Γ := Γ) (ρ := ρ) (bl := bl) (w := w) (p := p) (i := 0) (v := v) (c := .fn f cs) h1 h
  | junk => trivial
  | bld e f l => exact rep1_ren (Γ := Γ) (ρ := ρ) (bl := bl) (w := w) (p := p) (i := 0) (v := v) (c := .bld e f l) h1 h
  | line z l => exact rep1_ren (Γ := Γ) (ρ := ρ) (bl := bl) (w := w) (p := p) (i := 0) (v := v) (c := .line z l) h1 h
  | sp k t => exact rep1_ren (Γ := Γ) (ρ := ρ) (bl := bl) (w := w) (p := p) (i := 0) (v := v) (c := .sp k t) h1 h
  | rs z k o n => exact rep1_ren (Γ := Γ) (ρ := ρ) (bl := bl) (w := w) (p := p) (i := 0) (v := v) (c := .rs z k o n) h1 h
  | ea z k o n => exact rep1_ren (Γ := Γ) (ρ := ρ) (bl := bl) (w := w) (p := p) (i := 0) (v := v) (c := .ea z k o n) h1 h
  | arr z l => exact h.elim
theorem ment1_ren {c : CV} {b : Nat} (h : (c.ren1 σ).ment1 b) : ∃ k, b = σ k ∧ c.ment1 k := by
  cases c with
  | ptr k o => exact ⟨k, h.symm, rfl⟩
  | sp k t => exact ⟨k, h.symm, rfl⟩
  | rs z k o n => exact ⟨k, h.symm, rfl⟩
  | ea z k o n => exact ⟨k, h.symm, rfl⟩
  | fn f caps =>
    have h : b ∈ caps.map σ := h
    obtain ⟨k, hk, rfl⟩ := List.mem_map.1 h
    exact ⟨k, rfl, hk⟩
  | _ => exact h.elim
theorem ment_ren {c : CV} {b : Nat} (h : (c.ren σ).ment b) : ∃ k, b = σ k ∧ c.ment k := by
  have key : ∀ l : List CV, (∃ c ∈ l.map (CV.ren1 σ), c.ment1 b) → ∃ k, b = σ k ∧ ∃ c ∈ l, c.ment1 k := by
    rintro l ⟨c, hc, hm⟩
    obtain ⟨c', hc', rfl⟩ := List.mem_map.1 hc
    obtain ⟨k, e, hk⟩ := ment1_ren h1 hm
    exact ⟨k, e, c', hc', hk⟩
  cases c with
  | tup l => exact key l h
  | agg l => exact key l h
  | ptr k o => exact ment1_ren h1 (c := .ptr k o) h
  | fn f cs => exact ment1_ren h1 (c := .fn f cs) h
  | sp k t => exact ment1_ren h1 (c := .sp k t) h
  | rs z k o n => exact ment1_ren h1 (c := .rs z k o n) h
  | ea z k o n => exact ment1_ren h1 (c := .ea z k o n) h
  | _ => exact h.elim
include h2
theorem SR.ren {Γ : Froz} {ρ : Nat → Role} {bl : Nat → Nat} {st : St} {tmps : Array Value} {w : World} (h : SR Γ ρ bl st tmps w) : SR Γ (fun g => (ρ g).ren σ) (fun b => bl (τ b)) (st.ren σ) tmps w := by
  refine ⟨h.agree, by simp [St.ren, h.len], fun i c hc => ?_, fun b cs hcs hro => ?_, fun b cs z l hcs hro => ?_, fun g b z cap hc => ?_, fun p b hb => ?_, fun g hg => h.rho g fun e => hg (by simp [e, Role.ren]), h.gl, fun b k t cs hcs hk => ?_⟩
  · simp only [St.ren, List.getElem?_map, Option.map_eq_some_iff] at hc
    obtain ⟨c', hc', rfl⟩ := hc
    obtain ⟨v, hv, hr⟩ := h.slots i c' hc'
    exact ⟨v, hv, rep_ren h1 hr⟩
  · simp only [St.ren, St.bx] at hcs
    rw [renB_lookup' h1 h2, Option.map_eq_some_iff] at hcs
    obtain ⟨cs', hcs', rfl⟩ := hcs
    rw [rowOf_ren] at hro
    obtain ⟨arr, e, k1, k2, k3, k4⟩ := h.boxes (τ b) cs' hcs' hro
    have := repL_ren h1 k3
    simp only [Place.ren, h2] at this
    exact ⟨arr, e, k1, by simp only [k2, Role.ren, h2], this, k4⟩
  · simp only [St.ren, St.bx] at hcs
    rw [renB_lookup' h1 h2, Option.map_eq_some_iff] at hcs
    obtain ⟨cs', hcs', rfl⟩ := hcs
    rw [rowOf_ren] at hro
    rcases h.rows (τ b) cs' z l hcs' hro with rfl | ⟨arr, e, fz, cap, q1, q2, q3, q4⟩
    · exact .inl rfl
    · exact .inr ⟨arr, e, fz, cap, q1, by simp only [q2, Role.ren, h2], q3, q4⟩
  · cases e : ρ g with
    | row b' z' cap' =>
      simp only [e, Role.ren] at hc
      injection hc with c1 c2 c3
      subst c2; subst c3
      exact h.rowk g b' z' cap' e
    | _ => simp [e, Role.ren] at hc
  · have key : ∃ k, b = σ k ∧ (st.bx k).isSome = true := by
      cases p with
      | s n =>
        simp only [St.get, St.ren, List.getD_eq_getElem?_getD, List.getElem?_map] at hb
        cases e : st.s[n]? with
        | none => rw [e] at hb; exact hb.elim
        | some c =>
          rw [e] at hb
          obtain ⟨k, hk, hm⟩ := ment_ren h1 hb
          exact ⟨k, hk, h.closed (.s n) k (by rw [St.get_slot e]; exact hm)⟩
      | b n =>
        simp only [St.get, St.ren, St.bx, renB_lookup' h1 h2] at hb
        cases e : st.b.lookup (τ n) with
        | none => rw [e] at hb; exact hb.elim
        | some cs =>
          rw [e] at hb
          obtain ⟨c, hc, hm⟩ := hb
          obtain ⟨c', hc', rfl⟩ := List.mem_map.1 hc
          obtain ⟨k, hk, hm⟩ := ment1_ren h1 hm
          exact ⟨k, hk, h.closed (.b (τ n)) k (by rw [St.get_bx (st := st) e]; exact ⟨c', hc', hm⟩)⟩
    obtain ⟨k, rfl, hk⟩ := key
    simp only [St.ren, St.bx, renB_lookup h1]
    simp only [St.bx] at hk
    cases e : st.b.lookup k with
    | none => rw [e] at hk; cases hk
    | some cs => rfl
  · simp only [St.ren, St.bx] at hcs
    rw [renB_lookup' h1 h2, Option.map_eq_some_iff] at hcs
    obtain ⟨cs', hcs', rfl⟩ := hcs
    rw [List.getElem?_map, Option.map_eq_some_iff] at hk
    obtain ⟨c, hc, e⟩ := hk
    cases c with
    | sp k' t' =>
      simp only [CV.ren1] at e
      injection e with _ e2
      subst e2
      exact h.bty (τ b) k' t' cs' hcs' hc
    | _ => simp [CV.ren1] at e
omit h1 in
theorem ren1_ren1 (c : CV) : (c.ren1 τ).ren1 σ = c := by
  cases c with
  | ptr k o => simp [CV.ren1, h2]
  | sp k t => simp [CV.ren1, h2]
  | rs z k o n => simp [CV.ren1, h2]
  | ea z k o n => simp [CV.ren1, h2]
  | fn f caps =>
    simp only [CV.ren1, List.map_map]
    congr 1
    conv => rhs; rw [← List.map_id caps]
    exact List.map_congr_left fun b _ => h2 b
  | _ => rfl
omit h1 in
theorem map_ren1 (l : List CV) : (l.map (CV.ren1 τ)).map (CV.ren1 σ) = l := by
  rw [List.map_map]
  conv => rhs; rw [← List.map_id l]
  exact List.map_congr_left fun c _ => ren1_ren1 h2 c
omit h1 in
theorem ren_ren (c : CV) : (c.ren τ).ren σ = c := by
  cases c with
  | tup l => show CV.tup _ = _; rw [map_ren1 h2]
  | agg l => show CV.agg _ = _; rw [map_ren1 h2]
  | ptr k o => exact ren1_ren1 h2 (.ptr k o)
  | fn f caps => exact ren1_ren1 h2 (.fn f caps)
  | sp k t => exact ren1_ren1 h2 (.sp k t)
  | rs z k o n => exact ren1_ren1 h2 (.rs z k o n)
  | ea z k o n => exact ren1_ren1 h2 (.ea z k o n)
  | _ => rfl
omit h1 in
theorem renB_renB (l : List (Nat × List CV)) : renB σ (renB τ l) = l := by
  simp only [renB, List.map_map]
  conv => rhs; rw [← List.map_id l]
  refine List.map_congr_left fun x _ => ?_
  simp only [Function.comp, h2, map_ren1 h2, id]
/-- **Whatever the boxes are called.** -/
theorem Runs.ren {f : Nat} (h5 : ∀ b, lowB f b = true → lowB f (τ b) = true) {args : List CV} {objs objs' : List (Nat × List CV)} {res : CV} (h : Runs P f args objs res objs') : Runs P f (args.map (CV.ren σ)) (renB σ objs) (res.ren σ) (renB σ objs') := by
  refine ⟨h.1, fun Γ ρ bl vals w hs hgz => ?_⟩
  have hs1 := hs.ren (σ := τ) (τ := σ) h2 h1
  have e1 : (⟨args.map (CV.ren σ), renB σ objs⟩ : St).ren τ = ⟨args, objs⟩ := by
    simp only [St.ren, renB_renB h1, List.map_map]
    congr 1
    conv => rhs; rw [← List.map_id args]
    exact List.map_congr_left fun c _ => ren_ren h1 c
  rw [e1] at hs1
  refine (h.2 Γ _ _ vals w hs1 (hgz.role fun g hg => by simp [hg, Role.ren])).mono ?_
  rintro e w' ⟨v, Γ', ρ', bl', rfl, k1, k2, k3⟩
  have rr : ∀ r : Role, (r.ren τ).ren σ = r := by
    intro r
    cases r with
    | plain => rfl
    | box b => simp [Role.ren, h2]
    | row b z cap => simp [Role.ren, h2]
    | own p i => cases p <;> simp [Role.ren, Place.ren, h2]
  have rp : ∀ r : Role, r.ren σ = .plain ↔ r = .plain := by intro r; cases r <;> simp [Role.ren]
  have rp' : ∀ r : Role, r.ren τ = .plain ↔ r = .plain := by intro r; cases r <;> simp [Role.ren]
  refine ⟨v, Γ', _, _, rfl, k1.ren h1 h2, ⟨k2.le, k2.size, k2.os, k2.tape, k2.output, fun g hg hp => ?_, fun a u ha => ?_⟩, fun b hb hb5 => ?_⟩
  · obtain ⟨j1, j2⟩ := k2.block g hg ((rp' _).2 hp)
    exact ⟨j1, (rp _).2 j2⟩
  · rcases k2.new a u ha with j | j | j
    · exact .inl j
    · exact .inr (.inl j)
    · exact .inr (.inr fun e => j ((rp' _).2 e))
  · rw [renB_lookup' h1 h2] at hb
    have : (objs.lookup (τ b)).isSome = true := by
      cases e : objs.lookup (τ b) with
      | none => rw [e] at hb; cases hb
      | some _ => rfl
    obtain ⟨q1, q2⟩ := k3 (τ b) this (h5 b hb5)
    dsimp only at q1 q2
    rw [h2] at q1 q2
    refine ⟨q1, fun z cap e => ?_⟩
    have := q2 z cap (by simp [e, Role.ren])
    dsimp only
    rw [this]; simp [Role.ren, h2]
end

/-- Two numbers, exchanged. -/
def swp (a b : Nat) : Nat → Nat := fun n => if n = a then b else if n = b then a else n
theorem swap_swap (a b n : Nat) : swp a b (swp a b n) = n := by
  unfold swp
  by_cases h1 : n = a
  · subst h1
    by_cases h2 : b = n <;> simp [h2]
  · by_cases h2 : n = b
    · subst h2; simp
    · simp [h1, h2]
theorem swp_low {f a b : Nat} (hab : (a < 5000 ↔ b < 5000) ∨ mvF f = false) (n : Nat) (h : lowB f n = true) : lowB f (swp a b n) = true := by
  rcases hab with hab | hab
  · unfold lowB hiB at h ⊢
    simp only [Bool.not_eq_true', Bool.and_eq_false_iff, decide_eq_false_iff_not] at h ⊢
    rcases h with h | h
    · exact .inl h
    · refine .inr ?_
      unfold swp
      split
      · subst_vars; omega
      · split
        · subst_vars; omega
        · exact h
  · unfold lowB; rw [hab]; rfl
theorem Runs.swap {f : Nat} {args : List CV} {objs objs' : List (Nat × List CV)} {res : CV} (a b : Nat) (h : Runs P f args objs res objs') (hab : (a < 5000 ↔ b < 5000) ∨ mvF f = false := by first | (left; omega) | (right; decide)) : Runs P f (args.map (CV.ren (swp a b))) (renB (swp a b) objs) (res.ren (swp a b)) (renB (swp a b) objs') :=
  h.ren (swap_swap a b) (swap_swap a b) (swp_low hab)
end B
end Go.Proofs.YtmkkljbfmdngfaaGreatDoor

namespace Go.Proofs.YtmkkljbfmdngfaaGreatDoor
namespace B
variable {P : Program} {n : Nat} {t e : TypeId} {x : D}

/-- A value of a type. -/
def TyV (P : Program) (n : Nat) (t : TypeId) (x : D) : Prop := Ty P n t x.cells ∧ x = mkEl P t x.cells
theorem ty_int {k : IntKind} (hu : P.underlying t = some (.int k)) (h : TyV P (n + 1) t x) : ∃ y, x = .int k y ∧ k.min ≤ y ∧ y ≤ k.max := by
  obtain ⟨h1, h2⟩ := h
  unfold Ty at h1
  unfold mkEl at h2
  rw [hu] at h1 h2
  obtain ⟨b, hb, h3⟩ := h1
  rw [hb] at h2
  exact ⟨b, h2, h3⟩
theorem ty_str (hu : P.underlying t = some .string) (h : TyV P (n + 1) t x) : ∃ s : Bytes, x = .str s ∧ s.length ≤ maxLen := by
  obtain ⟨h1, h2⟩ := h
  unfold Ty at h1
  unfold mkEl at h2
  rw [hu] at h1 h2
  obtain ⟨b, hb, h3⟩ := h1
  rw [hb] at h2
  exact ⟨b, h2, h3⟩
/-- The cells of a field. -/
theorem ty_struct {fs : Array Field} (hu : P.underlying t = some (.struct fs)) (h : TyV P (n + 1) t x) : ∃ parts : List (List D), x = .agg parts.flatten ∧ parts.length = fs.toList.length ∧ ∀ (i : Nat) f p, fs.toList[i]? = some f → parts[i]? = some p → Ty P n f.type p := by
  obtain ⟨h1, h2⟩ := h
  unfold Ty at h1
  unfold mkEl at h2
  rw [hu] at h1 h2
  obtain ⟨parts, hb, h3⟩ := h1
  rw [hb] at h2
  exact ⟨parts, h2, h3⟩
theorem ty_list {α : Type} {f : α → D} {l : List D} (h : ∀ y ∈ l, ∃ a, y = f a) : ∃ as : List α, l = as.map f := by
  induction l with
  | nil => exact ⟨[], rfl⟩
  | cons y r ih =>
    obtain ⟨a, rfl⟩ := h y (by simp)
    obtain ⟨as, rfl⟩ := ih fun z hz => h z (by simp [hz])
    exact ⟨a :: as, rfl⟩
theorem tyAll_nil {xs : List D} (h : TyAll P n [] xs) : xs = [] := by
  cases xs with
  | nil => rfl
  | cons x r => exact h.elim
theorem tyAll_cons {ts : List TypeId} {xs : List D} (h : TyAll P n (t :: ts) xs) : ∃ x r, xs = x :: r ∧ TyV P n t x ∧ TyAll P n ts r := by
  cases xs with
  | nil => exact h.elim
  | cons x r => exact ⟨x, r, rfl, h.1, h.2⟩
end B
end Go.Proofs.YtmkkljbfmdngfaaGreatDoor

namespace Go.Proofs.YtmkkljbfmdngfaaGreatDoor
namespace B
open Go.RowKit
variable {P : Program}

theorem vals1 {Γ : Froz} {ρ : Nat → Role} {bl : Nat → Nat} {c : CV} {objs : List (Nat × List CV)} {vals : Array Value} {w : World} (h : SR Γ ρ bl ⟨[c], objs⟩ vals w) : ∃ v, vals = #[v] ∧ RepC Γ ρ bl w (.s 0) c v := by
  obtain ⟨v0, hv0, hr0⟩ := h.slots 0 _ rfl
  have hl : vals.size = 1 := h.len
  refine ⟨v0, Array.ext (by simp [hl]) fun i h1 h2 => ?_, hr0⟩
  simp at h2; subst h2
  have := Array.getElem?_eq_getElem h1; rw [hv0] at this; simpa using this.symm
theorem vals2 {Γ : Froz} {ρ : Nat → Role} {bl : Nat → Nat} {c d : CV} {objs : List (Nat × List CV)} {vals : Array Value} {w : World} (h : SR Γ ρ bl ⟨[c, d], objs⟩ vals w) : ∃ v u, vals = #[v, u] ∧ RepC Γ ρ bl w (.s 0) c v ∧ RepC Γ ρ bl w (.s 1) d u := by
  obtain ⟨v0, hv0, hr0⟩ := h.slots 0 _ rfl
  obtain ⟨v1, hv1, hr1⟩ := h.slots 1 _ rfl
  have hl : vals.size = 2 := h.len
  refine ⟨v0, v1, Array.ext (by simp [hl]) fun i h1 h2 => ?_, hr0, hr1⟩
  simp at h2
  match i, h2 with
  | 0, _ => have := Array.getElem?_eq_getElem h1; rw [hv0] at this; simpa using this.symm
  | 1, _ => have := Array.getElem?_eq_getElem h1; rw [hv1] at this; simpa using this.symm

/-- Data come out; what lay there stands. -/
theorem done_below {f : Nat} {Γ : Froz} {ρ : Nat → Role} {bl : Nat → Nat} {args : List CV} {objs : List (Nat × List CV)} {vals : Array Value} {w w' : World} {x : CV} {v : Value} (h : SR Γ ρ bl ⟨args, objs⟩ vals w)
    (hb : Below w.heap.size w w') (hr : RepC Γ ρ bl w' (.s 0) x v) (hm : ∀ b, ¬ x.ment b) :
    ∃ v' Γ' ρ' bl', Ending.returned v = .returned v' ∧ SR Γ' ρ' bl' ⟨[x], objs⟩ #[v'] w' ∧ Fr0 w Γ ρ w' Γ' ρ' ∧ ∀ b, (objs.lookup b).isSome = true → lowB f b = true → RK ρ ρ' bl bl' b :=
  ⟨v, Γ, ρ, bl, rfl, (h.world hb.size hb.block).result hr (fun b e => (hm b e).elim), ⟨.refl _, hb.size, hb.os, hb.tape, hb.output, fun g hg hp => ⟨hb.block g hg, hp⟩, fun _ _ h => .inl h⟩, fun _ _ _ => RK.refl⟩

end B
end Go.Proofs.YtmkkljbfmdngfaaGreatDoor

namespace Go.Proofs.YtmkkljbfmdngfaaGreatDoor
namespace B
open Go.RowKit
variable {P : Program} {Γ : Froz} {ρ : Nat → Role} {bl : Nat → Nat} {w w' : World}

/-- What a builder's box is, in memory. -/
theorem SR.bld {st : St} {tmps : Array Value} (h : SR Γ ρ bl st tmps w) {b T : Nat} {x : CV} (hb : st.bx b = some [.sp b T, x]) :
    ∃ v0 v1, w.heap[bl b]? = some (.cells #[v0, v1] T (0, 0)) ∧ (v0 = .pointer none ∨ v0 = .pointer (some ⟨bl b, 0, none⟩)) ∧ RepC1 Γ ρ bl w (.b b) 1 x v1 := by
  obtain ⟨arr, e, h1, h2, h3, h4⟩ := h.boxes b _ hb rfl
  obtain ⟨arr', fz, h5⟩ := h.bty b b T _ hb rfl
  rw [h1] at h5
  injection h5 with h5; injection h5 with e1 e2 e3
  subst e1; subst e2
  obtain ⟨arr⟩ := arr
  obtain ⟨k1, k2⟩ := h3
  match arr, k1, k2 with
  | [v0, v1], _, k2 => exact ⟨v0, v1, h1, k2 0 _ v0 rfl rfl, k2 1 _ v1 rfl rfl⟩

theorem SR.rkb {f : Nat} {args : List CV} {vals : Array Value} {b : Nat} {cs : List CV} (h : SR Γ ρ bl ⟨args, [(b, cs)]⟩ vals w) (hro : rowOf cs = none) (ρ' : Nat → Role) : ∀ b', (([(b, cs)] : List (Nat × List CV)).lookup b').isSome = true → lowB f b' = true → RK ρ ρ' bl bl b' := by
  intro b' hb _
  have : b' = b := by
    simp only [List.lookup] at hb
    split at hb
    · rename_i e; simpa using e
    · cases hb
  subst this
  obtain ⟨_, _, _, h2, _⟩ := h.boxes b' cs (by simp [St.bx]) hro
  exact ⟨rfl, fun z cap e => by rw [h2] at e; cases e⟩
theorem SR.bldSet {args : List CV} {vals : Array Value} {b T E : Nat} {f f' : Bool} {l l' : Bytes} (h : SR Γ ρ bl ⟨args, [(b, [.sp b T, .bld E f l])]⟩ vals w)
    {v0 v1 v0' v1' : Value} (hk : w.heap[bl b]? = some (.cells #[v0, v1] T (0, 0))) (hv1 : Bld Γ ρ w (.b b) 1 E f l v1)
    (hsz : w.heap.size ≤ w'.heap.size) (hos : w'.os = w.os) (htape : w'.tape = w.tape) (hout : w'.output = w.output)
    (hold : ∀ k, k < w.heap.size → k ≠ bl b → v1.ownBlock ≠ some k → w'.heap[k]? = w.heap[k]?)
    (hk' : w'.heap[bl b]? = some (.cells #[v0', v1'] T (0, 0))) (h0 : v0' = .pointer none ∨ v0' = .pointer (some ⟨bl b, 0, none⟩)) (hf' : f' = true → v1' = .slice none 0 0)
    (ho : w'.ownsRowF 0 E 1 v1' l'.length (Lib.byteCells l')) (hb : ∀ g, v1'.ownBlock = some g → v1.ownBlock = some g ∨ w.heap.size ≤ g) :
    ∃ ρ', SR Γ ρ' bl ⟨args, [(b, [.sp b T, .bld E f' l'])]⟩ vals w' ∧ Fr w Γ ρ w' Γ ρ' := by
  have hbx : (⟨args, [(b, [.sp b T, .bld E f l])]⟩ : St).bx b = some [.sp b T, .bld E f l] := by simp [St.bx]
  obtain ⟨arr, e, b1, b2, b3, b4⟩ := h.boxes b _ hbx rfl
  let ρ' : Nat → Role := fun g => if v1'.ownBlock = some g then .own (.b b) 1 else ρ g
  have hown : ∀ g, v1.ownBlock = some g → ρ g = .own (.b b) 1 ∧ ∀ o, Γ ⟨g, o, none⟩ = none := hv1.2.2
  have hne : ∀ g (p : Place) i, ρ g = .own p i → (p, i) ≠ (.b b, 1) → ρ' g = ρ g ∧ w'.heap[g]? = w.heap[g]? := by
    intro g p i hg hpi
    have hlt := h.rho g (by rw [hg]; simp)
    have h1 : v1.ownBlock ≠ some g := fun e1 => by rw [(hown g e1).1] at hg; cases hg; exact hpi rfl
    refine ⟨?_, hold g hlt (fun e1 => by rw [e1, b2] at hg; cases hg) h1⟩
    simp only [ρ']
    rw [if_neg]
    intro e1
    rcases hb g e1 with h2 | h2
    · exact h1 h2
    · omega
  have hrow : ∀ g k z cap, ρ g = .row k z cap → ρ' g = .row k z cap ∧ w'.heap[g]? = w.heap[g]? := by
    intro g k z cap hg
    have hlt := h.rho g (by rw [hg]; simp)
    have h1 : v1.ownBlock ≠ some g := fun e1 => by rw [(hown g e1).1] at hg; cases hg
    refine ⟨?_, hold g hlt (fun e1 => by rw [e1, b2] at hg; cases hg) h1⟩
    simp only [ρ']
    rw [if_neg, hg]
    intro e1
    rcases hb g e1 with h2 | h2
    · exact h1 h2
    · omega
  have hbl : bl b < w.heap.size := h.rho _ (by rw [b2]; simp)
  have hbρ : ρ' (bl b) = .box b := by
    simp only [ρ']
    rw [if_neg, b2]
    intro e1
    rcases hb _ e1 with h2 | h2
    · rw [(hown _ h2).1] at b2; cases b2
    · omega
  have hcell : ∀ a v, Γ a = some v → w'.cell? a = some v := by
    intro a v ha
    have h1 := h.agree a v ha
    have hsp : a.spot = none := by
      cases hs : a.spot with
      | none => rfl
      | some q => unfold World.cell? at h1; split at h1 <;> simp [hs] at h1
    have hlt : a.block < w.heap.size := block_lt_of_cell h1
    have n1 : a.block ≠ bl b := fun e1 => by
      have := b4 a.off
      rw [← e1, ← Addr.eq_lit a hsp, ha] at this; cases this
    have n2 : v1.ownBlock ≠ some a.block := fun e1 => by
      have := (hown _ e1).2 a.off
      rw [← Addr.eq_lit a hsp, ha] at this; cases this
    rw [World.cell?_of_block (hold _ hlt n1 n2)]; exact h1
  refine ⟨ρ', ⟨hcell, h.len, fun i c hc => ?_, fun k cs hcs _ => ?_, fun k cs z l3 hcs hro => ?_, fun g k z cap hg => ?_, fun p k hm => ?_, fun g hg => ?_, h.gl, fun k j t cs hcs hj => ?_⟩, ⟨.refl _, hsz, hos, htape, hout, fun g hg hp => ?_, fun _ _ h => .inl h, fun g k z cap e _ _ => (hrow g k z cap e).1⟩⟩
  · obtain ⟨v, hv, hr⟩ := h.slots i c hc
    refine ⟨v, hv, hr.keep (.refl _) (fun j _ g hg => ?_) fun k _ => ⟨rfl, fun z cap e => (hrow _ k z cap e).1⟩⟩
    obtain ⟨q1, q2⟩ := hne g _ _ hg (by simp)
    exact ⟨q1, q2, fun _ => rfl⟩
  · have : k = b ∧ cs = [.sp b T, .bld E f' l'] := by
      simp only [St.bx, List.lookup] at hcs
      split at hcs
      · rename_i e1; simp at e1; cases hcs; exact ⟨e1, rfl⟩
      · cases hcs
    obtain ⟨rfl, rfl⟩ := this
    refine ⟨_, _, hk', hbρ, ⟨rfl, fun i c v hc hv => ?_⟩, b4⟩
    match i with
    | 0 => simp at hc hv; subst hc; subst hv; exact h0
    | 1 =>
      simp at hc hv; subst hc; subst hv
      refine ⟨hf', ho, fun g hg => ⟨by simp only [ρ']; rw [if_pos hg], fun o => ?_⟩⟩
      rcases hb g hg with h2 | h2
      · exact (hown g h2).2 o
      · exact h.none_new h2 o
    | i + 2 => simp at hc
  · exfalso
    have : cs = [.sp b T, .bld E f' l'] := by
      simp only [St.bx, List.lookup] at hcs
      split at hcs
      · cases hcs; rfl
      · cases hcs
    subst this; cases hro
  · have hg2 : ρ g = .row k z cap := by
      simp only [ρ'] at hg
      split at hg
      · cases hg
      · exact hg
    obtain ⟨arr2, e2, fz2, q1, q2⟩ := h.rowk g k z cap hg2
    exact ⟨arr2, e2, fz2, by rw [(hrow g k z cap hg2).2]; exact q1, q2⟩
  · have hold' : ∀ q, ((⟨args, [(b, [.sp b T, .bld E f l])]⟩ : St).get q).ment k → ((⟨args, [(b, [.sp b T, .bld E f' l'])]⟩ : St).bx k).isSome = true := by
      intro q hq
      have := h.closed q k hq
      simp only [St.bx, List.lookup] at this ⊢
      split <;> simp_all
    cases p with
    | s n => exact hold' (.s n) hm
    | b n =>
      refine hold' (.b n) ?_
      simp only [St.get, St.bx, List.lookup] at hm ⊢
      by_cases e1 : (n == b) = true
      · simp only [e1] at hm ⊢
        obtain ⟨c, hc, hm⟩ := hm
        simp at hc
        rcases hc with rfl | rfl
        · exact ⟨_, by simp, hm⟩
        · exact hm.elim
      · simp only [e1] at hm
        exact hm.elim
  · simp only [ρ'] at hg
    split at hg
    · rename_i e1
      rcases ho.2 with ⟨q, _⟩ | ⟨g', cap, cur, fz, q, _, q2, _⟩
      · rw [q] at e1; simp [Value.ownBlock] at e1
      · rw [q] at e1; simp [Value.ownBlock] at e1; subst e1
        exact (Array.getElem?_eq_some_iff.1 q2).1
    · exact Nat.lt_of_lt_of_le (h.rho g hg) hsz
  · have : k = b ∧ cs = [.sp b T, .bld E f' l'] := by
      simp only [St.bx, List.lookup] at hcs
      split at hcs
      · rename_i e1; simp at e1; cases hcs; exact ⟨e1, rfl⟩
      · cases hcs
    obtain ⟨rfl, rfl⟩ := this
    simp at hj
    obtain ⟨_, rfl⟩ := hj
    exact ⟨_, _, hk'⟩
  · have n1 : g ≠ bl b := fun e1 => by rw [e1, b2] at hp; cases hp
    have n2 : v1.ownBlock ≠ some g := fun e1 => by rw [(hown g e1).1] at hp; cases hp
    refine ⟨hold g hg n1 n2, ?_⟩
    simp only [ρ']
    rw [if_neg, hp]
    intro e1
    rcases hb g e1 with h2 | h2
    · exact n2 h2
    · omega
end B
end Go.Proofs.YtmkkljbfmdngfaaGreatDoor

namespace Go.Proofs.YtmkkljbfmdngfaaGreatDoor
namespace B
open Go.RowKit
variable {P : Program} {H : Type} {enc : TypeId × Value → H} {w : World} {Γ : Froz}

theorem mapM_len {α β : Type} {f : α → Option β} : ∀ {l : List α} {r : List β}, l.mapM f = some r → r.length = l.length := fun h => Lib.mapM_length h
theorem slice_weight {t e : TypeId} (ht : P.underlying t = some (.slice e)) {v : Value} {z : Nat} {l : List D} {fuel base : Nat} {sp : Nat → Bool} {held : Bool} {d : DataW H} {p : List MemPlace}
    (h : DataW.trod enc P w base sp held fuel t v.cells.toList = some (d, p)) (hr : Rep Γ (.slice z l) v) (hw : (d.weights P t).all (· ≤ reachBytes) = true) : l.length * P.bytesOf e ≤ reachBytes := by
  cases hr with
  | nil => simp
  | nil0 => simp
  | slice _ _ a c vals hs hc hz hf hv hr =>
    cases fuel with
    | zero => simp [DataW.trod] at h
    | succ fuel =>
      have hc : (Value.slice (some a) l.length c).cells.toList = [.slice (some a) l.length c] := rfl
      rw [hc] at h
      simp only [DataW.trod, ht] at h
      split at h
      · obtain ⟨elems, he, h⟩ := Option.bind_eq_some_iff.1 h
        obtain ⟨rest, hrest, h⟩ := Option.map_eq_some_iff.1 h
        have hd := congrArg Prod.fst h
        simp only at hd
        subst hd
        have hl := mapM_len he
        simp only [List.length_range] at hl
        unfold DataW.weights at hw
        rw [ht] at hw
        simp only [List.all_cons, Bool.and_eq_true, decide_eq_true_eq, List.length_map] at hw
        have := hw.1
        rw [hl] at this
        exact Nat.le_trans (Nat.mul_le_mul_right _ (Nat.le_add_right _ _)) this
      · cases h
end B
end Go.Proofs.YtmkkljbfmdngfaaGreatDoor

namespace Go.Proofs.YtmkkljbfmdngfaaGreatDoor
namespace B
open Go.RowKit Go.WideShapes Go.ChangeShapes
variable {P : Program} {H : Type} {enc : TypeId × Value → H} {w : World}

theorem args_weight {Γ : Froz} : ∀ {ts : List TypeId} {vs : List Value} {ds : List (DataW H)} {ps : List MemPlace} {xs : List D}, DataW.TrodAll enc P w 0 (fun _ => true) true ts vs ds ps → (∀ (i : Nat) x v, xs[i]? = some x → vs[i]? = some v → Rep Γ x v) → (DataW.weightsEach P ts ds).all (· ≤ reachBytes) = true →
    ∀ (j : Nat) t e z l, ts[j]? = some t → P.underlying t = some (.slice e) → xs[j]? = some (.slice z l) → l.length * P.bytesOf e ≤ reachBytes
  | [], vs, ds, ps, xs, h, _, _, j, t, e, z, l, ht, _, _ => by simp at ht
  | t0 :: ts, vs, ds, ps, xs, h, hr, hw, j, t, e, z, l, ht, hu, hx => by
    obtain ⟨v, vs1, d, ds1, p, q, rfl, rfl, rfl, ⟨m, h1⟩, h2⟩ := trodAll_cons h
    simp only [DataW.weightsEach, List.all_append, Bool.and_eq_true] at hw
    cases j with
    | zero =>
      simp at ht; subst ht
      exact slice_weight hu h1 (hr 0 _ v hx rfl) hw.1
    | succ j =>
      cases xs with
      | nil => simp at hx
      | cons x xs => exact args_weight (xs := xs) h2 (fun i x v hx hv => hr (i + 1) x v (by simpa using hx) (by simpa using hv)) hw.2 j t e z l (by simpa using ht) hu (by simpa using hx)
/-- **A law's contract, as its row asks it**, out of the contract on data. -/
theorem contract_of2 (hl : laidOutB P = true) (hm : mapsRowed P = true) (hz : ((List.range P.types.size).all fun t => match P.underlying t with | some (.slice e) => decide (0 < P.cellsOf e) | _ => true) = true)
    {n base : Nat} {f : FuncId} {fn : Func} {s : ChangeSpec} {tb : TypeId} (hpar : (fn.params.toList.all fun t => decide (t < P.types.size) && plainT P n t) = true)
    (hres : fn.resultTypes = #[tb]) (htb : P.underlying tb = some .bool) (hvars : s.vars = [])
    {W : World} {args : Array Value} {ds gs : List (DataW H)} {before : List MemPlace} (hspec : ds.length = fn.params.size → s.fn H ds = { results := [.lit (.bool true)], args := ds })
    (hval : ∀ (j : Nat) t v, fn.params[j]? = some t → args[j]? = some v → Value.okWide P W .any base t v)
    (hW : DataW.Whole enc P fn.params.toList s.vars false W args.toList ds gs before) (hgl : ∀ a v, Gl a = some v → W.cell? a = some v) (hgz : GzOk (fun _ => .plain) W)
    (hwt : (DataW.weightsEach P fn.params.toList ds).all (· ≤ reachBytes) = true)
    (hruns : ∀ xs, TyAll P n fn.params.toList xs → bulkL xs ≤ bulkWL ds → (∀ (j : Nat) t e z l, fn.params.toList[j]? = some t → P.underlying t = some (.slice e) → xs[j]? = some (.slice z l) → l.length * P.bytesOf e ≤ reachBytes) → Runs P f (xs.map .d) [] (.d (.bool true)) []) :
    Calls P f args W fun e W' => ∃ v, e = .returned v ∧ s.post enc P fn false true false false W args v W' := by
  have K := kids_rows hl hm
  have hz := slices_full_of P hz
  have hW' := hW
  obtain ⟨p, q, hA, hV, rfl, hfz, hnd⟩ := hW
  rw [hvars] at hV
  obtain ⟨rfl, rfl⟩ := trodVars_none hV
  have hpar : ∀ t ∈ fn.params.toList, t < P.types.size ∧ plainT P n t = true := fun t ht => by simpa using List.all_eq_true.1 hpar t ht
  obtain ⟨xs, x1, x2, x3, x4⟩ := args_rep K hpar (fun j t v ht hv => hval j t v (by simpa using ht) (by simpa using hv)) hA
  have hlen := trodAll_len hA
  have hsr : SR (cellsF W) (fun _ => .plain) (fun _ => 0) ⟨xs.map .d, []⟩ args W := by
    refine ⟨fun _ _ h => h, by simp [x2], fun i c hc => ?_, fun b cs hcs => by simp [St.bx] at hcs, fun b cs z l hcs => by simp [St.bx] at hcs, fun g b z cap hc => (by cases hc), fun p b hb => ?_, fun g hg => absurd rfl hg, hgl, fun b k t cs hcs => by simp [St.bx] at hcs⟩
    · simp only [List.getElem?_map, Option.map_eq_some_iff] at hc
      obtain ⟨x, hx, rfl⟩ := hc
      have hi : i < args.toList.length := by rw [← x2]; exact (List.getElem?_eq_some_iff.1 hx).1
      exact ⟨args.toList[i], by simp at hi ⊢, x3 i x _ hx (List.getElem?_eq_getElem hi)⟩
    · cases p with
      | s k =>
        simp only [St.get, List.getD_eq_getElem?_getD, List.getElem?_map] at hb
        cases e : xs[k]? with
        | none => rw [e] at hb; exact hb.elim
        | some x => rw [e] at hb; exact hb.elim
      | b k => exact hb.elim
  refine ((hruns xs x1 x4 (args_weight hA x3 hwt)).2 _ _ _ args W hsr hgz).mono ?_
  rintro e W' ⟨v, Γ', ρ', bl', rfl, hs', hf, _⟩
  refine ⟨v, rfl, ?_⟩
  obtain ⟨u, hu, hr⟩ := hs'.slots 0 _ rfl
  obtain rfl : u = v := by simpa using hu.symm
  have hv : u = .bool true := rep_bool hr
  subst hv
  have hb : Below W.heap.size W W' := ⟨hf.os, hf.tape, hf.output, hf.size, fun k hk => (hf.block k hk rfl).1⟩
  have hsp := hspec (by rw [hlen]; simp)
  have hlt : ∀ x ∈ p, x.block < W.heap.size := fun x hx => hW'.lt x (by simpa using hx)
  refine post_of_below (pa := p) (pv := []) hW' (fun b sp hd => ?_) (fun sp hps => ?_) (fun sp _ => ?_) rfl hb (ok_one hres rfl (okWide_bool_mk htb _))
  · rw [hres, List.append_nil, hsp]
    exact trodAll_mk1 (shut_bool htb _)
  · rw [List.append_nil, hsp]
    refine trodAll_stays K hz (fun t ht => (hpar t ht).1) hA (fun x hx => ?_) fun x hx => hps x (by simpa using hx)
    cases x with
    | cell b off => exact World.cell?_of_block (hb.block b (hlt _ hx))
    | map b => exact hb.block b (hlt _ hx)
  · rw [hvars, List.append_nil, hsp]
    rfl
end B
end Go.Proofs.YtmkkljbfmdngfaaGreatDoor

namespace Go.Proofs.YtmkkljbfmdngfaaGreatDoor
namespace B
open Go.RowKit Go.Sort
variable {P : Program} {Γ : Froz} {ρ : Nat → Role} {bl : Nat → Nat} {w w' : World}

/-- A result alone. -/
theorem SR.alone {bl' : Nat → Nat} {st : St} {tmps : Array Value} {c : CV} {v : Value} (h : SR Γ ρ bl st tmps w) (hr : RepC Γ ρ bl' w (.s 0) c v) (hm : ∀ b, ¬ c.ment b) : SR Γ ρ bl' ⟨[c], []⟩ #[v] w := by
  refine ⟨h.agree, rfl, fun i c' hc => ?_, fun b cs hb => ?_, fun b cs z l hb => ?_, h.rowk, fun p b hb => ?_, h.rho, h.gl, fun b k t cs hb => ?_⟩
  · cases i with
    | zero => simp at hc; subst hc; exact ⟨v, rfl, hr⟩
    | succ i => simp at hc
  · simp [St.bx] at hb
  · simp [St.bx] at hb
  · exfalso
    cases p with
    | s n =>
      simp only [St.get, List.getD_eq_getElem?_getD] at hb
      cases n with
      | zero => exact hm b (by simpa using hb)
      | succ n => exact (show CV.ment b .junk from by simpa using hb).elim
    | b n => exact (show CV.ment b .junk from by simpa [St.get, St.bx] using hb).elim
  · simp [St.bx] at hb
theorem freeze_end {g k z cap : Nat} {l : List D} {st : St} {tmps : Array Value} {v : Value} {n : Nat} {cs : List CV} (h : SR Γ ρ bl st tmps w) (hk : mvb k = true) (hbx : st.bx k = some [.arr z l]) (hr : RowH ρ bl z k 0 l.length v) :
    ∃ Γ' ρ', Rep Γ' (.slice z l) v ∧ Le Γ Γ' ∧ Fr w Γ ρ w Γ' ρ' ∧ ∃ bl', SR Γ' ρ' bl' ⟨[.junk], []⟩ #[v] w := by
  rcases hr with ⟨hl0, hv⟩ | ⟨c, cap, hv, hc1, hrole, hc2⟩
  · obtain rfl : l = [] := List.eq_nil_of_length_eq_zero hl0
    refine ⟨Γ, ρ, ?_, .refl _, .refl _ _ _, bl, h.alone trivial fun _ h => h.elim⟩
    rcases hv with hv | ⟨ad, hv⟩
    · rw [hv]; exact .nil z
    · rw [hv]; exact .nil0 z ad
  · obtain ⟨arrk, ek, fzk, r1, r2, r3, r4, r5, r6, r7⟩ := h.real hbx rfl hrole
    have hj : SR Γ ρ (upd bl k w.heap.size) ⟨[.junk], []⟩ #[v] w := h.alone trivial fun _ h => h.elim
    have hgk : upd bl k w.heap.size k ≠ bl k := by
      rw [upd_same]
      have := h.rho (bl k) (by rw [hrole]; simp)
      omega
    obtain ⟨g3, f3⟩ := hj.freeze (vs := arrk.toList.take (l.length * z)) hrole hk (fun p hm => by
      cases p with
      | s n =>
        cases n with
        | zero => exact (show CV.ment k .junk from by simpa [St.get] using hm).elim
        | succ n => exact (show CV.ment k .junk from by simpa [St.get] using hm).elim
      | b n => exact (show CV.ment k .junk from by simpa [St.get, St.bx] using hm).elim) hgk r1 (fun j u hu => take_arr hu)
    refine ⟨_, _, ?_, f3.le, f3, _, g3⟩
    have := row_rep (.inr ⟨c, cap, hv, hc1, hrole, hc2⟩) r7 r6 (show 0 + l.length ≤ l.length by omega)
    rwa [List.drop_zero, List.take_length] at this
theorem Fr0.more {w0 : World} {Γ0 : Froz} {ρ0 : Nat → Role} {Γ' : Froz} {ρ' : Nat → Role} (h : Fr0 w0 Γ0 ρ0 w Γ ρ) (f : Fr w Γ ρ w Γ' ρ') : Fr0 w0 Γ0 ρ0 w Γ' ρ' := by
  refine ⟨h.le.trans f.le, h.size, h.os, h.tape, h.output, fun g hg hp => ?_, fun a v ha => ?_⟩
  · obtain ⟨h1, h2⟩ := h.block g hg hp
    exact ⟨h1, (f.block g (Nat.lt_of_lt_of_le hg h.size) h2).2⟩
  · rcases f.new a v ha with h1 | h1 | h1
    · exact h.new a v h1
    · exact .inr (.inl (Nat.le_trans h.size h1))
    · by_cases q : w0.heap.size ≤ a.block
      · exact .inr (.inl q)
      · refine .inr (.inr fun e => h1 (h.block a.block (by omega) e).2)
/-- A row that is given back: frozen. -/
theorem Runs.freezeM {f : Nat} {args : List CV} {z k n : Nat} {l : List D} (h : Runs P f args [] (.rs z k 0 n) [(k, [.arr z l])]) (hn : n = l.length) (hk : mvb k = true) : Runs P f args [] (.d (.slice z l)) [] := by
  subst hn
  refine ⟨h.1, fun Γ ρ bl vals w hs hz => (h.2 Γ ρ bl vals w hs hz).mono ?_⟩
  rintro e w' ⟨v, Γ', ρ', bl', rfl, hs', hf, _⟩
  have hbx : (⟨[.rs z k 0 l.length], [(k, [.arr z l])]⟩ : St).bx k = some [.arr z l] := by simp [St.bx]
  obtain ⟨u, hu, hr⟩ := hs'.slots 0 _ rfl
  have hu : v = u := by simpa using hu
  subst hu
  obtain ⟨Γ2, ρ2, k1, k2, k3, bl2, k4⟩ := freeze_end (n := 0) (g := 0) (cap := 0) (cs := []) hs' hk hbx hr
  exact ⟨v, Γ2, ρ2, bl2, rfl, k4.alone (show Rep Γ2 _ v from k1) (fun _ h => h.elim), hf.more k3, fun b hb _ => by simp at hb⟩
theorem Runs.freeze {f : Nat} {args : List CV} {z k n : Nat} {l : List D} (h : Runs P f args [] (.rs z k 0 n) [(k, [.arr z l])]) (hn : n = l.length) (hk : k < 1000) : Runs P f args [] (.d (.slice z l)) [] := h.freezeM hn (mvb_low hk)

theorem putCells_toList (d : Array Int) (c : Array Value) (h : d.size ≤ c.size) : (putCells (Value.int .i64) 0 d c).toList = d.toList.map (Value.int .i64) ++ c.toList.drop d.size := by
  apply List.ext_getElem?
  intro i
  simp only [putCells, Array.getElem?_toList, Array.getElem?_mapIdx, Nat.zero_le, Nat.zero_add, true_and, Nat.sub_zero, List.getElem?_append, List.length_map, Array.length_toList, List.getElem?_map, List.getElem?_drop]
  split
  · rename_i hi
    rw [Array.getElem?_eq_getElem (by omega), Array.getElem?_eq_getElem hi]
    simp [hi]
  · rename_i hi
    rw [show d.size + (i - d.size) = i by omega]
    cases e : c[i]? with
    | none => rfl
    | some x => simp [hi]
theorem rep_ints (Γ : Froz) (l : List Int) : RepF Γ 1 (l.map fun z => D.int .i64 z) (l.map (Value.int .i64)) := by
  have hfl : flatten (l.map fun z => D.int .i64 z) = l.map fun z => D.int .i64 z := by
    simp only [flatten]
    induction l with
    | nil => rfl
    | cons b r ih => simp only [List.map_cons, List.flatMap_cons]; rw [ih]; rfl
  refine ⟨fun x hx => ?_, fun d hd => ?_, by rw [hfl]; simp, fun i d u hd hu => ?_⟩
  · rw [List.mem_map] at hx; obtain ⟨b, _, rfl⟩ := hx; rfl
  · rw [hfl, List.mem_map] at hd; obtain ⟨b, _, rfl⟩ := hd; rfl
  · rw [hfl, List.getElem?_map, Option.map_eq_some_iff] at hd
    obtain ⟨b, hb, rfl⟩ := hd
    rw [List.getElem?_map, hb] at hu
    cases hu
    exact Rep.int .i64 b
theorem ints_rep {Γ : Froz} {l : List Int} {vs : List Value} (h : RepF Γ 1 (l.map fun z => D.int .i64 z) vs) : vs = l.map (Value.int .i64) := by
  have hfl : flatten (l.map fun z => D.int .i64 z) = l.map fun z => D.int .i64 z := by
    simp only [flatten]
    clear h
    induction l with
    | nil => rfl
    | cons b r ih => simp only [List.map_cons, List.flatMap_cons]; rw [ih]; rfl
  have hlen := h.vs_len
  simp only [List.length_map, Nat.mul_one] at hlen
  obtain ⟨_, _, _, h4⟩ := h
  rw [hfl] at h4
  apply List.ext_getElem?
  intro i
  by_cases hi : i < l.length
  · have h1 : (l.map fun z => D.int .i64 z)[i]? = some (D.int .i64 l[i]) := by simp [hi]
    obtain ⟨u, h2⟩ : ∃ u, vs[i]? = some u := ⟨_, List.getElem?_eq_getElem (by omega)⟩
    have h5 := h4 i _ _ h1 h2
    cases h5
    rw [h2]; simp [hi]
  · rw [List.getElem?_eq_none (by omega), List.getElem?_eq_none (by simp; omega)]
/-- A row that a call has made. -/
theorem SR.newRowEnd {args : List CV} {vals : Array Value} {n sz k : Nat} {e : TypeId} {v : Value} {xs : List Value} {l : List D} (h : SR Γ ρ bl ⟨args, []⟩ vals w) (hb : Go.RowKit.Below w.heap.size w w') (ho : w'.ownsRow w.heap.size e sz v n xs) (hr : RepF Γ sz l xs) (hn : l.length = n) :
    ∃ ρ' bl', SR Γ ρ' bl' ⟨[.rs sz k 0 n], [(k, [.arr sz l])]⟩ #[v] w' ∧ Fr0 w Γ ρ w' Γ ρ' := by
  subst hn
  have hw := h.world hb.size hb.block
  have hst : ∀ b cs, (⟨[.rs sz k 0 l.length], [(k, [.arr sz l])]⟩ : St).bx b = some cs → b = k ∧ cs = [.arr sz l] := fun b cs hc => by
    simp only [St.bx, List.lookup] at hc
    split at hc
    · rename_i e; exact ⟨by simpa using e, by simpa using hc.symm⟩
    · cases hc
  have hcl : ∀ p b, ((⟨[.rs sz k 0 l.length], [(k, [.arr sz l])]⟩ : St).get p).ment b → b = k := fun p b hm => by
    cases p with
    | s j =>
      cases j with
      | zero => exact (show b = k from (by have : CV.ment b (.rs sz k 0 l.length) := by simpa [St.get] using hm
                                           exact (show k = b from this).symm))
      | succ j => exact (show CV.ment b .junk from by simpa [St.get] using hm).elim
    | b j =>
      simp only [St.get] at hm
      split at hm
      · rename_i cs hc
        obtain ⟨_, rfl⟩ := hst _ _ hc
        obtain ⟨c, hc, hm⟩ := hm
        simp at hc; subst hc; exact hm.elim
      · exact hm.elim
  have fr : ∀ ρ', (∀ g, g < w.heap.size → ρ g = .plain → ρ' g = .plain) → Fr0 w Γ ρ w' Γ ρ' := fun ρ' hp => ⟨.refl _, hb.size, hb.os, hb.tape, hb.output, fun g hg h0 => ⟨hb.block g hg, hp g hg h0⟩, fun a v ha => .inl ha⟩
  obtain ⟨_, ⟨rfl, hl0⟩ | ⟨g, cap, cur, rfl, hg, hh, hnc, hcm, hcs, htk⟩⟩ := ho
  · obtain rfl : l = [] := List.eq_nil_of_length_eq_zero hl0
    refine ⟨ρ, bl, ⟨hw.agree, rfl, fun i c hc => ?_, fun b cs hc hro => ?_, fun b cs z l' hc hro => ?_, hw.rowk, fun p b hm => ?_, hw.rho, hw.gl, fun b k' t cs hc hk => ?_⟩, fr ρ fun g _ h0 => h0⟩
    · cases i with
      | zero => simp at hc; subst hc; exact ⟨_, rfl, .inl ⟨rfl, .inl rfl⟩⟩
      | succ i => simp at hc
    · obtain ⟨_, rfl⟩ := hst _ _ hc; simp [rowOf] at hro
    · obtain ⟨_, rfl⟩ := hst _ _ hc
      simp [rowOf] at hro; exact .inl hro.2
    · rw [hcl p b hm]; simp [St.bx]
    · obtain ⟨_, rfl⟩ := hst _ _ hc; simp at hk
  · refine ⟨upd ρ g (.row k sz cap), upd bl k g, ⟨hw.agree, rfl, fun i c hc => ?_, fun b cs hc hro => ?_, fun b cs z l' hc hro => ?_, fun g' b z c hc => ?_, fun p b hm => ?_, fun g' hg' => ?_, hw.gl, fun b k' t cs hc hk => ?_⟩, fr _ fun g' hg' h0 => by rw [upd_ne _ _ (by omega)]; exact h0⟩
    · cases i with
      | zero => simp at hc; subst hc; exact ⟨_, rfl, .inr ⟨cap, cap, by simp [upd_same], hnc, by rw [upd_same]; exact upd_same _ _ _, by omega⟩⟩
      | succ i => simp at hc
    · obtain ⟨_, rfl⟩ := hst _ _ hc; simp [rowOf] at hro
    · obtain ⟨rfl, rfl⟩ := hst _ _ hc
      simp only [rowOf, Option.some.injEq, Prod.mk.injEq] at hro
      obtain ⟨rfl, rfl⟩ := hro
      rw [upd_same]
      exact .inr ⟨cur, e, (0, 0), cap, hh, upd_same _ _ _, hnc, by rw [htk]; exact hr⟩
    · by_cases q : g' = g
      · subst q
        rw [upd_same] at hc
        cases hc
        refine ⟨cur, e, (0, 0), hh, .inl rfl, hcs, hcm, fun o => ?_⟩
        cases e2 : Γ ⟨g', o, none⟩ with
        | none => rfl
        | some u =>
          have := block_lt_of_cell (h.agree _ _ e2)
          simp only at this; omega
      · rw [upd_ne _ _ q] at hc
        exact hw.rowk g' b z c hc
    · rw [hcl p b hm]; simp [St.bx]
    · by_cases q : g' = g
      · subst q; exact (Array.getElem?_eq_some_iff.1 hh).1
      · rw [upd_ne _ _ q] at hg'; exact hw.rho g' hg'
    · obtain ⟨_, rfl⟩ := hst _ _ hc; simp at hk
end B
end Go.Proofs.YtmkkljbfmdngfaaGreatDoor

namespace Go.Proofs.YtmkkljbfmdngfaaGreatDoor
namespace B
open Go.RowKit Go.Sort
variable {P : Program} {Γ : Froz} {ρ : Nat → Role} {bl : Nat → Nat} {w w' : World}

/-- slices.Clone: a new row. -/
theorem Runs.cloneR {f : Nat} {T : TypeId} {sz bytes : Nat} (hc : CallOk P f)
    (hs : ∀ (ad : Addr) (n c : Nat) (news : List Value) (w : World), news.length = n * sz → n ≤ maxLen → n * bytes ≤ 140737488355328 → (∀ j u, news[j]? = some u → w.cell? (ad.add j) = some u) → (∀ u ∈ news, u.oneCell' = true) →
      Calls P f #[.slice (some ad) n c] w fun e w' => ∃ v', e = .returned v' ∧ w'.ownsRow w.heap.size T sz v' n news ∧ v' ≠ .slice none 0 0 ∧ Go.RowKit.Below w.heap.size w w')
    (hn : ∀ (n c : Nat) (w : World), Calls P f #[.slice none n c] w fun e w' => e = .returned (.slice none 0 0) ∧ w' = w)
    (hsz : 0 < sz) (k : Nat) (l : List D) (hm : l.length ≤ maxLen) (hl : l.length * bytes ≤ 140737488355328) :
    Runs P f [.d (.slice sz l)] [] (.rs sz k 0 l.length) [(k, [.arr sz l])] := by
  refine ⟨hc, fun Γ ρ bl vals w h hgz => ?_⟩
  obtain ⟨v, rfl, hv⟩ := vals1 h
  have rk : ∀ bl' ρ', ∀ b, (([] : List (Nat × List CV)).lookup b).isSome = true → lowB f b = true → RK ρ ρ' bl bl' b := fun _ _ b hb _ => by simp at hb
  obtain ⟨ao, c, vs, rfl, hf, hne, ha⟩ := slice_vals hv
  have fin : ∀ e w', (∃ v', e = Ending.returned v' ∧ w'.ownsRow w.heap.size T sz v' l.length vs ∧ Go.RowKit.Below w.heap.size w w') →
      ∃ v Γ' ρ' bl', e = .returned v ∧ SR Γ' ρ' bl' ⟨[.rs sz k 0 l.length], [(k, [.arr sz l])]⟩ #[v] w' ∧ Fr0 w Γ ρ w' Γ' ρ' ∧ ∀ b, (([] : List (Nat × List CV)).lookup b).isSome = true → lowB f b = true → RK ρ ρ' bl bl' b := by
    rintro e w' ⟨v', rfl, ho, hb⟩
    obtain ⟨ρ', bl', g1, g2⟩ := h.newRowEnd (k := k) hb ho hf rfl
    exact ⟨v', Γ, ρ', bl', rfl, g1, g2, rk _ _⟩
  have hlen : vs.length = l.length * sz := hf.vs_len
  have nil : vs = [] → l = [] := fun e0 => by
    rw [e0] at hlen
    have : l.length * sz = 0 := by simpa using hlen.symm
    rcases Nat.mul_eq_zero.1 this with h0 | h0
    · exact List.eq_nil_of_length_eq_zero h0
    · omega
  cases ao with
  | none =>
    have hv0 := hne rfl
    obtain rfl := nil hv0
    refine (hn _ _ w).mono ?_
    rintro e w' ⟨rfl, rfl⟩
    subst hv0
    exact fin _ _ ⟨_, rfl, ⟨by simp, .inl ⟨rfl, rfl⟩⟩, ⟨rfl, rfl, rfl, Nat.le_refl _, fun _ _ => rfl⟩⟩
  | some a =>
    obtain ⟨_, hcell⟩ := ha a rfl
    refine (hs a l.length c vs w hlen hm hl (fun j u hu => h.agree _ _ (hcell j _ hu)) hf.one).mono ?_
    rintro e w' ⟨v', rfl, ho, _, hb⟩
    exact fin _ _ ⟨v', rfl, ho, hb⟩

end B
end Go.Proofs.YtmkkljbfmdngfaaGreatDoor
