/- The boxes' numbers are names alone. No condition. -/
import Derived.Test.YtednbnhaohbnjaaB29
set_option linter.all false
namespace Go.Proofs.Ytednbnhaohbnjaa
namespace B
open Go.RowKit
variable {P : Program}

def CV.ren1 (σ : Nat → Nat) : CV → CV
  | .ptr b o => .ptr (σ b) o
  | .sp b t => .sp (σ b) t
  | .rs z b o n => .rs z (σ b) o n
  | .ea z b i o => .ea z (σ b) i o
  | .fn f caps => .fn f (caps.map σ)
  | c => c
def CV.ren (σ : Nat → Nat) : CV → CV
  | .tup l => .tup (l.map (CV.ren1 σ))
  | .agg l => .agg (l.map (CV.ren1 σ))
  | c => c.ren1 σ
def Place.ren (σ : Nat → Nat) : Place → Place
  | .b n => .b (σ n)
  | p => p
def Role.ren (σ : Nat → Nat) : Role → Role
  | .box b => .box (σ b)
  | .row b z cap => .row (σ b) z cap
  | .own p i => .own (p.ren σ) i
  | .plain => .plain
theorem rowOf_ren (σ : Nat → Nat) (cs : List CV) : rowOf (cs.map (CV.ren1 σ)) = rowOf cs := by
  match cs with
  | [] => rfl
  | [c] => cases c <;> rfl
  | a :: b :: r =>
    have n2 : ∀ (x y : CV) (t : List CV), rowOf (x :: y :: t) = none := fun x y t => by cases x <;> rfl
    simp only [List.map_cons, n2]
def renB (σ : Nat → Nat) (l : List (Nat × List CV)) : List (Nat × List CV) := l.map fun x => (σ x.1, x.2.map (CV.ren1 σ))
def St.ren (σ : Nat → Nat) (st : St) : St := ⟨st.s.map (CV.ren σ), renB σ st.b⟩

section
variable {σ τ : Nat → Nat} (h1 : ∀ n, τ (σ n) = n) (h2 : ∀ n, σ (τ n) = n)
include h1
theorem renB_lookup (b : Nat) : ∀ l : List (Nat × List CV), (renB σ l).lookup (σ b) = (l.lookup b).map fun cs => cs.map (CV.ren1 σ)
  | [] => rfl
  | (k, cs) :: r => by
    simp only [renB, List.map_cons, List.lookup]
    by_cases e : b = k
    · subst e; simp
    · have e1 : (b == k) = false := by simp [e]
      have e2 : (σ b == σ k) = false := by
        simp only [beq_eq_false_iff_ne]
        intro h; exact e (by rw [← h1 b, ← h1 k, h])
      rw [e1, e2]
      exact renB_lookup b r
include h2
theorem renB_lookup' (b : Nat) (l : List (Nat × List CV)) : (renB σ l).lookup b = (l.lookup (τ b)).map fun cs => cs.map (CV.ren1 σ) := by
  have := renB_lookup h1 (τ b) l
  rwa [h2] at this
omit h2
theorem rep1_ren {Γ : Froz} {ρ : Nat → Role} {bl : Nat → Nat} {w : World} {p : Place} {i : Nat} {c : CV} {v : Value} (h : RepC1 Γ ρ bl w p i c v) : RepC1 Γ (fun g => (ρ g).ren σ) (fun b => bl (τ b)) w (p.ren σ) i (c.ren1 σ) v := by
  cases c with
  | own sz l =>
    rcases h with ⟨e, vs, k1, k2, k3⟩ | h
    · exact .inl ⟨e, vs, k1, k2, fun g hg => ⟨by show (ρ g).ren σ = _; rw [(k3 g hg).1]; rfl, (k3 g hg).2⟩⟩
    · exact .inr h
  | ptr b o =>
    have h : v = .pointer (some ⟨bl b, o, none⟩) := h
    show v = .pointer (some ⟨bl (τ (σ b)), o, none⟩)
    rw [h1]; exact h
  | sp b t =>
    have h : v = .pointer none ∨ v = .pointer (some ⟨bl b, 0, none⟩) := h
    show v = .pointer none ∨ v = .pointer (some ⟨bl (τ (σ b)), 0, none⟩)
    rw [h1]; exact h
  | rs z k o n =>
    rcases (h : RowH ρ bl z k o n v) with h | ⟨c, cap, q1, q2, q3, q4⟩
    · exact .inl h
    · exact .inr ⟨c, cap, by dsimp only; rw [h1]; exact q1, q2, by dsimp only; rw [h1, q3]; rfl, q4⟩
  | ea z k j o =>
    obtain ⟨q1, cap, q3, q4⟩ := (h : RowA ρ bl z k j o v)
    exact ⟨by dsimp only; rw [h1]; exact q1, cap, by dsimp only; rw [h1, q3]; rfl, q4⟩
  | fn f caps =>
    have h : v = .func (.func f) #[] (caps.map fun b => Value.pointer (some ⟨bl b, 0, none⟩)).toArray := h
    show v = .func (.func f) #[] ((caps.map σ).map fun b => Value.pointer (some ⟨bl (τ b), 0, none⟩)).toArray
    rw [h, List.map_map]
    congr 2
    apply List.map_congr_left
    intro b _
    simp [h1]
  | bld e f l => exact ⟨h.1, h.2.1, fun g hg => ⟨by show (ρ g).ren σ = _; rw [(h.2.2 g hg).1]; rfl, (h.2.2 g hg).2⟩⟩
  | line z l => obtain ⟨g, buf, s, r, k1, k2, k3, k4⟩ := h; exact ⟨g, buf, s, r, k1, k2, by show (ρ g).ren σ = _; rw [k3]; rfl, k4⟩
  | _ => exact h
theorem repL_ren {Γ : Froz} {ρ : Nat → Role} {bl : Nat → Nat} {w : World} {p : Place} {cs : List CV} {vs : List Value} (h : RepL Γ ρ bl w p cs vs) : RepL Γ (fun g => (ρ g).ren σ) (fun b => bl (τ b)) w (p.ren σ) (cs.map (CV.ren1 σ)) vs := by
  refine ⟨by simpa using h.1, fun i c v hc hv => ?_⟩
  rw [List.getElem?_map, Option.map_eq_some_iff] at hc
  obtain ⟨c', hc', rfl⟩ := hc
  exact rep1_ren h1 (h.2 i c' v hc' hv)
theorem rep_ren {Γ : Froz} {ρ : Nat → Role} {bl : Nat → Nat} {w : World} {p : Place} {c : CV} {v : Value} (h : RepC Γ ρ bl w p c v) : RepC Γ (fun g => (ρ g).ren σ) (fun b => bl (τ b)) w (p.ren σ) (c.ren σ) v := by
  cases c with
  | tup l => obtain ⟨vs, k1, k2⟩ := h; exact ⟨vs, k1, repL_ren h1 k2⟩
  | agg l => obtain ⟨vs, k1, k2⟩ := h; exact ⟨vs, k1, repL_ren h1 k2⟩
  | d x => exact rep1_ren (Γ := Γ) (ρ := ρ) (bl := bl) (w := w) (p := p) (i := 0) (v := v) (c := .d x) h1 h
  | own z l => exact rep1_ren (Γ := Γ) (ρ := ρ) (bl := bl) (w := w) (p := p) (i := 0) (v := v) (c := .own z l) h1 h
  | nils => exact rep1_ren (Γ := Γ) (ρ := ρ) (bl := bl) (w := w) (p := p) (i := 0) (v := v) (c := .nils) h1 h
  | ptr k o => exact rep1_ren (Γ := Γ) (ρ := ρ) (bl := bl) (w := w) (p := p) (i := 0) (v := v) (c := .ptr k o) h1 h
  | ep cs => exact rep1_ren (Γ := Γ) (ρ := ρ) (bl := bl) (w := w) (p := p) (i := 0) (v := v) (c := .ep cs) h1 h
  | fn f cs => exact rep1_ren (Γ := Γ) (ρ := ρ) (bl := bl) (w := w) (p := p) (i := 0) (v := v) (c := .fn f cs) h1 h
  | junk => trivial
  | bld e f l => exact rep1_ren (Γ := Γ) (ρ := ρ) (bl := bl) (w := w) (p := p) (i := 0) (v := v) (c := .bld e f l) h1 h
  | line z l => exact rep1_ren (Γ := Γ) (ρ := ρ) (bl := bl) (w := w) (p := p) (i := 0) (v := v) (c := .line z l) h1 h
  | sp k t => exact rep1_ren (Γ := Γ) (ρ := ρ) (bl := bl) (w := w) (p := p) (i := 0) (v := v) (c := .sp k t) h1 h
  | rs z k o n => exact rep1_ren (Γ := Γ) (ρ := ρ) (bl := bl) (w := w) (p := p) (i := 0) (v := v) (c := .rs z k o n) h1 h
  | ea z k o n => exact rep1_ren (Γ := Γ) (ρ := ρ) (bl := bl) (w := w) (p := p) (i := 0) (v := v) (c := .ea z k o n) h1 h
  | arr z l => exact h.elim
theorem ment1_ren {c : CV} {b : Nat} (h : (c.ren1 σ).ment1 b) : ∃ k, b = σ k ∧ c.ment1 k := by
  cases c with
  | ptr k o => exact ⟨k, h.symm, rfl⟩
  | sp k t => exact ⟨k, h.symm, rfl⟩
  | rs z k o n => exact ⟨k, h.symm, rfl⟩
  | ea z k o n => exact ⟨k, h.symm, rfl⟩
  | fn f caps =>
    have h : b ∈ caps.map σ := h
    obtain ⟨k, hk, rfl⟩ := List.mem_map.1 h
    exact ⟨k, rfl, hk⟩
  | _ => exact h.elim
theorem ment_ren {c : CV} {b : Nat} (h : (c.ren σ).ment b) : ∃ k, b = σ k ∧ c.ment k := by
  have key : ∀ l : List CV, (∃ c ∈ l.map (CV.ren1 σ), c.ment1 b) → ∃ k, b = σ k ∧ ∃ c ∈ l, c.ment1 k := by
    rintro l ⟨c, hc, hm⟩
    obtain ⟨c', hc', rfl⟩ := List.mem_map.1 hc
    obtain ⟨k, e, hk⟩ := ment1_ren h1 hm
    exact ⟨k, e, c', hc', hk⟩
  cases c with
  | tup l => exact key l h
  | agg l => exact key l h
  | ptr k o => exact ment1_ren h1 (c := .ptr k o) h
  | fn f cs => exact ment1_ren h1 (c := .fn f cs) h
  | sp k t => exact ment1_ren h1 (c := .sp k t) h
  | rs z k o n => exact ment1_ren h1 (c := .rs z k o n) h
  | ea z k o n => exact ment1_ren h1 (c := .ea z k o n) h
  | _ => exact h.elim
include h2
theorem SR.ren {Γ : Froz} {ρ : Nat → Role} {bl : Nat → Nat} {st : St} {tmps : Array Value} {w : World} (h : SR Γ ρ bl st tmps w) : SR Γ (fun g => (ρ g).ren σ) (fun b => bl (τ b)) (st.ren σ) tmps w := by
  refine ⟨h.agree, by simp [St.ren, h.len], fun i c hc => ?_, fun b cs hcs hro => ?_, fun b cs z l hcs hro => ?_, fun g b z cap hc => ?_, fun p b hb => ?_, fun g hg => h.rho g fun e => hg (by simp [e, Role.ren]), h.gl, fun b k t cs hcs hk => ?_⟩
  · simp only [St.ren, List.getElem?_map, Option.map_eq_some_iff] at hc
    obtain ⟨c', hc', rfl⟩ := hc
    obtain ⟨v, hv, hr⟩ := h.slots i c' hc'
    exact ⟨v, hv, rep_ren h1 hr⟩
  · simp only [St.ren, St.bx] at hcs
    rw [renB_lookup' h1 h2, Option.map_eq_some_iff] at hcs
    obtain ⟨cs', hcs', rfl⟩ := hcs
    rw [rowOf_ren] at hro
    obtain ⟨arr, e, k1, k2, k3, k4⟩ := h.boxes (τ b) cs' hcs' hro
    have := repL_ren h1 k3
    simp only [Place.ren, h2] at this
    exact ⟨arr, e, k1, by simp only [k2, Role.ren, h2], this, k4⟩
  · simp only [St.ren, St.bx] at hcs
    rw [renB_lookup' h1 h2, Option.map_eq_some_iff] at hcs
    obtain ⟨cs', hcs', rfl⟩ := hcs
    rw [rowOf_ren] at hro
    rcases h.rows (τ b) cs' z l hcs' hro with rfl | ⟨arr, e, fz, cap, q1, q2, q3, q4⟩
    · exact .inl rfl
    · exact .inr ⟨arr, e, fz, cap, q1, by simp only [q2, Role.ren, h2], q3, q4⟩
  · cases e : ρ g with
    | row b' z' cap' =>
      simp only [e, Role.ren] at hc
      injection hc with c1 c2 c3
      subst c2; subst c3
      exact h.rowk g b' z' cap' e
    | _ => simp [e, Role.ren] at hc
  · have key : ∃ k, b = σ k ∧ (st.bx k).isSome = true := by
      cases p with
      | s n =>
        simp only [St.get, St.ren, List.getD_eq_getElem?_getD, List.getElem?_map] at hb
        cases e : st.s[n]? with
        | none => rw [e] at hb; exact hb.elim
        | some c =>
          rw [e] at hb
          obtain ⟨k, hk, hm⟩ := ment_ren h1 hb
          exact ⟨k, hk, h.closed (.s n) k (by rw [St.get_slot e]; exact hm)⟩
      | b n =>
        simp only [St.get, St.ren, St.bx, renB_lookup' h1 h2] at hb
        cases e : st.b.lookup (τ n) with
        | none => rw [e] at hb; exact hb.elim
        | some cs =>
          rw [e] at hb
          obtain ⟨c, hc, hm⟩ := hb
          obtain ⟨c', hc', rfl⟩ := List.mem_map.1 hc
          obtain ⟨k, hk, hm⟩ := ment1_ren h1 hm
          exact ⟨k, hk, h.closed (.b (τ n)) k (by rw [St.get_bx (st := st) e]; exact ⟨c', hc', hm⟩)⟩
    obtain ⟨k, rfl, hk⟩ := key
    simp only [St.ren, St.bx, renB_lookup h1]
    simp only [St.bx] at hk
    cases e : st.b.lookup k with
    | none => rw [e] at hk; cases hk
    | some cs => rfl
  · simp only [St.ren, St.bx] at hcs
    rw [renB_lookup' h1 h2, Option.map_eq_some_iff] at hcs
    obtain ⟨cs', hcs', rfl⟩ := hcs
    rw [List.getElem?_map, Option.map_eq_some_iff] at hk
    obtain ⟨c, hc, e⟩ := hk
    cases c with
    | sp k' t' =>
      simp only [CV.ren1] at e
      injection e with _ e2
      subst e2
      exact h.bty (τ b) k' t' cs' hcs' hc
    | _ => simp [CV.ren1] at e
omit h1 in
theorem ren1_ren1 (c : CV) : (c.ren1 τ).ren1 σ = c := by
  cases c with
  | ptr k o => simp [CV.ren1, h2]
  | sp k t => simp [CV.ren1, h2]
  | rs z k o n => simp [CV.ren1, h2]
  | ea z k o n => simp [CV.ren1, h2]
  | fn f caps =>
    simp only [CV.ren1, List.map_map]
    congr 1
    conv => rhs; rw [← List.map_id caps]
    exact List.map_congr_left fun b _ => h2 b
  | _ => rfl
omit h1 in
theorem map_ren1 (l : List CV) : (l.map (CV.ren1 τ)).map (CV.ren1 σ) = l := by
  rw [List.map_map]
  conv => rhs; rw [← List.map_id l]
  exact List.map_congr_left fun c _ => ren1_ren1 h2 c
omit h1 in
theorem ren_ren (c : CV) : (c.ren τ).ren σ = c := by
  cases c with
  | tup l => show CV.tup _ = _; rw [map_ren1 h2]
  | agg l => show CV.agg _ = _; rw [map_ren1 h2]
  | ptr k o => exact ren1_ren1 h2 (.ptr k o)
  | fn f caps => exact ren1_ren1 h2 (.fn f caps)
  | sp k t => exact ren1_ren1 h2 (.sp k t)
  | rs z k o n => exact ren1_ren1 h2 (.rs z k o n)
  | ea z k o n => exact ren1_ren1 h2 (.ea z k o n)
  | _ => rfl
omit h1 in
theorem renB_renB (l : List (Nat × List CV)) : renB σ (renB τ l) = l := by
  simp only [renB, List.map_map]
  conv => rhs; rw [← List.map_id l]
  refine List.map_congr_left fun x _ => ?_
  simp only [Function.comp, h2, map_ren1 h2, id]
/-- **Whatever the boxes are called.** -/
theorem Runs.ren {f : Nat} (h5 : ∀ b, lowB f b = true → lowB f (τ b) = true) {args : List CV} {objs objs' : List (Nat × List CV)} {res : CV} (h : Runs P f args objs res objs') : Runs P f (args.map (CV.ren σ)) (renB σ objs) (res.ren σ) (renB σ objs') := by
  refine ⟨h.1, fun Γ ρ bl vals w hs hgz => ?_⟩
  have hs1 := hs.ren (σ := τ) (τ := σ) h2 h1
  have e1 : (⟨args.map (CV.ren σ), renB σ objs⟩ : St).ren τ = ⟨args, objs⟩ := by
    simp only [St.ren, renB_renB h1, List.map_map]
    congr 1
    conv => rhs; rw [← List.map_id args]
    exact List.map_congr_left fun c _ => ren_ren h1 c
  rw [e1] at hs1
  refine (h.2 Γ _ _ vals w hs1 (hgz.role fun g hg => by simp [hg, Role.ren])).mono ?_
  rintro e w' ⟨v, Γ', ρ', bl', rfl, k1, k2, k3⟩
  have rr : ∀ r : Role, (r.ren τ).ren σ = r := by
    intro r
    cases r with
    | plain => rfl
    | box b => simp [Role.ren, h2]
    | row b z cap => simp [Role.ren, h2]
    | own p i => cases p <;> simp [Role.ren, Place.ren, h2]
  have rp : ∀ r : Role, r.ren σ = .plain ↔ r = .plain := by intro r; cases r <;> simp [Role.ren]
  have rp' : ∀ r : Role, r.ren τ = .plain ↔ r = .plain := by intro r; cases r <;> simp [Role.ren]
  refine ⟨v, Γ', _, _, rfl, k1.ren h1 h2, ⟨k2.le, k2.size, k2.os, k2.tape, k2.output, fun g hg hp => ?_, fun a u ha => ?_⟩, fun b hb hb5 => ?_⟩
  · obtain ⟨j1, j2⟩ := k2.block g hg ((rp' _).2 hp)
    exact ⟨j1, (rp _).2 j2⟩
  · rcases k2.new a u ha with j | j | j
    · exact .inl j
    · exact .inr (.inl j)
    · exact .inr (.inr fun e => j ((rp' _).2 e))
  · rw [renB_lookup' h1 h2] at hb
    have : (objs.lookup (τ b)).isSome = true := by
      cases e : objs.lookup (τ b) with
      | none => rw [e] at hb; cases hb
      | some _ => rfl
    obtain ⟨q1, q2⟩ := k3 (τ b) this (h5 b hb5)
    dsimp only at q1 q2
    rw [h2] at q1 q2
    refine ⟨q1, fun z cap e => ?_⟩
    have := q2 z cap (by simp [e, Role.ren])
    dsimp only
    rw [this]; simp [Role.ren, h2]
end

/-- Two numbers, exchanged. -/
def swp (a b : Nat) : Nat → Nat := fun n => if n = a then b else if n = b then a else n
theorem swap_swap (a b n : Nat) : swp a b (swp a b n) = n := by
  unfold swp
  by_cases h1 : n = a
  · subst h1
    by_cases h2 : b = n <;> simp [h2]
  · by_cases h2 : n = b
    · subst h2; simp
    · simp [h1, h2]
theorem swp_low {f a b : Nat} (hab : (a < 5000 ↔ b < 5000) ∨ mvF f = false) (n : Nat) (h : lowB f n = true) : lowB f (swp a b n) = true := by
  rcases hab with hab | hab
  · unfold lowB hiB at h ⊢
    simp only [Bool.not_eq_true', Bool.and_eq_false_iff, decide_eq_false_iff_not] at h ⊢
    rcases h with h | h
    · exact .inl h
    · refine .inr ?_
      unfold swp
      split
      · subst_vars; omega
      · split
        · subst_vars; omega
        · exact h
  · unfold lowB; rw [hab]; rfl
theorem Runs.swap {f : Nat} {args : List CV} {objs objs' : List (Nat × List CV)} {res : CV} (a b : Nat) (h : Runs P f args objs res objs') (hab : (a < 5000 ↔ b < 5000) ∨ mvF f = false := by first | (left; omega) | (right; decide)) : Runs P f (args.map (CV.ren (swp a b))) (renB (swp a b) objs) (res.ren (swp a b)) (renB (swp a b) objs') :=
  h.ren (swap_swap a b) (swap_swap a b) (swp_low hab)
end B
end Go.Proofs.Ytednbnhaohbnjaa

namespace Go.Proofs.Ytednbnhaohbnjaa
namespace B
variable {P : Program} {n : Nat} {t e : TypeId} {x : D}

/-- A value of a type. -/
def TyV (P : Program) (n : Nat) (t : TypeId) (x : D) : Prop := Ty P n t x.cells ∧ x = mkEl P t x.cells
theorem ty_int {k : IntKind} (hu : P.underlying t = some (.int k)) (h : TyV P (n + 1) t x) : ∃ y, x = .int k y ∧ k.min ≤ y ∧ y ≤ k.max := by
  obtain ⟨h1, h2⟩ := h
  unfold Ty at h1
  unfold mkEl at h2
  rw [hu] at h1 h2
  obtain ⟨b, hb, h3⟩ := h1
  rw [hb] at h2
  exact ⟨b, h2, h3⟩
theorem ty_slice (hu : P.underlying t = some (.slice e)) (h : TyV P (n + 1) t x) : ∃ l, x = .slice (P.cellsOf e) l ∧ l.length ≤ maxLen ∧ ∀ y ∈ l, TyV P n e y := by
  obtain ⟨h1, h2⟩ := h
  unfold Ty at h1
  unfold mkEl at h2
  rw [hu] at h1 h2
  obtain ⟨l, hb, h3, h4⟩ := h1
  rw [hb] at h2
  exact ⟨l, h2, h3, h4⟩
/-- The cells of a field. -/
theorem ty_struct {fs : Array Field} (hu : P.underlying t = some (.struct fs)) (h : TyV P (n + 1) t x) : ∃ parts : List (List D), x = .agg parts.flatten ∧ parts.length = fs.toList.length ∧ ∀ (i : Nat) f p, fs.toList[i]? = some f → parts[i]? = some p → Ty P n f.type p := by
  obtain ⟨h1, h2⟩ := h
  unfold Ty at h1
  unfold mkEl at h2
  rw [hu] at h1 h2
  obtain ⟨parts, hb, h3⟩ := h1
  rw [hb] at h2
  exact ⟨parts, h2, h3⟩
theorem ty_list {α : Type} {f : α → D} {l : List D} (h : ∀ y ∈ l, ∃ a, y = f a) : ∃ as : List α, l = as.map f := by
  induction l with
  | nil => exact ⟨[], rfl⟩
  | cons y r ih =>
    obtain ⟨a, rfl⟩ := h y (by simp)
    obtain ⟨as, rfl⟩ := ih fun z hz => h z (by simp [hz])
    exact ⟨a :: as, rfl⟩
theorem tyAll_nil {xs : List D} (h : TyAll P n [] xs) : xs = [] := by
  cases xs with
  | nil => rfl
  | cons x r => exact h.elim
theorem tyAll_cons {ts : List TypeId} {xs : List D} (h : TyAll P n (t :: ts) xs) : ∃ x r, xs = x :: r ∧ TyV P n t x ∧ TyAll P n ts r := by
  cases xs with
  | nil => exact h.elim
  | cons x r => exact ⟨x, r, rfl, h.1, h.2⟩
end B
end Go.Proofs.Ytednbnhaohbnjaa
