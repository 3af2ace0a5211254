/- Boxes that hold a channel; a result. No condition. -/
import Derived.Test.YtednbnhaohbnjaaB28
import Derived.Conc.LoneCalls
set_option linter.all false
namespace Go.Proofs.Ytednbnhaohbnjaa
namespace B
open Go.RowKit
variable {P : Program} {Γ : Froz} {ρ : Nat → Role} {bl : Nat → Nat} {w w' : World}

theorem SR.result {args : List CV} {objs : List (Nat × List CV)} {vals : Array Value} {res : CV} {v : Value} (h : SR Γ ρ bl ⟨args, objs⟩ vals w) (hr : RepC Γ ρ bl w (.s 0) res v) (hm : ∀ b, res.ment b → (objs.lookup b).isSome = true) : SR Γ ρ bl ⟨[res], objs⟩ #[v] w := by
  refine ⟨h.agree, rfl, fun i c hc => ?_, h.boxes, h.rows, h.rowk, fun p b hb => ?_, h.rho, h.gl, h.bty⟩
  · cases i with
    | zero => simp at hc; subst hc; exact ⟨v, rfl, hr⟩
    | succ i => simp at hc
  · cases p with
    | s n =>
      cases n with
      | zero => exact hm b hb
      | succ n => exact hb.elim
    | b n => exact h.closed (.b n) b hb

/-- The channel of a box, written. -/
theorem SR.setLine {st : St} {tmps : Array Value} (h : SR Γ ρ bl st tmps w) {b cap g : Nat} {l l' : List D} {buf' : Array Value} {s' r' : Nat} (hb : st.bx b = some [.line cap l])
    {e : TypeId} (hcell : w.heap[bl b]? = some (.cells #[.chan (some g)] e (0, 0))) (hg : ρ g = .own (.b b) 0) (hΓ : ∀ o, Γ ⟨g, o, none⟩ = none) (hsz : buf'.size = l'.length) (hrep : ∀ (k : Nat) d u, l'[k]? = some d → buf'[k]? = some u → Rep Γ d u) :
    SR Γ ρ bl (st.set (.b b) (.agg [.line cap l'])) tmps (w.setChan g cap buf' false s' r' false) ∧ Fr w Γ ρ (w.setChan g cap buf' false s' r' false) Γ ρ := by
  have hlt := h.rho g (by rw [hg]; simp)
  have hoth : ∀ k, k ≠ g → (w.setChan g cap buf' false s' r' false).heap[k]? = w.heap[k]? := by
    intro k hk; simp [World.setChan, Array.getElem?_setIfInBounds_ne (Ne.symm hk)]
  have hsize : (w.setChan g cap buf' false s' r' false).heap.size = w.heap.size := by simp [World.setChan]
  have h1 := h.viewBox hb rfl [.junk] (fun vs hvs => ⟨hvs.1, fun i c v hc _ => by
    cases i with
    | zero => simp at hc; subst hc; trivial
    | succ i => simp at hc⟩) (fun c hc k hk => by simp at hc; subst hc; exact hk.elim) (fun k t e => by simp at e)
  have hnh : ∀ g' p i, ρ g' = .own p i → Holds (st.set (.b b) (.agg [.junk])) p i → g' ≠ g := by
    rintro g' p i k1 k2 rfl
    rw [hg] at k1; cases k1
    unfold Holds at k2
    rw [St.get_setBox, if_pos rfl] at k2
    simp [CV.comp, CV.held] at k2
  have hbg : bl b ≠ g := by
    intro e1
    obtain ⟨arr, e2, _, k2, _⟩ := h.boxes b _ hb rfl
    rw [e1, hg] at k2; cases k2
  have hfr : Fr w Γ ρ (w.setChan g cap buf' false s' r' false) Γ ρ := ⟨.refl _, by rw [hsize]; exact Nat.le_refl _, rfl, rfl, rfl, fun k _ hp => ⟨hoth k (by rintro rfl; rw [hg] at hp; cases hp), hp⟩, fun _ _ h => .inl h, fun _ _ _ _ e _ _ => e⟩
  have h2 : SR Γ ρ bl (st.set (.b b) (.agg [.junk])) tmps (w.setChan g cap buf' false s' r' false) := by
    refine h1.keep (.refl _) (fun a v ha => ?_) (fun g' p i k1 k2 => ⟨rfl, hoth _ (hnh g' p i k1 k2), fun _ => rfl⟩) (fun _ _ => rfl) (fun b' k hx => ⟨rfl, hoth _ (by rintro rfl; exact hx.no hg), fun _ => rfl⟩) (fun _ _ _ _ e => e) fun k hk => by rw [hsize]; exact h.rho k hk
    have hne : a.block ≠ g := by
      intro e1
      have hv := h.agree a v ha
      have hsp : a.spot = none := by
        cases hs : a.spot with
        | none => rfl
        | some q => unfold World.cell? at hv; split at hv <;> simp [hs] at hv
      have := hΓ a.off
      rw [← e1, ← Addr.eq_lit a hsp, ha] at this
      cases this
    rw [World.cell?_of_block (hoth _ hne)]; exact h.agree a v ha
  have hb2 : (st.set (.b b) (.agg [.junk])).bx b = some [.junk] := by rw [St.bx_setBox, if_pos rfl]
  obtain ⟨arr2, e2, k1, k2, k3, k4⟩ := h2.boxes b _ hb2 rfl
  have harr : arr2 = #[.chan (some g)] := by
    rw [hoth _ hbg, hcell] at k1
    injection k1 with k1; injection k1 with k1 _ _; exact k1.symm
  subst harr
  have h3 := (h2.setBox hb2 rfl [.line cap l'] #[.chan (some g)] ⟨rfl, fun i c v hc hv => by
    cases i with
    | zero =>
      simp at hc hv; subst hc; subst hv
      exact ⟨g, buf', s', r', rfl, Go.Conc.heap_setChan _ _ _ _ _ _ _ _ hlt, hg, hΓ, hsz, hrep⟩
    | succ i => simp at hc⟩ (fun c hc k hk => by simp at hc; subst hc; exact hk.elim) (fun k t e => by simp at e)).1
  rw [setRow_self _ (bl b) #[.chan (some g)] e2 (0, 0) k1] at h3
  refine ⟨?_, hfr⟩
  have hst : (st.set (.b b) (.agg [.junk])).set (.b b) (.agg [.line cap l']) = st.set (.b b) (.agg [.line cap l']) := by
    simp only [St.set]
    congr 1
    have key : ∀ l0 : List (Nat × List CV), setB b [.line cap l'] (setB b [.junk] l0) = setB b [.line cap l'] l0 := by
      intro l0
      induction l0 with
      | nil => simp [setB]
      | cons x r ih =>
        obtain ⟨k, v⟩ := x
        simp only [setB]
        by_cases e : (b == k) = true
        · simp [e, setB]
        · simp [e, setB, ih]
    exact key st.b
  rw [← hst]
  exact h3

/-- What a box with a channel is, in memory. -/
theorem SR.line {st : St} {tmps : Array Value} (h : SR Γ ρ bl st tmps w) {b cap : Nat} {l : List D} (hb : st.bx b = some [.line cap l]) : ∃ g buf s r e, w.heap[bl b]? = some (.cells #[.chan (some g)] e (0, 0)) ∧ w.cell? ⟨bl b, 0, none⟩ = some (.chan (some g)) ∧
    w.heap[g]? = some (.chan cap buf false s r false) ∧ ρ g = .own (.b b) 0 ∧ (∀ o, Γ ⟨g, o, none⟩ = none) ∧ buf.size = l.length ∧ ∀ (k : Nat) d u, l[k]? = some d → buf[k]? = some u → Rep Γ d u := by
  obtain ⟨arr, e, h1, h2, h3, h4⟩ := h.boxes b _ hb rfl
  obtain ⟨arr⟩ := arr
  obtain ⟨k1, k2⟩ := h3
  match arr, k1, k2 with
  | [v], _, k2 =>
    obtain ⟨g, buf, s, r, rfl, j2, j3, j4, j5, j6⟩ := k2 0 _ v rfl rfl
    exact ⟨g, buf, s, r, e, h1, by simp [World.cell?, h1], j2, j3, j4, j5, j6⟩

/-- A new box with a channel. -/
theorem SR.newLine {st : St} {tmps : Array Value} (h : SR Γ ρ bl st tmps w) {b : Nat} (hb : st.bx b = none) (cap : Nat) (e : TypeId) :
    ∃ ρ' bl', SR Γ ρ' bl' (st.set (.b b) (.agg [.line cap []])) tmps ((w.alloc (.chan cap #[] false 0 0 false)).alloc (.cells #[.chan (some w.heap.size)] e)) ∧
      Fr w Γ ρ ((w.alloc (.chan cap #[] false 0 0 false)).alloc (.cells #[.chan (some w.heap.size)] e)) Γ ρ' ∧ bl' b = w.heap.size + 1 ∧ ∀ k, (st.bx k).isSome = true → bl' k = bl k := by
  have hsz1 : (w.alloc (.chan cap #[] false 0 0 false)).heap.size = w.heap.size + 1 := by simp
  have hold1 := fun k hk => heap_alloc_old w (.chan cap #[] false 0 0 false) k hk
  have h1 : SR Γ ρ bl st tmps (w.alloc (.chan cap #[] false 0 0 false)) := h.world (by omega) hold1
  obtain ⟨h2, f2⟩ := h1.newBox hb [.junk] #[.chan (some w.heap.size)] e ⟨rfl, fun i c v hc _ => by
    cases i with
    | zero => simp at hc; subst hc; trivial
    | succ i => simp at hc⟩ (fun c hc k hk => by simp at hc; subst hc; exact hk.elim) (fun k t e => by simp at e)
  rw [hsz1] at h2 f2
  have hpl : upd ρ (w.heap.size + 1) (.box b) w.heap.size = .plain := by rw [upd_ne _ _ (by omega)]; exact h.plain_new (Nat.le_refl _)
  have hcg : ((w.alloc (.chan cap #[] false 0 0 false)).alloc (.cells #[.chan (some w.heap.size)] e)).heap[w.heap.size]? = some (.chan cap #[] false 0 0 false) := by
    rw [heap_alloc_old _ _ _ (by omega)]; exact heap_alloc_new w _
  have hsz2 : ((w.alloc (.chan cap #[] false 0 0 false)).alloc (.cells #[.chan (some w.heap.size)] e)).heap.size = w.heap.size + 2 := by simp
  have h3 : SR Γ (upd (upd ρ (w.heap.size + 1) (.box b)) w.heap.size (.own (.b b) 0)) (upd bl b (w.heap.size + 1)) (st.set (.b b) (.agg [.junk])) tmps ((w.alloc (.chan cap #[] false 0 0 false)).alloc (.cells #[.chan (some w.heap.size)] e)) := by
    refine h2.keep (.refl _) h2.agree (fun g' p i k1 k2 => ⟨upd_ne _ _ (by rintro rfl; rw [hpl] at k1; cases k1), rfl, fun _ => rfl⟩) (fun _ _ => rfl) (fun b' k hx => ⟨upd_ne _ _ (by rintro rfl; exact hx.np hpl), rfl, fun _ => rfl⟩) (fun g' b' z' cap' e' => ?_) fun g' hg' => ?_
    · by_cases e1 : g' = w.heap.size
      · rw [e1, upd_same] at e'; cases e'
      · rw [upd_ne _ _ e1] at e'; exact e'
    · by_cases e1 : g' = w.heap.size
      · omega
      · rw [upd_ne _ _ e1] at hg'; exact h2.rho g' hg'
  have hb2 : (st.set (.b b) (.agg [.junk])).bx b = some [.junk] := by rw [St.bx_setBox, if_pos rfl]
  have hcell : ((w.alloc (.chan cap #[] false 0 0 false)).alloc (.cells #[.chan (some w.heap.size)] e)).heap[w.heap.size + 1]? = some (.cells #[.chan (some w.heap.size)] e) := by
    have := heap_alloc_new (w.alloc (.chan cap #[] false 0 0 false)) (.cells #[.chan (some w.heap.size)] e)
    rwa [hsz1] at this
  have hblb : upd bl b (w.heap.size + 1) b = w.heap.size + 1 := upd_same _ _ _
  have h4 := (h3.setBox hb2 rfl [.line cap []] #[.chan (some w.heap.size)] ⟨rfl, fun i c v hc hv => by
    cases i with
    | zero =>
      simp at hc hv; subst hc; subst hv
      refine ⟨w.heap.size, #[], 0, 0, rfl, hcg, upd_same _ _ _, fun o => ?_, rfl, by simp⟩
      exact h.none_new (Nat.le_refl _) o
    | succ i => simp at hc⟩ (fun c hc k hk => by simp at hc; subst hc; exact hk.elim) (fun k t e => by simp at e)).1
  rw [setRow_self _ _ #[.chan (some w.heap.size)] e (0, 0) (by rw [hblb]; exact hcell)] at h4
  have hst : (st.set (.b b) (.agg [.junk])).set (.b b) (.agg [.line cap []]) = st.set (.b b) (.agg [.line cap []]) := by
    simp only [St.set]
    congr 1
    have key : ∀ l0 : List (Nat × List CV), setB b [.line cap []] (setB b [.junk] l0) = setB b [.line cap []] l0 := by
      intro l0
      induction l0 with
      | nil => simp [setB]
      | cons x r ih =>
        obtain ⟨k, v⟩ := x
        simp only [setB]
        by_cases e : (b == k) = true
        · simp [e, setB]
        · simp [e, setB, ih]
    exact key st.b
  rw [hst] at h4
  refine ⟨_, _, h4, ⟨.refl _, by omega, rfl, rfl, rfl, fun k hk hp => ⟨?_, ?_⟩, fun _ _ h => .inl h, fun g' b' z' cap' e' _ _ => ?_⟩, hblb, fun k hk => upd_ne _ _ (by rintro rfl; rw [hb] at hk; cases hk)⟩
  · rw [heap_alloc_old _ _ _ (by omega)]; exact hold1 k hk
  · rw [upd_ne _ _ (by omega), upd_ne _ _ (by omega)]; exact hp
  · have := h.rho g' (by rw [e']; simp)
    rw [upd_ne _ _ (by omega), upd_ne _ _ (by omega)]; exact e'
end B
end Go.Proofs.Ytednbnhaohbnjaa
