/- strings.Builder, on data. No condition. -/
import Derived.Test.YtmiclaoelbemkaaDoorN1
import Derived.Test.YtmiclaoelbemkaaDoorND
import Derived.Test.YtmiclaoelbemkaaDoorB33
set_option linter.all false
namespace Go.Proofs.YtmiclaoelbemkaaDoor
namespace B
open Go.RowKit

theorem bk_bx (args : List CV) (b : Nat) (cs : List CV) : (⟨args, [(b, cs)]⟩ : St).bx b = some cs := by simp [St.bx]
theorem tup0 (Γ : Froz) (ρ : Nat → Role) (bl : Nat → Nat) (w : World) : RepC Γ ρ bl w (.s 0) (.tup []) (.tuple #[]) := ⟨[], rfl, rfl, fun i c v hc => by simp at hc⟩
theorem tup0_ment (k : Nat) : ¬ (CV.tup []).ment k := by rintro ⟨c, hc, _⟩; cases hc
theorem ownF_ne {w : World} {v : Value} {n : Nat} {xs : List Value} {b : Nat} {cs : Array Value} (h : w.ownsRowF 0 5 1 v n xs) (hb : w.heap[b]? = some (.cells cs 55 (0, 0))) : v.ownBlock ≠ some b := by
  rcases h.2 with ⟨rfl, _⟩ | ⟨g, cap, cur, fz, rfl, _, hg, _⟩
  · simp [Value.ownBlock]
  · intro e
    simp [Value.ownBlock] at e; subst e
    rw [hb] at hg; injection hg with hg; injection hg with _ hg _
    exact absurd hg (by decide)

/-- WriteString. -/
theorem r30 (b : Nat) (f : Bool) (l s : Bytes) (hlen : l.length + s.length ≤ 140737488355328) :
    Runs P 30 [.ptr b 0, .d (.str s)] [(b, [.sp b 55, .bld 5 f l])] (.tup [.d (.int .i64 s.length), .junk]) [(b, [.sp b 55, .bld 5 false (l ++ s)])] := by
  refine ⟨⟨Tryd.f30, Tryd.func30, by kernel_rfl, by kernel_rfl⟩, fun Γ ρ bl vals w h hz => ?_⟩
  obtain ⟨v, u, rfl, hv, hu⟩ := vals2 h
  have hv : v = .pointer (some ⟨bl b, 0, none⟩) := hv
  subst hv
  obtain rfl := rep_str hu
  obtain ⟨v0, v1, k1, k2, k3⟩ := h.bld (bk_bx _ b _)
  have hsz : (⟨s.toArray⟩ : ByteArray).size = s.length := by simp [ByteArray.size]
  refine (NB.write w (bl b) v0 v1 l ⟨s.toArray⟩ k1 k2 k3.2.1 (ownF_ne k3.2.1 k1) (by rw [hsz]; exact hlen)).mono ?_
  rintro e w' ⟨rfl, v', hw⟩
  obtain ⟨ρ', h2, f2⟩ := h.bldSet (f' := false) (l' := l ++ s) k1 k3 hw.size hw.os hw.tape hw.output (fun k q1 q2 q3 => hw.block k q1 q2 q3) hw.box (.inr rfl) (fun e => by cases e) (by simpa using hw.row) hw.own
  refine ⟨_, _, _, _, rfl, h2.result (res := .tup [.d (.int .i64 s.length), .junk]) ⟨[_, _], rfl, rfl, fun i c v hc hv => ?_⟩ (fun k hk => ?_), f2, fun _ _ => rfl⟩
  · match i with
    | 0 => simp at hc hv; subst hc; subst hv; rw [hsz]; exact Rep.int _ _
    | 1 => simp at hc; subst hc; trivial
    | i + 2 => simp at hc
  · obtain ⟨c, hc, hm⟩ := hk
    simp at hc
    rcases hc with rfl | rfl <;> exact hm.elim

/-- String. -/
theorem r31 (b : Nat) (f : Bool) (s : Bytes) : Runs P 31 [.ptr b 0] [(b, [.sp b 55, .bld 5 f s])] (.d (.str s)) [(b, [.sp b 55, .bld 5 false s])] := by
  refine ⟨⟨Tryd.f31, Tryd.func31, by kernel_rfl, by kernel_rfl⟩, fun Γ ρ bl vals w h hz => ?_⟩
  obtain ⟨v, rfl, hv⟩ := vals1 h
  have hv : v = .pointer (some ⟨bl b, 0, none⟩) := hv
  subst hv
  obtain ⟨v0, v1, k1, k2, k3⟩ := h.bld (bk_bx _ b _)
  have hlt : bl b < w.heap.size := (Array.getElem?_eq_some_iff.1 k1).1
  have same : ∀ e w', s = [] → e = Ending.returned (.string .empty) ∧ NB.Same w w' → ∃ v Γ' ρ' bl', e = .returned v ∧ SR Γ' ρ' bl' ⟨[.d (.str s)], [(b, [.sp b 55, .bld 5 false s])]⟩ #[v] w' ∧ Fr w Γ ρ w' Γ' ρ' ∧ ∀ b', (([(b, [CV.sp b 55, .bld 5 f s])] : List (Nat × List CV)).lookup b').isSome = true → bl' b' = bl b' := by
    rintro e w' rfl ⟨rfl, hS⟩
    have hrow : w'.ownsRowF 0 5 1 v1 0 (Lib.byteCells []) := by
      refine ⟨k3.2.1.1, ?_⟩
      rcases k3.2.1.2 with q | ⟨g, cap, cur, fz, q1, q2, q3, q4⟩
      · exact .inl q
      · exact .inr ⟨g, cap, cur, fz, q1, q2, by rw [hS.block g (Array.getElem?_eq_some_iff.1 q3).1]; exact q3, q4⟩
    obtain ⟨ρ', h2, f2⟩ := h.bldSet (f' := false) (l' := []) (w' := w') (v0' := v0) (v1' := v1) k1 k3 hS.size hS.os hS.tape hS.output (fun k q1 _ _ => hS.block k q1) (by rw [hS.block _ hlt]; exact k1) k2 (fun e => by cases e) hrow (fun g hg => .inl hg)
    exact ⟨_, _, _, _, rfl, h2.result (Rep.str []) (fun _ h => h.elim), f2, fun _ _ => rfl⟩
  rcases k3.2.1.2 with ⟨q, hn⟩ | ⟨g, cap, cur, fz, q, _, hg, hfz, hnc, hcm, hcs, ht⟩
  · have hs : s = [] := by simpa using hn
    have k1' := k1
    rw [q] at k1'
    exact (NB.text_nil w (bl b) v0 k1').mono fun e w' he => same e w' hs he
  · have k1' := k1
    rw [q] at k1'
    by_cases hs : s = []
    · subst hs
      by_cases hc : cap = 0
      · subst hc
        exact (NB.text_zero w (bl b) g v0 cur fz k1' hg).mono fun e w' he => same e w' rfl he
      · exact (NB.text_none w (bl b) g cap v0 k1' hc).mono fun e w' he => same e w' rfl he
    · refine (NB.text w (bl b) g cap v0 s cur k1' hs fz hg (by simpa using hnc) hcm (by simpa using hcs) (by simpa using ht)).mono ?_
      rintro e w' ⟨rfl, hF⟩
      have hbg : bl b ≠ g := by
        intro e
        rw [e, hg] at k1; injection k1 with k1; injection k1 with _ k1 _
        exact absurd k1 (by decide)
      obtain ⟨fz', hg', hfz'⟩ := hF.row cur 5 fz hg (by simpa using hfz)
      have hv1 : v1.ownBlock = some g := by rw [q]; rfl
      obtain ⟨ρ', h2, f2⟩ := h.bldSet (f' := false) (l' := s) (w' := w') (v0' := v0) (v1' := v1) k1 k3 (by rw [hF.size]; exact Nat.le_refl _) hF.os hF.tape hF.output (fun k _ _ q3 => hF.block k (fun e => q3 (by rw [hv1, e])))
        (by rw [hF.block _ hbg]; exact k1) k2 (fun e => by cases e) ⟨k3.2.1.1, .inr ⟨g, cap, cur, fz', q, Nat.zero_le _, hg', by simpa using hfz', hnc, hcm, hcs, ht⟩⟩ (fun g hg => .inl hg)
      exact ⟨_, _, _, _, rfl, h2.result (Rep.str s) (fun _ h => h.elim), f2, fun _ _ => rfl⟩
end B
end Go.Proofs.YtmiclaoelbemkaaDoor
