/- strings.Builder's Grow, on data. No condition. -/
import Derived.Test.YtmiclaoelbemkaaDoorN2
import Derived.Test.YtmiclaoelbemkaaDoorNE
set_option linter.all false
namespace Go.Proofs.YtmiclaoelbemkaaDoor
namespace B
open Go.RowKit

/-- Grow. -/
theorem r29 (b n : Nat) (hn : n ≤ 140737488355328) : Runs P 29 [.ptr b 0, .d (.int .i64 n)] [(b, [.sp b 55, .bld 5 true []])] (.tup []) [(b, [.sp b 55, .bld 5 false []])] := by
  refine ⟨⟨Tryd.f29, Tryd.func29, by kernel_rfl, by kernel_rfl⟩, fun Γ ρ bl vals w h hz => ?_⟩
  obtain ⟨v, u, rfl, hv, hu⟩ := vals2 h
  have hv : v = .pointer (some ⟨bl b, 0, none⟩) := hv
  subst hv
  obtain rfl := rep_int hu
  obtain ⟨v0, v1, k1, k2, k3⟩ := h.bld (bk_bx _ b _)
  have hv1 : v1 = .slice none 0 0 := k3.1 rfl
  have k1' := k1
  rw [hv1] at k1'
  refine (NB.Grow w (bl b) n v0 k1' k2 hn).mono ?_
  rintro e w' ⟨rfl, v', hw⟩
  rw [← hv1] at hw
  obtain ⟨ρ', h2, f2⟩ := h.bldSet (f' := false) (l' := []) k1 k3 hw.size hw.os hw.tape hw.output (fun k q1 q2 q3 => hw.block k q1 q2 q3) hw.box (.inr rfl) (fun e => by cases e) hw.row hw.own
  exact ⟨_, _, _, _, rfl, h2.result (tup0 _ _ _ _) (fun k hk => (tup0_ment k hk).elim), f2, fun _ _ => rfl⟩
end B
end Go.Proofs.YtmiclaoelbemkaaDoor
