/- Bytes and slices that come in. No condition. -/
import Derived.Test.YtmkkljbfmdngfaaDoorK6
set_option linter.all false
namespace Go.Proofs.YtmkkljbfmdngfaaDoor
namespace B
open Go.RowKit
set_option maxRecDepth 100000

theorem cells5h : P.cellsOf 5 = 1 := by kernel_rfl
theorem tyBs {n : Nat} {x : D} (h : TyV P (n + 2) 30 x) : ∃ s : Bytes, x = .slice 1 (bs s) := by
  obtain ⟨l, rfl, _, hl⟩ := ty_slice Tryd.underlying30 h
  obtain ⟨zs, rfl⟩ := ty_list (f := byteD) fun y hy => by
    obtain ⟨k, hk, h1, h2⟩ := ty_int Tryd.underlying5 (hl y hy)
    have h1 : (0 : Int) ≤ k := h1
    have h2 : k ≤ 255 := h2
    refine ⟨UInt8.ofNat k.toNat, ?_⟩
    rw [hk]
    unfold byteD
    congr 1
    simp
    omega
  exact ⟨zs, by rw [cells5h]; rfl⟩
end B
end Go.Proofs.YtmkkljbfmdngfaaDoor
