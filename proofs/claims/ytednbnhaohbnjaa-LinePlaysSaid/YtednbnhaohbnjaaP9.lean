/- The statement of the line: what is taken is what was put. For every input. No condition. -/
import Derived.Test.YtednbnhaohbnjaaRows
import Derived.Test.YtednbnhaohbnjaaP3
import Derived.Test.YtednbnhaohbnjaaB30
import Derived.ProofKit
import Derived.OpenShut
import Derived.Deep.DeepHandedRow
import Derived.JoinedCond
import Derived.LaidLaws
set_option linter.all false
namespace Go.Proofs.Ytednbnhaohbnjaa
open Go.ChangeShapes Go.WideShapes Go.ChangeAt Go.RowKit

theorem own : ownKnob Try.prog.godebug = none := by kernel_rfl
theorem laidOut : laidOutB Try.prog = true := by kernel_rfl
theorem rowed : mapsRowed Try.prog = true := by kernel_rfl
theorem full : ((List.range Try.prog.types.size).all fun t => match Try.prog.underlying t with | some (.slice e) => decide (0 < Try.prog.cellsOf e) | _ => true) = true := by kernel_rfl
theorem cells9 : Try.prog.cellsOf 9 = 1 := by kernel_rfl
theorem cells3 : Try.prog.cellsOf 3 = 1 := by kernel_rfl

theorem cells37 : Try.prog.cellsOf 37 = 2 := by kernel_rfl
set_option maxRecDepth 100000 in
theorem tyI {n : Nat} {p : List B.D} (h : B.Ty Try.prog (n + 1) 3 p) : ∃ y : Int, p = [.int .i64 y] := by
  unfold B.Ty at h
  rw [show Try.prog.underlying 3 = _ from Try.underlying3] at h
  obtain ⟨y, rfl, _⟩ := h
  exact ⟨y, rfl⟩
theorem call_of {n : Nat} {x : B.D} (h : B.TyV Try.prog (n + 2) 37 x) : ∃ c : Int × Int, x = B.callD c := by
  obtain ⟨parts, rfl, hl, hp⟩ := B.ty_struct Try.underlying37 h
  have hl : parts.length = 2 := hl
  match parts, hl with
  | [a0, a1], _ =>
    obtain ⟨y0, rfl⟩ := tyI (n := n) (hp 0 _ a0 rfl rfl)
    obtain ⟨y1, rfl⟩ := tyI (n := n) (hp 1 _ a1 rfl rfl)
    exact ⟨⟨y0, y1⟩, rfl⟩
theorem calls_of {n : Nat} {x : B.D} (h : B.TyV Try.prog (n + 3) 32 x) : ∃ l : List (Int × Int), x = .slice 2 (l.map B.callD) := by
  obtain ⟨l, rfl, _, hl⟩ := B.ty_slice Try.underlying32 h
  obtain ⟨zs, rfl⟩ := B.ty_list (f := B.callD) fun y hy => call_of (hl y hy)
  exact ⟨zs, by rw [cells37]⟩

theorem plays_contract (H : Type) (enc : TypeId × Value → H) (W : World) (base : Nat) (args : Array Value) (ds gs : List (DataW H)) (before : List MemPlace)
    (hval : ∀ (j : Nat) t v, Try.f4.params[j]? = some t → args[j]? = some v → Value.okWide Try.prog W .any base t v)
    (hW : DataW.Whole enc Try.prog Try.f4.params.toList Rows.linePlaysSpec.vars false W args.toList ds gs before) :
    Calls Try.prog 4 args W fun e W' => ∃ v, e = .returned v ∧ Rows.linePlaysSpec.post enc Try.prog Try.f4 false true false false W args v W' := by
  refine B.contract_of (n := 9) (tb := 4) laidOut rowed full (by kernel_rfl) (by kernel_rfl) Try.underlying4 rfl (fun hd => ?_) hval hW (fun a v h => by cases h) ⟨0, fun g cs h => by cases h⟩ fun xs hxs _ => ?_
  · rw [Try.params4] at hd
    match ds, hd with
    | [d1, d2], _ => rfl
  · rw [Try.params4] at hxs
    obtain ⟨x0, r, rfl, h0, hxs⟩ := B.tyAll_cons hxs
    obtain ⟨x1, r, rfl, h1, hxs⟩ := B.tyAll_cons hxs
    obtain rfl := B.tyAll_nil hxs
    obtain ⟨y, rfl, _⟩ := B.ty_int Try.underlying3 h0
    obtain ⟨l, rfl⟩ := calls_of h1
    exact B.linePlays y l

set_option maxRecDepth 100000 in
theorem plays_lifted (os : Os) (started : os.Started) (H : Type) (enc : TypeId × Value → H) (F : Stop.Interp) :
    ReturnsInHanded {} Try.checked os 4 .any ((OpenSpec.ofChange Rows.linePlaysSpec).preRow enc Try.prog Try.f4 Rows.linePlaysRow.domain false Rows.linePlaysRow.laid) (((OpenSpec.ofChange Rows.linePlaysSpec).at F).post enc Try.prog Try.f4 false true false false) := by
  have hx : ∃ places, DataW.whole enc Try.prog ((World.holding Try.prog os ⟨#[], #[], []⟩).forCall (fun _ _ => 0) ⟨#[], #[.int .i64 0, .slice none 0 0], []⟩).memory Try.f4.params.toList Rows.linePlaysSpec.vars false #[Value.int .i64 0, .slice none 0 0].toList 8 = some ([.lit (.int .i64 0), .nil], [], places) := ⟨[], by kernel_rfl⟩
  obtain ⟨places, hx⟩ := hx
  refine returnsInHanded_of_row (C := Try.checked) (s := OpenSpec.ofChange Rows.linePlaysSpec) own started (by kernel_rfl) Try.func4
    (witness_row_at (enc := enc) (C := Try.checked) false (World.holding Try.prog os ⟨#[], #[], []⟩) #[.int .i64 0, .slice none 0 0] rfl (by kernel_rfl) (by kernel_rfl) (by kernel_rfl)
      (OpenSpec.preRow_of_cond 8 hx (by kernel_rfl) (fun k hk => by cases hk) (by kernel_rfl) (laidMet_of_run' 8 (by kernel_rfl) (by kernel_rfl)))) ?_
  intro W base args ds gs before hval hW _ _ _ _ _ _
  exact plays_contract H enc W base args ds gs before hval hW

theorem linePlays_holds : Rows.LinePlaysSaid :=
  OpenClaim.holds_of_cond 4 Try.f4 rfl rfl rfl rfl rfl rfl rfl ⟨rfl, rfl, rfl, rfl, rfl⟩ rfl rfl rfl rfl rfl (by kernel_rfl) Try.func4 (by kernel_rfl)
    (of_decide_eq_true (by kernel_rfl)) (by unfold Func.isWrapper; first | (rw [if_pos (by decide +kernel)]; kernel_rfl) | (rw [if_neg (by decide +kernel)]; exact ⟨rfl, rfl⟩))
    (fun os started H enc _ F => by rw [OpenClaim.pre_eq_preRow]; exact plays_lifted os started H enc F)
#print axioms linePlays_holds
end Go.Proofs.Ytednbnhaohbnjaa
