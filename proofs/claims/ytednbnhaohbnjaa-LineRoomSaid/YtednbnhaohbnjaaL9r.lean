/- The statements of the line: of room. For every input. No condition. -/
import Derived.Test.YtednbnhaohbnjaaRows
import Derived.Test.YtednbnhaohbnjaaL5
import Derived.Test.YtednbnhaohbnjaaB31
import Derived.ProofKit
import Derived.OpenShut
import Derived.Deep.DeepHandedRow
import Derived.JoinedCond
import Derived.LaidLaws
set_option linter.all false
namespace Go.Proofs.Ytednbnhaohbnjaa
open Go.ChangeShapes Go.WideShapes Go.ChangeAt Go.RowKit

theorem own : ownKnob Try.prog.godebug = none := by kernel_rfl
theorem laidOut : laidOutB Try.prog = true := by kernel_rfl
theorem rowed : mapsRowed Try.prog = true := by kernel_rfl
theorem full : ((List.range Try.prog.types.size).all fun t => match Try.prog.underlying t with | some (.slice e) => decide (0 < Try.prog.cellsOf e) | _ => true) = true := by kernel_rfl
theorem cells9 : Try.prog.cellsOf 9 = 1 := by kernel_rfl
theorem cells3 : Try.prog.cellsOf 3 = 1 := by kernel_rfl

theorem ints_of {n : Nat} {x : B.D} (h : B.TyV Try.prog (n + 2) 35 x) : ∃ ns : List Int, x = .slice 1 (ns.map (.int .i64)) := by
  obtain ⟨l, rfl, _, hl⟩ := B.ty_slice Try.underlying35 h
  obtain ⟨ss, rfl⟩ := B.ty_list (f := B.D.int .i64) (fun y hy => let ⟨s, hs, _⟩ := B.ty_int Try.underlying3 (hl y hy); ⟨s, hs⟩)
  exact ⟨ss, by rw [cells3]⟩


theorem room_contract (H : Type) (enc : TypeId × Value → H) (W : World) (base : Nat) (args : Array Value) (ds gs : List (DataW H)) (before : List MemPlace)
    (hval : ∀ (j : Nat) t v, Try.f6.params[j]? = some t → args[j]? = some v → Value.okWide Try.prog W .any base t v)
    (hW : DataW.Whole enc Try.prog Try.f6.params.toList Rows.lineRoomSpec.vars false W args.toList ds gs before) :
    Calls Try.prog 6 args W fun e W' => ∃ v, e = .returned v ∧ Rows.lineRoomSpec.post enc Try.prog Try.f6 false true false false W args v W' := by
  refine B.contract_of (n := 9) (tb := 4) laidOut rowed full (by kernel_rfl) (by kernel_rfl) Try.underlying4 rfl (fun hd => ?_) hval hW (fun a v h => by cases h) fun xs hxs _ => ?_
  · rw [Try.params6] at hd
    match ds, hd with
    | [d1, d2], _ => rfl
  · rw [Try.params6] at hxs
    obtain ⟨x0, r, rfl, h0, hxs⟩ := B.tyAll_cons hxs
    obtain ⟨x1, r, rfl, h1, hxs⟩ := B.tyAll_cons hxs
    obtain rfl := B.tyAll_nil hxs
    obtain ⟨y, rfl, _⟩ := B.ty_int Try.underlying3 h0
    obtain ⟨ns, rfl⟩ := ints_of h1
    exact B.lineRoom y ns

set_option maxRecDepth 100000 in
theorem room_lifted (os : Os) (started : os.Started) (H : Type) (enc : TypeId × Value → H) (F : Stop.Interp) :
    ReturnsInHanded {} Try.checked os 6 .any ((OpenSpec.ofChange Rows.lineRoomSpec).preRow enc Try.prog Try.f6 Rows.lineRoomRow.domain false Rows.lineRoomRow.laid) (((OpenSpec.ofChange Rows.lineRoomSpec).at F).post enc Try.prog Try.f6 false true false false) := by
  have hx : ∃ places, DataW.whole enc Try.prog ((World.holding Try.prog os ⟨#[], #[], []⟩).forCall (fun _ _ => 0) ⟨#[], #[.int .i64 0, .slice none 0 0], []⟩).memory Try.f6.params.toList Rows.lineRoomSpec.vars false #[Value.int .i64 0, .slice none 0 0].toList 8 = some ([.lit (.int .i64 0), .nil], [], places) := ⟨[], by kernel_rfl⟩
  obtain ⟨places, hx⟩ := hx
  refine returnsInHanded_of_row (C := Try.checked) (s := OpenSpec.ofChange Rows.lineRoomSpec) own started (by kernel_rfl) Try.func6
    (witness_row_at (enc := enc) (C := Try.checked) false (World.holding Try.prog os ⟨#[], #[], []⟩) #[.int .i64 0, .slice none 0 0] rfl (by kernel_rfl) (by kernel_rfl) (by kernel_rfl)
      (OpenSpec.preRow_of_cond 8 hx (by kernel_rfl) (fun k hk => by cases hk) (by kernel_rfl) (laidMet_of_run' 8 (by kernel_rfl) (by kernel_rfl)))) ?_
  intro W base args ds gs before hval hW _ _ _ _ _ _
  exact room_contract H enc W base args ds gs before hval hW

theorem lineRoom_holds : Rows.LineRoomSaid :=
  OpenClaim.holds_of_cond 6 Try.f6 rfl rfl rfl rfl rfl rfl rfl ⟨rfl, rfl, rfl, rfl, rfl⟩ rfl rfl rfl rfl rfl (by kernel_rfl) Try.func6 (by kernel_rfl)
    (of_decide_eq_true (by kernel_rfl)) (by unfold Func.isWrapper; first | (rw [if_pos (by decide +kernel)]; kernel_rfl) | (rw [if_neg (by decide +kernel)]; exact ⟨rfl, rfl⟩))
    (fun os started H enc _ F => by rw [OpenClaim.pre_eq_preRow]; exact room_lifted os started H enc F)
#print axioms lineRoom_holds
end Go.Proofs.Ytednbnhaohbnjaa
