/- The card of NumsOne. No condition. -/
import Derived.Test.YtmiclaoelbemkaaDoorMU
import Derived.Test.YtmiclaoelbemkaaDoorM3
set_option linter.all false
namespace Go.Proofs.YtmiclaoelbemkaaDoor
open Go.ChangeShapes Go.WideShapes Go.ChangeAt Go.RowKit
set_option maxRecDepth 100000 in
theorem numsOne_contract (H : Type) (enc : TypeId × Value → H) (W : World) (base : Nat) (args : Array Value) (ds gs : List (DataW H)) (before : List MemPlace)
    (hval : ∀ (j : Nat) t v, Tryd.f7.params[j]? = some t → args[j]? = some v → Value.okWide Tryd.prog W .any base t v)
    (hW : DataW.Whole enc Tryd.prog Tryd.f7.params.toList Rows.numsOneSpec.vars false W args.toList ds gs before)
    (hwt : (DataW.weightsEach Tryd.prog Tryd.f7.params.toList ds).all (· ≤ reachBytes) = true)
    (hL : laidMetH Tryd.prog Rows.numsOneRow.laid W) (hS : W.ShapedOpen Tryd.prog) :
    Calls Tryd.prog 7 args W fun e W' => ∃ v, e = .returned v ∧ Rows.numsOneSpec.post enc Tryd.prog Tryd.f7 false true false false W args v W' := by
  refine B.contract_of2 (n := 9) (tb := 4) laidOut rowed full (by kernel_rfl) (by kernel_rfl) Tryd.underlying4 rfl (fun hd => ?_) hval hW (fun a v h => by cases h) (gz W hL hS) hwt fun xs hxs _ hws => ?_
  · rw [Tryd.params7] at hd
    match ds, hd with
    | [d0, d1], _ => rfl
  · rw [Tryd.params7] at hxs hws
    obtain ⟨x0, r, rfl, h0, hxs⟩ := B.tyAll_cons hxs
    obtain ⟨x1, r, rfl, h1, hxs⟩ := B.tyAll_cons hxs
    obtain rfl := B.tyAll_nil hxs
    obtain ⟨l0, rfl, b0⟩ := B.ty_int Tryd.underlying3 h0
    obtain ⟨l1, rfl, b1⟩ := B.ty_int Tryd.underlying3 h1
    exact B.numsOne l0 l1
abbrev numsOne_wargs : Array Value := #[.int .i64 0, .int .i64 0]
theorem numsOne_reads (os : Os) {H : Type} (enc : TypeId × Value → H) : ∃ places, DataW.whole enc Tryd.prog ((laidWorld os).forCall (fun _ _ => 0) ⟨#[], numsOne_wargs, []⟩).memory Tryd.f7.params.toList Rows.numsOneSpec.vars false numsOne_wargs.toList 8 = some ([.lit (.int .i64 0), .lit (.int .i64 0)], [], places) :=
  ⟨[], by kernel_rfl⟩
theorem numsOne_met (os : Os) : laidMet Tryd.prog Rows.numsOneRow.laid ((laidWorld os).forCall (fun _ _ => 0) ⟨#[], numsOne_wargs, []⟩).memory :=
  laidMet_of_run' 8 (by kernel_rfl) (by kernel_rfl)

set_option maxRecDepth 100000 in
theorem numsOne_lifted (os : Os) (started : os.Started) (H : Type) (enc : TypeId × Value → H) (F : Stop.Interp) :
    ReturnsInHanded {} Tryd.checked os 7 .any ((OpenSpec.ofChange Rows.numsOneSpec).preRow enc Tryd.prog Tryd.f7 Rows.numsOneRow.domain false Rows.numsOneRow.laid) (((OpenSpec.ofChange Rows.numsOneSpec).at F).post enc Tryd.prog Tryd.f7 false true false false) := by
  obtain ⟨places, hx⟩ := numsOne_reads os enc
  refine returnsInHanded_of_row (C := Tryd.checked) (s := OpenSpec.ofChange Rows.numsOneSpec) own started (by kernel_rfl) Tryd.func7
    (witness_row_at (enc := enc) (C := Tryd.checked) false (laidWorld os) numsOne_wargs rfl (by kernel_rfl) (by kernel_rfl) (by kernel_rfl)
      (OpenSpec.preRow_of_cond 8 hx (by kernel_rfl) (fun k hk => by cases hk) (by kernel_rfl) (numsOne_met os))) ?_
  intro W base args ds gs before hval hW _ _ hwt hL hS _
  have hg : gs = [] := by
    obtain ⟨p, q, _, hV, _⟩ := hW
    exact (trodVars_none hV).1
  subst hg
  rw [List.append_nil] at hwt
  exact numsOne_contract H enc W base args ds [] before hval hW (by
    rw [show Tryd.f7.params.toList ++ DataSpec.varTypes Tryd.checked.prog (OpenSpec.ofChange Rows.numsOneSpec).bare.plain = Tryd.f7.params.toList from List.append_nil _] at hwt
    exact hwt) hL hS

theorem numsOne_said : Rows.NumsOneSaid :=
  OpenClaim.holds_of_cond 7 Tryd.f7 rfl rfl rfl rfl rfl rfl rfl ⟨rfl, rfl, rfl, rfl, rfl⟩ rfl rfl rfl rfl rfl (by kernel_rfl) Tryd.func7 (by kernel_rfl)
    (of_decide_eq_true (by kernel_rfl)) (by unfold Func.isWrapper; first | (rw [if_pos (by decide +kernel)]; kernel_rfl) | (rw [if_neg (by decide +kernel)]; exact ⟨rfl, rfl⟩))
    (fun os started H enc _ F => by rw [OpenClaim.pre_eq_preRow]; exact numsOne_lifted os started H enc F)

theorem numsOne_plain (f : FuncId) (fn : Func) (hf : Tryd.pinned.checked.prog.funcNamed "mailsack/mailsacklaw4.NumsOne" = some f) (hfn : Tryd.pinned.checked.prog.funcs[f]? = some fn) :
    false = Tryd.pinned.checked.prog.looks [] ∧ ∀ (j : Nat) t, fn.params[j]? = some t → Tryd.pinned.checked.prog.wantsStandIn t = false := by
  obtain rfl : f = 7 := Option.some.inj ((show Tryd.prog.funcNamed "mailsack/mailsacklaw4.NumsOne" = some 7 by kernel_rfl).symm.trans hf) |>.symm
  obtain rfl : fn = Tryd.f7 := (Option.some.inj (Tryd.func7.symm.trans hfn)).symm
  refine ⟨by kernel_rfl, fun j t ht => ?_⟩
  rw [Tryd.params7] at ht
  have h1 : t = 3 ∨ t = 3 := by
    match j, ht with
    | 0, h => simp at h; simp [h]
    | 1, h => simp at h; simp [h]
    | j + 2, h => simp at h
  rcases h1 with rfl | rfl
  · exact (show Tryd.prog.wantsStandIn 3 = false by kernel_rfl)
  · exact (show Tryd.prog.wantsStandIn 3 = false by kernel_rfl)

/-- THE CARD. -/
theorem numsOne_card : Rows.NumsOneCardSaid :=
  Claim7.holds_tied_plain_at .later [] _ _ _ _ numsOne_said (fun _ h => by cases h) (by kernel_rfl) (fun _ h => by cases h) numsOne_row_tie rfl ⟨rfl, rfl⟩ (by kernel_rfl) rfl numsOne_plain (by kernel_rfl)
#print axioms numsOne_card
end Go.Proofs.YtmiclaoelbemkaaDoor
