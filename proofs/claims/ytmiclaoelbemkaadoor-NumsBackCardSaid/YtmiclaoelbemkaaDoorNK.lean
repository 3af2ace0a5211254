/- The card of NumsBack. No condition. -/
import Derived.Test.YtmiclaoelbemkaaDoorNU
import Derived.Test.YtmiclaoelbemkaaDoorN11
set_option linter.all false
namespace Go.Proofs.YtmiclaoelbemkaaDoor
open Go.ChangeShapes Go.WideShapes Go.ChangeAt Go.RowKit
set_option maxRecDepth 100000 in
theorem numsBack_contract (H : Type) (enc : TypeId × Value → H) (W : World) (base : Nat) (args : Array Value) (ds gs : List (DataW H)) (before : List MemPlace)
    (hval : ∀ (j : Nat) t v, Tryd.f3.params[j]? = some t → args[j]? = some v → Value.okWide Tryd.prog W .any base t v)
    (hW : DataW.Whole enc Tryd.prog Tryd.f3.params.toList Rows.numsBackSpec.vars false W args.toList ds gs before)
    (hwt : (DataW.weightsEach Tryd.prog Tryd.f3.params.toList ds).all (· ≤ reachBytes) = true)
    (hL : laidMetH Tryd.prog Rows.numsBackRow.laid W) (hS : W.ShapedOpen Tryd.prog) :
    Calls Tryd.prog 3 args W fun e W' => ∃ v, e = .returned v ∧ Rows.numsBackSpec.post enc Tryd.prog Tryd.f3 false true false false W args v W' := by
  refine B.contract_of2 (n := 9) (tb := 4) laidOut rowed full (by kernel_rfl) (by kernel_rfl) Tryd.underlying4 rfl (fun hd => ?_) hval hW (fun a v h => by cases h) (gz W hL hS) hwt fun xs hxs _ hws => ?_
  · rw [Tryd.params3] at hd
    match ds, hd with
    | [d0, d1], _ => rfl
  · rw [Tryd.params3] at hxs hws
    obtain ⟨x0, r, rfl, h0, hxs⟩ := B.tyAll_cons hxs
    obtain ⟨x1, r, rfl, h1, hxs⟩ := B.tyAll_cons hxs
    obtain rfl := B.tyAll_nil hxs
    obtain ⟨l0, rfl⟩ := B.spans_of h0
    obtain ⟨l1, rfl⟩ := B.spans_of h1
    have hl0 := hws 0 22 30 2 (l0.map B.sp) rfl Tryd.underlying22 rfl
    rw [bytes30, List.length_map] at hl0
    have hl1 := hws 1 22 30 2 (l1.map B.sp) rfl Tryd.underlying22 rfl
    rw [bytes30, List.length_map] at hl1
    exact B.numsBack l0 l1 (by unfold reachBytes at hl0; omega) (by unfold reachBytes at hl1; omega)
abbrev numsBack_wargs : Array Value := #[.slice none 0 0, .slice none 0 0]
theorem numsBack_reads (os : Os) {H : Type} (enc : TypeId × Value → H) : ∃ places, DataW.whole enc Tryd.prog ((laidWorld os).forCall (fun _ _ => 0) ⟨#[], numsBack_wargs, []⟩).memory Tryd.f3.params.toList Rows.numsBackSpec.vars false numsBack_wargs.toList 8 = some ([.nil, .nil], [], places) :=
  ⟨[], by kernel_rfl⟩
theorem numsBack_met (os : Os) : laidMet Tryd.prog Rows.numsBackRow.laid ((laidWorld os).forCall (fun _ _ => 0) ⟨#[], numsBack_wargs, []⟩).memory :=
  laidMet_of_run' 8 (by kernel_rfl) (by kernel_rfl)

set_option maxRecDepth 100000 in
theorem numsBack_lifted (os : Os) (started : os.Started) (H : Type) (enc : TypeId × Value → H) (F : Stop.Interp) :
    ReturnsInHanded {} Tryd.checked os 3 .any ((OpenSpec.ofChange Rows.numsBackSpec).preRow enc Tryd.prog Tryd.f3 Rows.numsBackRow.domain false Rows.numsBackRow.laid) (((OpenSpec.ofChange Rows.numsBackSpec).at F).post enc Tryd.prog Tryd.f3 false true false false) := by
  obtain ⟨places, hx⟩ := numsBack_reads os enc
  refine returnsInHanded_of_row (C := Tryd.checked) (s := OpenSpec.ofChange Rows.numsBackSpec) own started (by kernel_rfl) Tryd.func3
    (witness_row_at (enc := enc) (C := Tryd.checked) false (laidWorld os) numsBack_wargs rfl (by kernel_rfl) (by kernel_rfl) (by kernel_rfl)
      (OpenSpec.preRow_of_cond 8 hx (by kernel_rfl) (fun k hk => by cases hk) (by kernel_rfl) (numsBack_met os))) ?_
  intro W base args ds gs before hval hW _ _ hwt hL hS _
  have hg : gs = [] := by
    obtain ⟨p, q, _, hV, _⟩ := hW
    exact (trodVars_none hV).1
  subst hg
  rw [List.append_nil] at hwt
  exact numsBack_contract H enc W base args ds [] before hval hW (by
    rw [show Tryd.f3.params.toList ++ DataSpec.varTypes Tryd.checked.prog (OpenSpec.ofChange Rows.numsBackSpec).bare.plain = Tryd.f3.params.toList from List.append_nil _] at hwt
    exact hwt) hL hS

theorem numsBack_said : Rows.NumsBackSaid :=
  OpenClaim.holds_of_cond 3 Tryd.f3 rfl rfl rfl rfl rfl rfl rfl ⟨rfl, rfl, rfl, rfl, rfl⟩ rfl rfl rfl rfl rfl (by kernel_rfl) Tryd.func3 (by kernel_rfl)
    (of_decide_eq_true (by kernel_rfl)) (by unfold Func.isWrapper; first | (rw [if_pos (by decide +kernel)]; kernel_rfl) | (rw [if_neg (by decide +kernel)]; exact ⟨rfl, rfl⟩))
    (fun os started H enc _ F => by rw [OpenClaim.pre_eq_preRow]; exact numsBack_lifted os started H enc F)

theorem numsBack_plain (f : FuncId) (fn : Func) (hf : Tryd.pinned.checked.prog.funcNamed "mailsack/mailsacklaw4.NumsBack" = some f) (hfn : Tryd.pinned.checked.prog.funcs[f]? = some fn) :
    false = Tryd.pinned.checked.prog.looks [] ∧ ∀ (j : Nat) t, fn.params[j]? = some t → Tryd.pinned.checked.prog.wantsStandIn t = false := by
  obtain rfl : f = 3 := Option.some.inj ((show Tryd.prog.funcNamed "mailsack/mailsacklaw4.NumsBack" = some 3 by kernel_rfl).symm.trans hf) |>.symm
  obtain rfl : fn = Tryd.f3 := (Option.some.inj (Tryd.func3.symm.trans hfn)).symm
  refine ⟨by kernel_rfl, fun j t ht => ?_⟩
  rw [Tryd.params3] at ht
  have h1 : t = 22 ∨ t = 22 := by
    match j, ht with
    | 0, h => simp at h; simp [h]
    | 1, h => simp at h; simp [h]
    | j + 2, h => simp at h
  rcases h1 with rfl | rfl
  · exact (show Tryd.prog.wantsStandIn 22 = false by kernel_rfl)
  · exact (show Tryd.prog.wantsStandIn 22 = false by kernel_rfl)

/-- THE CARD. -/
theorem numsBack_card : Rows.NumsBackCardSaid :=
  Claim7.holds_tied_plain_at .later [] _ _ _ _ numsBack_said (fun _ h => by cases h) (by kernel_rfl) (fun _ h => by cases h) numsBack_row_tie rfl ⟨rfl, rfl⟩ (by kernel_rfl) rfl numsBack_plain (by kernel_rfl)
#print axioms numsBack_card
end Go.Proofs.YtmiclaoelbemkaaDoor
