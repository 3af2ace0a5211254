/- The card of Form2Forms. No condition. -/
import Derived.Test.YtmkkljbfmdngfaaDoorK7
set_option linter.all false
namespace Go.Proofs.YtmkkljbfmdngfaaDoor
open Go.ChangeShapes Go.WideShapes Go.ChangeAt Go.RowKit
set_option maxRecDepth 100000 in
theorem form2Forms_contract (H : Type) (enc : TypeId × Value → H) (W : World) (base : Nat) (args : Array Value) (ds gs : List (DataW H)) (before : List MemPlace)
    (hval : ∀ (j : Nat) t v, Tryd.f8.params[j]? = some t → args[j]? = some v → Value.okWide Tryd.prog W .any base t v)
    (hW : DataW.Whole enc Tryd.prog Tryd.f8.params.toList Rows.form2FormsSpec.vars false W args.toList ds gs before)
    (hwt : (DataW.weightsEach Tryd.prog Tryd.f8.params.toList ds).all (· ≤ reachBytes) = true)
    (hL : laidMetH Tryd.prog lays W) (hk : Rows.uptoSmall H ds = true) (hS : W.ShapedOpen Tryd.prog) :
    Calls Tryd.prog 8 args W fun e W' => ∃ v, e = .returned v ∧ Rows.form2FormsSpec.post enc Tryd.prog Tryd.f8 false true false false W args v W' := by
  refine B.contract_of2 (n := 9) (tb := 4) laidOut rowed full (by kernel_rfl) (by kernel_rfl) Tryd.underlying4 rfl (fun hd => ?_) hval hW (fun a v h => by cases h) (gz W hL hS) hwt fun xs hxs hbk hws => ?_
  · rw [Tryd.params8] at hd
    match ds, hd with
    | [d0, d1, d2], _ => rfl
  · rw [Tryd.params8] at hxs hws
    have hbk := Nat.le_trans hbk (B.bulk_small hk)
    obtain ⟨x0, r, rfl, h0, hxs⟩ := B.tyAll_cons hxs
    obtain ⟨x1, r, rfl, h1, hxs⟩ := B.tyAll_cons hxs
    obtain ⟨x2, r, rfl, h2, hxs⟩ := B.tyAll_cons hxs
    obtain rfl := B.tyAll_nil hxs
    obtain ⟨b0, rfl⟩ := B.box_of h0
    obtain ⟨s1, rfl⟩ := B.tyBs h1
    obtain ⟨s2, rfl, q2⟩ := B.ty_str Tryd.underlying9 h2
    have in0 : B.BoxIn b0 := B.boxIn (by have := hbk; simp only [B.bulkL] at this; omega)
    exact B.r8 b0 in0 s1 s2
abbrev form2Forms_wargs : Array Value := #[.agg #[.string .empty, .int .i64 0, .int .i64 0, .int .i64 0, .slice none 0 0, .slice none 0 0], .slice none 0 0, .string .empty]
theorem form2Forms_reads (os : Os) {H : Type} (enc : TypeId × Value → H) : ∃ places, DataW.whole enc Tryd.prog ((laidWorld os).forCall (fun _ _ => 0) ⟨#[], form2Forms_wargs, []⟩).memory Tryd.f8.params.toList Rows.form2FormsSpec.vars false form2Forms_wargs.toList 8 = some ([.agg [.lit (.string []), .lit (.int .i64 0), .lit (.int .i64 0), .lit (.int .i64 0), .nil, .nil], .nil, .lit (.string [])], [], places) :=
  ⟨[], by kernel_rfl⟩
theorem form2Forms_met (os : Os) : laidMet Tryd.prog Rows.form2FormsUptoRow.laid ((laidWorld os).forCall (fun _ _ => 0) ⟨#[], form2Forms_wargs, []⟩).memory :=
  laidMet_of_run' 8 (by kernel_rfl) (by kernel_rfl)

set_option maxRecDepth 100000 in
theorem form2Forms_lifted (os : Os) (started : os.Started) (H : Type) (enc : TypeId × Value → H) (F : Stop.Interp) :
    ReturnsInHanded {} Tryd.checked os 8 .any ((Rows.OpenSpec.upto Rows.form2FormsSpec).preRow enc Tryd.prog Tryd.f8 Rows.form2FormsUptoRow.domain false Rows.form2FormsUptoRow.laid) (((Rows.OpenSpec.upto Rows.form2FormsSpec).at F).post enc Tryd.prog Tryd.f8 false true false false) := by
  obtain ⟨places, hx⟩ := form2Forms_reads os enc
  refine returnsInHanded_of_row (C := Tryd.checked) (s := Rows.OpenSpec.upto Rows.form2FormsSpec) own started (by kernel_rfl) Tryd.func8
    (witness_row_at (enc := enc) (C := Tryd.checked) false (laidWorld os) form2Forms_wargs rfl (by kernel_rfl) (by kernel_rfl) (by kernel_rfl)
      (OpenSpec.preRow_of_cond 8 hx (by kernel_rfl) (fun k hk => by cases hk; kernel_rfl) (by kernel_rfl) (form2Forms_met os))) ?_
  intro W base args ds gs before hval hW _ hcond hwt hL hS _
  have hk := hcond _ rfl
  have hg : gs = [] := by
    obtain ⟨p, q, _, hV, _⟩ := hW
    exact (trodVars_none hV).1
  subst hg
  rw [List.append_nil] at hwt hk
  exact form2Forms_contract H enc W base args ds [] before hval hW (by
    rw [show Tryd.f8.params.toList ++ DataSpec.varTypes Tryd.checked.prog (Rows.OpenSpec.upto Rows.form2FormsSpec).bare.plain = Tryd.f8.params.toList from List.append_nil _] at hwt
    exact hwt) hL hk hS

theorem form2Forms_said : Rows.Form2FormsUptoSaid :=
  OpenClaim.holds_of_cond 8 Tryd.f8 rfl rfl rfl rfl rfl rfl rfl ⟨rfl, rfl, rfl, rfl, rfl⟩ rfl rfl rfl rfl rfl (by kernel_rfl) Tryd.func8 (by kernel_rfl)
    (of_decide_eq_true (by kernel_rfl)) (by unfold Func.isWrapper; first | (rw [if_pos (by decide +kernel)]; kernel_rfl) | (rw [if_neg (by decide +kernel)]; exact ⟨rfl, rfl⟩))
    (fun os started H enc _ F => by rw [OpenClaim.pre_eq_preRow]; exact form2Forms_lifted os started H enc F)

theorem form2Forms_plain (f : FuncId) (fn : Func) (hf : Tryd.pinned.checked.prog.funcNamed "mailsack/mailsacklaw9.Form2Forms" = some f) (hfn : Tryd.pinned.checked.prog.funcs[f]? = some fn) :
    false = Tryd.pinned.checked.prog.looks [] ∧ ∀ (j : Nat) t, fn.params[j]? = some t → Tryd.pinned.checked.prog.wantsStandIn t = false := by
  obtain rfl : f = 8 := Option.some.inj ((show Tryd.prog.funcNamed "mailsack/mailsacklaw9.Form2Forms" = some 8 by kernel_rfl).symm.trans hf) |>.symm
  obtain rfl : fn = Tryd.f8 := (Option.some.inj (Tryd.func8.symm.trans hfn)).symm
  refine ⟨by kernel_rfl, fun j t ht => ?_⟩
  rw [Tryd.params8] at ht
  have h1 : t = 25 ∨ t = 30 ∨ t = 9 := by
    match j, ht with
    | 0, h => simp at h; simp [h]
    | 1, h => simp at h; simp [h]
    | 2, h => simp at h; simp [h]
    | j + 3, h => simp at h
  rcases h1 with rfl | rfl | rfl
  · exact (show Tryd.prog.wantsStandIn 25 = false by kernel_rfl)
  · exact (show Tryd.prog.wantsStandIn 30 = false by kernel_rfl)
  · exact (show Tryd.prog.wantsStandIn 9 = false by kernel_rfl)

/-- THE CARD. -/
theorem form2Forms_card : Rows.Form2FormsUptoCardSaid :=
  Claim7.holds_tied_plain_at .later [] _ _ _ _ form2Forms_said (fun _ h => by cases h) (by kernel_rfl) (fun _ h => by cases h) form2FormsUpto_row_tie rfl ⟨rfl, rfl⟩ (by kernel_rfl) rfl form2Forms_plain (by kernel_rfl)
#print axioms form2Forms_card
end Go.Proofs.YtmkkljbfmdngfaaDoor
