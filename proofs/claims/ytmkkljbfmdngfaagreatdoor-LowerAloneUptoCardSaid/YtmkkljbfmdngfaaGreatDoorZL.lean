/- The card of LowerOlder. No condition. -/
import Derived.Test.YtmkkljbfmdngfaaGreatDoorQE
import Derived.Test.YtmkkljbfmdngfaaGreatDoorJZ
set_option linter.all false
namespace Go.Proofs.YtmkkljbfmdngfaaGreatDoor
open Go.ChangeShapes Go.WideShapes Go.ChangeAt Go.RowKit
set_option maxRecDepth 100000 in
theorem lowerOlder_contract (H : Type) (enc : TypeId × Value → H) (W : World) (base : Nat) (args : Array Value) (ds gs : List (DataW H)) (before : List MemPlace)
    (hval : ∀ (j : Nat) t v, Tryz.f9.params[j]? = some t → args[j]? = some v → Value.okWide Tryz.prog W .any base t v)
    (hW : DataW.Whole enc Tryz.prog Tryz.f9.params.toList Rows.lowerOlderSpec.vars false W args.toList ds gs before)
    (hwt : (DataW.weightsEach Tryz.prog Tryz.f9.params.toList ds).all (· ≤ reachBytes) = true)
    (hL : laidMetH Tryz.prog lays W) (hk : Rows.uptoSmall H ds = true) (hS : W.ShapedOpen Tryz.prog) :
    Calls Tryz.prog 9 args W fun e W' => ∃ v, e = .returned v ∧ Rows.lowerOlderSpec.post enc Tryz.prog Tryz.f9 false true false false W args v W' := by
  refine B.contract_of2 (n := 9) (tb := 4) laidOut rowed full (by kernel_rfl) (by kernel_rfl) Tryz.underlying4 rfl (fun hd => ?_) hval hW (fun a v h => by cases h) (gz W hL hS) hwt fun xs hxs hbk hws => ?_
  · rw [Tryz.params9] at hd
    match ds, hd with
    | [d0], _ => rfl
  · rw [Tryz.params9] at hxs hws
    have hbk := Nat.le_trans hbk (B.bulk_small hk)
    obtain ⟨x0, r, rfl, h0, hxs⟩ := B.tyAll_cons hxs
    obtain rfl := B.tyAll_nil hxs
    obtain ⟨b0, rfl⟩ := B.box_of h0
    have in0 : B.BoxIn b0 := B.boxIn (by have := hbk; simp only [B.bulkL] at this; omega)
    exact B.z9 b0 in0
abbrev lowerOlder_wargs : Array Value := #[.agg #[.string .empty, .int .i64 0, .int .i64 0, .int .i64 0, .slice none 0 0, .slice none 0 0]]
theorem lowerOlder_reads (os : Os) {H : Type} (enc : TypeId × Value → H) : ∃ places, DataW.whole enc Tryz.prog ((laidWorld os).forCall (fun _ _ => 0) ⟨#[], lowerOlder_wargs, []⟩).memory Tryz.f9.params.toList Rows.lowerOlderSpec.vars false lowerOlder_wargs.toList 8 = some ([.agg [.lit (.string []), .lit (.int .i64 0), .lit (.int .i64 0), .lit (.int .i64 0), .nil, .nil]], [], places) :=
  ⟨[], by kernel_rfl⟩
theorem lowerOlder_met (os : Os) : laidMet Tryz.prog Rows.lowerOlderUptoRow.laid ((laidWorld os).forCall (fun _ _ => 0) ⟨#[], lowerOlder_wargs, []⟩).memory :=
  laidMet_of_run' 8 (by kernel_rfl) (by kernel_rfl)

set_option maxRecDepth 100000 in
theorem lowerOlder_lifted (os : Os) (started : os.Started) (H : Type) (enc : TypeId × Value → H) (F : Stop.Interp) :
    ReturnsInHanded {} Tryz.checked os 9 .any ((Rows.OpenSpec.upto Rows.lowerOlderSpec).preRow enc Tryz.prog Tryz.f9 Rows.lowerOlderUptoRow.domain false Rows.lowerOlderUptoRow.laid) (((Rows.OpenSpec.upto Rows.lowerOlderSpec).at F).post enc Tryz.prog Tryz.f9 false true false false) := by
  obtain ⟨places, hx⟩ := lowerOlder_reads os enc
  refine returnsInHanded_of_row (C := Tryz.checked) (s := Rows.OpenSpec.upto Rows.lowerOlderSpec) own started (by kernel_rfl) Tryz.func9
    (witness_row_at (enc := enc) (C := Tryz.checked) false (laidWorld os) lowerOlder_wargs rfl (by kernel_rfl) (by kernel_rfl) (by kernel_rfl)
      (OpenSpec.preRow_of_cond 8 hx (by kernel_rfl) (fun k hk => by cases hk; kernel_rfl) (by kernel_rfl) (lowerOlder_met os))) ?_
  intro W base args ds gs before hval hW _ hcond hwt hL hS _
  have hk := hcond _ rfl
  have hg : gs = [] := by
    obtain ⟨p, q, _, hV, _⟩ := hW
    exact (trodVars_none hV).1
  subst hg
  rw [List.append_nil] at hwt hk
  exact lowerOlder_contract H enc W base args ds [] before hval hW (by
    rw [show Tryz.f9.params.toList ++ DataSpec.varTypes Tryz.checked.prog (Rows.OpenSpec.upto Rows.lowerOlderSpec).bare.plain = Tryz.f9.params.toList from List.append_nil _] at hwt
    exact hwt) hL hk hS

theorem lowerOlder_said : Rows.LowerOlderUptoSaid :=
  OpenClaim.holds_of_cond 9 Tryz.f9 rfl rfl rfl rfl rfl rfl rfl ⟨rfl, rfl, rfl, rfl, rfl⟩ rfl rfl rfl rfl rfl (by kernel_rfl) Tryz.func9 (by kernel_rfl)
    (of_decide_eq_true (by kernel_rfl)) (by unfold Func.isWrapper; first | (rw [if_pos (by decide +kernel)]; kernel_rfl) | (rw [if_neg (by decide +kernel)]; exact ⟨rfl, rfl⟩))
    (fun os started H enc _ F => by rw [OpenClaim.pre_eq_preRow]; exact lowerOlder_lifted os started H enc F)

theorem lowerOlder_plain (f : FuncId) (fn : Func) (hf : Tryz.pinned.checked.prog.funcNamed "mailsack/mailsacklaw12.LowerOlder" = some f) (hfn : Tryz.pinned.checked.prog.funcs[f]? = some fn) :
    false = Tryz.pinned.checked.prog.looks [] ∧ ∀ (j : Nat) t, fn.params[j]? = some t → Tryz.pinned.checked.prog.wantsStandIn t = false := by
  obtain rfl : f = 9 := Option.some.inj ((show Tryz.prog.funcNamed "mailsack/mailsacklaw12.LowerOlder" = some 9 by kernel_rfl).symm.trans hf) |>.symm
  obtain rfl : fn = Tryz.f9 := (Option.some.inj (Tryz.func9.symm.trans hfn)).symm
  refine ⟨by kernel_rfl, fun j t ht => ?_⟩
  rw [Tryz.params9] at ht
  have h1 : t = 25 := by
    match j, ht with
    | 0, h => simp at h; simp [h]
    | j + 1, h => simp at h
  rcases h1 with rfl
  · exact (show Tryz.prog.wantsStandIn 25 = false by kernel_rfl)

/-- THE CARD. -/
theorem lowerOlder_card : Rows.LowerOlderUptoCardSaid :=
  Claim7.holds_tied_plain_at .later [] _ _ _ _ lowerOlder_said (fun _ h => by cases h) (by kernel_rfl) (fun _ h => by cases h) lowerOlderUpto_row_tie rfl ⟨rfl, rfl⟩ (by kernel_rfl) rfl lowerOlder_plain (by kernel_rfl)
#print axioms lowerOlder_card
end Go.Proofs.YtmkkljbfmdngfaaGreatDoor

namespace Go.Proofs.YtmkkljbfmdngfaaGreatDoor
open Go.ChangeShapes Go.WideShapes Go.ChangeAt Go.RowKit
set_option maxRecDepth 100000 in
theorem lowerAlone_contract (H : Type) (enc : TypeId × Value → H) (W : World) (base : Nat) (args : Array Value) (ds gs : List (DataW H)) (before : List MemPlace)
    (hval : ∀ (j : Nat) t v, Tryz.f10.params[j]? = some t → args[j]? = some v → Value.okWide Tryz.prog W .any base t v)
    (hW : DataW.Whole enc Tryz.prog Tryz.f10.params.toList Rows.lowerAloneSpec.vars false W args.toList ds gs before)
    (hwt : (DataW.weightsEach Tryz.prog Tryz.f10.params.toList ds).all (· ≤ reachBytes) = true)
    (hL : laidMetH Tryz.prog lays W) (hk : Rows.uptoSmall H ds = true) (hS : W.ShapedOpen Tryz.prog) :
    Calls Tryz.prog 10 args W fun e W' => ∃ v, e = .returned v ∧ Rows.lowerAloneSpec.post enc Tryz.prog Tryz.f10 false true false false W args v W' := by
  refine B.contract_of2 (n := 9) (tb := 4) laidOut rowed full (by kernel_rfl) (by kernel_rfl) Tryz.underlying4 rfl (fun hd => ?_) hval hW (fun a v h => by cases h) (gz W hL hS) hwt fun xs hxs hbk hws => ?_
  · rw [Tryz.params10] at hd
    match ds, hd with
    | [d0, d1], _ => rfl
  · rw [Tryz.params10] at hxs hws
    have hbk := Nat.le_trans hbk (B.bulk_small hk)
    obtain ⟨x0, r, rfl, h0, hxs⟩ := B.tyAll_cons hxs
    obtain ⟨x1, r, rfl, h1, hxs⟩ := B.tyAll_cons hxs
    obtain rfl := B.tyAll_nil hxs
    obtain ⟨n0, rfl, q0⟩ := B.ty_int Tryz.underlying3 h0
    obtain ⟨b1, rfl⟩ := B.box_of h1
    have in1 : B.BoxIn b1 := B.boxIn (by have := hbk; simp only [B.bulkL] at this; omega)
    exact B.z10 n0 b1 in1
abbrev lowerAlone_wargs : Array Value := #[.int .i64 0, .agg #[.string .empty, .int .i64 0, .int .i64 0, .int .i64 0, .slice none 0 0, .slice none 0 0]]
theorem lowerAlone_reads (os : Os) {H : Type} (enc : TypeId × Value → H) : ∃ places, DataW.whole enc Tryz.prog ((laidWorld os).forCall (fun _ _ => 0) ⟨#[], lowerAlone_wargs, []⟩).memory Tryz.f10.params.toList Rows.lowerAloneSpec.vars false lowerAlone_wargs.toList 8 = some ([.lit (.int .i64 0), .agg [.lit (.string []), .lit (.int .i64 0), .lit (.int .i64 0), .lit (.int .i64 0), .nil, .nil]], [], places) :=
  ⟨[], by kernel_rfl⟩
theorem lowerAlone_met (os : Os) : laidMet Tryz.prog Rows.lowerAloneUptoRow.laid ((laidWorld os).forCall (fun _ _ => 0) ⟨#[], lowerAlone_wargs, []⟩).memory :=
  laidMet_of_run' 8 (by kernel_rfl) (by kernel_rfl)

set_option maxRecDepth 100000 in
theorem lowerAlone_lifted (os : Os) (started : os.Started) (H : Type) (enc : TypeId × Value → H) (F : Stop.Interp) :
    ReturnsInHanded {} Tryz.checked os 10 .any ((Rows.OpenSpec.upto Rows.lowerAloneSpec).preRow enc Tryz.prog Tryz.f10 Rows.lowerAloneUptoRow.domain false Rows.lowerAloneUptoRow.laid) (((Rows.OpenSpec.upto Rows.lowerAloneSpec).at F).post enc Tryz.prog Tryz.f10 false true false false) := by
  obtain ⟨places, hx⟩ := lowerAlone_reads os enc
  refine returnsInHanded_of_row (C := Tryz.checked) (s := Rows.OpenSpec.upto Rows.lowerAloneSpec) own started (by kernel_rfl) Tryz.func10
    (witness_row_at (enc := enc) (C := Tryz.checked) false (laidWorld os) lowerAlone_wargs rfl (by kernel_rfl) (by kernel_rfl) (by kernel_rfl)
      (OpenSpec.preRow_of_cond 8 hx (by kernel_rfl) (fun k hk => by cases hk; kernel_rfl) (by kernel_rfl) (lowerAlone_met os))) ?_
  intro W base args ds gs before hval hW _ hcond hwt hL hS _
  have hk := hcond _ rfl
  have hg : gs = [] := by
    obtain ⟨p, q, _, hV, _⟩ := hW
    exact (trodVars_none hV).1
  subst hg
  rw [List.append_nil] at hwt hk
  exact lowerAlone_contract H enc W base args ds [] before hval hW (by
    rw [show Tryz.f10.params.toList ++ DataSpec.varTypes Tryz.checked.prog (Rows.OpenSpec.upto Rows.lowerAloneSpec).bare.plain = Tryz.f10.params.toList from List.append_nil _] at hwt
    exact hwt) hL hk hS

theorem lowerAlone_said : Rows.LowerAloneUptoSaid :=
  OpenClaim.holds_of_cond 10 Tryz.f10 rfl rfl rfl rfl rfl rfl rfl ⟨rfl, rfl, rfl, rfl, rfl⟩ rfl rfl rfl rfl rfl (by kernel_rfl) Tryz.func10 (by kernel_rfl)
    (of_decide_eq_true (by kernel_rfl)) (by unfold Func.isWrapper; first | (rw [if_pos (by decide +kernel)]; kernel_rfl) | (rw [if_neg (by decide +kernel)]; exact ⟨rfl, rfl⟩))
    (fun os started H enc _ F => by rw [OpenClaim.pre_eq_preRow]; exact lowerAlone_lifted os started H enc F)

theorem lowerAlone_plain (f : FuncId) (fn : Func) (hf : Tryz.pinned.checked.prog.funcNamed "mailsack/mailsacklaw12.LowerAlone" = some f) (hfn : Tryz.pinned.checked.prog.funcs[f]? = some fn) :
    false = Tryz.pinned.checked.prog.looks [] ∧ ∀ (j : Nat) t, fn.params[j]? = some t → Tryz.pinned.checked.prog.wantsStandIn t = false := by
  obtain rfl : f = 10 := Option.some.inj ((show Tryz.prog.funcNamed "mailsack/mailsacklaw12.LowerAlone" = some 10 by kernel_rfl).symm.trans hf) |>.symm
  obtain rfl : fn = Tryz.f10 := (Option.some.inj (Tryz.func10.symm.trans hfn)).symm
  refine ⟨by kernel_rfl, fun j t ht => ?_⟩
  rw [Tryz.params10] at ht
  have h1 : t = 3 ∨ t = 25 := by
    match j, ht with
    | 0, h => simp at h; simp [h]
    | 1, h => simp at h; simp [h]
    | j + 2, h => simp at h
  rcases h1 with rfl | rfl
  · exact (show Tryz.prog.wantsStandIn 3 = false by kernel_rfl)
  · exact (show Tryz.prog.wantsStandIn 25 = false by kernel_rfl)

/-- THE CARD. -/
theorem lowerAlone_card : Rows.LowerAloneUptoCardSaid :=
  Claim7.holds_tied_plain_at .later [] _ _ _ _ lowerAlone_said (fun _ h => by cases h) (by kernel_rfl) (fun _ h => by cases h) lowerAloneUpto_row_tie rfl ⟨rfl, rfl⟩ (by kernel_rfl) rfl lowerAlone_plain (by kernel_rfl)
#print axioms lowerAlone_card
end Go.Proofs.YtmkkljbfmdngfaaGreatDoor
