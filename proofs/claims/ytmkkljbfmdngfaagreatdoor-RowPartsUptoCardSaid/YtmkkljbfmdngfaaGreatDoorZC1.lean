/- The card of RowParts. No condition. -/
import Derived.Test.YtmkkljbfmdngfaaGreatDoorQE
import Derived.Test.YtmkkljbfmdngfaaGreatDoorSB
set_option linter.all false
namespace Go.Proofs.YtmkkljbfmdngfaaGreatDoor
open Go.ChangeShapes Go.WideShapes Go.ChangeAt Go.RowKit
set_option maxRecDepth 100000 in
theorem rowParts_contract (H : Type) (enc : TypeId × Value → H) (W : World) (base : Nat) (args : Array Value) (ds gs : List (DataW H)) (before : List MemPlace)
    (hval : ∀ (j : Nat) t v, Tryz.f11.params[j]? = some t → args[j]? = some v → Value.okWide Tryz.prog W .any base t v)
    (hW : DataW.Whole enc Tryz.prog Tryz.f11.params.toList Rows.rowPartsSpec.vars false W args.toList ds gs before)
    (hwt : (DataW.weightsEach Tryz.prog Tryz.f11.params.toList ds).all (· ≤ reachBytes) = true)
    (hL : laidMetH Tryz.prog lays W) (hk : Rows.uptoSmall H ds = true) (hS : W.ShapedOpen Tryz.prog) :
    Calls Tryz.prog 11 args W fun e W' => ∃ v, e = .returned v ∧ Rows.rowPartsSpec.post enc Tryz.prog Tryz.f11 false true false false W args v W' := by
  refine B.contract_of2 (n := 9) (tb := 4) laidOut rowed full (by kernel_rfl) (by kernel_rfl) Tryz.underlying4 rfl (fun hd => ?_) hval hW (fun a v h => by cases h) (gz W hL hS) hwt fun xs hxs hbk hws => ?_
  · rw [Tryz.params11] at hd
    match ds, hd with
    | [d0, d1, d2], _ => rfl
  · rw [Tryz.params11] at hxs hws
    have hbk := Nat.le_trans hbk (B.bulk_small hk)
    obtain ⟨x0, r, rfl, h0, hxs⟩ := B.tyAll_cons hxs
    obtain ⟨x1, r, rfl, h1, hxs⟩ := B.tyAll_cons hxs
    obtain ⟨x2, r, rfl, h2, hxs⟩ := B.tyAll_cons hxs
    obtain rfl := B.tyAll_nil hxs
    obtain ⟨b0, rfl⟩ := B.box_of h0
    obtain ⟨l1, rfl⟩ := B.tyRows h1
    obtain ⟨n2, rfl, q2⟩ := B.ty_int Tryz.underlying3 h2
    have in0 : B.BoxIn b0 := B.boxIn (by have := hbk; simp only [B.bulkL] at this; omega)
    have ri1 : B.RowIn l1 := B.rowIn (by have := hbk; simp only [B.bulkL] at this; omega)
    exact B.z11 b0 l1 n2 in0 ri1
abbrev rowParts_wargs : Array Value := #[.agg #[.string .empty, .int .i64 0, .int .i64 0, .int .i64 0, .slice none 0 0, .slice none 0 0], .slice none 0 0, .int .i64 0]
theorem rowParts_reads (os : Os) {H : Type} (enc : TypeId × Value → H) : ∃ places, DataW.whole enc Tryz.prog ((laidWorld os).forCall (fun _ _ => 0) ⟨#[], rowParts_wargs, []⟩).memory Tryz.f11.params.toList Rows.rowPartsSpec.vars false rowParts_wargs.toList 8 = some ([.agg [.lit (.string []), .lit (.int .i64 0), .lit (.int .i64 0), .lit (.int .i64 0), .nil, .nil], .nil, .lit (.int .i64 0)], [], places) :=
  ⟨[], by kernel_rfl⟩
theorem rowParts_met (os : Os) : laidMet Tryz.prog Rows.rowPartsUptoRow.laid ((laidWorld os).forCall (fun _ _ => 0) ⟨#[], rowParts_wargs, []⟩).memory :=
  laidMet_of_run' 8 (by kernel_rfl) (by kernel_rfl)

set_option maxRecDepth 100000 in
theorem rowParts_lifted (os : Os) (started : os.Started) (H : Type) (enc : TypeId × Value → H) (F : Stop.Interp) :
    ReturnsInHanded {} Tryz.checked os 11 .any ((Rows.OpenSpec.upto Rows.rowPartsSpec).preRow enc Tryz.prog Tryz.f11 Rows.rowPartsUptoRow.domain false Rows.rowPartsUptoRow.laid) (((Rows.OpenSpec.upto Rows.rowPartsSpec).at F).post enc Tryz.prog Tryz.f11 false true false false) := by
  obtain ⟨places, hx⟩ := rowParts_reads os enc
  refine returnsInHanded_of_row (C := Tryz.checked) (s := Rows.OpenSpec.upto Rows.rowPartsSpec) own started (by kernel_rfl) Tryz.func11
    (witness_row_at (enc := enc) (C := Tryz.checked) false (laidWorld os) rowParts_wargs rfl (by kernel_rfl) (by kernel_rfl) (by kernel_rfl)
      (OpenSpec.preRow_of_cond 8 hx (by kernel_rfl) (fun k hk => by cases hk; kernel_rfl) (by kernel_rfl) (rowParts_met os))) ?_
  intro W base args ds gs before hval hW _ hcond hwt hL hS _
  have hk := hcond _ rfl
  have hg : gs = [] := by
    obtain ⟨p, q, _, hV, _⟩ := hW
    exact (trodVars_none hV).1
  subst hg
  rw [List.append_nil] at hwt hk
  exact rowParts_contract H enc W base args ds [] before hval hW (by
    rw [show Tryz.f11.params.toList ++ DataSpec.varTypes Tryz.checked.prog (Rows.OpenSpec.upto Rows.rowPartsSpec).bare.plain = Tryz.f11.params.toList from List.append_nil _] at hwt
    exact hwt) hL hk hS

theorem rowParts_said : Rows.RowPartsUptoSaid :=
  OpenClaim.holds_of_cond 11 Tryz.f11 rfl rfl rfl rfl rfl rfl rfl ⟨rfl, rfl, rfl, rfl, rfl⟩ rfl rfl rfl rfl rfl (by kernel_rfl) Tryz.func11 (by kernel_rfl)
    (of_decide_eq_true (by kernel_rfl)) (by unfold Func.isWrapper; first | (rw [if_pos (by decide +kernel)]; kernel_rfl) | (rw [if_neg (by decide +kernel)]; exact ⟨rfl, rfl⟩))
    (fun os started H enc _ F => by rw [OpenClaim.pre_eq_preRow]; exact rowParts_lifted os started H enc F)

theorem rowParts_plain (f : FuncId) (fn : Func) (hf : Tryz.pinned.checked.prog.funcNamed "mailsack/mailsacklaw7.RowParts" = some f) (hfn : Tryz.pinned.checked.prog.funcs[f]? = some fn) :
    false = Tryz.pinned.checked.prog.looks [] ∧ ∀ (j : Nat) t, fn.params[j]? = some t → Tryz.pinned.checked.prog.wantsStandIn t = false := by
  obtain rfl : f = 11 := Option.some.inj ((show Tryz.prog.funcNamed "mailsack/mailsacklaw7.RowParts" = some 11 by kernel_rfl).symm.trans hf) |>.symm
  obtain rfl : fn = Tryz.f11 := (Option.some.inj (Tryz.func11.symm.trans hfn)).symm
  refine ⟨by kernel_rfl, fun j t ht => ?_⟩
  rw [Tryz.params11] at ht
  have h1 : t = 25 ∨ t = 32 ∨ t = 3 := by
    match j, ht with
    | 0, h => simp at h; simp [h]
    | 1, h => simp at h; simp [h]
    | 2, h => simp at h; simp [h]
    | j + 3, h => simp at h
  rcases h1 with rfl | rfl | rfl
  · exact (show Tryz.prog.wantsStandIn 25 = false by kernel_rfl)
  · exact (show Tryz.prog.wantsStandIn 32 = false by kernel_rfl)
  · exact (show Tryz.prog.wantsStandIn 3 = false by kernel_rfl)

/-- THE CARD. -/
theorem rowParts_card : Rows.RowPartsUptoCardSaid :=
  Claim7.holds_tied_plain_at .later [] _ _ _ _ rowParts_said (fun _ h => by cases h) (by kernel_rfl) (fun _ h => by cases h) rowPartsUpto_row_tie rfl ⟨rfl, rfl⟩ (by kernel_rfl) rfl rowParts_plain (by kernel_rfl)
#print axioms rowParts_card
end Go.Proofs.YtmkkljbfmdngfaaGreatDoor
