/- The card of RowMakes. No condition. -/
import Derived.Test.YtmkkljbfmdngfaaDoorQE
import Derived.Test.YtmkkljbfmdngfaaDoorQH
set_option linter.all false
namespace Go.Proofs.YtmkkljbfmdngfaaDoor
open Go.ChangeShapes Go.WideShapes Go.ChangeAt Go.RowKit
set_option maxRecDepth 100000 in
theorem rowMakes_contract (H : Type) (enc : TypeId × Value → H) (W : World) (base : Nat) (args : Array Value) (ds gs : List (DataW H)) (before : List MemPlace)
    (hval : ∀ (j : Nat) t v, Tryd.f14.params[j]? = some t → args[j]? = some v → Value.okWide Tryd.prog W .any base t v)
    (hW : DataW.Whole enc Tryd.prog Tryd.f14.params.toList Rows.rowMakesSpec.vars false W args.toList ds gs before)
    (hwt : (DataW.weightsEach Tryd.prog Tryd.f14.params.toList ds).all (· ≤ reachBytes) = true)
    (hL : laidMetH Tryd.prog lays W) (hk : Rows.uptoSmall H ds = true) (hS : W.ShapedOpen Tryd.prog) :
    Calls Tryd.prog 14 args W fun e W' => ∃ v, e = .returned v ∧ Rows.rowMakesSpec.post enc Tryd.prog Tryd.f14 false true false false W args v W' := by
  refine B.contract_of2 (n := 9) (tb := 4) laidOut rowed full (by kernel_rfl) (by kernel_rfl) Tryd.underlying4 rfl (fun hd => ?_) hval hW (fun a v h => by cases h) (gz W hL hS) hwt fun xs hxs hbk hws => ?_
  · rw [Tryd.params14] at hd
    match ds, hd with
    | [d0, d1, d2, d3, d4, d5], _ => rfl
  · rw [Tryd.params14] at hxs hws
    have hbk := Nat.le_trans hbk (B.bulk_small hk)
    obtain ⟨x0, r, rfl, h0, hxs⟩ := B.tyAll_cons hxs
    obtain ⟨x1, r, rfl, h1, hxs⟩ := B.tyAll_cons hxs
    obtain ⟨x2, r, rfl, h2, hxs⟩ := B.tyAll_cons hxs
    obtain ⟨x3, r, rfl, h3, hxs⟩ := B.tyAll_cons hxs
    obtain ⟨x4, r, rfl, h4, hxs⟩ := B.tyAll_cons hxs
    obtain ⟨x5, r, rfl, h5, hxs⟩ := B.tyAll_cons hxs
    obtain rfl := B.tyAll_nil hxs
    obtain ⟨b0, rfl⟩ := B.box_of h0
    obtain ⟨m1, rfl⟩ := B.msg_of h1
    obtain ⟨l2, rfl⟩ := B.tyStrs h2
    obtain ⟨n3, rfl, q3⟩ := B.ty_int Tryd.underlying3 h3
    obtain ⟨n4, rfl, q4⟩ := B.ty_int Tryd.underlying3 h4
    obtain ⟨l5, rfl⟩ := B.tyInts h5
    have in0 : B.BoxIn b0 := B.boxIn (by have := hbk; simp only [B.bulkL] at this; omega)
    have mi1 : B.szM m1 ≤ 1048576 := B.msgIn (by have := hbk; simp only [B.bulkL] at this; omega)
    have si2 : B.StrIn l2 := B.strsIn (by have := hbk; simp only [B.bulkL] at this; omega)
    have ki5 : l5.length ≤ 1048576 := B.intsIn (by have := hbk; simp only [B.bulkL] at this; omega)
    exact B.r14 b0 m1 l2 n3 n4 l5 in0 mi1 si2.n si2.sz
abbrev rowMakes_wargs : Array Value := #[.agg #[.string .empty, .int .i64 0, .int .i64 0, .int .i64 0, .slice none 0 0, .slice none 0 0], .agg #[.int .i64 0, .int .i64 0, .int .i64 0, .string .empty, .int .i64 0, .slice none 0 0, .string .empty], .slice none 0 0, .int .i64 0, .int .i64 0, .slice none 0 0]
theorem rowMakes_reads (os : Os) {H : Type} (enc : TypeId × Value → H) : ∃ places, DataW.whole enc Tryd.prog ((laidWorld os).forCall (fun _ _ => 0) ⟨#[], rowMakes_wargs, []⟩).memory Tryd.f14.params.toList Rows.rowMakesSpec.vars false rowMakes_wargs.toList 8 = some ([.agg [.lit (.string []), .lit (.int .i64 0), .lit (.int .i64 0), .lit (.int .i64 0), .nil, .nil], .agg [.lit (.int .i64 0), .lit (.int .i64 0), .lit (.int .i64 0), .lit (.string []), .lit (.int .i64 0), .nil, .lit (.string [])], .nil, .lit (.int .i64 0), .lit (.int .i64 0), .nil], [], places) :=
  ⟨[], by kernel_rfl⟩
theorem rowMakes_met (os : Os) : laidMet Tryd.prog Rows.rowMakesUptoRow.laid ((laidWorld os).forCall (fun _ _ => 0) ⟨#[], rowMakes_wargs, []⟩).memory :=
  laidMet_of_run' 8 (by kernel_rfl) (by kernel_rfl)

set_option maxRecDepth 100000 in
theorem rowMakes_lifted (os : Os) (started : os.Started) (H : Type) (enc : TypeId × Value → H) (F : Stop.Interp) :
    ReturnsInHanded {} Tryd.checked os 14 .any ((Rows.OpenSpec.upto Rows.rowMakesSpec).preRow enc Tryd.prog Tryd.f14 Rows.rowMakesUptoRow.domain false Rows.rowMakesUptoRow.laid) (((Rows.OpenSpec.upto Rows.rowMakesSpec).at F).post enc Tryd.prog Tryd.f14 false true false false) := by
  obtain ⟨places, hx⟩ := rowMakes_reads os enc
  refine returnsInHanded_of_row (C := Tryd.checked) (s := Rows.OpenSpec.upto Rows.rowMakesSpec) own started (by kernel_rfl) Tryd.func14
    (witness_row_at (enc := enc) (C := Tryd.checked) false (laidWorld os) rowMakes_wargs rfl (by kernel_rfl) (by kernel_rfl) (by kernel_rfl)
      (OpenSpec.preRow_of_cond 8 hx (by kernel_rfl) (fun k hk => by cases hk; kernel_rfl) (by kernel_rfl) (rowMakes_met os))) ?_
  intro W base args ds gs before hval hW _ hcond hwt hL hS _
  have hk := hcond _ rfl
  have hg : gs = [] := by
    obtain ⟨p, q, _, hV, _⟩ := hW
    exact (trodVars_none hV).1
  subst hg
  rw [List.append_nil] at hwt hk
  exact rowMakes_contract H enc W base args ds [] before hval hW (by
    rw [show Tryd.f14.params.toList ++ DataSpec.varTypes Tryd.checked.prog (Rows.OpenSpec.upto Rows.rowMakesSpec).bare.plain = Tryd.f14.params.toList from List.append_nil _] at hwt
    exact hwt) hL hk hS

theorem rowMakes_said : Rows.RowMakesUptoSaid :=
  OpenClaim.holds_of_cond 14 Tryd.f14 rfl rfl rfl rfl rfl rfl rfl ⟨rfl, rfl, rfl, rfl, rfl⟩ rfl rfl rfl rfl rfl (by kernel_rfl) Tryd.func14 (by kernel_rfl)
    (of_decide_eq_true (by kernel_rfl)) (by unfold Func.isWrapper; first | (rw [if_pos (by decide +kernel)]; kernel_rfl) | (rw [if_neg (by decide +kernel)]; exact ⟨rfl, rfl⟩))
    (fun os started H enc _ F => by rw [OpenClaim.pre_eq_preRow]; exact rowMakes_lifted os started H enc F)

theorem rowMakes_plain (f : FuncId) (fn : Func) (hf : Tryd.pinned.checked.prog.funcNamed "mailsack/mailsacklaw7.RowMakes" = some f) (hfn : Tryd.pinned.checked.prog.funcs[f]? = some fn) :
    false = Tryd.pinned.checked.prog.looks [] ∧ ∀ (j : Nat) t, fn.params[j]? = some t → Tryd.pinned.checked.prog.wantsStandIn t = false := by
  obtain rfl : f = 14 := Option.some.inj ((show Tryd.prog.funcNamed "mailsack/mailsacklaw7.RowMakes" = some 14 by kernel_rfl).symm.trans hf) |>.symm
  obtain rfl : fn = Tryd.f14 := (Option.some.inj (Tryd.func14.symm.trans hfn)).symm
  refine ⟨by kernel_rfl, fun j t ht => ?_⟩
  rw [Tryd.params14] at ht
  have h1 : t = 25 ∨ t = 42 ∨ t = 22 ∨ t = 3 ∨ t = 3 ∨ t = 40 := by
    match j, ht with
    | 0, h => simp at h; simp [h]
    | 1, h => simp at h; simp [h]
    | 2, h => simp at h; simp [h]
    | 3, h => simp at h; simp [h]
    | 4, h => simp at h; simp [h]
    | 5, h => simp at h; simp [h]
    | j + 6, h => simp at h
  rcases h1 with rfl | rfl | rfl | rfl | rfl | rfl
  · exact (show Tryd.prog.wantsStandIn 25 = false by kernel_rfl)
  · exact (show Tryd.prog.wantsStandIn 42 = false by kernel_rfl)
  · exact (show Tryd.prog.wantsStandIn 22 = false by kernel_rfl)
  · exact (show Tryd.prog.wantsStandIn 3 = false by kernel_rfl)
  · exact (show Tryd.prog.wantsStandIn 3 = false by kernel_rfl)
  · exact (show Tryd.prog.wantsStandIn 40 = false by kernel_rfl)

/-- THE CARD. -/
theorem rowMakes_card : Rows.RowMakesUptoCardSaid :=
  Claim7.holds_tied_plain_at .later [] _ _ _ _ rowMakes_said (fun _ h => by cases h) (by kernel_rfl) (fun _ h => by cases h) rowMakesUpto_row_tie rfl ⟨rfl, rfl⟩ (by kernel_rfl) rfl rowMakes_plain (by kernel_rfl)
#print axioms rowMakes_card
end Go.Proofs.YtmkkljbfmdngfaaDoor
