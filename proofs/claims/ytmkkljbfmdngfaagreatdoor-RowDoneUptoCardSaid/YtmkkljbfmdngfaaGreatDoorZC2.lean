/- The card of RowDone. No condition. -/
import Derived.Test.YtmkkljbfmdngfaaGreatDoorQE
import Derived.Test.YtmkkljbfmdngfaaGreatDoorSC
set_option linter.all false
namespace Go.Proofs.YtmkkljbfmdngfaaGreatDoor
open Go.ChangeShapes Go.WideShapes Go.ChangeAt Go.RowKit
set_option maxRecDepth 100000 in
theorem rowDone_contract (H : Type) (enc : TypeId × Value → H) (W : World) (base : Nat) (args : Array Value) (ds gs : List (DataW H)) (before : List MemPlace)
    (hval : ∀ (j : Nat) t v, Tryz.f12.params[j]? = some t → args[j]? = some v → Value.okWide Tryz.prog W .any base t v)
    (hW : DataW.Whole enc Tryz.prog Tryz.f12.params.toList Rows.rowDoneSpec.vars false W args.toList ds gs before)
    (hwt : (DataW.weightsEach Tryz.prog Tryz.f12.params.toList ds).all (· ≤ reachBytes) = true)
    (hL : laidMetH Tryz.prog lays W) (hk : Rows.uptoSmall H ds = true) (hS : W.ShapedOpen Tryz.prog) :
    Calls Tryz.prog 12 args W fun e W' => ∃ v, e = .returned v ∧ Rows.rowDoneSpec.post enc Tryz.prog Tryz.f12 false true false false W args v W' := by
  refine B.contract_of2 (n := 9) (tb := 4) laidOut rowed full (by kernel_rfl) (by kernel_rfl) Tryz.underlying4 rfl (fun hd => ?_) hval hW (fun a v h => by cases h) (gz W hL hS) hwt fun xs hxs hbk hws => ?_
  · rw [Tryz.params12] at hd
    match ds, hd with
    | [d0, d1, d2, d3, d4], _ => rfl
  · rw [Tryz.params12] at hxs hws
    have hbk := Nat.le_trans hbk (B.bulk_small hk)
    obtain ⟨x0, r, rfl, h0, hxs⟩ := B.tyAll_cons hxs
    obtain ⟨x1, r, rfl, h1, hxs⟩ := B.tyAll_cons hxs
    obtain ⟨x2, r, rfl, h2, hxs⟩ := B.tyAll_cons hxs
    obtain ⟨x3, r, rfl, h3, hxs⟩ := B.tyAll_cons hxs
    obtain ⟨x4, r, rfl, h4, hxs⟩ := B.tyAll_cons hxs
    obtain rfl := B.tyAll_nil hxs
    obtain ⟨b0, rfl⟩ := B.box_of h0
    obtain ⟨m1, rfl⟩ := B.msg_of h1
    obtain ⟨l2, rfl⟩ := B.tyStrs h2
    obtain ⟨n3, rfl, q3⟩ := B.ty_int Tryz.underlying3 h3
    obtain ⟨n4, rfl, q4⟩ := B.ty_int Tryz.underlying3 h4
    have in0 : B.BoxIn b0 := B.boxIn (by have := hbk; simp only [B.bulkL] at this; omega)
    have mi1 : B.szM m1 ≤ 1048576 := B.msgIn (by have := hbk; simp only [B.bulkL] at this; omega)
    have si2 : B.StrIn l2 := B.strsIn (by have := hbk; simp only [B.bulkL] at this; omega)
    exact B.z12 b0 m1 l2 n3 n4 in0 mi1 si2.n si2.sz
abbrev rowDone_wargs : Array Value := #[.agg #[.string .empty, .int .i64 0, .int .i64 0, .int .i64 0, .slice none 0 0, .slice none 0 0], .agg #[.int .i64 0, .int .i64 0, .int .i64 0, .string .empty, .int .i64 0, .slice none 0 0, .string .empty], .slice none 0 0, .int .i64 0, .int .i64 0]
theorem rowDone_reads (os : Os) {H : Type} (enc : TypeId × Value → H) : ∃ places, DataW.whole enc Tryz.prog ((laidWorld os).forCall (fun _ _ => 0) ⟨#[], rowDone_wargs, []⟩).memory Tryz.f12.params.toList Rows.rowDoneSpec.vars false rowDone_wargs.toList 8 = some ([.agg [.lit (.string []), .lit (.int .i64 0), .lit (.int .i64 0), .lit (.int .i64 0), .nil, .nil], .agg [.lit (.int .i64 0), .lit (.int .i64 0), .lit (.int .i64 0), .lit (.string []), .lit (.int .i64 0), .nil, .lit (.string [])], .nil, .lit (.int .i64 0), .lit (.int .i64 0)], [], places) :=
  ⟨[], by kernel_rfl⟩
theorem rowDone_met (os : Os) : laidMet Tryz.prog Rows.rowDoneUptoRow.laid ((laidWorld os).forCall (fun _ _ => 0) ⟨#[], rowDone_wargs, []⟩).memory :=
  laidMet_of_run' 8 (by kernel_rfl) (by kernel_rfl)

set_option maxRecDepth 100000 in
theorem rowDone_lifted (os : Os) (started : os.Started) (H : Type) (enc : TypeId × Value → H) (F : Stop.Interp) :
    ReturnsInHanded {} Tryz.checked os 12 .any ((Rows.OpenSpec.upto Rows.rowDoneSpec).preRow enc Tryz.prog Tryz.f12 Rows.rowDoneUptoRow.domain false Rows.rowDoneUptoRow.laid) (((Rows.OpenSpec.upto Rows.rowDoneSpec).at F).post enc Tryz.prog Tryz.f12 false true false false) := by
  obtain ⟨places, hx⟩ := rowDone_reads os enc
  refine returnsInHanded_of_row (C := Tryz.checked) (s := Rows.OpenSpec.upto Rows.rowDoneSpec) own started (by kernel_rfl) Tryz.func12
    (witness_row_at (enc := enc) (C := Tryz.checked) false (laidWorld os) rowDone_wargs rfl (by kernel_rfl) (by kernel_rfl) (by kernel_rfl)
      (OpenSpec.preRow_of_cond 8 hx (by kernel_rfl) (fun k hk => by cases hk; kernel_rfl) (by kernel_rfl) (rowDone_met os))) ?_
  intro W base args ds gs before hval hW _ hcond hwt hL hS _
  have hk := hcond _ rfl
  have hg : gs = [] := by
    obtain ⟨p, q, _, hV, _⟩ := hW
    exact (trodVars_none hV).1
  subst hg
  rw [List.append_nil] at hwt hk
  exact rowDone_contract H enc W base args ds [] before hval hW (by
    rw [show Tryz.f12.params.toList ++ DataSpec.varTypes Tryz.checked.prog (Rows.OpenSpec.upto Rows.rowDoneSpec).bare.plain = Tryz.f12.params.toList from List.append_nil _] at hwt
    exact hwt) hL hk hS

theorem rowDone_said : Rows.RowDoneUptoSaid :=
  OpenClaim.holds_of_cond 12 Tryz.f12 rfl rfl rfl rfl rfl rfl rfl ⟨rfl, rfl, rfl, rfl, rfl⟩ rfl rfl rfl rfl rfl (by kernel_rfl) Tryz.func12 (by kernel_rfl)
    (of_decide_eq_true (by kernel_rfl)) (by unfold Func.isWrapper; first | (rw [if_pos (by decide +kernel)]; kernel_rfl) | (rw [if_neg (by decide +kernel)]; exact ⟨rfl, rfl⟩))
    (fun os started H enc _ F => by rw [OpenClaim.pre_eq_preRow]; exact rowDone_lifted os started H enc F)

theorem rowDone_plain (f : FuncId) (fn : Func) (hf : Tryz.pinned.checked.prog.funcNamed "mailsack/mailsacklaw7.RowDone" = some f) (hfn : Tryz.pinned.checked.prog.funcs[f]? = some fn) :
    false = Tryz.pinned.checked.prog.looks [] ∧ ∀ (j : Nat) t, fn.params[j]? = some t → Tryz.pinned.checked.prog.wantsStandIn t = false := by
  obtain rfl : f = 12 := Option.some.inj ((show Tryz.prog.funcNamed "mailsack/mailsacklaw7.RowDone" = some 12 by kernel_rfl).symm.trans hf) |>.symm
  obtain rfl : fn = Tryz.f12 := (Option.some.inj (Tryz.func12.symm.trans hfn)).symm
  refine ⟨by kernel_rfl, fun j t ht => ?_⟩
  rw [Tryz.params12] at ht
  have h1 : t = 25 ∨ t = 44 ∨ t = 22 ∨ t = 3 ∨ t = 3 := by
    match j, ht with
    | 0, h => simp at h; simp [h]
    | 1, h => simp at h; simp [h]
    | 2, h => simp at h; simp [h]
    | 3, h => simp at h; simp [h]
    | 4, h => simp at h; simp [h]
    | j + 5, h => simp at h
  rcases h1 with rfl | rfl | rfl | rfl | rfl
  · exact (show Tryz.prog.wantsStandIn 25 = false by kernel_rfl)
  · exact (show Tryz.prog.wantsStandIn 44 = false by kernel_rfl)
  · exact (show Tryz.prog.wantsStandIn 22 = false by kernel_rfl)
  · exact (show Tryz.prog.wantsStandIn 3 = false by kernel_rfl)
  · exact (show Tryz.prog.wantsStandIn 3 = false by kernel_rfl)

/-- THE CARD. -/
theorem rowDone_card : Rows.RowDoneUptoCardSaid :=
  Claim7.holds_tied_plain_at .later [] _ _ _ _ rowDone_said (fun _ h => by cases h) (by kernel_rfl) (fun _ h => by cases h) rowDoneUpto_row_tie rfl ⟨rfl, rfl⟩ (by kernel_rfl) rfl rowDone_plain (by kernel_rfl)
#print axioms rowDone_card
end Go.Proofs.YtmkkljbfmdngfaaGreatDoor
