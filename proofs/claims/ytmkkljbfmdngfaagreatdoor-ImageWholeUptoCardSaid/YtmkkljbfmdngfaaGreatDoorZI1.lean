/- The card of ImageWhole. No condition. -/
import Derived.Test.YtmkkljbfmdngfaaGreatDoorQE
import Derived.Test.YtmkkljbfmdngfaaGreatDoorIC
set_option linter.all false
namespace Go.Proofs.YtmkkljbfmdngfaaGreatDoor
open Go.ChangeShapes Go.WideShapes Go.ChangeAt Go.RowKit
set_option maxRecDepth 100000 in
theorem imageWhole_contract (H:Type) (enc:TypeId×Value→H) (W:World) (base:Nat) (args:Array Value) (ds gs:List (DataW H)) (before:List MemPlace)
  (hval: ∀(j:Nat) t v,Tryz.f3.params[j]? =some t→args[j]? =some v→Value.okWide Tryz.prog W .any base t v)
  (hW:DataW.Whole enc Tryz.prog Tryz.f3.params.toList Rows.imageWholeSpec.vars false W args.toList ds gs before)
  (hwt:(DataW.weightsEach Tryz.prog Tryz.f3.params.toList ds).all (· ≤reachBytes) =true)
  (hL:laidMetH Tryz.prog lays W) (hk:Rows.uptoSmall H ds=true) (hS:W.ShapedOpen Tryz.prog) :
  Calls Tryz.prog 3 args W fun e W'=>∃v,e= .returned v∧Rows.imageWholeSpec.post enc Tryz.prog Tryz.f3 false true false false W args v W':=by
 refine B.contract_of2 (n:=9) (tb:=4) laidOut rowed full (by kernel_rfl) (by kernel_rfl) Tryz.underlying4 rfl (fun hd=> ?_) hval hW (fun a v h=>by cases h) (gz W hL hS) hwt fun xs hxs hbk hws=> ?_
 ·rw [Tryz.params3] at hd
  match ds,hd with
  | [d0,d1],_=>rfl
 ·rw [Tryz.params3] at hxs hws
  have hbk:=Nat.le_trans hbk (B.bulk_small hk)
  obtain ⟨x0,r,rfl,h0,hxs⟩:=B.tyAll_cons hxs
  obtain ⟨x1,r,rfl,h1,hxs⟩:=B.tyAll_cons hxs
  obtain rfl:=B.tyAll_nil hxs
  obtain ⟨n0,rfl,q0⟩:=B.ty_int Tryz.underlying3 h0
  obtain ⟨b1,rfl⟩:=B.box_of h1
  have in1:B.BoxIn b1:=B.boxIn (by have:=hbk;simp only [B.bulkL] at this;omega)
  exact B.z3 n0 b1 in1
abbrev imageWhole_wargs:Array Value:= #[.int .i64 0, .agg #[.string .empty, .int .i64 0, .int .i64 0, .int .i64 0, .slice none 0 0, .slice none 0 0]]
theorem imageWhole_reads (os:Os) {H:Type} (enc:TypeId×Value→H) : ∃places,DataW.whole enc Tryz.prog ((laidWorld os).forCall (fun _ _=>0) ⟨#[],imageWhole_wargs,[]⟩).memory Tryz.f3.params.toList Rows.imageWholeSpec.vars false imageWhole_wargs.toList 8=some ([.lit (.int .i64 0), .agg [.lit (.string []), .lit (.int .i64 0), .lit (.int .i64 0), .lit (.int .i64 0), .nil, .nil]],[],places):=
 ⟨[],by kernel_rfl⟩
theorem imageWhole_met (os:Os) :laidMet Tryz.prog Rows.imageWholeUptoRow.laid ((laidWorld os).forCall (fun _ _=>0) ⟨#[],imageWhole_wargs,[]⟩).memory:=
 laidMet_of_run' 8 (by kernel_rfl) (by kernel_rfl)
set_option maxRecDepth 100000 in
theorem imageWhole_lifted (os:Os) (started:os.Started) (H:Type) (enc:TypeId×Value→H) (F:Stop.Interp) :
  ReturnsInHanded {} Tryz.checked os 3 .any ((Rows.OpenSpec.upto Rows.imageWholeSpec).preRow enc Tryz.prog Tryz.f3 Rows.imageWholeUptoRow.domain false Rows.imageWholeUptoRow.laid) (((Rows.OpenSpec.upto Rows.imageWholeSpec).at F).post enc Tryz.prog Tryz.f3 false true false false):=by
 obtain ⟨places,hx⟩:=imageWhole_reads os enc
 refine returnsInHanded_of_row (C:=Tryz.checked) (s:=Rows.OpenSpec.upto Rows.imageWholeSpec) own started (by kernel_rfl) Tryz.func3
  (witness_row_at (enc:=enc) (C:=Tryz.checked) false (laidWorld os) imageWhole_wargs rfl (by kernel_rfl) (by kernel_rfl) (by kernel_rfl)
   (OpenSpec.preRow_of_cond 8 hx (by kernel_rfl) (fun k hk=>by cases hk;kernel_rfl) (by kernel_rfl) (imageWhole_met os))) ?_
 intro W base args ds gs before hval hW _ hcond hwt hL hS _
 have hk:=hcond _ rfl
 have hg:gs= []:=by
  obtain ⟨p,q,_,hV,_⟩:=hW
  exact (trodVars_none hV).1
 subst hg
 rw [List.append_nil] at hwt hk
 exact imageWhole_contract H enc W base args ds [] before hval hW (by
  rw [show Tryz.f3.params.toList++DataSpec.varTypes Tryz.checked.prog (Rows.OpenSpec.upto Rows.imageWholeSpec).bare.plain=Tryz.f3.params.toList from List.append_nil _] at hwt
  exact hwt) hL hk hS
theorem imageWhole_said:Rows.ImageWholeUptoSaid:=
 OpenClaim.holds_of_cond 3 Tryz.f3 rfl rfl rfl rfl rfl rfl rfl ⟨rfl,rfl,rfl,rfl,rfl⟩ rfl rfl rfl rfl rfl (by kernel_rfl) Tryz.func3 (by kernel_rfl)
  (of_decide_eq_true (by kernel_rfl)) (by unfold Func.isWrapper;first | (rw [if_pos (by decide+kernel)];kernel_rfl) | (rw [if_neg (by decide+kernel)];exact ⟨rfl,rfl⟩))
  (fun os started H enc _ F=>by rw [OpenClaim.pre_eq_preRow];exact imageWhole_lifted os started H enc F)
theorem imageWhole_plain (f:FuncId) (fn:Func) (hf:Tryz.pinned.checked.prog.funcNamed "mailsack/mailsacklaw11.ImageWhole"=some f) (hfn:Tryz.pinned.checked.prog.funcs[f]? =some fn) :
  false=Tryz.pinned.checked.prog.looks []∧∀(j:Nat) t,fn.params[j]? =some t→Tryz.pinned.checked.prog.wantsStandIn t=false:=by
 obtain rfl:f=3:=Option.some.inj ((show Tryz.prog.funcNamed "mailsack/mailsacklaw11.ImageWhole"=some 3 by kernel_rfl).symm.trans hf) |>.symm
 obtain rfl:fn=Tryz.f3:=(Option.some.inj (Tryz.func3.symm.trans hfn)).symm
 refine ⟨by kernel_rfl,fun j t ht=> ?_⟩
 rw [Tryz.params3] at ht
 have h1:t=3∨t=25:=by
  match j,ht with
  | 0,h=>simp at h;simp [h]
  | 1,h=>simp at h;simp [h]
  | j+2,h=>simp at h
 rcases h1 with rfl | rfl
 ·exact (show Tryz.prog.wantsStandIn 3=false by kernel_rfl)
 ·exact (show Tryz.prog.wantsStandIn 25=false by kernel_rfl)
theorem imageWhole_card:Rows.ImageWholeUptoCardSaid:=
 Claim7.holds_tied_plain_at .later [] _ _ _ _ imageWhole_said (fun _ h=>by cases h) (by kernel_rfl) (fun _ h=>by cases h) imageWholeUpto_row_tie rfl ⟨rfl,rfl⟩ (by kernel_rfl) rfl imageWhole_plain (by kernel_rfl)
#print axioms imageWhole_card
end Go.Proofs.YtmkkljbfmdngfaaGreatDoor
