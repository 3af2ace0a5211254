/- The card of ImageWhole. No condition. -/
import Derived.Test.YtmkkljbfmdngfaaGreatDoorQE
import Derived.Test.YtmkkljbfmdngfaaGreatDoorIC
set_option linter.all false
namespace Go.Proofs.YtmkkljbfmdngfaaGreatDoor
open Go.ChangeShapes Go.WideShapes Go.ChangeAt Go.RowKit
set_option maxRecDepth 100000 in
theorem imageWhole_contract (H:Type) (enc:TypeId×Value→H) (W:World) (base:Nat) (args:Array Value) (ds gs:List (DataW H)) (before:List MemPlace)
  (hval: ∀(j:Nat) t v,Tryz.f3.params[j]? =some t→args[j]? =some v→Value.okWide Tryz.prog W .any base t v)
  (hW:DataW.Whole enc Tryz.prog Tryz.f3.params.toList Rows.imageWholeSpec.vars false W args.toList ds gs before)
  (hwt:(DataW.weightsEach Tryz.prog Tryz.f3.params.toList ds).all (· ≤reachBytes) =true)
  (hL:laidMetH Tryz.prog lays W) (hk:Rows.uptoSmall H ds=true) (hS:W.ShapedOpen Tryz.prog) :
  Calls Tryz.prog 3 args W fun e W'=>∃v,e= .returned v∧Rows.imageWholeSpec.post enc Tryz.prog Tryz.f3 false true false false W args v W':=by
 refine B.contract_of2 (n:=9) (tb:=4) laidOut rowed full (by kernel_rfl) (by kernel_rfl) Tryz.underlying4 rfl (fun hd=> ?_) hval hW (fun a v h=>by cases h) (gz W hL hS) hwt fun xs hxs hbk hws=> ?_
 ·rw [Tryz.params3] at hd
  match ds,hd with
  | [d0,d1],_=>rfl
 ·rw [Tryz.params3] at hxs hws
  have hbk:=Nat.le_trans hbk (B.bulk_small hk)
  obtain ⟨x0,r,rfl,h0,hxs⟩:=B.tyAll_cons hxs
  obtain ⟨x1,r,rfl,h1,hxs⟩:=B.tyAll_cons hxs
  obtain rfl:=B.tyAll_nil hxs
  obtain ⟨n0,rfl,q0⟩:=B.ty_int Tryz.underlying3 h0
  obtain ⟨b1,rfl⟩:=B.box_of h1
  have in1:B.BoxIn b1:=B.boxIn (by have:=hbk;simp only [B.bulkL] at this;omega)
  exact B.z3 n0 b1 in1
abbrev imageWhole_wargs:Array Value:= #[.int .i64 0, .agg #[.string .empty, .int .i64 0, .int .i64 0, .int .i64 0, .slice none 0 0, .slice none 0 0]]
theorem imageWhole_reads (os:Os) {H:Type} (enc:TypeId×Value→H) : ∃places,DataW.whole enc Tryz.prog ((laidWorld os).forCall (fun _ _=>0) ⟨#[],imageWhole_wargs,[]⟩).memory Tryz.f3.params.toList Rows.imageWholeSpec.vars false imageWhole_wargs.toList 8=some ([.lit (.int .i64 0), .agg [.lit (.string []), .lit (.int .i64 0), .lit (.int .i64 0), .lit (.int .i64 0), .nil, .nil]],[],places):=
 ⟨[],by kernel_rfl⟩
theorem imageWhole_met (os:Os) :laidMet Tryz.prog Rows.imageWholeUptoRow.laid ((laidWorld os).forCall (fun _ _=>0) ⟨#[],imageWhole_wargs,[]⟩).memory:=
 laidMet_of_run' 8 (by kernel_rfl) (by kernel_rfl)
set_option maxRecDepth 100000 in
theorem imageWhole_lifted (os:Os) (started:os.Started) (H:Type) (enc:TypeId×Value→H) (F:Stop.Interp) :
  ReturnsInHanded {} Tryz.checked os 3 .any ((Rows.OpenSpec.upto Rows.imageWholeSpec).preRow enc Tryz.prog Tryz.f3 Rows.imageWholeUptoRow.domain false Rows.imageWholeUptoRow.laid) (((Rows.OpenSpec.upto Rows.imageWholeSpec).at F).post enc Tryz.prog Tryz.f3 false true false false):=by
 obtain ⟨places,hx⟩:=imageWhole_reads os enc
 refine returnsInHanded_of_row (C:=Tryz.checked) (s:=Rows.OpenSpec.upto Rows.imageWholeSpec) own started (by kernel_rfl) Tryz.func3
  (witness_row_at (enc:=enc) (C:=Tryz.checked) false (laidWorld os) imageWhole_wargs rfl (by kernel_rfl) (by kernel_rfl) (by kernel_rfl)
   (OpenSpec.preRow_of_cond 8 hx (by kernel_rfl) (fun k hk=>by cases hk;kernel_rfl) (by kernel_rfl) (imageWhole_met os))) ?_
 intro W base args ds gs before hval hW _ hcond hwt hL hS _
 have hk:=hcond _ rfl
 have hg:gs= []:=by
  obtain ⟨p,q,_,hV,_⟩:=hW
  exact (trodVars_none hV).1
 subst hg
 rw [List.append_nil] at hwt hk
 exact imageWhole_contract H enc W base args ds [] before hval hW (by
  rw [show Tryz.f3.params.toList++DataSpec.varTypes Tryz.checked.prog (Rows.OpenSpec.upto Rows.imageWholeSpec).bare.plain=Tryz.f3.params.toList from List.append_nil _] at hwt
  exact hwt) hL hk hS
theorem imageWhole_said:Rows.ImageWholeUptoSaid:=
 OpenClaim.holds_of_cond 3 Tryz.f3 rfl rfl rfl rfl rfl rfl rfl ⟨rfl,rfl,rfl,rfl,rfl⟩ rfl rfl rfl rfl rfl (by kernel_rfl) Tryz.func3 (by kernel_rfl)
  (of_decide_eq_true (by kernel_rfl)) (by unfold Func.isWrapper;first | (rw [if_pos (by decide+kernel)];kernel_rfl) | (rw [if_neg (by decide+kernel)];exact ⟨rfl,rfl⟩))
  (fun os started H enc _ F=>by rw [OpenClaim.pre_eq_preRow];exact imageWhole_lifted os started H enc F)
theorem imageWhole_plain (f:FuncId) (fn:Func) (hf:Tryz.pinned.checked.prog.funcNamed "mailsack/mailsacklaw11.ImageWhole"=some f) (hfn:Tryz.pinned.checked.prog.funcs[f]? =some fn) :
  false=Tryz.pinned.checked.prog.looks []∧∀(j:Nat) t,fn.params[j]? =some t→Tryz.pinned.checked.prog.wantsStandIn t=false:=by
 obtain rfl:f=3:=Option.some.inj ((show Tryz.prog.funcNamed "mailsack/mailsacklaw11.ImageWhole"=some 3 by kernel_rfl).symm.trans hf) |>.symm
 obtain rfl:fn=Tryz.f3:=(Option.some.inj (Tryz.func3.symm.trans hfn)).symm
 refine ⟨by kernel_rfl,fun j t ht=> ?_⟩
 rw [Tryz.params3] at ht
 have h1:t=3∨t=25:=by
  match j,ht with
  | 0,h=>simp at h;simp [h]
  | 1,h=>simp at h;simp [h]
  | j+2,h=>simp at h
 rcases h1 with rfl | rfl
 ·exact (show Tryz.prog.wantsStandIn 3=false by kernel_rfl)
 ·exact (show Tryz.prog.wantsStandIn 25=false by kernel_rfl)
theorem imageWhole_card:Rows.ImageWholeUptoCardSaid:=
 Claim7.holds_tied_plain_at .later [] _ _ _ _ imageWhole_said (fun _ h=>by cases h) (by kernel_rfl) (fun _ h=>by cases h) imageWholeUpto_row_tie rfl ⟨rfl,rfl⟩ (by kernel_rfl) rfl imageWhole_plain (by kernel_rfl)
#print axioms imageWhole_card
end Go.Proofs.YtmkkljbfmdngfaaGreatDoor
namespace Go.Proofs.YtmkkljbfmdngfaaGreatDoor
open Go.ChangeShapes Go.WideShapes Go.ChangeAt Go.RowKit
set_option maxRecDepth 100000 in
theorem imageOther_contract (H:Type) (enc:TypeId×Value→H) (W:World) (base:Nat) (args:Array Value) (ds gs:List (DataW H)) (before:List MemPlace)
  (hval: ∀(j:Nat) t v,Tryz.f4.params[j]? =some t→args[j]? =some v→Value.okWide Tryz.prog W .any base t v)
  (hW:DataW.Whole enc Tryz.prog Tryz.f4.params.toList Rows.imageOtherSpec.vars false W args.toList ds gs before)
  (hwt:(DataW.weightsEach Tryz.prog Tryz.f4.params.toList ds).all (· ≤reachBytes) =true)
  (hL:laidMetH Tryz.prog lays W) (hk:Rows.uptoSmall H ds=true) (hS:W.ShapedOpen Tryz.prog) :
  Calls Tryz.prog 4 args W fun e W'=>∃v,e= .returned v∧Rows.imageOtherSpec.post enc Tryz.prog Tryz.f4 false true false false W args v W':=by
 refine B.contract_of2 (n:=9) (tb:=4) laidOut rowed full (by kernel_rfl) (by kernel_rfl) Tryz.underlying4 rfl (fun hd=> ?_) hval hW (fun a v h=>by cases h) (gz W hL hS) hwt fun xs hxs hbk hws=> ?_
 ·rw [Tryz.params4] at hd
  match ds,hd with
  | [d0,d1,d2],_=>rfl
 ·rw [Tryz.params4] at hxs hws
  have hbk:=Nat.le_trans hbk (B.bulk_small hk)
  obtain ⟨x0,r,rfl,h0,hxs⟩:=B.tyAll_cons hxs
  obtain ⟨x1,r,rfl,h1,hxs⟩:=B.tyAll_cons hxs
  obtain ⟨x2,r,rfl,h2,hxs⟩:=B.tyAll_cons hxs
  obtain rfl:=B.tyAll_nil hxs
  obtain ⟨n0,rfl,q0⟩:=B.ty_int Tryz.underlying3 h0
  obtain ⟨n1,rfl,q1⟩:=B.ty_int Tryz.underlying3 h1
  obtain ⟨b2,rfl⟩:=B.box_of h2
  have in2:B.BoxIn b2:=B.boxIn (by have:=hbk;simp only [B.bulkL] at this;omega)
  exact B.z4 n0 n1 b2 in2
abbrev imageOther_wargs:Array Value:= #[.int .i64 0, .int .i64 0, .agg #[.string .empty, .int .i64 0, .int .i64 0, .int .i64 0, .slice none 0 0, .slice none 0 0]]
theorem imageOther_reads (os:Os) {H:Type} (enc:TypeId×Value→H) : ∃places,DataW.whole enc Tryz.prog ((laidWorld os).forCall (fun _ _=>0) ⟨#[],imageOther_wargs,[]⟩).memory Tryz.f4.params.toList Rows.imageOtherSpec.vars false imageOther_wargs.toList 8=some ([.lit (.int .i64 0), .lit (.int .i64 0), .agg [.lit (.string []), .lit (.int .i64 0), .lit (.int .i64 0), .lit (.int .i64 0), .nil, .nil]],[],places):=
 ⟨[],by kernel_rfl⟩
theorem imageOther_met (os:Os) :laidMet Tryz.prog Rows.imageOtherUptoRow.laid ((laidWorld os).forCall (fun _ _=>0) ⟨#[],imageOther_wargs,[]⟩).memory:=
 laidMet_of_run' 8 (by kernel_rfl) (by kernel_rfl)
set_option maxRecDepth 100000 in
theorem imageOther_lifted (os:Os) (started:os.Started) (H:Type) (enc:TypeId×Value→H) (F:Stop.Interp) :
  ReturnsInHanded {} Tryz.checked os 4 .any ((Rows.OpenSpec.upto Rows.imageOtherSpec).preRow enc Tryz.prog Tryz.f4 Rows.imageOtherUptoRow.domain false Rows.imageOtherUptoRow.laid) (((Rows.OpenSpec.upto Rows.imageOtherSpec).at F).post enc Tryz.prog Tryz.f4 false true false false):=by
 obtain ⟨places,hx⟩:=imageOther_reads os enc
 refine returnsInHanded_of_row (C:=Tryz.checked) (s:=Rows.OpenSpec.upto Rows.imageOtherSpec) own started (by kernel_rfl) Tryz.func4
  (witness_row_at (enc:=enc) (C:=Tryz.checked) false (laidWorld os) imageOther_wargs rfl (by kernel_rfl) (by kernel_rfl) (by kernel_rfl)
   (OpenSpec.preRow_of_cond 8 hx (by kernel_rfl) (fun k hk=>by cases hk;kernel_rfl) (by kernel_rfl) (imageOther_met os))) ?_
 intro W base args ds gs before hval hW _ hcond hwt hL hS _
 have hk:=hcond _ rfl
 have hg:gs= []:=by
  obtain ⟨p,q,_,hV,_⟩:=hW
  exact (trodVars_none hV).1
 subst hg
 rw [List.append_nil] at hwt hk
 exact imageOther_contract H enc W base args ds [] before hval hW (by
  rw [show Tryz.f4.params.toList++DataSpec.varTypes Tryz.checked.prog (Rows.OpenSpec.upto Rows.imageOtherSpec).bare.plain=Tryz.f4.params.toList from List.append_nil _] at hwt
  exact hwt) hL hk hS
theorem imageOther_said:Rows.ImageOtherUptoSaid:=
 OpenClaim.holds_of_cond 4 Tryz.f4 rfl rfl rfl rfl rfl rfl rfl ⟨rfl,rfl,rfl,rfl,rfl⟩ rfl rfl rfl rfl rfl (by kernel_rfl) Tryz.func4 (by kernel_rfl)
  (of_decide_eq_true (by kernel_rfl)) (by unfold Func.isWrapper;first | (rw [if_pos (by decide+kernel)];kernel_rfl) | (rw [if_neg (by decide+kernel)];exact ⟨rfl,rfl⟩))
  (fun os started H enc _ F=>by rw [OpenClaim.pre_eq_preRow];exact imageOther_lifted os started H enc F)
theorem imageOther_plain (f:FuncId) (fn:Func) (hf:Tryz.pinned.checked.prog.funcNamed "mailsack/mailsacklaw11.ImageOther"=some f) (hfn:Tryz.pinned.checked.prog.funcs[f]? =some fn) :
  false=Tryz.pinned.checked.prog.looks []∧∀(j:Nat) t,fn.params[j]? =some t→Tryz.pinned.checked.prog.wantsStandIn t=false:=by
 obtain rfl:f=4:=Option.some.inj ((show Tryz.prog.funcNamed "mailsack/mailsacklaw11.ImageOther"=some 4 by kernel_rfl).symm.trans hf) |>.symm
 obtain rfl:fn=Tryz.f4:=(Option.some.inj (Tryz.func4.symm.trans hfn)).symm
 refine ⟨by kernel_rfl,fun j t ht=> ?_⟩
 rw [Tryz.params4] at ht
 have h1:t=3∨t=3∨t=25:=by
  match j,ht with
  | 0,h=>simp at h;simp [h]
  | 1,h=>simp at h;simp [h]
  | 2,h=>simp at h;simp [h]
  | j+3,h=>simp at h
 rcases h1 with rfl | rfl | rfl
 ·exact (show Tryz.prog.wantsStandIn 3=false by kernel_rfl)
 ·exact (show Tryz.prog.wantsStandIn 3=false by kernel_rfl)
 ·exact (show Tryz.prog.wantsStandIn 25=false by kernel_rfl)
theorem imageOther_card:Rows.ImageOtherUptoCardSaid:=
 Claim7.holds_tied_plain_at .later [] _ _ _ _ imageOther_said (fun _ h=>by cases h) (by kernel_rfl) (fun _ h=>by cases h) imageOtherUpto_row_tie rfl ⟨rfl,rfl⟩ (by kernel_rfl) rfl imageOther_plain (by kernel_rfl)
#print axioms imageOther_card
end Go.Proofs.YtmkkljbfmdngfaaGreatDoor
namespace Go.Proofs.YtmkkljbfmdngfaaGreatDoor
open Go.ChangeShapes Go.WideShapes Go.ChangeAt Go.RowKit
set_option maxRecDepth 100000 in
theorem imageRest_contract (H:Type) (enc:TypeId×Value→H) (W:World) (base:Nat) (args:Array Value) (ds gs:List (DataW H)) (before:List MemPlace)
  (hval: ∀(j:Nat) t v,Tryz.f5.params[j]? =some t→args[j]? =some v→Value.okWide Tryz.prog W .any base t v)
  (hW:DataW.Whole enc Tryz.prog Tryz.f5.params.toList Rows.imageRestSpec.vars false W args.toList ds gs before)
  (hwt:(DataW.weightsEach Tryz.prog Tryz.f5.params.toList ds).all (· ≤reachBytes) =true)
  (hL:laidMetH Tryz.prog lays W) (hk:Rows.uptoSmall H ds=true) (hS:W.ShapedOpen Tryz.prog) :
  Calls Tryz.prog 5 args W fun e W'=>∃v,e= .returned v∧Rows.imageRestSpec.post enc Tryz.prog Tryz.f5 false true false false W args v W':=by
 refine B.contract_of2 (n:=9) (tb:=4) laidOut rowed full (by kernel_rfl) (by kernel_rfl) Tryz.underlying4 rfl (fun hd=> ?_) hval hW (fun a v h=>by cases h) (gz W hL hS) hwt fun xs hxs hbk hws=> ?_
 ·rw [Tryz.params5] at hd
  match ds,hd with
  | [d0,d1,d2],_=>rfl
 ·rw [Tryz.params5] at hxs hws
  have hbk:=Nat.le_trans hbk (B.bulk_small hk)
  obtain ⟨x0,r,rfl,h0,hxs⟩:=B.tyAll_cons hxs
  obtain ⟨x1,r,rfl,h1,hxs⟩:=B.tyAll_cons hxs
  obtain ⟨x2,r,rfl,h2,hxs⟩:=B.tyAll_cons hxs
  obtain rfl:=B.tyAll_nil hxs
  obtain ⟨n0,rfl,q0⟩:=B.ty_int Tryz.underlying3 h0
  obtain ⟨b1,rfl⟩:=B.box_of h1
  obtain ⟨n2,rfl,q2⟩:=B.ty_int Tryz.underlying3 h2
  have in1:B.BoxIn b1:=B.boxIn (by have:=hbk;simp only [B.bulkL] at this;omega)
  exact B.z5 n0 b1 n2 in1
abbrev imageRest_wargs:Array Value:= #[.int .i64 0, .agg #[.string .empty, .int .i64 0, .int .i64 0, .int .i64 0, .slice none 0 0, .slice none 0 0], .int .i64 0]
theorem imageRest_reads (os:Os) {H:Type} (enc:TypeId×Value→H) : ∃places,DataW.whole enc Tryz.prog ((laidWorld os).forCall (fun _ _=>0) ⟨#[],imageRest_wargs,[]⟩).memory Tryz.f5.params.toList Rows.imageRestSpec.vars false imageRest_wargs.toList 8=some ([.lit (.int .i64 0), .agg [.lit (.string []), .lit (.int .i64 0), .lit (.int .i64 0), .lit (.int .i64 0), .nil, .nil], .lit (.int .i64 0)],[],places):=
 ⟨[],by kernel_rfl⟩
theorem imageRest_met (os:Os) :laidMet Tryz.prog Rows.imageRestUptoRow.laid ((laidWorld os).forCall (fun _ _=>0) ⟨#[],imageRest_wargs,[]⟩).memory:=
 laidMet_of_run' 8 (by kernel_rfl) (by kernel_rfl)
set_option maxRecDepth 100000 in
theorem imageRest_lifted (os:Os) (started:os.Started) (H:Type) (enc:TypeId×Value→H) (F:Stop.Interp) :
  ReturnsInHanded {} Tryz.checked os 5 .any ((Rows.OpenSpec.upto Rows.imageRestSpec).preRow enc Tryz.prog Tryz.f5 Rows.imageRestUptoRow.domain false Rows.imageRestUptoRow.laid) (((Rows.OpenSpec.upto Rows.imageRestSpec).at F).post enc Tryz.prog Tryz.f5 false true false false):=by
 obtain ⟨places,hx⟩:=imageRest_reads os enc
 refine returnsInHanded_of_row (C:=Tryz.checked) (s:=Rows.OpenSpec.upto Rows.imageRestSpec) own started (by kernel_rfl) Tryz.func5
  (witness_row_at (enc:=enc) (C:=Tryz.checked) false (laidWorld os) imageRest_wargs rfl (by kernel_rfl) (by kernel_rfl) (by kernel_rfl)
   (OpenSpec.preRow_of_cond 8 hx (by kernel_rfl) (fun k hk=>by cases hk;kernel_rfl) (by kernel_rfl) (imageRest_met os))) ?_
 intro W base args ds gs before hval hW _ hcond hwt hL hS _
 have hk:=hcond _ rfl
 have hg:gs= []:=by
  obtain ⟨p,q,_,hV,_⟩:=hW
  exact (trodVars_none hV).1
 subst hg
 rw [List.append_nil] at hwt hk
 exact imageRest_contract H enc W base args ds [] before hval hW (by
  rw [show Tryz.f5.params.toList++DataSpec.varTypes Tryz.checked.prog (Rows.OpenSpec.upto Rows.imageRestSpec).bare.plain=Tryz.f5.params.toList from List.append_nil _] at hwt
  exact hwt) hL hk hS
theorem imageRest_said:Rows.ImageRestUptoSaid:=
 OpenClaim.holds_of_cond 5 Tryz.f5 rfl rfl rfl rfl rfl rfl rfl ⟨rfl,rfl,rfl,rfl,rfl⟩ rfl rfl rfl rfl rfl (by kernel_rfl) Tryz.func5 (by kernel_rfl)
  (of_decide_eq_true (by kernel_rfl)) (by unfold Func.isWrapper;first | (rw [if_pos (by decide+kernel)];kernel_rfl) | (rw [if_neg (by decide+kernel)];exact ⟨rfl,rfl⟩))
  (fun os started H enc _ F=>by rw [OpenClaim.pre_eq_preRow];exact imageRest_lifted os started H enc F)
theorem imageRest_plain (f:FuncId) (fn:Func) (hf:Tryz.pinned.checked.prog.funcNamed "mailsack/mailsacklaw11.ImageRest"=some f) (hfn:Tryz.pinned.checked.prog.funcs[f]? =some fn) :
  false=Tryz.pinned.checked.prog.looks []∧∀(j:Nat) t,fn.params[j]? =some t→Tryz.pinned.checked.prog.wantsStandIn t=false:=by
 obtain rfl:f=5:=Option.some.inj ((show Tryz.prog.funcNamed "mailsack/mailsacklaw11.ImageRest"=some 5 by kernel_rfl).symm.trans hf) |>.symm
 obtain rfl:fn=Tryz.f5:=(Option.some.inj (Tryz.func5.symm.trans hfn)).symm
 refine ⟨by kernel_rfl,fun j t ht=> ?_⟩
 rw [Tryz.params5] at ht
 have h1:t=3∨t=25∨t=3:=by
  match j,ht with
  | 0,h=>simp at h;simp [h]
  | 1,h=>simp at h;simp [h]
  | 2,h=>simp at h;simp [h]
  | j+3,h=>simp at h
 rcases h1 with rfl | rfl | rfl
 ·exact (show Tryz.prog.wantsStandIn 3=false by kernel_rfl)
 ·exact (show Tryz.prog.wantsStandIn 25=false by kernel_rfl)
 ·exact (show Tryz.prog.wantsStandIn 3=false by kernel_rfl)
theorem imageRest_card:Rows.ImageRestUptoCardSaid:=
 Claim7.holds_tied_plain_at .later [] _ _ _ _ imageRest_said (fun _ h=>by cases h) (by kernel_rfl) (fun _ h=>by cases h) imageRestUpto_row_tie rfl ⟨rfl,rfl⟩ (by kernel_rfl) rfl imageRest_plain (by kernel_rfl)
#print axioms imageRest_card
end Go.Proofs.YtmkkljbfmdngfaaGreatDoor
namespace Go.Proofs.YtmkkljbfmdngfaaGreatDoor
open Go.ChangeShapes Go.WideShapes Go.ChangeAt Go.RowKit
set_option maxRecDepth 100000 in
theorem imageMore_contract (H:Type) (enc:TypeId×Value→H) (W:World) (base:Nat) (args:Array Value) (ds gs:List (DataW H)) (before:List MemPlace)
  (hval: ∀(j:Nat) t v,Tryz.f6.params[j]? =some t→args[j]? =some v→Value.okWide Tryz.prog W .any base t v)
  (hW:DataW.Whole enc Tryz.prog Tryz.f6.params.toList Rows.imageMoreSpec.vars false W args.toList ds gs before)
  (hwt:(DataW.weightsEach Tryz.prog Tryz.f6.params.toList ds).all (· ≤reachBytes) =true)
  (hL:laidMetH Tryz.prog lays W) (hk:Rows.uptoSmall H ds=true) (hS:W.ShapedOpen Tryz.prog) :
  Calls Tryz.prog 6 args W fun e W'=>∃v,e= .returned v∧Rows.imageMoreSpec.post enc Tryz.prog Tryz.f6 false true false false W args v W':=by
 refine B.contract_of2 (n:=9) (tb:=4) laidOut rowed full (by kernel_rfl) (by kernel_rfl) Tryz.underlying4 rfl (fun hd=> ?_) hval hW (fun a v h=>by cases h) (gz W hL hS) hwt fun xs hxs hbk hws=> ?_
 ·rw [Tryz.params6] at hd
  match ds,hd with
  | [d0,d1,d2,d3],_=>rfl
 ·rw [Tryz.params6] at hxs hws
  have hbk:=Nat.le_trans hbk (B.bulk_small hk)
  obtain ⟨x0,r,rfl,h0,hxs⟩:=B.tyAll_cons hxs
  obtain ⟨x1,r,rfl,h1,hxs⟩:=B.tyAll_cons hxs
  obtain ⟨x2,r,rfl,h2,hxs⟩:=B.tyAll_cons hxs
  obtain ⟨x3,r,rfl,h3,hxs⟩:=B.tyAll_cons hxs
  obtain rfl:=B.tyAll_nil hxs
  obtain ⟨n0,rfl,q0⟩:=B.ty_int Tryz.underlying3 h0
  obtain ⟨n1,rfl,q1⟩:=B.ty_int Tryz.underlying3 h1
  obtain ⟨b2,rfl⟩:=B.box_of h2
  obtain ⟨l3,rfl⟩:=B.tyRows h3
  have in2:B.BoxIn b2:=B.boxIn (by have:=hbk;simp only [B.bulkL] at this;omega)
  have ri3:B.RowIn l3:=B.rowIn (by have:=hbk;simp only [B.bulkL] at this;omega)
  exact B.z6 n0 n1 b2 l3 in2 ri3
abbrev imageMore_wargs:Array Value:= #[.int .i64 0, .int .i64 0, .agg #[.string .empty, .int .i64 0, .int .i64 0, .int .i64 0, .slice none 0 0, .slice none 0 0], .slice none 0 0]
theorem imageMore_reads (os:Os) {H:Type} (enc:TypeId×Value→H) : ∃places,DataW.whole enc Tryz.prog ((laidWorld os).forCall (fun _ _=>0) ⟨#[],imageMore_wargs,[]⟩).memory Tryz.f6.params.toList Rows.imageMoreSpec.vars false imageMore_wargs.toList 8=some ([.lit (.int .i64 0), .lit (.int .i64 0), .agg [.lit (.string []), .lit (.int .i64 0), .lit (.int .i64 0), .lit (.int .i64 0), .nil, .nil], .nil],[],places):=
 ⟨[],by kernel_rfl⟩
theorem imageMore_met (os:Os) :laidMet Tryz.prog Rows.imageMoreUptoRow.laid ((laidWorld os).forCall (fun _ _=>0) ⟨#[],imageMore_wargs,[]⟩).memory:=
 laidMet_of_run' 8 (by kernel_rfl) (by kernel_rfl)
set_option maxRecDepth 100000 in
theorem imageMore_lifted (os:Os) (started:os.Started) (H:Type) (enc:TypeId×Value→H) (F:Stop.Interp) :
  ReturnsInHanded {} Tryz.checked os 6 .any ((Rows.OpenSpec.upto Rows.imageMoreSpec).preRow enc Tryz.prog Tryz.f6 Rows.imageMoreUptoRow.domain false Rows.imageMoreUptoRow.laid) (((Rows.OpenSpec.upto Rows.imageMoreSpec).at F).post enc Tryz.prog Tryz.f6 false true false false):=by
 obtain ⟨places,hx⟩:=imageMore_reads os enc
 refine returnsInHanded_of_row (C:=Tryz.checked) (s:=Rows.OpenSpec.upto Rows.imageMoreSpec) own started (by kernel_rfl) Tryz.func6
  (witness_row_at (enc:=enc) (C:=Tryz.checked) false (laidWorld os) imageMore_wargs rfl (by kernel_rfl) (by kernel_rfl) (by kernel_rfl)
   (OpenSpec.preRow_of_cond 8 hx (by kernel_rfl) (fun k hk=>by cases hk;kernel_rfl) (by kernel_rfl) (imageMore_met os))) ?_
 intro W base args ds gs before hval hW _ hcond hwt hL hS _
 have hk:=hcond _ rfl
 have hg:gs= []:=by
  obtain ⟨p,q,_,hV,_⟩:=hW
  exact (trodVars_none hV).1
 subst hg
 rw [List.append_nil] at hwt hk
 exact imageMore_contract H enc W base args ds [] before hval hW (by
  rw [show Tryz.f6.params.toList++DataSpec.varTypes Tryz.checked.prog (Rows.OpenSpec.upto Rows.imageMoreSpec).bare.plain=Tryz.f6.params.toList from List.append_nil _] at hwt
  exact hwt) hL hk hS
theorem imageMore_said:Rows.ImageMoreUptoSaid:=
 OpenClaim.holds_of_cond 6 Tryz.f6 rfl rfl rfl rfl rfl rfl rfl ⟨rfl,rfl,rfl,rfl,rfl⟩ rfl rfl rfl rfl rfl (by kernel_rfl) Tryz.func6 (by kernel_rfl)
  (of_decide_eq_true (by kernel_rfl)) (by unfold Func.isWrapper;first | (rw [if_pos (by decide+kernel)];kernel_rfl) | (rw [if_neg (by decide+kernel)];exact ⟨rfl,rfl⟩))
  (fun os started H enc _ F=>by rw [OpenClaim.pre_eq_preRow];exact imageMore_lifted os started H enc F)
theorem imageMore_plain (f:FuncId) (fn:Func) (hf:Tryz.pinned.checked.prog.funcNamed "mailsack/mailsacklaw11.ImageMore"=some f) (hfn:Tryz.pinned.checked.prog.funcs[f]? =some fn) :
  false=Tryz.pinned.checked.prog.looks []∧∀(j:Nat) t,fn.params[j]? =some t→Tryz.pinned.checked.prog.wantsStandIn t=false:=by
 obtain rfl:f=6:=Option.some.inj ((show Tryz.prog.funcNamed "mailsack/mailsacklaw11.ImageMore"=some 6 by kernel_rfl).symm.trans hf) |>.symm
 obtain rfl:fn=Tryz.f6:=(Option.some.inj (Tryz.func6.symm.trans hfn)).symm
 refine ⟨by kernel_rfl,fun j t ht=> ?_⟩
 rw [Tryz.params6] at ht
 have h1:t=3∨t=3∨t=25∨t=32:=by
  match j,ht with
  | 0,h=>simp at h;simp [h]
  | 1,h=>simp at h;simp [h]
  | 2,h=>simp at h;simp [h]
  | 3,h=>simp at h;simp [h]
  | j+4,h=>simp at h
 rcases h1 with rfl | rfl | rfl | rfl
 ·exact (show Tryz.prog.wantsStandIn 3=false by kernel_rfl)
 ·exact (show Tryz.prog.wantsStandIn 3=false by kernel_rfl)
 ·exact (show Tryz.prog.wantsStandIn 25=false by kernel_rfl)
 ·exact (show Tryz.prog.wantsStandIn 32=false by kernel_rfl)
theorem imageMore_card:Rows.ImageMoreUptoCardSaid:=
 Claim7.holds_tied_plain_at .later [] _ _ _ _ imageMore_said (fun _ h=>by cases h) (by kernel_rfl) (fun _ h=>by cases h) imageMoreUpto_row_tie rfl ⟨rfl,rfl⟩ (by kernel_rfl) rfl imageMore_plain (by kernel_rfl)
#print axioms imageMore_card
end Go.Proofs.YtmkkljbfmdngfaaGreatDoor
