/- The card of NumsMore. No condition. -/
import Derived.Test.YtmiclaoelbemkaaDoorCards
import Derived.Test.YtmiclaoelbemkaaDoorTie
import Derived.Test.YtmiclaoelbemkaaDoorM2
import Derived.Test.YtmiclaoelbemkaaDoorB35
import Derived.ProofKit
import Derived.OpenShut
import Derived.Deep.DeepHandedRow
import Derived.JoinedCond
import Derived.LaidLaws
import Derived.Lib.LaidTab
set_option linter.all false
namespace Go.Proofs.YtmiclaoelbemkaaDoor
open Go.ChangeShapes Go.WideShapes Go.ChangeAt Go.RowKit

theorem own : ownKnob Tryd.prog.godebug = none := by kernel_rfl
theorem laidOut : laidOutB Tryd.prog = true := by kernel_rfl
theorem rowed : mapsRowed Tryd.prog = true := by kernel_rfl
theorem full : ((List.range Tryd.prog.types.size).all fun t => match Tryd.prog.underlying t with | some (.slice e) => decide (0 < Tryd.prog.cellsOf e) | _ => true) = true := by kernel_rfl
theorem bytes30 : Tryd.prog.bytesOf 30 = 16 := by kernel_rfl

theorem laidMet_tail {P : Program} {x : String × DataW Unit} {r : List (String × DataW Unit)} {W : World} (h : laidMet P (x :: r) W) : laidMet P r W := by
  obtain ⟨ps, ⟨g', t', cs, fuel, p, q, hg', ht', hvar, hd, hq, rfl⟩, hn, hm⟩ := h
  exact ⟨q, hq, (List.nodup_append.1 hn).2.1, fun b off hb => hm b off (List.mem_append_right _ hb)⟩
theorem gTab : Tryd.prog.globalNamed "internal/strconv.uint64pow10" = some 1 := by kernel_rfl
theorem gTabType : (Tryd.prog.globals[1]?).map (·.type) = some 104 := by kernel_rfl
theorem under104 : Tryd.prog.underlying 104 = some (.array 20 36) := by kernel_rfl
theorem under36 : Tryd.prog.underlying 36 = some (.int .u64) := by kernel_rfl
theorem cells36 : Tryd.prog.cellsOf 36 = 1 := by kernel_rfl
theorem cells104 : Tryd.prog.cellsOf 104 = 20 := by kernel_rfl
theorem begin0 : ((begin Tryd.prog (fun _ _ => 0) default).world.heap[0]?).bind Obj.row? = some (#[.int .i64 0], 3) := by kernel_rfl
theorem gz (W : World) (hL : laidMetH Tryd.prog Rows.numsMoreRow.laid W) (hS : W.ShapedOpen Tryd.prog) : B.GzOk (fun _ => .plain) W := by
  have h1 : laidMet Tryd.prog Rows.numsMoreRow.laid W := hL
  obtain ⟨m, hm⟩ := Tryd.laysM146.s1_3 W hS
  have hm : W.cell? ⟨0, 0, none⟩ = some (.int .i64 m) := hm
  obtain ⟨cs, hh, hsz, _⟩ := hS.1 0 #[.int .i64 0] 3 (of_decide_eq_true (by kernel_rfl)) begin0
  have hcs : cs = #[.int .i64 m] := by
    have hsz : cs.size = 1 := hsz
    simp only [World.cell?, hh] at hm
    refine Array.ext (by simp [hsz]) fun i h1 h2 => ?_
    simp at h2; subst h2
    have := Array.getElem?_eq_getElem h1
    simp at hm
    rw [hm] at this; simpa using this.symm
  refine ⟨m, fun g row hg => ?_⟩
  unfold B.GzRow at hg
  split at hg
  · rename_i e; subst e
    injection hg with hg; subst hg
    exact ⟨rfl, _, _, by rw [hh, hcs]⟩
  · split at hg
    · rename_i e; subst e
      injection hg with hg; subst hg
      refine ⟨rfl, ?_⟩
      have h2 := laidMet_tail (laidMet_tail h1)
      have h3 := Lib.tabIs_of_head (k := .u64) (zs := Lib.pow10Tab) gTab gTabType under104 under36 cells36 cells104 h2
      unfold Lib.TabIs World.var? at h3
      rw [gTab] at h3
      simp only [Option.bind_some] at h3
      split at h3
      · rename_i cs' t' fz' e
        injection h3 with h3
        exact ⟨_, _, by rw [e, h3]⟩
      · cases h3
    · cases hg

set_option maxRecDepth 100000 in
theorem more_contract (H : Type) (enc : TypeId × Value → H) (W : World) (base : Nat) (args : Array Value) (ds gs : List (DataW H)) (before : List MemPlace)
    (hval : ∀ (j : Nat) t v, Tryd.f5.params[j]? = some t → args[j]? = some v → Value.okWide Tryd.prog W .any base t v)
    (hW : DataW.Whole enc Tryd.prog Tryd.f5.params.toList Rows.numsMoreSpec.vars false W args.toList ds gs before)
    (hwt : (DataW.weightsEach Tryd.prog Tryd.f5.params.toList ds).all (· ≤ reachBytes) = true)
    (hL : laidMetH Tryd.prog Rows.numsMoreRow.laid W) (hS : W.ShapedOpen Tryd.prog) :
    Calls Tryd.prog 5 args W fun e W' => ∃ v, e = .returned v ∧ Rows.numsMoreSpec.post enc Tryd.prog Tryd.f5 false true false false W args v W' := by
  refine B.contract_of2 (n := 9) (tb := 4) laidOut rowed full (by kernel_rfl) (by kernel_rfl) Tryd.underlying4 rfl (fun hd => ?_) hval hW (fun a v h => by cases h) (gz W hL hS) hwt fun xs hxs _ hws => ?_
  · rw [Tryd.params5] at hd
    match ds, hd with
    | [d1, d2, d3, d4], _ => rfl
  · rw [Tryd.params5] at hxs hws
    obtain ⟨x0, r, rfl, h0, hxs⟩ := B.tyAll_cons hxs
    obtain ⟨x1, r, rfl, h1, hxs⟩ := B.tyAll_cons hxs
    obtain ⟨x2, r, rfl, h2, hxs⟩ := B.tyAll_cons hxs
    obtain ⟨x3, r, rfl, h3, hxs⟩ := B.tyAll_cons hxs
    obtain rfl := B.tyAll_nil hxs
    obtain ⟨l, rfl⟩ := B.spans_of h0
    obtain ⟨p, rfl⟩ := B.span_of h1
    obtain ⟨y, rfl, _⟩ := B.ty_int Tryd.underlying3 h2
    obtain ⟨z, rfl, _⟩ := B.ty_int Tryd.underlying3 h3
    have hl := hws 0 22 30 2 (l.map B.sp) rfl Tryd.underlying22 rfl
    rw [bytes30, List.length_map] at hl
    exact B.numsMore l p y z (by unfold reachBytes at hl; omega)

def cellsD {H : Type} : Nat → DataW H → List Value
  | _, .lit (.int k n) => [.int k n]
  | n + 1, .agg l => l.flatMap (cellsD n)
  | _, _ => []
noncomputable def layAt (g : Nat) (l : List Value) (w : World) : World :=
  { w with heap := w.heap.modify g fun
      | .cells _ t frozen => .cells l.toArray t frozen
      | o => o }
noncomputable def laidWorld (os : Os) : World :=
  layAt 4 (cellsD 3 (Rows.laid_math_bits_deBruijn32tab (H := Unit))) <| layAt 5 (cellsD 3 (Rows.laid_math_bits_deBruijn64tab (H := Unit))) <| layAt 1 (cellsD 3 (Rows.laid_internal_strconv_uint64pow10 (H := Unit))) <|
  layAt 3 (cellsD 3 (Rows.laid_unicode_utf8_acceptRanges (H := Unit))) <| layAt 2 (cellsD 3 Rows.laid_unicode_utf8_first) (World.holding Tryd.prog os ⟨#[], #[], []⟩)
abbrev wargs : Array Value := #[.slice none 0 0, .agg #[.int .i64 0, .int .i64 0], .int .i64 0, .int .i64 0]
theorem laid_met (os : Os) : laidMet Tryd.prog Rows.numsMoreRow.laid ((laidWorld os).forCall (fun _ _ => 0) ⟨#[], wargs, []⟩).memory :=
  laidMet_of_run' 8 (by kernel_rfl) (by kernel_rfl)
theorem reads (os : Os) {H : Type} (enc : TypeId × Value → H) : ∃ places, DataW.whole enc Tryd.prog ((laidWorld os).forCall (fun _ _ => 0) ⟨#[], wargs, []⟩).memory Tryd.f5.params.toList Rows.numsMoreSpec.vars false wargs.toList 8 = some ([.nil, .agg [.lit (.int .i64 0), .lit (.int .i64 0)], .lit (.int .i64 0), .lit (.int .i64 0)], [], places) :=
  ⟨[], by kernel_rfl⟩

set_option maxRecDepth 100000 in
theorem lifted (os : Os) (started : os.Started) (H : Type) (enc : TypeId × Value → H) (F : Stop.Interp) :
    ReturnsInHanded {} Tryd.checked os 5 .any ((OpenSpec.ofChange Rows.numsMoreSpec).preRow enc Tryd.prog Tryd.f5 Rows.numsMoreRow.domain false Rows.numsMoreRow.laid) (((OpenSpec.ofChange Rows.numsMoreSpec).at F).post enc Tryd.prog Tryd.f5 false true false false) := by
  obtain ⟨places, hx⟩ := reads os enc
  refine returnsInHanded_of_row (C := Tryd.checked) (s := OpenSpec.ofChange Rows.numsMoreSpec) own started (by kernel_rfl) Tryd.func5
    (witness_row_at (enc := enc) (C := Tryd.checked) false (laidWorld os) wargs rfl (by kernel_rfl) (by kernel_rfl) (by kernel_rfl)
      (OpenSpec.preRow_of_cond 8 hx (by kernel_rfl) (fun k hk => by cases hk) (by kernel_rfl) (laid_met os))) ?_
  intro W base args ds gs before hval hW _ _ hwt hL hS _
  have hg : gs = [] := by
    obtain ⟨p, q, _, hV, _⟩ := hW
    exact (trodVars_none hV).1
  subst hg
  rw [List.append_nil] at hwt
  exact more_contract H enc W base args ds [] before hval hW (by
    rw [show Tryd.f5.params.toList ++ DataSpec.varTypes Tryd.checked.prog (OpenSpec.ofChange Rows.numsMoreSpec).bare.plain = Tryd.f5.params.toList from List.append_nil _] at hwt
    exact hwt) hL hS

theorem said : Rows.NumsMoreSaid :=
  OpenClaim.holds_of_cond 5 Tryd.f5 rfl rfl rfl rfl rfl rfl rfl ⟨rfl, rfl, rfl, rfl, rfl⟩ rfl rfl rfl rfl rfl (by kernel_rfl) Tryd.func5 (by kernel_rfl)
    (of_decide_eq_true (by kernel_rfl)) (by unfold Func.isWrapper; first | (rw [if_pos (by decide +kernel)]; kernel_rfl) | (rw [if_neg (by decide +kernel)]; exact ⟨rfl, rfl⟩))
    (fun os started H enc _ F => by rw [OpenClaim.pre_eq_preRow]; exact lifted os started H enc F)
end Go.Proofs.YtmiclaoelbemkaaDoor
