/- Boxes that come in; SameBox. Out of G4, H1, H2. No condition. -/
import Derived.Test.YtmkkljbfmdngfaaDoorG3
import Derived.Test.YtmkkljbfmdngfaaDoorCards
import Derived.Test.YtmkkljbfmdngfaaDoorTie
import Derived.Test.YtmkkljbfmdngfaaDoorB35
import Derived.ProofKit
import Derived.OpenShut
import Derived.Deep.DeepHandedRow
import Derived.JoinedCond
import Derived.LaidLaws
import Derived.Lib.LaidTab
set_option linter.all false
namespace Go.Proofs.YtmkkljbfmdngfaaDoor
namespace B
open Go.RowKit
structure BoxIn (b : Box) : Prop where
  ok : BoxOk b
  sz : szBox b ≤ 1099511627776
theorem formB_len {b : Box} (h : BoxMay b) (form : Nat) : (formB form b).length ≤ 30000 := by
  have h1 := headF_len form b
  have h2 := wordsF_len h (b.words.take (kept b)).length
  have h3 := msgsF_len h form b.msgs.length
  rw [List.take_length] at h2 h3
  have h2 : (wordsF b).length ≤ 2000 := h2
  unfold formB
  simp only [List.length_append, fix_len]
  omega
theorem resB_ok {b : Box} (h : mayBox b = 0) (form : Nat) : resB form b = .tup [.d (.slice 1 (bs (formB form b))), .d (.int .i64 0)] := by unfold resB; rw [if_pos h, if_pos h]

end B
end Go.Proofs.YtmkkljbfmdngfaaDoor
namespace Go.Proofs.YtmkkljbfmdngfaaDoor
open Go.ChangeShapes Go.WideShapes Go.ChangeAt Go.RowKit

theorem own : ownKnob Tryd.prog.godebug = none := by kernel_rfl
theorem laidOut : laidOutB Tryd.prog = true := by kernel_rfl
theorem rowed : mapsRowed Tryd.prog = true := by kernel_rfl
theorem full : ((List.range Tryd.prog.types.size).all fun t => match Tryd.prog.underlying t with | some (.slice e) => decide (0 < Tryd.prog.cellsOf e) | _ => true) = true := by kernel_rfl
abbrev lays : List (String × DataW Unit) := [("math/bits.deBruijn32tab", Rows.laid_math_bits_deBruijn32tab), ("math/bits.deBruijn64tab", Rows.laid_math_bits_deBruijn64tab), ("internal/strconv.uint64pow10", Rows.laid_internal_strconv_uint64pow10)]
theorem laidMet_tail {P : Program} {x : String × DataW Unit} {r : List (String × DataW Unit)} {W : World} (h : laidMet P (x :: r) W) : laidMet P r W := by
  obtain ⟨ps, ⟨g', t', cs, fuel, p, q, hg', ht', hvar, hd, hq, rfl⟩, hn, hm⟩ := h
  exact ⟨q, hq, (List.nodup_append.1 hn).2.1, fun b off hb => hm b off (List.mem_append_right _ hb)⟩
theorem gTab : Tryd.prog.globalNamed "internal/strconv.uint64pow10" = some 0 := by kernel_rfl
theorem gTabType : (Tryd.prog.globals[0]?).map (·.type) = some 168 := by kernel_rfl
theorem under168 : Tryd.prog.underlying 168 = some (.array 20 45) := by kernel_rfl
theorem under45 : Tryd.prog.underlying 45 = some (.int .u64) := by kernel_rfl
theorem cells45 : Tryd.prog.cellsOf 45 = 1 := by kernel_rfl
theorem cells168 : Tryd.prog.cellsOf 168 = 20 := by kernel_rfl
theorem begin1 : ((begin Tryd.prog (fun _ _ => 0) default).world.heap[1]?).bind Obj.row? = some (#[.int .i64 0], 3) := by kernel_rfl
theorem gz (W : World) (hL : laidMetH Tryd.prog lays W) (hS : W.ShapedOpen Tryd.prog) : B.GzOk (fun _ => .plain) W := by
  have h1 : laidMet Tryd.prog lays W := hL
  obtain ⟨m, hm⟩ : ∃ m, W.cell? ⟨1, 0, none⟩ = some (.int .i64 m) := Go.Proofs.cell_of_shapedOpen_int (zero := #[.int .i64 0]) (t := 3) hS (of_decide_eq_true (by kernel_rfl)) (by kernel_rfl) rfl (by kernel_rfl) (by kernel_rfl) Tryd.underlying3
  obtain ⟨cs, hh, hsz, _⟩ := hS.1 1 #[.int .i64 0] 3 (of_decide_eq_true (by kernel_rfl)) begin1
  have hcs : cs = #[.int .i64 m] := by
    have hsz : cs.size = 1 := hsz
    simp only [World.cell?, hh] at hm
    refine Array.ext (by simp [hsz]) fun i h1 h2 => ?_
    simp at h2; subst h2
    have := Array.getElem?_eq_getElem h1
    simp at hm
    rw [hm] at this; simpa using this.symm
  refine ⟨m, fun g row hg => ?_⟩
  unfold B.GzRow at hg
  split at hg
  · rename_i e; subst e
    injection hg with hg; subst hg
    exact ⟨rfl, _, _, by rw [hh, hcs]⟩
  · split at hg
    · rename_i e; subst e
      injection hg with hg; subst hg
      refine ⟨rfl, ?_⟩
      have h2 := laidMet_tail (laidMet_tail h1)
      have h3 := Lib.tabIs_of_head (k := .u64) (zs := Lib.pow10Tab) gTab gTabType under168 under45 cells45 cells168 h2
      unfold Lib.TabIs World.var? at h3
      rw [gTab] at h3
      simp only [Option.bind_some] at h3
      split at h3
      · rename_i cs' t' fz' e
        injection h3 with h3
        exact ⟨_, _, by rw [e, h3]⟩
      · cases h3
    · cases hg
def cellsD {H : Type} : Nat → DataW H → List Value
  | _, .lit (.int k n) => [.int k n]
  | n + 1, .agg l => l.flatMap (cellsD n)
  | _, _ => []
noncomputable def layAt (g : Nat) (l : List Value) (w : World) : World :=
  { w with heap := w.heap.modify g fun
      | .cells _ t frozen => .cells l.toArray t frozen
      | o => o }
noncomputable def laidWorld (os : Os) : World :=
  layAt 2 (cellsD 3 (Rows.laid_math_bits_deBruijn32tab (H := Unit))) <| layAt 3 (cellsD 3 (Rows.laid_math_bits_deBruijn64tab (H := Unit))) <| layAt 0 (cellsD 3 (Rows.laid_internal_strconv_uint64pow10 (H := Unit))) <| World.holding Tryd.prog os ⟨#[], #[], []⟩

namespace B
/-! ### the bound -/
mutual
theorem bulkW_eq {H : Type} : ∀ d : DataW H, bulkW d = Rows.uptoBulk d
  | .lit l => by cases l <;> simp [bulkW, Rows.uptoBulk]
  | .nil => by simp [bulkW, Rows.uptoBulk]
  | .ptr d => by simp only [bulkW, Rows.uptoBulk, bulkW_eq d]
  | .slice elems spare => by simp only [bulkW, Rows.uptoBulk, bulkWL_eq elems, bulkWL_eq spare]
  | .agg parts => by simp only [bulkW, Rows.uptoBulk, bulkWL_eq parts]
  | .iface _ d => by simp only [bulkW, Rows.uptoBulk, bulkW_eq d]
  | .map entries => by simp only [bulkW, Rows.uptoBulk, bulkWE_eq entries]
  | .held _ => by simp [bulkW, Rows.uptoBulk]
theorem bulkWL_eq {H : Type} : ∀ l : List (DataW H), bulkWL l = Rows.uptoBulkAll l
  | [] => by simp [bulkWL, Rows.uptoBulkAll]
  | d :: r => by simp only [bulkWL, Rows.uptoBulkAll, bulkW_eq d, bulkWL_eq r]
theorem bulkWE_eq {H : Type} : ∀ l : List (Lit × DataW H), bulkWE l = Rows.uptoBulkEntries l
  | [] => by simp [bulkWE, Rows.uptoBulkEntries]
  | x :: r => by simp only [bulkWE, Rows.uptoBulkEntries, bulkW1_eq x, bulkWE_eq r]
theorem bulkW1_eq {H : Type} : ∀ x : Lit × DataW H, bulkW1 x = Rows.uptoBulkEntry x
  | (l, d) => by cases l <;> simp only [bulkW1, Rows.uptoBulkEntry, bulkW_eq d]
end
theorem bulk_small {H : Type} {ds : List (DataW H)} (h : Rows.uptoSmall H ds = true) : bulkWL ds ≤ 1048576 := by
  rw [bulkWL_eq]; exact of_decide_eq_true h
theorem bulk_ints : ∀ l : List Int, bulkL (ints l) = l.length
  | [] => rfl
  | x :: r => by
    have := bulk_ints r
    unfold ints at this ⊢
    simp only [List.map_cons, bulkL, D.bulk, this, List.length_cons]; omega
theorem bulk_strs : ∀ l : List Bytes, bulkL (strs l) = szW l + l.length
  | [] => rfl
  | x :: r => by
    have := bulk_strs r
    unfold strs szW at this ⊢
    simp only [List.map_cons, bulkL, D.bulk, this, List.length_cons, List.sum_cons]; omega
theorem bulk_msg (m : Msg) : m.d.bulk = szM m + 7 := by
  unfold Msg.d Msg.cs szM
  simp only [D.bulk, bulkL, bulk_ints]; omega
theorem bulk_msgs : ∀ l : List Msg, bulkL (l.map Msg.d) = szMs l + 7 * l.length
  | [] => rfl
  | x :: r => by
    have := bulk_msgs r
    unfold szMs at this ⊢
    simp only [List.map_cons, bulkL, bulk_msg, this, List.length_cons, List.sum_cons]; omega
theorem bulk_box (b : Box) : szBox b ≤ b.d.bulk := by
  unfold Box.d Box.cs szBox
  simp only [D.bulk, bulkL, bulk_strs, bulk_msgs]; omega
theorem le_szW : ∀ {l : List Bytes} {w : Bytes}, w ∈ l → w.length ≤ szW l
  | x :: r, w, h => by
    unfold szW
    simp only [List.map_cons, List.sum_cons]
    rcases List.mem_cons.1 h with rfl | h
    · omega
    · have := le_szW h; unfold szW at this; omega
theorem le_szMs : ∀ {l : List Msg} {m : Msg}, m ∈ l → szM m ≤ szMs l
  | x :: r, w, h => by
    unfold szMs
    simp only [List.map_cons, List.sum_cons]
    rcases List.mem_cons.1 h with rfl | h
    · omega
    · have := le_szMs h; unfold szMs at this; omega
theorem boxIn {b : Box} (h : b.d.bulk ≤ 1048576) : BoxIn b := by
  have h := Nat.le_trans (bulk_box b) h
  have h2 := h
  unfold szBox at h2
  refine ⟨⟨by omega, by omega, by omega, fun w hw => ?_, fun m hm => ?_⟩, by omega⟩
  · have := le_szW hw; omega
  · have := le_szMs hm
    unfold szM at this
    exact ⟨by omega, by omega⟩

/-! ### what comes in -/
theorem cells5' : Tryd.prog.cellsOf 5 = 1 := by kernel_rfl
theorem tyI {n : Nat} {p : List D} (h : Ty P (n + 1) 3 p) : ∃ y, p = [iD y] := by
  unfold Ty at h
  rw [show P.underlying 3 = _ from Tryd.underlying3] at h
  obtain ⟨y, rfl, _⟩ := h
  exact ⟨y, rfl⟩
theorem tyS {n : Nat} {p : List D} (h : Ty P (n + 1) 9 p) : ∃ y, p = [.str y] := by
  unfold Ty at h
  rw [show P.underlying 9 = _ from Tryd.underlying9] at h
  obtain ⟨y, rfl, _⟩ := h
  exact ⟨y, rfl⟩
end B
end Go.Proofs.YtmkkljbfmdngfaaDoor
namespace Go.Proofs.YtmkkljbfmdngfaaDoor
namespace B
open Go.RowKit
set_option maxRecDepth 100000

theorem tySl {n : Nat} {t e : TypeId} {p : List D} (hu : P.underlying t = some (.slice e)) (h : Ty P (n + 1) t p) : ∃ l, p = [.slice (P.cellsOf e) l] ∧ ∀ y ∈ l, TyV P n e y := by
  unfold Ty at h
  rw [hu] at h
  obtain ⟨l, rfl, _, h⟩ := h
  exact ⟨l, rfl, h⟩
theorem cells3' : P.cellsOf 3 = 1 := by kernel_rfl
theorem cells9' : P.cellsOf 9 = 1 := by kernel_rfl
theorem cells42' : P.cellsOf 42 = 7 := by kernel_rfl
theorem tyIs {n : Nat} {p : List D} (h : Ty P (n + 2) 40 p) : ∃ l : List Int, p = [.slice 1 (ints l)] := by
  obtain ⟨l, rfl, hl⟩ := tySl Tryd.underlying40 h
  obtain ⟨zs, rfl⟩ := ty_list (f := iD) fun y hy => by obtain ⟨k, hk, _⟩ := ty_int Tryd.underlying3 (hl y hy); exact ⟨k, hk⟩
  exact ⟨zs, by rw [cells3']; rfl⟩
theorem tySs {n : Nat} {p : List D} (h : Ty P (n + 2) 22 p) : ∃ l : List Bytes, p = [.slice 1 (strs l)] := by
  obtain ⟨l, rfl, hl⟩ := tySl Tryd.underlying22 h
  obtain ⟨zs, rfl⟩ := ty_list (f := D.str) fun y hy => by obtain ⟨k, hk, _⟩ := ty_str Tryd.underlying9 (hl y hy); exact ⟨k, hk⟩
  exact ⟨zs, by rw [cells9']; rfl⟩
set_option maxRecDepth 100000 in
theorem msg_of {n : Nat} {x : D} (h : TyV P (n + 3) 42 x) : ∃ m : Msg, x = m.d := by
  obtain ⟨parts, rfl, hl, hp⟩ := ty_struct Tryd.underlying42 h
  have hl : parts.length = 7 := hl
  match parts, hl with
  | [a0, a1, a2, a3, a4, a5, a6], _ =>
    obtain ⟨y0, rfl⟩ := tyI (n := n + 1) (hp 0 _ a0 rfl rfl)
    obtain ⟨y1, rfl⟩ := tyI (n := n + 1) (hp 1 _ a1 rfl rfl)
    obtain ⟨y2, rfl⟩ := tyI (n := n + 1) (hp 2 _ a2 rfl rfl)
    obtain ⟨y3, rfl⟩ := tyS (n := n + 1) (hp 3 _ a3 rfl rfl)
    obtain ⟨y4, rfl⟩ := tyI (n := n + 1) (hp 4 _ a4 rfl rfl)
    obtain ⟨y5, rfl⟩ := tyIs (n := n) (hp 5 _ a5 rfl rfl)
    obtain ⟨y6, rfl⟩ := tyS (n := n + 1) (hp 6 _ a6 rfl rfl)
    exact ⟨⟨y0, y1, y2, y3, y4, y5, y6⟩, rfl⟩
theorem tyMs {n : Nat} {p : List D} (h : Ty P (n + 4) 23 p) : ∃ l : List Msg, p = [.slice 7 (l.map Msg.d)] := by
  obtain ⟨l, rfl, hl⟩ := tySl Tryd.underlying23 h
  obtain ⟨zs, rfl⟩ := ty_list (f := Msg.d) fun y hy => msg_of (hl y hy)
  exact ⟨zs, by rw [cells42']⟩
set_option maxRecDepth 100000 in
theorem box_of {n : Nat} {x : D} (h : TyV P (n + 5) 25 x) : ∃ b : Box, x = b.d := by
  obtain ⟨parts, rfl, hl, hp⟩ := ty_struct Tryd.underlying25 h
  have hl : parts.length = 6 := hl
  match parts, hl with
  | [a0, a1, a2, a3, a4, a5], _ =>
    obtain ⟨y0, rfl⟩ := tyS (n := n + 3) (hp 0 _ a0 rfl rfl)
    obtain ⟨y1, rfl⟩ := tyI (n := n + 3) (hp 1 _ a1 rfl rfl)
    obtain ⟨y2, rfl⟩ := tyI (n := n + 3) (hp 2 _ a2 rfl rfl)
    obtain ⟨y3, rfl⟩ := tyI (n := n + 3) (hp 3 _ a3 rfl rfl)
    obtain ⟨y4, rfl⟩ := tySs (n := n + 2) (hp 4 _ a4 rfl rfl)
    obtain ⟨y5, rfl⟩ := tyMs (n := n) (hp 5 _ a5 rfl rfl)
    exact ⟨⟨y0, y1, y2, y3, y4, y5⟩, rfl⟩
end B
end Go.Proofs.YtmkkljbfmdngfaaDoor
namespace Go.Proofs.YtmkkljbfmdngfaaDoor
namespace B
def HH8 : Hint := ⟨fun f r => if r == 1000000 then (if f == 52 then [12, 27] else []) else if r == 1000001 then (if f == 19 then [28, 79] else []) else if f == 112 || f == 116 || f == 62 || f == 70 then [1100] else if f == 7 || f == 10 then (if r == 6 then [9, 99999] else if r == 7 then [11, 99999] else []) else [], fun f => if f == 56 || f == 58 || f == 105 || f == 48 || f == 53 then some 0 else none⟩
set_option maxRecDepth 100000
def af20 : AF := ⟨(.seq (.ops [⟨(some 2), (.box 6 true (.t 0)), none⟩, ⟨(some 3), (.box 6 true (.t 1)), none⟩, ⟨(some 4), (.mov (.c (.d (.bool false))) true none), none⟩]) (.seq (.seq (.ops [⟨(some 6), (.fieldA 0 (.t 2)), none⟩, ⟨(some 7), (.load false 1 (.t 6) false), none⟩, ⟨(some 8), (.fieldA 0 (.t 3)), none⟩, ⟨(some 9), (.load false 1 (.t 8) false), none⟩, ⟨(some 10), (.bin false .neq (.t 7) (.t 9)), none⟩, ⟨(some 11), (.mov (.t 10) true none), none⟩, ⟨(some 12), (.fieldA 1 (.t 2)), (some (11, false))⟩, ⟨(some 13), (.load false 1 (.t 12) false), (some (11, false))⟩, ⟨(some 14), (.fieldA 1 (.t 3)), (some (11, false))⟩, ⟨(some 15), (.load false 1 (.t 14) false), (some (11, false))⟩, ⟨(some 16), (.bin false .neq (.t 13) (.t 15)), (some (11, false))⟩, ⟨(some 17), (.pick (.t 11) (.c (.d (.bool true))) (.t 16)), none⟩, ⟨(some 18), (.mov (.t 17) true none), none⟩, ⟨(some 19), (.fieldA 2 (.t 2)), (some (18, false))⟩, ⟨(some 20), (.load false 1 (.t 19) false), (some (18, false))⟩, ⟨(some 21), (.fieldA 2 (.t 3)), (some (18, false))⟩, ⟨(some 22), (.load false 1 (.t 21) false), (some (18, false))⟩, ⟨(some 23), (.bin false .neq (.t 20) (.t 22)), (some (18, false))⟩, ⟨(some 24), (.pick (.t 18) (.c (.d (.bool true))) (.t 23)), none⟩, ⟨(some 25), (.mov (.t 24) true none), none⟩, ⟨(some 26), (.fieldA 3 (.t 2)), (some (25, false))⟩, ⟨(some 27), (.load false 1 (.t 26) false), (some (25, false))⟩, ⟨(some 28), (.fieldA 3 (.t 3)), (some (25, false))⟩, ⟨(some 29), (.load false 1 (.t 28) false), (some (25, false))⟩, ⟨(some 30), (.bin false .neq (.t 27) (.t 29)), (some (25, false))⟩, ⟨(some 31), (.pick (.t 25) (.c (.d (.bool true))) (.t 30)), none⟩, ⟨(some 32), (.mov (.t 31) true none), none⟩, ⟨(some 33), (.fieldA 4 (.t 2)), (some (32, false))⟩, ⟨(some 34), (.load false 1 (.t 33) false), (some (32, false))⟩, ⟨(some 35), (.fieldA 4 (.t 3)), (some (32, false))⟩, ⟨(some 36), (.load false 1 (.t 35) false), (some (32, false))⟩, ⟨(some 37), (.call 38 [((.t 34), (some 1)), ((.t 36), (some 1))] none), (some (32, false))⟩, ⟨(some 38), (.not (.t 37)), (some (32, false))⟩, ⟨(some 39), (.pick (.t 32) (.c (.d (.bool true))) (.t 38)), none⟩, ⟨(some 40), (.mov (.t 39) true none), none⟩, ⟨(some 41), (.fieldA 5 (.t 2)), (some (40, false))⟩, ⟨(some 42), (.load false 1 (.t 41) false), (some (40, false))⟩, ⟨(some 43), (.len (.t 42)), (some (40, false))⟩, ⟨(some 44), (.fieldA 5 (.t 3)), (some (40, false))⟩, ⟨(some 45), (.load false 1 (.t 44) false), (some (40, false))⟩, ⟨(some 46), (.len (.t 45)), (some (40, false))⟩, ⟨(some 47), (.bin false .neq (.t 43) (.t 46)), (some (40, false))⟩, ⟨(some 48), (.pick (.t 40) (.c (.d (.bool true))) (.t 47)), none⟩]) (.cond (.t 48) (.seq (.ops [⟨(some 4), (.mov (.c (.d (.bool false))) true none), none⟩]) .ret) .skip)) (.seq (.seq (.ops [⟨(some 49), (.fieldA 5 (.t 2)), none⟩, ⟨(some 50), (.load false 1 (.t 49) false), none⟩, ⟨(some 51), (.len (.t 50)), none⟩, ⟨(some 52), (.mov (.c (.d (.int .i64 0))) false none), none⟩]) (.block 0 (.loop (.seq (.ops [⟨(some 53), (.bin false .lss (.t 52) (.t 51)), none⟩]) (.seq (.cond (.t 53) .skip (.exit 0)) (.seq (.block 1 (.seq (.ops [⟨(some 54), (.mov (.t 52) true none), none⟩, ⟨(some 5), (.mov (.t 54) true none), none⟩]) (.seq (.draw [⟨(some 55), (.fieldA 5 (.t 2)), none⟩, ⟨(some 56), (.load false 1 (.t 55) false), none⟩, ⟨(some 57), (.mov (.t 5) false none), none⟩, ⟨(some 58), (.idxA 7 (.t 56) (.t 57)), none⟩, ⟨(some 59), (.load true 7 (.t 58) false), none⟩, ⟨(some 60), (.fieldA 5 (.t 3)), none⟩, ⟨(some 61), (.load false 1 (.t 60) false), none⟩, ⟨(some 62), (.mov (.t 5) false none), none⟩, ⟨(some 63), (.idxA 7 (.t 61) (.t 62)), none⟩, ⟨(some 64), (.load true 7 (.t 63) false), none⟩, ⟨(some 65), (.call 37 [((.t 59), none), ((.t 64), none)] none), none⟩, ⟨(some 66), (.not (.t 65)), none⟩] [0, 0, 0, 0, 0, 0, 0, 0, 0, 0, 3, 3] []) (.cond (.t 66) (.seq (.ops [⟨(some 4), (.mov (.c (.d (.bool false))) true none), none⟩]) .ret) .skip)))) (.ops [⟨(some 67), (.bin false .add (.t 52) (.c (.d (.int .i64 1)))), none⟩, ⟨(some 52), (.mov (.t 67) true none), none⟩]))))))) (.seq (.ops [⟨(some 4), (.mov (.c (.d (.bool true))) true none), none⟩]) .ret)))), [(.tm 4)], 2, 68⟩
theorem t20 : trF P HH8 20 = some af20 := by kernel_rfl
theorem vc20 (s0 : Bytes) (n1 : Int) (n2 : Int) (n3 : Int) (l4 : List D) (l5 : List D) (s6 : Bytes) (n7 : Int) (n8 : Int) (n9 : Int) (l10 : List D) (l11 : List D) (res : CV) (objs' : List (Nat × List CV)) : walkA P (tbF P [102,103,50,48,53,56,105,58,107,7000052] [] 20) (anOf af20 []) af20 [CV.d (D.agg [D.str s0, D.int .i64 n1, D.int .i64 n2, D.int .i64 n3, D.slice 1 l4, D.slice 7 l5]), CV.d (D.agg [D.str s6, D.int .i64 n7, D.int .i64 n8, D.int .i64 n9, D.slice 1 l10, D.slice 7 l11])] [] (fun rs => endE rs res objs') = ((∀ b12 : Bool, ((!s0 == s6 || n1 != n7) = b12 → (∀ b13 : Bool, ((b12 || n2 != n8) = b13 → (∀ b14 : Bool, ((b13 || n3 != n9) = b14 → (∃ b15 : Bool, (((!b14) = true → Runs P 38 [CV.d (D.slice 1 l4), CV.d (D.slice 1 l10)] [] (CV.d (D.bool b15)) []) ∧ (∀ b16 : Bool, ((b14 || !b15) = b16 → (∀ b17 : Bool, ((b16 || nI (List.length l5) != nI (List.length l11)) = b17 → (((b17) = true → EndR (CV.d (D.bool false)) res [(2, [CV.d (D.str s0), CV.d (D.int .i64 n1), CV.d (D.int .i64 n2), CV.d (D.int .i64 n3), CV.d (D.slice 1 l4), CV.d (D.slice 7 l5)]), (3, [CV.d (D.str s6), CV.d (D.int .i64 n7), CV.d (D.int .i64 n8), CV.d (D.int .i64 n9), CV.d (D.slice 1 l10), CV.d (D.slice 7 l11)])] objs') ∧ ((b17) = false → (∃ I18 : (Int → (Nat → Prop)), ((∃ k19 : Nat, I18 0 k19) ∧ (∀ n20 : Int, (∀ k21 : Nat, (I18 n20 k21 → (((decide (n20 < nI (List.length l5))) = true → ((0 ≤ n20 ∧ n20 < nI (List.length l5)) ∧ (∃ n22 : Int, (∃ n23 : Int, (∃ n24 : Int, (∃ s25 : Bytes, (∃ n26 : Int, (∃ l27 : List D, (∃ s28 : Bytes, ((D.cells (List.getD l5 (Int.toNat n20) D.nilp) = [D.int .i64 n22, D.int .i64 n23, D.int .i64 n24, D.str s25, D.int .i64 n26, D.slice 1 l27, D.str s28]) ∧ ((0 ≤ n20 ∧ n20 < nI (List.length l11)) ∧ (∃ n29 : Int, (∃ n30 : Int, (∃ n31 : Int, (∃ s32 : Bytes, (∃ n33 : Int, (∃ l34 : List D, (∃ s35 : Bytes, ((D.cells (List.getD l11 (Int.toNat n20) D.nilp) = [D.int .i64 n29, D.int .i64 n30, D.int .i64 n31, D.str s32, D.int .i64 n33, D.slice 1 l34, D.str s35]) ∧ (∃ b36 : Bool, ((Runs P 37 [CV.d (D.agg [D.int .i64 n22, D.int .i64 n23, D.int .i64 n24, D.str s25, D.int .i64 n26, D.slice 1 l27, D.str s28]), CV.d (D.agg [D.int .i64 n29, D.int .i64 n30, D.int .i64 n31, D.str s32, D.int .i64 n33, D.slice 1 l34, D.str s35])] [] (CV.d (D.bool b36)) []) ∧ (((!b36) = true → EndR (CV.d (D.bool false)) res [(2, [CV.d (D.str s0), CV.d (D.int .i64 n1), CV.d (D.int .i64 n2), CV.d (D.int .i64 n3), CV.d (D.slice 1 l4), CV.d (D.slice 7 l5)]), (3, [CV.d (D.str s6), CV.d (D.int .i64 n7), CV.d (D.int .i64 n8), CV.d (D.int .i64 n9), CV.d (D.slice 1 l10), CV.d (D.slice 7 l11)])] objs') ∧ ((!b36) = false → (∀ n37 : Int, (Go.IntKind.wrap Go.IntKind.i64 (n20 + 1) = n37 → (∃ k38 : Nat, ((k38 < k21) ∧ I18 n37 k38))))))))))))))))))))))))))) ∧ ((decide (n20 < nI (List.length l5))) = false → EndR (CV.d (D.bool true)) res [(2, [CV.d (D.str s0), CV.d (D.int .i64 n1), CV.d (D.int .i64 n2), CV.d (D.int .i64 n3), CV.d (D.slice 1 l4), CV.d (D.slice 7 l5)]), (3, [CV.d (D.str s6), CV.d (D.int .i64 n7), CV.d (D.int .i64 n8), CV.d (D.int .i64 n9), CV.d (D.slice 1 l10), CV.d (D.slice 7 l11)])] objs')))))))))))))))))))))) := by kernel_rfl
def af37 : AF := ⟨(.seq (.ops [⟨(some 2), (.box 7 true (.t 0)), none⟩, ⟨(some 3), (.box 7 true (.t 1)), none⟩, ⟨(some 4), (.mov (.c (.d (.bool false))) true none), none⟩]) (.seq (.ops [⟨(some 5), (.fieldA 0 (.t 2)), none⟩, ⟨(some 6), (.load false 1 (.t 5) false), none⟩, ⟨(some 7), (.fieldA 0 (.t 3)), none⟩, ⟨(some 8), (.load false 1 (.t 7) false), none⟩, ⟨(some 9), (.bin false .eql (.t 6) (.t 8)), none⟩, ⟨(some 10), (.mov (.t 9) true none), none⟩, ⟨(some 11), (.fieldA 1 (.t 2)), (some (10, true))⟩, ⟨(some 12), (.load false 1 (.t 11) false), (some (10, true))⟩, ⟨(some 13), (.fieldA 1 (.t 3)), (some (10, true))⟩, ⟨(some 14), (.load false 1 (.t 13) false), (some (10, true))⟩, ⟨(some 15), (.bin false .eql (.t 12) (.t 14)), (some (10, true))⟩, ⟨(some 16), (.pick (.t 10) (.t 15) (.c (.d (.bool false)))), none⟩, ⟨(some 17), (.mov (.t 16) true none), none⟩, ⟨(some 18), (.fieldA 2 (.t 2)), (some (17, true))⟩, ⟨(some 19), (.load false 1 (.t 18) false), (some (17, true))⟩, ⟨(some 20), (.fieldA 2 (.t 3)), (some (17, true))⟩, ⟨(some 21), (.load false 1 (.t 20) false), (some (17, true))⟩, ⟨(some 22), (.bin false .eql (.t 19) (.t 21)), (some (17, true))⟩, ⟨(some 23), (.pick (.t 17) (.t 22) (.c (.d (.bool false)))), none⟩, ⟨(some 24), (.mov (.t 23) true none), none⟩, ⟨(some 25), (.fieldA 3 (.t 2)), (some (24, true))⟩, ⟨(some 26), (.load false 1 (.t 25) false), (some (24, true))⟩, ⟨(some 27), (.fieldA 3 (.t 3)), (some (24, true))⟩, ⟨(some 28), (.load false 1 (.t 27) false), (some (24, true))⟩, ⟨(some 29), (.bin false .eql (.t 26) (.t 28)), (some (24, true))⟩, ⟨(some 30), (.pick (.t 24) (.t 29) (.c (.d (.bool false)))), none⟩, ⟨(some 31), (.mov (.t 30) true none), none⟩, ⟨(some 32), (.fieldA 4 (.t 2)), (some (31, true))⟩, ⟨(some 33), (.load false 1 (.t 32) false), (some (31, true))⟩, ⟨(some 34), (.fieldA 4 (.t 3)), (some (31, true))⟩, ⟨(some 35), (.load false 1 (.t 34) false), (some (31, true))⟩, ⟨(some 36), (.bin false .eql (.t 33) (.t 35)), (some (31, true))⟩, ⟨(some 37), (.pick (.t 31) (.t 36) (.c (.d (.bool false)))), none⟩, ⟨(some 38), (.mov (.t 37) true none), none⟩, ⟨(some 39), (.fieldA 5 (.t 2)), (some (38, true))⟩, ⟨(some 40), (.load false 1 (.t 39) false), (some (38, true))⟩, ⟨(some 41), (.fieldA 5 (.t 3)), (some (38, true))⟩, ⟨(some 42), (.load false 1 (.t 41) false), (some (38, true))⟩, ⟨(some 43), (.call 87 [((.t 40), (some 1)), ((.t 42), (some 1))] none), (some (38, true))⟩, ⟨(some 44), (.pick (.t 38) (.t 43) (.c (.d (.bool false)))), none⟩, ⟨(some 45), (.mov (.t 44) true none), none⟩, ⟨(some 46), (.fieldA 6 (.t 2)), (some (45, true))⟩, ⟨(some 47), (.load false 1 (.t 46) false), (some (45, true))⟩, ⟨(some 48), (.fieldA 6 (.t 3)), (some (45, true))⟩, ⟨(some 49), (.load false 1 (.t 48) false), (some (45, true))⟩, ⟨(some 50), (.bin false .eql (.t 47) (.t 49)), (some (45, true))⟩, ⟨(some 51), (.pick (.t 45) (.t 50) (.c (.d (.bool false)))), none⟩, ⟨(some 4), (.mov (.t 51) true none), none⟩]) .ret)), [(.tm 4)], 2, 52⟩
theorem t37 : trF P HH8 37 = some af37 := by kernel_rfl
theorem vc37 (n0 : Int) (n1 : Int) (n2 : Int) (s3 : Bytes) (n4 : Int) (l5 : List D) (s6 : Bytes) (n7 : Int) (n8 : Int) (n9 : Int) (s10 : Bytes) (n11 : Int) (l12 : List D) (s13 : Bytes) (res : CV) (objs' : List (Nat × List CV)) : walkA P (tbF P [102,103,50,48,53,56,105,58,107,7000052] [] 37) (anOf af37 []) af37 [CV.d (D.agg [D.int .i64 n0, D.int .i64 n1, D.int .i64 n2, D.str s3, D.int .i64 n4, D.slice 1 l5, D.str s6]), CV.d (D.agg [D.int .i64 n7, D.int .i64 n8, D.int .i64 n9, D.str s10, D.int .i64 n11, D.slice 1 l12, D.str s13])] [] (fun rs => endE rs res objs') = ((∀ b14 : Bool, ((n0 == n7 && n1 == n8) = b14 → (∀ b15 : Bool, ((b14 && n2 == n9) = b15 → (∀ b16 : Bool, ((b15 && s3 == s10) = b16 → (∀ b17 : Bool, ((b16 && n4 == n11) = b17 → (∃ b18 : Bool, ((b17 = true → Runs P 87 [CV.d (D.slice 1 l5), CV.d (D.slice 1 l12)] [] (CV.d (D.bool b18)) []) ∧ (∀ b19 : Bool, ((b17 && b18) = b19 → (∀ b20 : Bool, ((b19 && s6 == s13) = b20 → EndR (CV.d (D.bool b20)) res [(2, [CV.d (D.int .i64 n0), CV.d (D.int .i64 n1), CV.d (D.int .i64 n2), CV.d (D.str s3), CV.d (D.int .i64 n4), CV.d (D.slice 1 l5), CV.d (D.str s6)]), (3, [CV.d (D.int .i64 n7), CV.d (D.int .i64 n8), CV.d (D.int .i64 n9), CV.d (D.str s10), CV.d (D.int .i64 n11), CV.d (D.slice 1 l12), CV.d (D.str s13)])] objs'))))))))))))))) := by kernel_rfl
def af38 : AF := ⟨(.seq (.ops [⟨(some 4), (.mov (.c (.d (.bool false))) true none), none⟩]) (.seq (.seq (.ops [⟨(some 6), (.mov (.t 0) false (some 1)), none⟩, ⟨(some 7), (.len (.t 6)), none⟩, ⟨(some 8), (.mov (.t 1) false (some 1)), none⟩, ⟨(some 9), (.len (.t 8)), none⟩, ⟨(some 10), (.bin false .neq (.t 7) (.t 9)), none⟩]) (.cond (.t 10) (.seq (.ops [⟨(some 4), (.mov (.c (.d (.bool false))) true none), none⟩]) .ret) .skip)) (.seq (.seq (.ops [⟨(some 11), (.mov (.t 0) false (some 1)), none⟩, ⟨(some 12), (.len (.t 11)), none⟩, ⟨(some 13), (.mov (.c (.d (.int .i64 0))) false none), none⟩]) (.block 0 (.loop (.seq (.ops [⟨(some 14), (.bin false .lss (.t 13) (.t 12)), none⟩]) (.seq (.cond (.t 14) .skip (.exit 0)) (.seq (.block 1 (.seq (.ops [⟨(some 15), (.mov (.t 13) true none), none⟩, ⟨(some 5), (.mov (.t 15) true none), none⟩]) (.seq (.draw [⟨(some 16), (.mov (.t 0) false (some 1)), none⟩, ⟨(some 17), (.mov (.t 5) false none), none⟩, ⟨(some 18), (.idxA 1 (.t 16) (.t 17)), none⟩, ⟨(some 19), (.load false 1 (.t 18) false), none⟩, ⟨(some 20), (.mov (.t 1) false (some 1)), none⟩, ⟨(some 21), (.mov (.t 5) false none), none⟩, ⟨(some 22), (.idxA 1 (.t 20) (.t 21)), none⟩, ⟨(some 23), (.load false 1 (.t 22) false), none⟩, ⟨(some 24), (.bin false .neq (.t 19) (.t 23)), none⟩] [0, 0, 0, 0, 0, 0, 0, 0, 3] []) (.cond (.t 24) (.seq (.ops [⟨(some 4), (.mov (.c (.d (.bool false))) true none), none⟩]) .ret) .skip)))) (.ops [⟨(some 25), (.bin false .add (.t 13) (.c (.d (.int .i64 1)))), none⟩, ⟨(some 13), (.mov (.t 25) true none), none⟩]))))))) (.seq (.ops [⟨(some 4), (.mov (.c (.d (.bool true))) true none), none⟩]) .ret)))), [(.tm 4)], 2, 26⟩
theorem t38 : trF P HH8 38 = some af38 := by kernel_rfl
theorem vc38 (l0 : List D) (l1 : List D) (res : CV) (objs' : List (Nat × List CV)) : walkA P (tbF P [102,103,50,48,53,56,105,58,107,7000052] [] 38) (anOf af38 []) af38 [CV.d (D.slice 1 l0), CV.d (D.slice 1 l1)] [] (fun rs => endE rs res objs') = ((((nI (List.length l0) != nI (List.length l1)) = true → EndR (CV.d (D.bool false)) res [] objs') ∧ ((nI (List.length l0) != nI (List.length l1)) = false → (∃ I2 : (Int → (Nat → Prop)), ((∃ k3 : Nat, I2 0 k3) ∧ (∀ n4 : Int, (∀ k5 : Nat, (I2 n4 k5 → (((decide (n4 < nI (List.length l0))) = true → ((0 ≤ n4 ∧ n4 < nI (List.length l0)) ∧ (∃ s6 : Bytes, ((D.cells (List.getD l0 (Int.toNat n4) D.nilp) = [D.str s6]) ∧ ((0 ≤ n4 ∧ n4 < nI (List.length l1)) ∧ (∃ s7 : Bytes, ((D.cells (List.getD l1 (Int.toNat n4) D.nilp) = [D.str s7]) ∧ (((!s6 == s7) = true → EndR (CV.d (D.bool false)) res [] objs') ∧ ((!s6 == s7) = false → (∀ n8 : Int, (Go.IntKind.wrap Go.IntKind.i64 (n4 + 1) = n8 → (∃ k9 : Nat, ((k9 < k5) ∧ I2 n8 k9))))))))))))) ∧ ((decide (n4 < nI (List.length l0))) = false → EndR (CV.d (D.bool true)) res [] objs')))))))))) := by kernel_rfl
def af87 : AF := ⟨(.seq (.ops [⟨(some 4), (.mov (.c (.d (.bool false))) true none), none⟩]) (.seq (.seq (.ops [⟨(some 6), (.mov (.t 0) false (some 1)), none⟩, ⟨(some 7), (.len (.t 6)), none⟩, ⟨(some 8), (.mov (.t 1) false (some 1)), none⟩, ⟨(some 9), (.len (.t 8)), none⟩, ⟨(some 10), (.bin false .neq (.t 7) (.t 9)), none⟩]) (.cond (.t 10) (.seq (.ops [⟨(some 4), (.mov (.c (.d (.bool false))) true none), none⟩]) .ret) .skip)) (.seq (.seq (.ops [⟨(some 11), (.mov (.t 0) false (some 1)), none⟩, ⟨(some 12), (.len (.t 11)), none⟩, ⟨(some 13), (.mov (.c (.d (.int .i64 0))) false none), none⟩]) (.block 0 (.loop (.seq (.ops [⟨(some 14), (.bin false .lss (.t 13) (.t 12)), none⟩]) (.seq (.cond (.t 14) .skip (.exit 0)) (.seq (.block 1 (.seq (.ops [⟨(some 15), (.mov (.t 13) true none), none⟩, ⟨(some 5), (.mov (.t 15) true none), none⟩]) (.seq (.draw [⟨(some 16), (.mov (.t 0) false (some 1)), none⟩, ⟨(some 17), (.mov (.t 5) false none), none⟩, ⟨(some 18), (.idxA 1 (.t 16) (.t 17)), none⟩, ⟨(some 19), (.load false 1 (.t 18) false), none⟩, ⟨(some 20), (.mov (.t 1) false (some 1)), none⟩, ⟨(some 21), (.mov (.t 5) false none), none⟩, ⟨(some 22), (.idxA 1 (.t 20) (.t 21)), none⟩, ⟨(some 23), (.load false 1 (.t 22) false), none⟩, ⟨(some 24), (.bin false .neq (.t 19) (.t 23)), none⟩] [0, 0, 0, 0, 0, 0, 0, 0, 3] []) (.cond (.t 24) (.seq (.ops [⟨(some 4), (.mov (.c (.d (.bool false))) true none), none⟩]) .ret) .skip)))) (.ops [⟨(some 25), (.bin false .add (.t 13) (.c (.d (.int .i64 1)))), none⟩, ⟨(some 13), (.mov (.t 25) true none), none⟩]))))))) (.seq (.ops [⟨(some 4), (.mov (.c (.d (.bool true))) true none), none⟩]) .ret)))), [(.tm 4)], 2, 26⟩
theorem t87 : trF P HH8 87 = some af87 := by kernel_rfl
theorem vc87 (l0 : List D) (l1 : List D) (res : CV) (objs' : List (Nat × List CV)) : walkA P (tbF P [102,103,50,48,53,56,105,58,107,7000052] [] 87) (anOf af87 []) af87 [CV.d (D.slice 1 l0), CV.d (D.slice 1 l1)] [] (fun rs => endE rs res objs') = ((((nI (List.length l0) != nI (List.length l1)) = true → EndR (CV.d (D.bool false)) res [] objs') ∧ ((nI (List.length l0) != nI (List.length l1)) = false → (∃ I2 : (Int → (Nat → Prop)), ((∃ k3 : Nat, I2 0 k3) ∧ (∀ n4 : Int, (∀ k5 : Nat, (I2 n4 k5 → (((decide (n4 < nI (List.length l0))) = true → ((0 ≤ n4 ∧ n4 < nI (List.length l0)) ∧ (∃ n6 : Int, ((D.cells (List.getD l0 (Int.toNat n4) D.nilp) = [D.int .i64 n6]) ∧ ((0 ≤ n4 ∧ n4 < nI (List.length l1)) ∧ (∃ n7 : Int, ((D.cells (List.getD l1 (Int.toNat n4) D.nilp) = [D.int .i64 n7]) ∧ (((n6 != n7) = true → EndR (CV.d (D.bool false)) res [] objs') ∧ ((n6 != n7) = false → (∀ n8 : Int, (Go.IntKind.wrap Go.IntKind.i64 (n4 + 1) = n8 → (∃ k9 : Nat, ((k9 < k5) ∧ I2 n8 k9))))))))))))) ∧ ((decide (n4 < nI (List.length l0))) = false → EndR (CV.d (D.bool true)) res [] objs')))))))))) := by kernel_rfl
end B
end Go.Proofs.YtmkkljbfmdngfaaDoor
namespace Go.Proofs.YtmkkljbfmdngfaaDoor
namespace B
open Go.RowKit
theorem r87 (a b : List Int) (ha : a.length ≤ 9223372036854775806) : Runs P 87 [.d (.slice 1 (ints a)), .d (.slice 1 (ints b))] [] (.d (.bool (a == b))) [] := by
  refine runs_walkA t87 rfl (vc87 _ _ _ _) (by simp) ?_
  rw [ints_len, ints_len]
  have no : a ≠ b → EndR (.d (.bool false)) (.d (.bool (a == b))) [] [] := fun h => endB (by simp [h])
  refine ⟨fun h => no (by rintro rfl; simp at h), fun h => ?_⟩
  have hl : a.length = b.length := by simp [nI] at h; omega
  refine range1 (N := a.length) (fun i => a.take i = b.take i) ha (by simp) (fun i hi bd hJ I k next => ?_) fun hJ => ?_
  · have hi2 : i < b.length := by omega
    refine ⟨bd, a[i], by rw [ints_get _ hi]; rfl, ⟨by omega, by simp only [nI]; omega⟩, b[i], by rw [ints_get _ hi2]; rfl, fun h => no (by rintro rfl; simp at h), fun h => ?_⟩
    have he : a[i] = b[i] := by simpa using h
    exact next (by rw [List.take_add_one, List.take_add_one, hJ, List.getElem?_eq_getElem hi, List.getElem?_eq_getElem hi2, he])
  · have : a = b := by
      rw [List.take_length] at hJ
      rw [hJ, hl, List.take_length]
    exact endB (by simp [this])
theorem r38 (a b : List Bytes) (ha : a.length ≤ 9223372036854775806) : Runs P 38 [.d (.slice 1 (strs a)), .d (.slice 1 (strs b))] [] (.d (.bool (a == b))) [] := by
  refine runs_walkA t38 rfl (vc38 _ _ _ _) (by simp) ?_
  rw [strs_len, strs_len]
  have no : a ≠ b → EndR (.d (.bool false)) (.d (.bool (a == b))) [] [] := fun h => endB (by simp [h])
  refine ⟨fun h => no (by rintro rfl; simp at h), fun h => ?_⟩
  have hl : a.length = b.length := by simp [nI] at h; omega
  refine range1 (N := a.length) (fun i => a.take i = b.take i) ha (by simp) (fun i hi bd hJ I k next => ?_) fun hJ => ?_
  · have hi2 : i < b.length := by omega
    refine ⟨bd, a[i], by rw [strs_get _ hi]; rfl, ⟨by omega, by simp only [nI]; omega⟩, b[i], by rw [strs_get _ hi2]; rfl, fun h => no (by rintro rfl; simp at h), fun h => ?_⟩
    have he : a[i] = b[i] := by simpa using h
    exact next (by rw [List.take_add_one, List.take_add_one, hJ, List.getElem?_eq_getElem hi, List.getElem?_eq_getElem hi2, he])
  · have : a = b := by
      rw [List.take_length] at hJ
      rw [hJ, hl, List.take_length]
    exact endB (by simp [this])
def sameM (a b : Msg) : Bool := (((((a.uid == b.uid && a.mod == b.mod) && a.date == b.date) && a.id == b.id) && a.flags == b.flags) && a.keys == b.keys) && a.text == b.text
theorem sameM_iff {a b : Msg} : sameM a b = true ↔ a = b := by
  cases a; cases b
  unfold sameM
  simp only [Bool.and_eq_true, beq_iff_eq, Msg.mk.injEq]
  constructor
  · rintro ⟨⟨⟨⟨⟨⟨rfl, rfl⟩, rfl⟩, rfl⟩, rfl⟩, rfl⟩, rfl⟩; simp
  · rintro ⟨rfl, rfl, rfl, rfl, rfl, rfl, rfl⟩; simp
theorem r37 (a b : Msg) (ha : a.keys.length ≤ 9223372036854775806) : Runs P 37 [.d a.d, .d b.d] [] (.d (.bool (sameM a b))) [] := by
  refine runs_walkA t37 rfl (vc37 _ _ _ _ _ _ _ _ _ _ _ _ _ _ _ _) (by simp) ?_
  rintro _ rfl _ rfl _ rfl _ rfl
  refine ⟨_, fun _ => r87 _ _ ha, ?_⟩
  rintro _ rfl _ rfl
  exact endB rfl
def sameMs : List Msg → List Msg → Bool
  | [], [] => true
  | a :: r, b :: t => sameM a b && sameMs r t
  | _, _ => false
theorem sameMs_iff : ∀ {a b : List Msg}, sameMs a b = true ↔ a = b
  | [], [] => by simp [sameMs]
  | a :: r, b :: t => by simp only [sameMs, Bool.and_eq_true, sameM_iff, sameMs_iff, List.cons.injEq]
  | [], _ :: _ => by simp [sameMs]
  | _ :: _, [] => by simp [sameMs]
def sameB (a b : Box) : Bool := !(((((!(a.id == b.id) || a.valid != b.valid) || a.next != b.next) || a.high != b.high) || !(a.words == b.words)) || a.msgs.length != b.msgs.length) && sameMs a.msgs b.msgs
theorem sameB_iff {a b : Box} : sameB a b = true ↔ a = b := by
  cases a; cases b
  unfold sameB
  simp only [Bool.and_eq_true, Bool.not_eq_true', Bool.or_eq_false_iff, Bool.not_eq_false', beq_iff_eq, bne_eq_false_iff_eq, sameMs_iff, Box.mk.injEq]
  constructor
  · rintro ⟨⟨⟨⟨⟨⟨rfl, rfl⟩, rfl⟩, rfl⟩, rfl⟩, _⟩, rfl⟩; simp
  · rintro ⟨rfl, rfl, rfl, rfl, rfl, rfl⟩; simp
theorem r20 (a b : Box) (ha : BoxOk a) : Runs P 20 [.d a.d, .d b.d] [] (.d (.bool (sameB a b))) [] := by
  refine runs_walkA t20 rfl (vc20 _ _ _ _ _ _ _ _ _ _ _ _ _ _) (by simp) ?_
  simp only [nI, List.length_map]
  rintro _ rfl _ rfl _ rfl
  refine ⟨_, fun _ => r38 _ _ ha.nw, ?_⟩
  rintro _ rfl b17 h17
  have e17 : b17 = (((((!(a.id == b.id) || a.valid != b.valid) || a.next != b.next) || a.high != b.high) || !(a.words == b.words)) || a.msgs.length != b.msgs.length) := by
    rw [← h17]
    congr 1
    rw [Bool.eq_iff_iff]; simp only [bne_iff_ne, ne_eq]; omega
  refine ⟨fun h => endB ?_, fun h => ?_⟩
  · unfold sameB; rw [← e17, h]; rfl
  have hs : sameB a b = sameMs a.msgs b.msgs := by unfold sameB; rw [← e17, h]; rfl
  have hl : a.msgs.length = b.msgs.length := by
    rw [h] at e17
    have := e17.symm
    simp only [Bool.or_eq_false_iff, bne_eq_false_iff_eq] at this
    exact this.2
  rw [hs]
  refine range1 (N := a.msgs.length) (fun i => sameMs (a.msgs.drop i) (b.msgs.drop i) = sameMs a.msgs b.msgs) ha.nm rfl (fun i hi bd hJ I k next => ?_) fun hJ => ?_
  · have hi2 : i < b.msgs.length := by omega
    refine ⟨⟨bd.1, by have := bd.2; simpa [nI] using this⟩, _, _, _, _, _, _, _, by rw [msgs_get _ hi]; rfl, ⟨by omega, by omega⟩, _, _, _, _, _, _, _, by rw [msgs_get _ hi2]; rfl, _, r37 a.msgs[i] b.msgs[i] (ha.msgs _ (List.getElem_mem hi)).keys, ?_⟩
    rw [drop_cons hi, drop_cons hi2, sameMs] at hJ
    refine ⟨fun h => endB ?_, fun h => next ?_⟩
    · have h : sameM a.msgs[i] b.msgs[i] = false := by simpa using h
      rw [← hJ, h]; rfl
    · have h : sameM a.msgs[i] b.msgs[i] = true := by simpa using h
      rw [← hJ, h, Bool.true_and]
  · rw [List.drop_length, hl, List.drop_length] at hJ
    exact endB hJ

end B
end Go.Proofs.YtmkkljbfmdngfaaDoor
