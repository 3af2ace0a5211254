/- The line's channel, walked: Put, Take, Len, Room, New. No condition. -/
import Derived.Test.YtednbnhaohbnjaaProg
import Derived.Conc.LoneSelect
import Derived.Conc.LoneSelectN
import Derived.KernelRfl
import Derived.Laws.Rows
import Derived.WalkKit
import Derived.RegionTactic
import Derived.ChangeAlike
import Derived.Deep.QuietTactic
import Derived.BigQuiet
import Derived.IntWalk
set_option linter.all false
namespace Go.Proofs.Ytednbnhaohbnjaa
namespace LW
open Go.Conc Go.RowKit

theorem bytes9 : ∃ i, Try.prog.info? 9 = some i ∧ i.bytes = 16 := by
  have h : (Try.prog.info? 9).map (·.bytes) = some 16 := by kernel_rfl
  obtain ⟨i, hi, hb⟩ := Option.map_eq_some_iff.1 h
  exact ⟨i, hi, hb⟩

set_option maxRecDepth 100000 in
theorem put9_room (w : World) (lb g cap s r : Nat) (x : Value) (buf : Array Value) (h1 : w.cell? ⟨lb, 0, none⟩ = some (.chan (some g))) (h2 : w.heap[g]? = some (.chan cap buf false s r false)) (hr : buf.size < cap) :
    Calls Try.prog 9 #[.pointer (some ⟨lb, 0, none⟩), x] w fun e w' => e = .returned (.bool true) ∧ w' = w.setChan g cap (buf.push x) false (s + 1) r false := by
  refine calls_of_loneTo fun cs => ?_
  have e : Frame.enter Try.prog 9 #[.pointer (some ⟨lb, 0, none⟩), x] .normal = (base 9).at ⟨#[.pointer (some ⟨lb, 0, none⟩), x, undef, undef, undef, undef, undef, undef, undef, undef, undef, undef, undef, undef, undef], []⟩ [.code (Try.f9.body.getD .skip)] := by
    simp [Frame.enter, Frame.at, Try.func9, base, Try.f9]
  rw [e]
  refine LoneTo.goes (n := 30) ?_
  simp only [Try.f9, Option.getD_some]
  s_c stepG_seq
  s_reg
  s_op
  s_c stepG_region_end
  s_c stepG_seq
  s_c stepG_seq
  s_reg
  s_op
  s_op
  s_c stepG_region_end
  s_cond false
  s_c stepG_skip
  s_c stepG_seq
  s_c stepG_seq
  s_reg
  s_op
  s_op
  s_op
  s_op
  s_c stepG_region_end
  s_reg
  s_op
  s_c stepG_region_end
  s_c stepG_seq
  s_reg
  s_stop
  refine LoneTo.step (step_lone_select_send_room (c := g) (cap := cap) (buf := buf) (s := s) (r := r) (tm := false) (stepG_comm (cases := #[scase g x (.string ⟨#[]⟩)]) (blocking := false) (shape := .select) (w' := w) rfl rfl (by decide) (by simp [go_sem, execOp, scase, Act.eval])) h2 hr) ?_
  rw [Frame.finish_at]
  walk_nrm
  refine LoneTo.goes (n := 20) ?_
  s_op
  s_op
  s_c stepG_region_end
  s_c stepG_block
  s_cond true
  s_c stepG_seq
  s_reg
  s_op
  s_c stepG_region_end
  s_c stepG_ret'
  s_stop
  exact LoneTo.done ⟨.returned (.bool true), _, rfl, ⟨rfl, rfl⟩, rfl, rfl, rfl, rfl, _, Try.func9, by simp [results, Try.f9, Frame.at]⟩

set_option maxRecDepth 100000 in
theorem put9_full (w : World) (lb g cap s r : Nat) (x : Value) (buf : Array Value) (h1 : w.cell? ⟨lb, 0, none⟩ = some (.chan (some g))) (h2 : w.heap[g]? = some (.chan cap buf false s r false)) (hr : cap ≤ buf.size) :
    Calls Try.prog 9 #[.pointer (some ⟨lb, 0, none⟩), x] w fun e w' => e = .returned (.bool false) ∧ w' = w := by
  refine calls_of_loneTo fun cs => ?_
  have e : Frame.enter Try.prog 9 #[.pointer (some ⟨lb, 0, none⟩), x] .normal = (base 9).at ⟨#[.pointer (some ⟨lb, 0, none⟩), x, undef, undef, undef, undef, undef, undef, undef, undef, undef, undef, undef, undef, undef], []⟩ [.code (Try.f9.body.getD .skip)] := by
    simp [Frame.enter, Frame.at, Try.func9, base, Try.f9]
  rw [e]
  refine LoneTo.goes (n := 30) ?_
  simp only [Try.f9, Option.getD_some]
  s_c stepG_seq
  s_reg
  s_op
  s_c stepG_region_end
  s_c stepG_seq
  s_c stepG_seq
  s_reg
  s_op
  s_op
  s_c stepG_region_end
  s_cond false
  s_c stepG_skip
  s_c stepG_seq
  s_c stepG_seq
  s_reg
  s_op
  s_op
  s_op
  s_op
  s_c stepG_region_end
  s_reg
  s_op
  s_c stepG_region_end
  s_c stepG_seq
  s_reg
  s_stop
  refine LoneTo.step (step_lone_select_send_full (c := g) (cap := cap) (buf := buf) (s := s) (r := r) (tm := false) (stepG_comm (cases := #[scase g x (.string ⟨#[]⟩)]) (blocking := false) (shape := .select) (w' := w) rfl rfl (by decide) (by simp [go_sem, execOp, scase, Act.eval])) h2 hr) ?_
  rw [Frame.finish_at]
  walk_nrm
  refine LoneTo.goes (n := 20) ?_
  s_op
  s_op
  s_c stepG_region_end
  s_c stepG_block
  s_cond false
  s_c stepG_seq
  s_reg
  s_op
  s_c stepG_region_end
  s_c stepG_ret'
  s_stop
  exact LoneTo.done ⟨.returned (.bool false), _, rfl, ⟨rfl, rfl⟩, rfl, rfl, rfl, rfl, _, Try.func9, by simp [results, Try.f9, Frame.at]⟩

set_option maxRecDepth 100000 in
theorem take11_some (w : World) (lb g cap s r : Nat) (buf : Array Value) (h1 : w.cell? ⟨lb, 0, none⟩ = some (.chan (some g))) (h2 : w.heap[g]? = some (.chan cap buf false s r false)) (hr : 0 < buf.size) :
    Calls Try.prog 11 #[.pointer (some ⟨lb, 0, none⟩)] w fun e w' => e = .returned (.tuple #[buf.getD 0 undef, .bool true]) ∧ w' = w.setChan g cap (buf.extract 1 buf.size) false s (r + 1) false := by
  refine calls_of_loneTo fun cs => ?_
  have e : Frame.enter Try.prog 11 #[.pointer (some ⟨lb, 0, none⟩)] .normal = (base 11).at ⟨#[.pointer (some ⟨lb, 0, none⟩), undef, undef, undef, undef, undef, undef, undef, undef, undef, undef, undef, undef, undef, undef, undef, undef], []⟩ [.code (Try.f11.body.getD .skip)] := by
    simp [Frame.enter, Frame.at, Try.func11, base, Try.f11]
  rw [e]
  refine LoneTo.goes (n := 40) ?_
  simp only [Try.f11, Option.getD_some]
  s_c stepG_seq
  s_reg
  s_op
  s_op
  s_c stepG_region_end
  s_c stepG_seq
  s_c stepG_seq
  s_reg
  s_op
  s_op
  s_c stepG_region_end
  s_cond false
  s_c stepG_skip
  s_c stepG_seq
  s_reg
  s_op
  s_op
  s_op
  s_op
  s_c stepG_region_end
  s_c stepG_seq
  s_reg
  s_stop
  refine LoneTo.step (step_lone_select_recv_buf (c := g) (cap := cap) (buf := buf) (s := s) (r := r) (tm := false) (closed := false) (stepG_comm (cases := #[rcase g (.string ⟨#[]⟩)]) (blocking := false) (shape := .select) (w' := w) rfl rfl (by decide) (by simp [go_sem, execOp, rcase, Act.eval])) h2 hr) ?_
  rw [Frame.finish_at]
  generalize buf.getD 0 undef = v
  walk_nrm
  refine LoneTo.goes (n := 30) ?_
  s_op
  s_op
  s_c stepG_region_end
  s_c stepG_block
  s_cond true
  s_c stepG_seq
  s_reg
  s_op
  s_op
  s_c stepG_region_end
  s_c stepG_seq
  s_reg
  s_op
  s_op
  s_op
  s_c stepG_region_end
  s_c stepG_ret'
  s_stop
  exact LoneTo.done ⟨.returned (.tuple #[v, .bool true]), _, rfl, ⟨rfl, rfl⟩, rfl, rfl, rfl, rfl, _, Try.func11, by simp [results, Try.f11, Frame.at]⟩

set_option maxRecDepth 100000 in
theorem len10 (w : World) (lb g cap s r : Nat) (buf : Array Value) (h1 : w.cell? ⟨lb, 0, none⟩ = some (.chan (some g))) (h2 : w.heap[g]? = some (.chan cap buf false s r false)) :
    Calls Try.prog 10 #[.pointer (some ⟨lb, 0, none⟩)] w fun e w' => e = .returned (.int .i64 buf.size) ∧ w' = w := by
  have hlen := fun ty => run_len_chan (P := Try.prog) 44 ty Try.underlying44 h2
  go_enter Try.func10, Try.ntmps10
  go_wp2
  go_ret
  exact ⟨rfl, rfl⟩

set_option maxRecDepth 100000 in
theorem room18 (w : World) (lb g cap s r : Nat) (buf : Array Value) (h1 : w.cell? ⟨lb, 0, none⟩ = some (.chan (some g))) (h2 : w.heap[g]? = some (.chan cap buf false s r false)) (hc : cap ≤ 1000) (hb : buf.size ≤ 1000) :
    Calls Try.prog 18 #[.pointer (some ⟨lb, 0, none⟩)] w fun e w' => e = .returned (.int .i64 ((cap : Int) - buf.size)) ∧ ∃ n, w' = w.drewN n := by
  have hlen : ∀ n ty, (Builtin.len_ #[44] ty #[.chan (some g)]).run Try.prog (w.drewN n) = .ok (.int .i64 buf.size) (w.drewN n) := fun n ty => run_len_chan (P := Try.prog) 44 ty Try.underlying44 (w := w.drewN n) h2
  have hcap : ∀ n ty, (Builtin.cap_ #[44] ty #[.chan (some g)]).run Try.prog (w.drewN n) = .ok (.int .i64 cap) (w.drewN n) := fun n ty => run_cap_chan (P := Try.prog) 44 ty Try.underlying44 (w := w.drewN n) h2
  have hw : IntKind.i64.wrap ((cap : Int) - buf.size) = (cap : Int) - buf.size := IntWalk.i64_in _ (by omega)
  generalize buf.size = b at *
  clear h2 hc hb
  go_enter Try.func18, Try.ntmps18
  go_wp2
  go_quiet (fail)
  go_wp2
  go_ret
  exact ⟨rfl, _, rfl⟩

set_option maxRecDepth 100000 in
theorem new8 (most : Int) (n : Nat) (hn : (n : Int) = min (max most 0) 1000) (w : World) :
    Calls Try.prog 8 #[.int .i64 most] w fun e w' => e = .returned (.pointer (some ⟨w.heap.size + 1, 0, none⟩)) ∧ w' = (w.alloc (.chan n #[] false 0 0 false)).alloc (.cells #[.chan (some w.heap.size)] 46) := by
  obtain ⟨i, hi, hb⟩ := bytes9
  have hmk : (Instr.makeChan 44 (.int .i64 n)).run Try.prog w = .ok (.chan (some w.heap.size)) (w.alloc (.chan n #[] false 0 0 false)) := by
    simpa using run_makeChan (P := Try.prog) (w := w) Try.underlying44 hi .i64 n (by omega) (by rw [hb]; omega)
  have hcase : (most < 0 ∧ n = 0) ∨ (1000 < most ∧ n = 1000) ∨ (0 ≤ most ∧ most ≤ 1000 ∧ most = n) := by omega
  clear hn
  rcases hcase with ⟨h, rfl⟩ | ⟨h, rfl⟩ | ⟨h, h', rfl⟩
  · have hmk0 : (Instr.makeChan 44 (.int .i64 0)).run Try.prog w = .ok (.chan (some w.heap.size)) (w.alloc (.chan 0 #[] false 0 0 false)) := hmk
    clear hmk
    have h0 : ¬ most > 0 := by omega
    go_enter Try.func8, Try.ntmps8
    go_wp2
    go_ret
    exact ⟨rfl, rfl⟩
  · have hmk0 : (Instr.makeChan 44 (.int .i64 1000)).run Try.prog w = .ok (.chan (some w.heap.size)) (w.alloc (.chan 1000 #[] false 0 0 false)) := hmk
    clear hmk
    have h0 : 0 < most := by omega
    go_enter Try.func8, Try.ntmps8
    go_wp2
    go_ret
    exact ⟨rfl, rfl⟩
  · go_enter Try.func8, Try.ntmps8
    go_wp2
    go_ret
    exact ⟨rfl, rfl⟩

theorem bytes3 : ∃ i, Try.prog.info? 3 = some i ∧ i.bytes = 8 := by
  have h : (Try.prog.info? 3).map (·.bytes) = some 8 := by kernel_rfl
  obtain ⟨i, hi, hb⟩ := Option.map_eq_some_iff.1 h
  exact ⟨i, hi, hb⟩

set_option maxRecDepth 100000 in
theorem put13_room (w : World) (lb g cap s r : Nat) (x : Value) (buf : Array Value) (h1 : w.cell? ⟨lb, 0, none⟩ = some (.chan (some g))) (h2 : w.heap[g]? = some (.chan cap buf false s r false)) (hr : buf.size < cap) :
    Calls Try.prog 13 #[.pointer (some ⟨lb, 0, none⟩), x] w fun e w' => e = .returned (.bool true) ∧ w' = w.setChan g cap (buf.push x) false (s + 1) r false := by
  refine calls_of_loneTo fun cs => ?_
  have e : Frame.enter Try.prog 13 #[.pointer (some ⟨lb, 0, none⟩), x] .normal = (base 13).at ⟨#[.pointer (some ⟨lb, 0, none⟩), x, undef, undef, undef, undef, undef, undef, undef, undef, undef, undef, undef, undef, undef], []⟩ [.code (Try.f13.body.getD .skip)] := by
    simp [Frame.enter, Frame.at, Try.func13, base, Try.f13]
  rw [e]
  refine LoneTo.goes (n := 30) ?_
  simp only [Try.f13, Option.getD_some]
  s_c stepG_seq
  s_reg
  s_op
  s_c stepG_region_end
  s_c stepG_seq
  s_c stepG_seq
  s_reg
  s_op
  s_op
  s_c stepG_region_end
  s_cond false
  s_c stepG_skip
  s_c stepG_seq
  s_c stepG_seq
  s_reg
  s_op
  s_op
  s_op
  s_op
  s_c stepG_region_end
  s_reg
  s_op
  s_c stepG_region_end
  s_c stepG_seq
  s_reg
  s_stop
  refine LoneTo.step (step_lone_select_send_room (c := g) (cap := cap) (buf := buf) (s := s) (r := r) (tm := false) (stepG_comm (cases := #[scase g x (.int .i64 0)]) (blocking := false) (shape := .select) (w' := w) rfl rfl (by decide) (by simp [go_sem, execOp, scase, Act.eval])) h2 hr) ?_
  rw [Frame.finish_at]
  walk_nrm
  refine LoneTo.goes (n := 20) ?_
  s_op
  s_op
  s_c stepG_region_end
  s_c stepG_block
  s_cond true
  s_c stepG_seq
  s_reg
  s_op
  s_c stepG_region_end
  s_c stepG_ret'
  s_stop
  exact LoneTo.done ⟨.returned (.bool true), _, rfl, ⟨rfl, rfl⟩, rfl, rfl, rfl, rfl, _, Try.func13, by simp [results, Try.f13, Frame.at]⟩

set_option maxRecDepth 100000 in
theorem put13_full (w : World) (lb g cap s r : Nat) (x : Value) (buf : Array Value) (h1 : w.cell? ⟨lb, 0, none⟩ = some (.chan (some g))) (h2 : w.heap[g]? = some (.chan cap buf false s r false)) (hr : cap ≤ buf.size) :
    Calls Try.prog 13 #[.pointer (some ⟨lb, 0, none⟩), x] w fun e w' => e = .returned (.bool false) ∧ w' = w := by
  refine calls_of_loneTo fun cs => ?_
  have e : Frame.enter Try.prog 13 #[.pointer (some ⟨lb, 0, none⟩), x] .normal = (base 13).at ⟨#[.pointer (some ⟨lb, 0, none⟩), x, undef, undef, undef, undef, undef, undef, undef, undef, undef, undef, undef, undef, undef], []⟩ [.code (Try.f13.body.getD .skip)] := by
    simp [Frame.enter, Frame.at, Try.func13, base, Try.f13]
  rw [e]
  refine LoneTo.goes (n := 30) ?_
  simp only [Try.f13, Option.getD_some]
  s_c stepG_seq
  s_reg
  s_op
  s_c stepG_region_end
  s_c stepG_seq
  s_c stepG_seq
  s_reg
  s_op
  s_op
  s_c stepG_region_end
  s_cond false
  s_c stepG_skip
  s_c stepG_seq
  s_c stepG_seq
  s_reg
  s_op
  s_op
  s_op
  s_op
  s_c stepG_region_end
  s_reg
  s_op
  s_c stepG_region_end
  s_c stepG_seq
  s_reg
  s_stop
  refine LoneTo.step (step_lone_select_send_full (c := g) (cap := cap) (buf := buf) (s := s) (r := r) (tm := false) (stepG_comm (cases := #[scase g x (.int .i64 0)]) (blocking := false) (shape := .select) (w' := w) rfl rfl (by decide) (by simp [go_sem, execOp, scase, Act.eval])) h2 hr) ?_
  rw [Frame.finish_at]
  walk_nrm
  refine LoneTo.goes (n := 20) ?_
  s_op
  s_op
  s_c stepG_region_end
  s_c stepG_block
  s_cond false
  s_c stepG_seq
  s_reg
  s_op
  s_c stepG_region_end
  s_c stepG_ret'
  s_stop
  exact LoneTo.done ⟨.returned (.bool false), _, rfl, ⟨rfl, rfl⟩, rfl, rfl, rfl, rfl, _, Try.func13, by simp [results, Try.f13, Frame.at]⟩

set_option maxRecDepth 100000 in
theorem take14_some (w : World) (lb g cap s r : Nat) (buf : Array Value) (h1 : w.cell? ⟨lb, 0, none⟩ = some (.chan (some g))) (h2 : w.heap[g]? = some (.chan cap buf false s r false)) (hr : 0 < buf.size) :
    Calls Try.prog 14 #[.pointer (some ⟨lb, 0, none⟩)] w fun e w' => e = .returned (.tuple #[buf.getD 0 undef, .bool true]) ∧ w' = w.setChan g cap (buf.extract 1 buf.size) false s (r + 1) false := by
  refine calls_of_loneTo fun cs => ?_
  have e : Frame.enter Try.prog 14 #[.pointer (some ⟨lb, 0, none⟩)] .normal = (base 14).at ⟨#[.pointer (some ⟨lb, 0, none⟩), undef, undef, undef, undef, undef, undef, undef, undef, undef, undef, undef, undef, undef, undef, undef, undef], []⟩ [.code (Try.f14.body.getD .skip)] := by
    simp [Frame.enter, Frame.at, Try.func14, base, Try.f14]
  rw [e]
  refine LoneTo.goes (n := 40) ?_
  simp only [Try.f14, Option.getD_some]
  s_c stepG_seq
  s_reg
  s_op
  s_op
  s_c stepG_region_end
  s_c stepG_seq
  s_c stepG_seq
  s_reg
  s_op
  s_op
  s_c stepG_region_end
  s_cond false
  s_c stepG_skip
  s_c stepG_seq
  s_reg
  s_op
  s_op
  s_op
  s_op
  s_c stepG_region_end
  s_c stepG_seq
  s_reg
  s_stop
  refine LoneTo.step (step_lone_select_recv_buf (c := g) (cap := cap) (buf := buf) (s := s) (r := r) (tm := false) (closed := false) (stepG_comm (cases := #[rcase g (.int .i64 0)]) (blocking := false) (shape := .select) (w' := w) rfl rfl (by decide) (by simp [go_sem, execOp, rcase, Act.eval])) h2 hr) ?_
  rw [Frame.finish_at]
  generalize buf.getD 0 undef = v
  walk_nrm
  refine LoneTo.goes (n := 30) ?_
  s_op
  s_op
  s_c stepG_region_end
  s_c stepG_block
  s_cond true
  s_c stepG_seq
  s_reg
  s_op
  s_op
  s_c stepG_region_end
  s_c stepG_seq
  s_reg
  s_op
  s_op
  s_op
  s_c stepG_region_end
  s_c stepG_ret'
  s_stop
  exact LoneTo.done ⟨.returned (.tuple #[v, .bool true]), _, rfl, ⟨rfl, rfl⟩, rfl, rfl, rfl, rfl, _, Try.func14, by simp [results, Try.f14, Frame.at]⟩

set_option maxRecDepth 100000 in
theorem take14_none (w : World) (lb g cap s r : Nat) (h1 : w.cell? ⟨lb, 0, none⟩ = some (.chan (some g))) (h2 : w.heap[g]? = some (.chan cap #[] false s r false)) :
    Calls Try.prog 14 #[.pointer (some ⟨lb, 0, none⟩)] w fun e w' => e = .returned (.tuple #[.int .i64 0, .bool false]) ∧ w' = w := by
  refine calls_of_loneTo fun cs => ?_
  have e : Frame.enter Try.prog 14 #[.pointer (some ⟨lb, 0, none⟩)] .normal = (base 14).at ⟨#[.pointer (some ⟨lb, 0, none⟩), undef, undef, undef, undef, undef, undef, undef, undef, undef, undef, undef, undef, undef, undef, undef, undef], []⟩ [.code (Try.f14.body.getD .skip)] := by
    simp [Frame.enter, Frame.at, Try.func14, base, Try.f14]
  rw [e]
  refine LoneTo.goes (n := 40) ?_
  simp only [Try.f14, Option.getD_some]
  s_c stepG_seq
  s_reg
  s_op
  s_op
  s_c stepG_region_end
  s_c stepG_seq
  s_c stepG_seq
  s_reg
  s_op
  s_op
  s_c stepG_region_end
  s_cond false
  s_c stepG_skip
  s_c stepG_seq
  s_reg
  s_op
  s_op
  s_op
  s_op
  s_c stepG_region_end
  s_c stepG_seq
  s_reg
  s_stop
  refine LoneTo.step (step_lone_select_default (c := g) (cap := cap) (s := s) (r := r) (tm := false) (stepG_comm (cases := #[rcase g (.int .i64 0)]) (blocking := false) (shape := .select) (w' := w) rfl rfl (by decide) (by simp [go_sem, execOp, rcase, Act.eval])) h2) ?_
  rw [Frame.finish_at]
  walk_nrm
  refine LoneTo.goes (n := 30) ?_
  s_op
  s_op
  s_c stepG_region_end
  s_c stepG_block
  s_cond false
  s_c stepG_seq
  s_reg
  s_op
  s_op
  s_op
  s_c stepG_region_end
  s_c stepG_ret'
  s_stop
  exact LoneTo.done ⟨.returned (.tuple #[.int .i64 0, .bool false]), _, rfl, ⟨rfl, rfl⟩, rfl, rfl, rfl, rfl, _, Try.func14, by simp [results, Try.f14, Frame.at]⟩

set_option maxRecDepth 100000 in
theorem len16 (w : World) (lb g cap s r : Nat) (buf : Array Value) (h1 : w.cell? ⟨lb, 0, none⟩ = some (.chan (some g))) (h2 : w.heap[g]? = some (.chan cap buf false s r false)) :
    Calls Try.prog 16 #[.pointer (some ⟨lb, 0, none⟩)] w fun e w' => e = .returned (.int .i64 buf.size) ∧ w' = w := by
  have hlen := fun ty => run_len_chan (P := Try.prog) 47 ty Try.underlying47 h2
  go_enter Try.func16, Try.ntmps16
  go_wp2
  go_ret
  exact ⟨rfl, rfl⟩

set_option maxRecDepth 100000 in
theorem room17 (w : World) (lb g cap s r : Nat) (buf : Array Value) (h1 : w.cell? ⟨lb, 0, none⟩ = some (.chan (some g))) (h2 : w.heap[g]? = some (.chan cap buf false s r false)) (hc : cap ≤ 1000) (hb : buf.size ≤ 1000) :
    Calls Try.prog 17 #[.pointer (some ⟨lb, 0, none⟩)] w fun e w' => e = .returned (.int .i64 ((cap : Int) - buf.size)) ∧ ∃ n, w' = w.drewN n := by
  have hlen : ∀ n ty, (Builtin.len_ #[47] ty #[.chan (some g)]).run Try.prog (w.drewN n) = .ok (.int .i64 buf.size) (w.drewN n) := fun n ty => run_len_chan (P := Try.prog) 47 ty Try.underlying47 (w := w.drewN n) h2
  have hcap : ∀ n ty, (Builtin.cap_ #[47] ty #[.chan (some g)]).run Try.prog (w.drewN n) = .ok (.int .i64 cap) (w.drewN n) := fun n ty => run_cap_chan (P := Try.prog) 47 ty Try.underlying47 (w := w.drewN n) h2
  have hw : IntKind.i64.wrap ((cap : Int) - buf.size) = (cap : Int) - buf.size := IntWalk.i64_in _ (by omega)
  generalize buf.size = b at *
  clear h2 hc hb
  go_enter Try.func17, Try.ntmps17
  go_wp2
  go_quiet (fail)
  go_wp2
  go_ret
  exact ⟨rfl, _, rfl⟩

set_option maxRecDepth 100000 in
theorem new12 (most : Int) (n : Nat) (hn : (n : Int) = min (max most 0) 1000) (w : World) :
    Calls Try.prog 12 #[.int .i64 most] w fun e w' => e = .returned (.pointer (some ⟨w.heap.size + 1, 0, none⟩)) ∧ w' = (w.alloc (.chan n #[] false 0 0 false)).alloc (.cells #[.chan (some w.heap.size)] 49) := by
  obtain ⟨i, hi, hb⟩ := bytes3
  have hmk : (Instr.makeChan 47 (.int .i64 n)).run Try.prog w = .ok (.chan (some w.heap.size)) (w.alloc (.chan n #[] false 0 0 false)) := by
    simpa using run_makeChan (P := Try.prog) (w := w) Try.underlying47 hi .i64 n (by omega) (by rw [hb]; omega)
  have hcase : (most < 0 ∧ n = 0) ∨ (1000 < most ∧ n = 1000) ∨ (0 ≤ most ∧ most ≤ 1000 ∧ most = n) := by omega
  clear hn
  rcases hcase with ⟨h, rfl⟩ | ⟨h, rfl⟩ | ⟨h, h', rfl⟩
  · have hmk0 : (Instr.makeChan 47 (.int .i64 0)).run Try.prog w = .ok (.chan (some w.heap.size)) (w.alloc (.chan 0 #[] false 0 0 false)) := hmk
    clear hmk
    have h0 : ¬ most > 0 := by omega
    go_enter Try.func12, Try.ntmps12
    go_wp2
    go_ret
    exact ⟨rfl, rfl⟩
  · have hmk0 : (Instr.makeChan 47 (.int .i64 1000)).run Try.prog w = .ok (.chan (some w.heap.size)) (w.alloc (.chan 1000 #[] false 0 0 false)) := hmk
    clear hmk
    have h0 : 0 < most := by omega
    go_enter Try.func12, Try.ntmps12
    go_wp2
    go_ret
    exact ⟨rfl, rfl⟩
  · go_enter Try.func12, Try.ntmps12
    go_wp2
    go_ret
    exact ⟨rfl, rfl⟩

end LW
end Go.Proofs.Ytednbnhaohbnjaa
