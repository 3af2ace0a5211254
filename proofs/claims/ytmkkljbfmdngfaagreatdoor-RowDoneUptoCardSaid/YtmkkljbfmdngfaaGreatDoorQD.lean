/- Grow, Concat; words that a mailbox has not, rows of them: contracts. Conditions: sizes. -/
import Derived.Test.YtmkkljbfmdngfaaGreatDoorQC
import Derived.Test.YtmkkljbfmdngfaaGreatDoorQB
import Derived.Test.YtmkkljbfmdngfaaGreatDoorSo
import Derived.Shelf.Spec.SlicesGrow
import Derived.Shelf.Slices.In.SortNone
set_option linter.all false
namespace Go.Proofs.YtmkkljbfmdngfaaGreatDoor
namespace B
open Go.RowKit Go.Sort

theorem r129 (n : Nat) (hn : n ≤ 1099511627776) : Runs P 117 [.nils, .d (.int .i64 n)] [] (.own 1 []) [] := by
  refine ⟨⟨Tryz.f117, Tryz.func117, by kernel_rfl, by kernel_rfl⟩, fun Γ ρ bl vals w h hz => ?_⟩
  obtain ⟨v, u, rfl, hv, hu⟩ := vals2 h
  have hv : v = .slice none 0 0 := hv
  subst hv
  cases hu
  have rk : ∀ ρ' bl', ∀ b, (([] : List (Nat × List CV)).lookup b).isSome = true → lowB 117 b = true → RK ρ ρ' bl bl' b := fun _ _ b hb _ => by simp at hb
  have rf : ∀ Γ, RepF Γ 1 [] [] := fun _ => ⟨by simp, by simp [flatten], by simp [flatten], by simp [flatten]⟩
  by_cases h0 : n = 0
  · subst h0
    refine (Any8.slices_Grow_room Tryz.laysG129 none 0 0 0 w (by omega) (by omega) (by omega) (by omega)).mono ?_
    rintro e w' ⟨rfl, rfl⟩
    exact ⟨_, Γ, ρ, bl, rfl, h.result (res := .own 1 []) (.inl ⟨9, [], rowS_nil _ _ _, rf _, fun g hg => by simp [Value.ownBlock] at hg⟩) (fun b hb => hb.elim), (Fr.refl _ _ _).to0, rk _ _⟩
  · obtain ⟨i0, h1, h2, h3, h4⟩ := info9
    refine (Any8.slices_Grow_grow Tryz.laysG129 i0 _ h1 h2 (by rw [h3]; decide) none 0 0 n [] w (by omega) (by omega) (by rw [h4]; omega) (by omega) (by simp) (fun _ => rfl) (fun a ha => by cases ha)).mono ?_
    rintro e w' ⟨he, hw⟩
    rw [show Tryz.laysG129_ren.t 25 = 9 from rfl] at he hw
    subst he; subst hw
    have hd : SR Γ ρ bl ⟨[.nils, .d (.int .i64 n)], []⟩ #[.slice none 0 0, .int .i64 n] w.drew := h.world (w' := w.drew) (Nat.le_refl _) (fun _ _ => rfl)
    have hge := grownCap_ge w (0 + n) 0 9
    have hle := grownCap_le_maxLen w (0 + n) 0 9 (by unfold Go.maxLen; omega)
    generalize grownCap w (0 + n) 0 9 = cap at hge hle ⊢
    obtain ⟨g1, f1⟩ := hd.newOwn ((([] : List Value).toArray ++ Builtin.zeroCells (Value.string .empty).cells (0 + n - 0) ++ Builtin.zeroCells (Value.string .empty).cells (cap - (0 + n)))) 9 [] (by simp) (.own (.s 0) 0)
    refine ⟨_, _, _, bl, rfl, g1.result (res := .own 1 []) (.inl ⟨9, [], ⟨by simp, Or.inr ⟨w.heap.size, cap, _, rfl, ⟨(0, 0), .inl rfl, heap_alloc_new w.drew _⟩, Nat.zero_le _, hle, ?_, by simp⟩⟩, rf _, fun g hg => ?_⟩) (fun b hb => hb.elim), ⟨f1.le, f1.size, f1.os, f1.tape, f1.output, f1.block, f1.new⟩, rk _ _⟩
    · have e1 : (Value.string ByteArray.empty).cells.size = 1 := rfl
      simp [Builtin.zeroCells, e1]
      omega
    · simp [Value.ownBlock] at hg
      subst hg
      exact ⟨upd_same _ _ _, fun o => freezeRow_at _ _ _ _⟩
def strss (ls : List (List Bytes)) : List D := ls.map fun l => .slice 1 (strs l)
theorem strss_get (ls : List (List Bytes)) {i : Nat} (h : i < ls.length) : (strss ls).getD (Int.toNat (i : Int)) .nilp = .slice 1 (strs ls[i]) := getD_map _ ls h
def lenS (ls : List (List Bytes)) : Nat := (ls.map List.length).sum
theorem lenS_take (ls : List (List Bytes)) {i : Nat} (h : i < ls.length) : lenS (ls.take (i + 1)) = lenS (ls.take i) + ls[i].length := by
  unfold lenS; rw [List.take_succ_eq_append_getElem h, List.map_append, List.sum_append]
  show _ + (ls[i].length + 0) = _
  rw [Nat.add_zero]
theorem lenS_le (ls : List (List Bytes)) (i : Nat) : lenS (ls.take i) ≤ lenS ls := by
  unfold lenS
  conv => rhs; rw [← List.take_append_drop i ls]
  rw [List.map_append, List.sum_append]
  exact Nat.le_add_right _ _
theorem endOwn {z : Nat} {l : List D} {bs : List (Nat × List CV)} {x : List D} (h : l = x) : EndR (.own z l) (.d (.slice z x)) bs [] := by
  subst h; exact ⟨rfl, trivial, rfl⟩
theorem r90 (ls : List (List Bytes)) (h1 : ls.length ≤ 1099511627776) (h2 : lenS ls ≤ 1099511627776) : Runs P 74 [.d (.slice 1 (strss ls))] [] (.d (.slice 1 (strs ls.flatten))) [] := by
  refine runs_walkZ t90 (vc90 _ _ _) rfl (by simp) ?_
  have hn : nI (List.length (strss ls)) = nI ls.length := by simp [nI, strss]
  rw [hn]
  refine range2 (fun i n => n = (lenS (ls.take i) : Int)) (by omega) rfl (fun i hi bd n hJ I k next => ⟨bd, _, by rw [strss_get ls hi]; rfl, ?_⟩) fun n hJ => ?_
  · subst hJ
    rintro _ rfl
    have hle := lenS_le ls (i + 1)
    rw [lenS_take ls hi] at hle
    rw [strs_len, W64 (by simp only [nI]; omega) (by simp only [nI]; omega)]
    refine ⟨fun h => absurd (of_decide_eq_true h) (by simp only [nI]; omega), fun _ => next _ ?_⟩
    rw [lenS_take ls hi]; simp [nI]
  · subst hJ
    rw [List.take_length]
    refine ⟨_, r129 _ h2, range2 (fun i l => l = strs (ls.take i).flatten) (by omega) rfl (fun i hi bd l hJ I k next => ⟨bd, _, by rw [strss_get ls hi]; rfl, ?_⟩) fun l hJ => ?_⟩
    · subst hJ
      have hl : (ls.take i).flatten.length = lenS (ls.take i) := by simp [lenS, List.length_flatten]
      have hle := lenS_le ls (i + 1)
      rw [lenS_take ls hi] at hle
      refine ⟨by rw [strs_len, strs_len, hl]; omega, next _ ?_⟩
      rw [List.take_succ_eq_append_getElem hi, List.flatten_append]
      unfold strs
      rw [List.map_append, List.flatten_singleton]
    · subst hJ
      exact endOwn (by rw [List.take_length])

def freshB (b : Box) (l : List Bytes) : List Bytes := l.filter fun w => !b.words.contains w
theorem freshB_take (b : Box) (l : List Bytes) {i : Nat} (hi : i < l.length) : freshB b (l.take (i + 1)) = freshB b (l.take i) ++ if (!b.words.contains l[i]) = true then [l[i]] else [] := by
  unfold freshB
  rw [List.take_succ_eq_append_getElem hi, List.filter_append, List.filter_cons, List.filter_nil]
theorem r77 (b : Box) (l : List Bytes) (hw : b.words.length ≤ 9223372036854775806) (hl : l.length ≤ 1099511627776) : Runs P 71 [.d b.d, .d (.slice 1 (strs l))] [] (.d (.slice 1 (strs (freshB b l)))) [] := by
  refine runs_walkZ t77 (vc77 b.id b.valid b.next b.high (strs b.words) (b.msgs.map Msg.d) (strs l) _ _) rfl (by simp) ?_
  rw [strs_len]
  refine range2 (fun i x => x = strs (freshB b (l.take i))) (by omega) rfl (fun i hi bd x hJ I k next => ⟨bd, l[i], by rw [strs_get l hi]; rfl, _, r84 b.words l[i] hw, fun h => ⟨?_, ?_⟩, fun h => ?_⟩) fun x hJ => ?_
  · subst hJ
    have h1 : (freshB b (l.take i)).length ≤ (l.take i).length := List.length_filter_le _ _
    rw [List.length_take] at h1
    rw [strs_len]; simp; omega
  · subst hJ
    refine next _ ?_
    have : (!b.words.contains l[i]) = true := h
    rw [freshB_take b l hi, if_pos this]
    unfold strs
    rw [List.map_append]; rfl
  · subst hJ
    refine next _ ?_
    have : ¬ (!b.words.contains l[i]) = true := by rw [show (!b.words.contains l[i]) = false from h]; decide
    rw [freshB_take b l hi, if_neg this, List.append_nil]
  · subst hJ
    exact endOwn (by rw [List.take_length])
theorem r76 (l : List Bytes) (hl : l.length ≤ 9223372036854775806) (hw : ∀ w ∈ l, w.length ≤ 9223372036854775806) : Runs P 72 [.d (.slice 1 (strs l))] [] (.d (.bool (wordsB [] l))) [] := by
  refine runs_walkZ t76 (vc76 _ _ _) rfl (by simp) ?_
  rw [strs_len]
  refine range1 (fun i => wordsB [] l = wordsB (l.take i) (l.drop i)) hl rfl (fun i hi bd hJ I k next => ⟨bd, ?_⟩) fun hJ => ?_
  · refine ⟨l[i], by rw [strs_get _ hi]; rfl, _, r101 _ (hw _ (List.getElem_mem hi)), fun _ => ⟨by simp [nI], bd.1, Int.le_of_lt bd.2⟩, ?_⟩
    rintro _ rfl
    rw [take_strs]
    refine ⟨_, fun _ => r84 _ _ (by rw [List.length_take]; omega), ?_⟩
    rintro b23 h23
    rw [drop_cons hi, wordsB, ← List.take_succ_eq_append_getElem hi, show (atomB l[i] && !(l.take i).contains l[i]) = !b23 by rw [← h23]; simp] at hJ
    exact ⟨fun h => endB (by rw [hJ, h]; rfl), fun h => next (by rw [hJ, h]; rfl)⟩
  · rw [List.drop_length, wordsB] at hJ
    exact endB hJ.symm
def wordRow (w : Bytes) : Row := ⟨4, 0, 0, ⟨0, 0, 0, [], 0, [], []⟩, w⟩
theorem r86 (l : List Bytes) (hl : l.length ≤ 1099511627776) : Runs P 75 [.d (.slice 1 (strs l))] [] (.own 11 ((l.map wordRow).map Row.d)) [] := by
  refine runs_walkZ t86 (vc86 _ _ _) rfl (by simp) ?_
  rw [strs_len]
  refine range2 (fun i x => x = ((l.take i).map wordRow).map Row.d) (by omega) rfl (fun i hi bd x hJ I k next => ⟨bd, l[i], by rw [strs_get l hi]; rfl, ?_, ?_⟩) fun x hJ => ?_
  · subst hJ; simp; omega
  · subst hJ
    refine next _ ?_
    rw [List.take_succ_eq_append_getElem hi]
    simp only [List.map_append, List.map_cons, List.map_nil]
    rfl
  · subst hJ
    rw [List.take_length]
    exact ⟨rfl, trivial, rfl⟩

theorem r79 (k : Nat) (l : List Int) (hl : l.length ≤ 1099511627776) : Runs P 83 [.rs 1 k 0 (ints l).length] [(k, [.arr 1 (ints l)])] (.tup []) [(k, [.arr 1 (ints (sortI l))])] := by
  rw [ints_len]
  exact Runs.sort ⟨Tryz.f83, Tryz.func83, by kernel_rfl, by kernel_rfl⟩ (fun blk off cap zs w h1 h2 h3 => Any.slices_Sort_int Tryz.lays189 blk off cap zs w h1 h2 h3) (fun p cap w => Any.slices_Sort_int_none Tryz.lays189 p cap w) k l (by omega)
def placesB (b : Box) (l : List Bytes) : List Int := sortI (l.map (idxOf (b.words ++ freshB b l)))
theorem placesB_len (b : Box) (l : List Bytes) : (placesB b l).length = l.length := by simp [placesB, sortI]
theorem r78R (b : Box) (l : List Bytes) (hw : b.words.length ≤ 549755813888) (hl : l.length ≤ 549755813888) : Runs P 73 [.d b.d, .d (.slice 1 (strs l))] [] (.rs 1 6 0 (ints (placesB b l)).length) [(6, [.arr 1 (ints (placesB b l))])] := by
  refine runs_walkZ t78 (vc78 b.id b.valid b.next b.high (strs b.words) (b.msgs.map Msg.d) (strs l) _ _) rfl (by simp) ?_
  have hf : (freshB b l).length ≤ l.length := List.length_filter_le _ _
  refine ⟨_, r77 b l (by omega) (by omega), _, r90 [b.words, freshB b l] (by simp) (by simp [lenS]; omega), ?_⟩
  have e : [b.words, freshB b l].flatten = b.words ++ freshB b l := by simp
  rw [e, strs_len]
  refine ⟨fun k n x m => ∃ i : Nat, n = i ∧ i ≤ l.length ∧ m = l.length - i ∧ x = ints ((l.take i).map (idxOf (b.words ++ freshB b l))) ∧ k = x.length, ⟨_, 0, rfl, by omega, rfl, rfl, rfl⟩, ?_⟩
  rintro _ _ _ _ ⟨i, rfl, hi, rfl, rfl, rfl⟩
  refine ⟨fun h => ?_, fun h => ?_⟩
  · have h := of_decide_eq_true h
    simp only [nI] at h
    have hlt : i < l.length := by omega
    refine ⟨⟨by omega, by simp only [nI]; omega⟩, l[i], by rw [strs_get l hlt]; rfl, _, r124 _ _ (by rw [List.length_append]; omega), rfl, by rw [ints_len]; simp; omega, ?_⟩
    rintro _ rfl _ rfl
    refine ⟨l.length - (i + 1), by omega, i + 1, W64 (by omega) (by omega), by omega, rfl, ?_, by simp⟩
    rw [List.take_succ_eq_append_getElem hlt]
    simp only [ints, List.map_append, List.map_cons, List.map_nil]
  · have h := of_decide_eq_false h
    simp only [nI] at h
    obtain rfl : i = l.length := by omega
    rw [List.take_length]
    have e2 : (ints (placesB b l)).length = (ints (l.map (idxOf (b.words ++ freshB b l)))).length := by rw [ints_len, ints_len, placesB_len]; simp
    rw [e2]
    exact ⟨_, r79 6 _ (by simp; omega), endL rfl ⟨rfl, trivial⟩ rfl⟩
theorem r78 (b : Box) (l : List Bytes) (hw : b.words.length ≤ 549755813888) (hl : l.length ≤ 549755813888) : Runs P 73 [.d b.d, .d (.slice 1 (strs l))] [] (.d (.slice 1 (ints (placesB b l)))) [] := (r78R b l hw hl).freeze rfl (by decide)
end B
end Go.Proofs.YtmkkljbfmdngfaaGreatDoor

namespace Go.Proofs.YtmkkljbfmdngfaaGreatDoor
namespace B
open Go.RowKit Go.Sort

theorem endTO {z : Nat} {l m : List D} {n : Int} {bs : List (Nat × List CV)} (h : l = m) : EndR (.tup [.own z l, .d (iD n)]) (.tup [.d (.slice z m), .d (iD n)]) bs [] := by
  subst h; exact ⟨⟨rfl, rfl, trivial⟩, trivial, rfl⟩
def addM (b : Box) (date : Int) (id : Bytes) (flags : Int) (ws : List Bytes) (text : Bytes) : Msg := ⟨b.next, b.high + 1, date, id, flags, placesB b ws, text⟩
def addRow (m : Msg) : Row := ⟨1, 0, 0, m, []⟩
def idB (b : Box) (id : Bytes) : Bytes := if id = [] then ownB b.id b.next else id
def addOut (b : Box) (date : Int) (id : Bytes) (flags : Int) (ws : List Bytes) (text : Bytes) : Int × List Row :=
  if ¬ (mayBox b = 0 ∧ wordsB [] ws = true) then (1, [])
  else if 60 ≤ b.msgs.length ∨ 64 < b.words.length + (freshB b ws).length then (4, [])
  else if b.high = 1000000 ∨ b.next = 1000000 then (9, [])
  else if mayMsg (b.words ++ freshB b ws).length (addM b date (idB b id) flags ws text) = false then (1, [])
  else (0, (freshB b ws).map wordRow ++ [addRow (addM b date (idB b id) flags ws text)])
theorem r40 (b : Box) (date : Int) (id : Bytes) (flags : Int) (ws : List Bytes) (text : Bytes) (hb : BoxOk b) (hw : b.words.length ≤ 274877906944) (hl : ws.length ≤ 274877906944) (hww : ∀ w ∈ ws, w.length ≤ 9223372036854775806) (hid : id.length ≤ 9223372036854775806) :
    Runs P 36 [.d b.d, .d (iD date), .d (.str id), .d (iD flags), .d (.slice 1 (strs ws)), .d (.str text)] [] (.tup [.d (.slice 11 ((addOut b date id flags ws text).2.map Row.d)), .d (iD (addOut b date id flags ws text).1)]) [] := by
  refine runs_walkZ t40 (vc40 b.id b.valid b.next b.high (strs b.words) (b.msgs.map Msg.d) date id flags (strs ws) text _ _) rfl (by simp) ?_
  have hf : (freshB b ws).length ≤ ws.length := List.length_filter_le _ _
  have efl : [b.words, freshB b ws].flatten = b.words ++ freshB b ws := by simp
  refine ⟨_, r77 b ws (by omega) (by omega), _, r47 b hb, wordsB [] ws, fun _ => r76 ws (by omega) hww, ?_⟩
  rintro b14 h14
  have c1' : b14 = true ↔ ¬ (mayBox b = 0 ∧ wordsB [] ws = true) := by
    rw [← h14]; simp; rcases Decidable.em (mayBox b = 0) with h | h <;> simp [h]
  refine ⟨fun h => ?_, fun h => ?_⟩
  · rw [show addOut b date id flags ws text = (1, []) from by unfold addOut; rw [if_pos (c1'.1 h)]]
    exact endTO rfl
  have c1 : ¬ ¬ (mayBox b = 0 ∧ wordsB [] ws = true) := fun q => by rw [c1'.2 q] at h; cases h
  have hM := boxMay.1 (Decidable.not_not.1 c1).1
  rw [strs_len, strs_len, nI_map]
  rintro _ rfl b16 h16
  rw [W64 (by simp only [nI]; omega) (by simp only [nI]; omega)] at h16
  have c2' : b16 = true ↔ (60 ≤ b.msgs.length ∨ 64 < b.words.length + (freshB b ws).length) := by
    rw [← h16, Bool.or_eq_true, decide_eq_true_eq, decide_eq_true_eq]; simp only [nI]; omega
  refine ⟨fun h => ?_, fun h => ?_⟩
  · rw [show addOut b date id flags ws text = (4, []) from by unfold addOut; rw [if_neg c1, if_pos (c2'.1 h)]]
    exact endTO rfl
  have c2 : ¬ (60 ≤ b.msgs.length ∨ 64 < b.words.length + (freshB b ws).length) := fun q => by rw [c2'.2 q] at h; cases h
  rintro b17 h17
  have c3' : b17 = true ↔ (b.high = 1000000 ∨ b.next = 1000000) := by
    rw [← h17, Bool.or_eq_true, beq_iff_eq, beq_iff_eq]
  refine ⟨fun h => ?_, fun h => ?_⟩
  · rw [show addOut b date id flags ws text = (9, []) from by unfold addOut; rw [if_neg c1, if_neg c2, if_pos (c3'.1 h)]]
    exact endTO rfl
  have c3 : ¬ (b.high = 1000000 ∨ b.next = 1000000) := fun q => by rw [c3'.2 q] at h; cases h
  rintro _ rfl
  have hh := hM.high
  have hx := hM.next
  rw [W64 (by omega) (by omega)]
  refine ⟨_, r78 b ws (by omega) (by omega), fun h => ?_, fun h => ?_⟩
  · have h : id = [] := by simpa using h
    have ei : idB b id = ownB b.id b.next := by unfold idB; rw [if_pos h]
    have ho : (ownB b.id b.next).length ≤ 9223372036854775806 := by
      have h1 := Lib.itoa_length_le (max b.next 0) (by omega) (by omega)
      have := hM.id.2
      unfold ownB; simp; omega
    refine ⟨_, r88 b.id b.next (by omega) (by have := hM.id.2; omega), ?_⟩
    refine ⟨_, r90 [b.words, freshB b ws] (by simp) (by simp [lenS]; omega), ?_⟩
    rw [efl]
    refine ⟨_, r89 ⟨[], 0, 0, 0, b.words ++ freshB b ws, []⟩ (addM b date (ownB b.id b.next) flags ws text) ⟨ho, by show (placesB b ws).length ≤ _; rw [placesB_len]; omega⟩, fun h => ?_, fun h => ?_⟩
    · have h2 : mayMsg (b.words ++ freshB b ws).length (addM b date (ownB b.id b.next) flags ws text) = false := by
        cases e : mayMsg (b.words ++ freshB b ws).length (addM b date (ownB b.id b.next) flags ws text) with
        | false => rfl
        | true => rw [show mayMsg (Box.words ⟨[], 0, 0, 0, b.words ++ freshB b ws, []⟩).length (addM b date (ownB b.id b.next) flags ws text) = true from e] at h; simp [errB] at h
      rw [show addOut b date id flags ws text = (1, []) from by unfold addOut; rw [if_neg c1, if_neg c2, if_neg c3, ei, if_pos h2]]
      rw [show errB (mayMsg (Box.words ⟨[], 0, 0, 0, b.words ++ freshB b ws, []⟩).length (addM b date (ownB b.id b.next) flags ws text)) = 1 from by rw [show mayMsg (Box.words ⟨[], 0, 0, 0, b.words ++ freshB b ws, []⟩).length (addM b date (ownB b.id b.next) flags ws text) = false from h2]; rfl]
      exact endTO rfl
    · have h2 : mayMsg (b.words ++ freshB b ws).length (addM b date (ownB b.id b.next) flags ws text) = true := by
        cases e : mayMsg (b.words ++ freshB b ws).length (addM b date (ownB b.id b.next) flags ws text) with
        | true => rfl
        | false => rw [show mayMsg (Box.words ⟨[], 0, 0, 0, b.words ++ freshB b ws, []⟩).length (addM b date (ownB b.id b.next) flags ws text) = false from e] at h; simp [errB] at h
      rw [show addOut b date id flags ws text = (0, (freshB b ws).map wordRow ++ [addRow (addM b date (ownB b.id b.next) flags ws text)]) from by unfold addOut; rw [if_neg c1, if_neg c2, if_neg c3, ei, if_neg (by rw [h2]; decide)]]
      refine ⟨_, r86 _ (by omega), by simp; omega, endTO ?_⟩
      rw [List.map_append]; rfl
  · have h : ¬ id = [] := by simpa using h
    have ei : idB b id = id := by unfold idB; rw [if_neg h]
    refine ⟨_, r90 [b.words, freshB b ws] (by simp) (by simp [lenS]; omega), ?_⟩
    rw [efl]
    refine ⟨_, r89 ⟨[], 0, 0, 0, b.words ++ freshB b ws, []⟩ (addM b date id flags ws text) ⟨hid, by show (placesB b ws).length ≤ _; rw [placesB_len]; omega⟩, fun h => ?_, fun h => ?_⟩
    · have h2 : mayMsg (b.words ++ freshB b ws).length (addM b date id flags ws text) = false := by
        cases e : mayMsg (b.words ++ freshB b ws).length (addM b date id flags ws text) with
        | false => rfl
        | true => rw [show mayMsg (Box.words ⟨[], 0, 0, 0, b.words ++ freshB b ws, []⟩).length (addM b date id flags ws text) = true from e] at h; simp [errB] at h
      rw [show addOut b date id flags ws text = (1, []) from by unfold addOut; rw [if_neg c1, if_neg c2, if_neg c3, ei, if_pos h2]]
      rw [show errB (mayMsg (Box.words ⟨[], 0, 0, 0, b.words ++ freshB b ws, []⟩).length (addM b date id flags ws text)) = 1 from by rw [show mayMsg (Box.words ⟨[], 0, 0, 0, b.words ++ freshB b ws, []⟩).length (addM b date id flags ws text) = false from h2]; rfl]
      exact endTO rfl
    · have h2 : mayMsg (b.words ++ freshB b ws).length (addM b date id flags ws text) = true := by
        cases e : mayMsg (b.words ++ freshB b ws).length (addM b date id flags ws text) with
        | true => rfl
        | false => rw [show mayMsg (Box.words ⟨[], 0, 0, 0, b.words ++ freshB b ws, []⟩).length (addM b date id flags ws text) = false from e] at h; simp [errB] at h
      rw [show addOut b date id flags ws text = (0, (freshB b ws).map wordRow ++ [addRow (addM b date id flags ws text)]) from by unfold addOut; rw [if_neg c1, if_neg c2, if_neg c3, ei, if_neg (by rw [h2]; decide)]]
      refine ⟨_, r86 _ (by omega), by simp; omega, endTO ?_⟩
      rw [List.map_append]; rfl

def szR (r : Row) : Nat := r.text.length + r.msg.text.length + r.msg.keys.length + r.msg.id.length
theorem RowOk.of {r : Row} (h : szR r ≤ 1099511627776) : RowOk r := by
  unfold szR at h; exact ⟨by omega, by omega, by omega⟩
def rows0 : List Row := [wordRow [119], addRow ⟨1, 2, 9, [101, 49, 45, 98, 49], 8, [0], [116]⟩]
def box1 : Box := ⟨[98, 49], 5, 2, 2, [[119]], [⟨1, 2, 9, [101, 49, 45, 98, 49], 8, [0], [116]⟩]⟩
theorem addOut0 : addOut box0 9 [] 8 [[119]] [116] = (0, rows0) := by
  have e1 : placesB box0 [[119]] = [0] := by
    have : [[119]].map (idxOf (box0.words ++ freshB box0 [[119]])) = [0] := by decide
    unfold placesB sortI
    rw [this]; simp
  have e0 : Lib.itoa 1 = [49] := by unfold Lib.itoa; rw [if_neg (by decide)]; show Lib.decDigits 1 = [49]; rw [Lib.decDigits]; simp
  have e2 : ownB box0.id box0.next = [101, 49, 45, 98, 49] := by unfold ownB; rw [show max box0.next 0 = 1 from rfl, e0]; rfl
  have e3 : idB box0 [] = [101, 49, 45, 98, 49] := by unfold idB; rw [if_pos rfl, e2]
  have e4 : addM box0 9 [101, 49, 45, 98, 49] 8 [[119]] [116] = ⟨1, 2, 9, [101, 49, 45, 98, 49], 8, [0], [116]⟩ := by unfold addM; rw [e1]; rfl
  unfold addOut
  rw [e3, e4]
  rfl
theorem allB0 : allB box0 rows0 = (0, box1) := by rfl
theorem bok0 : BoxOk box0 := ⟨by decide, by decide, by decide, by decide, fun m hm => by cases hm⟩
theorem r29 : Runs P 31 [] [] (.d (.bool true)) [] := by
  refine runs_walkZ t29 (vc29 _ _) rfl (by simp) ?_
  have h1 := r40 box0 9 [] 8 [[119]] [116] bok0 (by decide) (by decide) (by decide) (by decide)
  rw [addOut0] at h1
  have h2 := r32 box0 rows0 bok0 (by decide) (by
    intro r hr
    rcases List.mem_cons.1 hr with rfl | hr
    · exact ⟨by decide, by decide, by decide⟩
    · rcases List.mem_cons.1 hr with rfl | hr
      · exact ⟨by decide, by decide, by decide⟩
      · cases hr)
  rw [allB0] at h2
  refine ⟨_, _, h1, _, _, _, _, _, _, _, h2, ?_⟩
  rintro _ rfl _ rfl _ rfl
  refine ⟨fun _ => by decide, _, _, _, _, _, _, _, fun _ => rfl, ?_⟩
  rintro _ rfl _ rfl _ rfl
  exact endB rfl
end B
end Go.Proofs.YtmkkljbfmdngfaaGreatDoor

namespace Go.Proofs.YtmkkljbfmdngfaaGreatDoor
namespace B
open Go.RowKit

theorem BoxMay.ok {b : Box} (h : BoxMay b) : BoxOk b := ⟨by have := h.id.2; omega, by have := h.nw; omega, by have := h.nm; omega, fun w hw => by
  have : ∀ (l pre : List Bytes), wordsB pre l = true → ∀ w ∈ l, atomB w = true := by
    intro l
    induction l with
    | nil => intro _ _ w hw; cases hw
    | cons x r ih =>
      intro pre hq w hw
      simp only [wordsB, Bool.and_eq_true] at hq
      rcases List.mem_cons.1 hw with rfl | hw
      · exact hq.1.1
      · exact ih _ hq.2 w hw
  have := (atom_len (this _ _ h.words w hw)).2; omega, h.msgOk⟩
structure RowIn (l : List Row) : Prop where
  n : l.length ≤ 1099511627776
  sz : ∀ r ∈ l, szR r ≤ 1099511627776
structure BoxIn (b : Box) : Prop where
  ok : BoxOk b
  sz : szBox b ≤ 1099511627776
end B
end Go.Proofs.YtmkkljbfmdngfaaGreatDoor
