/- Project, CopyBox, SameBox, on data. No condition. -/
import Derived.Test.YtmkkljbfmdngfaaDoorH1
set_option linter.all false
namespace Go.Proofs.YtmkkljbfmdngfaaDoor
namespace B
open Go.RowKit

/-! ### alike? -/
theorem r87 (a b : List Int) (ha : a.length ≤ 9223372036854775806) : Runs P 87 [.d (.slice 1 (ints a)), .d (.slice 1 (ints b))] [] (.d (.bool (a == b))) [] := by
  refine runs_walkA t87 rfl (vc87 _ _ _ _) (by simp) ?_
  rw [ints_len, ints_len]
  have no : a ≠ b → EndR (.d (.bool false)) (.d (.bool (a == b))) [] [] := fun h => endB (by simp [h])
  refine ⟨fun h => no (by rintro rfl; simp at h), fun h => ?_⟩
  have hl : a.length = b.length := by simp [nI] at h; omega
  refine range1 (N := a.length) (fun i => a.take i = b.take i) ha (by simp) (fun i hi bd hJ I k next => ?_) fun hJ => ?_
  · have hi2 : i < b.length := by omega
    refine ⟨bd, a[i], by rw [ints_get _ hi]; rfl, ⟨by omega, by simp only [nI]; omega⟩, b[i], by rw [ints_get _ hi2]; rfl, fun h => no (by rintro rfl; simp at h), fun h => ?_⟩
    have he : a[i] = b[i] := by simpa using h
    exact next (by rw [List.take_add_one, List.take_add_one, hJ, List.getElem?_eq_getElem hi, List.getElem?_eq_getElem hi2, he])
  · have : a = b := by
      rw [List.take_length] at hJ
      rw [hJ, hl, List.take_length]
    exact endB (by simp [this])
theorem r38 (a b : List Bytes) (ha : a.length ≤ 9223372036854775806) : Runs P 38 [.d (.slice 1 (strs a)), .d (.slice 1 (strs b))] [] (.d (.bool (a == b))) [] := by
  refine runs_walkA t38 rfl (vc38 _ _ _ _) (by simp) ?_
  rw [strs_len, strs_len]
  have no : a ≠ b → EndR (.d (.bool false)) (.d (.bool (a == b))) [] [] := fun h => endB (by simp [h])
  refine ⟨fun h => no (by rintro rfl; simp at h), fun h => ?_⟩
  have hl : a.length = b.length := by simp [nI] at h; omega
  refine range1 (N := a.length) (fun i => a.take i = b.take i) ha (by simp) (fun i hi bd hJ I k next => ?_) fun hJ => ?_
  · have hi2 : i < b.length := by omega
    refine ⟨bd, a[i], by rw [strs_get _ hi]; rfl, ⟨by omega, by simp only [nI]; omega⟩, b[i], by rw [strs_get _ hi2]; rfl, fun h => no (by rintro rfl; simp at h), fun h => ?_⟩
    have he : a[i] = b[i] := by simpa using h
    exact next (by rw [List.take_add_one, List.take_add_one, hJ, List.getElem?_eq_getElem hi, List.getElem?_eq_getElem hi2, he])
  · have : a = b := by
      rw [List.take_length] at hJ
      rw [hJ, hl, List.take_length]
    exact endB (by simp [this])
def sameM (a b : Msg) : Bool := (((((a.uid == b.uid && a.mod == b.mod) && a.date == b.date) && a.id == b.id) && a.flags == b.flags) && a.keys == b.keys) && a.text == b.text
theorem sameM_iff {a b : Msg} : sameM a b = true ↔ a = b := by
  cases a; cases b
  unfold sameM
  simp only [Bool.and_eq_true, beq_iff_eq, Msg.mk.injEq]
  constructor
  · rintro ⟨⟨⟨⟨⟨⟨rfl, rfl⟩, rfl⟩, rfl⟩, rfl⟩, rfl⟩, rfl⟩; simp
  · rintro ⟨rfl, rfl, rfl, rfl, rfl, rfl, rfl⟩; simp
theorem r37 (a b : Msg) (ha : a.keys.length ≤ 9223372036854775806) : Runs P 37 [.d a.d, .d b.d] [] (.d (.bool (sameM a b))) [] := by
  refine runs_walkA t37 rfl (vc37 _ _ _ _ _ _ _ _ _ _ _ _ _ _ _ _) (by simp) ?_
  rintro _ rfl _ rfl _ rfl _ rfl
  refine ⟨_, fun _ => r87 _ _ ha, ?_⟩
  rintro _ rfl _ rfl
  exact endB rfl
def sameMs : List Msg → List Msg → Bool
  | [], [] => true
  | a :: r, b :: t => sameM a b && sameMs r t
  | _, _ => false
theorem sameMs_iff : ∀ {a b : List Msg}, sameMs a b = true ↔ a = b
  | [], [] => by simp [sameMs]
  | a :: r, b :: t => by simp only [sameMs, Bool.and_eq_true, sameM_iff, sameMs_iff, List.cons.injEq]
  | [], _ :: _ => by simp [sameMs]
  | _ :: _, [] => by simp [sameMs]
def sameB (a b : Box) : Bool := !(((((!(a.id == b.id) || a.valid != b.valid) || a.next != b.next) || a.high != b.high) || !(a.words == b.words)) || a.msgs.length != b.msgs.length) && sameMs a.msgs b.msgs
theorem sameB_iff {a b : Box} : sameB a b = true ↔ a = b := by
  cases a; cases b
  unfold sameB
  simp only [Bool.and_eq_true, Bool.not_eq_true', Bool.or_eq_false_iff, Bool.not_eq_false', beq_iff_eq, bne_eq_false_iff_eq, sameMs_iff, Box.mk.injEq]
  constructor
  · rintro ⟨⟨⟨⟨⟨⟨rfl, rfl⟩, rfl⟩, rfl⟩, rfl⟩, _⟩, rfl⟩; simp
  · rintro ⟨rfl, rfl, rfl, rfl, rfl, rfl⟩; simp
theorem r20 (a b : Box) (ha : BoxOk a) : Runs P 20 [.d a.d, .d b.d] [] (.d (.bool (sameB a b))) [] := by
  refine runs_walkA t20 rfl (vc20 _ _ _ _ _ _ _ _ _ _ _ _ _ _) (by simp) ?_
  simp only [nI, List.length_map]
  rintro _ rfl _ rfl _ rfl
  refine ⟨_, fun _ => r38 _ _ ha.nw, ?_⟩
  rintro _ rfl b17 h17
  have e17 : b17 = (((((!(a.id == b.id) || a.valid != b.valid) || a.next != b.next) || a.high != b.high) || !(a.words == b.words)) || a.msgs.length != b.msgs.length) := by
    rw [← h17]
    congr 1
    rw [Bool.eq_iff_iff]; simp only [bne_iff_ne, ne_eq]; omega
  refine ⟨fun h => endB ?_, fun h => ?_⟩
  · unfold sameB; rw [← e17, h]; rfl
  have hs : sameB a b = sameMs a.msgs b.msgs := by unfold sameB; rw [← e17, h]; rfl
  have hl : a.msgs.length = b.msgs.length := by
    rw [h] at e17
    have := e17.symm
    simp only [Bool.or_eq_false_iff, bne_eq_false_iff_eq] at this
    exact this.2
  rw [hs]
  refine range1 (N := a.msgs.length) (fun i => sameMs (a.msgs.drop i) (b.msgs.drop i) = sameMs a.msgs b.msgs) ha.nm rfl (fun i hi bd hJ I k next => ?_) fun hJ => ?_
  · have hi2 : i < b.msgs.length := by omega
    refine ⟨⟨bd.1, by have := bd.2; simpa [nI] using this⟩, _, _, _, _, _, _, _, by rw [msgs_get _ hi]; rfl, ⟨by omega, by omega⟩, _, _, _, _, _, _, _, by rw [msgs_get _ hi2]; rfl, _, r37 a.msgs[i] b.msgs[i] (ha.msgs _ (List.getElem_mem hi)).keys, ?_⟩
    rw [drop_cons hi, drop_cons hi2, sameMs] at hJ
    refine ⟨fun h => endB ?_, fun h => next ?_⟩
    · have h : sameM a.msgs[i] b.msgs[i] = false := by simpa using h
      rw [← hJ, h]; rfl
    · have h : sameM a.msgs[i] b.msgs[i] = true := by simpa using h
      rw [← hJ, h, Bool.true_and]
  · rw [List.drop_length, hl, List.drop_length] at hJ
    exact endB hJ

/-! ### a copy -/
theorem endRow {c res : CV} {bx : List (Nat × List CV)} {cs : List CV} {b : Nat} (h : c = res) (h' : bx.lookup b = some cs) (hc : (⟨[res], [(b, cs)]⟩ : St).clo = true) : EndR c res bx [(b, cs)] := endO h h' hc
/-- A copy whose messages are a row. -/
def rowBox (k : Nat) (b : Box) : CV := .agg [.d (.str b.id), .d (iD b.valid), .d (iD b.next), .d (iD b.high), .d (.slice 1 (strs b.words)), .rs 7 k 0 b.msgs.length]
structure BoxTiny (b : Box) : Prop where
  ok : BoxOk b
  nw : b.words.length ≤ 1099511627776
  nm : b.msgs.length ≤ 1099511627776
  keys : ∀ m ∈ b.msgs, m.keys.length ≤ 1099511627776
theorem r52 (b : Box) (hb : BoxTiny b) : Runs P 52 [.d b.d] [] (rowBox 12 b) [(12, [.arr 7 (b.msgs.map Msg.d)])] := by
  refine runs_walkA t52 rfl (vc52 _ _ _ _ _ _ _ _) (by simp) ?_
  rw [strs_len]
  have h1 := hb.nw
  have h2 := hb.nm
  refine ⟨by omega, fun n k l m => LI b.msgs.length (fun i => k = i ∧ l = (b.msgs.take i).map Msg.d) n m, ⟨rfl, rfl, rfl, rfl, rfl, _, LI.start ⟨rfl, rfl⟩⟩, ?_⟩
  rintro _ i _ _ ⟨j, hj, hi, hk, hij, rfl⟩
  have hij : i = j := hij
  subst hij
  subst hj
  subst hk
  simp only [nI, List.length_map]
  refine ⟨fun h => ?_, fun h => ?_⟩
  · have hlt : i < b.msgs.length := by have := of_decide_eq_true h; omega
    have hk := hb.keys _ (List.getElem_mem hlt)
    refine ⟨⟨by omega, by omega⟩, _, _, _, _, _, _, _, by rw [msgs_get _ hlt]; rfl, by rw [ints_len]; omega, by rw [List.length_take]; omega, by simp only [List.length_cons, List.length_nil]; omega, ?_⟩
    rintro _ rfl n20 h20
    refine ⟨trivial, trivial, trivial, trivial, trivial, b.msgs.length - (i + 1), ?_⟩
    obtain ⟨g1, g2⟩ := LI.next (J := fun i => (i : Nat) = i ∧ ((b.msgs.take i).map Msg.d) = ((b.msgs.take i).map Msg.d)) (N := b.msgs.length) (by omega) hlt h20 ⟨rfl, rfl⟩
    obtain ⟨j, q1, q2, q3, _⟩ := g2
    have hj : j = i + 1 := by omega
    subst hj
    refine ⟨g1, i + 1, q1, q2, rfl, by simp, ?_⟩
    rw [List.take_succ_eq_append_getElem hlt, List.map_append]; rfl
  · have hlt : i = b.msgs.length := by have := of_decide_eq_false h; omega
    subst hlt
    rw [List.take_length]
    exact endO rfl rfl rfl

/-! ### what a form knows -/
theorem inc_ext : ∀ {l m : List Int}, l.Pairwise (· < ·) → m.Pairwise (· < ·) → (∀ x, x ∈ l ↔ x ∈ m) → l = m
  | [], [], _, _, _ => rfl
  | [], y :: m, _, _, h => absurd ((h y).2 (by simp)) (by simp)
  | x :: l, [], _, _, h => absurd ((h x).1 (by simp)) (by simp)
  | x :: l, y :: m, hl, hm, h => by
    rw [List.pairwise_cons] at hl hm
    have hxy : x = y := by
      have h1 := (h x).1 (by simp)
      have h2 := (h y).2 (by simp)
      rcases List.mem_cons.1 h1 with h1 | h1
      · exact h1
      rcases List.mem_cons.1 h2 with h2 | h2
      · exact h2.symm
      have := hm.1 x h1
      have := hl.1 y h2
      omega
    subst hxy
    rw [inc_ext hl.2 hm.2 fun z => ?_]
    have := h z
    simp only [List.mem_cons] at this
    constructor
    · intro hz
      rcases this.1 (.inr hz) with rfl | hz'
      · exact absurd (hl.1 z hz) (by omega)
      · exact hz'
    · intro hz
      rcases this.2 (.inr hz) with rfl | hz'
      · exact absurd (hm.1 z hz) (by omega)
      · exact hz'
theorem keysB_inc {n : Int} : ∀ {l : List Int} {was : Int}, keysB n was l = true → l.Pairwise (· < ·) ∧ ∀ k ∈ l, was < k
  | [], _, _ => ⟨.nil, by simp⟩
  | k :: r, was, h => by
    simp only [keysB, Bool.and_eq_true, decide_eq_true_eq] at h
    obtain ⟨h1, h2⟩ := keysB_inc h.2
    refine ⟨List.pairwise_cons.2 ⟨h2, h1⟩, fun x hx => ?_⟩
    rcases List.mem_cons.1 hx with rfl | hx
    · exact h.1.1
    · have := h2 x hx; omega
theorem keys_filter {n : Int} {l : List Int} (h : keysB n (-1) l = true) : keyBits (maskN l) 32 = l.filter fun k => decide (k < 32) := by
  obtain ⟨h1, h2⟩ := keysB_inc h
  have h0 : ∀ k ∈ l, (0 : Int) ≤ k := fun k hk => by have := h2 k hk; omega
  have h3 : keysB 32 (-1) (keyBits (maskN l) 32) = true := keysB_bits fun j hj _ => by omega
  refine inc_ext (keysB_inc h3).1 (h1.sublist List.filter_sublist) fun x => ?_
  rw [keyBits_mem, List.mem_filter, decide_eq_true_eq]
  constructor
  · rintro ⟨j, rfl, hj, hb⟩
    exact ⟨((mask_bit l h0 j).1 hb).2, by omega⟩
  · rintro ⟨hx, hlt⟩
    have := h0 x hx
    refine ⟨x.toNat, by omega, by omega, (mask_bit l h0 _).2 ⟨by omega, ?_⟩⟩
    rwa [Int.toNat_of_nonneg this]
theorem boxTiny {b : Box} (h : BoxMay b) (ho : BoxOk b) : BoxTiny b := ⟨ho, by have := h.nw; omega, by have := h.nm; omega, fun m hm => by
  have := (msgs_all h.msgs m hm).1.keyLen
  have := h.nw; omega⟩
/-- The loop over the messages. -/
theorem proj_row (form : Nat) {b : Box} (hM : BoxMay b) (i : Nat) (hi : i < b.msgs.length) : ((((b.msgs.take i).map (projM form b.id) ++ b.msgs.drop i).map Msg.d).getD i .nilp) = b.msgs[i].d ∧
    setEl (((b.msgs.take i).map (projM form b.id) ++ b.msgs.drop i).map Msg.d) i 0 (projM form b.id b.msgs[i]).cs = ((b.msgs.take (i + 1)).map (projM form b.id) ++ b.msgs.drop (i + 1)).map Msg.d := by
  have hl : ((b.msgs.take i).map (projM form b.id)).length = i := by simp; omega
  have e1 : ((((b.msgs.take i).map (projM form b.id) ++ b.msgs.drop i).map Msg.d).getD i .nilp) = b.msgs[i].d := by
    rw [List.getD_eq_getElem?_getD, List.getElem?_map, List.getElem?_append_right (by omega), hl, Nat.sub_self, drop_cons hi]; rfl
  refine ⟨e1, ?_⟩
  unfold setEl
  rw [e1]
  have e2 : spliceD 0 (projM form b.id b.msgs[i]).cs b.msgs[i].d = (projM form b.id b.msgs[i]).d := rfl
  rw [e2, drop_cons hi, List.map_append, List.map_append, List.map_cons, List.set_append_right _ _ (by simp; omega)]
  simp only [List.length_map, hl, Nat.sub_self, List.set_cons_zero]
  rw [List.take_succ_eq_append_getElem hi, List.map_append, List.map_append, List.append_assoc]
  rfl
theorem filt_loop {G : (List D → Int → Nat → Prop) → List D → Int → Nat → Prop} {E : List D → Int → Nat → Prop} (ks : List Int) (hN : ks.length ≤ 1099511627776)
    (hs : ∀ (I : List D → Int → Nat → Prop) i (hi : i < ks.length) k, (∀ n, Go.IntKind.wrap .i64 ((i : Int) + 1) = n → ∃ k', k' < k ∧ I (ints ((ks.take (i + 1)).filter fun k => decide (k < 32))) n k') → G I (ints ((ks.take i).filter fun k => decide (k < 32))) i k)
    (he : ∀ k, E (ints (ks.filter fun k => decide (k < 32))) ks.length k) :
    ∃ I : List D → Int → Nat → Prop, (∃ k, I [] 0 k) ∧ ∀ l n k, I l n k → ((decide (n < (ks.length : Int)) = true → G I l n k) ∧ (decide (n < (ks.length : Int)) = false → E l n k)) := by
  refine ⟨fun l n m => LI ks.length (fun i => l = ints ((ks.take i).filter fun k => decide (k < 32))) n m, ⟨_, LI.start rfl⟩, ?_⟩
  rintro _ _ _ ⟨i, rfl, hi, rfl, rfl⟩
  refine ⟨fun h => ?_, fun h => ?_⟩
  · have hlt : i < ks.length := by have := of_decide_eq_true h; omega
    refine hs _ i hlt _ fun n hn => ?_
    obtain ⟨g1, g2, g3⟩ := LI.nx (by omega) hlt hn
    exact ⟨_, g1, i + 1, g2, g3, rfl, rfl⟩
  · have hlt : i = ks.length := by have := of_decide_eq_false h; omega
    subst hlt
    rw [List.take_length]; exact he _
/-- Project, at form 1 and at form 2. -/
theorem swap12 (b : Box) (hb : BoxTiny b) : Runs P 52 [.d b.d] [] (rowBox 25 b) [(25, [.arr 7 (b.msgs.map Msg.d)])] := by
  have := (r52 b hb).swap 12 25
  simpa [CV.ren, CV.ren1, renB, swp, Function.comp_def, rowBox] using this
theorem r19 (form : Nat) (hf : form = 1 ∨ form = 2) (b : Box) (hM : BoxMay b) (hb : BoxOk b) : Runs P 19 [.d (iD form), .d b.d] [] (.tup [.d (projB form b).d, .d (iD 0)]) [] := by
  refine runs_walkA t19 rfl (vc19 _ _ _ _ _ _ _ _ _) (by simp) ?_
  have h0 := boxMay.2 hM
  have hT := boxTiny hM hb
  have hnm := hM.nm
  have hnw := hM.nw
  have hid := hM.id.2
  rintro b7 h7
  have e7 : b7 = false := by rw [← h7]; rcases hf with rfl | rfl <;> decide
  subst e7
  refine ⟨_, fun _ => r16 b hb, ?_⟩
  rintro b9 h9
  have e9 : b9 = false := by rw [← h9, h0]; rfl
  subst e9
  refine ⟨fun h => (by cases h), fun _ => ⟨b.id, b.valid, b.next, b.high, strs b.words, b.msgs.map Msg.d, ?_, ?_⟩⟩
  · have := swap12 b hT
    rw [List.length_map]; exact this
  have e3 : ((form : Int) == 3) = false := by rcases hf with rfl | rfl <;> decide
  refine ⟨fun h => (by rw [e3] at h; cases h), fun _ => ?_⟩
  rintro n16 h16
  have e16 : n16 = (kept b : Nat) := by
    rw [← h16, mmI_f]
    simp only [nI, strs_len]
    unfold kept; omega
  subst e16
  have hkl : kept b ≤ b.words.length := by unfold kept; omega
  refine ⟨⟨by simp only [nI]; omega, by simp only [nI]; omega, by simp only [nI, strs_len]; omega⟩, ?_⟩
  rintro l17 h17
  have e17 : l17 = strs (b.words.take (kept b)) := by
    rw [← h17]; simp [nI, strs]
  subst e17
  have hml : (b.msgs.map Msg.d).length = b.msgs.length := List.length_map ..
  have hidx : ∀ i : Nat, addO 0 (Int.toNat (i : Int)) = i := fun i => by rw [addO_eq, Nat.zero_add, Int.toNat_natCast]
  have fin : ∀ (h : Int) (bx : List (Nat × List CV)), h = (projB form b).high → EndR (.tup [.d (.agg [.str b.id, iD b.valid, iD b.next, iD h, .slice 1 (strs (b.words.take (kept b))), .slice 7 (((b.msgs.take b.msgs.length).map (projM form b.id) ++ b.msgs.drop b.msgs.length).map Msg.d)]), .d (iD 0)]) (.tup [.d (projB form b).d, .d (iD 0)]) bx [] := by
    rintro h bx rfl
    refine end0 ?_ rfl
    rw [List.take_length, List.drop_length, List.append_nil]
    rfl
  have row : ∀ i (hi : i < b.msgs.length), (List.take 7 (List.drop 0 (D.cells (List.getD ((((b.msgs.take i).map (projM form b.id) ++ b.msgs.drop i).map Msg.d)) i .nilp)))) = b.msgs[i].cs := fun i hi => by
    rw [(proj_row form hM i hi).1]; rfl
  have len : ∀ i, i ≤ b.msgs.length → (((b.msgs.take i).map (projM form b.id) ++ b.msgs.drop i).map Msg.d).length = b.msgs.length := fun i hi => by simp; omega
  have keyl : ∀ i (hi : i < b.msgs.length), b.msgs[i].keys.length ≤ 64 := fun i hi => by
    have := (msgs_all hM.msgs _ (List.getElem_mem hi)).1.keyLen
    omega
  have kf : ∀ i (hi : i < b.msgs.length), (projM form b.id b.msgs[i]).keys = b.msgs[i].keys.filter fun k => decide (k < 32) := fun i hi => keys_filter (msgs_all hM.msgs _ (List.getElem_mem hi)).1.keys
  have uidl : ∀ i (hi : i < b.msgs.length), b.msgs[i].uid ≤ 9223372036854775807 := fun i hi => by
    have := (msgs_all hM.msgs _ (List.getElem_mem hi)).1.uid
    omega
  simp only [nI, hml]
  -- the loop over the messages, with what a round does
  have round : ∀ {G : (Int → List D → Nat → Prop) → Int → List D → Nat → Prop} {E : Int → List D → Prop}, (∀ (I : Int → List D → Nat → Prop) i (hi : i < b.msgs.length) k, (∀ l41, setEl (((b.msgs.take i).map (projM form b.id) ++ b.msgs.drop i).map Msg.d) i 0 (projM form b.id b.msgs[i]).cs = l41 → ∀ n, Go.IntKind.wrap .i64 ((i : Int) + 1) = n → ∃ k', k' < k ∧ I n l41 k') → G I i (((b.msgs.take i).map (projM form b.id) ++ b.msgs.drop i).map Msg.d) k) →
      E b.msgs.length (((b.msgs.take b.msgs.length).map (projM form b.id) ++ b.msgs.drop b.msgs.length).map Msg.d) → ∃ I : Int → List D → Nat → Prop, (∃ k, I 0 (b.msgs.map Msg.d) k) ∧ ∀ n l k, I n l k → ((decide (n < (b.msgs.length : Int)) = true → G I n l k) ∧ (decide (n < (b.msgs.length : Int)) = false → E n l)) := by
    intro G E hs he
    refine ⟨fun n l m => LI b.msgs.length (fun i => l = ((b.msgs.take i).map (projM form b.id) ++ b.msgs.drop i).map Msg.d) n m, ⟨_, LI.start (by simp)⟩, ?_⟩
    rintro _ _ _ ⟨i, rfl, hi, rfl, rfl⟩
    refine ⟨fun h => ?_, fun h => ?_⟩
    · have hlt : i < b.msgs.length := by have := of_decide_eq_true h; omega
      refine hs _ i hlt _ fun l41 h41 n hn => ?_
      obtain ⟨g1, g2, g3⟩ := LI.nx (by omega) hlt hn
      exact ⟨_, g1, i + 1, g2, g3, rfl, by rw [← h41, (proj_row form hM i hlt).2]⟩
    · have hlt : i = b.msgs.length := by have := of_decide_eq_false h; omega
      subst hlt; exact he
  rcases hf with rfl | rfl
  · refine ⟨fun _ => ?_, fun h => (by simp at h)⟩
    refine round (fun I i hi k next => ?_) ?_
    · rw [hidx, row i hi]
      refine ⟨⟨by omega, by omega⟩, by rw [len i (by omega)]; exact hi, _, _, _, _, _, _, _, rfl, fun _ => ?_, fun h => (by simp at h)⟩
      refine ⟨_, r26 b.id b.msgs[i].uid (uidl i hi) (by omega), ?_⟩
      rw [ints_len]
      have hk := keyl i hi
      refine filt_loop b.msgs[i].keys (by omega) (fun I2 j hj m nx => ?_) fun m => ?_
      · refine ⟨⟨by omega, by omega⟩, b.msgs[i].keys[j], by rw [ints_get _ hj]; rfl, ?_⟩
        rw [List.take_succ_eq_append_getElem hj, List.filter_append] at nx
        refine ⟨fun h => ⟨?_, fun n hn => ?_⟩, fun h n hn => ?_⟩
        · have : (ints (List.filter (fun k => decide (k < 32)) (List.take j b.msgs[i].keys))).length ≤ 64 := by
            rw [ints_len]
            refine Nat.le_trans (List.length_filter_le _ _) ?_
            rw [List.length_take]; omega
          simp only [List.length_cons, List.length_nil]; omega
        · have := nx n hn
          rw [List.filter_cons, if_pos h, List.filter_nil] at this
          simpa [ints] using this
        · have := nx n hn
          rw [List.filter_cons, if_neg (by rw [h]; decide), List.filter_nil, List.append_nil] at this
          exact this
      · refine ⟨⟨by omega, by omega⟩, by rw [len i (by omega)]; exact hi, fun l41 h41 n hn => next l41 ?_ n hn⟩
        rw [← h41]
        unfold Msg.cs
        rw [kf i hi]; rfl
    · exact ⟨by rw [len _ (Nat.le_refl _)], fin 1 _ rfl⟩
  · refine ⟨fun h => (by simp at h), fun _ => ?_⟩
    refine round (fun I i hi k next => ?_) ?_
    · rw [hidx, row i hi]
      refine ⟨⟨by omega, by omega⟩, by rw [len i (by omega)]; exact hi, _, _, _, _, _, _, _, rfl, fun h => (by simp at h), fun _ => ?_⟩
      refine ⟨_, r26 b.id b.msgs[i].uid (uidl i hi) (by omega), ?_⟩
      rw [ints_len]
      have hk := keyl i hi
      refine filt_loop b.msgs[i].keys (by omega) (fun I2 j hj m nx => ?_) fun m => ?_
      · refine ⟨⟨by omega, by omega⟩, b.msgs[i].keys[j], by rw [ints_get _ hj]; rfl, ?_⟩
        rw [List.take_succ_eq_append_getElem hj, List.filter_append] at nx
        refine ⟨fun h => ⟨?_, fun n hn => ?_⟩, fun h n hn => ?_⟩
        · have : (ints (List.filter (fun k => decide (k < 32)) (List.take j b.msgs[i].keys))).length ≤ 64 := by
            rw [ints_len]
            refine Nat.le_trans (List.length_filter_le _ _) ?_
            rw [List.length_take]; omega
          simp only [List.length_cons, List.length_nil]; omega
        · have := nx n hn
          rw [List.filter_cons, if_pos h, List.filter_nil] at this
          simpa [ints] using this
        · have := nx n hn
          rw [List.filter_cons, if_neg (by rw [h]; decide), List.filter_nil, List.append_nil] at this
          exact this
      · refine ⟨⟨by omega, by omega⟩, by rw [len i (by omega)]; exact hi, fun l41 h41 n hn => next l41 ?_ n hn⟩
        rw [← h41]
        unfold Msg.cs
        rw [kf i hi]; rfl
    · exact ⟨by rw [len _ (Nat.le_refl _)], fin b.high _ rfl⟩
end B
end Go.Proofs.YtmkkljbfmdngfaaDoor
