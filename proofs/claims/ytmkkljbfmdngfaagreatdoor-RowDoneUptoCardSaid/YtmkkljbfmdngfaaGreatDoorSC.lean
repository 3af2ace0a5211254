/- Rows that were made of a box are done to it; in plain words. No condition. -/
import Derived.Test.YtmkkljbfmdngfaaGreatDoorSB
import Derived.Test.YtmkkljbfmdngfaaGreatDoorQI
set_option linter.all false
namespace Go.Proofs.YtmkkljbfmdngfaaGreatDoor
namespace B
open Go.RowKit

theorem good_word {w : Bytes} (h : atomB w = true) : GoodR (wordRow w) := by
  have hl := (atom_len h).2
  have e : rowE (wordRow w) = numB 4 ++ txtB w := rfl
  unfold GoodR
  rw [e]
  refine Rds.bind (num_rds 7 4 (by decide) (by decide) (by decide)) ?_
  have : bodyP 4 = (textP 24).bind fun t => Rd.pure (⟨4, 0, 0, noMsg, t⟩ : Row) := by unfold bodyP; rfl
  rw [this]
  exact (text_rds 24 w (by omega) (by decide)).end fun t => (⟨4, 0, 0, noMsg, t⟩ : Row)
theorem good_msg {nw : Nat} {m : Msg} (hm : MsgMay nw m) (hn : nw ≤ 64) : Rds msgQ (msgE m) m := by
  have h1 := hm.uid; have h2 := hm.mod; have h3 := hm.date; have h4 := (atom_len hm.id).2; have h5 := hm.flags; have h6 := hm.text
  have hk := hm.keyLen
  have M : (Mx : Int) ≤ 1099511627776 := by decide
  unfold msgQ msgE
  exact Rds.bind (num_rds Mx m.uid (by omega) (by show _ ≤ (1000000 : Int); omega) M) (Rds.bind (num_rds Mx m.mod (by omega) (by show _ ≤ (1000000 : Int); omega) M) (Rds.bind (num_rds Mx m.date (by omega) (by show _ ≤ (1000000 : Int); omega) M)
    (Rds.bind (text_rds 24 m.id (by omega) (by decide)) (Rds.bind (num_rds Mx m.flags (by omega) (by show _ ≤ (1000000 : Int); omega) M) (Rds.bind (keys_rds m.keys (by omega) fun k hk' => by have := hm.key0 k hk'; omega)
      ((text_rds 300 m.text (by omega) (by decide)).end fun t => (⟨m.uid, m.mod, m.date, m.id, m.flags, m.keys, t⟩ : Msg)))))))
theorem good_add {nw : Nat} {m : Msg} (hm : MsgMay nw m) (hn : nw ≤ 64) : GoodR (addRow m) := by
  have e : rowE (addRow m) = numB 1 ++ msgE m := rfl
  unfold GoodR
  rw [e]
  refine Rds.bind (num_rds 7 1 (by decide) (by decide) (by decide)) ?_
  have : bodyP 1 = msgQ.bind fun m => Rd.pure (⟨1, 0, 0, m, []⟩ : Row) := by unfold bodyP; rfl
  rw [this]
  exact (good_msg hm hn).end fun m => (⟨1, 0, 0, m, []⟩ : Row)
theorem back_ok {l : List Row} (h : ∀ r ∈ l, GoodR r) (hn : l.length ≤ 200) (hh : ∀ r ∈ l, heavyRow r = false) : rowsB (bytesR l) = .ok l := by
  have : bytesR l = l.flatMap rowE := by
    unfold bytesR
    rw [if_pos ⟨hn, by rw [List.any_eq_false]; exact fun r hr => by rw [hh r hr]; simp, h⟩]
  rw [this]
  exact (rowsB_iff l).2 ⟨h, hn⟩
theorem heavy_word {w : Bytes} (h : atomB w = true) : heavyRow (wordRow w) = false := by
  have := (atom_len h).2
  unfold heavyRow wordRow
  simp; omega
theorem heavy_add {nw : Nat} {m : Msg} (hm : MsgMay nw m) (hn : nw ≤ 64) : heavyRow (addRow m) = false := by
  have := (atom_len hm.id).2; have := hm.text; have := hm.keyLen
  unfold heavyRow addRow
  simp; omega

theorem max_up (n : Int) : max n (n + 1) = n + 1 := by omega
theorem add_done {b : Box} {date : Int} {id : Bytes} {flags : Int} {ws : List Bytes} {text : Bytes} (hb : BoxMay b) (h : (addOut b date id flags ws text).1 = 0) :
    ∃ M : Msg, M = addM b date (idB b id) flags ws text ∧ allB b (addOut b date id flags ws text).2 = (0, { b with words := b.words ++ freshB b ws, msgs := b.msgs ++ [M], next := b.next + 1, high := b.high + 1 }) ∧
      rowsB (bytesR (addOut b date id flags ws text).2) = .ok (addOut b date id flags ws text).2 ∧ wordsB [] ws = true ∧ (∀ r ∈ (addOut b date id flags ws text).2, RowOk r) ∧ (addOut b date id flags ws text).2.length ≤ 65 ∧
      BoxMay { b with words := b.words ++ freshB b ws, msgs := b.msgs ++ [M], next := b.next + 1, high := b.high + 1 } := by
  unfold addOut at h
  split at h
  · cases h
  rename_i c1
  have c1' := Decidable.not_not.1 c1
  split at h
  · cases h
  rename_i c2
  split at h
  · cases h
  rename_i c3
  split at h
  · cases h
  rename_i c4
  have e : addOut b date id flags ws text = (0, (freshB b ws).map wordRow ++ [addRow (addM b date (idB b id) flags ws text)]) := by
    unfold addOut; rw [if_neg c1, if_neg c2, if_neg c3, if_neg c4]
  rw [e]
  obtain ⟨M, hM⟩ : ∃ M, M = addM b date (idB b id) flags ws text := ⟨_, rfl⟩
  rw [← hM] at c4 ⊢
  have hmay : mayMsg (b.words ++ freshB b ws).length M = true := by simpa using c4
  have hm := msgMay.1 hmay
  have hnw : (b.words ++ freshB b ws).length ≤ 64 := by rw [List.length_append]; omega
  have hfr := fresh_ok (b := b) c1'.2
  have hat : ∀ w ∈ freshB b ws, atomB w = true := fun w hw => ((wordsB_iff.1 hfr).1 w hw).1
  have hu : M.uid = b.next := by rw [hM]; rfl
  have hmo : M.mod = b.high + 1 := by rw [hM]; rfl
  have hrun : runB b ((freshB b ws).map wordRow ++ [addRow M]) = (0, { b with words := b.words ++ freshB b ws, msgs := b.msgs ++ [M], next := b.next + 1, high := b.high + 1 }) := by
    rw [run_words _ b _ hfr (by omega)]
    have h1 : applyB { b with words := b.words ++ freshB b ws } (addRow M) = (0, { b with words := b.words ++ freshB b ws, msgs := b.msgs ++ [M], next := b.next + 1, high := b.high + 1 }) := by
      show addB _ M = _
      unfold addB
      rw [if_neg (by simp only; omega), if_neg (by rw [hmay]; decide), if_neg (by rw [hu]; simp)]
      rw [hu, hmo, max_up]
    rw [runB, h1, if_pos rfl, runB]
  have hall : allB b ((freshB b ws).map wordRow ++ [addRow M]) = (0, { b with words := b.words ++ freshB b ws, msgs := b.msgs ++ [M], next := b.next + 1, high := b.high + 1 }) := by
    unfold allB; rw [if_pos (boxMay.2 hb)]; exact hrun
  have hin : ∀ r ∈ (freshB b ws).map wordRow ++ [addRow M], (∃ w, atomB w = true ∧ r = wordRow w) ∨ r = addRow M := by
    intro r hr
    rcases List.mem_append.1 hr with hr | hr
    · obtain ⟨w, hw, rfl⟩ := List.mem_map.1 hr
      exact .inl ⟨w, hat w hw, rfl⟩
    · exact .inr (by simpa using hr)
  have hlen : ((freshB b ws).map wordRow ++ [addRow M]).length ≤ 65 := by
    rw [List.length_append] at hnw; simp; omega
  refine ⟨M, rfl, hall, back_ok (fun r hr => ?_) (Nat.le_trans hlen (by decide)) (fun r hr => ?_), c1'.2, fun r hr => ?_, hlen, (runB_may hb hrun).1⟩
  · rcases hin r hr with ⟨w, hw, rfl⟩ | rfl
    · exact good_word hw
    · exact good_add hm hnw
  · rcases hin r hr with ⟨w, hw, rfl⟩ | rfl
    · exact heavy_word hw
    · exact heavy_add hm hnw
  · rcases hin r hr with ⟨w, hw, rfl⟩ | rfl
    · have := atom_len hw
      exact ⟨by simp [wordRow]; omega, by simp [wordRow], by simp [wordRow]⟩
    · have := atom_len hm.id; have := hm.keyLen
      exact ⟨by simp [addRow], by show M.keys.length ≤ _; omega, by show M.id.length ≤ _; omega⟩
theorem add_words {b : Box} {ws : List Bytes} : ((placesB b ws).filter fun k => decide (0 ≤ k) && decide (k < ((b.words ++ freshB b ws).length : Int))) = placesB b ws := by
  refine List.filter_eq_self.2 fun k hk => ?_
  obtain ⟨h1, h2, _⟩ := places_in b ws hk
  simp only [Bool.and_eq_true, decide_eq_true_eq]
  exact ⟨h1, h2⟩

def andF (a b : Int) : Int := Go.IntKind.wrap Go.IntKind.i64 (nI (BitVec.toNat (BitVec.ofInt (Go.IntKind.bits .i64) a &&& BitVec.ofInt (Go.IntKind.bits .i64) b)))
theorem and_fin : ∀ a b : Fin 32, andF (orF a.1 b.1) a.1 = a.1 ∧ andF (cutF b.1 a.1) a.1 = 0 ∧ orF a.1 (orF a.1 b.1) = orF a.1 b.1 ∧ cutF (cutF b.1 a.1) a.1 = cutF b.1 a.1 := by decide +kernel
theorem and_ok {a b : Int} (ha : 0 ≤ a ∧ a ≤ 31) (hb : 0 ≤ b ∧ b ≤ 31) : andF (orF a b) a = a ∧ andF (cutF b a) a = 0 ∧ orF a (orF a b) = orF a b ∧ cutF (cutF b a) a = cutF b a := by
  have := and_fin ⟨a.toNat, by omega⟩ ⟨b.toNat, by omega⟩
  simp only [Int.toNat_of_nonneg ha.1, Int.toNat_of_nonneg hb.1] at this
  exact this
/-- The bits that a message shall have. -/
def bitsOk (how fl f : Int) : Prop := (how = 0 → f = fl) ∧ (how = 1 → andF f fl = fl) ∧ (how = 2 → andF f fl = 0)
theorem fresh_none {b c : Box} {ws : List Bytes} (h : c.words = b.words ++ freshB b ws) : freshB c ws = [] := by
  unfold freshB
  rw [List.filter_eq_nil_iff]
  intro w hw
  have := mem_all b ws hw
  rw [h]; simp only [List.contains_iff_mem.2 this, Bool.not_true, Bool.false_eq_true, not_false_iff]
theorem places_same {b c : Box} {ws : List Bytes} (h : c.words = b.words ++ freshB b ws) : placesB c ws = placesB b ws := by
  unfold placesB
  rw [fresh_none h, List.append_nil, h]
theorem flagsOut_eq {b : Box} {uid fl : Int} {ws : List Bytes} {how : Int} {i : Nat} (hb : BoxMay b) (hfl : 0 ≤ fl ∧ fl ≤ 31) (hw : wordsB [] ws = true) (h0 : 0 ≤ how) (h2 : how ≤ 2) (hf : findM b.msgs uid = some i) (hi : i < b.msgs.length) :
    flagsOut b uid fl ws how = flagsM b uid fl ws how b.msgs[i] := by
  unfold flagsOut
  rw [if_neg (fun q => q ⟨boxMay.2 hb, hfl, hw, h0, h2⟩), hf]
  dsimp only
  rw [List.getElem?_eq_getElem hi]
theorem flagsEnd_none {b : Box} {uid : Int} {m : Msg} {fl : Int} {keys : List Int} {more : List Bytes} (h1 : fl = m.flags) (h2 : keys = m.keys) : flagsEnd b uid m fl keys more = (0, []) := by
  unfold flagsEnd; rw [if_pos ⟨h1, h2⟩]
structure Done (b c : Box) (i : Nat) (uid how fl : Int) (ws : List Bytes) (rows : List Row) : Prop where
  all : allB b rows = (0, c)
  may : BoxMay c
  len : c.msgs.length = b.msgs.length
  find : findM c.msgs uid = some i
  bits : ∃ y, c.msgs[i]? = some y ∧ bitsOk how fl y.flags
  high : (c.high > b.high) ↔ rows ≠ []
  again : flagsOut c uid fl ws how = (0, [])
  ok : ∀ r ∈ rows, RowOk r
  n : rows.length ≤ 65
theorem setF_find {b : Box} {uid : Int} {i : Nat} (hf : findM b.msgs uid = some i) (hi : i < b.msgs.length) (fl : Int) (keys : List Int) (more : List Bytes) : findM (setF b i b.msgs[i] fl keys more).msgs uid = some i :=
  findM_set hf hi rfl
theorem setF_get {b : Box} {i : Nat} (hi : i < b.msgs.length) (fl : Int) (keys : List Int) (more : List Bytes) : (setF b i b.msgs[i] fl keys more).msgs[i]? = some { b.msgs[i] with flags := fl, keys := keys, mod := b.high + 1 } := by
  simp [setF, hi]
theorem flags_done {b : Box} {uid fl how : Int} {ws : List Bytes} (hb : BoxMay b) (h : (flagsOut b uid fl ws how).1 = 0) : ∃ i c, findM b.msgs uid = some i ∧ Done b c i uid how fl ws (flagsOut b uid fl ws how).2 := by
  have c1 : mayBox b = 0 ∧ (0 ≤ fl ∧ fl ≤ 31) ∧ wordsB [] ws = true ∧ 0 ≤ how ∧ how ≤ 2 := by
    refine Decidable.not_not.1 fun q => ?_
    unfold flagsOut at h
    rw [if_pos q] at h
    cases h
  obtain ⟨_, hfl, hwl, hh0, hh2⟩ := c1
  obtain ⟨i, hf⟩ : ∃ i, findM b.msgs uid = some i := by
    cases e : findM b.msgs uid with
    | some i => exact ⟨i, rfl⟩
    | none =>
      unfold flagsOut at h
      rw [if_neg (fun q => q ⟨boxMay.2 hb, hfl, hwl, hh0, hh2⟩), e] at h
      cases h
  have hi := (findM_some hf).1
  have hm := ((msgsMay.1 hb.msgs).all _ (List.getElem_mem hi)).2.1
  have hkm := hm.key0
  have rise := (keysB_iff.1 hm.keys).1
  have hnd := (wordsB_iff.1 hwl).2
  have hfr := fresh_ok (b := b) hwl
  have A := and_ok hfl hm.flags
  have F := flags_ok hm.flags hfl
  have F' := flags_ok hfl hm.flags
  rw [flagsOut_eq hb hfl hwl hh0 hh2 hf hi] at h ⊢
  -- one way, then again
  have key : ∀ (f : Int) (keys : List Int) (more : List Bytes), (0 ≤ f ∧ f ≤ 31) → wordsB b.words more = true → (keys.Pairwise (· < ·) ∧ ∀ k ∈ keys, 0 ≤ k ∧ k < (b.words ++ more).length) → (flagsEnd b uid b.msgs[i] f keys more).1 = 0 → bitsOk how fl f →
      (∀ (c : Box) (y : Msg), BoxMay c → findM c.msgs uid = some i → c.msgs[i]? = some y → y.flags = f → y.keys = keys → (c.words = b.words ++ more ∨ (c = b ∧ f = b.msgs[i].flags ∧ keys = b.msgs[i].keys)) → flagsM c uid fl ws how y = (0, [])) →
      ∃ c, Done b c i uid how fl ws (flagsEnd b uid b.msgs[i] f keys more).2 := by
    intro f keys more hf1 hw1 hk1 he hbit hagain
    have agn : ∀ (c : Box) (y : Msg), BoxMay c → findM c.msgs uid = some i → c.msgs[i]? = some y → y.flags = f → y.keys = keys → (c.words = b.words ++ more ∨ (c = b ∧ f = b.msgs[i].flags ∧ keys = b.msgs[i].keys)) → flagsOut c uid fl ws how = (0, []) := by
      intro c y hc hfc hy hyf hyk hcw
      have hic : i < c.msgs.length := (List.getElem?_eq_some_iff.1 hy).1
      have hyi : c.msgs[i] = y := (List.getElem?_eq_some_iff.1 hy).2
      rw [flagsOut_eq hc hfl hwl hh0 hh2 hfc hic, hyi]
      exact hagain c y hc hfc hy hyf hyk hcw
    rcases flagsEnd_done hb hf hi hf1 hw1 hk1 (rows := (flagsEnd b uid b.msgs[i] f keys more).2) (Prod.ext he rfl) with ⟨e, q1, q2, q3⟩ | ⟨e, q1, q2, q3, q4, q5⟩
    · rw [e] at q3 ⊢
      exact ⟨b, q3, hb, rfl, hf, ⟨_, List.getElem?_eq_getElem hi, by rw [← q1]; exact hbit⟩, ⟨fun q => by omega, fun q => absurd rfl q⟩, agn b b.msgs[i] hb hf (List.getElem?_eq_getElem hi) q1.symm q2.symm (.inr ⟨rfl, q1, q2⟩), by simp, by simp⟩
    · have hat : ∀ w ∈ more, atomB w = true := fun w hw => ((wordsB_iff.1 hw1).1 w hw).1
      rw [e] at q4 ⊢
      have hkl : keys.length ≤ 64 := by
        have := q5
        have hy := ((msgsMay.1 q5.msgs).all { b.msgs[i] with flags := f, keys := keys, mod := b.high + 1 } (List.mem_of_getElem? (setF_get hi f keys more))).2.1.keyLen
        have := q5.nw
        simp only at hy; omega
      refine ⟨_, q4, q5, by simp [setF], setF_find hf hi f keys more, ⟨_, setF_get hi f keys more, hbit⟩, ⟨fun _ => by simp, fun _ => ?_⟩, agn _ _ q5 (setF_find hf hi f keys more) (setF_get hi f keys more) rfl rfl (.inl rfl), fun r hr => ?_, ?_⟩
      · show b.high + 1 > b.high; omega
      · rcases List.mem_append.1 hr with hr | hr
        · obtain ⟨w, hw, rfl⟩ := List.mem_map.1 hr
          have := atom_len (hat w hw)
          exact ⟨by simp [wordRow]; omega, by simp [wordRow], by simp [wordRow]⟩
        · rw [List.mem_singleton] at hr; subst hr
          exact ⟨by simp [flagRow], by show keys.length ≤ _; omega, by simp [flagRow]⟩
      · rw [List.length_append] at q3; simp; omega
  have hpl : ∀ k ∈ placesB b ws, 0 ≤ k ∧ k < (b.words ++ freshB b ws).length := fun k hk => by
    obtain ⟨a1, a2, _⟩ := places_in b ws hk; exact ⟨a1, a2⟩
  refine ⟨i, ?_⟩
  by_cases c1 : how = 1
  · have e1 : flagsM b uid fl ws how b.msgs[i] = flagsEnd b uid b.msgs[i] (orF fl b.msgs[i].flags) (Lib.compact (sortI (placesB b ws ++ b.msgs[i].keys))) (freshB b ws) := by unfold flagsM; rw [if_pos c1]
    rw [e1] at h ⊢
    obtain ⟨k1, k2⟩ := compact_rise (sortI_sorted (placesB b ws ++ b.msgs[i].keys))
    have k3 : ∀ x, x ∈ Lib.compact (sortI (placesB b ws ++ b.msgs[i].keys)) ↔ x ∈ placesB b ws ∨ x ∈ b.msgs[i].keys := fun x => by rw [k2, sortI_mem, List.mem_append]
    have agK : ∀ c : Box, (∀ x, x ∈ placesB c ws ↔ x ∈ placesB b ws) → ∀ keys, keys = Lib.compact (sortI (placesB b ws ++ b.msgs[i].keys)) → Lib.compact (sortI (placesB c ws ++ keys)) = keys := by
      intro c hc keys hk
      obtain ⟨p1, p2⟩ := compact_rise (sortI_sorted (placesB c ws ++ keys))
      refine rise_eq p1 (by rw [hk]; exact k1) fun x => ?_
      rw [p2, sortI_mem, List.mem_append, hc, hk, k3]
      constructor
      · rintro (q | q)
        · exact .inl q
        · exact q
      · rintro (q | q)
        · exact .inl q
        · exact .inr (.inr q)
    obtain ⟨c, hc⟩ := key _ _ _ F'.1 hfr ⟨k1, fun k hk => by
      rcases (k3 k).1 hk with q | q
      · exact hpl k q
      · have := hkm k q; rw [List.length_append]; omega⟩ h ⟨fun q => by omega, fun _ => A.1, fun q => by omega⟩ (fun c y hc hfc hy hyf hyk hcw => by
        unfold flagsM
        rw [if_pos c1]
        have hpc : ∀ x, x ∈ placesB c ws ↔ x ∈ placesB b ws := by
          rcases hcw with q | ⟨q, _, _⟩
          · intro x; rw [places_same q]
          · intro x; rw [q]
        exact flagsEnd_none (by rw [hyf]; exact A.2.2.1) (by rw [hyk]; exact agK c hpc _ rfl))
    exact ⟨c, hf, hc⟩
  · by_cases c2 : how = 2
    · have e1 : flagsM b uid fl ws how b.msgs[i] = flagsEnd b uid b.msgs[i] (cutF b.msgs[i].flags fl) (keepK b ws b.msgs[i].keys) [] := by unfold flagsM; rw [if_neg c1, if_pos c2]
      rw [e1] at h ⊢
      obtain ⟨c, hc⟩ := key _ _ _ F.2.1 (by rfl) ⟨List.Pairwise.sublist List.filter_sublist rise, fun k hk => by
        have := hkm k (List.mem_filter.1 hk).1
        simpa using this⟩ h ⟨fun q => by omega, fun q => by omega, fun _ => A.2.1⟩ (fun c y hc hfc hy hyf hyk hcw => by
          unfold flagsM
          rw [if_neg c1, if_pos c2]
          refine flagsEnd_none (by rw [hyf]; exact A.2.2.2) ?_
          have hwd : c.words = b.words := by
            rcases hcw with q | ⟨q, _, _⟩
            · simpa using q
            · rw [q]
          rw [hyk]
          unfold keepK
          rw [List.filter_filter]
          refine List.filter_congr fun k hk => ?_
          unfold keyW
          rw [hwd]; simp)
      exact ⟨c, hf, hc⟩
    · have c0 : how = 0 := by omega
      have e1 : flagsM b uid fl ws how b.msgs[i] = flagsEnd b uid b.msgs[i] fl (placesB b ws) (freshB b ws) := by unfold flagsM; rw [if_neg c1, if_neg c2]
      rw [e1] at h ⊢
      obtain ⟨c, hc⟩ := key _ _ _ hfl hfr ⟨places_rise b hnd, hpl⟩ h ⟨fun _ => rfl, fun q => by omega, fun q => by omega⟩ (fun c y hc hfc hy hyf hyk hcw => by
        unfold flagsM
        rw [if_neg c1, if_neg c2]
        refine flagsEnd_none hyf.symm ?_
        rw [hyk]
        rcases hcw with q | ⟨q, _, _⟩
        · exact places_same q
        · rw [q])
      exact ⟨c, hf, hc⟩

theorem allB_may' {b c : Box} {l : List Row} (h : allB b l = (0, c)) : BoxMay c := by
  have := allB_may (b := b) (l := l) (by rw [h])
  rwa [h] at this

theorem cut_done {b : Box} {uid : Int} (hb : BoxMay b) (hu : (findM b.msgs uid).isSome = true) :
    ((cutOut b [uid]).1 = 0 ∧ ∃ c, allB b (cutOut b [uid]).2 = (0, c) ∧ BoxMay c ∧ findI c.msgs uid = -1 ∧ c.high = b.high + 1 ∧ c.next = b.next ∧ (cutOut b [uid]).2 = cutRows b.high [uid]) ∨ ((cutOut b [uid]).1 = 9 ∧ b.high = 1000000) := by
  have hc : cutsB b [] [uid] = true := (cutsB_iff b [uid] []).2 ⟨fun u h => by rw [List.mem_singleton] at h; subst h; exact ⟨hu, by simp⟩, by simp⟩
  have hh := hb.high
  unfold cutOut
  rw [if_neg (by simp [boxMay.2 hb]), if_neg (by rw [hc]; decide)]
  by_cases h : 1000000 < b.high + ([uid] : List Int).length
  · rw [if_pos h]
    simp only [List.length_cons, List.length_nil] at h
    exact .inr ⟨rfl, by omega⟩
  · rw [if_neg h]
    obtain ⟨a1, a2⟩ := all_cuts hb hc (by omega)
    refine .inl ⟨rfl, _, a1, allB_may' a1, ?_, by simp, rfl, rfl⟩
    unfold findI
    have : findM (leftM [uid] b.msgs) uid = none := by
      cases e : findM (leftM [uid] b.msgs) uid with
      | none => rfl
      | some j =>
        obtain ⟨hj, hju⟩ := findM_some e
        have h3 : (![uid].contains ((leftM [uid] b.msgs)[j]).uid) = true := (List.mem_filter.1 (show (leftM [uid] b.msgs)[j] ∈ b.msgs.filter fun m => ![uid].contains m.uid from List.getElem_mem hj)).2
        rw [hju] at h3
        simp at h3
    rw [this]
end B
end Go.Proofs.YtmkkljbfmdngfaaGreatDoor

namespace Go.Proofs.YtmkkljbfmdngfaaGreatDoor
namespace B
def HZ3 : Hint := ⟨fun f r => if r == 1000000 then (if f == 58 then [12, 27] else if f == 108 then [30] else if f == 107 then [38] else if f == 73 then [6, 27] else if f == 40 then [66] else []) else if r == 1000001 then (if f == 40 then [3000070, 3000081] else if f == 999999 then [4000032] else if f == 999999 then [4000061] else if f == 23 then [28, 79] else if f == 32 then [28] else if f == 74 then [2000117] else if f == 33 then [7000003] else []) else if f == 11 then (if r == 5 then [10, 99999] else if r == 8 then [12, 99999] else []) else if f == 107 then (if r == 10 then [1000, 1080074, 1140075] else []) else if f == 146 then (if r == 2 then [7, 1100075, 1120075] else []) else if f == 999999 then (if r == 13 then [23, 9, 1010140, 1030075] else if r == 37 || r == 44 then [6] else []) else if f == 168 || f == 171 || f == 133 || f == 137 then [1100] else if f == 999999 || f == 999999 then (if r == 6 then [9, 99999] else if r == 7 then [11, 99999] else []) else [], fun f => if f == 999999 || f == 999999 || f == 999999 || f == 129 || f == 134 then some 0 else none⟩

set_option maxRecDepth 100000
theorem zt12 :okF P HZ3 12 5=true:=by kernel_rfl
theorem zvc12 (s0 : Bytes) (n1 : Int) (n2 : Int) (n3 : Int) (l4 : List D) (l5 : List D) (n6 : Int) (n7 : Int) (n8 : Int) (s9 : Bytes) (n10 : Int) (l11 : List D) (s12 : Bytes) (l13 : List D) (n14 : Int) (n15 : Int) (res : CV) (objs' : List (Nat × List CV)) : walkA P (tbF P [118,148,112,163,1000101,7000102,107500054,1072002147,75,117] [] 12) (anOf (afOf P HZ3 12) []) (afOf P HZ3 12) [CV.d (D.agg [D.str s0, D.int .i64 n1, D.int .i64 n2, D.int .i64 n3, D.slice 1 l4, D.slice 7 l5]), CV.d (D.agg [D.int .i64 n6, D.int .i64 n7, D.int .i64 n8, D.str s9, D.int .i64 n10, D.slice 1 l11, D.str s12]), CV.d (D.slice 1 l13), CV.d (D.int .i64 n14), CV.d (D.int .i64 n15)] [] (fun rs => endE rs res objs') = ((∃ n16 : Int, ((Runs P 13 [CV.d (D.agg [D.str s0, D.int .i64 n1, D.int .i64 n2, D.int .i64 n3, D.slice 1 l4, D.slice 7 l5])] [] (CV.d (D.int .i64 n16)) []) ∧ (∃ n17 : Int, ((Runs P 13 [CV.d (D.agg [D.str [], D.int .i64 0, D.int .i64 0, D.int .i64 0, D.slice 1 [], D.slice 7 [D.agg [D.int .i64 n6, D.int .i64 n7, D.int .i64 n8, D.str s9, D.int .i64 n10, D.slice 1 l11, D.str s12]]])] [] (CV.d (D.int .i64 n17)) []) ∧ (∀ n18 : Int, (Go.IntKind.wrap Go.IntKind.i64 (n16 + n17) = n18 → (∃ n19 : Int, ((Runs P 34 [CV.d (D.slice 1 l13)] [] (CV.d (D.int .i64 n19)) []) ∧ (∀ n20 : Int, (Go.IntKind.wrap Go.IntKind.i64 (n18 + n19) = n20 → (∃ n21 : Int, (((!decide (n20 > 0)) = true → Runs P 35 [CV.d (D.agg [D.str s0, D.int .i64 n1, D.int .i64 n2, D.int .i64 n3, D.slice 1 l4, D.slice 7 l5])] [] (CV.d (D.int .i64 n21)) []) ∧ (∀ b22 : Bool, ((decide (n20 > 0) || n21 != 0) = b22 → (∃ n23 : Int, (((!b22) = true → Runs P 14 [CV.d (D.agg [D.str s0, D.int .i64 n1, D.int .i64 n2, D.int .i64 n3, D.slice 1 l4, D.slice 7 l5])] [] (CV.d (D.int .i64 n23)) []) ∧ (∀ b24 : Bool, ((b22 || n23 != 0) = b24 → (((b24) = true → (∃ b25 : Bool, ((Runs P 31 [] [] (CV.d (D.bool b25)) []) ∧ EndR (CV.d (D.bool b25)) res [(5, [CV.d (D.str s0), CV.d (D.int .i64 n1), CV.d (D.int .i64 n2), CV.d (D.int .i64 n3), CV.d (D.slice 1 l4), CV.d (D.slice 7 l5)]), (6, [CV.d (D.int .i64 n6), CV.d (D.int .i64 n7), CV.d (D.int .i64 n8), CV.d (D.str s9), CV.d (D.int .i64 n10), CV.d (D.slice 1 l11), CV.d (D.str s12)])] objs'))) ∧ ((b24) = false → (∃ l26 : List D, (∃ n27 : Int, ((Runs P 36 [CV.d (D.agg [D.str s0, D.int .i64 n1, D.int .i64 n2, D.int .i64 n3, D.slice 1 l4, D.slice 7 l5]), CV.d (D.int .i64 n8), CV.d (D.str s9), CV.d (D.int .i64 n10), CV.d (D.slice 1 l13), CV.d (D.str s12)] [] (CV.tup [CV.d (D.slice 11 l26), CV.d (D.int .i64 n27)]) []) ∧ (((n27 == 0) = true → (∃ s28 : Bytes, (∃ n29 : Int, (∃ n30 : Int, (∃ n31 : Int, (∃ l32 : List D, (∃ l33 : List D, (∃ n34 : Int, ((Runs P 32 [CV.d (D.agg [D.str s0, D.int .i64 n1, D.int .i64 n2, D.int .i64 n3, D.slice 1 l4, D.slice 7 l5]), CV.d (D.slice 11 l26)] [] (CV.tup [CV.d (D.agg [D.str s28, D.int .i64 n29, D.int .i64 n30, D.int .i64 n31, D.slice 1 l32, D.slice 7 l33]), CV.d (D.int .i64 n34)]) []) ∧ (∃ l35 : List D, ((Runs P 33 [CV.d (D.slice 11 l26)] [] (CV.d (D.slice 1 l35)) []) ∧ (∃ l36 : List D, (∃ n37 : Int, ((Runs P 37 [CV.d (D.slice 1 l35)] [] (CV.tup [CV.d (D.slice 11 l36), CV.d (D.int .i64 n37)]) []) ∧ (∀ b38 : Bool, ((n34 != 0 || n37 != 0) = b38 → (∃ b39 : Bool, (((!b38) = true → Runs P 38 [CV.d (D.slice 11 l36), CV.d (D.slice 11 l26)] [] (CV.d (D.bool b39)) []) ∧ (∀ b40 : Bool, ((b38 || !b39) = b40 → (∃ n41 : Int, (((!b40) = true → Runs P 35 [CV.d (D.agg [D.str s28, D.int .i64 n29, D.int .i64 n30, D.int .i64 n31, D.slice 1 l32, D.slice 7 l33])] [] (CV.d (D.int .i64 n41)) []) ∧ (∀ b42 : Bool, ((b40 || n41 != 0) = b42 → (∀ n43 : Int, (Go.IntKind.wrap Go.IntKind.i64 (nI (List.length l5) + 1) = n43 → (∀ b44 : Bool, ((b42 || nI (List.length l33) != n43) = b44 → (∀ n45 : Int, (Go.IntKind.wrap Go.IntKind.i64 (n2 + 1) = n45 → (∀ b46 : Bool, ((b44 || n30 != n45) = b46 → (∀ n47 : Int, (Go.IntKind.wrap Go.IntKind.i64 (n3 + 1) = n47 → (∀ b48 : Bool, ((b46 || n31 != n47) = b48 → (((b48) = true → EndR (CV.d (D.bool false)) res [(5, [CV.d (D.str s0), CV.d (D.int .i64 n1), CV.d (D.int .i64 n2), CV.d (D.int .i64 n3), CV.d (D.slice 1 l4), CV.d (D.slice 7 l5)]), (6, [CV.d (D.int .i64 n6), CV.d (D.int .i64 n7), CV.d (D.int .i64 n8), CV.d (D.str s9), CV.d (D.int .i64 n10), CV.d (D.slice 1 l11), CV.d (D.str s12)]), (13, [CV.d (D.str s28), CV.d (D.int .i64 n29), CV.d (D.int .i64 n30), CV.d (D.int .i64 n31), CV.d (D.slice 1 l32), CV.d (D.slice 7 l33)])] objs') ∧ ((b48) = false → (∀ n49 : Int, (Go.IntKind.wrap Go.IntKind.i64 (nI (List.length l33) - 1) = n49 → ((0 ≤ n49 ∧ n49 < nI (List.length l33)) ∧ (∃ n50 : Int, (∃ n51 : Int, (∃ n52 : Int, (∃ s53 : Bytes, (∃ n54 : Int, (∃ l55 : List D, (∃ s56 : Bytes, ((D.cells (List.getD l33 (Int.toNat n49) D.nilp) = [D.int .i64 n50, D.int .i64 n51, D.int .i64 n52, D.str s53, D.int .i64 n54, D.slice 1 l55, D.str s56]) ∧ (∀ b57 : Bool, ((n50 != n2 || n54 != n10) = b57 → (∀ b58 : Bool, ((b57 || !s56 == s12) = b58 → (∀ b59 : Bool, ((b58 || n52 != n8) = b59 → (∃ l60 : List D, (((!b59) = true → Runs P 39 [CV.d (D.agg [D.str s28, D.int .i64 n29, D.int .i64 n30, D.int .i64 n31, D.slice 1 l32, D.slice 7 l33]), CV.d (D.agg [D.int .i64 n50, D.int .i64 n51, D.int .i64 n52, D.str s53, D.int .i64 n54, D.slice 1 l55, D.str s56])] [] (CV.d (D.slice 1 l60)) []) ∧ (∀ b61 : Bool, ((b59 || nI (List.length l60) != nI (List.length l13)) = b61 → (((b61) = true → EndR (CV.d (D.bool false)) res [(5, [CV.d (D.str s0), CV.d (D.int .i64 n1), CV.d (D.int .i64 n2), CV.d (D.int .i64 n3), CV.d (D.slice 1 l4), CV.d (D.slice 7 l5)]), (6, [CV.d (D.int .i64 n6), CV.d (D.int .i64 n7), CV.d (D.int .i64 n8), CV.d (D.str s9), CV.d (D.int .i64 n10), CV.d (D.slice 1 l11), CV.d (D.str s12)]), (13, [CV.d (D.str s28), CV.d (D.int .i64 n29), CV.d (D.int .i64 n30), CV.d (D.int .i64 n31), CV.d (D.slice 1 l32), CV.d (D.slice 7 l33)]), (17, [CV.d (D.int .i64 n50), CV.d (D.int .i64 n51), CV.d (D.int .i64 n52), CV.d (D.str s53), CV.d (D.int .i64 n54), CV.d (D.slice 1 l55), CV.d (D.str s56)])] objs') ∧ ((b61) = false → (((nI (List.length l5) == 0) = true → (∃ b62 : Bool, ((Runs P 31 [] [] (CV.d (D.bool b62)) []) ∧ EndR (CV.d (D.bool b62)) res [(5, [CV.d (D.str s0), CV.d (D.int .i64 n1), CV.d (D.int .i64 n2), CV.d (D.int .i64 n3), CV.d (D.slice 1 l4), CV.d (D.slice 7 l5)]), (6, [CV.d (D.int .i64 n6), CV.d (D.int .i64 n7), CV.d (D.int .i64 n8), CV.d (D.str s9), CV.d (D.int .i64 n10), CV.d (D.slice 1 l11), CV.d (D.str s12)]), (13, [CV.d (D.str s28), CV.d (D.int .i64 n29), CV.d (D.int .i64 n30), CV.d (D.int .i64 n31), CV.d (D.slice 1 l32), CV.d (D.slice 7 l33)]), (17, [CV.d (D.int .i64 n50), CV.d (D.int .i64 n51), CV.d (D.int .i64 n52), CV.d (D.str s53), CV.d (D.int .i64 n54), CV.d (D.slice 1 l55), CV.d (D.str s56)])] objs'))) ∧ ((nI (List.length l5) == 0) = false → (∀ n63 : Int, (Go.IntKind.wrap Go.IntKind.u64 n14 = n63 → (∀ n64 : Int, (Go.IntKind.wrap Go.IntKind.u64 (nI (List.length l5)) = n64 → ((n64 ≠ 0) ∧ (∀ n65 : Int, (Int.tmod n63 n64 = n65 → (∀ n66 : Int, (Go.IntKind.wrap Go.IntKind.i64 n65 = n66 → ((0 ≤ n66 ∧ n66 < nI (List.length l5)) ∧ (∃ n67 : Int, (∃ n68 : Int, (∃ n69 : Int, (∃ s70 : Bytes, (∃ n71 : Int, (∃ l72 : List D, (∃ s73 : Bytes, ((D.cells (List.getD l5 (Int.toNat n66) D.nilp) = [D.int .i64 n67, D.int .i64 n68, D.int .i64 n69, D.str s70, D.int .i64 n71, D.slice 1 l72, D.str s73]) ∧ (∃ l74 : List D, (∃ n75 : Int, ((Runs P 40 [CV.d (D.agg [D.str s0, D.int .i64 n1, D.int .i64 n2, D.int .i64 n3, D.slice 1 l4, D.slice 7 l5]), CV.d (D.int .i64 n67), CV.d (D.int .i64 n10), CV.d (D.slice 1 l13), CV.d (D.int .i64 n15)] [] (CV.tup [CV.d (D.slice 11 l74), CV.d (D.int .i64 n75)]) []) ∧ (((n75 == 0) = true → (∃ s76 : Bytes, (∃ n77 : Int, (∃ n78 : Int, (∃ n79 : Int, (∃ l80 : List D, (∃ l81 : List D, (∃ n82 : Int, ((Runs P 32 [CV.d (D.agg [D.str s0, D.int .i64 n1, D.int .i64 n2, D.int .i64 n3, D.slice 1 l4, D.slice 7 l5]), CV.d (D.slice 11 l74)] [] (CV.tup [CV.d (D.agg [D.str s76, D.int .i64 n77, D.int .i64 n78, D.int .i64 n79, D.slice 1 l80, D.slice 7 l81]), CV.d (D.int .i64 n82)]) []) ∧ (∃ n83 : Int, ((Runs P 41 [CV.d (D.agg [D.str s76, D.int .i64 n77, D.int .i64 n78, D.int .i64 n79, D.slice 1 l80, D.slice 7 l81]), CV.d (D.int .i64 n67)] [] (CV.d (D.int .i64 n83)) []) ∧ (∃ n84 : Int, (((!n82 != 0) = true → Runs P 35 [CV.d (D.agg [D.str s76, D.int .i64 n77, D.int .i64 n78, D.int .i64 n79, D.slice 1 l80, D.slice 7 l81])] [] (CV.d (D.int .i64 n84)) []) ∧ (∀ b85 : Bool, ((n82 != 0 || n84 != 0) = b85 → (∀ b86 : Bool, ((b85 || decide (n83 < 0)) = b86 → (∀ b87 : Bool, ((b86 || decide (n83 ≥ nI (List.length l81))) = b87 → (∀ b88 : Bool, ((b87 || nI (List.length l81) != nI (List.length l5)) = b88 → (((b88) = true → EndR (CV.d (D.bool false)) res [(5, [CV.d (D.str s0), CV.d (D.int .i64 n1), CV.d (D.int .i64 n2), CV.d (D.int .i64 n3), CV.d (D.slice 1 l4), CV.d (D.slice 7 l5)]), (6, [CV.d (D.int .i64 n6), CV.d (D.int .i64 n7), CV.d (D.int .i64 n8), CV.d (D.str s9), CV.d (D.int .i64 n10), CV.d (D.slice 1 l11), CV.d (D.str s12)]), (13, [CV.d (D.str s28), CV.d (D.int .i64 n29), CV.d (D.int .i64 n30), CV.d (D.int .i64 n31), CV.d (D.slice 1 l32), CV.d (D.slice 7 l33)]), (17, [CV.d (D.int .i64 n50), CV.d (D.int .i64 n51), CV.d (D.int .i64 n52), CV.d (D.str s53), CV.d (D.int .i64 n54), CV.d (D.slice 1 l55), CV.d (D.str s56)]), (19, [CV.d (D.str s76), CV.d (D.int .i64 n77), CV.d (D.int .i64 n78), CV.d (D.int .i64 n79), CV.d (D.slice 1 l80), CV.d (D.slice 7 l81)])] objs') ∧ ((b88) = false → ((0 ≤ n83 ∧ n83 < nI (List.length l81)) ∧ (∃ n89 : Int, (∃ n90 : Int, (∃ n91 : Int, (∃ s92 : Bytes, (∃ n93 : Int, (∃ l94 : List D, (∃ s95 : Bytes, ((D.cells (List.getD l81 (Int.toNat n83) D.nilp) = [D.int .i64 n89, D.int .i64 n90, D.int .i64 n91, D.str s92, D.int .i64 n93, D.slice 1 l94, D.str s95]) ∧ (∀ b96 : Bool, ((n15 == 0 && n93 != n10) = b96 → (∀ n97 : Int, (Go.IntKind.wrap Go.IntKind.i64 (nI (BitVec.toNat (BitVec.ofInt (Go.IntKind.bits .i64) n93 &&& BitVec.ofInt (Go.IntKind.bits .i64) n10))) = n97 → (∀ b98 : Bool, ((n15 == 1 && n97 != n10) = b98 → (∀ b99 : Bool, ((b96 || b98) = b99 → (∀ n100 : Int, (Go.IntKind.wrap Go.IntKind.i64 (nI (BitVec.toNat (BitVec.ofInt (Go.IntKind.bits .i64) n93 &&& BitVec.ofInt (Go.IntKind.bits .i64) n10))) = n100 → (∀ b101 : Bool, ((n15 == 2 && n100 != 0) = b101 → (∀ b102 : Bool, ((b99 || b101) = b102 → (∀ b103 : Bool, ((b102 || !decide (n79 > n3) == decide (nI (List.length l74) > 0)) = b103 → (((b103) = true → EndR (CV.d (D.bool false)) res [(5, [CV.d (D.str s0), CV.d (D.int .i64 n1), CV.d (D.int .i64 n2), CV.d (D.int .i64 n3), CV.d (D.slice 1 l4), CV.d (D.slice 7 l5)]), (6, [CV.d (D.int .i64 n6), CV.d (D.int .i64 n7), CV.d (D.int .i64 n8), CV.d (D.str s9), CV.d (D.int .i64 n10), CV.d (D.slice 1 l11), CV.d (D.str s12)]), (13, [CV.d (D.str s28), CV.d (D.int .i64 n29), CV.d (D.int .i64 n30), CV.d (D.int .i64 n31), CV.d (D.slice 1 l32), CV.d (D.slice 7 l33)]), (17, [CV.d (D.int .i64 n50), CV.d (D.int .i64 n51), CV.d (D.int .i64 n52), CV.d (D.str s53), CV.d (D.int .i64 n54), CV.d (D.slice 1 l55), CV.d (D.str s56)]), (19, [CV.d (D.str s76), CV.d (D.int .i64 n77), CV.d (D.int .i64 n78), CV.d (D.int .i64 n79), CV.d (D.slice 1 l80), CV.d (D.slice 7 l81)])] objs') ∧ ((b103) = false → (∃ l104 : List D, (∃ n105 : Int, ((Runs P 40 [CV.d (D.agg [D.str s76, D.int .i64 n77, D.int .i64 n78, D.int .i64 n79, D.slice 1 l80, D.slice 7 l81]), CV.d (D.int .i64 n67), CV.d (D.int .i64 n10), CV.d (D.slice 1 l13), CV.d (D.int .i64 n15)] [] (CV.tup [CV.d (D.slice 11 l104), CV.d (D.int .i64 n105)]) []) ∧ (∀ b106 : Bool, ((n105 != 0 || nI (List.length l104) != 0) = b106 → (((b106) = true → EndR (CV.d (D.bool false)) res [(5, [CV.d (D.str s0), CV.d (D.int .i64 n1), CV.d (D.int .i64 n2), CV.d (D.int .i64 n3), CV.d (D.slice 1 l4), CV.d (D.slice 7 l5)]), (6, [CV.d (D.int .i64 n6), CV.d (D.int .i64 n7), CV.d (D.int .i64 n8), CV.d (D.str s9), CV.d (D.int .i64 n10), CV.d (D.slice 1 l11), CV.d (D.str s12)]), (13, [CV.d (D.str s28), CV.d (D.int .i64 n29), CV.d (D.int .i64 n30), CV.d (D.int .i64 n31), CV.d (D.slice 1 l32), CV.d (D.slice 7 l33)]), (17, [CV.d (D.int .i64 n50), CV.d (D.int .i64 n51), CV.d (D.int .i64 n52), CV.d (D.str s53), CV.d (D.int .i64 n54), CV.d (D.slice 1 l55), CV.d (D.str s56)]), (19, [CV.d (D.str s76), CV.d (D.int .i64 n77), CV.d (D.int .i64 n78), CV.d (D.int .i64 n79), CV.d (D.slice 1 l80), CV.d (D.slice 7 l81)])] objs') ∧ ((b106) = false → (∃ l107 : List D, (∃ n108 : Int, ((Runs P 42 [CV.d (D.agg [D.str s0, D.int .i64 n1, D.int .i64 n2, D.int .i64 n3, D.slice 1 l4, D.slice 7 l5]), CV.d (D.slice 1 [D.int .i64 n67])] [] (CV.tup [CV.d (D.slice 11 l107), CV.d (D.int .i64 n108)]) []) ∧ (((n108 == 0) = true → (∃ s109 : Bytes, (∃ n110 : Int, (∃ n111 : Int, (∃ n112 : Int, (∃ l113 : List D, (∃ l114 : List D, (∃ n115 : Int, ((Runs P 32 [CV.d (D.agg [D.str s0, D.int .i64 n1, D.int .i64 n2, D.int .i64 n3, D.slice 1 l4, D.slice 7 l5]), CV.d (D.slice 11 l107)] [] (CV.tup [CV.d (D.agg [D.str s109, D.int .i64 n110, D.int .i64 n111, D.int .i64 n112, D.slice 1 l113, D.slice 7 l114]), CV.d (D.int .i64 n115)]) []) ∧ (∃ n116 : Int, (((n115 == 0) = true → Runs P 41 [CV.d (D.agg [D.str s109, D.int .i64 n110, D.int .i64 n111, D.int .i64 n112, D.slice 1 l113, D.slice 7 l114]), CV.d (D.int .i64 n67)] [] (CV.d (D.int .i64 n116)) []) ∧ (∀ b117 : Bool, ((n115 == 0 && n116 == -1) = b117 → (∃ n118 : Int, ((b117 = true → Runs P 35 [CV.d (D.agg [D.str s109, D.int .i64 n110, D.int .i64 n111, D.int .i64 n112, D.slice 1 l113, D.slice 7 l114])] [] (CV.d (D.int .i64 n118)) []) ∧ (∀ b119 : Bool, ((b117 && n118 == 0) = b119 → (∀ n120 : Int, (Go.IntKind.wrap Go.IntKind.i64 (n3 + 1) = n120 → (∀ b121 : Bool, ((b119 && n112 == n120) = b121 → (∀ b122 : Bool, ((b121 && n111 == n2) = b122 → (∃ b123 : Bool, ((b122 = true → Runs P 31 [] [] (CV.d (D.bool b123)) []) ∧ (∀ b124 : Bool, ((b122 && b123) = b124 → EndR (CV.d (D.bool b124)) res [(5, [CV.d (D.str s0), CV.d (D.int .i64 n1), CV.d (D.int .i64 n2), CV.d (D.int .i64 n3), CV.d (D.slice 1 l4), CV.d (D.slice 7 l5)]), (6, [CV.d (D.int .i64 n6), CV.d (D.int .i64 n7), CV.d (D.int .i64 n8), CV.d (D.str s9), CV.d (D.int .i64 n10), CV.d (D.slice 1 l11), CV.d (D.str s12)]), (13, [CV.d (D.str s28), CV.d (D.int .i64 n29), CV.d (D.int .i64 n30), CV.d (D.int .i64 n31), CV.d (D.slice 1 l32), CV.d (D.slice 7 l33)]), (17, [CV.d (D.int .i64 n50), CV.d (D.int .i64 n51), CV.d (D.int .i64 n52), CV.d (D.str s53), CV.d (D.int .i64 n54), CV.d (D.slice 1 l55), CV.d (D.str s56)]), (19, [CV.d (D.str s76), CV.d (D.int .i64 n77), CV.d (D.int .i64 n78), CV.d (D.int .i64 n79), CV.d (D.slice 1 l80), CV.d (D.slice 7 l81)]), (25, [CV.d (D.str s109), CV.d (D.int .i64 n110), CV.d (D.int .i64 n111), CV.d (D.int .i64 n112), CV.d (D.slice 1 l113), CV.d (D.slice 7 l114)])] objs'))))))))))))))))))))))))))) ∧ ((n108 == 0) = false → (∀ b125 : Bool, ((n108 == 9 && n3 == 1000000) = b125 → (∃ b126 : Bool, ((b125 = true → Runs P 31 [] [] (CV.d (D.bool b126)) []) ∧ (∀ b127 : Bool, ((b125 && b126) = b127 → EndR (CV.d (D.bool b127)) res [(5, [CV.d (D.str s0), CV.d (D.int .i64 n1), CV.d (D.int .i64 n2), CV.d (D.int .i64 n3), CV.d (D.slice 1 l4), CV.d (D.slice 7 l5)]), (6, [CV.d (D.int .i64 n6), CV.d (D.int .i64 n7), CV.d (D.int .i64 n8), CV.d (D.str s9), CV.d (D.int .i64 n10), CV.d (D.slice 1 l11), CV.d (D.str s12)]), (13, [CV.d (D.str s28), CV.d (D.int .i64 n29), CV.d (D.int .i64 n30), CV.d (D.int .i64 n31), CV.d (D.slice 1 l32), CV.d (D.slice 7 l33)]), (17, [CV.d (D.int .i64 n50), CV.d (D.int .i64 n51), CV.d (D.int .i64 n52), CV.d (D.str s53), CV.d (D.int .i64 n54), CV.d (D.slice 1 l55), CV.d (D.str s56)]), (19, [CV.d (D.str s76), CV.d (D.int .i64 n77), CV.d (D.int .i64 n78), CV.d (D.int .i64 n79), CV.d (D.slice 1 l80), CV.d (D.slice 7 l81)])] objs')))))))))))))))))))))))))))))))))))))))))))))))))))))))))))))))))))) ∧ ((n75 == 0) = false → (∃ l128 : List D, (∃ n129 : Int, ((Runs P 42 [CV.d (D.agg [D.str s0, D.int .i64 n1, D.int .i64 n2, D.int .i64 n3, D.slice 1 l4, D.slice 7 l5]), CV.d (D.slice 1 [D.int .i64 n67])] [] (CV.tup [CV.d (D.slice 11 l128), CV.d (D.int .i64 n129)]) []) ∧ (((n129 == 0) = true → (∃ s130 : Bytes, (∃ n131 : Int, (∃ n132 : Int, (∃ n133 : Int, (∃ l134 : List D, (∃ l135 : List D, (∃ n136 : Int, ((Runs P 32 [CV.d (D.agg [D.str s0, D.int .i64 n1, D.int .i64 n2, D.int .i64 n3, D.slice 1 l4, D.slice 7 l5]), CV.d (D.slice 11 l128)] [] (CV.tup [CV.d (D.agg [D.str s130, D.int .i64 n131, D.int .i64 n132, D.int .i64 n133, D.slice 1 l134, D.slice 7 l135]), CV.d (D.int .i64 n136)]) []) ∧ (∃ n137 : Int, (((n136 == 0) = true → Runs P 41 [CV.d (D.agg [D.str s130, D.int .i64 n131, D.int .i64 n132, D.int .i64 n133, D.slice 1 l134, D.slice 7 l135]), CV.d (D.int .i64 n67)] [] (CV.d (D.int .i64 n137)) []) ∧ (∀ b138 : Bool, ((n136 == 0 && n137 == -1) = b138 → (∃ n139 : Int, ((b138 = true → Runs P 35 [CV.d (D.agg [D.str s130, D.int .i64 n131, D.int .i64 n132, D.int .i64 n133, D.slice 1 l134, D.slice 7 l135])] [] (CV.d (D.int .i64 n139)) []) ∧ (∀ b140 : Bool, ((b138 && n139 == 0) = b140 → (∀ n141 : Int, (Go.IntKind.wrap Go.IntKind.i64 (n3 + 1) = n141 → (∀ b142 : Bool, ((b140 && n133 == n141) = b142 → (∀ b143 : Bool, ((b142 && n132 == n2) = b143 → (∃ b144 : Bool, ((b143 = true → Runs P 31 [] [] (CV.d (D.bool b144)) []) ∧ (∀ b145 : Bool, ((b143 && b144) = b145 → EndR (CV.d (D.bool b145)) res [(5, [CV.d (D.str s0), CV.d (D.int .i64 n1), CV.d (D.int .i64 n2), CV.d (D.int .i64 n3), CV.d (D.slice 1 l4), CV.d (D.slice 7 l5)]), (6, [CV.d (D.int .i64 n6), CV.d (D.int .i64 n7), CV.d (D.int .i64 n8), CV.d (D.str s9), CV.d (D.int .i64 n10), CV.d (D.slice 1 l11), CV.d (D.str s12)]), (13, [CV.d (D.str s28), CV.d (D.int .i64 n29), CV.d (D.int .i64 n30), CV.d (D.int .i64 n31), CV.d (D.slice 1 l32), CV.d (D.slice 7 l33)]), (17, [CV.d (D.int .i64 n50), CV.d (D.int .i64 n51), CV.d (D.int .i64 n52), CV.d (D.str s53), CV.d (D.int .i64 n54), CV.d (D.slice 1 l55), CV.d (D.str s56)]), (25, [CV.d (D.str s130), CV.d (D.int .i64 n131), CV.d (D.int .i64 n132), CV.d (D.int .i64 n133), CV.d (D.slice 1 l134), CV.d (D.slice 7 l135)])] objs'))))))))))))))))))))))))))) ∧ ((n129 == 0) = false → (∀ b146 : Bool, ((n129 == 9 && n3 == 1000000) = b146 → (∃ b147 : Bool, ((b146 = true → Runs P 31 [] [] (CV.d (D.bool b147)) []) ∧ (∀ b148 : Bool, ((b146 && b147) = b148 → EndR (CV.d (D.bool b148)) res [(5, [CV.d (D.str s0), CV.d (D.int .i64 n1), CV.d (D.int .i64 n2), CV.d (D.int .i64 n3), CV.d (D.slice 1 l4), CV.d (D.slice 7 l5)]), (6, [CV.d (D.int .i64 n6), CV.d (D.int .i64 n7), CV.d (D.int .i64 n8), CV.d (D.str s9), CV.d (D.int .i64 n10), CV.d (D.slice 1 l11), CV.d (D.str s12)]), (13, [CV.d (D.str s28), CV.d (D.int .i64 n29), CV.d (D.int .i64 n30), CV.d (D.int .i64 n31), CV.d (D.slice 1 l32), CV.d (D.slice 7 l33)]), (17, [CV.d (D.int .i64 n50), CV.d (D.int .i64 n51), CV.d (D.int .i64 n52), CV.d (D.str s53), CV.d (D.int .i64 n54), CV.d (D.slice 1 l55), CV.d (D.str s56)])] objs'))))))))))))))))))))))))))))))))))))))))))))))))))))))))))))))))))))))))))))))))))))))))))))))))) ∧ ((n27 == 0) = false → (((nI (List.length l5) == 0) = true → (∃ b149 : Bool, ((Runs P 31 [] [] (CV.d (D.bool b149)) []) ∧ EndR (CV.d (D.bool b149)) res [(5, [CV.d (D.str s0), CV.d (D.int .i64 n1), CV.d (D.int .i64 n2), CV.d (D.int .i64 n3), CV.d (D.slice 1 l4), CV.d (D.slice 7 l5)]), (6, [CV.d (D.int .i64 n6), CV.d (D.int .i64 n7), CV.d (D.int .i64 n8), CV.d (D.str s9), CV.d (D.int .i64 n10), CV.d (D.slice 1 l11), CV.d (D.str s12)])] objs'))) ∧ ((nI (List.length l5) == 0) = false → (∀ n150 : Int, (Go.IntKind.wrap Go.IntKind.u64 n14 = n150 → (∀ n151 : Int, (Go.IntKind.wrap Go.IntKind.u64 (nI (List.length l5)) = n151 → ((n151 ≠ 0) ∧ (∀ n152 : Int, (Int.tmod n150 n151 = n152 → (∀ n153 : Int, (Go.IntKind.wrap Go.IntKind.i64 n152 = n153 → ((0 ≤ n153 ∧ n153 < nI (List.length l5)) ∧ (∃ n154 : Int, (∃ n155 : Int, (∃ n156 : Int, (∃ s157 : Bytes, (∃ n158 : Int, (∃ l159 : List D, (∃ s160 : Bytes, ((D.cells (List.getD l5 (Int.toNat n153) D.nilp) = [D.int .i64 n154, D.int .i64 n155, D.int .i64 n156, D.str s157, D.int .i64 n158, D.slice 1 l159, D.str s160]) ∧ (∃ l161 : List D, (∃ n162 : Int, ((Runs P 40 [CV.d (D.agg [D.str s0, D.int .i64 n1, D.int .i64 n2, D.int .i64 n3, D.slice 1 l4, D.slice 7 l5]), CV.d (D.int .i64 n154), CV.d (D.int .i64 n10), CV.d (D.slice 1 l13), CV.d (D.int .i64 n15)] [] (CV.tup [CV.d (D.slice 11 l161), CV.d (D.int .i64 n162)]) []) ∧ (((n162 == 0) = true → (∃ s163 : Bytes, (∃ n164 : Int, (∃ n165 : Int, (∃ n166 : Int, (∃ l167 : List D, (∃ l168 : List D, (∃ n169 : Int, ((Runs P 32 [CV.d (D.agg [D.str s0, D.int .i64 n1, D.int .i64 n2, D.int .i64 n3, D.slice 1 l4, D.slice 7 l5]), CV.d (D.slice 11 l161)] [] (CV.tup [CV.d (D.agg [D.str s163, D.int .i64 n164, D.int .i64 n165, D.int .i64 n166, D.slice 1 l167, D.slice 7 l168]), CV.d (D.int .i64 n169)]) []) ∧ (∃ n170 : Int, ((Runs P 41 [CV.d (D.agg [D.str s163, D.int .i64 n164, D.int .i64 n165, D.int .i64 n166, D.slice 1 l167, D.slice 7 l168]), CV.d (D.int .i64 n154)] [] (CV.d (D.int .i64 n170)) []) ∧ (∃ n171 : Int, (((!n169 != 0) = true → Runs P 35 [CV.d (D.agg [D.str s163, D.int .i64 n164, D.int .i64 n165, D.int .i64 n166, D.slice 1 l167, D.slice 7 l168])] [] (CV.d (D.int .i64 n171)) []) ∧ (∀ b172 : Bool, ((n169 != 0 || n171 != 0) = b172 → (∀ b173 : Bool, ((b172 || decide (n170 < 0)) = b173 → (∀ b174 : Bool, ((b173 || decide (n170 ≥ nI (List.length l168))) = b174 → (∀ b175 : Bool, ((b174 || nI (List.length l168) != nI (List.length l5)) = b175 → (((b175) = true → EndR (CV.d (D.bool false)) res [(5, [CV.d (D.str s0), CV.d (D.int .i64 n1), CV.d (D.int .i64 n2), CV.d (D.int .i64 n3), CV.d (D.slice 1 l4), CV.d (D.slice 7 l5)]), (6, [CV.d (D.int .i64 n6), CV.d (D.int .i64 n7), CV.d (D.int .i64 n8), CV.d (D.str s9), CV.d (D.int .i64 n10), CV.d (D.slice 1 l11), CV.d (D.str s12)]), (19, [CV.d (D.str s163), CV.d (D.int .i64 n164), CV.d (D.int .i64 n165), CV.d (D.int .i64 n166), CV.d (D.slice 1 l167), CV.d (D.slice 7 l168)])] objs') ∧ ((b175) = false → ((0 ≤ n170 ∧ n170 < nI (List.length l168)) ∧ (∃ n176 : Int, (∃ n177 : Int, (∃ n178 : Int, (∃ s179 : Bytes, (∃ n180 : Int, (∃ l181 : List D, (∃ s182 : Bytes, ((D.cells (List.getD l168 (Int.toNat n170) D.nilp) = [D.int .i64 n176, D.int .i64 n177, D.int .i64 n178, D.str s179, D.int .i64 n180, D.slice 1 l181, D.str s182]) ∧ (∀ b183 : Bool, ((n15 == 0 && n180 != n10) = b183 → (∀ n184 : Int, (Go.IntKind.wrap Go.IntKind.i64 (nI (BitVec.toNat (BitVec.ofInt (Go.IntKind.bits .i64) n180 &&& BitVec.ofInt (Go.IntKind.bits .i64) n10))) = n184 → (∀ b185 : Bool, ((n15 == 1 && n184 != n10) = b185 → (∀ b186 : Bool, ((b183 || b185) = b186 → (∀ n187 : Int, (Go.IntKind.wrap Go.IntKind.i64 (nI (BitVec.toNat (BitVec.ofInt (Go.IntKind.bits .i64) n180 &&& BitVec.ofInt (Go.IntKind.bits .i64) n10))) = n187 → (∀ b188 : Bool, ((n15 == 2 && n187 != 0) = b188 → (∀ b189 : Bool, ((b186 || b188) = b189 → (∀ b190 : Bool, ((b189 || !decide (n166 > n3) == decide (nI (List.length l161) > 0)) = b190 → (((b190) = true → EndR (CV.d (D.bool false)) res [(5, [CV.d (D.str s0), CV.d (D.int .i64 n1), CV.d (D.int .i64 n2), CV.d (D.int .i64 n3), CV.d (D.slice 1 l4), CV.d (D.slice 7 l5)]), (6, [CV.d (D.int .i64 n6), CV.d (D.int .i64 n7), CV.d (D.int .i64 n8), CV.d (D.str s9), CV.d (D.int .i64 n10), CV.d (D.slice 1 l11), CV.d (D.str s12)]), (19, [CV.d (D.str s163), CV.d (D.int .i64 n164), CV.d (D.int .i64 n165), CV.d (D.int .i64 n166), CV.d (D.slice 1 l167), CV.d (D.slice 7 l168)])] objs') ∧ ((b190) = false → (∃ l191 : List D, (∃ n192 : Int, ((Runs P 40 [CV.d (D.agg [D.str s163, D.int .i64 n164, D.int .i64 n165, D.int .i64 n166, D.slice 1 l167, D.slice 7 l168]), CV.d (D.int .i64 n154), CV.d (D.int .i64 n10), CV.d (D.slice 1 l13), CV.d (D.int .i64 n15)] [] (CV.tup [CV.d (D.slice 11 l191), CV.d (D.int .i64 n192)]) []) ∧ (∀ b193 : Bool, ((n192 != 0 || nI (List.length l191) != 0) = b193 → (((b193) = true → EndR (CV.d (D.bool false)) res [(5, [CV.d (D.str s0), CV.d (D.int .i64 n1), CV.d (D.int .i64 n2), CV.d (D.int .i64 n3), CV.d (D.slice 1 l4), CV.d (D.slice 7 l5)]), (6, [CV.d (D.int .i64 n6), CV.d (D.int .i64 n7), CV.d (D.int .i64 n8), CV.d (D.str s9), CV.d (D.int .i64 n10), CV.d (D.slice 1 l11), CV.d (D.str s12)]), (19, [CV.d (D.str s163), CV.d (D.int .i64 n164), CV.d (D.int .i64 n165), CV.d (D.int .i64 n166), CV.d (D.slice 1 l167), CV.d (D.slice 7 l168)])] objs') ∧ ((b193) = false → (∃ l194 : List D, (∃ n195 : Int, ((Runs P 42 [CV.d (D.agg [D.str s0, D.int .i64 n1, D.int .i64 n2, D.int .i64 n3, D.slice 1 l4, D.slice 7 l5]), CV.d (D.slice 1 [D.int .i64 n154])] [] (CV.tup [CV.d (D.slice 11 l194), CV.d (D.int .i64 n195)]) []) ∧ (((n195 == 0) = true → (∃ s196 : Bytes, (∃ n197 : Int, (∃ n198 : Int, (∃ n199 : Int, (∃ l200 : List D, (∃ l201 : List D, (∃ n202 : Int, ((Runs P 32 [CV.d (D.agg [D.str s0, D.int .i64 n1, D.int .i64 n2, D.int .i64 n3, D.slice 1 l4, D.slice 7 l5]), CV.d (D.slice 11 l194)] [] (CV.tup [CV.d (D.agg [D.str s196, D.int .i64 n197, D.int .i64 n198, D.int .i64 n199, D.slice 1 l200, D.slice 7 l201]), CV.d (D.int .i64 n202)]) []) ∧ (∃ n203 : Int, (((n202 == 0) = true → Runs P 41 [CV.d (D.agg [D.str s196, D.int .i64 n197, D.int .i64 n198, D.int .i64 n199, D.slice 1 l200, D.slice 7 l201]), CV.d (D.int .i64 n154)] [] (CV.d (D.int .i64 n203)) []) ∧ (∀ b204 : Bool, ((n202 == 0 && n203 == -1) = b204 → (∃ n205 : Int, ((b204 = true → Runs P 35 [CV.d (D.agg [D.str s196, D.int .i64 n197, D.int .i64 n198, D.int .i64 n199, D.slice 1 l200, D.slice 7 l201])] [] (CV.d (D.int .i64 n205)) []) ∧ (∀ b206 : Bool, ((b204 && n205 == 0) = b206 → (∀ n207 : Int, (Go.IntKind.wrap Go.IntKind.i64 (n3 + 1) = n207 → (∀ b208 : Bool, ((b206 && n199 == n207) = b208 → (∀ b209 : Bool, ((b208 && n198 == n2) = b209 → (∃ b210 : Bool, ((b209 = true → Runs P 31 [] [] (CV.d (D.bool b210)) []) ∧ (∀ b211 : Bool, ((b209 && b210) = b211 → EndR (CV.d (D.bool b211)) res [(5, [CV.d (D.str s0), CV.d (D.int .i64 n1), CV.d (D.int .i64 n2), CV.d (D.int .i64 n3), CV.d (D.slice 1 l4), CV.d (D.slice 7 l5)]), (6, [CV.d (D.int .i64 n6), CV.d (D.int .i64 n7), CV.d (D.int .i64 n8), CV.d (D.str s9), CV.d (D.int .i64 n10), CV.d (D.slice 1 l11), CV.d (D.str s12)]), (19, [CV.d (D.str s163), CV.d (D.int .i64 n164), CV.d (D.int .i64 n165), CV.d (D.int .i64 n166), CV.d (D.slice 1 l167), CV.d (D.slice 7 l168)]), (25, [CV.d (D.str s196), CV.d (D.int .i64 n197), CV.d (D.int .i64 n198), CV.d (D.int .i64 n199), CV.d (D.slice 1 l200), CV.d (D.slice 7 l201)])] objs'))))))))))))))))))))))))))) ∧ ((n195 == 0) = false → (∀ b212 : Bool, ((n195 == 9 && n3 == 1000000) = b212 → (∃ b213 : Bool, ((b212 = true → Runs P 31 [] [] (CV.d (D.bool b213)) []) ∧ (∀ b214 : Bool, ((b212 && b213) = b214 → EndR (CV.d (D.bool b214)) res [(5, [CV.d (D.str s0), CV.d (D.int .i64 n1), CV.d (D.int .i64 n2), CV.d (D.int .i64 n3), CV.d (D.slice 1 l4), CV.d (D.slice 7 l5)]), (6, [CV.d (D.int .i64 n6), CV.d (D.int .i64 n7), CV.d (D.int .i64 n8), CV.d (D.str s9), CV.d (D.int .i64 n10), CV.d (D.slice 1 l11), CV.d (D.str s12)]), (19, [CV.d (D.str s163), CV.d (D.int .i64 n164), CV.d (D.int .i64 n165), CV.d (D.int .i64 n166), CV.d (D.slice 1 l167), CV.d (D.slice 7 l168)])] objs')))))))))))))))))))))))))))))))))))))))))))))))))))))))))))))))))))) ∧ ((n162 == 0) = false → (∃ l215 : List D, (∃ n216 : Int, ((Runs P 42 [CV.d (D.agg [D.str s0, D.int .i64 n1, D.int .i64 n2, D.int .i64 n3, D.slice 1 l4, D.slice 7 l5]), CV.d (D.slice 1 [D.int .i64 n154])] [] (CV.tup [CV.d (D.slice 11 l215), CV.d (D.int .i64 n216)]) []) ∧ (((n216 == 0) = true → (∃ s217 : Bytes, (∃ n218 : Int, (∃ n219 : Int, (∃ n220 : Int, (∃ l221 : List D, (∃ l222 : List D, (∃ n223 : Int, ((Runs P 32 [CV.d (D.agg [D.str s0, D.int .i64 n1, D.int .i64 n2, D.int .i64 n3, D.slice 1 l4, D.slice 7 l5]), CV.d (D.slice 11 l215)] [] (CV.tup [CV.d (D.agg [D.str s217, D.int .i64 n218, D.int .i64 n219, D.int .i64 n220, D.slice 1 l221, D.slice 7 l222]), CV.d (D.int .i64 n223)]) []) ∧ (∃ n224 : Int, (((n223 == 0) = true → Runs P 41 [CV.d (D.agg [D.str s217, D.int .i64 n218, D.int .i64 n219, D.int .i64 n220, D.slice 1 l221, D.slice 7 l222]), CV.d (D.int .i64 n154)] [] (CV.d (D.int .i64 n224)) []) ∧ (∀ b225 : Bool, ((n223 == 0 && n224 == -1) = b225 → (∃ n226 : Int, ((b225 = true → Runs P 35 [CV.d (D.agg [D.str s217, D.int .i64 n218, D.int .i64 n219, D.int .i64 n220, D.slice 1 l221, D.slice 7 l222])] [] (CV.d (D.int .i64 n226)) []) ∧ (∀ b227 : Bool, ((b225 && n226 == 0) = b227 → (∀ n228 : Int, (Go.IntKind.wrap Go.IntKind.i64 (n3 + 1) = n228 → (∀ b229 : Bool, ((b227 && n220 == n228) = b229 → (∀ b230 : Bool, ((b229 && n219 == n2) = b230 → (∃ b231 : Bool, ((b230 = true → Runs P 31 [] [] (CV.d (D.bool b231)) []) ∧ (∀ b232 : Bool, ((b230 && b231) = b232 → EndR (CV.d (D.bool b232)) res [(5, [CV.d (D.str s0), CV.d (D.int .i64 n1), CV.d (D.int .i64 n2), CV.d (D.int .i64 n3), CV.d (D.slice 1 l4), CV.d (D.slice 7 l5)]), (6, [CV.d (D.int .i64 n6), CV.d (D.int .i64 n7), CV.d (D.int .i64 n8), CV.d (D.str s9), CV.d (D.int .i64 n10), CV.d (D.slice 1 l11), CV.d (D.str s12)]), (25, [CV.d (D.str s217), CV.d (D.int .i64 n218), CV.d (D.int .i64 n219), CV.d (D.int .i64 n220), CV.d (D.slice 1 l221), CV.d (D.slice 7 l222)])] objs'))))))))))))))))))))))))))) ∧ ((n216 == 0) = false → (∀ b233 : Bool, ((n216 == 9 && n3 == 1000000) = b233 → (∃ b234 : Bool, ((b233 = true → Runs P 31 [] [] (CV.d (D.bool b234)) []) ∧ (∀ b235 : Bool, ((b233 && b234) = b235 → EndR (CV.d (D.bool b235)) res [(5, [CV.d (D.str s0), CV.d (D.int .i64 n1), CV.d (D.int .i64 n2), CV.d (D.int .i64 n3), CV.d (D.slice 1 l4), CV.d (D.slice 7 l5)]), (6, [CV.d (D.int .i64 n6), CV.d (D.int .i64 n7), CV.d (D.int .i64 n8), CV.d (D.str s9), CV.d (D.int .i64 n10), CV.d (D.slice 1 l11), CV.d (D.str s12)])] objs')))))))))))))))))))))))))))))))))))))))))))))))))))))))))))))) := by kernel_rfl
end B
end Go.Proofs.YtmkkljbfmdngfaaGreatDoor

namespace Go.Proofs.YtmkkljbfmdngfaaGreatDoor
namespace B
open Go.RowKit

theorem cutTail (b : Box) (uid : Int) (hM : BoxMay b) (hu : (findM b.msgs uid).isSome = true) (f1 : Bytes → Int → Int → Int → List D → List D → List (Nat × List CV)) (f2 : List (Nat × List CV)) :
    (∃ l107 : List D, (∃ n108 : Int, ((Runs P 42 [CV.d (D.agg [D.str b.id, D.int .i64 b.valid, D.int .i64 b.next, D.int .i64 b.high, D.slice 1 (strs b.words), D.slice 7 (b.msgs.map Msg.d)]), CV.d (D.slice 1 [D.int .i64 uid])] [] (CV.tup [CV.d (D.slice 11 l107), CV.d (D.int .i64 n108)]) []) ∧ (((n108 == 0) = true → (∃ s109 : Bytes, (∃ n110 : Int, (∃ n111 : Int, (∃ n112 : Int, (∃ l113 : List D, (∃ l114 : List D, (∃ n115 : Int, ((Runs P 32 [CV.d (D.agg [D.str b.id, D.int .i64 b.valid, D.int .i64 b.next, D.int .i64 b.high, D.slice 1 (strs b.words), D.slice 7 (b.msgs.map Msg.d)]), CV.d (D.slice 11 l107)] [] (CV.tup [CV.d (D.agg [D.str s109, D.int .i64 n110, D.int .i64 n111, D.int .i64 n112, D.slice 1 l113, D.slice 7 l114]), CV.d (D.int .i64 n115)]) []) ∧ (∃ n116 : Int, (((n115 == 0) = true → Runs P 41 [CV.d (D.agg [D.str s109, D.int .i64 n110, D.int .i64 n111, D.int .i64 n112, D.slice 1 l113, D.slice 7 l114]), CV.d (D.int .i64 uid)] [] (CV.d (D.int .i64 n116)) []) ∧ (∀ b117 : Bool, ((n115 == 0 && n116 == -1) = b117 → (∃ n118 : Int, ((b117 = true → Runs P 35 [CV.d (D.agg [D.str s109, D.int .i64 n110, D.int .i64 n111, D.int .i64 n112, D.slice 1 l113, D.slice 7 l114])] [] (CV.d (D.int .i64 n118)) []) ∧ (∀ b119 : Bool, ((b117 && n118 == 0) = b119 → (∀ n120 : Int, (Go.IntKind.wrap Go.IntKind.i64 (b.high + 1) = n120 → (∀ b121 : Bool, ((b119 && n112 == n120) = b121 → (∀ b122 : Bool, ((b121 && n111 == b.next) = b122 → (∃ b123 : Bool, ((b122 = true → Runs P 31 [] [] (CV.d (D.bool b123)) []) ∧ (∀ b124 : Bool, ((b122 && b123) = b124 → EndR (CV.d (D.bool b124)) (.d (.bool true)) (f1 s109 n110 n111 n112 l113 l114) []))))))))))))))))))))))))))) ∧ ((n108 == 0) = false → (∀ b125 : Bool, ((n108 == 9 && b.high == 1000000) = b125 → (∃ b126 : Bool, ((b125 = true → Runs P 31 [] [] (CV.d (D.bool b126)) []) ∧ (∀ b127 : Bool, ((b125 && b126) = b127 → EndR (CV.d (D.bool b127)) (.d (.bool true)) f2 []))))))))))) := by
  have w1 := r31 b [uid] hM.ok (by simp)
  have hh := hM.high
  refine ⟨_, _, w1, fun h => ?_, fun h => ?_⟩
  · have h : (cutOut b [uid]).1 = 0 := by simpa using h
    rcases cut_done hM hu with ⟨_, c, h1, h2, h3, h4, h5, h6⟩ | ⟨q, _⟩
    · have w2 := r32 b (cutOut b [uid]).2 hM.ok (by rw [h6, cutRows_len]; simp) (by rw [h6]; exact cutRows_ok _ _)
      rw [h1] at w2
      have hcn := h2.nm
      refine ⟨_, _, _, _, _, _, _, w2, _, fun _ => r33 c uid (by omega), ?_⟩
      rw [h3]
      rintro _ rfl
      refine ⟨_, fun _ => r47 c h2.ok, ?_⟩
      rw [boxMay.2 h2]
      rintro _ rfl _ rfl _ rfl _ rfl
      refine ⟨true, fun _ => r29, ?_⟩
      rintro _ rfl
      refine endB ?_
      rw [W64 (by omega) (by omega), h4, h5]
      simp
    · rw [q] at h; cases h
  · have h : (cutOut b [uid]).1 ≠ 0 := by simpa using h
    rcases cut_done hM hu with ⟨q, _⟩ | ⟨q, q2⟩
    · exact absurd q h
    · rw [q, q2]
      rintro _ rfl
      refine ⟨true, fun _ => r29, ?_⟩
      rintro _ rfl
      exact endB rfl
theorem flagTail (b : Box) (fl : Int) (ws : List Bytes) (k how : Int) (hM : BoxMay b) (hl : ws.length ≤ 274877906944) (hww : ∀ w ∈ ws, w.length ≤ 9223372036854775806) (hne : b.msgs ≠ []) (f1 : Bytes → Int → Int → Int → List D → List D → List (Nat × List CV)) (f2 : Bytes → Int → Int → Int → List D → List D → List (Nat × List CV)) (f3 : Bytes → Int → Int → Int → List D → List D → List (Nat × List CV)) (f4 : Bytes → Int → Int → Int → List D → List D → Bytes → Int → Int → Int → List D → List D → List (Nat × List CV)) (f5 : Bytes → Int → Int → Int → List D → List D → List (Nat × List CV)) (f6 : Bytes → Int → Int → Int → List D → List D → List (Nat × List CV)) (f7 : List (Nat × List CV)) :
    (∀ n63 : Int, (Go.IntKind.wrap Go.IntKind.u64 k = n63 → (∀ n64 : Int, (Go.IntKind.wrap Go.IntKind.u64 (nI (List.length (b.msgs.map Msg.d))) = n64 → ((n64 ≠ 0) ∧ (∀ n65 : Int, (Int.tmod n63 n64 = n65 → (∀ n66 : Int, (Go.IntKind.wrap Go.IntKind.i64 n65 = n66 → ((0 ≤ n66 ∧ n66 < nI (List.length (b.msgs.map Msg.d))) ∧ (∃ n67 : Int, (∃ n68 : Int, (∃ n69 : Int, (∃ s70 : Bytes, (∃ n71 : Int, (∃ l72 : List D, (∃ s73 : Bytes, ((D.cells (List.getD (b.msgs.map Msg.d) (Int.toNat n66) D.nilp) = [D.int .i64 n67, D.int .i64 n68, D.int .i64 n69, D.str s70, D.int .i64 n71, D.slice 1 l72, D.str s73]) ∧ (∃ l74 : List D, (∃ n75 : Int, ((Runs P 40 [CV.d (D.agg [D.str b.id, D.int .i64 b.valid, D.int .i64 b.next, D.int .i64 b.high, D.slice 1 (strs b.words), D.slice 7 (b.msgs.map Msg.d)]), CV.d (D.int .i64 n67), CV.d (D.int .i64 fl), CV.d (D.slice 1 (strs ws)), CV.d (D.int .i64 how)] [] (CV.tup [CV.d (D.slice 11 l74), CV.d (D.int .i64 n75)]) []) ∧ (((n75 == 0) = true → (∃ s76 : Bytes, (∃ n77 : Int, (∃ n78 : Int, (∃ n79 : Int, (∃ l80 : List D, (∃ l81 : List D, (∃ n82 : Int, ((Runs P 32 [CV.d (D.agg [D.str b.id, D.int .i64 b.valid, D.int .i64 b.next, D.int .i64 b.high, D.slice 1 (strs b.words), D.slice 7 (b.msgs.map Msg.d)]), CV.d (D.slice 11 l74)] [] (CV.tup [CV.d (D.agg [D.str s76, D.int .i64 n77, D.int .i64 n78, D.int .i64 n79, D.slice 1 l80, D.slice 7 l81]), CV.d (D.int .i64 n82)]) []) ∧ (∃ n83 : Int, ((Runs P 41 [CV.d (D.agg [D.str s76, D.int .i64 n77, D.int .i64 n78, D.int .i64 n79, D.slice 1 l80, D.slice 7 l81]), CV.d (D.int .i64 n67)] [] (CV.d (D.int .i64 n83)) []) ∧ (∃ n84 : Int, (((!n82 != 0) = true → Runs P 35 [CV.d (D.agg [D.str s76, D.int .i64 n77, D.int .i64 n78, D.int .i64 n79, D.slice 1 l80, D.slice 7 l81])] [] (CV.d (D.int .i64 n84)) []) ∧ (∀ b85 : Bool, ((n82 != 0 || n84 != 0) = b85 → (∀ b86 : Bool, ((b85 || decide (n83 < 0)) = b86 → (∀ b87 : Bool, ((b86 || decide (n83 ≥ nI (List.length l81))) = b87 → (∀ b88 : Bool, ((b87 || nI (List.length l81) != nI (List.length (b.msgs.map Msg.d))) = b88 → (((b88) = true → EndR (CV.d (D.bool false)) (.d (.bool true)) (f1 s76 n77 n78 n79 l80 l81) []) ∧ ((b88) = false → ((0 ≤ n83 ∧ n83 < nI (List.length l81)) ∧ (∃ n89 : Int, (∃ n90 : Int, (∃ n91 : Int, (∃ s92 : Bytes, (∃ n93 : Int, (∃ l94 : List D, (∃ s95 : Bytes, ((D.cells (List.getD l81 (Int.toNat n83) D.nilp) = [D.int .i64 n89, D.int .i64 n90, D.int .i64 n91, D.str s92, D.int .i64 n93, D.slice 1 l94, D.str s95]) ∧ (∀ b96 : Bool, ((how == 0 && n93 != fl) = b96 → (∀ n97 : Int, (Go.IntKind.wrap Go.IntKind.i64 (nI (BitVec.toNat (BitVec.ofInt (Go.IntKind.bits .i64) n93 &&& BitVec.ofInt (Go.IntKind.bits .i64) fl))) = n97 → (∀ b98 : Bool, ((how == 1 && n97 != fl) = b98 → (∀ b99 : Bool, ((b96 || b98) = b99 → (∀ n100 : Int, (Go.IntKind.wrap Go.IntKind.i64 (nI (BitVec.toNat (BitVec.ofInt (Go.IntKind.bits .i64) n93 &&& BitVec.ofInt (Go.IntKind.bits .i64) fl))) = n100 → (∀ b101 : Bool, ((how == 2 && n100 != 0) = b101 → (∀ b102 : Bool, ((b99 || b101) = b102 → (∀ b103 : Bool, ((b102 || !decide (n79 > b.high) == decide (nI (List.length l74) > 0)) = b103 → (((b103) = true → EndR (CV.d (D.bool false)) (.d (.bool true)) (f2 s76 n77 n78 n79 l80 l81) []) ∧ ((b103) = false → (∃ l104 : List D, (∃ n105 : Int, ((Runs P 40 [CV.d (D.agg [D.str s76, D.int .i64 n77, D.int .i64 n78, D.int .i64 n79, D.slice 1 l80, D.slice 7 l81]), CV.d (D.int .i64 n67), CV.d (D.int .i64 fl), CV.d (D.slice 1 (strs ws)), CV.d (D.int .i64 how)] [] (CV.tup [CV.d (D.slice 11 l104), CV.d (D.int .i64 n105)]) []) ∧ (∀ b106 : Bool, ((n105 != 0 || nI (List.length l104) != 0) = b106 → (((b106) = true → EndR (CV.d (D.bool false)) (.d (.bool true)) (f3 s76 n77 n78 n79 l80 l81) []) ∧ ((b106) = false → (∃ l107 : List D, (∃ n108 : Int, ((Runs P 42 [CV.d (D.agg [D.str b.id, D.int .i64 b.valid, D.int .i64 b.next, D.int .i64 b.high, D.slice 1 (strs b.words), D.slice 7 (b.msgs.map Msg.d)]), CV.d (D.slice 1 [D.int .i64 n67])] [] (CV.tup [CV.d (D.slice 11 l107), CV.d (D.int .i64 n108)]) []) ∧ (((n108 == 0) = true → (∃ s109 : Bytes, (∃ n110 : Int, (∃ n111 : Int, (∃ n112 : Int, (∃ l113 : List D, (∃ l114 : List D, (∃ n115 : Int, ((Runs P 32 [CV.d (D.agg [D.str b.id, D.int .i64 b.valid, D.int .i64 b.next, D.int .i64 b.high, D.slice 1 (strs b.words), D.slice 7 (b.msgs.map Msg.d)]), CV.d (D.slice 11 l107)] [] (CV.tup [CV.d (D.agg [D.str s109, D.int .i64 n110, D.int .i64 n111, D.int .i64 n112, D.slice 1 l113, D.slice 7 l114]), CV.d (D.int .i64 n115)]) []) ∧ (∃ n116 : Int, (((n115 == 0) = true → Runs P 41 [CV.d (D.agg [D.str s109, D.int .i64 n110, D.int .i64 n111, D.int .i64 n112, D.slice 1 l113, D.slice 7 l114]), CV.d (D.int .i64 n67)] [] (CV.d (D.int .i64 n116)) []) ∧ (∀ b117 : Bool, ((n115 == 0 && n116 == -1) = b117 → (∃ n118 : Int, ((b117 = true → Runs P 35 [CV.d (D.agg [D.str s109, D.int .i64 n110, D.int .i64 n111, D.int .i64 n112, D.slice 1 l113, D.slice 7 l114])] [] (CV.d (D.int .i64 n118)) []) ∧ (∀ b119 : Bool, ((b117 && n118 == 0) = b119 → (∀ n120 : Int, (Go.IntKind.wrap Go.IntKind.i64 (b.high + 1) = n120 → (∀ b121 : Bool, ((b119 && n112 == n120) = b121 → (∀ b122 : Bool, ((b121 && n111 == b.next) = b122 → (∃ b123 : Bool, ((b122 = true → Runs P 31 [] [] (CV.d (D.bool b123)) []) ∧ (∀ b124 : Bool, ((b122 && b123) = b124 → EndR (CV.d (D.bool b124)) (.d (.bool true)) (f4 s76 n77 n78 n79 l80 l81 s109 n110 n111 n112 l113 l114) []))))))))))))))))))))))))))) ∧ ((n108 == 0) = false → (∀ b125 : Bool, ((n108 == 9 && b.high == 1000000) = b125 → (∃ b126 : Bool, ((b125 = true → Runs P 31 [] [] (CV.d (D.bool b126)) []) ∧ (∀ b127 : Bool, ((b125 && b126) = b127 → EndR (CV.d (D.bool b127)) (.d (.bool true)) (f5 s76 n77 n78 n79 l80 l81) [])))))))))))))))))))))))))))))))))))))))))))))))))))))))))))))))))))) ∧ ((n75 == 0) = false → (∃ l128 : List D, (∃ n129 : Int, ((Runs P 42 [CV.d (D.agg [D.str b.id, D.int .i64 b.valid, D.int .i64 b.next, D.int .i64 b.high, D.slice 1 (strs b.words), D.slice 7 (b.msgs.map Msg.d)]), CV.d (D.slice 1 [D.int .i64 n67])] [] (CV.tup [CV.d (D.slice 11 l128), CV.d (D.int .i64 n129)]) []) ∧ (((n129 == 0) = true → (∃ s130 : Bytes, (∃ n131 : Int, (∃ n132 : Int, (∃ n133 : Int, (∃ l134 : List D, (∃ l135 : List D, (∃ n136 : Int, ((Runs P 32 [CV.d (D.agg [D.str b.id, D.int .i64 b.valid, D.int .i64 b.next, D.int .i64 b.high, D.slice 1 (strs b.words), D.slice 7 (b.msgs.map Msg.d)]), CV.d (D.slice 11 l128)] [] (CV.tup [CV.d (D.agg [D.str s130, D.int .i64 n131, D.int .i64 n132, D.int .i64 n133, D.slice 1 l134, D.slice 7 l135]), CV.d (D.int .i64 n136)]) []) ∧ (∃ n137 : Int, (((n136 == 0) = true → Runs P 41 [CV.d (D.agg [D.str s130, D.int .i64 n131, D.int .i64 n132, D.int .i64 n133, D.slice 1 l134, D.slice 7 l135]), CV.d (D.int .i64 n67)] [] (CV.d (D.int .i64 n137)) []) ∧ (∀ b138 : Bool, ((n136 == 0 && n137 == -1) = b138 → (∃ n139 : Int, ((b138 = true → Runs P 35 [CV.d (D.agg [D.str s130, D.int .i64 n131, D.int .i64 n132, D.int .i64 n133, D.slice 1 l134, D.slice 7 l135])] [] (CV.d (D.int .i64 n139)) []) ∧ (∀ b140 : Bool, ((b138 && n139 == 0) = b140 → (∀ n141 : Int, (Go.IntKind.wrap Go.IntKind.i64 (b.high + 1) = n141 → (∀ b142 : Bool, ((b140 && n133 == n141) = b142 → (∀ b143 : Bool, ((b142 && n132 == b.next) = b143 → (∃ b144 : Bool, ((b143 = true → Runs P 31 [] [] (CV.d (D.bool b144)) []) ∧ (∀ b145 : Bool, ((b143 && b144) = b145 → EndR (CV.d (D.bool b145)) (.d (.bool true)) (f6 s130 n131 n132 n133 l134 l135) []))))))))))))))))))))))))))) ∧ ((n129 == 0) = false → (∀ b146 : Bool, ((n129 == 9 && b.high == 1000000) = b146 → (∃ b147 : Bool, ((b146 = true → Runs P 31 [] [] (CV.d (D.bool b147)) []) ∧ (∀ b148 : Bool, ((b146 && b147) = b148 → EndR (CV.d (D.bool b148)) (.d (.bool true)) f7 [])))))))))))))))))))))))))))))))))) := by
  have hnm := hM.nm
  have hpos : 0 < b.msgs.length := List.length_pos_iff.2 hne
  rw [nI_map]
  rintro _ rfl _ rfl
  have e64 : Go.IntKind.wrap .u64 (nI b.msgs.length) = (b.msgs.length : Int) := by simp only [nI]; rw [WU64]; omega
  rw [e64]
  refine ⟨by omega, ?_⟩
  rintro _ rfl
  obtain ⟨i, hi, hil⟩ : ∃ i : Nat, (Go.IntKind.wrap .u64 k).tmod (b.msgs.length : Int) = (i : Int) ∧ i < b.msgs.length := by
    rw [WU64]
    have h0 : 0 ≤ k % 18446744073709551616 := Int.emod_nonneg _ (by decide)
    rw [Int.tmod_eq_emod_of_nonneg h0]
    have h1 := Int.emod_nonneg (k % 18446744073709551616) (show (b.msgs.length : Int) ≠ 0 by omega)
    have h2 := Int.emod_lt_of_pos (k % 18446744073709551616) (show 0 < (b.msgs.length : Int) by omega)
    exact ⟨(k % 18446744073709551616 % (b.msgs.length : Int)).toNat, by omega, by omega⟩
  rw [hi]
  rintro _ rfl
  rw [W64 (n := (i : Int)) (by omega) (by omega)]
  have hu : (findM b.msgs b.msgs[i].uid).isSome = true := findM_isSome.2 ⟨_, List.getElem_mem hil, rfl⟩
  have w1 := r34 b b.msgs[i].uid fl ws how hM.ok hl hww
  refine ⟨⟨by omega, by simp only [nI]; omega⟩, _, _, _, _, _, _, _, by rw [msgs_get b.msgs hil]; rfl, _, _, w1, fun h => ?_, fun h => cutTail b _ hM hu _ _⟩
  have h : (flagsOut b b.msgs[i].uid fl ws how).1 = 0 := by simpa using h
  obtain ⟨j, c, hf, hd⟩ := flags_done hM h
  have hj := (findM_some hf).1
  have w2 := r32 b (flagsOut b b.msgs[i].uid fl ws how).2 hM.ok (by have := hd.n; omega) hd.ok
  rw [hd.all] at w2
  have hcn := hd.may.nm
  have hlen := hd.len
  have hff : findI c.msgs b.msgs[i].uid = (j : Int) := findI_eq hd.find
  have hjc : j < c.msgs.length := by omega
  obtain ⟨y, hy, hbits⟩ := hd.bits
  have hyj : c.msgs[j] = y := (List.getElem?_eq_some_iff.1 hy).2
  have hcl : nI (List.length (c.msgs.map Msg.d)) = (c.msgs.length : Int) := nI_map _ _
  refine ⟨_, _, _, _, _, _, _, w2, _, r33 c _ (by omega), _, fun _ => r47 c hd.may.ok, ?_⟩
  rw [hff, boxMay.2 hd.may, hcl]
  rintro _ rfl _ rfl _ rfl b88 h88
  have e88 : b88 = false := by
    rw [← h88, hlen]
    simp only [nI]
    simp
    omega
  subst e88
  refine ⟨fun h => (by cases h), fun _ => ⟨⟨by omega, by omega⟩, _, _, _, _, _, _, _, by rw [msgs_get c.msgs hjc]; rfl, ?_⟩⟩
  rw [hyj]
  rintro _ rfl _ rfl _ rfl _ rfl _ rfl _ rfl _ rfl b103 h103
  have hrl : (decide (nI (List.length ((flagsOut b b.msgs[i].uid fl ws how).2.map Row.d)) > 0)) = decide (c.high > b.high) := by
    rw [nI_map]
    refine decide_eq_decide.2 ?_
    rw [hd.high]
    simp only [nI]
    rw [← List.length_pos_iff]
    omega
  have e103 : b103 = false := by
    rw [← h103, hrl]
    obtain ⟨q0, q1, q2⟩ := hbits
    have e1 : (how == 0 && y.flags != fl) = false := by
      by_cases c0 : how = 0
      · rw [q0 c0]; simp
      · simp [c0]
    have e2 : (how == 1 && andF y.flags fl != fl) = false := by
      by_cases c0 : how = 1
      · rw [q1 c0]; simp
      · simp [c0]
    have e3 : (how == 2 && andF y.flags fl != 0) = false := by
      by_cases c0 : how = 2
      · rw [q2 c0]; simp
      · simp [c0]
    rw [show (how == 1 && Go.IntKind.wrap Go.IntKind.i64 (nI (BitVec.toNat (BitVec.ofInt (Go.IntKind.bits .i64) y.flags &&& BitVec.ofInt (Go.IntKind.bits .i64) fl))) != fl) = false from e2,
      show (how == 2 && Go.IntKind.wrap Go.IntKind.i64 (nI (BitVec.toNat (BitVec.ofInt (Go.IntKind.bits .i64) y.flags &&& BitVec.ofInt (Go.IntKind.bits .i64) fl))) != 0) = false from e3, e1]
    simp
  subst e103
  refine ⟨fun h => (by cases h), fun _ => ?_⟩
  have w3 := r34 c b.msgs[i].uid fl ws how hd.may.ok hl hww
  rw [hd.again] at w3
  refine ⟨_, _, w3, ?_⟩
  rintro _ rfl
  exact ⟨fun h => (by simp [nI] at h), fun _ => cutTail b _ hM hu _ _⟩

theorem z12 (b : Box) (m : Msg) (ws : List Bytes) (k how : Int) (hb : BoxIn b) (hm : szM m ≤ 1048576) (hl : ws.length ≤ 1048576) (hww : ∀ w ∈ ws, w.length ≤ 1048576) :
    Runs P 12 [.d b.d, .d m.d, .d (.slice 1 (strs ws)), .d (iD k), .d (iD how)] [] (.d (.bool true)) [] := by
  refine runs_walkZ zt12 (zvc12 b.id b.valid b.next b.high (strs b.words) (b.msgs.map Msg.d) m.uid m.mod m.date m.id m.flags (ints m.keys) m.text (strs ws) k how _ _) rfl (by simp) ?_
  have hsz : szL ws ≤ 1099511627776 := by
    have : ∀ l : List Bytes, (∀ w ∈ l, w.length ≤ 1048576) → szL l ≤ l.length * 1048576 := by
      intro l
      induction l with
      | nil => intro _; simp [szL]
      | cons w r ih =>
        intro h
        have h1 := h w (by simp)
        have h2 := ih fun v hv => h v (by simp [hv])
        have e : szL (w :: r) = w.length + szL r := rfl
        rw [e, List.length_cons]
        omega
    have h1 := this ws hww
    have h2 : ws.length * 1048576 ≤ 1048576 * 1048576 := Nat.mul_le_mul_right _ hl
    omega
  have hid : m.id.length ≤ 1048576 := by unfold szM at hm; omega
  have w1 := r15 ⟨[], 0, 0, 0, [], [m]⟩ (by unfold szBox; simp [szMs, szW]; unfold szM at *; omega)
  refine ⟨_, r15 b hb.sz, _, w1, ?_⟩
  rintro _ rfl
  refine ⟨_, r39 ws (by omega) hsz, ?_⟩
  rintro _ rfl
  refine ⟨_, fun _ => r47 b hb.ok, ?_⟩
  rintro b22 h22
  refine ⟨_, fun _ => r16 b hb.ok, ?_⟩
  rintro b24 h24
  refine ⟨fun h => ⟨true, r29, endB rfl⟩, fun h => ?_⟩
  subst h
  simp only [Bool.or_eq_false_iff, bne_eq_false_iff_eq] at h24
  have hM := boxMay.1 h24.2
  have hnm := hM.nm
  have hnx := hM.next
  have hhi := hM.high
  have hwl : ∀ w ∈ ws, w.length ≤ 9223372036854775806 := fun w hw => by have := hww w hw; omega
  have w2 := r40 b m.date m.id m.flags ws m.text hb.ok (by have := hM.nw; omega) (by omega) hwl (by omega)
  have hnl : nI (List.length (b.msgs.map Msg.d)) = nI b.msgs.length := nI_map _ _
  rw [hnl]
  have rest : ∀ (E : Prop), (b.msgs ≠ [] → E) → (nI b.msgs.length == 0) = false → E := fun E h q => h (by rintro e; rw [e] at q; simp [nI] at q)
  have FT := fun hne => flagTail b m.flags ws k how hM (by omega) hwl hne
  rw [hnl] at FT
  refine ⟨_, _, w2, fun h => ?_, fun h => ⟨fun _ => ⟨true, r29, endB rfl⟩, fun h0 => rest _ (fun hne => FT hne _ _ _ _ _ _ _) h0⟩⟩
  have h : (addOut b m.date m.id m.flags ws m.text).1 = 0 := by simpa using h
  obtain ⟨M, hMe, ha, hback, hwB, hok, hn65, hcm⟩ := add_done hM h
  have w3 := r32 b (addOut b m.date m.id m.flags ws m.text).2 hb.ok (by omega) hok
  rw [ha] at w3
  have w4 := z33 (addOut b m.date m.id m.flags ws m.text).2 (by omega)
  have hbl : (bytesR (addOut b m.date m.id m.flags ws m.text).2).length ≤ 1099511627776 := by
    have len : ∀ m : List Row, (bytesR m).length ≤ 2400 * 200 := by
      intro m
      unfold bytesR
      split
      · rename_i q
        have := flat_sz (l := m) fun r hr => by
          have := q.2.1
          rw [List.any_eq_false] at this
          simpa using this r hr
        have := q.1; omega
      · simp
    have := len (addOut b m.date m.id m.flags ws m.text).2
    omega
  have w5 := z37 _ hbl
  rw [hback] at w5
  have hkeys : ∀ r ∈ (addOut b m.date m.id m.flags ws m.text).2, r.msg.keys.length ≤ 9223372036854775806 := fun r hr => by have := (hok r hr).keys; omega
  have w6 := z38 (addOut b m.date m.id m.flags ws m.text).2 (addOut b m.date m.id m.flags ws m.text).2 (by omega) hkeys
  rw [sameRs_iff.2 rfl] at w6
  refine ⟨_, _, _, _, _, _, _, w3, _, w4, _, _, w5, ?_⟩
  rintro _ rfl
  refine ⟨_, fun _ => w6, ?_⟩
  rintro _ rfl
  refine ⟨_, fun _ => r47 _ hcm.ok, ?_⟩
  rw [boxMay.2 hcm]
  rintro _ rfl _ rfl _ rfl _ rfl _ rfl _ rfl b48 h48
  have hcl : nI (List.length ((b.msgs ++ [M]).map Msg.d)) = (b.msgs.length : Int) + 1 := by rw [nI_map]; simp [nI]
  have e48 : b48 = false := by
    rw [← h48]
    rw [W64 (n := nI b.msgs.length + 1) (by simp only [nI]; omega) (by simp only [nI]; omega), W64 (n := b.next + 1) (by omega) (by omega), W64 (n := b.high + 1) (by omega) (by omega)]
    show (_ || nI (List.length ((b.msgs ++ [M]).map Msg.d)) != _ || _ || _) = false
    rw [hcl]
    simp [resP, nI]
  subst e48
  refine ⟨fun h => (by cases h), fun _ => ?_⟩
  show ∀ n49 : Int, Go.IntKind.wrap Go.IntKind.i64 (nI (List.length ((b.msgs ++ [M]).map Msg.d)) - 1) = n49 → _
  rw [hcl]
  rintro _ rfl
  rw [W64 (by omega) (by omega), show (b.msgs.length : Int) + 1 - 1 = (b.msgs.length : Int) by omega]
  have hg : ((b.msgs ++ [M]).map Msg.d).getD (Int.toNat (b.msgs.length : Int)) .nilp = M.d := by
    have := msgs_get (b.msgs ++ [M]) (i := b.msgs.length) (by simp)
    simpa using this
  have hkl : (placesB b ws).length = ws.length := placesB_len b ws
  have w7 := z39 { b with words := b.words ++ freshB b ws, msgs := b.msgs ++ [M], next := b.next + 1, high := b.high + 1 } M (by have := hcm.nw; omega) (by rw [hMe]; show (placesB b ws).length ≤ _; omega)
  refine ⟨⟨by omega, by omega⟩, _, _, _, _, _, _, _, by rw [hg]; rfl, ?_⟩
  rintro b57 h57 b58 h58 b59 h59
  refine ⟨_, fun _ => w7, ?_⟩
  rintro b61 h61
  have hwlen : (List.map (fun k : Int => (b.words ++ freshB b ws).getD k.toNat []) (M.keys.filter fun k => decide (0 ≤ k) && decide (k < ((b.words ++ freshB b ws).length : Int)))).length = ws.length := by
    rw [hMe]
    show (List.map _ ((placesB b ws).filter _)).length = _
    rw [add_words, List.length_map, hkl]
  have e61 : b61 = false := by
    rw [← h61, ← h59, ← h58, ← h57, strs_len, strs_len, hwlen, hMe]
    simp [addM]
  subst e61
  exact ⟨fun h => (by cases h), fun _ => ⟨fun _ => ⟨true, r29, endB rfl⟩, fun h0 => rest _ (fun hne => FT hne _ _ _ _ _ _ _) h0⟩⟩
end B
end Go.Proofs.YtmkkljbfmdngfaaGreatDoor
