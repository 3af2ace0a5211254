/- The document's old forms, on data; Form1Forms, Form2Forms. Printed by h6.py. No condition. -/
import Derived.Test.YtmkkljbfmdngfaaDoorK5
set_option linter.all false
namespace Go.Proofs.YtmkkljbfmdngfaaDoor
namespace B
open Go.RowKit

theorem Step.kill {α : Type} {p : Rd α} {s : Bytes} {e : Int} {off : Bool} {a : α} {s' : Bytes} {e' : Int} {off' : Bool} (h : Step p s e off a s' e' off') {β : Type} {f : α → Rd β} (g : (!off' && e' == 0) = false) (b : β) : Step (p.bind f) s e off b s' e' off' := h.bind (Step.any _ b _ g)
theorem rep_any {α : Type} {p : Rd α} {i : Nat} {s : Bytes} {e : Int} {off : Bool} {l : List α} {s1 : Bytes} {e1 : Int} {o1 : Bool} (h1 : Step (repP p i) s e off l s1 e1 o1) (g : (!o1 && e1 == 0) = false) (l' : List α) : ∀ {k : Nat}, i ≤ k → Step (repP p k) s e off l' s1 e1 o1 := by
  intro k hk
  induction k with
  | zero => have : i = 0 := by omega
            subst this; exact h1.val g l'
  | succ k ih =>
    by_cases hik : i = k + 1
    · subst hik; exact h1.val g l'
    · exact (ih (by omega)).kill g l'
theorem rep_app {α : Type} {p : Rd α} {i : Nat} {s : Bytes} {e : Int} {off : Bool} {l : List α} {s1 : Bytes} {e1 : Int} {o1 : Bool} {a : α} {s2 : Bytes} {e2 : Int} {o2 : Bool} (h1 : Step (repP p i) s e off l s1 e1 o1) (h2 : Step p s1 e1 o1 a s2 e2 o2) :
    Step (repP p (i + 1)) s e off (l ++ [a]) s2 e2 o2 := h1.bind (h2.bind (Step.pure (l ++ [a]) s2 e2 o2))
theorem str_ok (n : Nat) (s : Bytes) (off : Bool) (h : n ≤ s.length) : Step (strP n) s 0 off (s.take n) (s.drop n) 0 off := by
  refine ⟨fun _ ho => .inl ⟨_, _, ?_, rfl, rfl, rfl, ho⟩, fun _ h => h, by simp⟩
  unfold strP; rw [if_neg (by omega)]
theorem str_er (n : Nat) (s : Bytes) (a : Bytes) (h : s.length < n) : Step (strP n) s 0 false a s 2 false := by
  refine ⟨fun _ _ => .inr ⟨2, ?_, rfl, by decide⟩, fun x hx => hx.no.elim, Nat.le_refl _⟩
  unfold strP; rw [if_pos h]
theorem d66 (s : Bytes) (e : Int) (hs : s.length ≤ 1099511627776) : ∃ (v : Nat) (s' : Bytes) (e' : Int), v < 4294967296 ∧ (e' ≠ 0 → v = 0) ∧ Step fixedP s e false (v : Int) s' e' false ∧ Runs P 66 [.ptr 23 0] [(23, rdr s e)] (.d (.int .i64 v)) [(23, rdr s' e')] := by
  obtain ⟨v, hv, hl⟩ := rd_nat (k := 4) s e
  refine ⟨v, (rd fixedP 0 s e).2.1, (rd fixedP 0 s e).2.2, hl, fun he => ?_, ?_, ?_⟩
  · by_cases h0 : e = 0
    · subst h0
      cases h : fixedP s with
      | ok q => obtain ⟨a, r⟩ := q; rw [rd_ok 0 h] at he; exact absurd rfl he
      | error x => rw [show bytesP 4 = fixedP from rfl, rd_er 0 h] at hv; simp only at hv; omega
    · rw [rd_e _ _ _ h0] at hv; simp only at hv; omega
  · rw [← hv]; exact step_rd fixedP 0 bytesP_er bytesP_len s e false
  · rw [← hv]; exact Runs.at (xs := []) (r66 s e hs) 23
theorem d68 (s : Bytes) (e : Int) (hs : s.length ≤ 1099511627776) : ∃ (v : Nat) (s' : Bytes) (e' : Int), v < 256 ∧ Step byteP s e false (v : Int) s' e' false ∧ Runs P 68 [.ptr 23 0] [(23, rdr s e)] (.d (.int .i64 v)) [(23, rdr s' e')] := by
  obtain ⟨v, hv, hl⟩ := rd_nat (k := 1) s e
  refine ⟨v, (rd byteP 0 s e).2.1, (rd byteP 0 s e).2.2, hl, ?_, ?_⟩
  · rw [← hv]; exact step_rd byteP 0 bytesP_er bytesP_len s e false
  · rw [← hv]; exact Runs.at (xs := []) (r68 s e hs) 23
theorem d67 (s : Bytes) (e : Int) (m : Int) (hs : s.length ≤ 1099511627776) : ∃ (a : Bytes) (s' : Bytes) (e' : Int), (a.length : Int) ≤ max m 0 ∧ Step (textP m) s e false a s' e' false ∧ Runs P 67 [.ptr 23 0, .d (.int .i64 m)] [(23, rdr s e)] (.d (.str a)) [(23, rdr s' e')] :=
  ⟨_, _, _, rd_text s e, step_rd (textP m) [] textP_er (fun s a r h => (textP_len s a r h).1) s e false, Runs.at (xs := [.int .i64 m]) (r67 s e m hs) 23⟩
theorem d69 (s : Bytes) (n : Int) : Runs P 69 [.ptr 23 0, .d (.int .i64 n)] [(23, rdr s 0)] (.tup []) [(23, rdr s n)] := by
  have := (r69z s n).swap 1000 23
  simpa [CV.ren, CV.ren1, renB, swp, Function.comp_def] using this
theorem BoxMay.isOk {b : Box} (hP : BoxMay b) : BoxOk b := by
  have hid := hP.id.2
  refine ⟨by omega, by have := hP.nw; omega, by have := hP.nm; omega, fun w hw => ?_, fun m hm => ?_⟩
  · have := atom_len (words_all hP.words w hw); omega
  · have q := (msgs_all hP.msgs m hm).1
    have q1 := atom_len q.id
    have q2 := q.keyLen
    have q3 := hP.nw
    exact ⟨by omega, by omega⟩
theorem parse_isOk {p : Rd Box} {pre s : Bytes} {q : Box} (h : parseP p pre s = .ok q) : BoxOk q := by
  unfold parseP at h
  split at h
  · split at h
    · cases h
    · split at h
      · rename_i hh
        have := hh.2
        cases h
        exact (boxMay.1 this).isOk
      · cases h
  · cases h
theorem dead3 (e : Int) : Dead 3 e true := rfl
theorem ltA {a b : Nat} (h : a ≤ b) (hb : b ≤ 1099511627776) : a ≤ 1099511627776 := Nat.le_trans h hb
theorem not_gt {a b : Int} (h : decide (a > b) = false) : ¬ a > b := of_decide_eq_false h

/-! ### form 1 -/
theorem r65_1 (s : Bytes) : Runs P 65 [.d (.slice 1 (bs s)), .d (.int .i64 1)] [] (.d (.bool (preB s [77, 66, 49]))) [] := by
  refine runs_walkA t65 rfl (vc65 _ _ _ _) (by simp) ?_
  rw [bs_len]
  refine ⟨fun h => ?_, ?_⟩
  · have h := of_decide_eq_true h
    simp only [nI] at h ⊢
    omega
  rintro _ rfl
  have e0 : Lib.itoa 1 = [49] := by decide +kernel
  refine ⟨s.take 3, fun _ => by rw [bs_take]; rfl, [49], fun _ => by have := r57 1 (by omega) (by omega); rwa [e0] at this, fun _ => by decide, ?_⟩
  rintro _ rfl _ rfl
  refine endB ?_
  unfold preB
  have : (decide (nI s.length ≥ 3)) = decide (3 ≤ s.length) := by
    simp only [nI]; exact decide_eq_decide.2 (by omega)
  rw [this]; simp
theorem r23_1 (b : Box) (hb : BoxOk b) : Runs P 23 [.d (.int .i64 1), .d b.d] [] (resB 1 b) [] := by
  refine runs_walkA t23 rfl (vc23 _ _ _ _ _ _ _ _ _) (by simp) ?_
  rw [nI_map]
  refine ⟨_, r16 b hb, fun h => ?_, fun h => ?_⟩
  · have h : ¬ mayBox b = 0 := by simpa using h
    unfold resB; rw [if_neg h, if_neg h]
    exact endT
  have h : mayBox b = 0 := by simpa using h
  have hm := boxMay.1 h
  rw [resB_ok h]
  have hk : kept b ≤ b.words.length := Nat.min_le_left _ _
  have hnw := hm.nw
  have hnm := hm.nm
  have e0 : Lib.itoa 1 = [49] := by decide +kernel
  refine ⟨[49], by have := r57 1 (by omega) (by omega); rwa [e0] at this, by decide, ?_⟩
  rintro _ rfl
  refine ⟨by decide, _, r56 ([77, 66] ++ [49]) b.valid (by simp), _, r56 _ b.next (by simp only [List.length_append, fix_len, List.length_cons, List.length_nil]; omega), ?_⟩
  refine ⟨fun h => absurd h (by decide), fun _ => ?_⟩
  rintro n13 h13
  have h13 : n13 = (kept b : Int) := by
    rw [← h13, mmI_f]; unfold kept; simp only [nI, strs_len]; omega
  subst h13
  refine ⟨⟨by simp [nI], by simp [nI], by rw [strs_len]; simp only [nI]; omega⟩, ?_⟩
  rintro _ rfl
  rw [take_kept, strs_len]
  have hkl : (b.words.take (kept b)).length = kept b := by rw [List.length_take]; omega
  rw [hkl]
  refine ⟨_, r56 _ _ (by simp only [List.length_append, fix_len, List.length_cons, List.length_nil]; omega), ?_⟩
  have e1 : [77, 66] ++ [49] ++ fixB b.valid ++ fixB b.next ++ fixB (nI (kept b)) = headF 1 b := by unfold headF; simp [nI]
  rw [e1]
  have l1 := headF_len 1 b
  have hkn : nI (kept b) = nI (b.words.take (kept b)).length := by rw [hkl]
  rw [hkn]
  refine range2 (fun i l => l = bs (headF 1 b ++ ((b.words.take (kept b)).take i).flatMap txtB)) (by rw [List.length_take]; omega) (by simp) (fun i hi bd l hJ I k next => ⟨bd, ?_⟩) fun l hJ => ?_
  · subst hJ
    have l2 := wordsF_len hm i
    have l3 := atom_len (words_all hm.words _ (List.mem_of_mem_take (List.getElem_mem hi)))
    refine ⟨(b.words.take (kept b))[i], by rw [strs_get _ hi]; rfl, _, r58 _ _ (by rw [List.length_append]; omega), next _ ?_⟩
    rw [flat_take txtB _ hi, List.append_assoc]
  · rw [List.take_length] at hJ
    subst hJ
    have l2 := wordsF_len hm (b.words.take (kept b)).length
    rw [List.take_length] at l2
    have l2 : (wordsF b).length ≤ 2000 := l2
    refine ⟨_, r56 (headF 1 b ++ wordsF b) (nI b.msgs.length) (by rw [List.length_append]; omega), ?_⟩
    have l3 : (headF 1 b ++ wordsF b ++ fixB b.msgs.length).length ≤ 2100 := by rw [List.length_append, List.length_append, fix_len]; omega
    refine range2 (fun i l => l = bs (headF 1 b ++ wordsF b ++ fixB b.msgs.length ++ (b.msgs.take i).flatMap (msgF 1))) (by omega) (by simp [nI]) (fun i hi bd l hJ I k next => ⟨bd, ?_⟩) fun l hJ => ?_
    · subst hJ
      have l4 := msgsF_len hm 1 i
      have mm := (msgs_all hm.msgs _ (List.getElem_mem hi)).1
      have mt := mm.text
      have mk := mm.keyLen
      generalize headF 1 b ++ wordsF b ++ fixB b.msgs.length = pre at *
      obtain ⟨q, hq⟩ : ∃ q, q = (b.msgs.take i).flatMap (msgF 1) := ⟨_, rfl⟩
      rw [← hq] at l4 ⊢
      refine ⟨_, _, _, _, _, _, _, by rw [msgs_get _ hi]; rfl, _, r56 _ _ (by rw [List.length_append]; omega), ?_⟩
      refine ⟨fun h => absurd h (by decide), fun _ => ?_⟩
      refine ⟨_, r56 _ _ (by simp only [List.length_append, fix_len]; omega), ?_⟩
      rintro _ rfl
      rw [u8D]
      refine ⟨by rw [bs_len]; simp only [List.length_append, List.length_cons, List.length_nil, fix_len]; omega, _, r59 _ (fun k hk => (mm.key0 k hk).1) (by omega), ?_⟩
      rw [show ([byteD (by8 b.msgs[i].flags)] : List D) = bs [by8 b.msgs[i].flags] from rfl, ← bs_app]
      refine ⟨_, r56 _ _ (by simp only [List.length_append, fix_len, List.length_cons, List.length_nil]; omega), _, r56 _ _ (by simp only [List.length_append, fix_len, List.length_cons, List.length_nil]; omega), by rw [bs_len, List.length_map]; simp only [List.length_append, List.length_cons, List.length_nil, fix_len]; omega, next _ ?_⟩
      rw [flat_take (msgF 1) _ hi, ← hq]
      rw [show List.map byteD b.msgs[i].text = bs b.msgs[i].text from rfl, ← bs_app]
      congr 1
      unfold msgF
      simp [nI]
    · rw [List.take_length] at hJ
      subst hJ
      exact endT
theorem r25_1 (s name : Bytes) (hn : name.length ≤ 1099511627776) (hs : s.length ≤ 1099511627776) : Runs P 25 [.d (.int .i64 1), .d (.slice 1 (bs s)), .d (.str name)] [] (resP (parseP (boxP1 name) [77, 66, 49] s)) [] := by
  refine runs_walkA t25 rfl (vc25 _ _ _ _ _) (by simp) ?_
  refine ⟨_, r65_1 s, fun h => ?_, fun h => ?_⟩
  · have hp : preB s [77, 66, 49] = false := by simpa using h
    have er : parseP (boxP1 name) [77, 66, 49] s = .error 3 := by unfold parseP; rw [hp]; rfl
    rw [er]; exact end0 rfl rfl
  have hp : preB s [77, 66, 49] = true := by simpa using h
  have hl3 : 3 ≤ s.length := by
    unfold preB at hp; simp only [Bool.and_eq_true, decide_eq_true_eq] at hp; exact hp.1
  rw [bs_len]
  refine ⟨⟨by omega, by simp only [nI]; omega, Int.le_refl _⟩, ?_⟩
  rintro _ rfl
  have hdr := bs_drop s (3 : Int)
  rw [hdr]
  obtain ⟨t, ht⟩ : ∃ t, t = s.drop 3 := ⟨_, rfl⟩
  rw [show s.drop (Int.toNat 3) = t from ht.symm]
  have lt : t.length ≤ 1099511627776 := by rw [ht, List.length_drop]; omega
  have er : parseP (boxP1 name) [77, 66, 49] s = match boxP1 name t with
    | .error x => .error x
    | .ok (b, r) => if r = [] ∧ mayBox b = 0 then .ok b else .error 3 := by unfold parseP; rw [if_pos hp, ht]; rfl
  rw [er]
  obtain ⟨v, s1, e1, _, _, p1, w1⟩ := d66 t 0 lt
  have l1 := Nat.le_trans p1.len lt
  obtain ⟨nx, s2, e2, _, _, p2, w2⟩ := d66 s1 e1 l1
  have l2 := Nat.le_trans p2.len l1
  obtain ⟨n, s3, e3, _, hz3, p3, w3⟩ := d66 s2 e2 l2
  have l3 := Nat.le_trans p3.len l2
  have c3 := cnt_step (n := 32) (by decide) hz3 p3
  refine ⟨_, _, _, w1, _, _, _, w2, ?_⟩
  refine ⟨fun h => absurd h (by decide), fun _ => ?_⟩
  refine ⟨_, _, _, w3, fun h => ?_, fun h => ?_⟩
  · have h := of_decide_eq_true h
    have st : Step (boxP1 name) t 0 false ⟨[], 0, 0, 0, [], []⟩ s3 e3 true := p1.bind (p2.bind ((c3.1 h).kill rfl (⟨[], 0, 0, 0, [], []⟩ : Box)))
    have hb := st.er (dead3 _)
    rw [hb]; exact end0 rfl rfl
  have hn32 := not_gt h
  have p3 := c3.2 hn32
  refine ⟨fun m a l e' k => ∃ (i : Nat) (x : Bytes) (ws : List Bytes), m = i ∧ i ≤ n ∧ k = n - i ∧ l = bs x ∧ a = strs ws ∧ ws.length ≤ i ∧ (∀ w ∈ ws, w.length ≤ 24) ∧ Step (repP (textP 24) i) s3 e3 false ws x e' false, ⟨rfl, rfl, rfl, rfl, rfl, n, 0, s3, [], rfl, Nat.zero_le _, rfl, rfl, rfl, Nat.le_refl _, by simp, Step.pure [] s3 e3 false⟩, ?_⟩
  rintro _ _ _ e4 _ ⟨i, s4, ws, rfl, hi, rfl, rfl, rfl, I1, I2, I3⟩
  have l4 := Nat.le_trans I3.len l3
  refine ⟨fun hlt => ?_, fun hge => ?_⟩
  · have hlt : i < n := by have := of_decide_eq_true hlt; omega
    obtain ⟨a, s', e', q1, q2, q3⟩ := d67 s4 e4 24 l4
    refine ⟨_, _, _, q3, by rw [strs_len]; simp only [List.length_cons, List.length_nil]; omega, ?_⟩
    intro m hm
    obtain ⟨g1, g2, g3⟩ := LI.nx (by omega) hlt hm
    refine ⟨rfl, rfl, rfl, rfl, rfl, _, g1, i + 1, s', ws ++ [a], g2, g3, rfl, rfl, by simp [strs], by simp; omega, ?_, rep_app I3 q2⟩
    intro w hw
    rcases List.mem_append.1 hw with hw | hw
    · exact I2 w hw
    · rw [List.mem_singleton.1 hw]; omega
  have hin : i = n := by have := of_decide_eq_false hge; omega
  subst hin
  obtain ⟨k, s5, e5, _, hz5, p5, w5⟩ := d66 s4 e4 l4
  have l5 := Nat.le_trans p5.len l4
  have c5 := cnt_step (n := 60) (by decide) hz5 p5
  refine ⟨_, _, _, w5, ?_⟩
  rintro b32 h32
  refine ⟨fun h => ?_, fun h => ?_⟩
  · subst h
    have h : (k : Int) > 60 := by simp only [Bool.and_eq_true, decide_eq_true_eq] at h32; exact h32.2
    have st : Step (boxP1 name) t 0 false ⟨[], 0, 0, 0, [], []⟩ s5 e5 true := p1.bind (p2.bind (p3.bind (I3.bind ((c5.1 h).kill rfl (⟨[], 0, 0, 0, [], []⟩ : Box)))))
    have hb := st.er (dead3 _)
    rw [hb]; exact end0 rfl rfl
  subst h
  have hk60 : ¬ (k : Int) > 60 := fun hk => by
    have : e5 ≠ 0 := fun h0 => by subst h0; simp at h32; omega
    have := hz5 this; omega
  have p5 := c5.2 hk60
  refine ⟨fun m l e' _ _ _ _ _ _ ms j => ∃ (i : Nat) (x : Bytes) (l' : List Msg), m = i ∧ i ≤ k ∧ j = k - i ∧ l = bs x ∧ ms = l'.map Msg.d ∧ l'.length ≤ i ∧ (∀ w ∈ l', MsgSm w) ∧ Step (repP (msgP1 name) i) s5 e5 false l' x e' false, ⟨rfl, rfl, rfl, rfl, rfl, k, 0, s5, [], rfl, Nat.zero_le _, rfl, rfl, rfl, Nat.le_refl _, by simp, Step.pure [] s5 e5 false⟩, ?_⟩
  rintro _ _ e6 _ _ _ _ _ _ _ _ ⟨j, s6, ms, rfl, hj, rfl, rfl, rfl, J1, J2, J3⟩
  have l6 := Nat.le_trans J3.len l5
  have bad : ∀ (x e' : Int) (off' : Bool) (y : Bytes) (ms' : List Msg) , Step (repP (msgP1 name) k) s5 e5 false ms' y e' off' → Dead x e' off' → boxP1 name t = .error x := fun x e' off' y ms' hst hd =>
    have st : Step (boxP1 name) t 0 false (⟨name, v, nx, 1, ws, ms'⟩ : Box) y e' off' := p1.bind (p2.bind (p3.bind (I3.bind (p5.bind (hst.bind (Step.pure _ _ _ _))))))
    st.er hd
  refine ⟨fun hlt => ?_, fun hge => ?_⟩
  · have hlt : j < k := by have := of_decide_eq_true hlt; omega
    obtain ⟨u, t1, f1, hu, _, q1, v1⟩ := d66 s6 e6 l6
    have k1 := Nat.le_trans q1.len l6
    obtain ⟨d, t2, f2, _, _, q2, v2⟩ := d66 t1 f1 k1
    have k2 := Nat.le_trans q2.len k1
    obtain ⟨f, t3, f3, _, q3, v3⟩ := d68 t2 f2 k2
    have k3 := Nat.le_trans q3.len k2
    obtain ⟨K, t4, f4, hK, _, q4, v4⟩ := d66 t3 f3 k3
    have k4 := Nat.le_trans q4.len k3
    obtain ⟨c, t5, f5, _, hz, q5, v5⟩ := d66 t4 f4 k4
    have k5 := Nat.le_trans q5.len k4
    have c6 := cnt_step (n := 300) (by decide) hz q5
    refine ⟨_, _, _, v1, ?_⟩
    refine ⟨fun h => absurd h (by decide), fun _ => ?_⟩
    refine ⟨_, _, _, v2, _, _, _, v3, _, _, _, v4, fun n l k => LI 32 (fun i => l = ints (keyBits K i)) n k, ⟨rfl, rfl, rfl, rfl, rfl, rfl, 32, LI.start rfl⟩, ?_⟩
    rintro _ _ _ ⟨z, rfl, hz32, rfl, rfl⟩
    refine ⟨fun hlt => ?_, fun hge => ?_⟩
    · have hlt : z < 32 := by have := of_decide_eq_true hlt; omega
      rintro n66 h66
      rw [wu64 (by omega) (by omega)] at h66
      subst h66
      refine ⟨by omega, ?_⟩
      rintro n21 h21 n22 h22
      have hd : K / 2 ^ z ≤ K := Nat.div_le_self _ _
      rw [sh1 K z hlt] at h21
      rw [← h21, show (1 : Int) = ((1 : Nat) : Int) from rfl, and64 _ _ (by omega) (by decide), and1] at h22
      have hd2 : K / 2 ^ z % 2 < 2 := Nat.mod_lt _ (by decide)
      subst h22
      have hs := keyBits_succ K z
      refine ⟨fun h => ?_, fun h => ?_⟩
      · have h : K / 2 ^ z % 2 = 1 := by have : ((K / 2 ^ z % 2 : Nat) : Int) = 1 := by simpa using h
                                         omega
        rw [if_pos h] at hs
        refine ⟨by have := keyBits_len K z; rw [ints_len]; simp only [List.length_cons, List.length_nil]; omega, ?_⟩
        intro m hm
        obtain ⟨g1, g2⟩ := LI.next (J := fun j => ints (keyBits K z) ++ [iD z] = ints (keyBits K j)) (by omega) hlt hm (by rw [hs]; simp [ints])
        exact ⟨rfl, rfl, rfl, rfl, rfl, rfl, _, g1, g2⟩
      · have h : ¬ K / 2 ^ z % 2 = 1 := by have : ¬ ((K / 2 ^ z % 2 : Nat) : Int) = 1 := by simpa using h
                                           omega
        rw [if_neg h] at hs
        intro m hm
        obtain ⟨g1, g2⟩ := LI.next (J := fun j => ints (keyBits K z) = ints (keyBits K j)) (by omega) hlt hm (by rw [hs])
        exact ⟨rfl, rfl, rfl, rfl, rfl, rfl, _, g1, g2⟩
    have hz2 : z = 32 := by have := of_decide_eq_false hge; omega
    subst hz2
    have more : ∀ {x : Bytes} {e' : Int} {off' : Bool} (tx : Bytes), Step (msgP1 name) s6 e6 false ⟨u, 1, d, ownB name u, f, keyBits K 32, tx⟩ x e' off' → Step (repP (msgP1 name) (j + 1)) s5 e5 false (ms ++ [⟨u, 1, d, ownB name u, f, keyBits K 32, tx⟩]) x e' off' := fun tx h => rep_app J3 h
    have fails : ∀ {x : Bytes} {e' : Int} {off' : Bool} (y : Int), Step (msgP1 name) s6 e6 false ⟨u, 1, d, ownB name u, f, keyBits K 32, []⟩ x e' off' → Dead y e' off' → boxP1 name t = .error y := fun y h hd => bad y _ _ _ [] (rep_any (more [] h) hd.good [] (by omega)) hd
    refine ⟨_, _, _, v5, ?_⟩
    rintro b76 h76
    refine ⟨fun h => ?_, fun h => ?_⟩
    · subst h
      have h : (c : Int) > 300 := by simp only [Bool.and_eq_true, decide_eq_true_eq] at h76; exact h76.2
      rw [fails (off' := true) 3 (q1.bind (q2.bind (q3.bind (q4.bind ((c6.1 h).kill rfl _))))) rfl]; exact end0 rfl rfl
    subst h
    have hc : ¬ (c : Int) > 300 := fun hk => by
      have : f5 ≠ 0 := fun h0 => by subst h0; simp at h76; omega
      have := hz this; omega
    have q6 := c6.2 hc
    rw [bs_len]
    rintro b77 h77
    refine ⟨fun h => ?_, fun h => ?_⟩
    · subst h
      simp only [Bool.and_eq_true, beq_iff_eq, decide_eq_true_eq, nI] at h77
      obtain ⟨rfl, h77⟩ := h77
      refine ⟨_, _, d69 t5 2, fun _ => ?_, fun h => absurd h (by decide)⟩
      rw [fails 2 (q1.bind (q2.bind (q3.bind (q4.bind (q6.bind ((str_er (Int.toNat c) t5 [] (by omega)).kill rfl _)))))) ⟨rfl, by decide⟩]; exact end0 rfl rfl
    subst h
    refine ⟨fun h => ?_, fun h => ?_⟩
    · have h : f5 ≠ 0 := by simpa using h
      rw [fails f5 (q1.bind (q2.bind (q3.bind (q4.bind (q6.kill (by simp [h]) _))))) ⟨rfl, h⟩]; exact end0 rfl rfl
    have h : f5 = 0 := by simpa using h
    subst h
    have hcl : c ≤ t5.length := by
      simp only [beq_self_eq_true, Bool.true_and, decide_eq_false_iff_not, nI] at h77; omega
    refine ⟨⟨by simp [nI], by simp only [nI]; omega, by simp only [nI]; omega⟩, ?_⟩
    rintro _ rfl
    refine ⟨t5.take c, by rw [bs_take, Int.toNat_natCast]; rfl, ⟨by omega, by simp only [nI]; omega, Int.le_refl _⟩, ?_⟩
    rintro _ rfl
    refine ⟨_, r26 name u (by omega) hn, by rw [List.length_map]; simp only [List.length_cons, List.length_nil]; omega, ?_⟩
    intro m hm
    obtain ⟨g1, g2, g3⟩ := LI.nx (by omega) hlt hm
    have st := more (t5.take c) (q1.bind (q2.bind (q3.bind (q4.bind (q6.bind ((str_ok (Int.toNat c) t5 false (by omega)).bind (Step.pure _ _ _ _)))))))
    have hkl := keyBits_len K 32
    refine ⟨rfl, rfl, rfl, rfl, rfl, _, g1, j + 1, t5.drop c, ms ++ [⟨u, 1, d, ownB name u, f, keyBits K 32, t5.take c⟩], g2, g3, rfl, by rw [bs_drop, Int.toNat_natCast], by rw [List.map_append]; rfl, by simp; omega, ?_, st⟩
    intro w hw
    rcases List.mem_append.1 hw with hw | hw
    · exact J2 w hw
    · rw [List.mem_singleton.1 hw]; exact ⟨own_len _ _ hn (by omega), hkl, by simp only [List.length_take]; omega⟩
  have hjk : j = k := by have := of_decide_eq_false hge; omega
  subst hjk
  refine ⟨fun h => ?_, fun h => ?_⟩
  · have h : e6 ≠ 0 := by simpa using h
    rw [bad e6 e6 false s6 ms J3 ⟨rfl, h⟩]; exact end0 rfl rfl
  have h : e6 = 0 := by simpa using h
  subst h
  have st : Step (boxP1 name) t 0 false (⟨name, v, nx, 1, ws, ms⟩ : Box) s6 0 false := p1.bind (p2.bind (p3.bind (I3.bind (p5.bind (J3.bind (Step.pure _ _ _ _))))))
  obtain ⟨_, _, hok⟩ := st.ok rfl rfl
  have hok : boxP1 name t = .ok (⟨name, v, nx, 1, ws, ms⟩, s6) := hok
  rw [hok]
  have sm : BoxSm ⟨name, v, nx, 1, ws, ms⟩ := ⟨hn, by simp only; omega, by simp only; omega, I2, J2⟩
  refine ⟨mayBox ⟨name, v, nx, 1, ws, ms⟩, fun _ => r16 ⟨name, v, nx, 1, ws, ms⟩ sm.ok, ?_⟩
  rw [bs_len]
  rintro b133 h133
  have e1 : b133 = !(decide (s6 = [] ∧ mayBox ⟨name, v, nx, 1, ws, ms⟩ = 0)) := by
    rw [← h133]
    cases s6 with
    | nil =>
      by_cases hm : mayBox ⟨name, v, nx, 1, ws, ms⟩ = 0
      · simp [hm, nI]
      · simp [hm, nI]
    | cons c r => simp [nI] <;> omega
  rw [e1]
  refine ⟨fun h => ?_, fun h => ?_⟩
  · have h : ¬ (s6 = [] ∧ mayBox ⟨name, v, nx, 1, ws, ms⟩ = 0) := fun q => (by rw [decide_eq_true q] at h; cases h)
    simp only [if_neg h]
    exact end0 rfl rfl
  · have h : s6 = [] ∧ mayBox ⟨name, v, nx, 1, ws, ms⟩ = 0 := by simpa using h
    simp only [if_pos h]
    exact end0 rfl rfl

/-! ### form 2 -/
theorem r65_2 (s : Bytes) : Runs P 65 [.d (.slice 1 (bs s)), .d (.int .i64 2)] [] (.d (.bool (preB s [77, 66, 50]))) [] := by
  refine runs_walkA t65 rfl (vc65 _ _ _ _) (by simp) ?_
  rw [bs_len]
  refine ⟨fun h => ?_, ?_⟩
  · have h := of_decide_eq_true h
    simp only [nI] at h ⊢
    omega
  rintro _ rfl
  have e0 : Lib.itoa 2 = [50] := by decide +kernel
  refine ⟨s.take 3, fun _ => by rw [bs_take]; rfl, [50], fun _ => by have := r57 2 (by omega) (by omega); rwa [e0] at this, fun _ => by decide, ?_⟩
  rintro _ rfl _ rfl
  refine endB ?_
  unfold preB
  have : (decide (nI s.length ≥ 3)) = decide (3 ≤ s.length) := by
    simp only [nI]; exact decide_eq_decide.2 (by omega)
  rw [this]; simp
theorem r23_2 (b : Box) (hb : BoxOk b) : Runs P 23 [.d (.int .i64 2), .d b.d] [] (resB 2 b) [] := by
  refine runs_walkA t23 rfl (vc23 _ _ _ _ _ _ _ _ _) (by simp) ?_
  rw [nI_map]
  refine ⟨_, r16 b hb, fun h => ?_, fun h => ?_⟩
  · have h : ¬ mayBox b = 0 := by simpa using h
    unfold resB; rw [if_neg h, if_neg h]
    exact endT
  have h : mayBox b = 0 := by simpa using h
  have hm := boxMay.1 h
  rw [resB_ok h]
  have hk : kept b ≤ b.words.length := Nat.min_le_left _ _
  have hnw := hm.nw
  have hnm := hm.nm
  have e0 : Lib.itoa 2 = [50] := by decide +kernel
  refine ⟨[50], by have := r57 2 (by omega) (by omega); rwa [e0] at this, by decide, ?_⟩
  rintro _ rfl
  refine ⟨by decide, _, r56 ([77, 66] ++ [50]) b.valid (by simp), _, r56 _ b.next (by simp only [List.length_append, fix_len, List.length_cons, List.length_nil]; omega), ?_⟩
  refine ⟨fun _ => ?_, fun h => absurd h (by decide)⟩
  refine ⟨_, r56 _ _ (by simp only [List.length_append, fix_len, List.length_cons, List.length_nil]; omega), ?_⟩
  rintro n13 h13
  have h13 : n13 = (kept b : Int) := by
    rw [← h13, mmI_f]; unfold kept; simp only [nI, strs_len]; omega
  subst h13
  refine ⟨⟨by simp [nI], by simp [nI], by rw [strs_len]; simp only [nI]; omega⟩, ?_⟩
  rintro _ rfl
  rw [take_kept, strs_len]
  have hkl : (b.words.take (kept b)).length = kept b := by rw [List.length_take]; omega
  rw [hkl]
  refine ⟨_, r56 _ _ (by simp only [List.length_append, fix_len, List.length_cons, List.length_nil]; omega), ?_⟩
  have e1 : [77, 66] ++ [50] ++ fixB b.valid ++ fixB b.next ++ fixB b.high ++ fixB (nI (kept b)) = headF 2 b := by unfold headF; simp [nI]
  rw [e1]
  have l1 := headF_len 2 b
  have hkn : nI (kept b) = nI (b.words.take (kept b)).length := by rw [hkl]
  rw [hkn]
  refine range2 (fun i l => l = bs (headF 2 b ++ ((b.words.take (kept b)).take i).flatMap txtB)) (by rw [List.length_take]; omega) (by simp) (fun i hi bd l hJ I k next => ⟨bd, ?_⟩) fun l hJ => ?_
  · subst hJ
    have l2 := wordsF_len hm i
    have l3 := atom_len (words_all hm.words _ (List.mem_of_mem_take (List.getElem_mem hi)))
    refine ⟨(b.words.take (kept b))[i], by rw [strs_get _ hi]; rfl, _, r58 _ _ (by rw [List.length_append]; omega), next _ ?_⟩
    rw [flat_take txtB _ hi, List.append_assoc]
  · rw [List.take_length] at hJ
    subst hJ
    have l2 := wordsF_len hm (b.words.take (kept b)).length
    rw [List.take_length] at l2
    have l2 : (wordsF b).length ≤ 2000 := l2
    refine ⟨_, r56 (headF 2 b ++ wordsF b) (nI b.msgs.length) (by rw [List.length_append]; omega), ?_⟩
    have l3 : (headF 2 b ++ wordsF b ++ fixB b.msgs.length).length ≤ 2100 := by rw [List.length_append, List.length_append, fix_len]; omega
    refine range2 (fun i l => l = bs (headF 2 b ++ wordsF b ++ fixB b.msgs.length ++ (b.msgs.take i).flatMap (msgF 2))) (by omega) (by simp [nI]) (fun i hi bd l hJ I k next => ⟨bd, ?_⟩) fun l hJ => ?_
    · subst hJ
      have l4 := msgsF_len hm 2 i
      have mm := (msgs_all hm.msgs _ (List.getElem_mem hi)).1
      have mt := mm.text
      have mk := mm.keyLen
      generalize headF 2 b ++ wordsF b ++ fixB b.msgs.length = pre at *
      obtain ⟨q, hq⟩ : ∃ q, q = (b.msgs.take i).flatMap (msgF 2) := ⟨_, rfl⟩
      rw [← hq] at l4 ⊢
      refine ⟨_, _, _, _, _, _, _, by rw [msgs_get _ hi]; rfl, _, r56 _ _ (by rw [List.length_append]; omega), ?_⟩
      refine ⟨fun _ => ?_, fun h => absurd h (by decide)⟩
      refine ⟨_, r56 _ _ (by simp only [List.length_append, fix_len]; omega), _, r56 _ _ (by simp only [List.length_append, fix_len]; omega), ?_⟩
      rintro _ rfl
      rw [u8D]
      refine ⟨by rw [bs_len]; simp only [List.length_append, List.length_cons, List.length_nil, fix_len]; omega, _, r59 _ (fun k hk => (mm.key0 k hk).1) (by omega), ?_⟩
      rw [show ([byteD (by8 b.msgs[i].flags)] : List D) = bs [by8 b.msgs[i].flags] from rfl, ← bs_app]
      refine ⟨_, r56 _ _ (by simp only [List.length_append, fix_len, List.length_cons, List.length_nil]; omega), _, r56 _ _ (by simp only [List.length_append, fix_len, List.length_cons, List.length_nil]; omega), by rw [bs_len, List.length_map]; simp only [List.length_append, List.length_cons, List.length_nil, fix_len]; omega, next _ ?_⟩
      rw [flat_take (msgF 2) _ hi, ← hq]
      rw [show List.map byteD b.msgs[i].text = bs b.msgs[i].text from rfl, ← bs_app]
      congr 1
      unfold msgF
      simp [nI]
    · rw [List.take_length] at hJ
      subst hJ
      exact endT
theorem r25_2 (s name : Bytes) (hn : name.length ≤ 1099511627776) (hs : s.length ≤ 1099511627776) : Runs P 25 [.d (.int .i64 2), .d (.slice 1 (bs s)), .d (.str name)] [] (resP (parseP (boxP2 name) [77, 66, 50] s)) [] := by
  refine runs_walkA t25 rfl (vc25 _ _ _ _ _) (by simp) ?_
  refine ⟨_, r65_2 s, fun h => ?_, fun h => ?_⟩
  · have hp : preB s [77, 66, 50] = false := by simpa using h
    have er : parseP (boxP2 name) [77, 66, 50] s = .error 3 := by unfold parseP; rw [hp]; rfl
    rw [er]; exact end0 rfl rfl
  have hp : preB s [77, 66, 50] = true := by simpa using h
  have hl3 : 3 ≤ s.length := by
    unfold preB at hp; simp only [Bool.and_eq_true, decide_eq_true_eq] at hp; exact hp.1
  rw [bs_len]
  refine ⟨⟨by omega, by simp only [nI]; omega, Int.le_refl _⟩, ?_⟩
  rintro _ rfl
  have hdr := bs_drop s (3 : Int)
  rw [hdr]
  obtain ⟨t, ht⟩ : ∃ t, t = s.drop 3 := ⟨_, rfl⟩
  rw [show s.drop (Int.toNat 3) = t from ht.symm]
  have lt : t.length ≤ 1099511627776 := by rw [ht, List.length_drop]; omega
  have er : parseP (boxP2 name) [77, 66, 50] s = match boxP2 name t with
    | .error x => .error x
    | .ok (b, r) => if r = [] ∧ mayBox b = 0 then .ok b else .error 3 := by unfold parseP; rw [if_pos hp, ht]; rfl
  rw [er]
  obtain ⟨v, s1, e1, _, _, p1, w1⟩ := d66 t 0 lt
  have l1 := Nat.le_trans p1.len lt
  obtain ⟨nx, s2, e2, _, _, p2, w2⟩ := d66 s1 e1 l1
  have l2 := Nat.le_trans p2.len l1
  obtain ⟨hh, s2', e2', _, _, p2', w2'⟩ := d66 s2 e2 l2
  have l2 := Nat.le_trans p2'.len l2
  obtain ⟨n, s3, e3, _, hz3, p3, w3⟩ := d66 s2' e2' l2
  have l3 := Nat.le_trans p3.len l2
  have c3 := cnt_step (n := 32) (by decide) hz3 p3
  refine ⟨_, _, _, w1, _, _, _, w2, ?_⟩
  refine ⟨fun _ => ?_, fun h => absurd h (by decide)⟩
  refine ⟨_, _, _, w2', _, _, _, w3, fun h => ?_, fun h => ?_⟩
  · have h := of_decide_eq_true h
    have st : Step (boxP2 name) t 0 false ⟨[], 0, 0, 0, [], []⟩ s3 e3 true := p1.bind (p2.bind ((p2'.bind ((c3.1 h).kill rfl (⟨[], 0, 0, 0, [], []⟩ : Box)))))
    have hb := st.er (dead3 _)
    rw [hb]; exact end0 rfl rfl
  have hn32 := not_gt h
  have p3 := c3.2 hn32
  refine ⟨fun m a l e' k => ∃ (i : Nat) (x : Bytes) (ws : List Bytes), m = i ∧ i ≤ n ∧ k = n - i ∧ l = bs x ∧ a = strs ws ∧ ws.length ≤ i ∧ (∀ w ∈ ws, w.length ≤ 24) ∧ Step (repP (textP 24) i) s3 e3 false ws x e' false, ⟨rfl, rfl, rfl, rfl, rfl, n, 0, s3, [], rfl, Nat.zero_le _, rfl, rfl, rfl, Nat.le_refl _, by simp, Step.pure [] s3 e3 false⟩, ?_⟩
  rintro _ _ _ e4 _ ⟨i, s4, ws, rfl, hi, rfl, rfl, rfl, I1, I2, I3⟩
  have l4 := Nat.le_trans I3.len l3
  refine ⟨fun hlt => ?_, fun hge => ?_⟩
  · have hlt : i < n := by have := of_decide_eq_true hlt; omega
    obtain ⟨a, s', e', q1, q2, q3⟩ := d67 s4 e4 24 l4
    refine ⟨_, _, _, q3, by rw [strs_len]; simp only [List.length_cons, List.length_nil]; omega, ?_⟩
    intro m hm
    obtain ⟨g1, g2, g3⟩ := LI.nx (by omega) hlt hm
    refine ⟨rfl, rfl, rfl, rfl, rfl, _, g1, i + 1, s', ws ++ [a], g2, g3, rfl, rfl, by simp [strs], by simp; omega, ?_, rep_app I3 q2⟩
    intro w hw
    rcases List.mem_append.1 hw with hw | hw
    · exact I2 w hw
    · rw [List.mem_singleton.1 hw]; omega
  have hin : i = n := by have := of_decide_eq_false hge; omega
  subst hin
  obtain ⟨k, s5, e5, _, hz5, p5, w5⟩ := d66 s4 e4 l4
  have l5 := Nat.le_trans p5.len l4
  have c5 := cnt_step (n := 60) (by decide) hz5 p5
  refine ⟨_, _, _, w5, ?_⟩
  rintro b32 h32
  refine ⟨fun h => ?_, fun h => ?_⟩
  · subst h
    have h : (k : Int) > 60 := by simp only [Bool.and_eq_true, decide_eq_true_eq] at h32; exact h32.2
    have st : Step (boxP2 name) t 0 false ⟨[], 0, 0, 0, [], []⟩ s5 e5 true := p1.bind (p2.bind ((p2'.bind (p3.bind (I3.bind ((c5.1 h).kill rfl (⟨[], 0, 0, 0, [], []⟩ : Box)))))))
    have hb := st.er (dead3 _)
    rw [hb]; exact end0 rfl rfl
  subst h
  have hk60 : ¬ (k : Int) > 60 := fun hk => by
    have : e5 ≠ 0 := fun h0 => by subst h0; simp at h32; omega
    have := hz5 this; omega
  have p5 := c5.2 hk60
  refine ⟨fun m l e' _ _ _ _ _ _ ms j => ∃ (i : Nat) (x : Bytes) (l' : List Msg), m = i ∧ i ≤ k ∧ j = k - i ∧ l = bs x ∧ ms = l'.map Msg.d ∧ l'.length ≤ i ∧ (∀ w ∈ l', MsgSm w) ∧ Step (repP (msgP2 name) i) s5 e5 false l' x e' false, ⟨rfl, rfl, rfl, rfl, rfl, k, 0, s5, [], rfl, Nat.zero_le _, rfl, rfl, rfl, Nat.le_refl _, by simp, Step.pure [] s5 e5 false⟩, ?_⟩
  rintro _ _ e6 _ _ _ _ _ _ _ _ ⟨j, s6, ms, rfl, hj, rfl, rfl, rfl, J1, J2, J3⟩
  have l6 := Nat.le_trans J3.len l5
  have bad : ∀ (x e' : Int) (off' : Bool) (y : Bytes) (ms' : List Msg) , Step (repP (msgP2 name) k) s5 e5 false ms' y e' off' → Dead x e' off' → boxP2 name t = .error x := fun x e' off' y ms' hst hd =>
    have st : Step (boxP2 name) t 0 false (⟨name, v, nx, hh, ws, ms'⟩ : Box) y e' off' := p1.bind (p2.bind ((p2'.bind (p3.bind (I3.bind (p5.bind (hst.bind (Step.pure _ _ _ _))))))))
    st.er hd
  refine ⟨fun hlt => ?_, fun hge => ?_⟩
  · have hlt : j < k := by have := of_decide_eq_true hlt; omega
    obtain ⟨u, t1, f1, hu, _, q1, v1⟩ := d66 s6 e6 l6
    have k1 := Nat.le_trans q1.len l6
    obtain ⟨md, t1', f1', _, _, q1', v1'⟩ := d66 t1 f1 k1
    have k1 := Nat.le_trans q1'.len k1
    obtain ⟨d, t2, f2, _, _, q2, v2⟩ := d66 t1' f1' k1
    have k2 := Nat.le_trans q2.len k1
    obtain ⟨f, t3, f3, _, q3, v3⟩ := d68 t2 f2 k2
    have k3 := Nat.le_trans q3.len k2
    obtain ⟨K, t4, f4, hK, _, q4, v4⟩ := d66 t3 f3 k3
    have k4 := Nat.le_trans q4.len k3
    obtain ⟨c, t5, f5, _, hz, q5, v5⟩ := d66 t4 f4 k4
    have k5 := Nat.le_trans q5.len k4
    have c6 := cnt_step (n := 300) (by decide) hz q5
    refine ⟨_, _, _, v1, ?_⟩
    refine ⟨fun _ => ?_, fun h => absurd h (by decide)⟩
    refine ⟨_, _, _, v1', _, _, _, v2, _, _, _, v3, _, _, _, v4, fun n l k => LI 32 (fun i => l = ints (keyBits K i)) n k, ⟨rfl, rfl, rfl, rfl, rfl, rfl, 32, LI.start rfl⟩, ?_⟩
    rintro _ _ _ ⟨z, rfl, hz32, rfl, rfl⟩
    refine ⟨fun hlt => ?_, fun hge => ?_⟩
    · have hlt : z < 32 := by have := of_decide_eq_true hlt; omega
      rintro n66 h66
      rw [wu64 (by omega) (by omega)] at h66
      subst h66
      refine ⟨by omega, ?_⟩
      rintro n21 h21 n22 h22
      have hd : K / 2 ^ z ≤ K := Nat.div_le_self _ _
      rw [sh1 K z hlt] at h21
      rw [← h21, show (1 : Int) = ((1 : Nat) : Int) from rfl, and64 _ _ (by omega) (by decide), and1] at h22
      have hd2 : K / 2 ^ z % 2 < 2 := Nat.mod_lt _ (by decide)
      subst h22
      have hs := keyBits_succ K z
      refine ⟨fun h => ?_, fun h => ?_⟩
      · have h : K / 2 ^ z % 2 = 1 := by have : ((K / 2 ^ z % 2 : Nat) : Int) = 1 := by simpa using h
                                         omega
        rw [if_pos h] at hs
        refine ⟨by have := keyBits_len K z; rw [ints_len]; simp only [List.length_cons, List.length_nil]; omega, ?_⟩
        intro m hm
        obtain ⟨g1, g2⟩ := LI.next (J := fun j => ints (keyBits K z) ++ [iD z] = ints (keyBits K j)) (by omega) hlt hm (by rw [hs]; simp [ints])
        exact ⟨rfl, rfl, rfl, rfl, rfl, rfl, _, g1, g2⟩
      · have h : ¬ K / 2 ^ z % 2 = 1 := by have : ¬ ((K / 2 ^ z % 2 : Nat) : Int) = 1 := by simpa using h
                                           omega
        rw [if_neg h] at hs
        intro m hm
        obtain ⟨g1, g2⟩ := LI.next (J := fun j => ints (keyBits K z) = ints (keyBits K j)) (by omega) hlt hm (by rw [hs])
        exact ⟨rfl, rfl, rfl, rfl, rfl, rfl, _, g1, g2⟩
    have hz2 : z = 32 := by have := of_decide_eq_false hge; omega
    subst hz2
    have more : ∀ {x : Bytes} {e' : Int} {off' : Bool} (tx : Bytes), Step (msgP2 name) s6 e6 false ⟨u, md, d, ownB name u, f, keyBits K 32, tx⟩ x e' off' → Step (repP (msgP2 name) (j + 1)) s5 e5 false (ms ++ [⟨u, md, d, ownB name u, f, keyBits K 32, tx⟩]) x e' off' := fun tx h => rep_app J3 h
    have fails : ∀ {x : Bytes} {e' : Int} {off' : Bool} (y : Int), Step (msgP2 name) s6 e6 false ⟨u, md, d, ownB name u, f, keyBits K 32, []⟩ x e' off' → Dead y e' off' → boxP2 name t = .error y := fun y h hd => bad y _ _ _ [] (rep_any (more [] h) hd.good [] (by omega)) hd
    refine ⟨_, _, _, v5, ?_⟩
    rintro b76 h76
    refine ⟨fun h => ?_, fun h => ?_⟩
    · subst h
      have h : (c : Int) > 300 := by simp only [Bool.and_eq_true, decide_eq_true_eq] at h76; exact h76.2
      rw [fails (off' := true) 3 (q1.bind ((q1'.bind (q2.bind (q3.bind (q4.bind ((c6.1 h).kill rfl _))))))) rfl]; exact end0 rfl rfl
    subst h
    have hc : ¬ (c : Int) > 300 := fun hk => by
      have : f5 ≠ 0 := fun h0 => by subst h0; simp at h76; omega
      have := hz this; omega
    have q6 := c6.2 hc
    rw [bs_len]
    rintro b77 h77
    refine ⟨fun h => ?_, fun h => ?_⟩
    · subst h
      simp only [Bool.and_eq_true, beq_iff_eq, decide_eq_true_eq, nI] at h77
      obtain ⟨rfl, h77⟩ := h77
      refine ⟨_, _, d69 t5 2, fun _ => ?_, fun h => absurd h (by decide)⟩
      rw [fails 2 (q1.bind ((q1'.bind (q2.bind (q3.bind (q4.bind (q6.bind ((str_er (Int.toNat c) t5 [] (by omega)).kill rfl _)))))))) ⟨rfl, by decide⟩]; exact end0 rfl rfl
    subst h
    refine ⟨fun h => ?_, fun h => ?_⟩
    · have h : f5 ≠ 0 := by simpa using h
      rw [fails f5 (q1.bind ((q1'.bind (q2.bind (q3.bind (q4.bind (q6.kill (by simp [h]) _))))))) ⟨rfl, h⟩]; exact end0 rfl rfl
    have h : f5 = 0 := by simpa using h
    subst h
    have hcl : c ≤ t5.length := by
      simp only [beq_self_eq_true, Bool.true_and, decide_eq_false_iff_not, nI] at h77; omega
    refine ⟨⟨by simp [nI], by simp only [nI]; omega, by simp only [nI]; omega⟩, ?_⟩
    rintro _ rfl
    refine ⟨t5.take c, by rw [bs_take, Int.toNat_natCast]; rfl, ⟨by omega, by simp only [nI]; omega, Int.le_refl _⟩, ?_⟩
    rintro _ rfl
    refine ⟨_, r26 name u (by omega) hn, by rw [List.length_map]; simp only [List.length_cons, List.length_nil]; omega, ?_⟩
    intro m hm
    obtain ⟨g1, g2, g3⟩ := LI.nx (by omega) hlt hm
    have st := more (t5.take c) (q1.bind ((q1'.bind (q2.bind (q3.bind (q4.bind (q6.bind ((str_ok (Int.toNat c) t5 false (by omega)).bind (Step.pure _ _ _ _)))))))))
    have hkl := keyBits_len K 32
    refine ⟨rfl, rfl, rfl, rfl, rfl, _, g1, j + 1, t5.drop c, ms ++ [⟨u, md, d, ownB name u, f, keyBits K 32, t5.take c⟩], g2, g3, rfl, by rw [bs_drop, Int.toNat_natCast], by rw [List.map_append]; rfl, by simp; omega, ?_, st⟩
    intro w hw
    rcases List.mem_append.1 hw with hw | hw
    · exact J2 w hw
    · rw [List.mem_singleton.1 hw]; exact ⟨own_len _ _ hn (by omega), hkl, by simp only [List.length_take]; omega⟩
  have hjk : j = k := by have := of_decide_eq_false hge; omega
  subst hjk
  refine ⟨fun h => ?_, fun h => ?_⟩
  · have h : e6 ≠ 0 := by simpa using h
    rw [bad e6 e6 false s6 ms J3 ⟨rfl, h⟩]; exact end0 rfl rfl
  have h : e6 = 0 := by simpa using h
  subst h
  have st : Step (boxP2 name) t 0 false (⟨name, v, nx, hh, ws, ms⟩ : Box) s6 0 false := p1.bind (p2.bind ((p2'.bind (p3.bind (I3.bind (p5.bind (J3.bind (Step.pure _ _ _ _))))))))
  obtain ⟨_, _, hok⟩ := st.ok rfl rfl
  have hok : boxP2 name t = .ok (⟨name, v, nx, hh, ws, ms⟩, s6) := hok
  rw [hok]
  have sm : BoxSm ⟨name, v, nx, hh, ws, ms⟩ := ⟨hn, by simp only; omega, by simp only; omega, I2, J2⟩
  refine ⟨mayBox ⟨name, v, nx, hh, ws, ms⟩, fun _ => r16 ⟨name, v, nx, hh, ws, ms⟩ sm.ok, ?_⟩
  rw [bs_len]
  rintro b133 h133
  have e1 : b133 = !(decide (s6 = [] ∧ mayBox ⟨name, v, nx, hh, ws, ms⟩ = 0)) := by
    rw [← h133]
    cases s6 with
    | nil =>
      by_cases hm : mayBox ⟨name, v, nx, hh, ws, ms⟩ = 0
      · simp [hm, nI]
      · simp [hm, nI]
    | cons c r => simp [nI] <;> omega
  rw [e1]
  refine ⟨fun h => ?_, fun h => ?_⟩
  · have h : ¬ (s6 = [] ∧ mayBox ⟨name, v, nx, hh, ws, ms⟩ = 0) := fun q => (by rw [decide_eq_true q] at h; cases h)
    simp only [if_neg h]
    exact end0 rfl rfl
  · have h : s6 = [] ∧ mayBox ⟨name, v, nx, hh, ws, ms⟩ = 0 := by simpa using h
    simp only [if_pos h]
    exact end0 rfl rfl

theorem r5 (b : Box) (hb : BoxIn b) (s id : Bytes) : Runs P 5 [.d b.d, .d (.slice 1 (bs s)), .d (.str id)] [] (.d (.bool true)) [] := by
  refine runs_walkA t5 rfl (vc5 _ _ _ _ _ _ _ _ _ _) (by simp) ?_
  rw [bs_len]
  refine ⟨_, r15 b hb.sz, ?_⟩
  rintro b9 h9 b10 h10
  refine ⟨fun h => ⟨true, r17, endB rfl⟩, fun h => ?_⟩
  subst h
  simp only [Bool.or_eq_false_iff, decide_eq_false_iff_not, nI] at h10
  obtain ⟨rfl, hid⟩ := h10
  simp only [Bool.or_eq_false_iff, decide_eq_false_iff_not, nI] at h9
  have hs : s.length ≤ 1099511627776 := by omega
  have hi : id.length ≤ 1099511627776 := by omega
  have w18 := r18 b hb.ok
  have w23 := r23_1 b hb.ok
  have w24 := r24 s id hi hs
  have w25 := r25_1 s id hi hs
  unfold resB at w18 w23
  obtain ⟨q, x, hq, hqo⟩ : ∃ (q : Box) (x : Int), resP (parseP (boxP1 id) [77, 66, 49] s) = .tup [.d q.d, .d (.int .i64 x)] ∧ BoxOk q := by
    cases h : parseP (boxP1 id) [77, 66, 49] s with
    | error x => exact ⟨box00, x, rfl, ⟨by decide, by decide, by decide, by simp [box00], by simp [box00]⟩⟩
    | ok q => exact ⟨q, 0, rfl, parse_isOk h⟩
  rw [hq] at w24 w25
  refine ⟨_, _, w18, _, _, w23, _, _, _, _, _, _, _, w24, _, _, _, _, _, _, _, w25, _, rfl, _, rfl, ?_⟩
  rintro _ rfl
  refine ⟨_, fun _ => r20 q q hqo, ?_⟩
  rintro _ rfl _ rfl
  refine ⟨true, fun _ => r17, ?_⟩
  rintro _ rfl
  have : sameB q q = true := sameB_iff.2 rfl
  exact endB (by rw [this]; simp)

theorem r8 (b : Box) (hb : BoxIn b) (s id : Bytes) : Runs P 8 [.d b.d, .d (.slice 1 (bs s)), .d (.str id)] [] (.d (.bool true)) [] := by
  refine runs_walkA t8 rfl (vc8 _ _ _ _ _ _ _ _ _ _) (by simp) ?_
  rw [bs_len]
  refine ⟨_, r15 b hb.sz, ?_⟩
  rintro b9 h9 b10 h10
  refine ⟨fun h => ⟨true, r21, endB rfl⟩, fun h => ?_⟩
  subst h
  simp only [Bool.or_eq_false_iff, decide_eq_false_iff_not, nI] at h10
  obtain ⟨rfl, hid⟩ := h10
  simp only [Bool.or_eq_false_iff, decide_eq_false_iff_not, nI] at h9
  have hs : s.length ≤ 1099511627776 := by omega
  have hi : id.length ≤ 1099511627776 := by omega
  have w22 := r22 b hb.ok
  have w23 := r23_2 b hb.ok
  have w27 := r27 s id hi hs
  have w25 := r25_2 s id hi hs
  unfold resB at w22 w23
  obtain ⟨q, x, hq, hqo⟩ : ∃ (q : Box) (x : Int), resP (parseP (boxP2 id) [77, 66, 50] s) = .tup [.d q.d, .d (.int .i64 x)] ∧ BoxOk q := by
    cases h : parseP (boxP2 id) [77, 66, 50] s with
    | error x => exact ⟨box00, x, rfl, ⟨by decide, by decide, by decide, by simp [box00], by simp [box00]⟩⟩
    | ok q => exact ⟨q, 0, rfl, parse_isOk h⟩
  rw [hq] at w27 w25
  refine ⟨_, _, w22, _, _, w23, _, _, _, _, _, _, _, w27, _, _, _, _, _, _, _, w25, _, rfl, _, rfl, ?_⟩
  rintro _ rfl
  refine ⟨_, fun _ => r20 q q hqo, ?_⟩
  rintro _ rfl _ rfl
  refine ⟨true, fun _ => r21, ?_⟩
  rintro _ rfl
  have : sameB q q = true := sameB_iff.2 rfl
  exact endB (by rw [this]; simp)
end B
end Go.Proofs.YtmkkljbfmdngfaaDoor
