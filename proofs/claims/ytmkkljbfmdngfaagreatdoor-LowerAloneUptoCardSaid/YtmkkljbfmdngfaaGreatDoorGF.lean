/- The readers of forms, on data: counts, texts, messages, boxes. Printed by f12.py. No condition. -/
import Derived.Test.YtmkkljbfmdngfaaGreatDoorG2
set_option linter.all false
namespace Go.Proofs.YtmkkljbfmdngfaaGreatDoor
namespace B
open Go.RowKit

theorem chain {X : Type} (N : Nat) (I : Nat → X → Prop) (R : Nat → X → X → Prop) (x0 : X) (h0 : I 0 x0) (hs : ∀ i x, i < N → I i x → ∃ y, R i x y ∧ I (i + 1) y) :
    ∃ xs : Nat → X, xs 0 = x0 ∧ (∀ i, i < N → R i (xs i) (xs (i + 1))) ∧ ∀ i, i ≤ N → I i (xs i) := by
  classical
  let f : Nat → X → X := fun i x => if h : i < N ∧ I i x then Classical.choose (hs i x h.1 h.2) else x
  let xs : Nat → X := fun n => Nat.rec x0 (fun i x => f i x) n
  have hf : ∀ i x, i < N → I i x → R i x (f i x) ∧ I (i + 1) (f i x) := fun i x h1 h2 => by
    have : f i x = Classical.choose (hs i x h1 h2) := dif_pos ⟨h1, h2⟩
    rw [this]; exact Classical.choose_spec (hs i x h1 h2)
  have hI : ∀ i, i ≤ N → I i (xs i) := by
    intro i
    induction i with
    | zero => exact fun _ => h0
    | succ i ih => exact fun h => (hf i (xs i) (by omega) (ih (by omega))).2
  exact ⟨xs, rfl, fun i h => (hf i (xs i) h (hI i (by omega))).1, hI⟩
def strP (n : Nat) : Rd Bytes := fun s => if s.length < n then .error 2 else .ok (s.take n, s.drop n)
theorem str_step {i : Nat} {s : Bytes} {e : Int} {off : Bool} {a s1 : Bytes} {e1 : Int} {v : Nat} {s2 : Bytes} {e2 : Int} (h : Step (strP i) s e off a s1 e1 off) (hb : Step byteP s1 e1 off (v : Int) s2 e2 off) :
    Step (strP (i + 1)) s e off (if e2 = 0 then a ++ [UInt8.ofNat v] else a) s2 e2 off := by
  refine ⟨fun he ho => ?_, fun x hx => hb.dead x (h.dead x hx), Nat.le_trans hb.len h.len⟩
  rcases h.live he ho with ⟨a0, r, q1, rfl, rfl, q2, q3⟩ | ⟨x, q1, q2⟩
  · unfold strP at q1
    split at q1
    · cases q1
    rename_i hl
    obtain ⟨rfl, rfl⟩ : s.take i = a ∧ s.drop i = s1 := by simpa using q1
    rcases hb.live q2 q3 with ⟨b0, r, p1, p2, rfl, p4, p5⟩ | ⟨x, p1, p2⟩
    · unfold byteP bytesP at p1
      split at p1
      · cases p1
      rename_i hl2
      have hi : i < s.length := by rw [List.length_drop] at hl2; omega
      obtain ⟨p6, p7⟩ : (beV ((s.drop i).take 1) : Int) = b0 ∧ (s.drop i).drop 1 = s2 := by simpa using p1
      refine .inl ⟨s.take (i + 1), s.drop (i + 1), ?_, ?_, ?_, p4, p5⟩
      · unfold strP; rw [if_neg (by omega)]
      · rw [if_pos p4, List.take_succ_eq_append_getElem hi]
        congr 2
        have e0 : (s.drop i).take 1 = [s[i]] := by rw [drop_cons hi]; rfl
        have e1 : beV ((s.drop i).take 1) = s[i].toNat := by rw [e0]; simp [beV]
        have : v = s[i].toNat := by omega
        rw [this]; simp
      · rw [← p7, List.drop_drop]
    · have hx : x = 2 ∧ s.length < i + 1 := by
        unfold byteP bytesP at p1
        split at p1
        · rename_i hl2
          rw [List.length_drop] at hl2
          cases p1; exact ⟨rfl, by omega⟩
        · cases p1
      obtain ⟨rfl, hx⟩ := hx
      exact .inr ⟨2, by unfold strP; rw [if_pos hx], p2⟩
  · have hx : x = 2 ∧ s.length < i := by
      unfold strP at q1
      split at q1
      · cases q1; exact ⟨rfl, by assumption⟩
      · cases q1
    obtain ⟨rfl, hx⟩ := hx
    exact .inr ⟨2, by unfold strP; rw [if_pos (by omega)], hb.dead 2 q2⟩
def repP {α : Type} (p : Rd α) : Nat → Rd (List α)
  | 0 => Rd.pure []
  | n + 1 => (repP p n).bind fun l => p.bind fun a => Rd.pure (l ++ [a])
theorem Step.val {α : Type} {p : Rd α} {s : Bytes} {e : Int} {off : Bool} {a : α} {s' : Bytes} {e' : Int} {off' : Bool} (h : Step p s e off a s' e' off') (g : (!off' && e' == 0) = false) (a' : α) : Step p s e off a' s' e' off' := by
  refine ⟨fun he ho => ?_, h.dead, h.len⟩
  rcases h.live he ho with ⟨a0, r, q1, rfl, rfl, rfl, rfl⟩ | q
  · cases g
  · exact .inr q
theorem rep_step {α : Type} {p : Rd α} {i : Nat} {s : Bytes} {e : Int} {off : Bool} {l : List α} {s1 : Bytes} {e1 : Int} {o1 : Bool} {a : α} {s2 : Bytes} {e2 : Int} {o2 : Bool} (h1 : Step (repP p i) s e off l s1 e1 o1) (h2 : Step p s1 e1 o1 a s2 e2 o2) :
    Step (repP p (i + 1)) s e off (if (!o2 && e2 == 0) = true then l ++ [a] else l) s2 e2 o2 := by
  have h3 := h1.bind (f := fun l => p.bind fun a => Rd.pure (l ++ [a])) (h2.bind (f := fun a => Rd.pure (l ++ [a])) (Step.pure (l ++ [a]) s2 e2 o2))
  split
  · exact h3
  · rename_i h
    exact h3.val (by simpa using h) l
def keyBits (m i : Nat) : List Int := ((List.range i).filter fun k => m.testBit k).map fun k : Nat => (k : Int)
theorem keyBits_succ (m i : Nat) : keyBits m (i + 1) = if m / 2 ^ i % 2 = 1 then keyBits m i ++ [(i : Int)] else keyBits m i := by
  unfold keyBits
  rw [List.range_succ, List.filter_append, List.map_append]
  simp only [Nat.testBit_eq_decide_div_mod_eq]
  split <;> rename_i h <;> simp [h]
theorem keyBits_len (m i : Nat) : (keyBits m i).length ≤ i := by
  unfold keyBits
  rw [List.length_map]
  exact Nat.le_trans (List.length_filter_le _ _) (by simp)
theorem W8n {v : Nat} (h : v < 256) : Go.IntKind.wrap .u8 (v : Int) = ((UInt8.ofNat v).toNat : Int) := by
  have e : (UInt8.ofNat v).toNat = v := by simp; omega
  rw [e, w8]; omega
theorem fdiv_nat (a b : Nat) : Int.fdiv (a : Int) (b : Int) = ((a / b : Nat) : Int) := by
  rw [Int.fdiv_eq_ediv_of_nonneg _ (by omega)]; rfl
theorem sh1 (a i : Nat) (hi : i < 32) : Int.fdiv (a : Int) (2 ^ Min.min (Int.toNat (i : Int)) (Go.IntKind.bits .i64)) = ((a / 2 ^ i : Nat) : Int) := by
  have : Min.min (Int.toNat (i : Int)) (Go.IntKind.bits .i64) = i := by
    rw [show Go.IntKind.bits .i64 = 64 from rfl, Int.toNat_natCast]; omega
  rw [this, ← fdiv_nat]; norm_cast
theorem and1 (a : Nat) : a &&& 1 = a % 2 := by
  rw [show (1 : Nat) = 2 ^ 1 - 1 from rfl, Nat.and_two_pow_sub_one_eq_mod]
structure MsgSm (m : Msg) : Prop where
  id : m.id.length ≤ 1099511628000
  keys : m.keys.length ≤ 32
  text : m.text.length ≤ 300
structure BoxSm (b : Box) : Prop where
  id : b.id.length ≤ 1099511627776
  nw : b.words.length ≤ 32
  nm : b.msgs.length ≤ 60
  words : ∀ w ∈ b.words, w.length ≤ 24
  msgs : ∀ m ∈ b.msgs, MsgSm m
theorem BoxSm.ok {b : Box} (h : BoxSm b) : BoxOk b :=
  ⟨by have := h.id; omega, by have := h.nw; omega, by have := h.nm; omega, fun w hw => by have := h.words w hw; omega, fun m hm => ⟨by have := (h.msgs m hm).id; omega, by have := (h.msgs m hm).keys; omega⟩⟩
theorem own_len (id : Bytes) (n : Int) (h : id.length ≤ 1099511627776) (hn : n ≤ 9223372036854775807) : (ownB id n).length ≤ 1099511628000 := by
  have hl := Lib.itoa_length_le (max n 0) (by omega) (by omega)
  unfold ownB; simp only [List.length_append, List.length_cons, List.length_nil]; omega
theorem LI.nx {N i : Nat} {n : Int} (hN : N ≤ 9223372036854775806) (hi : i < N) (hn : Go.IntKind.wrap .i64 ((i : Int) + 1) = n) : N - (i + 1) < N - i ∧ n = ((i + 1 : Nat) : Int) ∧ i + 1 ≤ N :=
  ⟨by omega, by rw [← hn, W64 (by omega) (by omega)]; omega, hi⟩

theorem c109 (s : Bytes) (e : Int) (off : Bool) (n : Int) (hn : 0 ≤ n) (hs : s.length ≤ 1099511627776) :
    ∃ (v : Nat) (s' : Bytes) (e' : Int) (off' : Bool), (v : Int) ≤ n ∧ Step (cntP n) s e off (v : Int) s' e' off' ∧ Runs P 166 [.ptr 1000 0, .d (.int .i64 n)] (rdrs s e off) (.d (.int .i64 v)) (rdrs s' e' off') := by
  obtain ⟨v, s', e', hl, hz, h1, h2⟩ := c108 s e off hs
  obtain ⟨q1, q2⟩ := cnt_step hn hz h1
  by_cases hv : (v : Int) > n
  · refine ⟨0, s', e', true, hn, q1 hv, runs_walkZ t109 (vc109 _ _ _ _ _ _) rfl (by simp) ?_⟩
    exact ⟨_, _, _, h2, fun _ => endO2 rfl rfl rfl rfl, fun h => absurd hv (of_decide_eq_false h)⟩
  · refine ⟨v, s', e', off, by omega, q2 hv, runs_walkZ t109 (vc109 _ _ _ _ _ _) rfl (by simp) ?_⟩
    exact ⟨_, _, _, h2, fun h => absurd (of_decide_eq_true h) hv, fun _ => endO2 rfl rfl rfl rfl⟩
theorem c111 (s : Bytes) (e : Int) (off : Bool) : Runs P 167 [.ptr 1000 0] (rdrs s e off) (.d (.bool (!off && e == 0))) (rdrs s e off) := by
  refine runs_walkZ t111 (vc111 _ _ _ _ _) rfl (by simp) ?_
  refine ⟨_, fun _ => c63 s e, ?_⟩
  rintro _ rfl
  exact endO2 rfl rfl rfl rfl
theorem c138 (s : Bytes) (e : Int) (off : Bool) (n : Nat) (hn : n ≤ 300) (hs : s.length ≤ 1099511627776) :
    ∃ (a s' : Bytes) (e' : Int), a.length ≤ n ∧ Step (strP n) s e off a s' e' off ∧ Runs P 195 [.ptr 1000 0, .d (.int .i64 n)] (rdrs s e off) (.d (.str a)) (rdrs s' e' off) := by
  obtain ⟨xs, h0, hR, hI⟩ := chain n (fun i (x : Bytes × Int × Bytes) => x.2.2.length ≤ i ∧ Step (strP i) s e off x.2.2 x.1 x.2.1 off)
    (fun i x y => ∃ v : Nat, v < 256 ∧ Runs P 194 [.ptr 1100 0] [(1100, rdr x.1 x.2.1)] (.d (.int .i64 v)) [(1100, rdr y.1 y.2.1)] ∧ y.2.2 = if y.2.1 = 0 then x.2.2 ++ [UInt8.ofNat v] else x.2.2) (s, e, [])
    ⟨Nat.le_refl _, Step.pure [] s e off⟩ (fun i x hi h => by
      obtain ⟨h1, h2⟩ := h
      obtain ⟨v, s', e', q1, q2, q3⟩ := c137 x.1 x.2.1 off (Nat.le_trans h2.len hs)
      refine ⟨(s', e', if e' = 0 then x.2.2 ++ [UInt8.ofNat v] else x.2.2), ⟨v, q1, q3, rfl⟩, ?_, str_step h2 q2⟩
      show (if e' = 0 then x.2.2 ++ [UInt8.ofNat v] else x.2.2).length ≤ i + 1
      split
      · rw [List.length_append, List.length_singleton]; omega
      · omega)
  refine ⟨(xs n).2.2, (xs n).1, (xs n).2.1, (hI n (Nat.le_refl _)).1, (hI n (Nat.le_refl _)).2, runs_walkZ t138 (vc138 _ _ _ _ _ _) rfl (by simp) ?_⟩
  refine ⟨fun m l e' a k => LI n (fun i => l = bs (xs i).1 ∧ e' = (xs i).2.1 ∧ a = (xs i).2.2) m k, ⟨rfl, n, LI.start (by rw [h0]; exact ⟨rfl, rfl, rfl⟩)⟩, ?_⟩
  rintro _ _ _ _ _ ⟨i, rfl, hi, rfl, rfl, rfl, rfl⟩
  refine ⟨fun hlt => ?_, fun hge => ?_⟩
  · have hlt : i < n := by have := of_decide_eq_true hlt; omega
    obtain ⟨v, hv, q1, q2⟩ := hR i hlt
    refine ⟨_, _, _, q1, _, _, _, c63 _ _, fun h => ?_, fun h => ?_⟩
    · have h : (xs (i + 1)).2.1 = 0 := by simpa using h
      rintro _ rfl
      rw [W8n hv]
      refine ⟨_, r158 5 false _ _ (by have := (hI i hi).1; omega), ?_⟩
      intro m hm
      obtain ⟨g1, g2, g3⟩ := LI.nx (by omega) hlt hm
      exact ⟨rfl, _, g1, i + 1, g2, g3, rfl, rfl, rfl, by rw [q2, if_pos h]⟩
    · have h : ¬ (xs (i + 1)).2.1 = 0 := by simpa using h
      intro m hm
      obtain ⟨g1, g2, g3⟩ := LI.nx (by omega) hlt hm
      exact ⟨rfl, _, g1, i + 1, g2, g3, rfl, rfl, rfl, by rw [q2, if_neg h]⟩
  · have : i = n := by have := of_decide_eq_false hge; omega
    subst this
    exact ⟨_, _, r159 5 false _, endO2 rfl rfl rfl rfl⟩
def msgP1 (name : Bytes) : Rd Msg := fixedP.bind fun u => fixedP.bind fun d => byteP.bind fun f => fixedP.bind fun k => (cntP 300).bind fun c => (strP c.toNat).bind fun t => Rd.pure ⟨u, 1, d, ownB name u, f, keyBits k.toNat 32, t⟩
theorem c112 (s : Bytes) (e : Int) (off : Bool) (name : Bytes) (hn : name.length ≤ 1099511627776) (hs : s.length ≤ 1099511627776) :
    ∃ (m : Msg) (s' : Bytes) (e' : Int) (off' : Bool), MsgSm m ∧ Step (msgP1 name) s e off m s' e' off' ∧ Runs P 168 [.ptr 1000 0, .d (.str name)] (rdrs s e off) (.d m.d) (rdrs s' e' off') := by
  obtain ⟨u, s1, e1, hu, _, p1, w1⟩ := c108 s e off hs
  have l1 := Nat.le_trans p1.len hs
  obtain ⟨d, s2, e2, _, _, p2, w2⟩ := c108 s1 e1 off l1
  have l2 := Nat.le_trans p2.len l1
  obtain ⟨f, s3, e3, _, p3, w3⟩ := c137 s2 e2 off l2
  have l3 := Nat.le_trans p3.len l2
  obtain ⟨K, s4, e4, hK, _, p4, w4⟩ := c108 s3 e3 off l3
  have l4 := Nat.le_trans p4.len l3
  obtain ⟨c, s5, e5, o5, hc, p5, w5⟩ := c109 s4 e4 off 300 (by decide) l4
  have l5 := Nat.le_trans p5.len l4
  obtain ⟨t, s6, e6, ht, p6, w6⟩ := c138 s5 e5 o5 c (by omega) l5
  have hkl := keyBits_len K 32
  refine ⟨⟨u, 1, d, ownB name u, f, keyBits K 32, t⟩, s6, e6, o5, ⟨own_len _ _ hn (by omega), hkl, by simp only; omega⟩, ?_, runs_walkZ t112 (vc112 _ _ _ _ _ _) rfl (by simp) ?_⟩
  · exact p1.bind (p2.bind (p3.bind (p4.bind (p5.bind (p6.bind (Step.pure _ _ _ _))))))
  refine ⟨_, _, _, w1, _, _, _, w2, _, _, _, w3, _, _, _, w4, fun n l k => LI 32 (fun i => l = ints (keyBits K i)) n k, ⟨rfl, rfl, rfl, rfl, rfl, rfl, 32, LI.start rfl⟩, ?_⟩
  rintro _ _ _ ⟨i, rfl, hi, rfl, rfl⟩
  refine ⟨fun hlt => ?_, fun hge => ?_⟩
  · have hlt : i < 32 := by have := of_decide_eq_true hlt; omega
    refine ⟨by omega, ?_⟩
    rintro n21 h21 n22 h22
    have hd : K / 2 ^ i ≤ K := Nat.div_le_self _ _
    rw [sh1 K i hlt] at h21
    rw [← h21, show (1 : Int) = ((1 : Nat) : Int) from rfl, and64 _ _ (by omega) (by decide), and1] at h22
    subst h22
    have hs := keyBits_succ K i
    refine ⟨fun h => ?_, fun h => ?_⟩
    · have h : K / 2 ^ i % 2 = 1 := by have : ((K / 2 ^ i % 2 : Nat) : Int) = 1 := by simpa using h
                                       omega
      rw [if_pos h] at hs
      refine ⟨by have := keyBits_len K i; rw [ints_len]; simp only [List.length_cons, List.length_nil]; omega, ?_⟩
      intro m hm
      obtain ⟨g1, g2⟩ := LI.next (J := fun j => ints (keyBits K i) ++ [iD i] = ints (keyBits K j)) (by omega) hlt hm (by rw [hs]; simp [ints])
      exact ⟨rfl, rfl, rfl, rfl, rfl, rfl, _, g1, g2⟩
    · have h : ¬ K / 2 ^ i % 2 = 1 := by have : ¬ ((K / 2 ^ i % 2 : Nat) : Int) = 1 := by simpa using h
                                         omega
      rw [if_neg h] at hs
      intro m hm
      obtain ⟨g1, g2⟩ := LI.next (J := fun j => ints (keyBits K i) = ints (keyBits K j)) (by omega) hlt hm (by rw [hs])
      exact ⟨rfl, rfl, rfl, rfl, rfl, rfl, _, g1, g2⟩
  · have : i = 32 := by have := of_decide_eq_false hge; omega
    subst this
    exact ⟨_, r88 name u (by omega) hn, _, _, _, _, w5, _, _, _, _, w6, endO2 rfl rfl rfl rfl⟩
def boxP1 (name : Bytes) : Rd Box := fixedP.bind fun v => fixedP.bind fun nx => (cntP 32).bind fun n => (repP (textP 24) n.toNat).bind fun ws => (cntP 60).bind fun k => (repP (msgP1 name) k.toNat).bind fun ms => Rd.pure ⟨name, v, nx, 1, ws, ms⟩
theorem c62 (s : Bytes) (e : Int) (off : Bool) (name : Bytes) (hn : name.length ≤ 1099511627776) (hs : s.length ≤ 1099511627776) :
    ∃ (b : Box) (s' : Bytes) (e' : Int) (off' : Bool), BoxSm b ∧ Step (boxP1 name) s e off b s' e' off' ∧ Runs P 133 [.ptr 1000 0, .d (.str name)] (rdrs s e off) (.d b.d) (rdrs s' e' off') := by
  obtain ⟨v, s1, e1, _, _, p1, w1⟩ := c108 s e off hs
  have l1 := Nat.le_trans p1.len hs
  obtain ⟨nx, s2, e2, _, _, p2, w2⟩ := c108 s1 e1 off l1
  have l2 := Nat.le_trans p2.len l1
  obtain ⟨n, s3, e3, o3, hn32, p3, w3⟩ := c109 s2 e2 off 32 (by decide) l2
  have l3 := Nat.le_trans p3.len l2
  obtain ⟨xs, h0, hR, hI⟩ := chain n (fun i (x : Bytes × Int × List Bytes) => x.2.2.length ≤ i ∧ (∀ w ∈ x.2.2, w.length ≤ 24) ∧ Step (repP (textP 24) i) s3 e3 o3 x.2.2 x.1 x.2.1 o3)
    (fun i x y => ∃ t : Bytes, Runs P 151 [.ptr 1100 0, .d (.int .i64 24)] [(1100, rdr x.1 x.2.1)] (.d (.str t)) [(1100, rdr y.1 y.2.1)] ∧ y.2.2 = if (!o3 && y.2.1 == 0) = true then x.2.2 ++ [t] else x.2.2) (s3, e3, [])
    ⟨Nat.le_refl _, by simp, Step.pure [] s3 e3 o3⟩ (fun i x hi h => by
      obtain ⟨h1, h2, h3⟩ := h
      obtain ⟨t, s', e', q1, q2, q3⟩ := c110 x.1 x.2.1 o3 24 (Nat.le_trans h3.len l3)
      refine ⟨(s', e', if (!o3 && e' == 0) = true then x.2.2 ++ [t] else x.2.2), ⟨t, q3, rfl⟩, ?_, ?_, rep_step h3 q2⟩
      · show (if (!o3 && e' == 0) = true then x.2.2 ++ [t] else x.2.2).length ≤ i + 1
        split
        · rw [List.length_append, List.length_singleton]; omega
        · omega
      · show ∀ w ∈ (if (!o3 && e' == 0) = true then x.2.2 ++ [t] else x.2.2), w.length ≤ 24
        split
        · intro w hw
          rcases List.mem_append.1 hw with hw | hw
          · exact h2 w hw
          · rw [List.mem_singleton.1 hw]; omega
        · exact h2)
  obtain ⟨⟨s4, e4, ws⟩, hx⟩ : ∃ x, x = xs n := ⟨_, rfl⟩
  obtain ⟨I1, I2, I3⟩ := hI n (Nat.le_refl _)
  rw [← hx] at I1 I2 I3
  simp only at I1 I2 I3
  have l4 := Nat.le_trans I3.len l3
  by_cases g : (!o3 && e4 == 0) = true
  rotate_left
  · have g : (!o3 && e4 == 0) = false := by simpa using g
    refine ⟨⟨name, v, nx, 1, ws, []⟩, s4, e4, o3, ⟨hn, by simp only; omega, by simp, I2, by simp⟩, p1.bind (p2.bind (p3.bind (I3.bind (Step.any _ _ _ g)))), runs_walkZ t62 (vc62 _ _ _ _ _ _) rfl (by simp) ?_⟩
    refine ⟨_, _, _, w1, _, _, _, w2, _, _, _, _, w3, fun m l e' o a k => LI n (fun i => l = bs (xs i).1 ∧ e' = (xs i).2.1 ∧ o3 = o ∧ a = strs (xs i).2.2) m k, ⟨rfl, rfl, rfl, rfl, rfl, rfl, n, LI.start (by rw [h0]; exact ⟨rfl, rfl, rfl, rfl⟩)⟩, ?_⟩
    rintro _ _ _ _ _ _ ⟨i, rfl, hi, rfl, rfl, rfl, rfl, rfl⟩
    refine ⟨fun hlt => ?_, fun hge => ?_⟩
    · have hlt : i < n := by have := of_decide_eq_true hlt; omega
      obtain ⟨t, q1, q2⟩ := hR i hlt
      refine ⟨_, _, _, q1, _, _, _, _, c111 _ _ _, fun h => ?_, fun h => ?_⟩
      · rw [if_pos h] at q2
        refine ⟨by have := (hI i hi).1; rw [strs_len]; simp only [List.length_cons, List.length_nil]; omega, ?_⟩
        intro m hm
        obtain ⟨g1, g2, g3⟩ := LI.nx (by omega) hlt hm
        exact ⟨rfl, rfl, rfl, rfl, rfl, rfl, _, g1, i + 1, g2, g3, rfl, rfl, rfl, rfl, by rw [q2]; simp [strs]⟩
      · rw [if_neg (by rw [h]; decide)] at q2
        intro m hm
        obtain ⟨g1, g2, g3⟩ := LI.nx (by omega) hlt hm
        exact ⟨rfl, rfl, rfl, rfl, rfl, rfl, _, g1, i + 1, g2, g3, rfl, rfl, rfl, rfl, by rw [q2]⟩
    have : i = n := by have := of_decide_eq_false hge; omega
    subst this
    rw [← hx]
    refine ⟨_, _, _, _, c111 s4 e4 o3, fun h => endO2 rfl rfl rfl rfl, fun h => ?_⟩
    rw [g] at h; cases h
  obtain ⟨k, s5, e5, o5, hk60, p5, w5⟩ := c109 s4 e4 o3 60 (by decide) l4
  have l5 := Nat.le_trans p5.len l4
  obtain ⟨ys, z0, zR, zI⟩ := chain k (fun i (x : Bytes × Int × Bool × List Msg) => x.2.2.2.length ≤ i ∧ (∀ w ∈ x.2.2.2, MsgSm w) ∧ Step (repP (msgP1 name) i) s5 e5 o5 x.2.2.2 x.1 x.2.1 x.2.2.1)
    (fun i x y => ∃ t : Msg, Runs P 168 [.ptr 1000 0, .d (.str name)] (rdrs x.1 x.2.1 x.2.2.1) (.d t.d) (rdrs y.1 y.2.1 y.2.2.1) ∧ y.2.2.2 = if (!y.2.2.1 && y.2.1 == 0) = true then x.2.2.2 ++ [t] else x.2.2.2) (s5, e5, o5, [])
    ⟨Nat.le_refl _, by simp, Step.pure [] s5 e5 o5⟩ (fun i x hi h => by
      obtain ⟨h1, h2, h3⟩ := h
      obtain ⟨t, s', e', o', q1, q2, q3⟩ := c112 x.1 x.2.1 x.2.2.1 name hn (Nat.le_trans h3.len l5)
      refine ⟨(s', e', o', if (!o' && e' == 0) = true then x.2.2.2 ++ [t] else x.2.2.2), ⟨t, q3, rfl⟩, ?_, ?_, rep_step h3 q2⟩
      · show (if (!o' && e' == 0) = true then x.2.2.2 ++ [t] else x.2.2.2).length ≤ i + 1
        split
        · rw [List.length_append, List.length_singleton]; omega
        · omega
      · show ∀ w ∈ (if (!o' && e' == 0) = true then x.2.2.2 ++ [t] else x.2.2.2), MsgSm w
        split
        · intro w hw
          rcases List.mem_append.1 hw with hw | hw
          · exact h2 w hw
          · rw [List.mem_singleton.1 hw]; exact q1
        · exact h2)
  obtain ⟨⟨s6, e6, o6, ms⟩, hy⟩ : ∃ x, x = ys k := ⟨_, rfl⟩
  obtain ⟨J1, J2, J3⟩ := zI k (Nat.le_refl _)
  rw [← hy] at J1 J2 J3
  simp only at J1 J2 J3
  refine ⟨⟨name, v, nx, 1, ws, ms⟩, s6, e6, o6, ⟨hn, by simp only; omega, by simp only; omega, I2, J2⟩, p1.bind (p2.bind (p3.bind (I3.bind (p5.bind (J3.bind (Step.pure _ _ _ _)))))), runs_walkZ t62 (vc62 _ _ _ _ _ _) rfl (by simp) ?_⟩
  refine ⟨_, _, _, w1, _, _, _, w2, _, _, _, _, w3, fun m l e' o a k => LI n (fun i => l = bs (xs i).1 ∧ e' = (xs i).2.1 ∧ o3 = o ∧ a = strs (xs i).2.2) m k, ⟨rfl, rfl, rfl, rfl, rfl, rfl, n, LI.start (by rw [h0]; exact ⟨rfl, rfl, rfl, rfl⟩)⟩, ?_⟩
  rintro _ _ _ _ _ _ ⟨i, rfl, hi, rfl, rfl, rfl, rfl, rfl⟩
  refine ⟨fun hlt => ?_, fun hge => ?_⟩
  · have hlt : i < n := by have := of_decide_eq_true hlt; omega
    obtain ⟨t, q1, q2⟩ := hR i hlt
    refine ⟨_, _, _, q1, _, _, _, _, c111 _ _ _, fun h => ?_, fun h => ?_⟩
    · rw [if_pos h] at q2
      refine ⟨by have := (hI i hi).1; rw [strs_len]; simp only [List.length_cons, List.length_nil]; omega, ?_⟩
      intro m hm
      obtain ⟨g1, g2, g3⟩ := LI.nx (by omega) hlt hm
      exact ⟨rfl, rfl, rfl, rfl, rfl, rfl, _, g1, i + 1, g2, g3, rfl, rfl, rfl, rfl, by rw [q2]; simp [strs]⟩
    · rw [if_neg (by rw [h]; decide)] at q2
      intro m hm
      obtain ⟨g1, g2, g3⟩ := LI.nx (by omega) hlt hm
      exact ⟨rfl, rfl, rfl, rfl, rfl, rfl, _, g1, i + 1, g2, g3, rfl, rfl, rfl, rfl, by rw [q2]⟩
  have : i = n := by have := of_decide_eq_false hge; omega
  subst this
  rw [← hx]
  refine ⟨_, _, _, _, c111 s4 e4 o3, fun h => (by rw [g] at h; cases h), fun _ => ?_⟩
  refine ⟨_, _, _, _, w5, fun m o l e' a j => LI k (fun i => o = (ys i).2.2.1 ∧ l = bs (ys i).1 ∧ e' = (ys i).2.1 ∧ a = (ys i).2.2.2.map Msg.d) m j, ⟨rfl, rfl, rfl, rfl, rfl, rfl, k, LI.start (by rw [z0]; exact ⟨rfl, rfl, rfl, rfl⟩)⟩, ?_⟩
  rintro _ _ _ _ _ _ ⟨i, rfl, hi, rfl, rfl, rfl, rfl, rfl⟩
  refine ⟨fun hlt => ?_, fun hge => ?_⟩
  · have hlt : i < k := by have := of_decide_eq_true hlt; omega
    obtain ⟨t, q1, q2⟩ := zR i hlt
    refine ⟨_, _, _, _, _, _, _, _, _, _, q1, _, _, _, _, c111 _ _ _, fun h => ?_, fun h => ?_⟩
    · rw [if_pos h] at q2
      refine ⟨by have := (zI i hi).1; rw [List.length_map]; simp only [List.length_cons, List.length_nil]; omega, ?_⟩
      intro m hm
      obtain ⟨g1, g2, g3⟩ := LI.nx (by omega) hlt hm
      exact ⟨rfl, rfl, rfl, rfl, rfl, rfl, _, g1, i + 1, g2, g3, rfl, rfl, rfl, rfl, by rw [q2, List.map_append]; rfl⟩
    · rw [if_neg (by rw [h]; decide)] at q2
      intro m hm
      obtain ⟨g1, g2, g3⟩ := LI.nx (by omega) hlt hm
      exact ⟨rfl, rfl, rfl, rfl, rfl, rfl, _, g1, i + 1, g2, g3, rfl, rfl, rfl, rfl, by rw [q2]⟩
  have : i = k := by have := of_decide_eq_false hge; omega
  subst this
  rw [← hy]
  exact endO2 rfl rfl rfl rfl

theorem c114 (s : Bytes) (e : Int) (off : Bool) (n : Int) (hn : 0 ≤ n) (hs : s.length ≤ 1099511627776) :
    ∃ (v : Nat) (s' : Bytes) (e' : Int) (off' : Bool), (v : Int) ≤ n ∧ Step (cntP n) s e off (v : Int) s' e' off' ∧ Runs P 169 [.ptr 1000 0, .d (.int .i64 n)] (rdrs s e off) (.d (.int .i64 v)) (rdrs s' e' off') := by
  obtain ⟨v, s', e', hl, hz, h1, h2⟩ := c108 s e off hs
  obtain ⟨q1, q2⟩ := cnt_step hn hz h1
  by_cases hv : (v : Int) > n
  · refine ⟨0, s', e', true, hn, q1 hv, runs_walkZ t114 (vc114 _ _ _ _ _ _) rfl (by simp) ?_⟩
    exact ⟨_, _, _, h2, fun _ => endO2 rfl rfl rfl rfl, fun h => absurd hv (of_decide_eq_false h)⟩
  · refine ⟨v, s', e', off, by omega, q2 hv, runs_walkZ t114 (vc114 _ _ _ _ _ _) rfl (by simp) ?_⟩
    exact ⟨_, _, _, h2, fun h => absurd (of_decide_eq_true h) hv, fun _ => endO2 rfl rfl rfl rfl⟩
theorem c115 (s : Bytes) (e : Int) (off : Bool) : Runs P 170 [.ptr 1000 0] (rdrs s e off) (.d (.bool (!off && e == 0))) (rdrs s e off) := by
  refine runs_walkZ t115 (vc115 _ _ _ _ _) rfl (by simp) ?_
  refine ⟨_, fun _ => c63 s e, ?_⟩
  rintro _ rfl
  exact endO2 rfl rfl rfl rfl
theorem c139 (s : Bytes) (e : Int) (off : Bool) (n : Nat) (hn : n ≤ 300) (hs : s.length ≤ 1099511627776) :
    ∃ (a s' : Bytes) (e' : Int), a.length ≤ n ∧ Step (strP n) s e off a s' e' off ∧ Runs P 196 [.ptr 1000 0, .d (.int .i64 n)] (rdrs s e off) (.d (.str a)) (rdrs s' e' off) := by
  obtain ⟨xs, h0, hR, hI⟩ := chain n (fun i (x : Bytes × Int × Bytes) => x.2.2.length ≤ i ∧ Step (strP i) s e off x.2.2 x.1 x.2.1 off)
    (fun i x y => ∃ v : Nat, v < 256 ∧ Runs P 194 [.ptr 1100 0] [(1100, rdr x.1 x.2.1)] (.d (.int .i64 v)) [(1100, rdr y.1 y.2.1)] ∧ y.2.2 = if y.2.1 = 0 then x.2.2 ++ [UInt8.ofNat v] else x.2.2) (s, e, [])
    ⟨Nat.le_refl _, Step.pure [] s e off⟩ (fun i x hi h => by
      obtain ⟨h1, h2⟩ := h
      obtain ⟨v, s', e', q1, q2, q3⟩ := c137 x.1 x.2.1 off (Nat.le_trans h2.len hs)
      refine ⟨(s', e', if e' = 0 then x.2.2 ++ [UInt8.ofNat v] else x.2.2), ⟨v, q1, q3, rfl⟩, ?_, str_step h2 q2⟩
      show (if e' = 0 then x.2.2 ++ [UInt8.ofNat v] else x.2.2).length ≤ i + 1
      split
      · rw [List.length_append, List.length_singleton]; omega
      · omega)
  refine ⟨(xs n).2.2, (xs n).1, (xs n).2.1, (hI n (Nat.le_refl _)).1, (hI n (Nat.le_refl _)).2, runs_walkZ t139 (vc139 _ _ _ _ _ _) rfl (by simp) ?_⟩
  refine ⟨fun m l e' a k => LI n (fun i => l = bs (xs i).1 ∧ e' = (xs i).2.1 ∧ a = (xs i).2.2) m k, ⟨rfl, n, LI.start (by rw [h0]; exact ⟨rfl, rfl, rfl⟩)⟩, ?_⟩
  rintro _ _ _ _ _ ⟨i, rfl, hi, rfl, rfl, rfl, rfl⟩
  refine ⟨fun hlt => ?_, fun hge => ?_⟩
  · have hlt : i < n := by have := of_decide_eq_true hlt; omega
    obtain ⟨v, hv, q1, q2⟩ := hR i hlt
    refine ⟨_, _, _, q1, _, _, _, c63 _ _, fun h => ?_, fun h => ?_⟩
    · have h : (xs (i + 1)).2.1 = 0 := by simpa using h
      rintro _ rfl
      rw [W8n hv]
      refine ⟨_, r158 5 false _ _ (by have := (hI i hi).1; omega), ?_⟩
      intro m hm
      obtain ⟨g1, g2, g3⟩ := LI.nx (by omega) hlt hm
      exact ⟨rfl, _, g1, i + 1, g2, g3, rfl, rfl, rfl, by rw [q2, if_pos h]⟩
    · have h : ¬ (xs (i + 1)).2.1 = 0 := by simpa using h
      intro m hm
      obtain ⟨g1, g2, g3⟩ := LI.nx (by omega) hlt hm
      exact ⟨rfl, _, g1, i + 1, g2, g3, rfl, rfl, rfl, by rw [q2, if_neg h]⟩
  · have : i = n := by have := of_decide_eq_false hge; omega
    subst this
    exact ⟨_, _, r159 5 false _, endO2 rfl rfl rfl rfl⟩
def msgP2 (name : Bytes) : Rd Msg := fixedP.bind fun u => fixedP.bind fun md => fixedP.bind fun d => byteP.bind fun f => fixedP.bind fun k => (cntP 300).bind fun c => (strP c.toNat).bind fun t => Rd.pure ⟨u, md, d, ownB name u, f, keyBits k.toNat 32, t⟩
theorem c116 (s : Bytes) (e : Int) (off : Bool) (name : Bytes) (hn : name.length ≤ 1099511627776) (hs : s.length ≤ 1099511627776) :
    ∃ (m : Msg) (s' : Bytes) (e' : Int) (off' : Bool), MsgSm m ∧ Step (msgP2 name) s e off m s' e' off' ∧ Runs P 171 [.ptr 1000 0, .d (.str name)] (rdrs s e off) (.d m.d) (rdrs s' e' off') := by
  obtain ⟨u, s1, e1, hu, _, p1, w1⟩ := c108 s e off hs
  have l1 := Nat.le_trans p1.len hs
  obtain ⟨md, s1', e1', _, _, p1', w1'⟩ := c108 s1 e1 off l1
  have l1 := Nat.le_trans p1'.len l1
  obtain ⟨d, s2, e2, _, _, p2, w2⟩ := c108 s1' e1' off l1
  have l2 := Nat.le_trans p2.len l1
  obtain ⟨f, s3, e3, _, p3, w3⟩ := c137 s2 e2 off l2
  have l3 := Nat.le_trans p3.len l2
  obtain ⟨K, s4, e4, hK, _, p4, w4⟩ := c108 s3 e3 off l3
  have l4 := Nat.le_trans p4.len l3
  obtain ⟨c, s5, e5, o5, hc, p5, w5⟩ := c114 s4 e4 off 300 (by decide) l4
  have l5 := Nat.le_trans p5.len l4
  obtain ⟨t, s6, e6, ht, p6, w6⟩ := c139 s5 e5 o5 c (by omega) l5
  have hkl := keyBits_len K 32
  refine ⟨⟨u, md, d, ownB name u, f, keyBits K 32, t⟩, s6, e6, o5, ⟨own_len _ _ hn (by omega), hkl, by simp only; omega⟩, ?_, runs_walkZ t116 (vc116 _ _ _ _ _ _) rfl (by simp) ?_⟩
  · exact p1.bind (p1'.bind (p2.bind (p3.bind (p4.bind (p5.bind (p6.bind (Step.pure _ _ _ _)))))))
  refine ⟨_, _, _, w1, _, _, _, w1', _, _, _, w2, _, _, _, w3, _, _, _, w4, fun n l k => LI 32 (fun i => l = ints (keyBits K i)) n k, ⟨rfl, rfl, rfl, rfl, rfl, rfl, 32, LI.start rfl⟩, ?_⟩
  rintro _ _ _ ⟨i, rfl, hi, rfl, rfl⟩
  refine ⟨fun hlt => ?_, fun hge => ?_⟩
  · have hlt : i < 32 := by have := of_decide_eq_true hlt; omega
    refine ⟨by omega, ?_⟩
    rintro n21 h21 n22 h22
    have hd : K / 2 ^ i ≤ K := Nat.div_le_self _ _
    rw [sh1 K i hlt] at h21
    rw [← h21, show (1 : Int) = ((1 : Nat) : Int) from rfl, and64 _ _ (by omega) (by decide), and1] at h22
    subst h22
    have hs := keyBits_succ K i
    refine ⟨fun h => ?_, fun h => ?_⟩
    · have h : K / 2 ^ i % 2 = 1 := by have : ((K / 2 ^ i % 2 : Nat) : Int) = 1 := by simpa using h
                                       omega
      rw [if_pos h] at hs
      refine ⟨by have := keyBits_len K i; rw [ints_len]; simp only [List.length_cons, List.length_nil]; omega, ?_⟩
      intro m hm
      obtain ⟨g1, g2⟩ := LI.next (J := fun j => ints (keyBits K i) ++ [iD i] = ints (keyBits K j)) (by omega) hlt hm (by rw [hs]; simp [ints])
      exact ⟨rfl, rfl, rfl, rfl, rfl, rfl, _, g1, g2⟩
    · have h : ¬ K / 2 ^ i % 2 = 1 := by have : ¬ ((K / 2 ^ i % 2 : Nat) : Int) = 1 := by simpa using h
                                         omega
      rw [if_neg h] at hs
      intro m hm
      obtain ⟨g1, g2⟩ := LI.next (J := fun j => ints (keyBits K i) = ints (keyBits K j)) (by omega) hlt hm (by rw [hs])
      exact ⟨rfl, rfl, rfl, rfl, rfl, rfl, _, g1, g2⟩
  · have : i = 32 := by have := of_decide_eq_false hge; omega
    subst this
    exact ⟨_, r88 name u (by omega) hn, _, _, _, _, w5, _, _, _, _, w6, endO2 rfl rfl rfl rfl⟩
def boxP2 (name : Bytes) : Rd Box := fixedP.bind fun v => fixedP.bind fun nx => fixedP.bind fun hi => (cntP 32).bind fun n => (repP (textP 24) n.toNat).bind fun ws => (cntP 60).bind fun k => (repP (msgP2 name) k.toNat).bind fun ms => Rd.pure ⟨name, v, nx, hi, ws, ms⟩
theorem c70 (s : Bytes) (e : Int) (off : Bool) (name : Bytes) (hn : name.length ≤ 1099511627776) (hs : s.length ≤ 1099511627776) :
    ∃ (b : Box) (s' : Bytes) (e' : Int) (off' : Bool), BoxSm b ∧ Step (boxP2 name) s e off b s' e' off' ∧ Runs P 137 [.ptr 1000 0, .d (.str name)] (rdrs s e off) (.d b.d) (rdrs s' e' off') := by
  obtain ⟨v, s1, e1, _, _, p1, w1⟩ := c108 s e off hs
  have l1 := Nat.le_trans p1.len hs
  obtain ⟨nx, s2, e2, _, _, p2, w2⟩ := c108 s1 e1 off l1
  have l2 := Nat.le_trans p2.len l1
  obtain ⟨hi, s2', e2', _, _, p2', w2'⟩ := c108 s2 e2 off l2
  have l2' := Nat.le_trans p2'.len l2
  obtain ⟨n, s3, e3, o3, hn32, p3, w3⟩ := c114 s2' e2' off 32 (by decide) l2'
  have l3 := Nat.le_trans p3.len l2'
  obtain ⟨xs, h0, hR, hI⟩ := chain n (fun i (x : Bytes × Int × List Bytes) => x.2.2.length ≤ i ∧ (∀ w ∈ x.2.2, w.length ≤ 24) ∧ Step (repP (textP 24) i) s3 e3 o3 x.2.2 x.1 x.2.1 o3)
    (fun i x y => ∃ t : Bytes, Runs P 151 [.ptr 1100 0, .d (.int .i64 24)] [(1100, rdr x.1 x.2.1)] (.d (.str t)) [(1100, rdr y.1 y.2.1)] ∧ y.2.2 = if (!o3 && y.2.1 == 0) = true then x.2.2 ++ [t] else x.2.2) (s3, e3, [])
    ⟨Nat.le_refl _, by simp, Step.pure [] s3 e3 o3⟩ (fun i x hi h => by
      obtain ⟨h1, h2, h3⟩ := h
      obtain ⟨t, s', e', q1, q2, q3⟩ := c110 x.1 x.2.1 o3 24 (Nat.le_trans h3.len l3)
      refine ⟨(s', e', if (!o3 && e' == 0) = true then x.2.2 ++ [t] else x.2.2), ⟨t, q3, rfl⟩, ?_, ?_, rep_step h3 q2⟩
      · show (if (!o3 && e' == 0) = true then x.2.2 ++ [t] else x.2.2).length ≤ i + 1
        split
        · rw [List.length_append, List.length_singleton]; omega
        · omega
      · show ∀ w ∈ (if (!o3 && e' == 0) = true then x.2.2 ++ [t] else x.2.2), w.length ≤ 24
        split
        · intro w hw
          rcases List.mem_append.1 hw with hw | hw
          · exact h2 w hw
          · rw [List.mem_singleton.1 hw]; omega
        · exact h2)
  obtain ⟨⟨s4, e4, ws⟩, hx⟩ : ∃ x, x = xs n := ⟨_, rfl⟩
  obtain ⟨I1, I2, I3⟩ := hI n (Nat.le_refl _)
  rw [← hx] at I1 I2 I3
  simp only at I1 I2 I3
  have l4 := Nat.le_trans I3.len l3
  by_cases g : (!o3 && e4 == 0) = true
  rotate_left
  · have g : (!o3 && e4 == 0) = false := by simpa using g
    refine ⟨⟨name, v, nx, hi, ws, []⟩, s4, e4, o3, ⟨hn, by simp only; omega, by simp, I2, by simp⟩, p1.bind (p2.bind (p2'.bind (p3.bind (I3.bind (Step.any _ _ _ g))))), runs_walkZ t70 (vc70 _ _ _ _ _ _) rfl (by simp) ?_⟩
    refine ⟨_, _, _, w1, _, _, _, w2, _, _, _, w2', _, _, _, _, w3, fun m l e' o a k => LI n (fun i => l = bs (xs i).1 ∧ e' = (xs i).2.1 ∧ o3 = o ∧ a = strs (xs i).2.2) m k, ⟨rfl, rfl, rfl, rfl, rfl, rfl, n, LI.start (by rw [h0]; exact ⟨rfl, rfl, rfl, rfl⟩)⟩, ?_⟩
    rintro _ _ _ _ _ _ ⟨i, rfl, hi, rfl, rfl, rfl, rfl, rfl⟩
    refine ⟨fun hlt => ?_, fun hge => ?_⟩
    · have hlt : i < n := by have := of_decide_eq_true hlt; omega
      obtain ⟨t, q1, q2⟩ := hR i hlt
      refine ⟨_, _, _, q1, _, _, _, _, c115 _ _ _, fun h => ?_, fun h => ?_⟩
      · rw [if_pos h] at q2
        refine ⟨by have := (hI i hi).1; rw [strs_len]; simp only [List.length_cons, List.length_nil]; omega, ?_⟩
        intro m hm
        obtain ⟨g1, g2, g3⟩ := LI.nx (by omega) hlt hm
        exact ⟨rfl, rfl, rfl, rfl, rfl, rfl, _, g1, i + 1, g2, g3, rfl, rfl, rfl, rfl, by rw [q2]; simp [strs]⟩
      · rw [if_neg (by rw [h]; decide)] at q2
        intro m hm
        obtain ⟨g1, g2, g3⟩ := LI.nx (by omega) hlt hm
        exact ⟨rfl, rfl, rfl, rfl, rfl, rfl, _, g1, i + 1, g2, g3, rfl, rfl, rfl, rfl, by rw [q2]⟩
    have : i = n := by have := of_decide_eq_false hge; omega
    subst this
    rw [← hx]
    refine ⟨_, _, _, _, c115 s4 e4 o3, fun h => endO2 rfl rfl rfl rfl, fun h => ?_⟩
    rw [g] at h; cases h
  obtain ⟨k, s5, e5, o5, hk60, p5, w5⟩ := c114 s4 e4 o3 60 (by decide) l4
  have l5 := Nat.le_trans p5.len l4
  obtain ⟨ys, z0, zR, zI⟩ := chain k (fun i (x : Bytes × Int × Bool × List Msg) => x.2.2.2.length ≤ i ∧ (∀ w ∈ x.2.2.2, MsgSm w) ∧ Step (repP (msgP2 name) i) s5 e5 o5 x.2.2.2 x.1 x.2.1 x.2.2.1)
    (fun i x y => ∃ t : Msg, Runs P 171 [.ptr 1000 0, .d (.str name)] (rdrs x.1 x.2.1 x.2.2.1) (.d t.d) (rdrs y.1 y.2.1 y.2.2.1) ∧ y.2.2.2 = if (!y.2.2.1 && y.2.1 == 0) = true then x.2.2.2 ++ [t] else x.2.2.2) (s5, e5, o5, [])
    ⟨Nat.le_refl _, by simp, Step.pure [] s5 e5 o5⟩ (fun i x hi h => by
      obtain ⟨h1, h2, h3⟩ := h
      obtain ⟨t, s', e', o', q1, q2, q3⟩ := c116 x.1 x.2.1 x.2.2.1 name hn (Nat.le_trans h3.len l5)
      refine ⟨(s', e', o', if (!o' && e' == 0) = true then x.2.2.2 ++ [t] else x.2.2.2), ⟨t, q3, rfl⟩, ?_, ?_, rep_step h3 q2⟩
      · show (if (!o' && e' == 0) = true then x.2.2.2 ++ [t] else x.2.2.2).length ≤ i + 1
        split
        · rw [List.length_append, List.length_singleton]; omega
        · omega
      · show ∀ w ∈ (if (!o' && e' == 0) = true then x.2.2.2 ++ [t] else x.2.2.2), MsgSm w
        split
        · intro w hw
          rcases List.mem_append.1 hw with hw | hw
          · exact h2 w hw
          · rw [List.mem_singleton.1 hw]; exact q1
        · exact h2)
  obtain ⟨⟨s6, e6, o6, ms⟩, hy⟩ : ∃ x, x = ys k := ⟨_, rfl⟩
  obtain ⟨J1, J2, J3⟩ := zI k (Nat.le_refl _)
  rw [← hy] at J1 J2 J3
  simp only at J1 J2 J3
  refine ⟨⟨name, v, nx, hi, ws, ms⟩, s6, e6, o6, ⟨hn, by simp only; omega, by simp only; omega, I2, J2⟩, p1.bind (p2.bind (p2'.bind (p3.bind (I3.bind (p5.bind (J3.bind (Step.pure _ _ _ _))))))), runs_walkZ t70 (vc70 _ _ _ _ _ _) rfl (by simp) ?_⟩
  refine ⟨_, _, _, w1, _, _, _, w2, _, _, _, w2', _, _, _, _, w3, fun m l e' o a k => LI n (fun i => l = bs (xs i).1 ∧ e' = (xs i).2.1 ∧ o3 = o ∧ a = strs (xs i).2.2) m k, ⟨rfl, rfl, rfl, rfl, rfl, rfl, n, LI.start (by rw [h0]; exact ⟨rfl, rfl, rfl, rfl⟩)⟩, ?_⟩
  rintro _ _ _ _ _ _ ⟨i, rfl, hi, rfl, rfl, rfl, rfl, rfl⟩
  refine ⟨fun hlt => ?_, fun hge => ?_⟩
  · have hlt : i < n := by have := of_decide_eq_true hlt; omega
    obtain ⟨t, q1, q2⟩ := hR i hlt
    refine ⟨_, _, _, q1, _, _, _, _, c115 _ _ _, fun h => ?_, fun h => ?_⟩
    · rw [if_pos h] at q2
      refine ⟨by have := (hI i hi).1; rw [strs_len]; simp only [List.length_cons, List.length_nil]; omega, ?_⟩
      intro m hm
      obtain ⟨g1, g2, g3⟩ := LI.nx (by omega) hlt hm
      exact ⟨rfl, rfl, rfl, rfl, rfl, rfl, _, g1, i + 1, g2, g3, rfl, rfl, rfl, rfl, by rw [q2]; simp [strs]⟩
    · rw [if_neg (by rw [h]; decide)] at q2
      intro m hm
      obtain ⟨g1, g2, g3⟩ := LI.nx (by omega) hlt hm
      exact ⟨rfl, rfl, rfl, rfl, rfl, rfl, _, g1, i + 1, g2, g3, rfl, rfl, rfl, rfl, by rw [q2]⟩
  have : i = n := by have := of_decide_eq_false hge; omega
  subst this
  rw [← hx]
  refine ⟨_, _, _, _, c115 s4 e4 o3, fun h => (by rw [g] at h; cases h), fun _ => ?_⟩
  refine ⟨_, _, _, _, w5, fun m o l e' a j => LI k (fun i => o = (ys i).2.2.1 ∧ l = bs (ys i).1 ∧ e' = (ys i).2.1 ∧ a = (ys i).2.2.2.map Msg.d) m j, ⟨rfl, rfl, rfl, rfl, rfl, rfl, k, LI.start (by rw [z0]; exact ⟨rfl, rfl, rfl, rfl⟩)⟩, ?_⟩
  rintro _ _ _ _ _ _ ⟨i, rfl, hi, rfl, rfl, rfl, rfl, rfl⟩
  refine ⟨fun hlt => ?_, fun hge => ?_⟩
  · have hlt : i < k := by have := of_decide_eq_true hlt; omega
    obtain ⟨t, q1, q2⟩ := zR i hlt
    refine ⟨_, _, _, _, _, _, _, _, _, _, q1, _, _, _, _, c115 _ _ _, fun h => ?_, fun h => ?_⟩
    · rw [if_pos h] at q2
      refine ⟨by have := (zI i hi).1; rw [List.length_map]; simp only [List.length_cons, List.length_nil]; omega, ?_⟩
      intro m hm
      obtain ⟨g1, g2, g3⟩ := LI.nx (by omega) hlt hm
      exact ⟨rfl, rfl, rfl, rfl, rfl, rfl, _, g1, i + 1, g2, g3, rfl, rfl, rfl, rfl, by rw [q2, List.map_append]; rfl⟩
    · rw [if_neg (by rw [h]; decide)] at q2
      intro m hm
      obtain ⟨g1, g2, g3⟩ := LI.nx (by omega) hlt hm
      exact ⟨rfl, rfl, rfl, rfl, rfl, rfl, _, g1, i + 1, g2, g3, rfl, rfl, rfl, rfl, by rw [q2]⟩
  have : i = k := by have := of_decide_eq_false hge; omega
  subst this
  rw [← hy]
  exact endO2 rfl rfl rfl rfl
end B
end Go.Proofs.YtmkkljbfmdngfaaGreatDoor

namespace Go.Proofs.YtmkkljbfmdngfaaGreatDoor
namespace B
set_option maxRecDepth 100000
theorem t24 :okF P HH 94 2=true:=by kernel_rfl
theorem t27 :okF P HH 96 2=true:=by kernel_rfl
theorem vc24 (l0 : List D) (s1 : Bytes) (res : CV) (objs' : List (Nat × List CV)) : walkA P (tbF P [163,148,112,129,134,118] [] 94) (anOf (afOf P HH 94) []) (afOf P HH 94) [CV.d (D.slice 1 l0), CV.d (D.str s1)] [] (fun rs => endE rs res objs') = ((∃ s2 : Bytes, ((l0 = List.map byteD s2) ∧ (∃ s3 : Bytes, (∃ b4 : Bool, ((Runs P 132 [CV.d (D.str s2), CV.d (D.str [77, 66, 49])] [] (CV.tup [CV.d (D.str s3), CV.d (D.bool b4)]) []) ∧ (((!b4) = true → EndR (CV.tup [CV.d (D.agg [D.str [], D.int .i64 (0 : Int), D.int .i64 (0 : Int), D.int .i64 (0 : Int), D.slice (1 : Nat) [], D.slice (7 : Nat) []]), CV.d (D.int .i64 (3 : Int))]) res [((4 : Nat), [CV.d (D.str []), CV.d (D.int .i64 (0 : Int)), CV.d (D.int .i64 (0 : Int)), CV.d (D.int .i64 (0 : Int)), CV.own (1 : Nat) [], CV.own (7 : Nat) []])] objs') ∧ ((!b4) = false → ((List.length s3 ≤ 140737488355328) ∧ (∃ l5 : List D, (∃ n6 : Int, ((Runs P 76 [CV.d (D.slice 1 (List.map byteD s3))] [] (CV.ptr 21 0) [(21, [CV.d (D.slice 1 l5), CV.d (D.int .i64 n6)])]) ∧ (∃ b7 : Bool, (∃ l8 : List D, (∃ n9 : Int, (∃ s10 : Bytes, (∃ n11 : Int, (∃ n12 : Int, (∃ n13 : Int, (∃ l14 : List D, (∃ l15 : List D, ((Runs P 133 [CV.ptr 23 0, CV.d (D.str s1)] [(23, [CV.ptr 21 0, CV.d (D.bool false)]), (21, [CV.d (D.slice 1 l5), CV.d (D.int .i64 n6)])] (CV.d (D.agg [D.str s10, D.int .i64 n11, D.int .i64 n12, D.int .i64 n13, D.slice 1 l14, D.slice 7 l15])) [(23, [CV.ptr 21 0, CV.d (D.bool b7)]), (21, [CV.d (D.slice 1 l8), CV.d (D.int .i64 n9)])]) ∧ (∃ l16 : List D, (∃ n17 : Int, (∃ n18 : Int, ((Runs P 124 [CV.ptr 21 0] [(21, [CV.d (D.slice 1 l8), CV.d (D.int .i64 n9)])] (CV.d (D.int .i64 n18)) [(21, [CV.d (D.slice 1 l16), CV.d (D.int .i64 n17)])]) ∧ (∀ b19 : Bool, ((n18 != 0 && !b7) = b19 → (((b19) = true → (∃ l20 : List D, (∃ n21 : Int, (∃ n22 : Int, ((Runs P 124 [CV.ptr 21 0] [(21, [CV.d (D.slice 1 l16), CV.d (D.int .i64 n17)])] (CV.d (D.int .i64 n22)) [(21, [CV.d (D.slice 1 l20), CV.d (D.int .i64 n21)])]) ∧ EndR (CV.tup [CV.d (D.agg [D.str [], D.int .i64 0, D.int .i64 0, D.int .i64 0, D.slice 1 [], D.slice 7 []]), CV.d (D.int .i64 n22)]) res [(4, [CV.d (D.str []), CV.d (D.int .i64 0), CV.d (D.int .i64 0), CV.d (D.int .i64 0), CV.own 1 [], CV.own 7 []]), (21, [CV.d (D.slice 1 l20), CV.d (D.int .i64 n21)]), (23, [CV.ptr 21 0, CV.d (D.bool b7)]), (9, [CV.d (D.str s10), CV.d (D.int .i64 n11), CV.d (D.int .i64 n12), CV.d (D.int .i64 n13), CV.d (D.slice 1 l14), CV.d (D.slice 7 l15)])] objs'))))) ∧ ((b19) = false → (∃ n23 : Int, (((!b7) = true → Runs P 77 [CV.ptr 21 0] [(21, [CV.d (D.slice 1 l16), CV.d (D.int .i64 n17)])] (CV.d (D.int .i64 n23)) [(21, [CV.d (D.slice 1 l16), CV.d (D.int .i64 n17)])]) ∧ (∀ b24 : Bool, ((b7 || decide (n23 > 0)) = b24 → (∃ n25 : Int, (((!b24) = true → Runs P 35 [CV.d (D.agg [D.str s10, D.int .i64 n11, D.int .i64 n12, D.int .i64 n13, D.slice 1 l14, D.slice 7 l15])] [] (CV.d (D.int .i64 n25)) []) ∧ (∀ b26 : Bool, ((b24 || n25 != 0) = b26 → (((b26) = true → EndR (CV.tup [CV.d (D.agg [D.str [], D.int .i64 (0 : Int), D.int .i64 (0 : Int), D.int .i64 (0 : Int), D.slice (1 : Nat) [], D.slice (7 : Nat) []]), CV.d (D.int .i64 (3 : Int))]) res [(4, [CV.d (D.str []), CV.d (D.int .i64 0), CV.d (D.int .i64 0), CV.d (D.int .i64 0), CV.own 1 [], CV.own 7 []]), (21, [CV.d (D.slice 1 l16), CV.d (D.int .i64 n17)]), (23, [CV.ptr 21 0, CV.d (D.bool b7)]), (9, [CV.d (D.str s10), CV.d (D.int .i64 n11), CV.d (D.int .i64 n12), CV.d (D.int .i64 n13), CV.d (D.slice 1 l14), CV.d (D.slice 7 l15)])] objs') ∧ ((b26) = false → EndR (CV.tup [CV.d (D.agg [D.str s10, D.int .i64 n11, D.int .i64 n12, D.int .i64 n13, D.slice 1 l14, D.slice 7 l15]), CV.d (D.int .i64 0)]) res [(4, [CV.d (D.str s10), CV.d (D.int .i64 n11), CV.d (D.int .i64 n12), CV.d (D.int .i64 n13), CV.d (D.slice 1 l14), CV.d (D.slice 7 l15)]), (21, [CV.d (D.slice 1 l16), CV.d (D.int .i64 n17)]), (23, [CV.ptr 21 0, CV.d (D.bool b7)]), (9, [CV.d (D.str s10), CV.d (D.int .i64 n11), CV.d (D.int .i64 n12), CV.d (D.int .i64 n13), CV.d (D.slice 1 l14), CV.d (D.slice 7 l15)])] objs')))))))))))))))))))))))))))))))))))))))) := by kernel_rfl
theorem vc27 (l0 : List D) (s1 : Bytes) (res : CV) (objs' : List (Nat × List CV)) : walkA P (tbF P [163,148,112,129,134,118] [] 96) (anOf (afOf P HH 96) []) (afOf P HH 96) [CV.d (D.slice 1 l0), CV.d (D.str s1)] [] (fun rs => endE rs res objs') = ((∃ s2 : Bytes, ((l0 = List.map byteD s2) ∧ (∃ s3 : Bytes, (∃ b4 : Bool, ((Runs P 132 [CV.d (D.str s2), CV.d (D.str [77, 66, 50])] [] (CV.tup [CV.d (D.str s3), CV.d (D.bool b4)]) []) ∧ (((!b4) = true → EndR (CV.tup [CV.d (D.agg [D.str [], D.int .i64 (0 : Int), D.int .i64 (0 : Int), D.int .i64 (0 : Int), D.slice (1 : Nat) [], D.slice (7 : Nat) []]), CV.d (D.int .i64 (3 : Int))]) res [((4 : Nat), [CV.d (D.str []), CV.d (D.int .i64 (0 : Int)), CV.d (D.int .i64 (0 : Int)), CV.d (D.int .i64 (0 : Int)), CV.own (1 : Nat) [], CV.own (7 : Nat) []])] objs') ∧ ((!b4) = false → ((List.length s3 ≤ 140737488355328) ∧ (∃ l5 : List D, (∃ n6 : Int, ((Runs P 76 [CV.d (D.slice 1 (List.map byteD s3))] [] (CV.ptr 21 0) [(21, [CV.d (D.slice 1 l5), CV.d (D.int .i64 n6)])]) ∧ (∃ b7 : Bool, (∃ l8 : List D, (∃ n9 : Int, (∃ s10 : Bytes, (∃ n11 : Int, (∃ n12 : Int, (∃ n13 : Int, (∃ l14 : List D, (∃ l15 : List D, ((Runs P 137 [CV.ptr 23 0, CV.d (D.str s1)] [(23, [CV.ptr 21 0, CV.d (D.bool false)]), (21, [CV.d (D.slice 1 l5), CV.d (D.int .i64 n6)])] (CV.d (D.agg [D.str s10, D.int .i64 n11, D.int .i64 n12, D.int .i64 n13, D.slice 1 l14, D.slice 7 l15])) [(23, [CV.ptr 21 0, CV.d (D.bool b7)]), (21, [CV.d (D.slice 1 l8), CV.d (D.int .i64 n9)])]) ∧ (∃ l16 : List D, (∃ n17 : Int, (∃ n18 : Int, ((Runs P 124 [CV.ptr 21 0] [(21, [CV.d (D.slice 1 l8), CV.d (D.int .i64 n9)])] (CV.d (D.int .i64 n18)) [(21, [CV.d (D.slice 1 l16), CV.d (D.int .i64 n17)])]) ∧ (∀ b19 : Bool, ((n18 != 0 && !b7) = b19 → (((b19) = true → (∃ l20 : List D, (∃ n21 : Int, (∃ n22 : Int, ((Runs P 124 [CV.ptr 21 0] [(21, [CV.d (D.slice 1 l16), CV.d (D.int .i64 n17)])] (CV.d (D.int .i64 n22)) [(21, [CV.d (D.slice 1 l20), CV.d (D.int .i64 n21)])]) ∧ EndR (CV.tup [CV.d (D.agg [D.str [], D.int .i64 0, D.int .i64 0, D.int .i64 0, D.slice 1 [], D.slice 7 []]), CV.d (D.int .i64 n22)]) res [(4, [CV.d (D.str []), CV.d (D.int .i64 0), CV.d (D.int .i64 0), CV.d (D.int .i64 0), CV.own 1 [], CV.own 7 []]), (21, [CV.d (D.slice 1 l20), CV.d (D.int .i64 n21)]), (23, [CV.ptr 21 0, CV.d (D.bool b7)]), (9, [CV.d (D.str s10), CV.d (D.int .i64 n11), CV.d (D.int .i64 n12), CV.d (D.int .i64 n13), CV.d (D.slice 1 l14), CV.d (D.slice 7 l15)])] objs'))))) ∧ ((b19) = false → (∃ n23 : Int, (((!b7) = true → Runs P 77 [CV.ptr 21 0] [(21, [CV.d (D.slice 1 l16), CV.d (D.int .i64 n17)])] (CV.d (D.int .i64 n23)) [(21, [CV.d (D.slice 1 l16), CV.d (D.int .i64 n17)])]) ∧ (∀ b24 : Bool, ((b7 || decide (n23 > 0)) = b24 → (∃ n25 : Int, (((!b24) = true → Runs P 35 [CV.d (D.agg [D.str s10, D.int .i64 n11, D.int .i64 n12, D.int .i64 n13, D.slice 1 l14, D.slice 7 l15])] [] (CV.d (D.int .i64 n25)) []) ∧ (∀ b26 : Bool, ((b24 || n25 != 0) = b26 → (((b26) = true → EndR (CV.tup [CV.d (D.agg [D.str [], D.int .i64 (0 : Int), D.int .i64 (0 : Int), D.int .i64 (0 : Int), D.slice (1 : Nat) [], D.slice (7 : Nat) []]), CV.d (D.int .i64 (3 : Int))]) res [(4, [CV.d (D.str []), CV.d (D.int .i64 0), CV.d (D.int .i64 0), CV.d (D.int .i64 0), CV.own 1 [], CV.own 7 []]), (21, [CV.d (D.slice 1 l16), CV.d (D.int .i64 n17)]), (23, [CV.ptr 21 0, CV.d (D.bool b7)]), (9, [CV.d (D.str s10), CV.d (D.int .i64 n11), CV.d (D.int .i64 n12), CV.d (D.int .i64 n13), CV.d (D.slice 1 l14), CV.d (D.slice 7 l15)])] objs') ∧ ((b26) = false → EndR (CV.tup [CV.d (D.agg [D.str s10, D.int .i64 n11, D.int .i64 n12, D.int .i64 n13, D.slice 1 l14, D.slice 7 l15]), CV.d (D.int .i64 0)]) res [(4, [CV.d (D.str s10), CV.d (D.int .i64 n11), CV.d (D.int .i64 n12), CV.d (D.int .i64 n13), CV.d (D.slice 1 l14), CV.d (D.slice 7 l15)]), (21, [CV.d (D.slice 1 l16), CV.d (D.int .i64 n17)]), (23, [CV.ptr 21 0, CV.d (D.bool b7)]), (9, [CV.d (D.str s10), CV.d (D.int .i64 n11), CV.d (D.int .i64 n12), CV.d (D.int .i64 n13), CV.d (D.slice 1 l14), CV.d (D.slice 7 l15)])] objs')))))))))))))))))))))))))))))))))))))))) := by kernel_rfl
end B
end Go.Proofs.YtmkkljbfmdngfaaGreatDoor

namespace Go.Proofs.YtmkkljbfmdngfaaGreatDoor
namespace B
open Go.RowKit

def preB (s p : Bytes) : Bool := decide (p.length ≤ s.length) && s.take p.length == p
theorem r132 (s p : Bytes) : Runs P 100 [.d (.str s), .d (.str p)] [] (.d (.bool (preB s p))) [] := by
  refine runs_walkZ t132 (vc132 _ _ _ _) rfl (by simp) ?_
  refine ⟨fun h => ?_, ?_⟩
  · have h := of_decide_eq_true h
    simp only [nI] at h ⊢
    omega
  rintro _ rfl _ rfl
  refine endB ?_
  unfold preB
  have : (decide (nI s.length ≥ nI p.length)) = decide (p.length ≤ s.length) := by
    simp only [nI]; exact decide_eq_decide.2 (by omega)
  rw [this]; simp [nI]
theorem r106 (s p : Bytes) (hb : preB s p = true) : Runs P 164 [.d (.str s), .d (.str p)] [] (.tup [.d (.str (s.drop p.length)), .d (.bool true)]) [] := by
  refine runs_walkZ t106 (vc106 _ _ _ _) rfl (by simp) ?_
  refine ⟨_, r132 s p, fun h => ?_, fun _ => ?_⟩
  · rw [hb] at h; cases h
  have hl : p.length ≤ s.length := by
    unfold preB at hb; simp only [Bool.and_eq_true, decide_eq_true_eq] at hb; exact hb.1
  refine ⟨by simp only [nI]; omega, ?_⟩
  rintro _ rfl
  exact end0 (by simp [nI]) rfl
theorem r106n (s p : Bytes) (hb : preB s p = false) : Runs P 164 [.d (.str s), .d (.str p)] [] (.tup [.d (.str s), .d (.bool false)]) [] := by
  refine runs_walkZ t106 (vc106 _ _ _ _) rfl (by simp) ?_
  refine ⟨_, r132 s p, fun h => ?_, fun h => ?_⟩
  · exact end0 rfl rfl
  · rw [hb] at h; cases h
theorem r60 (s p : Bytes) (hb : preB s p = true) : Runs P 132 [.d (.str s), .d (.str p)] [] (.tup [.d (.str (s.drop p.length)), .d (.bool true)]) [] := by
  refine runs_walkZ t60 (vc60 _ _ _ _) rfl (by simp) ?_
  exact ⟨_, _, r106 s p hb, end0 rfl rfl⟩
theorem r60n (s p : Bytes) (hb : preB s p = false) : Runs P 132 [.d (.str s), .d (.str p)] [] (.tup [.d (.str s), .d (.bool false)]) [] := by
  refine runs_walkZ t60 (vc60 _ _ _ _) rfl (by simp) ?_
  exact ⟨_, _, r106n s p hb, end0 rfl rfl⟩
def box00 : Box := ⟨[], 0, 0, 0, [], []⟩
def resP : Except Int Box → CV
  | .ok b => .tup [.d b.d, .d (.int .i64 0)]
  | .error x => .tup [.d box00.d, .d (.int .i64 x)]
/-- A form parsed. -/
def parseP (p : Rd Box) (pre s : Bytes) : Except Int Box :=
  if preB s pre = true then (match p (s.drop pre.length) with
    | .error x => .error x
    | .ok (b, r) => if r = [] ∧ mayBox b = 0 then .ok b else .error 3)
  else .error 3
theorem new21 (s : Bytes) (h : s.length ≤ 1099511627776) : Runs P 76 [.d (.slice 1 (bs s))] [] (.ptr 21 0) [(21, rdr s 0)] := by
  have := (r61 s h).swap 6 21
  simpa [CV.ren, CV.ren1, renB, swp, Function.comp_def] using this
theorem at21 {f : Nat} {x : D} {s s' : Bytes} {e e' : Int} {off off' : Bool} {res : D} (h : Runs P f [.ptr 1000 0, .d x] (rdrs s e off) (.d res) (rdrs s' e' off')) :
    Runs P f [.ptr 23 0, .d x] [(23, [CV.ptr 21 0, CV.d (.bool off)]), (21, rdr s e)] (.d res) [(23, [CV.ptr 21 0, CV.d (.bool off')]), (21, rdr s' e')] := by
  have := (h.swap 1000 23).swap 1100 21
  simpa [CV.ren, CV.ren1, renB, swp, Function.comp_def] using this

theorem r24 (s name : Bytes) (hn : name.length ≤ 1099511627776) (hs : s.length ≤ 1099511627776) : Runs P 94 [.d (.slice 1 (bs s)), .d (.str name)] [] (resP (parseP (boxP1 name) [77, 66, 49] s)) [] := by
  refine runs_walkZ t24 (vc24 _ _ _ _) rfl (by simp) ?_
  refine ⟨s, rfl, ?_⟩
  cases hp : preB s [77, 66, 49] with
  | false =>
    have er : parseP (boxP1 name) [77, 66, 49] s = .error 3 := by unfold parseP; rw [hp]; rfl
    rw [er]
    exact ⟨_, _, r60n s _ hp, fun _ => end0 rfl rfl, fun h => by cases h⟩
  | true =>
    obtain ⟨t, ht⟩ : ∃ t, t = s.drop 3 := ⟨_, rfl⟩
    have lt : t.length ≤ 1099511627776 := by rw [ht, List.length_drop]; omega
    have er : parseP (boxP1 name) [77, 66, 49] s = match boxP1 name t with
      | .error x => .error x
      | .ok (b, r) => if r = [] ∧ mayBox b = 0 then .ok b else .error 3 := by unfold parseP; rw [if_pos hp, ht]; rfl
    rw [er]
    have w60 := r60 s [77, 66, 49] hp
    rw [show ([77, 66, 49] : Bytes).length = 3 from rfl, ← ht] at w60
    obtain ⟨b, s', e', off', hb, hst, w62⟩ := c62 t 0 false name hn lt
    refine ⟨_, _, w60, fun h => (by cases h), fun _ => ⟨by omega, _, _, new21 t lt, _, _, _, _, _, _, _, _, _, at21 w62, _, _, _, Runs.at (xs := []) (r63 s' e') 21, ?_⟩⟩
    rintro _ rfl
    rcases live_or e' off' with ⟨rfl, rfl⟩ | ⟨x, hx⟩
    · obtain ⟨_, _, hok⟩ := hst.ok rfl rfl
      rw [hok]
      refine ⟨fun h => (by cases h), fun _ => ⟨_, fun _ => Runs.at (xs := []) (r64 s' 0) 21, ?_⟩⟩
      rintro b24 rfl
      refine ⟨_, fun _ => r47 b hb.ok, ?_⟩
      rintro b26 rfl
      have e1 : ((false || decide ((s'.length : Int) > 0)) || mayBox b != 0) = !(decide (s' = [] ∧ mayBox b = 0)) := by
        cases s' with
        | nil =>
          by_cases hm : mayBox b = 0
          · simp [hm]
          · simp [hm]
        | cons c r => simp
      rw [e1]
      refine ⟨fun h => ?_, fun h => ?_⟩
      · have h : ¬ (s' = [] ∧ mayBox b = 0) := fun q => (by rw [decide_eq_true q] at h; cases h)
        simp only [if_neg h]
        exact end0 rfl rfl
      · have h : s' = [] ∧ mayBox b = 0 := by simpa using h
        simp only [if_pos h]
        exact end0 rfl rfl
    · have hok := hst.er hx
      rw [hok]
      cases off' with
      | true =>
        have hx : x = 3 := hx
        subst hx
        refine ⟨fun h => (by simp at h), fun _ => ⟨0, fun h => (by cases h), ?_⟩⟩
        rintro _ rfl
        refine ⟨0, fun h => (by cases h), ?_⟩
        rintro _ rfl
        exact ⟨fun _ => end0 rfl rfl, fun h => by cases h⟩
      | false =>
        obtain ⟨rfl, hx⟩ := hx
        refine ⟨fun _ => ⟨_, _, _, Runs.at (xs := []) (r63 s' e') 21, end0 rfl rfl⟩, fun h => ?_⟩
        simp [hx] at h

theorem r27 (s name : Bytes) (hn : name.length ≤ 1099511627776) (hs : s.length ≤ 1099511627776) : Runs P 96 [.d (.slice 1 (bs s)), .d (.str name)] [] (resP (parseP (boxP2 name) [77, 66, 50] s)) [] := by
  refine runs_walkZ t27 (vc27 _ _ _ _) rfl (by simp) ?_
  refine ⟨s, rfl, ?_⟩
  cases hp : preB s [77, 66, 50] with
  | false =>
    have er : parseP (boxP2 name) [77, 66, 50] s = .error 3 := by unfold parseP; rw [hp]; rfl
    rw [er]
    exact ⟨_, _, r60n s _ hp, fun _ => end0 rfl rfl, fun h => by cases h⟩
  | true =>
    obtain ⟨t, ht⟩ : ∃ t, t = s.drop 3 := ⟨_, rfl⟩
    have lt : t.length ≤ 1099511627776 := by rw [ht, List.length_drop]; omega
    have er : parseP (boxP2 name) [77, 66, 50] s = match boxP2 name t with
      | .error x => .error x
      | .ok (b, r) => if r = [] ∧ mayBox b = 0 then .ok b else .error 3 := by unfold parseP; rw [if_pos hp, ht]; rfl
    rw [er]
    have w60 := r60 s [77, 66, 50] hp
    rw [show ([77, 66, 50] : Bytes).length = 3 from rfl, ← ht] at w60
    obtain ⟨b, s', e', off', hb, hst, w62⟩ := c70 t 0 false name hn lt
    refine ⟨_, _, w60, fun h => (by cases h), fun _ => ⟨by omega, _, _, new21 t lt, _, _, _, _, _, _, _, _, _, at21 w62, _, _, _, Runs.at (xs := []) (r63 s' e') 21, ?_⟩⟩
    rintro _ rfl
    rcases live_or e' off' with ⟨rfl, rfl⟩ | ⟨x, hx⟩
    · obtain ⟨_, _, hok⟩ := hst.ok rfl rfl
      rw [hok]
      refine ⟨fun h => (by cases h), fun _ => ⟨_, fun _ => Runs.at (xs := []) (r64 s' 0) 21, ?_⟩⟩
      rintro b24 rfl
      refine ⟨_, fun _ => r47 b hb.ok, ?_⟩
      rintro b26 rfl
      have e1 : ((false || decide ((s'.length : Int) > 0)) || mayBox b != 0) = !(decide (s' = [] ∧ mayBox b = 0)) := by
        cases s' with
        | nil =>
          by_cases hm : mayBox b = 0
          · simp [hm]
          · simp [hm]
        | cons c r => simp
      rw [e1]
      refine ⟨fun h => ?_, fun h => ?_⟩
      · have h : ¬ (s' = [] ∧ mayBox b = 0) := fun q => (by rw [decide_eq_true q] at h; cases h)
        simp only [if_neg h]
        exact end0 rfl rfl
      · have h : s' = [] ∧ mayBox b = 0 := by simpa using h
        simp only [if_pos h]
        exact end0 rfl rfl
    · have hok := hst.er hx
      rw [hok]
      cases off' with
      | true =>
        have hx : x = 3 := hx
        subst hx
        refine ⟨fun h => (by simp at h), fun _ => ⟨0, fun h => (by cases h), ?_⟩⟩
        rintro _ rfl
        refine ⟨0, fun h => (by cases h), ?_⟩
        rintro _ rfl
        exact ⟨fun _ => end0 rfl rfl, fun h => by cases h⟩
      | false =>
        obtain ⟨rfl, hx⟩ := hx
        refine ⟨fun _ => ⟨_, _, _, Runs.at (xs := []) (r63 s' e') 21, end0 rfl rfl⟩, fun h => ?_⟩
        simp [hx] at h
end B
end Go.Proofs.YtmkkljbfmdngfaaGreatDoor

namespace Go.Proofs.YtmkkljbfmdngfaaGreatDoor
namespace B
open Go.RowKit

theorem mask1_bit (n : Nat) (k : Int) (j : Nat) (hk : 0 ≤ k) : (mask1 n k).testBit j = true ↔ n.testBit j = true ∨ (j < 32 ∧ (j : Int) = k) := by
  unfold mask1
  split
  · rw [Nat.testBit_or, Bool.or_eq_true, Nat.testBit_two_pow]
    simp only [decide_eq_true_eq]
    constructor
    · rintro (h | h)
      · exact .inl h
      · exact .inr ⟨by omega, by omega⟩
    · rintro (h | ⟨_, h⟩)
      · exact .inl h
      · exact .inr (by omega)
  · constructor
    · exact .inl
    · rintro (h | ⟨_, h⟩)
      · exact h
      · omega
theorem fold_bit (j : Nat) : ∀ (l : List Int) (n : Nat), (∀ k ∈ l, 0 ≤ k) → ((l.foldl mask1 n).testBit j = true ↔ n.testBit j = true ∨ (j < 32 ∧ (j : Int) ∈ l))
  | [], n, _ => by simp
  | k :: r, n, h => by
    rw [List.foldl_cons, fold_bit j r _ (fun x hx => h x (List.mem_cons_of_mem _ hx)), mask1_bit n k j (h k (List.mem_cons_self ..)), List.mem_cons]
    constructor
    · rintro ((h | h) | h)
      · exact .inl h
      · exact .inr ⟨h.1, .inl h.2⟩
      · exact .inr ⟨h.1, .inr h.2⟩
    · rintro (h | ⟨h, h1 | h1⟩)
      · exact .inl (.inl h)
      · exact .inl (.inr ⟨h, h1⟩)
      · exact .inr ⟨h, h1⟩
theorem mask_bit (l : List Int) (h : ∀ k ∈ l, 0 ≤ k) (j : Nat) : (maskN l).testBit j = true ↔ j < 32 ∧ (j : Int) ∈ l := by
  unfold maskN; rw [fold_bit j l 0 h]; simp
theorem keyBits_mem (m i : Nat) (k : Int) : k ∈ keyBits m i ↔ ∃ j : Nat, k = j ∧ j < i ∧ m.testBit j = true := by
  unfold keyBits
  simp only [List.mem_map, List.mem_filter, List.mem_range]
  constructor
  · rintro ⟨j, ⟨h1, h2⟩, rfl⟩; exact ⟨j, rfl, h1, h2⟩
  · rintro ⟨j, rfl, h1, h2⟩; exact ⟨j, ⟨h1, h2⟩, rfl⟩
theorem keyBits_nn (m i : Nat) : ∀ k ∈ keyBits m i, (0 : Int) ≤ k := fun k hk => by
  obtain ⟨j, rfl, _⟩ := (keyBits_mem m i k).1 hk; omega
theorem mask_keyBits (m : Nat) (h : m < 4294967296) : maskN (keyBits m 32) = m := by
  refine Nat.eq_of_testBit_eq fun j => Bool.eq_iff_iff.2 ?_
  rw [mask_bit _ (keyBits_nn m 32), keyBits_mem]
  constructor
  · rintro ⟨_, i, h1, _, h2⟩
    obtain rfl : j = i := by omega
    exact h2
  · intro hb
    have hj : j < 32 := by
      rcases Nat.lt_or_ge j 32 with h1 | h1
      · exact h1
      · rw [Nat.testBit_lt_two_pow (Nat.lt_of_lt_of_le h (Nat.pow_le_pow_right (n := 2) (by decide) h1))] at hb; cases hb
    exact ⟨hj, j, rfl, hj, hb⟩
theorem keysB_of {n : Int} {p : Nat → Bool} : ∀ (c a : Nat) (was : Int), was < a → (∀ j, a ≤ j → j < a + c → p j = true → (j : Int) < n) → keysB n was (((List.range' a c).filter p).map fun k : Nat => (k : Int)) = true
  | 0, a, was, _, _ => rfl
  | c + 1, a, was, h, hp => by
    rw [List.range'_succ, List.filter_cons]
    split
    · rename_i h1
      simp only [List.map_cons, keysB, Bool.and_eq_true, decide_eq_true_eq]
      exact ⟨⟨h, hp a (Nat.le_refl _) (by omega) h1⟩, keysB_of c (a + 1) a (by omega) fun j h2 h3 => hp j (by omega) (by omega)⟩
    · exact keysB_of c (a + 1) was (by omega) fun j h2 h3 => hp j (by omega) (by omega)
theorem keysB_bits {n : Int} {m : Nat} (h : ∀ j, j < 32 → m.testBit j = true → (j : Int) < n) : keysB n (-1) (keyBits m 32) = true := by
  unfold keyBits
  rw [List.range_eq_range']
  exact keysB_of 32 0 (-1) (by decide) fun j _ h2 => h j (by omega)

def projM (form : Nat) (name : Bytes) (m : Msg) : Msg := ⟨m.uid, if form = 2 then m.mod else 1, m.date, ownB name m.uid, m.flags, keyBits (maskN m.keys) 32, m.text⟩
def projB (form : Nat) (b : Box) : Box := ⟨b.id, b.valid, b.next, if form = 2 then b.high else 1, b.words.take (kept b), b.msgs.map (projM form b.id)⟩
theorem projB_kept (form : Nat) (b : Box) : kept (projB form b) = kept b := by
  unfold kept projB; simp only [List.length_take]; unfold kept; omega
theorem wordsB_take : ∀ (l pre : List Bytes) (k : Nat), wordsB pre l = true → wordsB pre (l.take k) = true
  | [], _, k, _ => by simp [wordsB]
  | w :: r, pre, 0, _ => rfl
  | w :: r, pre, k + 1, h => by
    simp only [wordsB, Bool.and_eq_true, List.take_succ_cons] at h ⊢
    exact ⟨h.1, wordsB_take r _ k h.2⟩
theorem digit_atom (u : Nat) : (Lib.decDigits u).all atomC = true := by
  induction u using Nat.strongRecOn with
  | ind u ih =>
    have hd : ∀ d : Fin 10, atomC (UInt8.ofNat (48 + d.val)) = true := by decide
    rw [Lib.decDigits]
    split
    · rename_i h
      simp only [List.all_cons, List.all_nil, Bool.and_true]
      exact hd ⟨u, h⟩
    · rw [List.all_append, ih (u / 10) (by omega)]
      simp only [List.all_cons, List.all_nil, Bool.and_true, Bool.true_and]
      exact hd ⟨u % 10, by omega⟩
theorem dec_len : ∀ (k u : Nat), u < 10 ^ (k + 1) → (Lib.decDigits u).length ≤ k + 1
  | 0, u, h => by rw [Lib.decDigits, dif_pos (by simpa using h)]; simp
  | k + 1, u, h => by
    rw [Lib.decDigits]
    split
    · simp
    · have := dec_len k (u / 10) (by rw [Nat.pow_succ] at h; omega)
      simp; omega
theorem own_atom {name : Bytes} {n : Int} (h : atomB name = true) (hl : name.length ≤ 12) (h1 : 1 ≤ n) (h2 : n ≤ 999999) : atomB (ownB name n) = true := by
  obtain ⟨u, rfl⟩ : ∃ u : Nat, n = u := ⟨n.toNat, by omega⟩
  have e : ownB name (u : Int) = [101] ++ Lib.decDigits u ++ [45] ++ name := by
    unfold ownB; rw [show max (u : Int) 0 = u by omega, Lib.itoa_nonneg]
  have hd := dec_len 5 u (by omega)
  rw [e]
  unfold atomB at h ⊢
  simp only [Bool.and_eq_true, decide_eq_true_eq] at h ⊢
  refine ⟨⟨?_, ?_⟩, ?_⟩
  · simp
  · simp; omega
  · rw [List.all_append, List.all_append, List.all_append, digit_atom, h.2]; decide
theorem projM_may {nw k : Nat} (hk : k = min nw 32) (form : Nat) {name : Bytes} (hn : atomB name = true) (hl : name.length ≤ 12) {m : Msg} (h : MsgMay nw m) : MsgMay k (projM form name m) := by
  refine ⟨h.uid, ?_, h.date, own_atom hn hl h.uid.1 h.uid.2, h.flags, keysB_bits fun j h1 h2 => ?_, h.text⟩
  · show 1 ≤ (if form = 2 then m.mod else 1) ∧ (if form = 2 then m.mod else 1) ≤ 1000000
    split
    · exact h.mod
    · decide
  · have h3 := (mask_bit _ (fun k hk => (h.key0 k hk).1) j).1 h2
    have h4 := h.key0 _ h3.2
    omega
theorem projMs_may {nw k : Nat} (hk : k = min nw 32) (form : Nat) {name : Bytes} (hn : atomB name = true) (hl : name.length ≤ 12) {next high : Int} : ∀ {l : List Msg} {was : Int}, msgsB nw next high was l = true → msgsB k next (if form = 2 then high else 1) was (l.map (projM form name)) = true
  | [], _, _ => rfl
  | m :: r, was, h => by
    simp only [msgsB, Bool.and_eq_true, decide_eq_true_eq, List.map_cons] at h ⊢
    obtain ⟨h1, h2, h3, h4, h5⟩ := h
    refine ⟨msgMay.2 (projM_may hk form hn hl (msgMay.1 h1)), h2, h3, ?_, projMs_may hk form hn hl h5⟩
    show (if form = 2 then m.mod else 1) ≤ (if form = 2 then high else 1)
    split
    · exact h4
    · exact Int.le_refl _
theorem projB_may (form : Nat) {b : Box} (h : BoxMay b) : BoxMay (projB form b) := by
  have e : (projB form b).words.length = min b.words.length 32 := by
    unfold projB; simp only [List.length_take]; unfold kept; omega
  refine ⟨h.id, h.valid, ?_, h.next, by rw [e]; omega, by unfold projB; simpa using h.nm, wordsB_take _ _ _ h.words, ?_⟩
  · show 1 ≤ (if form = 2 then b.high else 1) ∧ (if form = 2 then b.high else 1) ≤ 1000000
    split
    · exact h.high
    · decide
  · rw [e]; exact projMs_may rfl form h.id.1 h.id.2 h.msgs

theorem beV_fix (n : Nat) (h : n < 4294967296) : beV (fixB (n : Int)) = n := by
  have e : max (n : Int) 0 = n := by omega
  have b0 := by8_nat ((n : Int) / 16777216)
  have b1 := by8_nat ((n : Int) / 65536)
  have b2 := by8_nat ((n : Int) / 256)
  have b3 := by8_nat (n : Int)
  unfold fixB beV
  rw [e]
  simp only [List.foldl_cons, List.foldl_nil]
  omega
theorem fixed_fix (n : Int) (h0 : 0 ≤ n) (h : n < 4294967296) (r : Bytes) : fixedP (fixB n ++ r) = .ok (n, r) := by
  obtain ⟨u, rfl⟩ : ∃ u : Nat, n = u := ⟨n.toNat, by omega⟩
  unfold fixedP bytesP
  rw [if_neg (by rw [List.length_append, fix_len]; omega), show (4 : Nat) = (fixB (u : Int)).length from rfl, List.take_left, List.drop_left, beV_fix u (by omega)]
theorem byte_by8 (n : Int) (h0 : 0 ≤ n) (h : n < 256) (r : Bytes) : byteP ([by8 n] ++ r) = .ok (n, r) := by
  have := by8_nat n
  unfold byteP bytesP
  rw [if_neg (by simp)]
  have e : beV (List.take 1 ([by8 n] ++ r)) = (by8 n).toNat := by simp [beV]
  rw [e]
  simp only [Except.ok.injEq, Prod.mk.injEq]
  exact ⟨by omega, rfl⟩
theorem cnt_fix (m n : Int) (h0 : 0 ≤ n) (h : n ≤ m) (hm : m < 4294967296) (r : Bytes) : cntP m (fixB n ++ r) = .ok (n, r) := by
  unfold cntP
  rw [fixed_fix n h0 (by omega) r]
  simp only
  rw [if_neg (by omega)]
theorem str_take (t r : Bytes) : strP t.length (t ++ r) = .ok (t, r) := by
  unfold strP
  rw [if_neg (by rw [List.length_append]; omega), List.take_left, List.drop_left]
theorem text_txt (w r : Bytes) (h1 : 1 ≤ w.length) (h : w.length ≤ 24) : textP 24 (txtB w ++ r) = .ok (w, r) := by
  have e : txtB w = UInt8.ofNat w.length :: w := by
    unfold txtB numB
    rw [show (min (max (w.length : Int) 0) 1099511627776).toNat = w.length by omega, varB, dif_pos (by omega)]; rfl
  have hn : (UInt8.ofNat w.length).toNat = w.length := by simp; omega
  have e2 : numP (txtB w ++ r) = .ok (w.length, 1) := by
    unfold numP
    rw [e, List.cons_append, numGo, if_neg (by omega), if_neg (by rw [hn]; omega), hn]
    simp
  unfold textP
  rw [e2]
  simp only
  rw [if_neg (by omega), if_neg (by rw [e]; simp), e]
  simp [List.drop_append, Nat.add_comm]
theorem bind_ok {α β : Type} {p : Rd α} {f : α → Rd β} {s r : Bytes} {a : α} (h : p s = .ok (a, r)) : (p.bind f) s = f a r := by unfold Rd.bind; rw [h]
theorem rep_flat {α β : Type} {p : Rd β} {f : α → Bytes} {g : α → β} : ∀ (l : List α) (r : Bytes), (∀ x ∈ l, ∀ r, p (f x ++ r) = .ok (g x, r)) → ∀ i, i ≤ l.length → repP p i (l.flatMap f ++ r) = .ok ((l.take i).map g, (l.drop i).flatMap f ++ r)
  | l, r, h, 0, _ => rfl
  | l, r, h, i + 1, hi => by
    have h1 := rep_flat l r h i (by omega)
    have hd : l.drop i = l[i] :: l.drop (i + 1) := List.drop_eq_getElem_cons (by omega)
    rw [hd, List.flatMap_cons, List.append_assoc] at h1
    show ((repP p i).bind fun l => p.bind fun a => Rd.pure (l ++ [a])) _ = _
    rw [bind_ok h1, bind_ok (h l[i] (List.getElem_mem _) _), List.take_succ_eq_append_getElem (by omega), List.map_append]
    rfl
theorem rep_all {α β : Type} {p : Rd β} {f : α → Bytes} {g : α → β} (l : List α) (r : Bytes) (h : ∀ x ∈ l, ∀ r, p (f x ++ r) = .ok (g x, r)) : repP p l.length (l.flatMap f ++ r) = .ok (l.map g, r) := by
  rw [rep_flat l r h l.length (Nat.le_refl _), List.take_length, List.drop_length]; rfl
theorem msg_read1 {nw : Nat} (name : Bytes) {m : Msg} (h : MsgMay nw m) (r : Bytes) : msgP1 name (msgF 1 m ++ r) = .ok (projM 1 name m, r) := by
  have hk := mask_lt m.keys
  obtain ⟨u1, u2⟩ := h.uid
  obtain ⟨d1, d2⟩ := h.date
  obtain ⟨f1, f2⟩ := h.flags
  have ht := h.text
  unfold msgP1 msgF
  simp only [List.append_assoc, if_neg (show ¬ (1 : Nat) = 2 by decide), List.nil_append]
  rw [bind_ok (fixed_fix m.uid (by omega) (by omega) _), bind_ok (fixed_fix m.date d1 (by omega) _), bind_ok (byte_by8 m.flags f1 (by omega) _), bind_ok (fixed_fix (maskN m.keys : Int) (by omega) (by omega) _), bind_ok (cnt_fix 300 m.text.length (by omega) (by omega) (by decide) _), Int.toNat_natCast, bind_ok (str_take m.text r)]
  rfl
theorem msg_read2 {nw : Nat} (name : Bytes) {m : Msg} (h : MsgMay nw m) (r : Bytes) : msgP2 name (msgF 2 m ++ r) = .ok (projM 2 name m, r) := by
  have hk := mask_lt m.keys
  obtain ⟨u1, u2⟩ := h.uid
  obtain ⟨m1, m2⟩ := h.mod
  obtain ⟨d1, d2⟩ := h.date
  obtain ⟨f1, f2⟩ := h.flags
  have ht := h.text
  unfold msgP2 msgF
  simp only [List.append_assoc, if_pos]
  rw [bind_ok (fixed_fix m.uid (by omega) (by omega) _), bind_ok (fixed_fix m.mod (by omega) (by omega) _), bind_ok (fixed_fix m.date d1 (by omega) _), bind_ok (byte_by8 m.flags f1 (by omega) _), bind_ok (fixed_fix (maskN m.keys : Int) (by omega) (by omega) _), bind_ok (cnt_fix 300 m.text.length (by omega) (by omega) (by decide) _), Int.toNat_natCast, bind_ok (str_take m.text r)]
  rfl
theorem kept_le (b : Box) : kept b ≤ 32 ∧ (b.words.take (kept b)).length = kept b := by
  unfold kept; rw [List.length_take]; omega
def bodyB (form : Nat) (b : Box) : Bytes := fixB b.valid ++ fixB b.next ++ (if form = 2 then fixB b.high else []) ++ fixB (kept b) ++ wordsF b ++ fixB b.msgs.length ++ b.msgs.flatMap (msgF form)
theorem form_body (form : Nat) (b : Box) : formB form b = [77, 66, UInt8.ofNat (48 + form)] ++ bodyB form b := by
  unfold formB headF bodyB; simp only [List.append_assoc]
theorem words_read {b : Box} (h : BoxMay b) (r : Bytes) : repP (textP 24) (kept b) (wordsF b ++ r) = .ok (b.words.take (kept b), r) := by
  have := rep_all (p := textP 24) (f := txtB) (g := id) (b.words.take (kept b)) r fun w hw r => by
    have := atom_len (words_all h.words w (List.mem_of_mem_take hw))
    exact text_txt w r this.1 this.2
  rw [(kept_le b).2, List.map_id] at this
  exact this
theorem box_read1 {b : Box} (h : BoxMay b) (r : Bytes) : boxP1 b.id (bodyB 1 b ++ r) = .ok (projB 1 b, r) := by
  obtain ⟨v1, v2⟩ := h.valid
  obtain ⟨n1, n2⟩ := h.next
  have hnm := h.nm
  have hk := (kept_le b).1
  unfold boxP1 bodyB
  simp only [List.append_assoc, if_neg (show ¬ (1 : Nat) = 2 by decide), List.nil_append]
  rw [bind_ok (fixed_fix b.valid (by omega) (by omega) _), bind_ok (fixed_fix b.next (by omega) (by omega) _), bind_ok (cnt_fix 32 (kept b : Int) (by omega) (by omega) (by decide) _), Int.toNat_natCast, bind_ok (words_read h _), bind_ok (cnt_fix 60 (b.msgs.length : Int) (by omega) (by omega) (by decide) _), Int.toNat_natCast,
    bind_ok (rep_all b.msgs r fun m hm r => msg_read1 b.id (msgs_all h.msgs m hm).1 r)]
  rfl
theorem box_read2 {b : Box} (h : BoxMay b) (r : Bytes) : boxP2 b.id (bodyB 2 b ++ r) = .ok (projB 2 b, r) := by
  obtain ⟨v1, v2⟩ := h.valid
  obtain ⟨n1, n2⟩ := h.next
  obtain ⟨q1, q2⟩ := h.high
  have hnm := h.nm
  have hk := (kept_le b).1
  unfold boxP2 bodyB
  simp only [List.append_assoc, if_pos]
  rw [bind_ok (fixed_fix b.valid (by omega) (by omega) _), bind_ok (fixed_fix b.next (by omega) (by omega) _), bind_ok (fixed_fix b.high (by omega) (by omega) _), bind_ok (cnt_fix 32 (kept b : Int) (by omega) (by omega) (by decide) _), Int.toNat_natCast, bind_ok (words_read h _), bind_ok (cnt_fix 60 (b.msgs.length : Int) (by omega) (by omega) (by decide) _), Int.toNat_natCast,
    bind_ok (rep_all b.msgs r fun m hm r => msg_read2 b.id (msgs_all h.msgs m hm).1 r)]
  rfl
theorem pre_app (p s : Bytes) : preB (p ++ s) p = true := by
  unfold preB; simp
theorem parse_form1 {b : Box} (h : BoxMay b) : parseP (boxP1 b.id) [77, 66, 49] (formB 1 b) = .ok (projB 1 b) := by
  have e := box_read1 h []
  rw [List.append_nil] at e
  unfold parseP
  rw [show formB 1 b = ([77, 66, 49] : Bytes) ++ bodyB 1 b from form_body 1 b, if_pos (pre_app _ _), List.drop_left, e]
  simp only
  have hm := boxMay.2 (projB_may 1 h)
  rw [if_pos (by simpa using hm)]
theorem parse_form2 {b : Box} (h : BoxMay b) : parseP (boxP2 b.id) [77, 66, 50] (formB 2 b) = .ok (projB 2 b) := by
  have e := box_read2 h []
  rw [List.append_nil] at e
  unfold parseP
  rw [show formB 2 b = ([77, 66, 50] : Bytes) ++ bodyB 2 b from form_body 2 b, if_pos (pre_app _ _), List.drop_left, e]
  simp only
  have hm := boxMay.2 (projB_may 2 h)
  rw [if_pos (by simpa using hm)]
end B
end Go.Proofs.YtmkkljbfmdngfaaGreatDoor
