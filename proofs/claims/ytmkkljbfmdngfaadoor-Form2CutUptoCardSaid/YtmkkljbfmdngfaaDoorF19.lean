/- The old forms: what is cut short or goes on is none. Plain law. No condition. -/
import Derived.Test.YtmkkljbfmdngfaaDoorF18
set_option linter.all false
namespace Go.Proofs.YtmkkljbfmdngfaaDoor
namespace B
open Go.RowKit

structure GoodP {α : Type} (p : Rd α) : Prop where
  ext : ∀ s a r t, p s = .ok (a, r) → p (s ++ t) = .ok (a, r ++ t)
  er : ∀ s x, p s = .error x → x = 2 ∨ x = 3
theorem GoodP.pure {α : Type} (a : α) : GoodP (Rd.pure a) := ⟨fun s a r t h => by cases h; rfl, fun s x h => by cases h⟩
theorem GoodP.bind {α β : Type} {p : Rd α} {f : α → Rd β} (hp : GoodP p) (hf : ∀ a, GoodP (f a)) : GoodP (p.bind f) := by
  refine ⟨fun s b r t h => ?_, fun s x h => ?_⟩
  · unfold Rd.bind at h ⊢
    cases e : p s with
    | error x => rw [e] at h; cases h
    | ok q =>
      obtain ⟨a, r1⟩ := q
      rw [e] at h
      rw [hp.ext s a r1 t e]
      exact (hf a).ext r1 b r t h
  · unfold Rd.bind at h
    cases e : p s with
    | error y => rw [e] at h; cases h; exact hp.er s x e
    | ok q =>
      obtain ⟨a, r1⟩ := q
      rw [e] at h
      exact (hf a).er r1 x h
theorem good_bytes (k : Nat) : GoodP (bytesP k) := by
  refine ⟨fun s a r t h => ?_, fun s x h => ?_⟩
  · unfold bytesP at h ⊢
    split at h
    · cases h
    · rename_i hl
      cases h
      rw [if_neg (by rw [List.length_append]; omega), List.take_append_of_le_length (by omega), List.drop_append_of_le_length (by omega)]
  · unfold bytesP at h
    split at h
    · cases h; exact .inl rfl
    · cases h
theorem good_cnt (n : Int) : GoodP (cntP n) := by
  refine ⟨fun s a r t h => ?_, fun s x h => ?_⟩
  · unfold cntP at h ⊢
    cases e : fixedP s with
    | error x => rw [e] at h; cases h
    | ok q =>
      obtain ⟨a1, r1⟩ := q
      rw [e] at h
      rw [show fixedP (s ++ t) = _ from (good_bytes 4).ext s a1 r1 t e]
      simp only at h ⊢
      split at h
      · cases h
      · rename_i hh; cases h; rw [if_neg hh]
  · unfold cntP at h
    cases e : fixedP s with
    | error y => rw [e] at h; cases h; exact (good_bytes 4).er s x e
    | ok q =>
      rw [e] at h
      simp only at h
      split at h
      · cases h; exact .inr rfl
      · cases h
theorem good_str (n : Nat) : GoodP (strP n) := by
  refine ⟨fun s a r t h => ?_, fun s x h => ?_⟩
  · unfold strP at h ⊢
    split at h
    · cases h
    · cases h
      rw [if_neg (by rw [List.length_append]; omega), List.take_append_of_le_length (by omega), List.drop_append_of_le_length (by omega)]
  · unfold strP at h
    split at h
    · cases h; exact .inl rfl
    · cases h
theorem numGo_ext : ∀ (f i acc : Nat) (s t : Bytes) (n k : Nat), numGo f i acc s = .ok (n, k) → numGo f i acc (s ++ t) = .ok (n, k)
  | 0, _, _, _, _, _, _, h => by simp [numGo] at h
  | _ + 1, _, _, [], _, _, _, h => by simp [numGo] at h
  | f + 1, i, acc, c :: r, t, n, k, h => by
    rw [List.cons_append]
    rw [numGo] at h ⊢
    split at h
    · rename_i h1; rw [if_pos h1]; exact numGo_ext f (i + 1) _ r t n k h
    · rename_i h1
      rw [if_neg h1]
      exact h
theorem good_text (m : Int) : GoodP (textP m) := by
  refine ⟨fun s a r t h => ?_, fun s x h => ?_⟩
  · unfold textP at h ⊢
    cases e : numP s with
    | error x => rw [e] at h; cases h
    | ok q =>
      obtain ⟨n, k⟩ := q
      rw [e] at h
      have hk := numGo_len 6 0 0 s n k e
      have e2 : numP (s ++ t) = .ok (n, k) := numGo_ext 6 0 0 s t n k e
      rw [e2]
      simp only at h ⊢
      split at h
      · cases h
      · rename_i h1
        split at h
        · cases h
        · rename_i h2
          cases h
          rw [if_neg h1, if_neg (by rw [List.length_append]; omega), List.drop_append_of_le_length (by omega), List.take_append_of_le_length (by rw [List.length_drop]; omega), List.drop_append_of_le_length (by omega)]
  · unfold textP at h
    cases e : numP s with
    | error y => rw [e] at h; cases h; exact numGo_er 6 0 0 s x e
    | ok q =>
      obtain ⟨n, k⟩ := q
      rw [e] at h
      simp only at h
      split at h
      · cases h; exact .inr rfl
      · split at h
        · cases h; exact .inl rfl
        · cases h
theorem good_rep {α : Type} {p : Rd α} (h : GoodP p) : ∀ n, GoodP (repP p n)
  | 0 => GoodP.pure []
  | n + 1 => (good_rep h n).bind fun l => h.bind fun a => GoodP.pure (l ++ [a])
theorem good_msg1 (name : Bytes) : GoodP (msgP1 name) :=
  (good_bytes 4).bind fun _ => (good_bytes 4).bind fun _ => (good_bytes 1).bind fun _ => (good_bytes 4).bind fun _ => (good_cnt 300).bind fun _ => (good_str _).bind fun _ => GoodP.pure _
theorem good_msg2 (name : Bytes) : GoodP (msgP2 name) :=
  (good_bytes 4).bind fun _ => (good_bytes 4).bind fun _ => (good_bytes 4).bind fun _ => (good_bytes 1).bind fun _ => (good_bytes 4).bind fun _ => (good_cnt 300).bind fun _ => (good_str _).bind fun _ => GoodP.pure _
theorem good_box1 (name : Bytes) : GoodP (boxP1 name) :=
  (good_bytes 4).bind fun _ => (good_bytes 4).bind fun _ => (good_cnt 32).bind fun _ => (good_rep (good_text 24) _).bind fun _ => (good_cnt 60).bind fun _ => (good_rep (good_msg1 name) _).bind fun _ => GoodP.pure _
theorem good_box2 (name : Bytes) : GoodP (boxP2 name) :=
  (good_bytes 4).bind fun _ => (good_bytes 4).bind fun _ => (good_bytes 4).bind fun _ => (good_cnt 32).bind fun _ => (good_rep (good_text 24) _).bind fun _ => (good_cnt 60).bind fun _ => (good_rep (good_msg2 name) _).bind fun _ => GoodP.pure _
theorem parse_er {p : Rd Box} (hp : GoodP p) {pre s : Bytes} {x : Int} (h : parseP p pre s = .error x) : x = 2 ∨ x = 3 := by
  unfold parseP at h
  split at h
  · cases e : p (s.drop pre.length) with
    | error y => rw [e] at h; cases h; exact hp.er _ _ e
    | ok q =>
      rw [e] at h
      simp only at h
      split at h
      · cases h
      · cases h; exact .inr rfl
  · cases h; exact .inr rfl
/-- Cut short: no form. -/
theorem parse_cut {p : Rd Box} (hp : GoodP p) {pre body : Bytes} {c : Box} (h : p body = .ok (c, [])) {k : Nat} (hk : k < (pre ++ body).length) : ∃ x, parseP p pre ((pre ++ body).take k) = .error x ∧ (x = 2 ∨ x = 3) := by
  cases e : parseP p pre ((pre ++ body).take k) with
  | error x => exact ⟨x, rfl, parse_er hp e⟩
  | ok b =>
    exfalso
    unfold parseP at e
    split at e
    · rename_i hb
      have hl : pre.length ≤ k := by
        unfold preB at hb
        simp only [Bool.and_eq_true, decide_eq_true_eq, List.length_take] at hb
        omega
      have hd : ((pre ++ body).take k).drop pre.length = body.take (k - pre.length) := by
        rw [List.take_append, List.take_of_length_le hl, List.drop_left]
      rw [hd] at e
      cases e2 : p (body.take (k - pre.length)) with
      | error y => rw [e2] at e; cases e
      | ok q =>
        obtain ⟨b2, r⟩ := q
        rw [e2] at e
        simp only at e
        split at e
        · rename_i hr
          obtain ⟨rfl, _⟩ := hr
          have h3 := hp.ext _ _ _ (body.drop (k - pre.length)) e2
          rw [List.take_append_drop, h] at h3
          simp only [Except.ok.injEq, Prod.mk.injEq, List.nil_append] at h3
          have h4 := congrArg List.length h3.2
          rw [List.length_drop, List.length_nil] at h4
          rw [List.length_append] at hk
          omega
        · cases e
    · cases e
/-- One byte more: no form. -/
theorem parse_more {p : Rd Box} (hp : GoodP p) {pre body : Bytes} {c : Box} (h : p body = .ok (c, [])) (m : UInt8) : parseP p pre (pre ++ body ++ [m]) = .error 3 := by
  have h3 := hp.ext _ _ _ [m] h
  unfold parseP
  rw [List.append_assoc, if_pos (pre_app _ _), List.drop_left, h3]
  simp
end B
end Go.Proofs.YtmkkljbfmdngfaaDoor
