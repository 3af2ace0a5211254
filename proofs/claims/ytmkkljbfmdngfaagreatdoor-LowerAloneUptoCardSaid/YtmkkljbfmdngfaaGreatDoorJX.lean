/- What a form loses: plain. No condition. -/
import Derived.Test.YtmkkljbfmdngfaaGreatDoorIB
import Derived.Test.YtmkkljbfmdngfaaGreatDoorB30
import Derived.Test.YtmkkljbfmdngfaaGreatDoorLF
set_option linter.all false
namespace Go.Proofs.YtmkkljbfmdngfaaGreatDoor
namespace B
open Go.RowKit

theorem projM_proj (f g : Nat) (hf : f = 1 ∨ f = g) (n : Bytes) (m : Msg) : projM f n (projM g n m) = projM f n m := by
  have hm := mask_keyBits (maskN m.keys) (by have := mask_lt m.keys; omega)
  unfold projM
  simp only [hm, Msg.mk.injEq, true_and, and_true]
  rcases hf with rfl | rfl
  · simp
  · split <;> rfl
theorem projB_proj (f g : Nat) (hf : f = 1 ∨ f = g) (b : Box) : projB f (projB g b) = projB f b := by
  have hk := projB_kept g b
  unfold projB at hk ⊢
  simp only [Box.mk.injEq, true_and, hk]
  refine ⟨?_, ?_, ?_⟩
  · rcases hf with rfl | rfl
    · simp
    · split <;> rfl
  · rw [List.take_take, Nat.min_self]
  · rw [List.map_map]
    exact List.map_congr_left fun m _ => projM_proj f g hf _ m
theorem say_say {v : Int} (hv : v = 1 ∨ v = 2 ∨ v = 3) (b : Box) : sayB v (sayB v b) = sayB v b := by
  rcases hv with rfl | rfl | rfl
  · exact projB_proj 1 1 (.inl rfl) b
  · exact projB_proj 2 2 (.inr rfl) b
  · rfl
theorem say_older (b : Box) : sayB 1 (sayB 2 b) = sayB 1 b := projB_proj 1 2 (.inl rfl) b
structure Loss where
  kind : Int
  uid : Int
  text : Bytes
def Loss.d (l : Loss) : D := .agg [iD l.kind, iD l.uid, .str l.text]
def joinS : List Bytes → Bytes
  | [] => []
  | [s] => s
  | s :: r => s ++ [32] ++ joinS r
/-- The words of keys. -/
def wordsK (ws : List Bytes) (ks : List Int) : List Bytes := ks.filterMap fun k => if 0 ≤ k then ws[k.toNat]? else none
def lateK (ks : List Int) : List Int := ks.filter fun k => decide (32 ≤ k)
def lateS (ws : List Bytes) (ks : List Int) : Bytes := joinS (wordsK ws (lateK ks))
def textL (ws : List Bytes) (r : Row) : Bytes := if r.kind = 2 then lateS ws r.msg.keys else if r.kind = 6 ∨ r.kind = 7 then Lib.itoa r.mod else r.text
def lossOf (v : Int) (ws : List Bytes) (r : Row) : List Loss := ⟨r.kind, r.uid, textL ws r⟩ :: (if r.kind = 2 ∧ v = 1 ∧ r.mod ≠ 1 then [⟨6, r.uid, Lib.itoa r.mod⟩] else [])
def lossR (v : Int) (b : Box) : List Loss := (restR v b).flatMap (lossOf v b.words)
theorem lossOf_two (ws : List Bytes) (r : Row) : lossOf 2 ws r = [⟨r.kind, r.uid, textL ws r⟩] := by
  unfold lossOf; rw [if_neg (by rintro ⟨_, h, _⟩; cases h)]
theorem left_more (b : Box) (m : Msg) : (leftR 2 b m).length ≤ (leftR 1 b m).length := by
  unfold leftR
  simp only [List.length_append]
  rw [if_neg (show ¬ ((2 : Int) = 1 ∧ _ ∧ _) from by rintro ⟨h, _⟩; cases h)]
  simp
theorem len_flat_le {α β γ : Type} {f : α → List β} {g : α → List γ} : ∀ l : List α, (∀ x ∈ l, (f x).length ≤ (g x).length) → (l.flatMap f).length ≤ (l.flatMap g).length
  | [], _ => by simp
  | x :: r, h => by
    have h1 := h x (by simp)
    have h2 := len_flat_le r fun y hy => h y (by simp [hy])
    simp only [List.flatMap_cons, List.length_append]; omega
theorem loss_more (b : Box) : (lossR 2 b).length ≤ (lossR 1 b).length := by
  have h1 : (lossR 2 b).length = (restR 2 b).length := by
    unfold lossR
    induction restR 2 b with
    | nil => rfl
    | cons x r ih => simp only [List.flatMap_cons, List.length_append, lossOf_two, List.length_cons, List.length_nil, ih]; omega
  have h2 : (restR 1 b).length ≤ (lossR 1 b).length := by
    unfold lossR
    induction restR 1 b with
    | nil => simp
    | cons x r ih =>
      simp only [List.flatMap_cons, List.length_append, List.length_cons, lossOf]; omega
  have h3 : (restR 2 b).length ≤ (restR 1 b).length := by
    have := len_flat_le (f := leftR 2 b) (g := leftR 1 b) b.msgs fun m _ => left_more b m
    have e1 : (restR 2 b).length = (b.words.drop 32).length + (b.msgs.flatMap (leftR 2 b)).length := by
      unfold restR
      rw [if_neg (show ¬ (2 : Int) = 3 by decide), if_neg (show ¬ ((2 : Int) = 1 ∧ b.high ≠ 1) from fun h => by cases h.1)]
      simp only [List.nil_append, List.length_append, List.length_map]
    have e2 : (b.words.drop 32).length + (b.msgs.flatMap (leftR 1 b)).length ≤ (restR 1 b).length := by
      unfold restR
      rw [if_neg (show ¬ (1 : Int) = 3 by decide)]
      simp only [List.length_append, List.length_map]; omega
    omega
  omega
end B
end Go.Proofs.YtmkkljbfmdngfaaGreatDoor

namespace Go.Proofs.YtmkkljbfmdngfaaGreatDoor
namespace B
open Go.RowKit
variable {P : Program} {Γ : Froz} {ρ : Nat → Role} {bl : Nat → Nat} {w w' : World}

/-- What is known, and all of what is new. -/
def newG (n : Nat) (w' : World) (Γ : Froz) : Froz := fun a => if n ≤ a.block then w'.cell? a else Γ a
theorem newG_new {n : Nat} {a : Addr} {v : Value} (h : n ≤ a.block) (hc : w'.cell? a = some v) : newG n w' Γ a = some v := by unfold newG; rw [if_pos h]; exact hc
theorem SR.newG_le {st : St} {tmps : Array Value} (h : SR Γ ρ bl st tmps w) : Le Γ (newG w.heap.size w' Γ) := fun a v ha => by
  have := block_lt_of_cell (h.agree a v ha)
  unfold newG; rw [if_neg (by omega)]; exact ha
theorem SR.newAll {st : St} {tmps : Array Value} (h : SR Γ ρ bl st tmps w) (hb : Go.RowKit.Below w.heap.size w w') {c : CV} {v : Value} (hr : RepC (newG w.heap.size w' Γ) ρ bl w' (.s 0) c v) (hm : ∀ b, ¬ c.ment b) :
    SR (newG w.heap.size w' Γ) ρ bl ⟨[c], []⟩ #[v] w' ∧ Fr0 w Γ ρ w' (newG w.heap.size w' Γ) ρ := by
  have hw := h.world hb.size hb.block
  have old : ∀ g o, g < w.heap.size → newG w.heap.size w' Γ ⟨g, o, none⟩ = Γ ⟨g, o, none⟩ := fun g o hg => by
    unfold newG; rw [if_neg (by show ¬ w.heap.size ≤ g; omega)]
  refine ⟨⟨fun a v ha => ?_, rfl, fun i c' hc => ?_, fun b cs hb => ?_, fun b cs z l hb => ?_, fun g b z cap e => ?_, fun p b hb => ?_, fun g hg => ?_, h.gl.trans h.newG_le, fun b k t cs hb => ?_⟩, ⟨h.newG_le, hb.size, hb.os, hb.tape, hb.output, fun g hg hp => ⟨hb.block g hg, hp⟩, fun a v ha => ?_⟩⟩
  · unfold newG at ha
    split at ha
    · exact ha
    · exact hw.agree a v ha
  · cases i with
    | zero => simp at hc; subst hc; exact ⟨v, rfl, hr⟩
    | succ i => simp at hc
  · simp [St.bx] at hb
  · simp [St.bx] at hb
  · obtain ⟨arr, e', fz, k1, k2, k3, k4, k5⟩ := hw.rowk g b z cap e
    exact ⟨arr, e', fz, k1, k2, k3, k4, fun o => by rw [old g o (h.rho g (by rw [e]; simp))]; exact k5 o⟩
  · exfalso
    cases p with
    | s n =>
      simp only [St.get, List.getD_eq_getElem?_getD] at hb
      cases n with
      | zero => exact hm b (by simpa using hb)
      | succ n => exact (show CV.ment b .junk from by simpa using hb).elim
    | b n => exact (show CV.ment b .junk from by simpa [St.get, St.bx] using hb).elim
  · exact hw.rho g hg
  · simp [St.bx] at hb
  · unfold newG at ha
    split at ha
    · rename_i hc; exact .inr (.inl hc)
    · exact .inl ha

abbrev pl : Nat → Role := fun _ => .plain
structure Dat (Γ : Froz) (w : World) : Prop where
  agree : ∀ a v, Γ a = some v → w.cell? a = some v
  gl : Le Gl Γ
theorem SR.dat {st : St} {tmps : Array Value} (h : SR Γ ρ bl st tmps w) : Dat Γ w := ⟨h.agree, h.gl⟩
theorem Dat.below (h : Dat Γ w) (hb : Go.RowKit.Below w.heap.size w w') : Dat Γ w' := ⟨fun a v ha => by
  have := h.agree a v ha
  rw [World.cell?_of_block (hb.block a.block (block_lt_of_cell this))]; exact this, h.gl⟩
theorem Dat.lt (h : Dat Γ w) {a : Addr} {v : Value} (ha : Γ a = some v) : a.block < w.heap.size := block_lt_of_cell (h.agree a v ha)
theorem Dat.none_new (h : Dat Γ w) {a : Addr} (ha : w.heap.size ≤ a.block) : Γ a = none := by
  cases e : Γ a with
  | none => rfl
  | some v => have := h.lt e; omega
theorem GzOk.below (h : GzOk pl w) (hb : Go.RowKit.Below w.heap.size w w') : GzOk pl w' := by
  obtain ⟨m, h⟩ := h
  refine ⟨m, fun g row hg => ?_⟩
  obtain ⟨h1, t, fz, h2⟩ := h g row hg
  exact ⟨rfl, t, fz, (hb.block g (Array.getElem?_eq_some_iff.1 h2).1).trans h2⟩
/-- The values of data. -/
def RepV (Γ : Froz) (ds : List D) (vs : List Value) : Prop := ds.length = vs.length ∧ ∀ (i : Nat) d v, ds[i]? = some d → vs[i]? = some v → Rep Γ d v
theorem RepV.mono {Γ' : Froz} (h : Le Γ Γ') {ds : List D} {vs : List Value} (r : RepV Γ ds vs) : RepV Γ' ds vs := ⟨r.1, fun i d v hd hv => (r.2 i d v hd hv).mono h⟩
theorem Dat.sr (h : Dat Γ w) {ds : List D} {vs : List Value} (hr : RepV Γ ds vs) : SR Γ pl bl ⟨ds.map .d, []⟩ vs.toArray w := by
  refine ⟨h.agree, by simp [hr.1], fun i c hc => ?_, fun b cs hb => (by simp [St.bx] at hb), fun b cs z l hb => (by simp [St.bx] at hb), fun g b z cap e => (by cases e), fun p b hb => ?_, fun g hg => (hg rfl).elim, h.gl, fun b k t cs hb => (by simp [St.bx] at hb)⟩
  · simp only [List.getElem?_map, Option.map_eq_some_iff] at hc
    obtain ⟨d, hd, rfl⟩ := hc
    have hi : i < ds.length := (List.getElem?_eq_some_iff.1 hd).1
    have hi' : i < vs.length := by rw [← hr.1]; exact hi
    exact ⟨vs[i], by simp [hi'], hr.2 i d _ hd (List.getElem?_eq_getElem hi')⟩
  · exfalso
    cases p with
    | s n =>
      simp only [St.get, List.getD_eq_getElem?_getD, List.getElem?_map] at hb
      cases e : ds[n]? with
      | none => rw [e] at hb; exact hb
      | some d => rw [e] at hb; exact hb
    | b n => simp [St.get, St.bx] at hb; exact hb
theorem Fr0.toBelow {Γ' : Froz} {ρ' : Nat → Role} (h : Fr0 w Γ pl w' Γ' ρ') : Go.RowKit.Below w.heap.size w w' := ⟨h.os, h.tape, h.output, h.size, fun g hg => (h.block g hg rfl).1⟩
theorem Runs.dat {f : Nat} {ds : List D} {d : D} (hR : Runs P f (ds.map .d) [] (.d d) []) (h : Dat Γ w) (hz : GzOk pl w) {vs : List Value} (hr : RepV Γ ds vs) :
    Calls P f vs.toArray w fun e w' => ∃ v Γ', e = .returned v ∧ Rep Γ' d v ∧ Le Γ Γ' ∧ Dat Γ' w' ∧ Go.RowKit.Below w.heap.size w w' := by
  refine (hR.2 Γ pl (fun _ => 0) vs.toArray w (h.sr hr) hz).mono ?_
  rintro e w' ⟨v, Γ', ρ', bl', rfl, hs, hf, _⟩
  obtain ⟨u, hu, hc⟩ := hs.slots 0 _ rfl
  have hu : v = u := by simpa using hu
  subst hu
  exact ⟨v, Γ', rfl, hc, hf.le, hs.dat, hf.toBelow⟩
theorem Runs.datT {f : Nat} {ds es : List D} (hR : Runs P f (ds.map .d) [] (.tup (es.map .d)) []) (h : Dat Γ w) (hz : GzOk pl w) {vs : List Value} (hr : RepV Γ ds vs) :
    Calls P f vs.toArray w fun e w' => ∃ us Γ', e = .returned (.tuple us.toArray) ∧ RepV Γ' es us ∧ Le Γ Γ' ∧ Dat Γ' w' ∧ Go.RowKit.Below w.heap.size w w' := by
  refine (hR.2 Γ pl (fun _ => 0) vs.toArray w (h.sr hr) hz).mono ?_
  rintro e w' ⟨v, Γ', ρ', bl', rfl, hs, hf, _⟩
  obtain ⟨u, hu, us, hc, h1, h2⟩ := hs.slots 0 _ rfl
  have hu : v = u := by simpa using hu
  subst hu; subst hc
  refine ⟨us, Γ', rfl, ⟨by simpa using h1, fun i d v hd hv => ?_⟩, hf.le, hs.dat, hf.toBelow⟩
  exact h2 i (.d d) v (by simp [hd]) hv
end B
end Go.Proofs.YtmkkljbfmdngfaaGreatDoor

namespace Go.Proofs.YtmkkljbfmdngfaaGreatDoor
namespace B
open Go.RowKit LA

theorem box_vals {Γ : Froz} {b : Box} {v : Value} (h : Rep Γ b.d v) : ∃ ws ms, v = .agg #[.string ⟨b.id.toArray⟩, .int .i64 b.valid, .int .i64 b.next, .int .i64 b.high, ws, ms] ∧ Rep Γ (.slice 1 (strs b.words)) ws ∧ Rep Γ (.slice 7 (b.msgs.map Msg.d)) ms := by
  unfold Box.d at h
  cases h with
  | agg _ vs hl hf hr =>
    match vs, hl with
    | [v0, v1, v2, v3, v4, v5], _ =>
      have r0 := hr 0 _ _ rfl rfl
      have r1 := hr 1 _ _ rfl rfl
      have r2 := hr 2 _ _ rfl rfl
      have r3 := hr 3 _ _ rfl rfl
      have r4 := hr 4 _ _ rfl rfl
      have r5 := hr 5 _ _ rfl rfl
      cases r0; cases r1; cases r2; cases r3
      exact ⟨v4, v5, rfl, r4, r5⟩
def keyJ (b : Box) (j : Nat) : List Int := (b.msgs[j]?.map Msg.keys).getD []
def uidJ (b : Box) (j : Nat) : Int := (b.msgs[j]?.map Msg.uid).getD 0
def ownJ (b : Box) (j : Nat) : ByteArray := ⟨(ownB b.id (uidJ b j)).toArray⟩
theorem keyJ_eq {b : Box} {j : Nat} (h : j < b.msgs.length) : keyJ b j = b.msgs[j].keys := by simp [keyJ, h]
theorem uidJ_eq {b : Box} {j : Nat} (h : j < b.msgs.length) : uidJ b j = b.msgs[j].uid := by simp [uidJ, h]
theorem msg_cell {Γ : Froz} {l : List Msg} {xm : List Value} (r : RepF Γ 7 (l.map Msg.d) xm) {j k : Nat} (hj : j < l.length) (hk : k < 7) : ∃ u, xm[j * 7 + k]? = some u ∧ Rep Γ (l[j].cs[k]'(by show k < 7; exact hk)) u := by
  have hg := flatten_get (sz := 7) r.uni j k hk
  have h1 : (l.map Msg.d)[j]? = some l[j].d := by simp [hj]
  rw [h1] at hg
  have h2 : (flatten (l.map Msg.d))[j * 7 + k]? = some (l[j].cs[k]'(by show k < 7; exact hk)) := by
    rw [hg]
    show l[j].cs[k]? = _
    exact List.getElem?_eq_getElem _
  have h3 : j * 7 + k < xm.length := by rw [← r.len]; exact (List.getElem?_eq_some_iff.1 h2).1
  exact ⟨xm[j * 7 + k], List.getElem?_eq_getElem h3, r.rep _ _ _ h2 (List.getElem?_eq_getElem h3)⟩
theorem sl_of {Γ : Froz} {w : World} (hD : Dat Γ w) {z : Nat} {l : List D} {v : Value} (h : Rep Γ (.slice z l) v) : ∃ xs, SlV w v l.length xs ∧ RepF Γ z l xs := by
  obtain ⟨ao, c, vs, rfl, hf, hne, ha⟩ := slice_vals h
  exact ⟨vs, ⟨ao, c, rfl, hne, fun a e j u hu => hD.agree _ _ ((ha a e).2 j u hu)⟩, hf⟩
theorem fit_of {Γ : Froz} {w : World} (hD : Dat Γ w) {b : Box} (hb : BoxMay b) {ws ms : Value} (h1 : Rep Γ (.slice 1 (strs b.words)) ws) (h2 : Rep Γ (.slice 7 (b.msgs.map Msg.d)) ms) :
    ∃ xw xm, Fit w ws ms b.words.length b.msgs.length xw xm (fun j => (keyJ b j).length) (fun j => ivs (keyJ b j)) ∧ RepF Γ 1 (strs b.words) xw ∧ RepF Γ 7 (b.msgs.map Msg.d) xm := by
  obtain ⟨xw, s1, f1⟩ := sl_of hD h1
  obtain ⟨xm, s2, f2⟩ := sl_of hD h2
  rw [strs_len] at s1
  rw [List.length_map] at s2
  have hw := hb.nw
  have hm := hb.nm
  refine ⟨xw, xm, ⟨s1, s2, by have := f1.vs_len; rw [strs_len] at this; omega, by have := f2.vs_len; rwa [List.length_map] at this, by omega, by omega, f1.one, f2.one, fun j hj => ?_⟩, f1, f2⟩
  obtain ⟨kv, k1, k2⟩ := msg_cell f2 hj (show 5 < 7 by decide)
  have k2 : Rep Γ (.slice 1 (ints b.msgs[j].keys)) kv := k2
  obtain ⟨xs, s3, f3⟩ := sl_of hD k2
  have e3 : xs = ivs b.msgs[j].keys := ints_rep f3
  have hkl := ((msgsMay.1 hb.msgs).all _ (List.getElem_mem hj)).2.1.keyLen
  rw [keyJ_eq hj]
  rw [ints_len, e3] at s3
  exact ⟨kv, k1, s3, by simp, by omega, fun u hu => by obtain ⟨x, _, rfl⟩ := List.mem_map.1 hu; rfl⟩
/-- What is new, as data. -/
theorem own_rep {Γ : Froz} {w w' : World} {e sz n : Nat} {v : Value} {xs : List Value} {l : List D} (h : w'.ownsRow w.heap.size e sz v n xs) (hr : RepF (newG w.heap.size w' Γ) sz l xs) (hn : l.length = n) : Rep (newG w.heap.size w' Γ) (.slice sz l) v := by
  subst hn
  rcases h.2 with ⟨h1, h2⟩ | ⟨g, c, cur, h1, h2, h3, h4, h5, h6, h7⟩
  · obtain rfl : l = [] := List.eq_nil_of_length_eq_zero h2
    rw [h1]; exact .nil sz
  · rw [h1]
    have hlen := hr.len
    have hcell : ∀ i u, xs[i]? = some u → w'.cell? ⟨g, i, none⟩ = some u := fun i u hu => by
      rw [Lib.cell_of_heap h3]
      rw [← h7, List.getElem?_take] at hu
      split at hu
      · simpa using hu
      · cases hu
    refine .slice sz l ⟨g, 0, none⟩ c (fun i => xs.getD i undef) rfl h4 hr.uni hr.flat (fun i d hd => ?_) fun i d hd => ?_
    · have hi : i < xs.length := by rw [← hlen]; exact (List.getElem?_eq_some_iff.1 hd).1
      have hu : xs[i]? = some xs[i] := List.getElem?_eq_getElem hi
      rw [Addr.add_lit', Nat.zero_add, List.getD_eq_getElem?_getD, hu]
      exact newG_new h2 (hcell i _ hu)
    · have hi : i < xs.length := by rw [← hlen]; exact (List.getElem?_eq_some_iff.1 hd).1
      have hu : xs[i]? = some xs[i] := List.getElem?_eq_getElem hi
      rw [List.getD_eq_getElem?_getD, hu]
      exact hr.rep i d _ hd hu
theorem row_take {w : World} {b e n k : Nat} {ao : Option Addr} {c : Nat} {xs : List Value} (h : w.ownsRow b e 1 (.slice ao n c) n xs) (hk : k ≤ n) : w.ownsRow b e 1 (.slice ao k c) k (xs.take k) := by
  refine ⟨by rw [List.length_take, h.1]; omega, ?_⟩
  rcases h.2 with ⟨h1, h2⟩ | ⟨g, cap, cur, h1, h2, h3, h4, h5, h6, h7⟩
  · injection h1 with e1 e2 e3
    subst e1; subst e3
    obtain rfl : k = 0 := by omega
    exact .inl ⟨rfl, rfl⟩
  · injection h1 with e1 e2 e3
    subst e1; subst e3
    exact .inr ⟨g, c, cur, rfl, h2, h3, by omega, h5, h6, by rw [← h7, List.take_take]; congr 1; omega⟩
theorem strs_take {Γ : Froz} {l : List Bytes} {xs : List Value} (h : RepF Γ 1 (strs l) xs) (k : Nat) : RepF Γ 1 (strs (l.take k)) (xs.take k) := by
  have e : strs (l.take k) = (strs l).take k := by unfold strs; rw [List.map_take]
  have hf := flatten_take h.uni k
  rw [e]
  rw [Nat.mul_one] at hf
  refine ⟨fun x hx => h.uni x (List.mem_of_mem_take hx), fun d hd => h.flat d (by rw [hf] at hd; exact List.mem_of_mem_take hd), by rw [hf, List.length_take, List.length_take, h.len], fun i d u hd hu => ?_⟩
  rw [hf] at hd
  rw [List.getElem?_take] at hd hu
  split at hd
  · rename_i hik; rw [if_pos hik] at hu; exact h.rep i d u hd hu
  · cases hd
/-- Messages, cell by cell. -/
theorem msgs_rep {Γ : Froz} {l : List Msg} {xs : List Value} (hl : xs.length = l.length * 7) (h : ∀ j (hj : j < l.length) k (hk : k < 7), ∃ u, xs[j * 7 + k]? = some u ∧ Rep Γ (l[j].cs[k]'(by show k < 7; exact hk)) u) : RepF Γ 7 (l.map Msg.d) xs := by
  have uni : ∀ x ∈ l.map Msg.d, x.cells.length = 7 := fun x hx => by obtain ⟨m, _, rfl⟩ := List.mem_map.1 hx; rfl
  have hfl := flatten_length uni
  rw [List.length_map] at hfl
  have cell : ∀ i, i < l.length * 7 → ∃ d u, (flatten (l.map Msg.d))[i]? = some d ∧ xs[i]? = some u ∧ Rep Γ d u ∧ d.flat = true := fun i hi => by
    have hj : i / 7 < l.length := by omega
    have hk : i % 7 < 7 := Nat.mod_lt _ (by decide)
    obtain ⟨u, h1, h2⟩ := h (i / 7) hj (i % 7) hk
    have hi' : i / 7 * 7 + i % 7 = i := by omega
    have hg := flatten_get (sz := 7) uni (i / 7) (i % 7) hk
    rw [hi'] at hg h1
    rw [show (l.map Msg.d)[i / 7]? = some l[i / 7].d from by simp [hj]] at hg
    refine ⟨_, u, hg.trans (List.getElem?_eq_getElem (by show i % 7 < 7; exact hk)), h1, h2, ?_⟩
    have : ∀ k (hk : k < 7), (l[i / 7].cs[k]'(by show k < 7; exact hk)).flat = true := fun k hk => by
      match k, hk with
      | 0, _ => rfl
      | 1, _ => rfl
      | 2, _ => rfl
      | 3, _ => rfl
      | 4, _ => rfl
      | 5, _ => rfl
      | 6, _ => rfl
    exact this _ hk
  refine ⟨uni, fun d hd => ?_, by rw [hfl, hl], fun i d u hd hu => ?_⟩
  · obtain ⟨i, hi, rfl⟩ := List.mem_iff_getElem.1 hd
    obtain ⟨d', u, h1, _, _, h4⟩ := cell i (by omega)
    rw [List.getElem?_eq_getElem hi] at h1
    cases h1; exact h4
  · have hi : i < (flatten (l.map Msg.d)).length := (List.getElem?_eq_some_iff.1 hd).1
    obtain ⟨d', u', h1, h2, h3, _⟩ := cell i (by omega)
    rw [hd] at h1; cases h1
    rw [hu] at h2; cases h2
    exact h3
end B
end Go.Proofs.YtmkkljbfmdngfaaGreatDoor

namespace Go.Proofs.YtmkkljbfmdngfaaGreatDoor
namespace B
open Go.RowKit LA

theorem box_rep {Γ : Froz} {b : Box} {ws ms : Value} (h1 : Rep Γ (.slice 1 (strs b.words)) ws) (h2 : Rep Γ (.slice 7 (b.msgs.map Msg.d)) ms) : Rep Γ b.d (.agg #[.string ⟨b.id.toArray⟩, .int .i64 b.valid, .int .i64 b.next, .int .i64 b.high, ws, ms]) := by
  refine Rep.agg b.cs [.string ⟨b.id.toArray⟩, .int .i64 b.valid, .int .i64 b.next, .int .i64 b.high, ws, ms] rfl (fun d hd => ?_) fun i d v hd hv => ?_
  · simp only [Box.cs, List.mem_cons, List.not_mem_nil, or_false] at hd
    rcases hd with rfl | rfl | rfl | rfl | rfl | rfl <;> rfl
  · match i with
    | 0 => cases hd; cases hv; exact .str _
    | 1 => cases hd; cases hv; exact .int _ _
    | 2 => cases hd; cases hv; exact .int _ _
    | 3 => cases hd; cases hv; exact .int _ _
    | 4 => cases hd; cases hv; exact h1
    | 5 => cases hd; cases hv; exact h2
    | i + 6 => simp [Box.cs] at hd
theorem box2_rep {Γ : Froz} {b : Box} {bv : Value} {v : Int} (h : Rep Γ b.d bv) : RepV Γ [iD v, b.d] [.int .i64 v, bv] := by
  refine ⟨rfl, fun i d u hd hu => ?_⟩
  match i with
  | 0 => cases hd; cases hu; exact .int _ _
  | 1 => cases hd; cases hu; exact h
  | i + 2 => simp at hd
def projV (v : Int) (b : Box) : Box × Int := if (1 ≤ v ∧ v ≤ 3) ∧ mayBox b = 0 then (sayB v b, 0) else (box00, 1)
theorem resM_tup (v : Int) (b : Box) : ∃ x y, resM v b = .tup ([x, y, iD (projV v b).2].map .d) := by
  unfold resM projV
  split
  · exact ⟨_, _, rfl⟩
  · exact ⟨_, _, rfl⟩
theorem hyp_of {Γ : Froz} {w : World} (hD : Dat Γ w) (hz : GzOk pl w) {v : Int} {b : Box} (hb : BoxOk b) (hid : b.id.length ≤ 1099511627776) (hu : ∀ j, j < b.msgs.length → uidJ b j ≤ 9223372036854775807) {bv : Value} (hbv : Rep Γ b.d bv) :
    Hyp w v ⟨b.id.toArray⟩ bv b.msgs.length (uidJ b) (ownJ b) (projV v b).2 := by
  refine ⟨fun W hW => ?_, fun j W hj hW => ?_, fun W kv ks _ h => del55 _ W kv ks h⟩
  · obtain ⟨x, y, e⟩ := resM_tup v b
    have h16 := z16 v b hb
    rw [e] at h16
    refine (Runs.datT (ds := [iD v, b.d]) (vs := [.int .i64 v, bv]) h16 (hD.below hW) (hz.below hW) (box2_rep hbv)).mono ?_
    rintro e' w' ⟨us, Γ', rfl, hr, _, _, hbl⟩
    obtain ⟨h1, h2⟩ := hr
    match us, h1 with
    | [u0, u1, u2], _ =>
      have := h2 2 _ u2 rfl rfl
      cases this
      exact ⟨u0, u1, rfl, hbl⟩
  · have h57 := r88 b.id (uidJ b j) (hu j hj) hid
    refine (Runs.dat (ds := [.str b.id, iD (uidJ b j)]) (vs := [.string ⟨b.id.toArray⟩, .int .i64 (uidJ b j)]) h57 (hD.below hW) (hz.below hW) ⟨rfl, fun i d u hd hu => ?_⟩).mono ?_
    · match i with
      | 0 => cases hd; cases hu; exact .str _
      | 1 => cases hd; cases hu; exact .int _ _
      | i + 2 => simp at hd
    · rintro e' w' ⟨u, Γ', rfl, hr, _, _, hbl⟩
      cases hr
      exact ⟨rfl, hbl⟩
theorem tup2_rep {Γ : Froz} {ρ : Nat → Role} {bl : Nat → Nat} {w : World} {d : D} {v : Value} {e : Int} (h : Rep Γ d v) : RepC Γ ρ bl w (.s 0) (.tup [.d d, .d (iD e)]) (.tuple #[v, .int .i64 e]) := by
  refine ⟨[v, .int .i64 e], rfl, rfl, fun i c u hc hu => ?_⟩
  match i with
  | 0 => cases hc; cases hu; exact h
  | 1 => cases hc; cases hu; exact Rep.int _ _
  | i + 2 => simp at hc
theorem tup2_ment {d : D} {e : Int} : ∀ b, ¬ (CV.tup [.d d, .d (iD e)]).ment b := by
  rintro b ⟨c, hc, hm⟩
  simp at hc
  rcases hc with rfl | rfl <;> exact hm
theorem fl_keys {nw : Nat} {m : Msg} (h : MsgMay nw m) (hn : nw ≤ 64) : keyBits (maskN m.keys) 32 = fl m.keys := keyBits_eq h hn
theorem z22 (v : Int) (b : Box) (hb : BoxOk b) : Runs P 22 [.d (iD v), .d b.d] [] (.tup [.d (projV v b).1.d, .d (iD (projV v b).2)]) [] := by
  refine ⟨⟨Tryz.f22, Tryz.func22, by kernel_rfl, by kernel_rfl⟩, fun Γ ρ bl vals w h hz => ?_⟩
  obtain ⟨v0, bv, rfl, hv0, hbv⟩ := vals2 h
  obtain rfl := rep_int hv0
  have hD := h.dat
  have hz' : GzOk pl w := hz.role fun _ _ => rfl
  obtain ⟨ws, ms, rfl, h1, h2⟩ := box_vals hbv
  have rk : ∀ ρ' bl', ∀ b', (([] : List (Nat × List CV)).lookup b').isSome = true → lowB 22 b' = true → RK ρ ρ' bl bl' b' := fun _ _ b' hb _ => by simp at hb
  -- the end
  have fin : ∀ {w' : World} {x : Value}, Go.RowKit.Below w.heap.size w w' → Rep (newG w.heap.size w' Γ) (projV v b).1.d x → ∃ v' Γ' ρ' bl', Ending.returned (.tuple #[x, .int .i64 (projV v b).2]) = .returned v' ∧ SR Γ' ρ' bl' ⟨[.tup [.d (projV v b).1.d, .d (iD (projV v b).2)]], []⟩ #[v'] w' ∧ Fr0 w Γ ρ w' Γ' ρ' ∧ ∀ b', (([] : List (Nat × List CV)).lookup b').isSome = true → lowB 22 b' = true → RK ρ ρ' bl bl' b' := fun {w' x} hB hr => by
    obtain ⟨g1, g2⟩ := h.newAll (bl := bl) (c := .tup [.d (projV v b).1.d, .d (iD (projV v b).2)]) hB (tup2_rep hr) tup2_ment
    exact ⟨_, _, _, _, rfl, g1, g2, rk _ _⟩
  by_cases hc : (1 ≤ v ∧ v ≤ 3) ∧ mayBox b = 0
  · have hM := boxMay.1 hc.2
    have hidl := hM.id.2
    have hH := hyp_of (v := v) hD hz' hb (by omega) (fun j hj => by rw [uidJ_eq hj]; have := ((msgsMay.1 hM.msgs).all _ (List.getElem_mem hj)).2.1.uid; omega) hbv
    have ep : projV v b = (sayB v b, 0) := if_pos hc
    rw [ep] at hH fin ⊢
    obtain ⟨xw, xm, F, f1, f2⟩ := fit_of hD hM h1 h2
    have hv : v = 1 ∨ v = 2 ∨ v = 3 := by omega
    by_cases h3 : v = 3
    · subst h3
      refine (proj_three w ⟨b.id.toArray⟩ b.valid b.next b.high ws ms b.words.length b.msgs.length xw xm (keyJ b) (uidJ b) (ownJ b) F hH).mono ?_
      rintro e w' ⟨ws', ms', xs, rfl, o1, o2, o3, o4, hB⟩
      refine fin hB ?_
      rw [show sayB 3 b = b from rfl]
      have hle : Le Γ (newG w.heap.size w' Γ) := h.newG_le
      refine box_rep (own_rep o1 (f1.mono hle) (strs_len _)) (own_rep o2 (msgs_rep o2.1 fun j hj k hk => ?_) (List.length_map ..))
      obtain ⟨u, k1, k2⟩ := msg_cell f2 hj hk
      by_cases h5 : k = 5
      · subst h5
        obtain ⟨kv, q1, q2⟩ := o3 j hj
        rw [keyJ_eq hj] at q2
        exact ⟨kv, q1, own_rep (l := ints b.msgs[j].keys) q2 (rep_ints _ _) (ints_len _)⟩
      · exact ⟨u, by rw [o4 _ (by omega)]; exact k1, k2.mono hle⟩
    · refine (proj_ok w v ⟨b.id.toArray⟩ b.valid b.next b.high ws ms b.words.length b.msgs.length xw xm (keyJ b) (uidJ b) (ownJ b) F h3 (fun j hj => ?_) hH).mono ?_
      · obtain ⟨u, k1, k2⟩ := msg_cell f2 hj (show 0 < 7 by decide)
        have k2 : Rep Γ (iD b.msgs[j].uid) u := k2
        cases k2
        rw [uidJ_eq hj]; exact k1
      rintro e w' ⟨aw, cw, ms', xs, rfl, o1, o2, o3, l, hB⟩
      have hle : Le Γ (newG w.heap.size w' Γ) := h.newG_le
      obtain ⟨f, hf, hfv⟩ : ∃ f : Nat, sayB v b = projB f b ∧ (v = 1 ↔ ¬ f = 2) ∧ (f = 1 ∨ f = 2) := by
        rcases hv with rfl | rfl | rfl
        · exact ⟨1, rfl, ⟨fun _ => by decide, fun _ => rfl⟩, .inl rfl⟩
        · exact ⟨2, rfl, ⟨fun h => absurd h (by decide), fun h => absurd rfl h⟩, .inr rfl⟩
        · exact absurd rfl h3
      have eh : (if v = 1 then (1 : Int) else b.high) = (if f = 2 then b.high else 1) := by
        by_cases q : v = 1
        · rw [if_pos q, if_neg (hfv.1.1 q)]
        · rw [if_neg q, if_pos (Classical.not_not.1 fun q2 => q (hfv.1.2 q2))]
      refine fin hB ?_
      show Rep _ (sayB v b).d _
      rw [hf, eh]
      have hkept : min b.words.length 32 = kept b := rfl
      refine box_rep (b := projB f b) ?_ ?_
      · have r1 := own_rep (row_take o1 (Nat.min_le_left _ 32)) (strs_take (f1.mono hle) (min b.words.length 32)) (by rw [strs_len, List.length_take]; omega)
        exact r1
      · have hlen : (projB f b).msgs.length = b.msgs.length := List.length_map ..
        refine own_rep o2 (msgs_rep (by rw [hlen]; exact o2.1) fun j hj k hk => ?_) (by rw [List.length_map, hlen])
        have hj' : j < b.msgs.length := by rw [← hlen]; exact hj
        have em : (projB f b).msgs[j] = projM f b.id b.msgs[j] := by simp [projB]
        obtain ⟨u, k1, k2⟩ := msg_cell f2 hj' hk
        obtain ⟨d3, d1⟩ := l.done j hj'
        have hmm := ((msgsMay.1 hM.msgs).all _ (List.getElem_mem hj')).2.1
        have q2 := k2.mono hle
        match k, hk with
        | 0, _ => exact ⟨u, by rw [l.other _ (by omega)]; exact k1, by simp only [em]; exact q2⟩
        | 1, _ =>
          by_cases q : v = 1
          · refine ⟨_, d1.trans (if_pos q), ?_⟩
            simp only [em]
            show Rep _ (iD (if f = 2 then b.msgs[j].mod else 1)) _
            rw [if_neg (hfv.1.1 q)]; exact .int _ _
          · refine ⟨u, by rw [d1, if_neg q]; exact k1, ?_⟩
            simp only [em]
            show Rep _ (iD (if f = 2 then b.msgs[j].mod else 1)) _
            rw [if_pos (Classical.not_not.1 fun q2 => q (hfv.1.2 q2))]; exact q2
        | 2, _ => exact ⟨u, by rw [l.other _ (by omega)]; exact k1, by simp only [em]; exact q2⟩
        | 3, _ =>
          refine ⟨_, d3, ?_⟩
          simp only [em]
          show Rep _ (.str (ownB b.id b.msgs[j].uid)) _
          rw [show ownJ b j = ⟨(ownB b.id b.msgs[j].uid).toArray⟩ from by unfold ownJ; rw [uidJ_eq hj']]
          exact .str _
        | 4, _ => exact ⟨u, by rw [l.other _ (by omega)]; exact k1, by simp only [em]; exact q2⟩
        | 5, _ =>
          obtain ⟨kv, q1, q3⟩ := o3 j hj'
          refine ⟨kv, q1, ?_⟩
          simp only [em]
          show Rep _ (.slice 1 (ints (keyBits (maskN b.msgs[j].keys) 32))) _
          rw [fl_keys hmm hM.nw]
          rw [keyJ_eq hj'] at q3
          exact own_rep (l := ints (fl b.msgs[j].keys)) q3 (rep_ints _ _) (ints_len _)
        | 6, _ => exact ⟨u, by rw [l.other _ (by omega)]; exact k1, by simp only [em]; exact q2⟩
  · have ep : projV v b = (box00, 1) := if_neg hc
    rw [ep] at fin ⊢
    have hH : Hyp w v ⟨b.id.toArray⟩ (.agg #[.string ⟨b.id.toArray⟩, .int .i64 b.valid, .int .i64 b.next, .int .i64 b.high, ws, ms]) 0 (uidJ b) (ownJ b) 1 := by
      refine ⟨fun W hW => ?_, fun j W hj => by omega, fun W kv ks _ h => del55 _ W kv ks h⟩
      obtain ⟨x, y, e⟩ := resM_tup v b
      have h16 := z16 v b hb
      rw [e, ep] at h16
      refine (Runs.datT (ds := [iD v, b.d]) (vs := [.int .i64 v, _]) h16 (hD.below hW) (hz'.below hW) (box2_rep hbv)).mono ?_
      rintro e' w' ⟨us, Γ', rfl, hr, _, _, hbl⟩
      obtain ⟨h1, h2⟩ := hr
      match us, h1 with
      | [u0, u1, u2], _ =>
        have := h2 2 _ u2 rfl rfl
        cases this
        exact ⟨u0, u1, rfl, hbl⟩
    refine (proj_bad w v ⟨b.id.toArray⟩ b.valid b.next b.high ws ms 0 (uidJ b) (ownJ b) 1 (by decide) hH).mono ?_
    rintro e w' ⟨rfl, hB⟩
    refine fin hB ?_
    exact box_rep (b := box00) (.nil 1) (.nil 7)
end B
end Go.Proofs.YtmkkljbfmdngfaaGreatDoor
