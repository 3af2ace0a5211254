/- A law's contract out of a contract on data, with what its slices weigh. No condition. -/
import Derived.Test.YtmkkljbfmdngfaaDoorB34
import Derived.Below
set_option linter.all false
namespace Go.Proofs.YtmkkljbfmdngfaaDoor
namespace B
open Go.RowKit Go.WideShapes Go.ChangeShapes
variable {P : Program} {H : Type} {enc : TypeId × Value → H} {w : World}

theorem args_weight {Γ : Froz} : ∀ {ts : List TypeId} {vs : List Value} {ds : List (DataW H)} {ps : List MemPlace} {xs : List D}, DataW.TrodAll enc P w 0 (fun _ => true) true ts vs ds ps → (∀ (i : Nat) x v, xs[i]? = some x → vs[i]? = some v → Rep Γ x v) → (DataW.weightsEach P ts ds).all (· ≤ reachBytes) = true →
    ∀ (j : Nat) t e z l, ts[j]? = some t → P.underlying t = some (.slice e) → xs[j]? = some (.slice z l) → l.length * P.bytesOf e ≤ reachBytes
  | [], vs, ds, ps, xs, h, _, _, j, t, e, z, l, ht, _, _ => by simp at ht
  | t0 :: ts, vs, ds, ps, xs, h, hr, hw, j, t, e, z, l, ht, hu, hx => by
    obtain ⟨v, vs1, d, ds1, p, q, rfl, rfl, rfl, ⟨m, h1⟩, h2⟩ := trodAll_cons h
    simp only [DataW.weightsEach, List.all_append, Bool.and_eq_true] at hw
    cases j with
    | zero =>
      simp at ht; subst ht
      exact slice_weight hu h1 (hr 0 _ v hx rfl) hw.1
    | succ j =>
      cases xs with
      | nil => simp at hx
      | cons x xs => exact args_weight (xs := xs) h2 (fun i x v hx hv => hr (i + 1) x v (by simpa using hx) (by simpa using hv)) hw.2 j t e z l (by simpa using ht) hu (by simpa using hx)
/-- **A law's contract, as its row asks it**, out of the contract on data. -/
theorem contract_of2 (hl : laidOutB P = true) (hm : mapsRowed P = true) (hz : ((List.range P.types.size).all fun t => match P.underlying t with | some (.slice e) => decide (0 < P.cellsOf e) | _ => true) = true)
    {n base : Nat} {f : FuncId} {fn : Func} {s : ChangeSpec} {tb : TypeId} (hpar : (fn.params.toList.all fun t => decide (t < P.types.size) && plainT P n t) = true)
    (hres : fn.resultTypes = #[tb]) (htb : P.underlying tb = some .bool) (hvars : s.vars = [])
    {W : World} {args : Array Value} {ds gs : List (DataW H)} {before : List MemPlace} (hspec : ds.length = fn.params.size → s.fn H ds = { results := [.lit (.bool true)], args := ds })
    (hval : ∀ (j : Nat) t v, fn.params[j]? = some t → args[j]? = some v → Value.okWide P W .any base t v)
    (hW : DataW.Whole enc P fn.params.toList s.vars false W args.toList ds gs before) (hgl : ∀ a v, Gl a = some v → W.cell? a = some v) (hgz : GzOk (fun _ => .plain) W)
    (hwt : (DataW.weightsEach P fn.params.toList ds).all (· ≤ reachBytes) = true)
    (hruns : ∀ xs, TyAll P n fn.params.toList xs → bulkL xs ≤ bulkWL ds → (∀ (j : Nat) t e z l, fn.params.toList[j]? = some t → P.underlying t = some (.slice e) → xs[j]? = some (.slice z l) → l.length * P.bytesOf e ≤ reachBytes) → Runs P f (xs.map .d) [] (.d (.bool true)) []) :
    Calls P f args W fun e W' => ∃ v, e = .returned v ∧ s.post enc P fn false true false false W args v W' := by
  have K := kids_rows hl hm
  have hz := slices_full_of P hz
  have hW' := hW
  obtain ⟨p, q, hA, hV, rfl, hfz, hnd⟩ := hW
  rw [hvars] at hV
  obtain ⟨rfl, rfl⟩ := trodVars_none hV
  have hpar : ∀ t ∈ fn.params.toList, t < P.types.size ∧ plainT P n t = true := fun t ht => by simpa using List.all_eq_true.1 hpar t ht
  obtain ⟨xs, x1, x2, x3, x4⟩ := args_rep K hpar (fun j t v ht hv => hval j t v (by simpa using ht) (by simpa using hv)) hA
  have hlen := trodAll_len hA
  have hsr : SR (cellsF W) (fun _ => .plain) (fun _ => 0) ⟨xs.map .d, []⟩ args W := by
    refine ⟨fun _ _ h => h, by simp [x2], fun i c hc => ?_, fun b cs hcs => by simp [St.bx] at hcs, fun b cs z l hcs => by simp [St.bx] at hcs, fun g b z cap hc => (by cases hc), fun p b hb => ?_, fun g hg => absurd rfl hg, hgl, fun b k t cs hcs => by simp [St.bx] at hcs⟩
    · simp only [List.getElem?_map, Option.map_eq_some_iff] at hc
      obtain ⟨x, hx, rfl⟩ := hc
      have hi : i < args.toList.length := by rw [← x2]; exact (List.getElem?_eq_some_iff.1 hx).1
      exact ⟨args.toList[i], by simp at hi ⊢, x3 i x _ hx (List.getElem?_eq_getElem hi)⟩
    · cases p with
      | s k =>
        simp only [St.get, List.getD_eq_getElem?_getD, List.getElem?_map] at hb
        cases e : xs[k]? with
        | none => rw [e] at hb; exact hb.elim
        | some x => rw [e] at hb; exact hb.elim
      | b k => exact hb.elim
  refine ((hruns xs x1 x4 (args_weight hA x3 hwt)).2 _ _ _ args W hsr hgz).mono ?_
  rintro e W' ⟨v, Γ', ρ', bl', rfl, hs', hf, _⟩
  refine ⟨v, rfl, ?_⟩
  obtain ⟨u, hu, hr⟩ := hs'.slots 0 _ rfl
  obtain rfl : u = v := by simpa using hu.symm
  have hv : u = .bool true := rep_bool hr
  subst hv
  have hb : Below W.heap.size W W' := ⟨hf.os, hf.tape, hf.output, hf.size, fun k hk => (hf.block k hk rfl).1⟩
  have hsp := hspec (by rw [hlen]; simp)
  have hlt : ∀ x ∈ p, x.block < W.heap.size := fun x hx => hW'.lt x (by simpa using hx)
  refine post_of_below (pa := p) (pv := []) hW' (fun b sp hd => ?_) (fun sp hps => ?_) (fun sp _ => ?_) rfl hb (ok_one hres rfl (okWide_bool_mk htb _))
  · rw [hres, List.append_nil, hsp]
    exact trodAll_mk1 (shut_bool htb _)
  · rw [List.append_nil, hsp]
    refine trodAll_stays K hz (fun t ht => (hpar t ht).1) hA (fun x hx => ?_) fun x hx => hps x (by simpa using hx)
    cases x with
    | cell b off => exact World.cell?_of_block (hb.block b (hlt _ hx))
    | map b => exact hb.block b (hlt _ hx)
  · rw [hvars, List.append_nil, hsp]
    rfl
end B
end Go.Proofs.YtmkkljbfmdngfaaDoor
