/- The evaluator for walks: instructions that write, calls, operations. No condition. -/
import Derived.Test.YtmkkljbfmdngfaaGreatDoorB20
set_option linter.all false
namespace Go.Proofs.YtmkkljbfmdngfaaGreatDoor
namespace B
variable {P : Program}

inductive RC where
  | sc (s : Sh)
  | ag (l : List Sh)
  /-- A pointer to a new box. -/
  | np (l : List Sh)
  /-- A new row. -/
  | rw (z : Nat)
  /-- Cells, of which one is a new row. -/
  | agr (l : List Sh)
  /-- A new row that may move. -/
  | rwh (z : Nat)
  | agrh (l : List Sh)
def exC1 (s : Sh) (K : CV → Prop) : Prop := match s with
  | .int k => ∃ n : Int, K (.d (.int k n))
  | .bool => ∃ b : Bool, K (.d (.bool b))
  | .str => ∃ s : Bytes, K (.d (.str s))
  | .slice z => ∃ l : List D, K (.d (.slice z l))
  | .own z => ∃ l : List D, K (.own z l)
  | .nilp => K (.d .nilp)
  | .any => K .junk
  | .line => ∃ (c : Nat) (l : List D), K (.line c l)
  | .bld e => ∃ l : Bytes, K (.bld e false l)
  | .arr z => ∃ l : List D, K (.arr z l)
  | .rs z k => ∃ n : Nat, K (.rs z k 0 n)
  | .rso z k => ∃ o n : Nat, K (.rs z k o n)
  | .fn => ∃ o : Option Nat, K (.d (.fn o))
def exCs : List Sh → (List CV → Prop) → Prop
  | [], K => K []
  | s :: r, K => exC1 s fun c => exCs r fun cs => K (c :: cs)
def exAr (d : Nat) : List Sh → (List CV → List (Nat × List CV) → Prop) → Prop
  | [], K => K [] []
  | .arr z :: r, K => ∃ l : List D, exAr (d + 5000) r fun cs fr => K (.rs z d 0 l.length :: cs) ((d, [.arr z l]) :: fr)
  | s :: r, K => exC1 s fun c => exAr d r fun cs fr => K (c :: cs) fr
def exRC (dst : Option Nat) (c : RC) (K : CV → List (Nat × List CV) → Prop) : Prop := match c with
  | .sc s => exC1 s fun c => K c []
  | .ag l => exD l fun ds => K (.d (.agg ds)) []
  | .np l => match dst with
    | some d => exCs l fun cs => K (.ptr d 0) [(d, cs)]
    | none => False
  | .rw z => match dst with
    | some d => ∃ l : List D, K (.rs z d 0 l.length) [(d, [.arr z l])]
    | none => False
  | .agr l => match dst with
    | some d => exAr d l fun cs fr => K (.agg cs) fr
    | none => False
  | .rwh z => match dst with
    | some d => ∃ l : List D, K (.rs z (d + 5000) 0 l.length) [(d + 5000, [.arr z l])]
    | none => False
  | .agrh l => match dst with
    | some d => exAr (d + 5000) l fun cs fr => K (.agg cs) fr
    | none => False
def exRs (dst : Option Nat) : List RC → (List CV → Prop) → Prop
  | [], K => K []
  | c :: r, K => exRC dst c fun c _ => exRs dst r fun cs => K (c :: cs)
def exR (dst : Option Nat) (rs : List RC) (K : CV → List (Nat × List CV) → Prop) : Prop := match rs with
  | [c] => exRC dst c K
  | rs => exRs dst rs fun cs => K (.tup cs) []
/-- Cells of the same shapes as these. -/
def exLike : List CV → (List CV → Prop) → Prop
  | [], K => K []
  | .d (.int k _) :: r, K => ∃ n : Int, exLike r fun cs => K (.d (.int k n) :: cs)
  | .d (.bool _) :: r, K => ∃ b : Bool, exLike r fun cs => K (.d (.bool b) :: cs)
  | .d (.str _) :: r, K => ∃ s : Bytes, exLike r fun cs => K (.d (.str s) :: cs)
  | .d (.slice z _) :: r, K => ∃ l : List D, exLike r fun cs => K (.d (.slice z l) :: cs)
  | .own z _ :: r, K => ∃ l : List D, exLike r fun cs => K (.own z l :: cs)
  | .line _ _ :: r, K => ∃ (c : Nat) (l : List D), exLike r fun cs => K (.line c l :: cs)
  | .bld e _ _ :: r, K => ∃ l : Bytes, exLike r fun cs => K (.bld e false l :: cs)
  | .arr z _ :: r, K => ∃ l : List D, exLike r fun cs => K (.arr z l :: cs)
  | .rs z k o n :: r, K => if hiB k = true then ∃ n' : Nat, exLike r fun cs => K (.rs z k 0 n' :: cs) else exLike r fun cs => K (.rs z k o n :: cs)
  | c :: r, K => exLike r fun cs => K (c :: cs)
def exObjs : List (Nat × List CV) → (List (Nat × List CV) → Prop) → Prop
  | [], K => K []
  | (b, cs) :: r, K => exLike cs fun cs' => exObjs r fun l => K ((b, cs') :: l)

def CV.ments : CV → List Nat
  | .ptr b _ => [b]
  | .rs _ b _ _ => [b]
  | .ea _ b _ _ => [b]
  | .fn _ caps => caps
  | .tup l => l.flatMap fun c => match c with | .ptr b _ => [b] | .rs _ b _ _ => [b] | .ea _ b _ _ => [b] | .fn _ caps => caps | _ => []
  | .agg l => l.flatMap fun c => match c with | .ptr b _ => [b] | .rs _ b _ _ => [b] | .ea _ b _ _ => [b] | .fn _ caps => caps | _ => []
  | _ => []
def addNew (ids new : List Nat) : List Nat := new.foldl (fun l b => if l.contains b then l else l ++ [b]) ids
/-- The boxes that are reached. -/
def reach (bs : List (Nat × List CV)) : Nat → List Nat → List Nat
  | 0, ids => ids
  | n + 1, ids => reach bs n (addNew ids (ids.flatMap fun b => match bs.lookup b with | some cs => cs.flatMap CV.ments | none => []))
def getO (bs : List (Nat × List CV)) : List Nat → Option (List (Nat × List CV))
  | [] => some []
  | b :: r => match bs.lookup b, getO bs r with
    | some cs, some l => some ((b, cs) :: l)
    | _, _ => none
def fits1 (ids : List Nat) (args : List CV) (objs : List (Nat × List CV)) : Bool := args.all (CV.inB ids) && objs.all fun x => x.2.all (CV.in1 ids)
/-- An id that a call's new box may have. -/
def frOk (okr okw : Nat → Bool) (dst : Option Nat) (b : Nat) : Bool := (some b == dst && !hiB b) || ((some b == dst.map (· + 5000) || some b == dst.map (· + 10000)) && okw 4999 && okr b && okw b)
/-- A call: what it comes to, and the boxes that it writes. -/
def callE (C : CallRel) (okr okw : Nat → Bool) (rs : List RC) (dst : Option Nat) (f : Nat) (args : List CV) (bs : List (Nat × List CV)) (ids : List Nat) (W : Prop → Prop) (ro : Bool) (K : CV → List (Nat × List CV) → Prop) : Prop :=
  match getO bs ids with
  | some objs => if (ids.all okr && fits1 ids args objs && decide ids.Nodup) = true then
      if (ro || !ids.all okw) = true then
        if (killL f ids).isEmpty = false then False else exR dst rs fun r fr => if (fr.all (fun x => (bs.lookup x.1).isNone && frOk okr okw dst x.1) && decide (ids ++ fr.map (·.1)).Nodup) = true then W (C f args objs r (objs ++ fr)) ∧ K r fr else False
      else exObjs objs fun objs' => exR dst rs fun r fr => if (fr.all (fun x => (bs.lookup x.1).isNone && frOk okr okw dst x.1) && decide (ids ++ fr.map (·.1)).Nodup && (objs'.map (·.1) == ids) && ((killL f ids).isEmpty || okw 4999)) = true then W (C f args objs r (objs' ++ fr)) ∧ K r (objs' ++ fr) else False
    else False
  | none => False

/-- A call that is guarded (c: is it done?), and that writes boxes. -/
def callW (C : CallRel) (okr okw : Nat → Bool) (rs : List RC) (dst : Option Nat) (f : Nat) (args : List CV) (bs : List (Nat × List CV)) (ids : List Nat) (c : Bool) (K : CV → List (Nat × List CV) → Prop) : Prop :=
  match getO bs ids with
  | some objs => if (ids.all okr && fits1 ids args objs && decide ids.Nodup && ids.all okw && (killL f ids).isEmpty) = true then
      exObjs objs fun objs' => exR dst rs fun r fr => match fr with
        | [] => if (objs'.map (·.1) == ids) = true then (c = true → C f args objs r objs') ∧ (c = false → objs' = objs) ∧ K r objs' else False
        | _ => False
    else False
  | none => False
theorem exC1_mono {s : Sh} {K K' : CV → Prop} (hk : ∀ c, K c → K' c) (h : exC1 s K) : exC1 s K' := by
  cases s <;> first | exact hk _ h | (obtain ⟨x, h⟩ := h; exact ⟨x, hk _ h⟩) | (obtain ⟨x, y, h⟩ := h; exact ⟨x, y, hk _ h⟩)
theorem exCs_mono {l : List Sh} : ∀ {K K' : List CV → Prop}, (∀ c, K c → K' c) → exCs l K → exCs l K' := by
  induction l with
  | nil => exact fun hk h => hk _ h
  | cons s r ih => exact fun hk h => exC1_mono (fun c hc => ih (fun cs h => hk _ h) hc) h
theorem exD_mono {l : List Sh} : ∀ {K K' : List D → Prop}, (∀ c, K c → K' c) → exD l K → exD l K' := by
  induction l with
  | nil => exact fun hk h => hk _ h
  | cons s r ih =>
    intro K K' hk h
    cases s <;> first
      | exact ih (fun cs h => hk _ h) h
      | (obtain ⟨x, h⟩ := h; exact ⟨x, ih (fun cs h => hk _ h) h⟩)
      | exact h.elim
theorem exAr_mono {d : Nat} {l : List Sh} : ∀ {K K' : List CV → List (Nat × List CV) → Prop}, (∀ c f, K c f → K' c f) → exAr d l K → exAr d l K' := by
  induction l generalizing d with
  | nil => exact fun hk h => hk _ _ h
  | cons s r ih =>
    intro K K' hk h
    have gen : ∀ s : Sh, (exC1 s fun c => exAr d r fun cs fr => K (c :: cs) fr) → exC1 s fun c => exAr d r fun cs fr => K' (c :: cs) fr := fun s h => exC1_mono (fun c hc => ih (fun cs fr h => hk _ _ h) hc) h
    cases s with
    | arr z => obtain ⟨x, h⟩ := h; exact ⟨x, ih (fun cs fr h => hk _ _ h) h⟩
    | int k => exact gen (.int k) h
    | bool => exact gen .bool h
    | str => exact gen .str h
    | slice z => exact gen (.slice z) h
    | own z => exact gen (.own z) h
    | nilp => exact gen .nilp h
    | any => exact gen .any h
    | line => exact gen .line h
    | bld e => exact gen (.bld e) h
    | rs z k => exact gen (.rs z k) h
    | rso z k => exact gen (.rso z k) h
    | fn => exact gen .fn h
theorem exAr_ex {d : Nat} {l : List Sh} : ∀ {K : List CV → List (Nat × List CV) → Prop}, exAr d l K → ∃ c f, K c f := by
  induction l generalizing d with
  | nil => exact fun h => ⟨_, _, h⟩
  | cons s r ih =>
    intro K h
    have gen : ∀ s : Sh, (exC1 s fun c => exAr d r fun cs fr => K (c :: cs) fr) → ∃ c f, K c f := fun s h => by
      have : ∃ c, exAr d r fun cs fr => K (c :: cs) fr := by
        cases s <;> first | exact ⟨_, h⟩ | (obtain ⟨_, h⟩ := h; exact ⟨_, h⟩) | (obtain ⟨_, _, h⟩ := h; exact ⟨_, h⟩)
      obtain ⟨_, h⟩ := this
      obtain ⟨_, _, h⟩ := ih h
      exact ⟨_, _, h⟩
    cases s with
    | arr z => obtain ⟨x, h⟩ := h; obtain ⟨_, _, h⟩ := ih h; exact ⟨_, _, h⟩
    | int k => exact gen (.int k) h
    | bool => exact gen .bool h
    | str => exact gen .str h
    | slice z => exact gen (.slice z) h
    | own z => exact gen (.own z) h
    | nilp => exact gen .nilp h
    | any => exact gen .any h
    | line => exact gen .line h
    | bld e => exact gen (.bld e) h
    | rs z k => exact gen (.rs z k) h
    | rso z k => exact gen (.rso z k) h
    | fn => exact gen .fn h
theorem exRC_mono {dst : Option Nat} {c : RC} {K K' : CV → List (Nat × List CV) → Prop} (hk : ∀ r l, K r l → K' r l) (h : exRC dst c K) : exRC dst c K' := by
  cases c with
  | sc s => exact exC1_mono (fun c h => hk c [] h) h
  | ag l => exact exD_mono (fun c h => hk _ [] h) h
  | np l =>
    simp only [exRC] at h ⊢
    split at h
    · exact exCs_mono (fun c h => hk _ _ h) h
    · exact h.elim
  | rw z =>
    simp only [exRC] at h ⊢
    split at h
    · obtain ⟨x, h⟩ := h; exact ⟨x, hk _ _ h⟩
    · exact h.elim
  | agr l =>
    simp only [exRC] at h ⊢
    split at h
    · exact exAr_mono (fun c f h => hk _ _ h) h
    · exact h.elim
  | agrh l =>
    simp only [exRC] at h ⊢
    split at h
    · exact exAr_mono (fun c f h => hk _ _ h) h
    · exact h.elim
  | rwh z =>
    simp only [exRC] at h ⊢
    split at h
    · obtain ⟨x, h⟩ := h; exact ⟨x, hk _ _ h⟩
    · exact h.elim
theorem exRs_mono {dst : Option Nat} : ∀ {l : List RC} {K K' : List CV → Prop}, (∀ r, K r → K' r) → exRs dst l K → exRs dst l K'
  | [], _, _, hk, h => hk _ h
  | c :: r, K, K', hk, h => exRC_mono (c := c) (fun c' _ h => exRs_mono (l := r) (fun cs h => hk _ h) h) h
theorem exR_mono {dst : Option Nat} {rs : List RC} {K K' : CV → List (Nat × List CV) → Prop} (hk : ∀ r l, K r l → K' r l) (h : exR dst rs K) : exR dst rs K' := by
  unfold exR at h ⊢
  split at h
  · exact exRC_mono hk h
  · exact exRs_mono (fun cs h => hk _ _ h) h
theorem exLike_mono : ∀ {l : List CV} {K K' : List CV → Prop}, (∀ r, K r → K' r) → exLike l K → exLike l K' := by
  intro l
  induction l with
  | nil => exact fun hk h => hk _ h
  | cons c r ih =>
    intro K K' hk h
    have one : ∀ {α : Type} {g : α → CV}, (∃ x, exLike r fun cs => K (g x :: cs)) → ∃ x, exLike r fun cs => K' (g x :: cs) := fun ⟨x, h⟩ => ⟨x, ih (fun _ h => hk _ h) h⟩
    cases c with
    | d x =>
      cases x with
      | int k n => exact one (g := fun n => .d (.int k n)) h
      | bool b => exact one (g := fun n => .d (.bool n)) h
      | str s => exact one (g := fun n => .d (.str n)) h
      | slice z l => exact one (g := fun l => .d (.slice z l)) h
      | agg l => exact ih (K := fun cs => K (.d (.agg l) :: cs)) (fun _ h => hk _ h) h
      | nilp => exact ih (K := fun cs => K (.d .nilp :: cs)) (fun _ h => hk _ h) h
      | fn f => exact ih (K := fun cs => K (.d (.fn f) :: cs)) (fun _ h => hk _ h) h
      | nils z => exact ih (K := fun cs => K (.d (.nils z) :: cs)) (fun _ h => hk _ h) h
    | own z l => exact one (g := fun l => .own z l) h
    | line c l =>
      have h : ∃ (c : Nat) (l : List D), exLike r fun cs => K (.line c l :: cs) := h
      obtain ⟨x, y, h⟩ := h
      exact ⟨x, y, ih (fun _ h => hk _ h) h⟩
    | nils => exact ih (K := fun cs => K (.nils :: cs)) (fun _ h => hk _ h) h
    | ptr b o => exact ih (K := fun cs => K (.ptr b o :: cs)) (fun _ h => hk _ h) h
    | ep l => exact ih (K := fun cs => K (.ep l :: cs)) (fun _ h => hk _ h) h
    | fn f l => exact ih (K := fun cs => K (.fn f l :: cs)) (fun _ h => hk _ h) h
    | tup l => exact ih (K := fun cs => K (.tup l :: cs)) (fun _ h => hk _ h) h
    | agg l => exact ih (K := fun cs => K (.agg l :: cs)) (fun _ h => hk _ h) h
    | junk => exact ih (K := fun cs => K (.junk :: cs)) (fun _ h => hk _ h) h
    | bld e f l => exact one (g := fun l => .bld e false l) h
    | sp b t => exact ih (K := fun cs => K (.sp b t :: cs)) (fun _ h => hk _ h) h
    | arr z l => exact one (g := fun l => .arr z l) h
    | rs z k o n =>
      simp only [exLike] at h ⊢
      split at h
      · rename_i hh
        rw [if_pos hh]
        obtain ⟨x, h⟩ := h
        exact ⟨x, ih (fun _ h => hk _ h) h⟩
      · rename_i hh
        rw [if_neg hh]
        exact ih (K := fun cs => K (.rs z k o n :: cs)) (fun _ h => hk _ h) h
    | ea z k o n => exact ih (K := fun cs => K (.ea z k o n :: cs)) (fun _ h => hk _ h) h
theorem exObjs_mono : ∀ {l : List (Nat × List CV)} {K K' : List (Nat × List CV) → Prop}, (∀ r, K r → K' r) → exObjs l K → exObjs l K'
  | [], _, _, hk, h => hk _ h
  | (b, cs) :: r, K, K', hk, h => exLike_mono (fun cs' h => exObjs_mono (l := r) (fun l h => hk _ h) h) h
theorem exC1_ex {s : Sh} {K : CV → Prop} (h : exC1 s K) : ∃ c, K c := by
  cases s <;> first | exact h | (exact ⟨_, h⟩) | (obtain ⟨_, h⟩ := h; exact ⟨_, h⟩) | (obtain ⟨_, _, h⟩ := h; exact ⟨_, h⟩)
theorem exCs_ex {l : List Sh} : ∀ {K : List CV → Prop}, exCs l K → ∃ cs, K cs := by
  induction l with
  | nil => exact fun h => ⟨_, h⟩
  | cons s r ih => intro K h; obtain ⟨_, h⟩ := exC1_ex h; obtain ⟨_, h⟩ := ih h; exact ⟨_, h⟩
theorem exRC_ex {dst : Option Nat} {c : RC} {K : CV → List (Nat × List CV) → Prop} (h : exRC dst c K) : ∃ r fr, K r fr := by
  cases c with
  | sc s => obtain ⟨_, h⟩ := exC1_ex (s := s) (K := fun c => K c []) h; exact ⟨_, _, h⟩
  | ag l => obtain ⟨_, h⟩ := exD_ex h; exact ⟨_, _, h⟩
  | np l =>
    simp only [exRC] at h
    split at h
    · obtain ⟨_, h⟩ := exCs_ex h; exact ⟨_, _, h⟩
    · exact h.elim
  | rw z =>
    simp only [exRC] at h
    split at h
    · obtain ⟨_, h⟩ := h; exact ⟨_, _, h⟩
    · exact h.elim
  | agr l =>
    simp only [exRC] at h
    split at h
    · obtain ⟨_, _, h⟩ := exAr_ex h; exact ⟨_, _, h⟩
    · exact h.elim
  | agrh l =>
    simp only [exRC] at h
    split at h
    · obtain ⟨_, _, h⟩ := exAr_ex h; exact ⟨_, _, h⟩
    · exact h.elim
  | rwh z =>
    simp only [exRC] at h
    split at h
    · obtain ⟨_, h⟩ := h; exact ⟨_, _, h⟩
    · exact h.elim
theorem exRs_ex {dst : Option Nat} : ∀ {l : List RC} {K : List CV → Prop}, exRs dst l K → ∃ cs, K cs
  | [], _, h => ⟨_, h⟩
  | c :: r, K, h => by obtain ⟨_, _, h⟩ := exRC_ex h; obtain ⟨_, h⟩ := exRs_ex h; exact ⟨_, h⟩
theorem exR_ex {dst : Option Nat} {rs : List RC} {K : CV → List (Nat × List CV) → Prop} (h : exR dst rs K) : ∃ r fr, K r fr := by
  unfold exR at h
  split at h
  · exact exRC_ex h
  · obtain ⟨_, h⟩ := exRs_ex h; exact ⟨_, _, h⟩
theorem exLike_ex : ∀ {l : List CV} {K : List CV → Prop}, exLike l K → ∃ cs, K cs := by
  intro l
  induction l with
  | nil => exact fun h => ⟨_, h⟩
  | cons c r ih =>
    intro K h
    unfold exLike at h
    split at h
    · cases ‹_ = _›
    all_goals (rename_i e; cases e)
    all_goals first
      | (obtain ⟨_, h⟩ := h; obtain ⟨_, h⟩ := ih h; exact ⟨_, h⟩)
      | (obtain ⟨_, _, h⟩ := h; obtain ⟨_, h⟩ := ih h; exact ⟨_, h⟩)
      | (obtain ⟨_, h⟩ := ih h; exact ⟨_, h⟩)
      | (split at h
         · obtain ⟨_, h⟩ := h; obtain ⟨_, h⟩ := ih h; exact ⟨_, h⟩
         · obtain ⟨_, h⟩ := ih h; exact ⟨_, h⟩)
theorem exObjs_ex : ∀ {l : List (Nat × List CV)} {K : List (Nat × List CV) → Prop}, exObjs l K → ∃ x, K x
  | [], _, h => ⟨_, h⟩
  | (b, cs) :: r, K, h => by obtain ⟨_, h⟩ := exLike_ex h; obtain ⟨_, h⟩ := exObjs_ex h; exact ⟨_, h⟩
theorem getO_spec {bs : List (Nat × List CV)} : ∀ {ids : List Nat} {objs : List (Nat × List CV)}, getO bs ids = some objs → objs.map (·.1) = ids ∧ ∀ x ∈ objs, bs.lookup x.1 = some x.2
  | [], objs, h => by simp only [getO, Option.some.injEq] at h; subst h; simp
  | b :: r, objs, h => by
    simp only [getO] at h
    split at h
    · rename_i cs l hcs hl
      cases h
      obtain ⟨h1, h2⟩ := getO_spec hl
      exact ⟨by simp [h1], fun x hx => by rcases List.mem_cons.1 hx with rfl | hx; exact hcs; exact h2 x hx⟩
    · cases h

theorem getBs_w0 {K : St → Prop} {st : St} {k : List (Nat × List CV) → PM} : ∀ {objs : List (Nat × List CV)}, (∀ x ∈ objs, st.bx x.1 = some x.2) → (k objs).w0 K st → (getBs (objs.map (·.1)) k).w0 K st := by
  intro objs
  induction objs generalizing k with
  | nil => exact fun _ h => h
  | cons x r ih =>
    intro hx h
    show PM.w0 (match st.get (.b x.1) with | .agg cs => getBs (r.map (·.1)) fun l => k ((x.1, cs) :: l) | _ => PM.fail) K st
    rw [St.get_bx (hx x (by simp))]
    exact ih (fun y hy => hx y (by simp [hy])) h
theorem newBs_w0 {K : St → Prop} {st : St} {k : PM} : ∀ {ids : List Nat}, (∀ b ∈ ids, st.bx b = none) → k.w0 K st → (newBs ids k).w0 K st
  | [], _, h => h
  | b :: r, hx, h => by
    show PM.w0 (match st.get (.b b) with | .junk => newBs r k | _ => PM.fail) K st
    have : st.get (.b b) = .junk := by simp [St.get, hx b (by simp)]
    rw [this]
    exact newBs_w0 (fun y hy => hx y (by simp [hy])) h
theorem setBs_w0 {K : St → Prop} : ∀ {objs : List (Nat × List CV)} {st : St} {k : PM}, k.w0 K (setAll st objs) → (setBs objs k).w0 K st
  | [], _, _, h => h
  | (b, cs) :: r, st, k, h => setBs_w0 (objs := r) (st := st.set (.b b) (.agg cs)) h
theorem setB_self {b : Nat} {cs : List CV} : ∀ {l : List (Nat × List CV)}, l.lookup b = some cs → setB b cs l = l
  | [], h => by cases h
  | (k, v) :: r, h => by
    simp only [List.lookup] at h
    simp only [setB]
    split at h
    · rename_i e; rw [if_pos e]; cases h; have : b = k := by simpa using e
      subst this; rfl
    · rename_i e; rw [if_neg (by simp [e])]; rw [setB_self h]
theorem setAll_self {st : St} : ∀ {objs : List (Nat × List CV)}, (∀ x ∈ objs, st.bx x.1 = some x.2) → setAll st objs = st
  | [], _ => rfl
  | (b, cs) :: r, h => by
    have h1 : st.b.lookup b = some cs := h (b, cs) (by simp)
    have : st.set (.b b) (.agg cs) = st := by simp only [St.set, setB_self h1]
    simp only [setAll, this]
    exact setAll_self fun x hx => h x (by simp [hx])
theorem setAll_append (st : St) : ∀ (a b : List (Nat × List CV)), setAll st (a ++ b) = setAll (setAll st a) b := by
  intro a
  induction a generalizing st with
  | nil => intro b; rfl
  | cons x r ih => intro b; obtain ⟨k, cs⟩ := x; simp only [List.cons_append, setAll]; exact ih _ b

theorem lookup_nodup {x : Nat × List CV} : ∀ {l : List (Nat × List CV)}, (l.map (·.1)).Nodup → x ∈ l → l.lookup x.1 = some x.2
  | [], _, h => by cases h
  | y :: l, hn, h => by
    simp only [List.map_cons, List.nodup_cons] at hn
    rcases List.mem_cons.1 h with rfl | hm
    · simp [List.lookup]
    · have hne : (x.1 == y.1) = false := by
        simp only [beq_eq_false_iff_ne, ne_eq]
        intro e; exact hn.1 (by rw [← e]; exact List.mem_map_of_mem hm)
      simp only [List.lookup, hne]
      exact lookup_nodup hn.2 hm
theorem killBs_w0 {K : St → Prop} : ∀ {l : List Nat} {st : St} {k : PM}, (∀ b ∈ l, mvb b = true) → k.w0 K (B.killAll st l) → (killBs l k).w0 K st
  | [], _, _, _, h => h
  | b :: r, st, k, hl, h => ⟨hl b (by simp), killBs_w0 (l := r) (fun y hy => hl y (by simp [hy])) h⟩
theorem callE_w0 {C : CallRel} {okr okw : Nat → Bool} {rs : List RC} {dst : Option Nat} {f : Nat} {args : List CV} {ids : List Nat} {W : Prop → Prop} (hW : ∀ p, W p → p) {ro : Bool} {K : CV → List (Nat × List CV) → Prop} {Kst : St → Prop} {st : St}
    (hK : ∀ r l, (ro = true → killL f ids = []) → K r l → Kst ((setAll (B.killAll st (killL f ids)) l).setO dst r)) (h : callE C okr okw rs dst f args st.b ids W ro K) : (callPM C okr okw dst f args).w0 Kst st := by
  unfold callE at h
  split at h
  · rename_i objs hobjs
    obtain ⟨hk, hx⟩ := getO_spec hobjs
    split at h
    · rename_i hc
      simp only [Bool.and_eq_true, fits1, decide_eq_true_eq] at hc
      obtain ⟨⟨hokr, hargs, hobj⟩, hnd⟩ := hc
      have frs : ∀ (fr : List (Nat × List CV)), (fr.all fun x => (st.b.lookup x.1).isNone && frOk okr okw dst x.1) = true → (∀ b ∈ fr.map (·.1), st.bx b = none) ∧ ((fr.map (·.1)).all (frOk okr okw dst)) = true := by
        intro fr hfr
        rw [List.all_eq_true] at hfr
        refine ⟨fun b hb => ?_, ?_⟩
        · obtain ⟨x, hx, rfl⟩ := List.mem_map.1 hb
          have := hfr x hx
          simp only [Bool.and_eq_true, Option.isNone_iff_eq_none] at this
          exact this.1
        · rw [List.all_eq_true]
          intro b hb
          obtain ⟨x, hx, rfl⟩ := List.mem_map.1 hb
          have := hfr x hx
          simp only [Bool.and_eq_true] at this
          exact this.2
      have frI : ∀ b, frOk okr okw dst b = true → isFr dst b = true ∧ (hiB b = true → okw 4999 = true ∧ okr b = true ∧ okw b = true) := fun b hb => by
        unfold frOk at hb
        unfold isFr
        simp only [Bool.or_eq_true, Bool.and_eq_true, Bool.not_eq_true'] at hb ⊢
        rcases hb with hb | hb
        · exact ⟨.inl (.inl hb.1), fun hh => by rw [hb.2] at hh; cases hh⟩
        · rcases hb.1.1.1 with q | q
          · exact ⟨.inl (.inr q), fun _ => ⟨hb.1.1.2, hb.1.2, hb.2⟩⟩
          · exact ⟨.inr q, fun _ => ⟨hb.1.1.2, hb.1.2, hb.2⟩⟩
      split at h
      · split at h
        · exact h.elim
        rename_i hany
        have hany : (killL f ids).isEmpty = true := by simpa using hany
        have hfil : killL f ids = [] := List.isEmpty_iff.1 hany
        obtain ⟨r, fr, h⟩ := exR_ex h
        split at h
        · rename_i hfr
          simp only [Bool.and_eq_true, decide_eq_true_eq] at hfr
          obtain ⟨h1, h2⟩ := h
          obtain ⟨f1, f2⟩ := frs fr hfr.1
          have f3 : ((fr.map (·.1)).all (isFr dst)) = true := List.all_eq_true.2 fun b hb => (frI b (List.all_eq_true.1 f2 b hb)).1
          have f4 : ((killL f ids ++ fr.map (·.1)).all fun b => !hiB b || (okw 4999 && okr b && okw b)) = true := List.all_eq_true.2 fun b hb => by
            rw [hfil, List.nil_append] at hb
            by_cases hh : hiB b = true
            · obtain ⟨q1, q2, q3⟩ := (frI b (List.all_eq_true.1 f2 b hb)).2 hh
              simp [q1, q2, q3]
            · simp [hh]
          refine ⟨⟨ids, objs, r, objs ++ fr, fr.map (·.1)⟩, by simp only [hokr, f3, f4, hargs, hany, Bool.and_self, Bool.true_or], ?_⟩
          show PM.w0 (getBs ids _) Kst st
          rw [← hk]
          refine getBs_w0 hx (newBs_w0 f1 ⟨⟨hW _ h1, by simp, by simpa [hk] using hfr.2, by rw [hk]; exact hobj, fun x hxm _ => ?_⟩, ?_⟩)
          · have hl : objs.lookup x.1 = some x.2 := by
              have hnd' : (objs.map (·.1)).Nodup := by rw [hk]; exact hnd
              exact lookup_nodup hnd' hxm
            rw [List.lookup_append, hl]; rfl
          · rw [hk, hfil]
            refine setBs_w0 ?_
            rw [List.filter_append, setAll_append, setAll_self fun x hx' => hx x (List.mem_filter.1 hx').1]
            have : fr.filter (fun x => okw x.1 || (fr.map (·.1)).contains x.1) = fr := by
              rw [List.filter_eq_self]
              intro x hx'
              have : (fr.map (·.1)).contains x.1 = true := by simpa using ⟨x.2, hx'⟩
              simp only [this, Bool.or_true]
            rw [this]
            have := hK _ _ (fun _ => hfil) h2
            rw [hfil] at this
            exact setD_w0.2 this
        · exact h.elim
      · rename_i hro
        obtain ⟨objs', h⟩ := exObjs_ex h
        obtain ⟨r, fr, h⟩ := exR_ex h
        split at h
        · rename_i hfr
          simp only [Bool.and_eq_true, decide_eq_true_eq, beq_iff_eq] at hfr
          obtain ⟨h1, h2⟩ := h
          obtain ⟨f1, f2⟩ := frs fr hfr.1.1.1
          have hokw : ids.all okw = true := by
            simp only [Bool.or_eq_true, not_or, Bool.not_eq_true, Bool.not_eq_false'] at hro
            exact hro.2
          have f3 : ((fr.map (·.1)).all (isFr dst)) = true := List.all_eq_true.2 fun b hb => (frI b (List.all_eq_true.1 f2 b hb)).1
          have f4 : ((killL f ids ++ fr.map (·.1)).all fun b => !hiB b || (okw 4999 && okr b && okw b)) = true := List.all_eq_true.2 fun b hb => by
            by_cases hh : hiB b = true
            · rcases List.mem_append.1 hb with hb | hb
              · have hmm := (List.mem_filter.1 hb).1
                have h9 : okw 4999 = true := by
                  rcases Bool.or_eq_true_iff.1 hfr.2 with q | q
                  · rw [List.isEmpty_iff.1 q] at hb; cases hb
                  · exact q
                simp [h9, List.all_eq_true.1 hokr b hmm, List.all_eq_true.1 hokw b hmm]
              · obtain ⟨q1, q2, q3⟩ := (frI b (List.all_eq_true.1 f2 b hb)).2 hh
                simp [q1, q2, q3]
            · simp [hh]
          have hro' : ro = false := by
            simp only [Bool.or_eq_true, not_or, Bool.not_eq_true] at hro
            exact hro.1
          refine ⟨⟨ids, objs, r, objs' ++ fr, fr.map (·.1)⟩, by simp only [hokr, f3, f4, hargs, hokw, Bool.and_self, Bool.or_true], ?_⟩
          show PM.w0 (getBs ids _) Kst st
          rw [← hk]
          refine getBs_w0 hx (newBs_w0 f1 ⟨⟨hW _ h1, by simp [hfr.1.2, hk], by simpa [hk] using hfr.1.1.2, by rw [hk]; exact hobj, fun x hxm hn => ?_⟩, ?_⟩)
          · have := List.all_eq_true.1 hokw x.1 (by rw [← hk]; exact List.mem_map_of_mem hxm)
            rw [hn] at this; cases this
          · rw [hk]
            refine killBs_w0 (l := killL f ids) (fun b hb => by unfold mvb; have := killL_hi hb; unfold hiB at this; rw [this, Bool.or_true]) (setBs_w0 ?_)
            have : (objs' ++ fr).filter (fun x => okw x.1 || (fr.map (·.1)).contains x.1) = objs' ++ fr := by
              rw [List.filter_eq_self]
              intro x hx'
              rcases List.mem_append.1 hx' with hx' | hx'
              · have := List.all_eq_true.1 hokw x.1 (by rw [← hfr.1.2]; exact List.mem_map_of_mem hx')
                simp only [this, Bool.true_or]
              · have : (fr.map (·.1)).contains x.1 = true := by simpa using ⟨x.2, hx'⟩
                simp only [this, Bool.or_true]
            rw [this]
            exact setD_w0.2 (hK _ _ (fun h => by rw [hro'] at h; cases h) h2)
        · exact h.elim
    · exact h.elim
  · exact h.elim
end B
end Go.Proofs.YtmkkljbfmdngfaaGreatDoor
