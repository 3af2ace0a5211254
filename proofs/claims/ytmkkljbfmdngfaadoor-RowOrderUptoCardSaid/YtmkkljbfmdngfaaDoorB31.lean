/- Data of a type, taken apart. No condition. -/
import Derived.Test.YtmkkljbfmdngfaaDoorB30
set_option linter.all false
namespace Go.Proofs.YtmkkljbfmdngfaaDoor
namespace B
variable {P : Program} {n : Nat} {t e : TypeId} {x : D}

/-- A value of a type. -/
def TyV (P : Program) (n : Nat) (t : TypeId) (x : D) : Prop := Ty P n t x.cells ∧ x = mkEl P t x.cells
theorem ty_bool (hu : P.underlying t = some .bool) (h : TyV P (n + 1) t x) : ∃ b, x = .bool b := by
  obtain ⟨h1, h2⟩ := h
  unfold Ty at h1
  unfold mkEl at h2
  rw [hu] at h1 h2
  obtain ⟨b, hb⟩ := h1
  rw [hb] at h2
  exact ⟨b, h2⟩
theorem ty_int {k : IntKind} (hu : P.underlying t = some (.int k)) (h : TyV P (n + 1) t x) : ∃ y, x = .int k y ∧ k.min ≤ y ∧ y ≤ k.max := by
  obtain ⟨h1, h2⟩ := h
  unfold Ty at h1
  unfold mkEl at h2
  rw [hu] at h1 h2
  obtain ⟨b, hb, h3⟩ := h1
  rw [hb] at h2
  exact ⟨b, h2, h3⟩
theorem ty_str (hu : P.underlying t = some .string) (h : TyV P (n + 1) t x) : ∃ s : Bytes, x = .str s ∧ s.length ≤ maxLen := by
  obtain ⟨h1, h2⟩ := h
  unfold Ty at h1
  unfold mkEl at h2
  rw [hu] at h1 h2
  obtain ⟨b, hb, h3⟩ := h1
  rw [hb] at h2
  exact ⟨b, h2, h3⟩
theorem ty_slice (hu : P.underlying t = some (.slice e)) (h : TyV P (n + 1) t x) : ∃ l, x = .slice (P.cellsOf e) l ∧ l.length ≤ maxLen ∧ ∀ y ∈ l, TyV P n e y := by
  obtain ⟨h1, h2⟩ := h
  unfold Ty at h1
  unfold mkEl at h2
  rw [hu] at h1 h2
  obtain ⟨l, hb, h3, h4⟩ := h1
  rw [hb] at h2
  exact ⟨l, h2, h3, h4⟩
/-- The cells of a field. -/
theorem ty_struct {fs : Array Field} (hu : P.underlying t = some (.struct fs)) (h : TyV P (n + 1) t x) : ∃ parts : List (List D), x = .agg parts.flatten ∧ parts.length = fs.toList.length ∧ ∀ (i : Nat) f p, fs.toList[i]? = some f → parts[i]? = some p → Ty P n f.type p := by
  obtain ⟨h1, h2⟩ := h
  unfold Ty at h1
  unfold mkEl at h2
  rw [hu] at h1 h2
  obtain ⟨parts, hb, h3⟩ := h1
  rw [hb] at h2
  exact ⟨parts, h2, h3⟩
theorem ty_list {α : Type} {f : α → D} {l : List D} (h : ∀ y ∈ l, ∃ a, y = f a) : ∃ as : List α, l = as.map f := by
  induction l with
  | nil => exact ⟨[], rfl⟩
  | cons y r ih =>
    obtain ⟨a, rfl⟩ := h y (by simp)
    obtain ⟨as, rfl⟩ := ih fun z hz => h z (by simp [hz])
    exact ⟨a :: as, rfl⟩
theorem tyAll_nil {xs : List D} (h : TyAll P n [] xs) : xs = [] := by
  cases xs with
  | nil => rfl
  | cons x r => exact h.elim
theorem tyAll_cons {ts : List TypeId} {xs : List D} (h : TyAll P n (t :: ts) xs) : ∃ x r, xs = x :: r ∧ TyV P n t x ∧ TyAll P n ts r := by
  cases xs with
  | nil => exact h.elim
  | cons x r => exact ⟨x, r, rfl, h.1, h.2⟩
end B
end Go.Proofs.YtmkkljbfmdngfaaDoor
