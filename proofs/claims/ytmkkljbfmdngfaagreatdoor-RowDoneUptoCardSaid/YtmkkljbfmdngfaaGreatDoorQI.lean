/- What the reference makes of a message, of flags, of cuts; RowMakes: contracts. Conditions: sizes. -/
import Derived.Test.YtmkkljbfmdngfaaGreatDoorQH
set_option linter.all false
namespace Go.Proofs.YtmkkljbfmdngfaaGreatDoor
namespace B
open Go.RowKit

theorem idxOf_inj {all : List Bytes} {u v : Bytes} (hu : u ∈ all) (hv : v ∈ all) (h : idxOf all u = idxOf all v) : u = v := by
  obtain ⟨_, _, h1⟩ := place_of all hu
  obtain ⟨_, _, h2⟩ := place_of all hv
  rw [← h1, ← h2, h]
theorem map_nodup {all : List Bytes} : ∀ {l : List Bytes}, l.Nodup → (∀ w ∈ l, w ∈ all) → (l.map (idxOf all)).Nodup
  | [], _, _ => by simp
  | w :: r, hn, h => by
    rw [List.nodup_cons] at hn
    rw [List.map_cons, List.nodup_cons]
    refine ⟨fun hm => ?_, map_nodup hn.2 fun v hv => h v (by simp [hv])⟩
    obtain ⟨v, hv, e⟩ := List.mem_map.1 hm
    have := idxOf_inj (h v (by simp [hv])) (h w (by simp)) e
    subst this
    exact hn.1 hv
theorem places_rise (b : Box) {l : List Bytes} (hn : l.Nodup) : (placesB b l).Pairwise (· < ·) := by
  have h1 := sortI_sorted (l.map (idxOf (b.words ++ freshB b l)))
  have h2 : (sortI (l.map (idxOf (b.words ++ freshB b l)))).Nodup := (List.mergeSort_perm _ _).nodup_iff.2 (map_nodup hn fun w hw => mem_all b l hw)
  have := List.pairwise_and_iff.2 ⟨h1, h2⟩
  exact this.imp fun h => by have := h.1; have := h.2; omega
end B
end Go.Proofs.YtmkkljbfmdngfaaGreatDoor
