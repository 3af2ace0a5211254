/- The library's functions, as contracts on data. No condition. -/
import Derived.Test.YtmiclaoelbemkaaDoorProg
import Derived.Test.YtmiclaoelbemkaaDoorSh
import Derived.Test.YtmiclaoelbemkaaDoorB32
import Derived.Lib.AppendIntMem
import Derived.Lib.SplitLaws
set_option linter.all false
namespace Go.Proofs.YtmiclaoelbemkaaDoor
namespace B
open Go.RowKit
noncomputable abbrev P : Program := Tryd.prog

theorem gzMax {ρ : Nat → Role} {w : World} (h : GzOk ρ w) : ∃ m, w.cell? ⟨0, 0, none⟩ = some (.int .i64 m) := by
  obtain ⟨m, h⟩ := h
  obtain ⟨_, t, fz, k⟩ := h 0 _ rfl
  exact ⟨m, by simp [World.cell?, k]⟩
theorem gzTab {ρ : Nat → Role} {w : World} (h : GzOk ρ w) : Lib.TabIs P w "internal/strconv.uint64pow10" .u64 Lib.pow10Tab := by
  obtain ⟨m, h⟩ := h
  obtain ⟨_, t, fz, k⟩ := h 1 _ rfl
  unfold Lib.TabIs World.var?
  rw [show P.globalNamed "internal/strconv.uint64pow10" = some 1 by kernel_rfl]
  simp only [Option.bind_some]
  rw [k]

theorem r28 (n : Int) (h0 : -9223372036854775808 ≤ n) (h1 : n ≤ 9223372036854775807) : Runs P 28 [.d (.int .i64 n)] [] (.d (.str (Lib.itoa n))) [] := by
  refine ⟨⟨Tryd.f28, Tryd.func28, by kernel_rfl, by kernel_rfl⟩, fun Γ ρ bl vals w h hz => ?_⟩
  obtain ⟨v, rfl, hv⟩ := vals1 h
  obtain rfl := rep_int hv
  refine (Tryd.strconv_Itoa n h0 h1 w (gzTab hz)).mono ?_
  rintro e w' ⟨rfl, k, os, rfl⟩
  exact done_below h (Go.Lib.below_grow _ _ (Nat.le_refl _) k os) (Rep.str _) (fun _ h => h)

theorem r22 (s t : Bytes) (hs : s.length < 4294967281) : Runs P 22 [.d (.str s), .d (.str t)] [] (.tup [.d (.str (Lib.cut s t).1), .d (.str (Lib.cut s t).2.1), .d (.bool (Lib.cut s t).2.2)]) [] := by
  refine ⟨⟨Tryd.f22, Tryd.func22, by kernel_rfl, by kernel_rfl⟩, fun Γ ρ bl vals w h hz => ?_⟩
  obtain ⟨v, u, rfl, hv, hu⟩ := vals2 h
  obtain rfl := rep_str hv
  obtain rfl := rep_str hu
  obtain ⟨m, hm⟩ := gzMax hz
  refine (Tryd.strings_Cut ⟨s.toArray⟩ ⟨t.toArray⟩ m w (by simpa [ByteArray.size] using hs) hm).mono ?_
  rintro e w' ⟨rfl, n, rfl⟩
  refine done_below h ⟨rfl, rfl, rfl, Nat.le_refl _, fun _ _ => rfl⟩ ⟨[_, _, _], rfl, rfl, ?_⟩ (fun b hb => by
    obtain ⟨c, hc, hm⟩ := hb
    simp at hc
    rcases hc with rfl | rfl | rfl <;> exact hm)
  intro i c v hc hv
  match i with
  | 0 => simp at hc hv; subst hc; subst hv; exact Rep.str _
  | 1 => simp at hc hv; subst hc; subst hv; exact Rep.str _
  | 2 => simp at hc hv; subst hc; subst hv; exact Rep.bool _
  | i + 3 => simp at hc

/-- The pieces. -/
def pieces (t s : Bytes) : List Bytes := (Lib.splitB ⟨t.toArray⟩ 0 (Lib.countB ⟨s.toArray⟩ ⟨t.toArray⟩) ⟨s.toArray⟩).map (·.data.toList)
theorem r21 (s t : Bytes) (hs : s.length < 4294967281) (ht : 1 ≤ t.length) : Runs P 21 [.d (.str s), .d (.str t)] [] (.own 1 ((pieces t s).map .str)) [] := by
  refine ⟨⟨Tryd.f21, Tryd.func21, by kernel_rfl, by kernel_rfl⟩, fun Γ ρ bl vals w h hz => ?_⟩
  obtain ⟨v, u, rfl, hv, hu⟩ := vals2 h
  obtain rfl := rep_str hv
  obtain rfl := rep_str hu
  obtain ⟨m, hm⟩ := gzMax hz
  have ht' : 1 ≤ (⟨t.toArray⟩ : ByteArray).size := by simpa [ByteArray.size] using ht
  have hlen : (pieces t s).length = Lib.countB ⟨s.toArray⟩ ⟨t.toArray⟩ + 1 := by
    rw [pieces, List.length_map]; exact Lib.splitB_all _ ht' 0 _ _ rfl
  have hle := Lib.countB_le ⟨t.toArray⟩ ht' _ ⟨s.toArray⟩ (Nat.le_refl _)
  have hsz : (⟨s.toArray⟩ : ByteArray).size = s.length := by simp [ByteArray.size]
  refine (Tryd.strings_Split ⟨s.toArray⟩ ⟨t.toArray⟩ m w (by rw [hsz]; exact hs) hm ht').mono ?_
  rintro e w' ⟨rfl, rfl⟩
  have := done_strs h (pieces t s) 9 (by rw [hlen]; unfold maxLen; omega) (by intro e; rw [e] at hlen; simp at hlen)
  rw [hlen] at this
  have e1 : ((pieces t s).map fun s => Value.string ⟨s.toArray⟩) = (Lib.splitB ⟨t.toArray⟩ 0 (Lib.countB ⟨s.toArray⟩ ⟨t.toArray⟩) ⟨s.toArray⟩).map Value.string := by
    rw [pieces, List.map_map]
    exact List.map_congr_left fun x _ => rfl
  rw [e1] at this
  exact this
end B
end Go.Proofs.YtmiclaoelbemkaaDoor
