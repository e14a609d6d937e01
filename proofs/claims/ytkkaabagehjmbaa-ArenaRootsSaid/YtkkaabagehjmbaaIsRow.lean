/-
  A slice of numbers that came in.
-/
import Derived.Test.YtkkaabagehjmbaaBase
namespace Go.Proofs.Ytkkaabagehjmbaa
open Go.RowKit

set_option linter.unusedSimpArgs false
set_option linter.unusedVariables false
theorem rints_of_cells {w : World} {x : Addr} {len cap : Nat} {zs : List Int} (hlen : len ≤ cap) (hz : zs.length = cap) (hc : ∀ i, i < zs.length → w.cell? (x.add i) = some (.int .i64 (zs.getD i 0))) :
    (zs.take len).length = len ∧ RInts w w.heap.size (some x) (zs.take len) := by
  have hl : (zs.take len).length = len := by rw [List.length_take]; omega
  refine ⟨hl, fun hne => ?_⟩
  have hpos : 0 < len := by
    rcases Nat.eq_zero_or_pos len with h | h
    · subst h; simp at hne
    · exact h
  obtain ⟨b, off, s⟩ := x
  cases s with
  | some s =>
    have h0 := hc 0 (by omega)
    have : ((⟨b, off, some s⟩ : Addr).add 0).spot.isSome = true := by unfold Addr.add; rw [if_pos rfl]; rfl
    unfold World.cell? at h0
    split at h0
    · rw [if_pos this] at h0; cases h0
    · cases h0
  | none =>
    have h0 := hc 0 (by omega)
    rw [add_lit] at h0
    refine ⟨b, off, rfl, block_lt_of_cell h0, fun i hi => ?_⟩
    rw [hl] at hi
    have h := hc i (by omega)
    rw [add_lit] at h
    rw [h]
    simp [List.getElem?_take, hi]
end Go.Proofs.Ytkkaabagehjmbaa
