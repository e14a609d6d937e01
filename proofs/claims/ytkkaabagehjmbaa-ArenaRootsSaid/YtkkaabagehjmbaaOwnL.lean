/-
  A copy of a list that the call makes, and stores into it.
-/
import Derived.Test.YtkkaabagehjmbaaFacts3
set_option linter.unusedSimpArgs false
set_option linter.unusedVariables false
namespace Go.Proofs.Ytkkaabagehjmbaa
open Go.RowKit Go.Shelf Crc

/-- A list of the call's own, in a block from 'base' on. -/
def OwnL (w : World) (base g cap : Nat) (l : List Int) : Prop := w.ownsRow base 3 1 (.slice (some ⟨g, 0, none⟩) l.length cap) l.length (intRow l)
theorem OwnL.of {w : World} {base : Nat} {v : Value} {n : Nat} {l : List Int} (h : w.ownsRow base 3 1 v n (intRow l)) (hn : 0 < n) :
    ∃ g cap, v = .slice (some ⟨g, 0, none⟩) n cap ∧ n = l.length ∧ base ≤ g ∧ g < w.heap.size ∧ n ≤ cap ∧ cap ≤ maxLen ∧ OwnL w base g cap l := by
  have hl : n = l.length := by have := h.1; simp [intRow_length] at this; omega
  subst hl
  rcases h.2 with ⟨_, h0⟩ | ⟨g, cap, cur, rfl, hb, hg, hnc, hcm, _⟩
  · omega
  · exact ⟨g, cap, rfl, rfl, hb, (Array.getElem?_eq_some_iff.1 hg).1, hnc, hcm, h⟩
theorem OwnL.cell {w : World} {base g cap : Nat} {l : List Int} (h : OwnL w base g cap l) {j : Nat} (hj : j < l.length) : w.cell? ⟨g, j, none⟩ = some (.int .i64 (l[j]?.getD 0)) := by
  have := World.ownsRow.cellAt h j (by omega)
  rw [this]
  exact intRow_get l j hj
theorem OwnL.frozen {w : World} {base g cap : Nat} {l : List Int} (h : OwnL w base g cap l) (j : Nat) : w.frozen? ⟨g, j, none⟩ = false := World.ownsRow.frozenAt h j
theorem OwnL.lt {w : World} {base g cap : Nat} {l : List Int} (h : OwnL w base g cap l) : base ≤ g ∧ g < w.heap.size := World.ownsRow.lt h g rfl
theorem OwnL.rints {w : World} {base g cap : Nat} {l : List Int} (h : OwnL w base g cap l) : RInts w w.heap.size (some ⟨g, 0, none⟩) l :=
  fun _ => ⟨g, 0, rfl, h.lt.2, fun i hi => by rw [Nat.zero_add]; exact h.cell hi⟩
theorem OwnL.set {w : World} {base g cap : Nat} {l : List Int} (h : OwnL w base g cap l) (j : Nat) (x : Int) : OwnL (w.setCell ⟨g, j, none⟩ (.int .i64 x)) base g cap (l.set j x) := by
  have := (World.ownsRow.stored h j (.int .i64 x)).1
  unfold OwnL
  rw [List.length_set]
  have e : intRow (l.set j x) = (intRow l).set j (.int .i64 x) := by simp [intRow, List.map_set]
  rw [e]
  exact this
theorem OwnL.below {w w' : World} {base B g cap : Nat} {l : List Int} (h : OwnL w base g cap l) (hb : Below B w w') (hB : w.heap.size ≤ B) : OwnL w' base g cap l := own_below h (hb.mono hB)
/-- Words that agree where it is asked, block by block. -/
theorem blk16_ext {l m : List Int} (hlen : m.length = l.length) {b : Nat} (h : ∀ i, i < l.length → i / 16 = b → m[i]?.getD 0 = l[i]?.getD 0) : blk16 m b = blk16 l b := by
  apply List.ext_getElem?
  intro i
  unfold blk16
  rw [List.getElem?_take, List.getElem?_take]
  split
  · rename_i hi
    rw [List.getElem?_drop, List.getElem?_drop]
    by_cases hlt : 16 * b + i < l.length
    · have := h (16 * b + i) hlt (by omega)
      rw [List.getElem?_eq_getElem hlt, List.getElem?_eq_getElem (by omega)] at this ⊢
      simpa using this
    · rw [List.getElem?_eq_none (by omega), List.getElem?_eq_none (by omega)]
  · rfl
end Go.Proofs.Ytkkaabagehjmbaa
