/-
  rec.text, rec.Check, rec.summed.
-/
import Derived.Test.YtkkaabagehjmbaaText
import Derived.Deep.AppendLies
import Derived.Deep.RegionHeld3
import Derived.Deep.DrawnRows
set_option linter.unusedSimpArgs false
set_option linter.unusedVariables false
namespace Go.Proofs.Ytkkaabagehjmbaa
open Go.RowKit Go.Shelf
attribute [local go_sem ↓] Go.wp_at_zero Go.wp_at_succ

theorem RInts.of_blk {w : World} {g off B : Nat} {t : TypeId} {m : List Int} (h : Blk w g t (intRow m).toArray) (hB : g < B) (k : Nat) (hk : off + k ≤ m.length) : RInts w B (some ⟨g, off, none⟩) ((m.drop off).take k) := by
  intro _
  refine ⟨g, off, rfl, hB, fun i hi => ?_⟩
  simp at hi
  rw [h.cell, List.getElem?_take, if_pos (by omega), List.getElem?_drop]
  simpa using intRow_get m (off + i) (by omega)

/-- rec.text. -/
def recText (m : List Int) (at' : Nat) (n : Int) : Option ByteArray := if n < 0 ∨ 21 < n then none else readText ((m.drop at').take ((n.toNat + 6) / 7)) n

def PostRText (w : World) : Option ByteArray → Ending → World → Prop
  | none, e, w' => e = .returned (.tuple #[.string (ByteArray.mk #[]), .bool false]) ∧ Below w.heap.size w w'
  | some b, e, w' => e = .returned (.tuple #[.string b, .bool true]) ∧ Below w.heap.size w w'

set_option maxRecDepth 100000 in
theorem recText_any (m : List Int) (at' : Nat) (n : Int) (hm : m.length = 16) (hat : at' ≤ 6) (w : World) :
    Calls Try.prog 73 #[.agg (intRow m).toArray, .int .i64 (at' : Int), .int .i64 n] w (PostRText w (recText m at' n)) := by
  have hb0 : Below w.heap.size w (w.alloc (.cells (intRow m).toArray 103)) := (Below.refl _ _).alloc (Nat.le_refl _) _
  by_cases hn : n < 0 ∨ 21 < n
  · have hr : recText m at' n = none := by unfold recText; rw [if_pos hn]
    rw [hr]
    rcases hn with hn | hn
    · go_enter Try.func73, Try.ntmps73
      go_wp2_with fail
      go_ret2
      exact ⟨rfl, hb0⟩
    · have h0 : ¬ n < 0 := by omega
      go_enter Try.func73, Try.ntmps73
      go_wp2_with fail
      go_ret2
      exact ⟨rfl, hb0⟩
  · obtain ⟨k, rfl⟩ : ∃ k : Nat, n = (k : Int) := ⟨n.toNat, by omega⟩
    have h0 : ¬ (k : Int) < 0 := by omega
    have h21 : k ≤ 21 := by omega
    have hr : recText m at' k = readText ((m.drop at').take ((k + 6) / 7)) k := by unfold recText; rw [if_neg hn, Int.toNat_natCast]
    rw [hr]
    obtain ⟨r, hr_⟩ : ∃ r, r = readText ((m.drop at').take ((k + 6) / 7)) k := ⟨_, rfl⟩
    rw [← hr_]
    have HR := Lib.hid hr_
    clear hr_
    have hnew := Blk.new w 103 (intRow m).toArray
    have hs := RInts.of_blk (off := at') (B := w.heap.size + 1) hnew (by omega) ((k + 6) / 7) (by omega)
    have hlen : ((m.drop at').take ((k + 6) / 7)).length = (k + 6) / 7 := by simp; omega
    have HS := Lib.hid hs
    have HLn := Lib.hid hlen
    have hdiv : ((k : Int) + 6) / 7 = ((k + 6) / 7 : Nat) := by omega
    obtain ⟨q, hq⟩ : ∃ q, q = (k + 6) / 7 := ⟨_, rfl⟩
    rw [← hq] at hdiv
    have HQ := Lib.hid hq
    have hq3 : q ≤ 3 := by omega
    have hA0 : (at' : Int) ≤ (at' : Int) + (q : Int) := by omega
    have hA1 : (at' : Int) + (q : Int) ≤ 16 := by omega
    have hA2 : 0 ≤ (at' : Int) + (q : Int) := by omega
    clear hs hlen hr hn hq
    go_enter Try.func73, Try.ntmps73
    go_wp2_with fail
    refine (keyText_any (some ⟨w.heap.size, at', none⟩) q k (16 - at') (w.heap.size + 1) _ (by rw [HLn.out, HQ.out]) (by rw [HQ.out]) h21 _ (by simp) HS.out).mono ?_
    rw [← HR.out]
    rintro e w' ⟨he, hb⟩
    have hb' := below_call hb0 hb
    clear hb
    rcases r with _ | s
    · obtain rfl := he
      go_wp2_with fail
      go_ret2
      exact ⟨rfl, hb'⟩
    · obtain rfl := he
      go_wp2_with fail
      go_ret2
      exact ⟨rfl, hb'⟩

/-- rec.Check. -/
def recOk (kind : Int) (key val : ByteArray) (child : Int) : Bool :=
  if kind = 1 then keyOk key && valOk val && decide (child = 0)
  else if kind = 2 then (key.toList.isEmpty || keyOk key) && val.toList.isEmpty && decide (0 < child) && decide (child < 256)
  else false
def recCells (kind : Int) (key val : ByteArray) (child : Int) : Array Value := #[.int .i64 kind, .string key, .string val, .int .i64 child]

set_option maxHeartbeats 4000000 in
set_option maxRecDepth 100000 in
theorem recCheck_any (kind : Int) (key val : ByteArray) (child : Int) (w : World) :
    Calls Try.prog 74 #[.agg (recCells kind key val child)] w fun e w' => e = .returned (.bool (recOk kind key val child)) ∧ Below w.heap.size w w' := by
  have hb0 : Below w.heap.size w (w.alloc (.cells (recCells kind key val child) 59)) := (Below.refl _ _).alloc (Nat.le_refl _) _
  have hnew := Blk.new w 59 (recCells kind key val child)
  have c0 : (w.alloc (.cells (recCells kind key val child) 59)).cell? ⟨w.heap.size, 0, none⟩ = some (.int .i64 kind) := hnew.cell 0
  have c1 : (w.alloc (.cells (recCells kind key val child) 59)).cell? ⟨w.heap.size, 1, none⟩ = some (.string key) := hnew.cell 1
  have c2 : (w.alloc (.cells (recCells kind key val child) 59)).cell? ⟨w.heap.size, 2, none⟩ = some (.string val) := hnew.cell 2
  have c3 : (w.alloc (.cells (recCells kind key val child) 59)).cell? ⟨w.heap.size, 3, none⟩ = some (.int .i64 child) := hnew.cell 3
  by_cases h1 : kind = 1
  · subst h1
    have hk := keyCheck_any key (w.alloc (.cells (recCells 1 key val child) 59))
    have hv := keyCheckVal_any val (w.alloc (.cells (recCells 1 key val child) 59))
    have hres : recOk 1 key val child = (keyOk key && valOk val && decide (child = 0)) := by simp [recOk]
    rw [hres]
    clear hres
    rcases hkk : keyOk key with _ | _ <;> rcases hvv : valOk val with _ | _ <;> rw [hkk] at hk <;> rw [hvv] at hv
    all_goals
      go_enter Try.func74, Try.ntmps74
      go_wp2_with (first | (go_at_call 102; refine hk.mono ?_; rintro e w' ⟨rfl, rfl⟩) | (go_at_call 103; refine hv.mono ?_; rintro e w' ⟨rfl, rfl⟩))
      go_ret
      exact ⟨by (try simp); (try rfl), hb0⟩
  · by_cases h2 : kind = 2
    · subst h2
      have hk := keyCheck_any key (w.alloc (.cells (recCells 2 key val child) 59))
      have hres : recOk 2 key val child = ((key.toList.isEmpty || keyOk key) && val.toList.isEmpty && decide (0 < child) && decide (child < 256)) := by simp [recOk]
      rw [hres]
      clear hres
      rcases hkk : keyOk key with _ | _ <;> rw [hkk] at hk
      all_goals
        by_cases he : key.toList = [] <;> by_cases hf : val.toList = [] <;> by_cases h0 : 0 < child
        all_goals
          go_enter Try.func74, Try.ntmps74
          go_wp2_with (first | (go_at_call 102; refine hk.mono ?_; rintro e w' ⟨rfl, rfl⟩))
          go_ret
          exact ⟨by (try simp [he, hf, h0]); (try omega), hb0⟩
    · have hres : recOk kind key val child = false := by simp [recOk, h1, h2]
      rw [hres]
      clear hres
      go_enter Try.func74, Try.ntmps74
      go_wp2_with fail
      go_ret
      exact ⟨rfl, hb0⟩
end Go.Proofs.Ytkkaabagehjmbaa
