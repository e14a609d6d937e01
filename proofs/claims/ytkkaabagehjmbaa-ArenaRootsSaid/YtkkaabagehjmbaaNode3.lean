/-
  node.Words.
-/
import Derived.Test.YtkkaabagehjmbaaNode2
import Derived.Test.YtkkaabagehjmbaaSuper2
import Derived.Deep.RegionHeld3
import Derived.StillTailTactics
set_option linter.unusedSimpArgs false
set_option linter.unusedVariables false
namespace Go.Proofs.Ytkkaabagehjmbaa
open Go.RowKit

/-- A node's words. -/
def nodeWords (lev turn next low : Int) (l : List Int) : List Int := firstOf lev turn :: next :: low :: (l ++ zeros (13 - l.length))

theorem nodeSize : (Try.prog.info? 37).map (·.size) = some 5 := by kernel_rfl
theorem nodeLoad {w : World} {g : Nat} {lev turn next low : Int} {A : Option Addr} {n c : Nat} (h : Blk w g 37 (nodeCells lev turn next low A n c)) :
    LoadRow Try.prog w g 37 37 (nodeCells lev turn next low A n c) := ⟨h, nodeSize, isStruct Try.underlying37⟩

theorem keepSet {w : World} {D g i o : Nat} {u v : Value} (hne : ¬ D = g) (h : w.cell? ⟨D, o, none⟩ = some v) : (w.setCell ⟨g, i, none⟩ u).cell? ⟨D, o, none⟩ = some v := by
  rw [World.cell?_setCell_other _ _ _ _ (fun e => hne (by cases e; rfl))]; exact h
theorem keep5 {w : World} {D g i : Nat} {u v0 v1 v2 v3 v4 : Value} (hne : ¬ D = g)
    (h : w.cell? ⟨D, 0, none⟩ = some v0 ∧ w.cell? ⟨D, 1, none⟩ = some v1 ∧ w.cell? ⟨D, 2, none⟩ = some v2 ∧ w.cell? ⟨D, 3, none⟩ = some v3 ∧ w.cell? ⟨D, 4, none⟩ = some v4) :
    (w.setCell ⟨g, i, none⟩ u).cell? ⟨D, 0, none⟩ = some v0 ∧ (w.setCell ⟨g, i, none⟩ u).cell? ⟨D, 1, none⟩ = some v1 ∧ (w.setCell ⟨g, i, none⟩ u).cell? ⟨D, 2, none⟩ = some v2 ∧ (w.setCell ⟨g, i, none⟩ u).cell? ⟨D, 3, none⟩ = some v3 ∧ (w.setCell ⟨g, i, none⟩ u).cell? ⟨D, 4, none⟩ = some v4 :=
  ⟨keepSet hne h.1, keepSet hne h.2.1, keepSet hne h.2.2.1, keepSet hne h.2.2.2.1, keepSet hne h.2.2.2.2⟩

set_option maxHeartbeats 1000000 in
set_option maxRecDepth 100000 in
theorem nodeWords_ok (lev turn next low : Int) (A : Option Addr) (n c B : Nat) (l : List Int) (hn : l.length = n) (h1 : n ≤ 9223372036854775807) (w : World) (hB : B ≤ w.heap.size) (hr : RInts w B A l) (hok : nodeOk lev turn next low l = true) :
    Calls Try.prog 35 #[.agg (nodeCells lev turn next low A n c)] w (PostIntsErr w (nodeWords lev turn next low l) 0) := by
  have hl13 : l.length ≤ 13 := by
    unfold nodeOk at hok
    simp only [Bool.and_eq_true, decide_eq_true_eq] at hok
    exact hok.2.2.2.2.2.2.1
  have hnew := Blk.new w 37 (nodeCells lev turn next low A n c)
  have hb0 : Below w.heap.size w (w.alloc (.cells (nodeCells lev turn next low A n c) 37)) := (Below.refl _ _).alloc (Nat.le_refl _) _
  have HC := Lib.hid (nodeCheck_any lev turn next low A n c B l hn h1 _ (by simp; omega) (hr.alloc hB (.cells (nodeCells lev turn next low A n c) 37)))
  have HR := Lib.hid (hr.alloc hB (.cells (nodeCells lev turn next low A n c) 37))
  have HL := nodeLoad hnew
  have HOk := Lib.hid hok
  have hn13 : n ≤ 13 := by omega
  have HN := Lib.hid hn
  clear hok hr hn hl13
  have hmk : ∀ w, (Instr.makeSlice 23 (.int .i64 16) (.int .i64 16)).run Try.prog w = .ok (.slice (some ⟨w.heap.size, 0, none⟩) 16 16) (w.alloc (.cells (intRow (zeros 16)).toArray 3)) := fun _ => by kernel_rfl
  go_enter Try.func35, Try.ntmps35
  go_wp2_with (with_reducible refine wpList_load_r rfl _ _ rfl rfl HL ?_)
  refine HC.out.mono ?_
  rw [HOk.out]
  rintro e w1 ⟨rfl, hb1⟩
  have hD1 := hnew.below hb1 hnew.lt
  have hb2 := below_call hb0 hb1
  have HR1 := Lib.hid (HR.out.below hb1 (by simp; omega))
  have hlt := hD1.lt
  clear HL hnew HC HR hb1 hb0
  go_wp2_with fail
  have hD2 := hD1.alloc (.cells (intRow (zeros 16)).toArray 3)
  have hG := Blk.new w1 3 (intRow (zeros 16)).toArray
  have hb3 := hb2.alloc hb2.size (.cells (intRow (zeros 16)).toArray 3)
  have HR2 := Lib.hid (HR1.out.alloc (by omega) (.cells (intRow (zeros 16)).toArray 3))
  generalize hW : w1.alloc (.cells (intRow (zeros 16)).toArray 3) = wA at *
  have hne : ¬ w.heap.size = w1.heap.size := by omega
  generalize w1.heap.size = g at *
  clear hW hD1 HR1 hb2 hmk
  have p0 : wA.cell? ⟨w.heap.size, 0, none⟩ = some (.int .i64 lev) := hD2.cell 0
  have p1 : wA.cell? ⟨w.heap.size, 1, none⟩ = some (.int .i64 turn) := hD2.cell 1
  have p2 : wA.cell? ⟨w.heap.size, 2, none⟩ = some (.int .i64 next) := hD2.cell 2
  have p3 : wA.cell? ⟨w.heap.size, 3, none⟩ = some (.int .i64 low) := hD2.cell 3
  have p4 : wA.cell? ⟨w.heap.size, 4, none⟩ = some (.slice A n c) := hD2.cell 4
  go_region_held3 (fun w' => w'.cell? ⟨w.heap.size, 0, none⟩ = some (.int .i64 lev) ∧ w'.cell? ⟨w.heap.size, 1, none⟩ = some (.int .i64 turn) ∧ w'.cell? ⟨w.heap.size, 2, none⟩ = some (.int .i64 next) ∧ w'.cell? ⟨w.heap.size, 3, none⟩ = some (.int .i64 low) ∧ w'.cell? ⟨w.heap.size, 4, none⟩ = some (.slice A n c)) (first | go_keep | exact keep5 hne (by assumption))
    (first | (go_at_call 72; refine (first_any lev turn next low A n c _).mono ?_; rintro e w' ⟨rfl, hb'⟩; have hD' := hD2.drew.below hb' hD2.lt; have hG' := hG.drew.below hb' hG.lt; have q0 := hD'.cell 0; have q1 := hD'.cell 1; have q2 := hD'.cell 2; have q3 := hD'.cell 3; have q4 := hD'.cell 4; have r0 : w'.cell? ⟨g, 0, none⟩ = some (.int .i64 0) := hG'.cell 0; have r1 : w'.cell? ⟨g, 1, none⟩ = some (.int .i64 0) := hG'.cell 1; have r2 : w'.cell? ⟨g, 2, none⟩ = some (.int .i64 0) := hG'.cell 2; have hf' := hG'.frozen; have hbd : Below wA.heap.size wA w' := (Below.refl wA.heap.size wA).drew.trans hb'; have hb4 := hb3.trans (hbd.mono hb3.size)))
  have hGB := ((hG'.set_ 0 (.int .i64 (firstOf lev turn))).set_ 1 (.int .i64 next)).set_ 2 (.int .i64 low)
  have hDB := ((hD'.far (p := ⟨g, 0, none⟩) hne (.int .i64 (firstOf lev turn))).far (p := ⟨g, 1, none⟩) hne (.int .i64 next)).far (p := ⟨g, 2, none⟩) hne (.int .i64 low)
  have hbB := ((hb4.setCell (p := ⟨g, 0, none⟩) (by simp; omega) (.int .i64 (firstOf lev turn))).setCell (p := ⟨g, 1, none⟩) (by simp; omega) (.int .i64 next)).setCell (p := ⟨g, 2, none⟩) (by simp; omega) (.int .i64 low)
  have HRB := Lib.hid ((((HR2.out.below hbd (by have := hb3.size; omega)).setCell (p := ⟨g, 0, none⟩) (by simp; omega) (.int .i64 (firstOf lev turn))).setCell (p := ⟨g, 1, none⟩) (by simp; omega) (.int .i64 next)).setCell (p := ⟨g, 2, none⟩) (by simp; omega) (.int .i64 low))
  have eRow : (((intRow (zeros 16)).toArray.setIfInBounds 0 (.int .i64 (firstOf lev turn))).setIfInBounds 1 (.int .i64 next)).setIfInBounds 2 (.int .i64 low) = (intRow (firstOf lev turn :: next :: low :: zeros 13)).toArray := rfl
  rw [eRow] at hGB
  have p4 : (((w'.setCell { block := g, off := 0 } (Value.int IntKind.i64 (firstOf lev turn))).setCell { block := g, off := 1 } (Value.int IntKind.i64 next)).setCell { block := g, off := 2 } (Value.int IntKind.i64 low)).cell? ⟨w.heap.size, 4, none⟩ = some (.slice A n c) := hDB.cell 4
  generalize (((w'.setCell { block := g, off := 0 } (Value.int IntKind.i64 (firstOf lev turn))).setCell { block := g, off := 1 } (Value.int IntKind.i64 next)).setCell { block := g, off := 2 } (Value.int IntKind.i64 low)) = wB at *
  rename_i hHeld
  clear hHeld hbd q0 q1 q2 q3 q4 r0 r1 r2 hD' hG' hf' hb' hb4 p0 p1 p2 p3 hD2 hG HR2 eRow
  go_wp2_with fail
  go_still_tail 4, (by kernel_rfl)
  change wpList _ _ _ _ _ wB.drew
  have hGC := hGB.drew
  have hbC := hbB.drew
  have HRC := Lib.hid (HRB.out.drew)
  clear HRB hGB hDB hbB
  generalize wB.drew = wC at *
  have HC : CopyR Try.prog wC 23 3 g 3 (some ⟨g, 3, none⟩) A 13 n (intRow (firstOf lev turn :: next :: low :: zeros 13)) 3 (intRow (l.take n)) :=
    CopyR.ints (n := n) Try.underlying23 intSize hGC HN.out HRC.out rfl (Nat.min_eq_left hn13) (by simp [intRow_length, zeros_length]; omega)
  go_wp2_with (with_reducible refine wpList_copy_r rfl _ _ _ _ rfl rfl rfl HC ?_)
  go_ret2
  have e1 : splice (intRow (firstOf lev turn :: next :: low :: zeros 13)) 3 (intRow (l.take n)) = intRow (nodeWords lev turn next low l) := by
    have hl := HN.out
    unfold nodeWords splice
    rw [List.take_of_length_le (by omega : l.length ≤ n)]
    subst hl
    have e2 : (zeros 13) = zeros l.length ++ zeros (13 - l.length) := by
      unfold zeros
      rw [List.replicate_append_replicate]
      congr 1
      omega
    rw [e2]
    have e3 : (zeros l.length).length = l.length := zeros_length _
    rw [intRow_length, Nat.add_comm]
    simp [intRow, e3, zeros_length]
  rw [e1]
  exact ⟨_, 16, 16, rfl, by simp [nodeWords, zeros_length, HN.out]; omega, by omega, RInts.of_row (hGC.setRow _) (by simp; exact hGC.lt) (fun i hi => by rw [Nat.zero_add]; exact intRow_get _ i hi), below_setRow hbC (by omega) _⟩

set_option maxRecDepth 100000 in
theorem nodeWords_bad (lev turn next low : Int) (A : Option Addr) (n c B : Nat) (l : List Int) (hn : l.length = n) (h1 : n ≤ 9223372036854775807) (w : World) (hB : B ≤ w.heap.size) (hr : RInts w B A l) (hok : nodeOk lev turn next low l = false) :
    Calls Try.prog 35 #[.agg (nodeCells lev turn next low A n c)] w (PostIntsErr w [] 90) := by
  have hnew := Blk.new w 37 (nodeCells lev turn next low A n c)
  have hb0 : Below w.heap.size w (w.alloc (.cells (nodeCells lev turn next low A n c) 37)) := (Below.refl _ _).alloc (Nat.le_refl _) _
  have HC := Lib.hid (nodeCheck_any lev turn next low A n c B l hn h1 _ (by simp; omega) (hr.alloc hB (.cells (nodeCells lev turn next low A n c) 37)))
  have HL := nodeLoad hnew
  have HOk := Lib.hid hok
  clear hok hr hn
  go_enter Try.func35, Try.ntmps35
  go_wp2_with (with_reducible refine wpList_load_r rfl _ _ rfl rfl HL ?_)
  refine HC.out.mono ?_
  rw [HOk.out]
  rintro e w1 ⟨rfl, hb1⟩
  have hb2 := below_call hb0 hb1
  clear HL hnew HC hb1 hb0
  go_wp2_with fail
  go_ret2
  exact ⟨none, 0, 0, rfl, rfl, by omega, RInts.nil _ _ _, hb2⟩
end Go.Proofs.Ytkkaabagehjmbaa
