/-
  super.Words, super.Read.
-/
import Derived.Test.YtkkaabagehjmbaaSuper
set_option linter.unusedSimpArgs false
set_option linter.unusedVariables false
namespace Go.Proofs.Ytkkaabagehjmbaa
open Go.RowKit Crc

/-- A first block's words. -/
def superWords (blocks root : Int) : List Int := [7015, blocks, crcOf [7015, blocks], root, 0, 0, 0, 0, 0, 0, 0, 0, 0, 0, 0, 0]

theorem intSize : (Try.prog.info? 3).map (·.size) = some 1 := by kernel_rfl

set_option maxRecDepth 100000 in
theorem superWords_ok (blocks root : Int) (hm : headMay blocks root = true) (w : World) :
    Calls Try.prog 48 #[.int .i64 blocks, .int .i64 root] w (PostIntsErr w (superWords blocks root) 0) := by
  have HM := Lib.hid hm
  clear hm
  have hmk : ∀ w, (Instr.makeSlice 23 (.int .i64 16) (.int .i64 16)).run Try.prog w = .ok (.slice (some ⟨w.heap.size, 0, none⟩) 16 16) (w.alloc (.cells (intRow (zeros 16)).toArray 3)) := fun _ => by kernel_rfl
  go_enter Try.func48, Try.ntmps48
  go_wp2_with fail
  refine (of_head blocks root w).mono ?_
  rintro e w1 ⟨rfl, hb1⟩
  have hn1 := Blk.new w1 117 (headCells 0 0 0 0)
  have HS := headStore (a' := 7015) (b' := blocks) (c' := crcOf [7015, blocks]) (d' := root) hn1
  have hblk := hn1.setRow (headCells 7015 blocks (crcOf [7015, blocks]) root)
  have hb2 : Below w.heap.size w ((w1.alloc (.cells (headCells 0 0 0 0) 117)).setRow w1.heap.size (headCells 7015 blocks (crcOf [7015, blocks]) root)) := below_setRow (hb1.alloc hb1.size _) hb1.size _
  have HL := headLoad hblk
  have hw1 := hb1.size
  clear hn1 hb1
  go_wp2_with (first | (with_reducible refine wpList_store_r rfl _ _ _ rfl rfl rfl HS ?_) | (with_reducible refine wpList_load_r rfl _ _ rfl rfl HL ?_))
  generalize hW2 : (w1.alloc (.cells (headCells 0 0 0 0) 117)).setRow w1.heap.size (headCells 7015 blocks (crcOf [7015, blocks]) root) = w2 at *
  clear hW2 HS HL
  refine (may_any _ _ _ _ w2).mono ?_
  rw [HM.out]
  rintro e w3 ⟨rfl, hb3⟩
  have hblk3 := hblk.below hb3 hblk.lt
  have hb4 := below_call hb2 hb3
  have hcl := hblk3.cell
  have hlt3 := hblk3.lt
  clear hblk hb2 hb3
  have hdst : Blk (((w3.alloc (.cells (intRow (zeros 16)).toArray 3))).alloc (.cells #[.int .i64 7015, .int .i64 blocks, .int .i64 (crcOf [7015, blocks]), .int .i64 root] 3)) w3.heap.size 3 (intRow (zeros 16)).toArray := (Blk.new w3 _ _).alloc _
  have hsrc : RInts (((w3.alloc (.cells (intRow (zeros 16)).toArray 3))).alloc (.cells #[.int .i64 7015, .int .i64 blocks, .int .i64 (crcOf [7015, blocks]), .int .i64 root] 3)) (w3.heap.size + 2) (some ⟨w3.heap.size + 1, 0, none⟩) [7015, blocks, crcOf [7015, blocks], root] :=
    RInts.of_row (t := 3) (cs := intRow [7015, blocks, crcOf [7015, blocks], root]) (heap_alloc2_new w3 _ _) (by omega) (fun i hi => by rw [Nat.zero_add]; exact intRow_get _ i hi)
  have HC := CopyR.ints (dT := 23) (dp := some ⟨w3.heap.size, 0, none⟩) (off := 0) (dLen := 16) (n := 4) Try.underlying23 intSize hdst rfl hsrc rfl rfl (by simp [intRow_length, zeros_length])
  go_wp2_with (with_reducible refine wpList_copy_r rfl _ _ _ _ rfl rfl rfl HC ?_)
  go_ret2
  refine ⟨some ⟨w3.heap.size, 0, none⟩, 16, 16, rfl, rfl, by omega, ?_, below_setRow ((hb4.alloc hb4.size _).alloc (by simp; have := hb4.size; omega) _) hb4.size _⟩
  have e : splice (intRow (zeros 16)) 0 [Value.int IntKind.i64 7015, Value.int IntKind.i64 blocks, Value.int IntKind.i64 (crcOf [7015, blocks]), Value.int IntKind.i64 root] = intRow (superWords blocks root) := rfl
  rw [e]
  exact RInts.of_row (hdst.setRow _) (by simp; omega) (fun i hi => by rw [Nat.zero_add]; exact intRow_get _ i hi)

set_option maxRecDepth 100000 in
theorem superWords_bad (blocks root : Int) (hm : headMay blocks root = false) (w : World) :
    Calls Try.prog 48 #[.int .i64 blocks, .int .i64 root] w (PostIntsErr w [] 1) := by
  have HM := Lib.hid hm
  clear hm
  go_enter Try.func48, Try.ntmps48
  go_wp2_with fail
  refine (of_head blocks root w).mono ?_
  rintro e w1 ⟨rfl, hb1⟩
  have hn1 := Blk.new w1 117 (headCells 0 0 0 0)
  have HS := headStore (a' := 7015) (b' := blocks) (c' := crcOf [7015, blocks]) (d' := root) hn1
  have hblk := hn1.setRow (headCells 7015 blocks (crcOf [7015, blocks]) root)
  have hb2 : Below w.heap.size w ((w1.alloc (.cells (headCells 0 0 0 0) 117)).setRow w1.heap.size (headCells 7015 blocks (crcOf [7015, blocks]) root)) := below_setRow (hb1.alloc hb1.size _) hb1.size _
  have HL := headLoad hblk
  clear hn1 hb1
  go_wp2_with (first | (with_reducible refine wpList_store_r rfl _ _ _ rfl rfl rfl HS ?_) | (with_reducible refine wpList_load_r rfl _ _ rfl rfl HL ?_))
  refine (may_any _ _ _ _ _).mono ?_
  rw [HM.out]
  rintro e w3 ⟨rfl, hb3⟩
  have hb4 := below_call hb2 hb3
  clear hblk hb2 hb3
  go_wp2_with fail
  go_ret2
  exact ⟨none, 0, 0, rfl, rfl, by omega, RInts.nil _ _ _, hb4⟩

/-- Are these a first block's words, of as many blocks as there are? -/
def superOk (l : List Int) : Bool :=
  decide (32 ≤ l.length) && (decide (l[0]?.getD 0 = 7015) && (decide (l[2]?.getD 0 = crcOf [7015, l[1]?.getD 0]) && (headMay (l[1]?.getD 0) (l[3]?.getD 0) && (decide (l[1]?.getD 0 = ((l.length / 16 : Nat) : Int)) && ((l.drop 4).take 12).all (· == 0)))))

def PostSuper (w : World) (a b c : Int) (e : Ending) (w' : World) : Prop := e = .returned (.tuple #[.int .i64 a, .int .i64 b, .int .i64 c]) ∧ Below w.heap.size w w'

end Go.Proofs.Ytkkaabagehjmbaa
