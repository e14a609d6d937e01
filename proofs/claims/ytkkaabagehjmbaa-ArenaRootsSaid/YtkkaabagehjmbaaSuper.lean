/-
  super: of, may, Words, Read.
-/
import Derived.Test.YtkkaabagehjmbaaSumTable
import Derived.Deep.RegionHeld3
set_option linter.unusedSimpArgs false
set_option linter.unusedVariables false
namespace Go.Proofs.Ytkkaabagehjmbaa
open Go.RowKit Crc

abbrev headCells (a b c d : Int) : Array Value := #[.int .i64 a, .int .i64 b, .int .i64 c, .int .i64 d]
theorem headSize : (Try.prog.info? 117).map (·.size) = some 4 := by kernel_rfl
theorem headStruct : IsRowType Try.prog 117 := isStruct Try.underlying117
theorem headStore {w : World} {g : Nat} {a b c d a' b' c' d' : Int} (h : w.heap[g]? = some (.cells (headCells a b c d) 117 (0, 0))) :
    StoreRow Try.prog w g 117 117 (headCells a b c d) (headCells a' b' c' d') := ⟨h, headSize, rfl, by simp [Value.oneCell']⟩
theorem headLoad {w : World} {g : Nat} {a b c d : Int} (h : w.heap[g]? = some (.cells (headCells a b c d) 117 (0, 0))) :
    LoadRow Try.prog w g 117 117 (headCells a b c d) := ⟨h, headSize, headStruct⟩

set_option maxRecDepth 100000 in
theorem of_head (blocks root : Int) (w : World) :
    Calls Try.prog 80 #[.int .i64 blocks, .int .i64 root] w fun e w' => e = .returned (.agg #[.int .i64 7015, .int .i64 blocks, .int .i64 (crcOf [7015, blocks]), .int .i64 root]) ∧ Below w.heap.size w w' := by
  go_enter Try.func80, Try.ntmps80
  go_wp2_with fail
  have hb1 : Below w.heap.size w ((w.alloc (Obj.cells #[Value.int IntKind.i64 0, Value.int IntKind.i64 0, Value.int IntKind.i64 0, Value.int IntKind.i64 0] 117)).alloc (Obj.cells #[Value.int IntKind.i64 7015, Value.int IntKind.i64 blocks] 3)) :=
    ((Below.refl _ _).alloc (Nat.le_refl _) _).alloc (by simp) _
  refine (of_any (some ⟨w.heap.size + 1, 0, none⟩) 2 2 (w.heap.size + 2) [7015, blocks] rfl (by omega) _ (by simp) (fun _ => ⟨_, _, rfl, by omega, ?_⟩)).mono ?_
  · intro i hi
    rw [cells_of_block (heap_alloc2_new w _ _)]
    match i, hi with
    | 0, _ => rfl
    | 1, _ => rfl
  rintro e w1 ⟨rfl, hbel⟩
  have hblk : w1.heap[w.heap.size]? = some (.cells #[Value.int IntKind.i64 0, Value.int IntKind.i64 0, Value.int IntKind.i64 0, Value.int IntKind.i64 0] 117 (0, 0)) := by
    rw [hbel.block _ (by simp; omega)]; exact heap_alloc2_old w _ _
  have hbel2 := below_call hb1 hbel
  clear hb1 hbel
  have HS := headStore (a' := 7015) (b' := blocks) (c' := crcOf [7015, blocks]) (d' := root) hblk
  clear hblk
  go_wp2_with (first | (with_reducible refine wpList_store_r rfl _ _ _ rfl rfl rfl HS ?_))
  exact bodyPost_ret (results_r rfl rfl (HS.load headStruct)) rfl ⟨rfl, below_setRow hbel2 (Nat.le_refl _) _⟩

def headMay (blocks root : Int) : Bool := decide (2 ≤ blocks) && (decide (blocks ≤ 256) && (decide (1 ≤ root) && decide (root < blocks)))

set_option maxRecDepth 100000 in
theorem may_any (a blocks c root : Int) (w : World) :
    Calls Try.prog 81 #[.agg #[.int .i64 a, .int .i64 blocks, .int .i64 c, .int .i64 root]] w fun e w' => e = .returned (.bool (headMay blocks root)) ∧ Below w.heap.size w w' := by
  obtain ⟨m, hm⟩ : ∃ m, m = headMay blocks root := ⟨_, rfl⟩
  rw [← hm]
  have HM := Lib.hid hm
  clear hm
  by_cases h1 : 2 ≤ blocks <;> by_cases h2 : blocks ≤ 256 <;> by_cases h3 : 1 ≤ root <;> by_cases h4 : root < blocks
  all_goals first
    | (exfalso; omega)
    | (go_enter Try.func81, Try.ntmps81
       go_wp2
       go_ret
       refine ⟨?_, (Below.refl _ _).alloc (Nat.le_refl _) _⟩
       rw [HM.out]
       simp [headMay, h1, h2, h3, h4])
end Go.Proofs.Ytkkaabagehjmbaa
