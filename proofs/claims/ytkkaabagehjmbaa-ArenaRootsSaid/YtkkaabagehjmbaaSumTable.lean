/-
  sum.table, sum.Of.
-/
import Derived.Test.YtkkaabagehjmbaaSumWith
set_option linter.unusedSimpArgs false
set_option linter.unusedVariables false
namespace Go.Proofs.Ytkkaabagehjmbaa
open Go.RowKit Crc

/-- k rounds of the step. -/
def stepN : Nat → BitVec 32 → BitVec 32
  | 0, c => c
  | k + 1, c => Crc.step (stepN k c)
theorem stepN_8 (c : BitVec 32) : stepN 8 c = Crc.step8 c := rfl

theorem u32_step (c : BitVec 32) : bits .xor .u32 ((c.toNat : Int) / 2) (bits .and .u32 3988292384 (IntKind.u32.wrap (-(bits .and .u32 (c.toNat : Int) 1)))) = ((Crc.step c).toNat : Int) := by
  have hcl := c.isLt
  have h1 : bits .and .u32 (c.toNat : Int) 1 = ((c.toNat % 2 : Nat) : Int) := by
    have := u32_and_nat c.toNat 1 (by omega) (by omega)
    rw [Nat.and_one_is_mod] at this
    exact this
  rw [h1]
  have hl : c.getLsbD 0 = decide (c.toNat % 2 = 1) := by
    rw [BitVec.getLsbD, Nat.testBit_zero]
  unfold Crc.step
  rw [hl]
  by_cases h : c.toNat % 2 = 1
  · rw [h]
    have e : IntKind.u32.wrap (-((1 : Nat) : Int)) = ((4294967295 : Nat) : Int) := by rw [IntKind.wrap_u32]; rfl
    rw [e]
    have e2 := u32_and_nat 3988292384 4294967295 (by omega) (by omega)
    have e3 : (3988292384 &&& 4294967295 : Nat) = 3988292384 := by decide
    rw [e3] at e2
    have e4 : bits .and .u32 3988292384 ((4294967295 : Nat) : Int) = ((3988292384 : Nat) : Int) := e2
    rw [e4]
    have e5 := u32_xor_nat (c.toNat / 2) 3988292384 (by omega) (by omega)
    rw [Int.natCast_ediv] at e5
    rw [show ((c.toNat : Int) / 2) = (c.toNat : Int) / ((2 : Nat) : Int) from rfl, e5]
    simp [poly, Nat.shiftRight_eq_div_pow]
  · have h0 : c.toNat % 2 = 0 := by omega
    rw [h0]
    have e : IntKind.u32.wrap (-((0 : Nat) : Int)) = ((0 : Nat) : Int) := by rw [IntKind.wrap_u32]; rfl
    rw [e]
    have e2 := u32_and_nat 3988292384 0 (by omega) (by omega)
    have e4 : bits .and .u32 3988292384 ((0 : Nat) : Int) = ((0 : Nat) : Int) := by rw [Nat.and_zero] at e2; exact e2
    rw [e4]
    have e5 := u32_xor_nat (c.toNat / 2) 0 (by omega) (by omega)
    rw [Int.natCast_ediv] at e5
    rw [show ((c.toNat : Int) / 2) = (c.toNat : Int) / ((2 : Nat) : Int) from rfl, e5]
    simp [Nat.shiftRight_eq_div_pow]

/-- The table's cells, of which the first k are made. -/
def tblCells (k : Nat) : Array Value := ((List.range 256).map fun j => Value.int .u32 (if j < k then ((tbl j).toNat : Int) else 0)).toArray
theorem tblCells_size (k : Nat) : (tblCells k).size = 256 := by simp [tblCells]
theorem tblCells_set (k : Nat) (hk : k < 256) : (tblCells k).setIfInBounds k (.int .u32 ((tbl k).toNat : Int)) = tblCells (k + 1) := by
  apply Array.ext
  · simp [tblCells]
  · intro i h1 h2
    have hi : i < 256 := by simpa [tblCells] using h2
    rw [Array.getElem_setIfInBounds (by simpa [tblCells] using hi)]
    simp only [tblCells, List.getElem_toArray, List.getElem_map, List.getElem_range]
    by_cases h : k = i
    · subst h; simp
    · rw [if_neg h]
      by_cases hlt : i < k
      · simp [hlt, show i < k + 1 by omega]
      · simp [hlt, show ¬ i < k + 1 by omega]
theorem tblCells_get (k i : Nat) (hi : i < 256) : (tblCells k)[i]? = some (.int .u32 (if i < k then ((tbl i).toNat : Int) else 0)) := by
  simp [tblCells, hi]

set_option maxRecDepth 100000 in
theorem table_any (w : World) :
    Calls Try.prog 134 #[] w fun e w' => e = .returned (.agg (tblCells 256)) ∧ Below w.heap.size w w' := by
  go_enter Try.func134, Try.ntmps134
  have hz : Try.zeroCells153 = tblCells 0 := by kernel_rfl
  go_wp2_with fail
  clear hz
  go_loopw [1, 2, 3] (fun _ _ i wr => ∃ k : Nat, k ≤ 256 ∧ i = .int .i64 k ∧ wr.heap[w.heap.size]? = some (.cells (tblCells k) 153 (0, 0)) ∧ Below w.heap.size w wr) (fun _ _ i _ => 256 - (intOf i).toNat)
  case atStart => exact ⟨0, by omega, rfl, heap_alloc_new w _, (Below.refl _ _).alloc (Nat.le_refl _) _⟩
  case round =>
    obtain ⟨k, hk, rfl, hblk, hbel⟩ := hrel
    by_cases hlt : k < 256
    · have hcell : wr.cell? ⟨w.heap.size, k, none⟩ = some (.int .u32 0) := by rw [cell_of_row wr _ k _ _ _ hblk, tblCells_get k k hlt]; simp
      have hfro : wr.frozen? ⟨w.heap.size, k, none⟩ = false := frozen_of_row wr _ k _ _ hblk
      have HB := Lib.hid hblk
      clear hblk
      go_wp2_with fail
      obtain ⟨wo, rfl⟩ : ∃ wo : World, wo = wr := ⟨_, rfl⟩
      go_loop [2, 8] (fun c j => ∃ q : Nat, q ≤ 8 ∧ j = .int .i64 q ∧ c = .int .u32 ((stepN q (BitVec.ofNat 32 k)).toNat : Int)) (fun _ j => 8 - (intOf j).toNat)
      case atStart => exact ⟨0, by omega, rfl, by simp [stepN]; omega⟩
      case round =>
        obtain ⟨q, hq, rfl, rfl⟩ := hrel
        by_cases hq8 : q < 8
        · have hst := u32_step (stepN q (BitVec.ofNat 32 k))
          have HS := Lib.hid hst
          clear hst
          go_wp2_with fail
          go_round
          case rel => exact ⟨q + 1, by omega, by go_num, by rw [← IntKind.wrap_u32, HS.out]; rfl⟩
          case measure => simp [intOf]; omega
        · obtain rfl : q = 8 := by omega
          go_wp2_with fail
          have e8 : (stepN 8 (BitVec.ofNat 32 k)) = tbl k := rfl
          rw [e8]
          refine ⟨⟨k + 1, by omega, by go_num, ?_, hbel.setCell (p := ⟨w.heap.size, k, none⟩) (Nat.le_refl _) _⟩, by simp [intOf]; omega⟩
          rw [heap_setCell_same wo _ k _ _ _ HB.out, tblCells_set k hlt]
    · obtain rfl : k = 256 := by omega
      have HB := Lib.hid hblk
      clear hblk
      have hsz : (Try.prog.info? 153).map (·.size) = some (tblCells 256).size := by kernel_rfl
      have h1c : (tblCells 256).all (·.oneCell') = true := by simp [tblCells, Value.oneCell']
      go_wp2_with (first | (with_reducible refine wpList_load_row rfl 153 _ rfl w.heap.size rfl 153 (tblCells 256) (0, 0) _ HB.out Try.underlying153 rfl hsz ?_) | (with_reducible refine wpList_store_row rfl 153 _ _ rfl w.heap.size (tblCells 256) rfl rfl 153 (tblCells 256) HB.out hsz rfl h1c ?_))
      refine bodyPost_ret (results_cell_row rfl _ _ w.heap.size 153 (tblCells 256) (0, 0) _ rfl (setRow_heap wr w.heap.size _ _ _ _ HB.out) Try.underlying153 rfl hsz) rfl ⟨rfl, below_setRow hbel (Nat.le_refl _) _⟩

theorem u32_not (x : BitVec 32) : wrap64 (bits .xor .u32 IntKind.u32.max (x.toNat : Int)) = ((~~~ x).toNat : Int) := by
  have hx := x.isLt
  have e := u32_xor_nat 4294967295 x.toNat (by omega) hx
  have e1 : bits .xor .u32 IntKind.u32.max (x.toNat : Int) = ((4294967295 ^^^ x.toNat : Nat) : Int) := e
  rw [e1]
  have e2 : (4294967295 ^^^ x.toNat : Nat) = (~~~ x).toNat := by
    have : ~~~ x = 4294967295#32 ^^^ x := by
      apply BitVec.eq_of_getLsbD_eq
      intro i hi
      have hb : (4294967295#32).getLsbD i = true := by
        rw [BitVec.getLsbD_ofNat, show (4294967295 : Nat) = 2 ^ 32 - 1 from rfl, Nat.testBit_two_pow_sub_one]; simp [hi]
      rw [BitVec.getLsbD_not, BitVec.getLsbD_xor, hb]; simp [hi]
    rw [this, BitVec.toNat_xor]; rfl
  rw [e2]
  have := (~~~ x).isLt
  unfold wrap64
  omega

set_option maxRecDepth 100000 in
theorem of_any (A : Option Addr) (n cap B : Nat) (l : List Int) (hn : l.length = n) (hbig : n ≤ 9223372036854775807) (w : World) (hB : B ≤ w.heap.size) (hr : RInts w B A l) :
    Calls Try.prog 109 #[.slice A n cap] w fun e w' => e = .returned (.int .i64 (crcOf l)) ∧ Below w.heap.size w w' := by
  have HR := Lib.hid hr
  clear hr
  have hsz : (Try.prog.info? 153).map (·.size) = some (tblCells 256).size := by kernel_rfl
  have h1c : (tblCells 256).all (·.oneCell') = true := by simp [tblCells, Value.oneCell']
  have hz : Try.zeroCells153 = tblCells 0 := by kernel_rfl
  go_enter Try.func109, Try.ntmps109
  go_wp2_with fail
  refine (table_any w).mono ?_
  rintro e w1 ⟨rfl, hbel⟩
  have hrow : (w1.alloc (.cells (tblCells 0) 153)).heap[w1.heap.size]? = some (.cells (tblCells 0) 153 (0, 0)) := heap_alloc_new w1 _
  have HW := Lib.hid hrow
  clear hrow
  go_wp2_with (first | (with_reducible refine wpList_store_row rfl 153 _ _ rfl w1.heap.size (tblCells 256) rfl rfl 153 (tblCells 0) HW.out hsz rfl h1c ?_))
  have hblk : ((w1.alloc (.cells (tblCells 0) 153)).setRow w1.heap.size (tblCells 256)).heap[w1.heap.size]? = some (.cells (tblCells 256) 153 (0, 0)) := setRow_heap _ _ _ _ _ _ HW.out
  have hbel2 : Below w.heap.size w ((w1.alloc (.cells (tblCells 0) 153)).setRow w1.heap.size (tblCells 256)) := below_setRow (hbel.alloc hbel.size _) hbel.size _
  have HR2 := Lib.hid (HR.out.below hbel2 hB)
  generalize ((w1.alloc (.cells (tblCells 0) 153)).setRow w1.heap.size (tblCells 256)) = w2 at *
  have HT : Hid (∀ i, i < 256 → w2.cell? ⟨w1.heap.size, i, none⟩ = some (.int .u32 ((tbl i).toNat : Int))) := Lib.hid fun i hi => by
    rw [cell_of_row w2 _ i _ _ _ hblk, tblCells_get 256 i hi, if_pos hi]
  clear hz hblk HW HR h1c hsz
  go_loop [4, 6, 10] (fun c _ i => ∃ k : Nat, k ≤ n ∧ i = .int .i64 k ∧ c = .int .u32 ((fold 0xFFFFFFFF#32 (l.take k)).toNat : Int)) (fun _ _ i => n - (intOf i).toNat)
  case atStart => exact ⟨0, by omega, rfl, rfl⟩
  case round =>
    obtain ⟨k, hk, rfl, rfl⟩ := hrel
    by_cases hlt : k < n
    · obtain ⟨b, off, rfl, _, hcell⟩ := HR2.out.at_ (k := k) (by omega)
      go_wp2_with fail
      refine (word_any w1.heap.size _ _ _ HT.out).mono ?_
      rintro e w' ⟨rfl, rfl⟩
      go_wp2_with fail
      go_round
      case rel => exact ⟨k + 1, by omega, by go_num, by
        rw [List.take_succ_eq_append_getElem (by omega)]
        unfold fold
        rw [List.foldl_append]
        rfl⟩
      case measure => simp [intOf]; omega
    · obtain rfl : k = n := by omega
      have hfin : l.take k = l := List.take_of_length_le (by omega)
      have HF := Lib.hid hfin
      clear hfin
      go_wp2_with fail
      go_ret
      refine ⟨ret_eq (int_eq ?_), hbel2⟩
      rw [u32_not, HF.out]
      rfl
end Go.Proofs.Ytkkaabagehjmbaa
