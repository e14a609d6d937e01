/-
  arena.New.
-/
import Derived.Test.YtkkaabagehjmbaaCheck
set_option linter.unusedSimpArgs false
set_option linter.unusedVariables false
namespace Go.Proofs.Ytkkaabagehjmbaa
open Go.RowKit Go.Shelf Crc
attribute [local go_sem ↓] Go.wp_at_zero Go.wp_at_succ

/-- The words of a new arena. -/
def newWords (k : Nat) : List Int := over (over (zeros (16 * k)) 0 (superWords k 1)) 16 (nodeWords 0 0 0 0 [])

theorem made_zeros (n : Nat) : madeCells #[.int .i64 0] n = (intRow (zeros n)).toArray := by
  apply Array.ext_getElem?
  intro i
  unfold madeCells intRow zeros
  by_cases h : i < n
  · simp [h, Nat.mod_one]
  · simp [h]

theorem run_makeInts (k : Nat) (hk : k ≤ 1000000) (w : World) : (Instr.makeSlice 23 (.int .i64 (k : Int)) (.int .i64 (k : Int))).run Try.prog w = .ok (.slice (some ⟨w.heap.size, 0, none⟩) k k) (w.alloc (.cells (intRow (zeros k)).toArray 3)) := by
  obtain ⟨i0, hi, hz0, hz1, hz2⟩ := info_parts (show (Try.prog.info? 3).map (fun i => (i.zero, i.size, i.bytes)) = some (some (.int .i64 0), 1, 8) by kernel_rfl)
  have := run_make (P := Try.prog) w 23 3 i0 (.int .i64 0) Try.underlying23 hi hz0 .i64 .i64 k k (by omega) (Int.le_refl _) (by rw [hz2]; omega) (by omega)
  rw [this, hz1]
  simp only [Int.toNat_natCast, Nat.mul_one]
  rw [show (Value.int .i64 0).cells = #[.int .i64 0] from rfl, made_zeros]

def PostNew (w : World) (b : Int) (e : Ending) (w' : World) : Prop :=
  if b < 2 ∨ 256 < b then e = .returned (.tuple #[.slice none 0 0, .int .i64 1]) ∧ Below w.heap.size w w'
  else ∃ A c, e = .returned (.tuple #[.slice A (16 * b.toNat) c, .int .i64 0]) ∧ 16 * b.toNat ≤ c ∧ c ≤ maxLen ∧ RInts w' w'.heap.size A (newWords b.toNat) ∧ Below w.heap.size w w'

theorem superWords_length (a b : Int) : (superWords a b).length = 16 := rfl
theorem leafWords_length : (nodeWords 0 0 0 0 []).length = 16 := by simp [nodeWords, zeros_length]
theorem newWords_length (k : Nat) (hk : 2 ≤ k) : (newWords k).length = 16 * k := by
  unfold newWords
  have h1 : (over (zeros (16 * k)) 0 (superWords k 1)).length = 16 * k := by rw [over_length _ _ _ (by rw [superWords_length, zeros_length]; omega), zeros_length]
  rw [over_length _ _ _ (by rw [h1, leafWords_length]; omega), h1]

set_option maxHeartbeats 1000000 in
set_option maxRecDepth 100000 in
theorem new_any (b : Int) (w : World) : Calls Try.prog 16 #[.int .i64 b] w (PostNew w b) := by
  by_cases hb : b < 2 ∨ 256 < b
  · have hP : PostNew w b = fun e w' => e = .returned (.tuple #[.slice none 0 0, .int .i64 1]) ∧ Below w.heap.size w w' := by funext e w'; unfold PostNew; rw [if_pos hb]
    rw [hP]
    clear hP
    rcases hb with hb | hb
    · go_enter Try.func16, Try.ntmps16
      go_wp2_with fail
      go_ret2
      exact ⟨rfl, Below.refl _ _⟩
    · have h0 : ¬ b < 2 := by omega
      go_enter Try.func16, Try.ntmps16
      go_wp2_with fail
      go_ret2
      exact ⟨rfl, Below.refl _ _⟩
  · obtain ⟨k, rfl⟩ : ∃ k : Nat, b = (k : Int) := ⟨b.toNat, by omega⟩
    have hk2 : 2 ≤ k := by omega
    have hk256 : k ≤ 256 := by omega
    have hP : PostNew w k = fun e w' => ∃ A c, e = .returned (.tuple #[.slice A (16 * k) c, .int .i64 0]) ∧ 16 * k ≤ c ∧ c ≤ maxLen ∧ RInts w' w'.heap.size A (newWords k) ∧ Below w.heap.size w w' := by
      funext e w'; unfold PostNew; rw [if_neg hb, Int.toNat_natCast]
    rw [hP]
    have hm : headMay k 1 = true := by unfold headMay; simp; omega
    have HS := Lib.hid (superWords_ok k 1 hm w)
    have HN := Lib.hid (fun w' => nodeWords_ok 0 0 0 0 none 0 0 0 [] rfl (by omega) w' (Nat.zero_le _) (RInts.nil _ _ _) (by decide))
    have h0 : ¬ (k : Int) < 2 := by omega
    have h1 : ¬ 256 < (k : Int) := by omega
    have hmk : ∀ w, (Instr.makeSlice 23 (.int .i64 (16 * (k : Int))) (.int .i64 (16 * (k : Int)))).run Try.prog w = .ok (.slice (some ⟨w.heap.size, 0, none⟩) (16 * k) (16 * k)) (w.alloc (.cells (intRow (zeros (16 * k))).toArray 3)) := fun w => by
      have := run_makeInts (16 * k) (by omega) w
      simpa using this
    clear hP hb hm
    go_enter Try.func16, Try.ntmps16
    go_wp2_with fail
    refine HS.out.mono ?_
    rintro e w1 ⟨A1, n1, c1, rfl, hn1, hnc1, hr1, hb1⟩
    rw [superWords_length] at hn1
    subst hn1
    go_wp2_with fail
    refine (HN.out w1).mono ?_
    rintro e w2 ⟨A2, n2, c2, rfl, hn2, hnc2, hr2, hb2⟩
    rw [leafWords_length] at hn2
    subst hn2
    have hb3 := hb1.trans (hb2.mono hb1.size)
    have hG := Blk.new w2 3 (intRow (zeros (16 * k))).toArray
    have hb4 := hb3.alloc hb3.size (.cells (intRow (zeros (16 * k))).toArray 3)
    have HR1 := Lib.hid ((hr1.below hb2 (Nat.le_refl _)).alloc hb2.size (.cells (intRow (zeros (16 * k))).toArray 3))
    have HR2 := Lib.hid (hr2.alloc (Nat.le_refl _) (.cells (intRow (zeros (16 * k))).toArray 3))
    clear hr1 hr2
    go_upto_region 6 with fail
    generalize w2.alloc (.cells (intRow (zeros (16 * k))).toArray 3) = w3 at *
    generalize hg : w2.heap.size = g at *
    have hC1 : CopyR Try.prog w3 23 3 g 0 (some ⟨g, 0, none⟩) A1 (16 * k) 16 (intRow (zeros (16 * k))) 3 (intRow ((superWords k 1).take 16)) :=
      CopyR.ints (n := 16) Try.underlying23 intSize hG rfl HR1.out rfl (Nat.min_eq_left (by omega)) (by simp [intRow_length, zeros_length]; omega)
    rw [List.take_of_length_le (Nat.le_refl 16)] at hC1
    have HC1 := Lib.hid hC1
    clear hC1
    go_upto_region 7 with (with_reducible refine wpList_copy_r rfl _ _ _ _ rfl rfl rfl HC1.out ?_)
    rw [splice_over]
    have hG2 := hG.setRow (intRow (over (zeros (16 * k)) 0 (superWords k 1))).toArray
    have hb5 := below_setRow hb4 (g := g) (by have := hb3.size; omega) (intRow (over (zeros (16 * k)) 0 (superWords k 1))).toArray
    have hr2 : RInts (w3.setRow g (intRow (over (zeros (16 * k)) 0 (superWords k 1))).toArray) g A2 (nodeWords 0 0 0 0 []) := HR2.out.keep (fun p hp => cell_setRow_other _ _ _ _ (by omega))
    have hl1 : (over (zeros (16 * k)) 0 (superWords k 1)).length = 16 * k := by rw [over_length _ _ _ (by rw [superWords_length, zeros_length]; omega), zeros_length]
    have hnew : over (over (zeros (16 * k)) 0 (superWords k 1)) 16 (nodeWords 0 0 0 0 []) = newWords k := rfl
    generalize over (zeros (16 * k)) 0 (superWords k 1) = m1 at *
    clear HC1 HR1 HR2 hG hb4
    generalize w3.setRow g (intRow m1).toArray = w4 at *
    have hC2 : CopyR Try.prog w4 23 3 g 16 (some ⟨g, 16, none⟩) A2 (16 * k - 16) 16 (intRow m1) 3 (intRow ((nodeWords 0 0 0 0 []).take 16)) :=
      CopyR.ints (n := 16) Try.underlying23 intSize hG2 leafWords_length hr2 rfl (Nat.min_eq_left (by omega)) (by simp [intRow_length, hl1]; omega)
    rw [List.take_of_length_le (by rw [leafWords_length]; exact Nat.le_refl 16)] at hC2
    have HC2 := Lib.hid hC2
    have HNew := Lib.hid hnew
    have hgl := hG2.lt
    clear hC2 hr2 hnew
    have hG3 := hG2.setRow (splice (intRow m1) 16 (intRow (nodeWords 0 0 0 0 []))).toArray
    have hb6 := below_setRow hb5 (g := g) (by have := hb3.size; omega) (splice (intRow m1) 16 (intRow (nodeWords 0 0 0 0 []))).toArray
    rw [splice_over, HNew.out] at hG3 hb6
    have HSp : Hid (splice (intRow m1) 16 (intRow (nodeWords 0 0 0 0 [])) = intRow (newWords k)) := Lib.hid (by rw [splice_over, HNew.out])
    clear hG2 hb5
    go_wp2_with (with_reducible refine wpList_copy_r rfl _ _ _ _ rfl rfl rfl HC2.out ?_)
    rw [HSp.out]
    go_ret2
    refine ⟨_, 16 * k, rfl, Nat.le_refl _, by unfold maxLen; omega, ?_, hb6⟩
    exact RInts.of_row hG3 (by simpa using hgl) (fun i hi => by rw [Nat.zero_add]; exact intRow_get _ i hi)
end Go.Proofs.Ytkkaabagehjmbaa
