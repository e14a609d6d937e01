/-
  The law's awake.
-/
import Derived.Test.YtkkaabagehjmbaaNewLaw
set_option linter.unusedSimpArgs false
set_option linter.unusedVariables false
namespace Go.Proofs.Ytkkaabagehjmbaa
open Go.RowKit Go.Shelf Crc

theorem post_new {w w' : World} {k : Nat} {e : Ending} (h : PostNew w k e w') (h2 : 2 ≤ k) (h256 : k ≤ 256) : ∃ A c, e = .returned (.tuple #[.slice A (16 * k) c, .int .i64 0]) ∧ 16 * k ≤ c ∧ c ≤ maxLen ∧ RInts w' w'.heap.size A (newWords k) ∧ Below w.heap.size w w' := by
  unfold PostNew at h
  rw [if_neg (by omega), Int.toNat_natCast] at h
  exact h
theorem chain_nil : chainOf [] = none := by rfl
theorem look_nil : lookOf [] = none := by rfl

theorem reach_new {w w' : World} {k : Nat} {e : Ending} (h2 : 2 ≤ k) (h256 : k ≤ 256) (h : PostReach w (newWords k) (lookOf (newWords k)) e w') :
    ∃ A c, e = .returned (.tuple #[.slice A 2 c, .int .i64 0]) ∧ 2 ≤ c ∧ c ≤ maxLen ∧ RInts w' w'.heap.size A [0, 1] ∧ Below w.heap.size w w' := by
  rw [look_new k h2 h256] at h
  obtain ⟨A, c, S, he, hc, hm, hall, hl, hr, hb⟩ := h
  clear hall
  have hS := hl (leafRoot_new k h2)
  rw [base_new k h2] at hS
  subst hS
  have ho : reachOut ((newWords k).length / 16) [1, 0] = [0, 1] := by
    rw [newWords_length k h2, Nat.mul_div_cancel_left _ (by omega : 0 < 16)]
    obtain ⟨j, rfl⟩ : ∃ j, k = j + 2 := ⟨k - 2, by omega⟩
    clear h2 h256 he hc hr hb hl hm
    induction j with
    | zero => rfl
    | succ j ih => rw [reachOut_succ, if_neg (by simp; omega)]; exact ih
  rw [ho] at he hc hr
  exact ⟨A, c, he, hc, hm, hr, hb⟩

set_option maxHeartbeats 2000000 in
set_option maxRecDepth 100000 in
theorem awake_any (w : World) : Calls Try.prog 15 #[] w fun e w' => e = .returned (.bool true) ∧ Below w.heap.size w w' := by
  have hl4 : (newWords 4).length = 64 := newWords_length 4 (by omega)
  go_enter Try.func15, Try.ntmps15
  go_wp2_with fail
  refine (new_any 4 w).mono ?_
  intro e w1 hp
  obtain ⟨A1, c1, rfl, hc1, hm1, hr1, hb1⟩ := post_new (k := 4) hp (by omega) (by omega)
  have hc1' : c1 ≤ 9223372036854775807 := by simp only [maxLen] at hm1; omega
  have HR1 := Lib.hid hr1
  clear hp hr1
  go_wp2_with fail
  refine (leaves_any A1 64 c1 w1.heap.size (newWords 4) hl4 (by omega) hc1' w1 (Nat.le_refl _) HR1.out).mono ?_
  rw [chain_new 4 (by omega) (by omega)]
  rintro e w2 ⟨A2, c2, rfl, hc2, hm2, hr2, hb2⟩
  have HR12 := Lib.hid (HR1.out.below hb2 (Nat.le_refl _))
  have HR2 := Lib.hid hr2
  have hs2 := hb2.size
  have hbb2 := hb1.trans (hb2.mono hb1.size)
  clear hr2 hb2 HR1 hb1
  go_wp2_with fail
  refine (reach_any A1 64 c1 w1.heap.size (newWords 4) hl4 (by omega) hc1' w2 hs2 HR12.out).mono ?_
  intro e w3 hp
  obtain ⟨A3, c3, rfl, hc3, hm3, hr3, hb3⟩ := reach_new (k := 4) (by omega) (by omega) hp
  have HR13 := Lib.hid (HR12.out.below hb3 hs2)
  have HR23 := Lib.hid (HR2.out.below hb3 (Nat.le_refl _))
  have HR3 := Lib.hid hr3
  have hs3 : w1.heap.size ≤ w3.heap.size := Nat.le_trans hs2 hb3.size
  have hbb3 := hbb2.trans (hb3.mono hbb2.size)
  have hs23 := hb3.size
  clear hp hr3 hb3 HR12 HR2 hbb2
  go_wp2_with fail
  refine (low_any A1 64 c1 w1.heap.size 1 (newWords 4) hl4 (by omega) hc1' w3 hs3 HR13.out).mono ?_
  rw [low_new 4 (by omega)]
  rintro e w4 ⟨rfl, hb4⟩
  have HR14 := Lib.hid (HR13.out.below hb4 hs3)
  have HR24 := Lib.hid (HR23.out.below hb4 hs23)
  have HR34 := Lib.hid (HR3.out.below hb4 (Nat.le_refl _))
  have hs4 := hb4.size
  have hbb4 := hbb3.trans (hb4.mono hbb3.size)
  clear hb4 HR13 HR23 HR3 hbb3
  go_wp2_with fail
  refine (new_any 1 w4).mono ?_
  intro e w5 hp
  unfold PostNew at hp
  rw [if_pos (by omega)] at hp
  obtain ⟨rfl, hb5⟩ := hp
  have HR15 := Lib.hid (HR14.out.below hb5 (by omega))
  have HR25 := Lib.hid (HR24.out.below hb5 (by omega))
  have HR35 := Lib.hid (HR34.out.below hb5 (by omega))
  have hs5 := hb5.size
  have hbb5 := hbb4.trans (hb5.mono hbb4.size)
  clear hb5 HR14 HR24 HR34 hbb4
  go_wp2_with fail
  refine (leaves_any none 0 0 0 [] rfl (Nat.le_refl _) (by omega) w5 (Nat.zero_le _) (RInts.nil _ _ _)).mono ?_
  rw [chain_nil]
  rintro e w6 ⟨rfl, hb6⟩
  have HR16 := Lib.hid (HR15.out.below hb6 (by omega))
  have HR26 := Lib.hid (HR25.out.below hb6 (by omega))
  have HR36 := Lib.hid (HR35.out.below hb6 (by omega))
  have hs6 := hb6.size
  have hbb6 := hbb5.trans (hb6.mono hbb5.size)
  clear hb6 HR15 HR25 HR35 hbb5
  go_wp2_with fail
  have hN1 : RInts (w6.alloc (.cells #[.int .i64 1] 3)) (w6.heap.size + 1) (some ⟨w6.heap.size, 0, none⟩) [1] := RInts.of_row (cs := intRow [1]) (Blk.new w6 3 #[.int .i64 1]) (by omega) (fun i hi => by rw [Nat.zero_add]; exact intRow_get [1] i hi)
  have hba := (Below.refl w6.heap.size w6).alloc (Nat.le_refl _) (.cells #[.int .i64 1] 3)
  refine (numbers_any A2 (some ⟨w6.heap.size, 0, none⟩) 1 1 c2 1 w2.heap.size (w6.heap.size + 1) [1] [1] rfl rfl (by omega) (by omega) _ (HR26.out.below hba (by omega)) hN1).mono ?_
  rintro e w7 ⟨rfl, q7, rfl⟩
  have HB7 := Lib.hid (below_drewN' (hbb6.alloc hbb6.size (.cells #[.int .i64 1] 3)) q7)
  have hk7 := Lib.hid (below_drewN' hba q7)
  have e11 : (([1] : List Int) == [1]) = true := rfl
  rw [e11]
  clear hN1 hba hbb6
  generalize hw7 : (w6.alloc (.cells #[.int .i64 1] 3)).drewN q7 = w7 at *
  clear hw7
  have hs7 := hk7.out.size
  have HR17 := Lib.hid (HR16.out.below hk7.out (by omega))
  have HR37 := Lib.hid (HR36.out.below hk7.out (by omega))
  clear HR16 HR36 HR26
  go_wp2_with fail
  have hN2 : RInts (w7.alloc (.cells #[.int .i64 0, .int .i64 1] 3)) (w7.heap.size + 1) (some ⟨w7.heap.size, 0, none⟩) [0, 1] := RInts.of_row (cs := intRow [0, 1]) (Blk.new w7 3 #[.int .i64 0, .int .i64 1]) (by omega) (fun i hi => by rw [Nat.zero_add]; exact intRow_get [0, 1] i hi)
  have hba := (Below.refl w7.heap.size w7).alloc (Nat.le_refl _) (.cells #[.int .i64 0, .int .i64 1] 3)
  refine (numbers_any A3 (some ⟨w7.heap.size, 0, none⟩) 2 2 c3 2 w3.heap.size (w7.heap.size + 1) [0, 1] [0, 1] rfl rfl (by omega) (by omega) _ (HR37.out.below hba (by omega)) hN2).mono ?_
  rintro e w8 ⟨rfl, q8, rfl⟩
  have HB8 := Lib.hid (below_drewN' (HB7.out.alloc HB7.out.size (.cells #[.int .i64 0, .int .i64 1] 3)) q8)
  have hk8 := Lib.hid (below_drewN' hba q8)
  have e12 : (([0, 1] : List Int) == [0, 1]) = true := rfl
  rw [e12]
  clear hN2 hba HB7 hk7
  generalize hw8 : (w7.alloc (.cells #[.int .i64 0, .int .i64 1] 3)).drewN q8 = w8 at *
  clear hw8
  have hs8 := hk8.out.size
  have HR18 := Lib.hid (HR17.out.below hk8.out (by omega))
  clear HR17 HR37 hk8
  go_wp2_with fail
  refine (check_any A1 64 c1 w1.heap.size (newWords 4) hl4 (by omega) hc1' w8 (by omega) HR18.out).mono ?_
  rw [look_new 4 (by omega) (by omega)]
  rintro e w9 ⟨rfl, hb9⟩
  have HB9 := Lib.hid (HB8.out.trans (hb9.mono HB8.out.size))
  clear hb9 HB8 HR18
  go_wp2_with fail
  refine (check_any none 0 0 0 [] rfl (Nat.le_refl _) (by omega) w9 (Nat.zero_le _) (RInts.nil _ _ _)).mono ?_
  rw [look_nil]
  rintro e w10 ⟨rfl, hb10⟩
  have HB10 := Lib.hid (HB9.out.trans (hb10.mono HB9.out.size))
  clear hb10 HB9
  go_wp2_with fail
  go_ret
  exact ⟨rfl, HB10.out⟩
end Go.Proofs.Ytkkaabagehjmbaa
