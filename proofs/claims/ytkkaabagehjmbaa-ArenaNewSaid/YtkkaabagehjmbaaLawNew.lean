/-
  ArenaNew: the walk.
-/
import Derived.Test.YtkkaabagehjmbaaAwake
namespace Go.Proofs.Ytkkaabagehjmbaa
open Go.RowKit Go.Shelf Crc

set_option maxHeartbeats 2000000 in
set_option maxRecDepth 100000 in
theorem arenaNew_any (b : Int) (w : World) : Calls Try.prog 3 #[.int .i64 b] w fun e w' => e = .returned (.bool true) ∧ Below w.heap.size w w' := by
  by_cases hb : b < 2 ∨ 256 < b
  · have hP : ∀ w', PostNew w' b = fun e w'' => e = .returned (.tuple #[.slice none 0 0, .int .i64 1]) ∧ Below w'.heap.size w' w'' := fun w' => by funext e w''; unfold PostNew; rw [if_pos hb]
    have HN := Lib.hid (fun w' => (hP w') ▸ new_any b w')
    clear hP
    rcases hb with hb | hb
    · go_enter Try.func3, Try.ntmps3
      go_wp2_with fail
      refine (awake_any w).mono ?_
      rintro e w1 ⟨rfl, hb1⟩
      go_wp2_with fail
      refine (HN.out w1).mono ?_
      rintro e w2 ⟨rfl, hb2⟩
      have hb3 := hb1.trans (hb2.mono hb1.size)
      go_wp2_with fail
      go_ret
      exact ⟨rfl, hb3⟩
    · have h0 : ¬ b < 2 := by omega
      go_enter Try.func3, Try.ntmps3
      go_wp2_with fail
      refine (awake_any w).mono ?_
      rintro e w1 ⟨rfl, hb1⟩
      go_wp2_with fail
      refine (HN.out w1).mono ?_
      rintro e w2 ⟨rfl, hb2⟩
      have hb3 := hb1.trans (hb2.mono hb1.size)
      go_wp2_with fail
      go_ret
      exact ⟨rfl, hb3⟩
  · obtain ⟨k, rfl⟩ : ∃ k : Nat, b = (k : Int) := ⟨b.toNat, by omega⟩
    have hk2 : 2 ≤ k := by omega
    have hk256 : k ≤ 256 := by omega
    have hl := Lib.hid (newWords_length k hk2)
    clear hb
    go_enter Try.func3, Try.ntmps3
    go_wp2_with fail
    refine (awake_any w).mono ?_
    rintro e w0 ⟨rfl, hb0⟩
    go_wp2_with fail
    refine (new_any k w0).mono ?_
    intro e w1 hp
    obtain ⟨A1, c1, rfl, hc1, hm1, hr1, hb1'⟩ := post_new (k := k) hp hk2 hk256
    have hc1' : c1 ≤ 9223372036854775807 := by simp only [maxLen] at hm1; omega
    have hb1 := hb0.trans (hb1'.mono hb0.size)
    have HR1 := Lib.hid hr1
    clear hp hr1 hb0 hb1'
    go_wp2_with fail
    refine (leaves_any A1 (16 * k) c1 w1.heap.size (newWords k) hl.out (by omega) hc1' w1 (Nat.le_refl _) HR1.out).mono ?_
    rw [chain_new k hk2 hk256]
    rintro e w2 ⟨A2, c2, rfl, hc2, hm2, hr2, hb2⟩
    have HR12 := Lib.hid (HR1.out.below hb2 (Nat.le_refl _))
    have HR2 := Lib.hid hr2
    have hs2 := hb2.size
    have hbb2 := hb1.trans (hb2.mono hb1.size)
    clear hr2 hb2 HR1 hb1
    go_wp2_with fail
    refine (reach_any A1 (16 * k) c1 w1.heap.size (newWords k) hl.out (by omega) hc1' w2 hs2 HR12.out).mono ?_
    intro e w3 hp
    obtain ⟨A3, c3, rfl, hc3, hm3, hr3, hb3⟩ := reach_new (k := k) hk2 hk256 hp
    have HR13 := Lib.hid (HR12.out.below hb3 hs2)
    have HR23 := Lib.hid (HR2.out.below hb3 (Nat.le_refl _))
    have HR3 := Lib.hid hr3
    have hs3 : w1.heap.size ≤ w3.heap.size := Nat.le_trans hs2 hb3.size
    have hbb3 := hbb2.trans (hb3.mono hbb2.size)
    have hs23 := hb3.size
    clear hp hr3 hb3 HR12 HR2 hbb2
    go_wp2_with fail
    refine (check_any A1 (16 * k) c1 w1.heap.size (newWords k) hl.out (by omega) hc1' w3 hs3 HR13.out).mono ?_
    rw [look_new k hk2 hk256]
    rintro e w6 ⟨rfl, hb4⟩
    have HR26 := Lib.hid (HR23.out.below hb4 hs23)
    have HR36 := Lib.hid (HR3.out.below hb4 (Nat.le_refl _))
    have hs6 := hb4.size
    have hbb6 := hbb3.trans (hb4.mono hbb3.size)
    clear hb4 HR13 HR23 HR3 hbb3
    go_wp2_with fail
    have hN1 : RInts (w6.alloc (.cells #[.int .i64 1] 3)) (w6.heap.size + 1) (some ⟨w6.heap.size, 0, none⟩) [1] := RInts.of_row (cs := intRow [1]) (Blk.new w6 3 #[.int .i64 1]) (by omega) (fun i hi => by rw [Nat.zero_add]; exact intRow_get [1] i hi)
    have hba := (Below.refl w6.heap.size w6).alloc (Nat.le_refl _) (.cells #[.int .i64 1] 3)
    refine (numbers_any A2 (some ⟨w6.heap.size, 0, none⟩) 1 1 c2 1 w2.heap.size (w6.heap.size + 1) [1] [1] rfl rfl (by omega) (by omega) _ (HR26.out.below hba (by omega)) hN1).mono ?_
    rintro e w7 ⟨rfl, q7, rfl⟩
    have HB7 := Lib.hid (below_drewN' (hbb6.alloc hbb6.size (.cells #[.int .i64 1] 3)) q7)
    have hk7 := Lib.hid (below_drewN' hba q7)
    have e11 : (([1] : List Int) == [1]) = true := rfl
    rw [e11]
    clear hN1 hba hbb6
    generalize hw7 : (w6.alloc (.cells #[.int .i64 1] 3)).drewN q7 = w7 at *
    clear hw7
    have hs7 := hk7.out.size
    have HR37 := Lib.hid (HR36.out.below hk7.out (by omega))
    clear HR36 HR26
    go_wp2_with fail
    have hN2 : RInts (w7.alloc (.cells #[.int .i64 0, .int .i64 1] 3)) (w7.heap.size + 1) (some ⟨w7.heap.size, 0, none⟩) [0, 1] := RInts.of_row (cs := intRow [0, 1]) (Blk.new w7 3 #[.int .i64 0, .int .i64 1]) (by omega) (fun i hi => by rw [Nat.zero_add]; exact intRow_get [0, 1] i hi)
    have hba := (Below.refl w7.heap.size w7).alloc (Nat.le_refl _) (.cells #[.int .i64 0, .int .i64 1] 3)
    refine (numbers_any A3 (some ⟨w7.heap.size, 0, none⟩) 2 2 c3 2 w3.heap.size (w7.heap.size + 1) [0, 1] [0, 1] rfl rfl (by omega) (by omega) _ (HR37.out.below hba (by omega)) hN2).mono ?_
    rintro e w8 ⟨rfl, q8, rfl⟩
    have HB8 := Lib.hid (below_drewN' (HB7.out.alloc HB7.out.size (.cells #[.int .i64 0, .int .i64 1] 3)) q8)
    have e12 : (([0, 1] : List Int) == [0, 1]) = true := rfl
    rw [e12]
    clear hN2 hba HB7 hk7 HR37
    generalize hw8 : (w7.alloc (.cells #[.int .i64 0, .int .i64 1] 3)).drewN q8 = w8 at *
    clear hw8
    go_wp2_with fail
    go_ret
    exact ⟨rfl, HB8.out⟩
end Go.Proofs.Ytkkaabagehjmbaa
