/-
  ArenaReaches: the walk.
-/
import Derived.Test.YtkkaabagehjmbaaFacts
import Derived.Test.YtkkaabagehjmbaaAwake
set_option linter.unusedSimpArgs false
set_option linter.unusedVariables false
namespace Go.Proofs.Ytkkaabagehjmbaa
open Go.RowKit Go.Shelf Crc

/-- What is reached of a sound arena. -/
structure Reached (N : Nat) (leaves R : List Int) : Prop where
  up : R.Pairwise (· < ·)
  low : ∀ x ∈ R, 0 ≤ x ∧ x < (N : Int)
  zero : (0 : Int) ∈ R
  all : ∀ x ∈ leaves, x ∈ R
theorem reached_of {l leaves S : List Int} (h : lookOf l = some leaves) (hs : ∀ x ∈ baseS l leaves, x ∈ S) : Reached (l.length / 16) leaves (reachOut (l.length / 16) S) := by
  obtain ⟨hc, _⟩ := lookOf_parts h
  have hl := superOk_len (chainOf_parts hc).1
  refine ⟨reachOut_sorted _ _, fun x hx => (mem_reachOut.1 hx).1, mem_reachOut.2 ⟨by omega, hs 0 (mem_baseS.2 (.inl rfl))⟩, fun x hx => ?_⟩
  obtain ⟨nd, hnd, _⟩ := chainOf_nodes hc x hx
  exact mem_reachOut.2 ⟨readNode_in hnd, hs x (mem_baseS.2 (.inr ⟨x, hx, nd, hnd, .inl rfl⟩))⟩

set_option maxHeartbeats 2000000 in
set_option maxRecDepth 100000 in
theorem arenaReaches_any (A : Option Addr) (n c : Nat) (l : List Int) (hn : l.length = n) (hnc : n ≤ c) (hbig : c ≤ 9223372036854775807) (w : World) (hr : RInts w w.heap.size A l) :
    Calls Try.prog 4 #[.slice A n c] w fun e w' => e = .returned (.bool true) ∧ Below w.heap.size w w' := by
  by_cases h1000 : 1000 < n
  · go_enter Try.func4, Try.ntmps4
    go_wp2_with fail
    refine (awake_any w).mono ?_
    rintro e w1 ⟨rfl, hb1⟩
    go_wp2_with fail
    go_ret
    exact ⟨rfl, hb1⟩
  · have HR := Lib.hid hr
    have HN := Lib.hid hn
    clear hr
    rcases hlk : lookOf l with _ | leaves
    · have HLk := Lib.hid hlk
      clear hlk hn
      go_enter Try.func4, Try.ntmps4
      go_wp2_with fail
      refine (awake_any w).mono ?_
      rintro e w1 ⟨rfl, hb1⟩
      have HR1 := Lib.hid (HR.out.below hb1 (Nat.le_refl _))
      have hs1 := hb1.size
      have HB1 := Lib.hid hb1
      clear hb1
      go_wp2_with fail
      refine (reach_any A n c w.heap.size l HN.out hnc hbig w1 hs1 HR1.out).mono ?_
      rw [HLk.out]
      rintro e w2 ⟨rfl, hb2⟩
      have HR2 := Lib.hid (HR1.out.below hb2 hs1)
      have HB2 := Lib.hid (HB1.out.trans (hb2.mono hs1))
      have hs2 : w.heap.size ≤ w2.heap.size := HB2.out.size
      clear hb2
      go_wp2_with fail
      refine (leaves_any A n c w.heap.size l HN.out hnc hbig w2 hs2 HR2.out).mono ?_
      intro e w3 hp
      have hp2 : ∃ A' k' c' x, e = .returned (.tuple #[.slice A' k' c', .int .i64 x]) ∧ Below w2.heap.size w2 w3 := by
        rcases hch : chainOf l with _ | out
        · rw [hch] at hp
          exact ⟨_, _, _, _, hp.1, hp.2⟩
        · rw [hch] at hp
          obtain ⟨A', c', h1, _, _, _, h2⟩ := hp
          exact ⟨_, _, _, _, h1, h2⟩
      clear hp
      obtain ⟨A', k', c', x, rfl, hb3⟩ := hp2
      have HR3 := Lib.hid (HR2.out.below hb3 hs2)
      have HB3 := Lib.hid (HB2.out.trans (hb3.mono hs2))
      have hs3 : w.heap.size ≤ w3.heap.size := HB3.out.size
      clear hb3
      go_wp2_with fail
      refine (check_any A n c w.heap.size l HN.out hnc hbig w3 hs3 HR3.out).mono ?_
      rw [HLk.out]
      rintro e w4 ⟨rfl, hb4⟩
      have HB4 := Lib.hid (HB3.out.trans (hb4.mono hs3))
      clear hb4
      go_wp2_with fail
      go_ret
      exact ⟨rfl, HB4.out⟩
    · have HLk := Lib.hid hlk
      have hch := (lookOf_parts hlk).1
      obtain ⟨t, ht⟩ := chainOf_head hch
      have HCh := Lib.hid hch
      have HT := Lib.hid ht
      clear hlk hn hch ht
      go_enter Try.func4, Try.ntmps4
      go_wp2_with fail
      refine (awake_any w).mono ?_
      rintro e w1 ⟨rfl, hb1⟩
      have HR1 := Lib.hid (HR.out.below hb1 (Nat.le_refl _))
      have hs1 := hb1.size
      have HB1 := Lib.hid hb1
      clear hb1
      go_wp2_with fail
      refine (reach_any A n c w.heap.size l HN.out hnc hbig w1 hs1 HR1.out).mono ?_
      rw [HLk.out]
      rintro e w2 ⟨Ar, cr, S, rfl, hc2, hm2, hall, _, hr2, hb2⟩
      have hre := reached_of HLk.out hall
      rw [HN.out] at hre hr2 hc2
      rw [HN.out]
      generalize reachOut (n / 16) S = R at *
      obtain ⟨m, hm⟩ : ∃ m, m = R.length := ⟨_, rfl⟩
      rw [← hm] at hc2
      rw [← hm]
      have HM := Lib.hid hm
      have HRe := Lib.hid hre
      have hmR : m ≤ 9223372036854775807 := by simp only [maxLen] at hm2; omega
      clear hm hre hall
      have HR2 := Lib.hid (HR1.out.below hb2 hs1)
      have HB2 := Lib.hid (HB1.out.trans (hb2.mono hs1))
      have hs2 : w.heap.size ≤ w2.heap.size := HB2.out.size
      have HRr := Lib.hid hr2
      clear hb2 hr2
      go_wp2_with fail
      refine (leaves_any A n c w.heap.size l HN.out hnc hbig w2 hs2 HR2.out).mono ?_
      rw [HCh.out]
      rintro e w3 ⟨Al, cl, rfl, hc3, hm3, hr3, hb3⟩
      obtain ⟨p, hp⟩ : ∃ p, p = leaves.length := ⟨_, rfl⟩
      rw [← hp] at hc3
      rw [← hp]
      have HP := Lib.hid hp
      have hp0 : 0 < p := by rw [hp, HT.out]; simp
      have hl0 : leaves[0]?.getD 0 = 1 := by rw [HT.out]; rfl
      have HRr3 := Lib.hid (HRr.out.below hb3 (Nat.le_refl _))
      have HR3 := Lib.hid (HR2.out.below hb3 hs2)
      have HB3 := Lib.hid (HB2.out.trans (hb3.mono hs2))
      have hs3 : w.heap.size ≤ w3.heap.size := HB3.out.size
      have HL3 := Lib.hid hr3
      have HL0 := Lib.hid hl0
      have hs23 := hb3.size
      clear hb3 hr3 hl0 hp
      have hpL : p ≤ 9223372036854775807 := by simp only [maxLen] at hm3; omega
      go_wp2_with fail
      go_loopw [8] (fun q wr => ∃ k : Nat, q = .int .i64 (k : Int) ∧ k ≤ m ∧ Below w3.heap.size w3 wr) (fun q _ => m - (intOf q).toNat)
      case atStart => exact ⟨0, rfl, Nat.zero_le _, Below.refl _ _⟩
      case round =>
        obtain ⟨k, rfl, hk, hz⟩ := hrel
        have hrr : RInts wr w2.heap.size Ar R := HRr3.out.below hz hs23
        have HZ := Lib.hid hz
        clear hz
        have hmR' := HM.out
        by_cases hlt : k < m
        · obtain ⟨x, hx⟩ : ∃ x, x = R[k]?.getD 0 := ⟨_, rfl⟩
          have hkl : k < R.length := by omega
          have hxm : x ∈ R := by rw [hx, List.getElem?_eq_getElem hkl]; exact List.getElem_mem hkl
          have hx0 : ¬ x < 0 := by have := (HRe.out.low x hxm).1; omega
          have hx1 : ¬ ((n / 16 : Nat) : Int) ≤ x := by have := (HRe.out.low x hxm).2; omega
          obtain ⟨b, o, rfl, _, hc⟩ := hrr.at_ hkl
          rw [← hx] at hc
          by_cases h0 : k = 0
          · subst h0
            rw [Nat.add_zero] at hc
            have hcx : ∀ y : Ext wr, y.w.cell? ⟨b, o, none⟩ = some (.int .i64 x) := fun y => y.cell hc
            clear hx hkl hxm hrr hmR' hc
            go_wp2_with fail
            refine wp_region_ext (by kernel_rfl) (by kernel_rfl) ?_
            have hd0 : decide (x < 0) = false := decide_eq_false (by omega)
            have hd1 : decide ((n : Int) / 16 ≤ x) = false := decide_eq_false (by omega)
            repeat (go_big_quiet_step (fail))
            refine wpQuiet_nil ?_
            rintro _ ⟨v, rfl⟩
            have HZ3 := Lib.hid (HZ.out.trans (v.h.mono HZ.out.size))
            go_wp2_with fail
            exact ⟨⟨1, by simp, by omega, HZ3.out⟩, by simp [intOf]; omega⟩
          · obtain ⟨y, hy⟩ : ∃ y, y = R[k - 1]?.getD 0 := ⟨_, rfl⟩
            have hkl' : k - 1 < R.length := by omega
            have hyx : ¬ x ≤ y := by
              rw [Int.not_le, hx, hy, List.getElem?_eq_getElem hkl, List.getElem?_eq_getElem hkl']
              exact List.pairwise_iff_getElem.1 HRe.out.up (k - 1) k hkl' hkl (by omega)
            have hc' : wr.cell? ⟨b, o + (k - 1), none⟩ = some (.int .i64 y) := by
              obtain ⟨b', o', he, _, hc'⟩ := hrr.at_ hkl'
              cases he
              rw [hy]
              exact hc'
            have hcx : ∀ y : Ext wr, y.w.cell? ⟨b, o + k, none⟩ = some (.int .i64 x) := fun y => y.cell hc
            have hcy : ∀ z : Ext wr, z.w.cell? ⟨b, o + (k - 1), none⟩ = some (.int .i64 y) := fun y => y.cell hc'
            clear hx hkl hxm hrr hmR' hy hkl' hc hc'
            go_wp2_with fail
            refine wp_region_ext (by kernel_rfl) (by kernel_rfl) ?_
            have hd0 : decide (x < 0) = false := decide_eq_false (by omega)
            have hd1 : decide ((n : Int) / 16 ≤ x) = false := decide_eq_false (by omega)
            have hd2 : decide (x ≤ y) = false := decide_eq_false (by omega)
            have hd3 : decide (0 < k) = true := decide_eq_true (by omega)
            repeat (go_big_quiet_step (fail))
            refine wpQuiet_nil ?_
            rintro _ ⟨v, rfl⟩
            have HZ3 := Lib.hid (HZ.out.trans (v.h.mono HZ.out.size))
            go_wp2_with fail
            exact ⟨⟨k + 1, by simp, by omega, HZ3.out⟩, by simp [intOf]; omega⟩
        · obtain rfl : k = m := by omega
          have HRm := Lib.hid hrr
          have HL4 := Lib.hid (HL3.out.below HZ.out (Nat.le_refl _))
          have HR4 := Lib.hid (HR3.out.below HZ.out hs3)
          have HB4 := Lib.hid (HB3.out.trans (HZ.out.mono hs3))
          have hs4 : w.heap.size ≤ wr.heap.size := HB4.out.size
          clear hrr hmR'
          go_wp2_with fail
          generalize wr = w4 at *
          go_loopw [9] (fun q wx => ∃ j : Nat, q = .int .i64 (j : Int) ∧ j ≤ p ∧ w4 = wx) (fun q _ => p - (intOf q).toNat)
          case atStart => exact ⟨0, rfl, Nat.zero_le _, rfl⟩
          case round =>
            obtain ⟨j, rfl, hj, rfl⟩ := hrel
            have hpL' := HP.out
            by_cases hlt : j < p
            · obtain ⟨x, hx⟩ : ∃ x, x = leaves[j]?.getD 0 := ⟨_, rfl⟩
              have hjl : j < leaves.length := by omega
              have hxm : x ∈ leaves := by rw [hx, List.getElem?_eq_getElem hjl]; exact List.getElem_mem hjl
              obtain ⟨b, o, rfl, _, hc⟩ := HL4.out.at_ hjl
              rw [← hx] at hc
              have hin : R.contains x = true := by simpa using HRe.out.all x hxm
              have HIn := Lib.hid (in_any Ar k cr w2.heap.size x R HM.out.symm hmR w4 HRm.out)
              rw [hin] at HIn
              clear hx hjl hxm hin hpL'
              go_wp2_with fail
              refine HIn.out.mono ?_
              rintro e w5 ⟨rfl, rfl⟩
              go_wp2_with fail
              exact ⟨⟨j + 1, by simp, by omega, trivial⟩, by simp [intOf]; omega⟩
            · obtain rfl : j = p := by omega
              have hin : R.contains 0 = true := by simpa using HRe.out.zero
              have HIn := Lib.hid (in_any Ar k cr w2.heap.size 0 R HM.out.symm hmR w4 HRm.out)
              rw [hin] at HIn
              obtain ⟨b, o, rfl, _, hc⟩ := HL4.out.at_ (k := 0) (by omega)
              rw [HL0.out, Nat.add_zero] at hc
              have HCk := Lib.hid (check_any A n c w.heap.size l HN.out hnc hbig w4 hs4 HR4.out)
              rw [HLk.out] at HCk
              clear hin hpL'
              go_wp2_with fail
              refine HIn.out.mono ?_
              rintro e w5 ⟨rfl, rfl⟩
              go_wp2_with fail
              refine HCk.out.mono ?_
              rintro e w6 ⟨rfl, hb6⟩
              have HB6 := Lib.hid (HB4.out.trans (hb6.mono hs4))
              clear hb6
              go_wp2_with fail
              go_ret
              exact ⟨rfl, HB6.out⟩
end Go.Proofs.Ytkkaabagehjmbaa
