/-
  super.Read.
-/
import Derived.Test.YtkkaabagehjmbaaSuper2
import Derived.ScopeJumps
set_option linter.unusedSimpArgs false
set_option linter.unusedVariables false
namespace Go.Proofs.Ytkkaabagehjmbaa
open Go.RowKit Crc

/-- What super.Read answers. -/
def PostSuperRead (w : World) (l : List Int) (e : Ending) (w' : World) : Prop :=
  ((superOk l = true ∧ e = .returned (.tuple #[.int .i64 (l[1]?.getD 0), .int .i64 (l[3]?.getD 0), .int .i64 0])) ∨ (superOk l = false ∧ e = .returned (.tuple #[.int .i64 0, .int .i64 0, .int .i64 80]))) ∧ Below w.heap.size w w'

/-- What holds where super.Read jumps to its label. -/
def JumpS (w : World) (l : List Int) (a : Act) (w' : World) : Prop := superOk l = false ∧ ∃ tm : Array Value, a = ⟨tm, []⟩ ∧ tm.size = 58 ∧ Below w.heap.size w w'

set_option maxRecDepth 100000 in
theorem superRead_short (A : Option Addr) (n cap : Nat) (l : List Int) (hn : l.length = n) (h : n < 32) (w : World) :
    Calls Try.prog 54 #[.slice A n cap] w (PostSuperRead w l) := by
  have hbad : superOk l = false := by unfold superOk; rw [decide_eq_false (by omega)]; rfl
  have HB := Lib.hid hbad
  clear hbad
  go_enter Try.func54, Try.ntmps54
  go_wp2_with fail
  refine wp_scope_jumps 0 (JumpS w l) (fun _ _ => 0) rfl ?_ ?_
  · go_wp2_with fail
    go_step3
    simp only [Exit.then, Exit.jump]
    exact ⟨trivial, HB.out, _, rfl, rfl, (Below.refl _ _).alloc (Nat.le_refl _) _⟩
  · rintro a' w' ⟨_, tm, rfl, hs, hb⟩
    have HS := Lib.hid hs
    clear hs
    go_wp2_with fail
    refine bodyPost_ret (results_tmp3 rfl _ _ _) rfl ⟨.inr ⟨HB.out, ?_⟩, hb⟩
    have e := HS.out
    simp [Array.getElem?_setIfInBounds, e]

set_option maxHeartbeats 1000000 in
set_option maxRecDepth 100000 in
theorem superRead_long (A : Option Addr) (n cap : Nat) (l : List Int) (hn : l.length = n) (h : 32 ≤ n) (w : World) (B : Nat) (hB : B ≤ w.heap.size) (hr : RInts w B A l) (hcap : n ≤ cap) (hbig : cap ≤ 9223372036854775807) :
    Calls Try.prog 54 #[.slice A n cap] w (PostSuperRead w l) := by
  obtain ⟨b, off, rfl, hb, hc⟩ := id hr (by intro e; subst e; simp at hn; omega)
  have hbw : b < w.heap.size := by omega
  have hc0 := hc 0 (by omega)
  have hc1 := hc 1 (by omega)
  have hc2 := hc 2 (by omega)
  have hc3 := hc 3 (by omega)
  have hok : superOk l = (decide (l[0]?.getD 0 = 7015) && (decide (l[2]?.getD 0 = crcOf [7015, l[1]?.getD 0]) && (headMay (l[1]?.getD 0) (l[3]?.getD 0) && (decide (l[1]?.getD 0 = ((n / 16 : Nat) : Int)) && ((l.drop 4).take 12).all (· == 0))))) := by
    unfold superOk; rw [decide_eq_true (by omega), hn]; rfl
  have HP : Hid (∀ e w', PostSuperRead w l e w' ↔ ((superOk l = true ∧ e = .returned (.tuple #[.int .i64 (l[1]?.getD 0), .int .i64 (l[3]?.getD 0), .int .i64 0])) ∨ (superOk l = false ∧ e = .returned (.tuple #[.int .i64 0, .int .i64 0, .int .i64 80]))) ∧ Below w.heap.size w w') := Lib.hid fun _ _ => Iff.rfl
  generalize hx0 : l[0]?.getD 0 = x0 at *
  generalize hx1 : l[1]?.getD 0 = x1 at *
  generalize hx2 : l[2]?.getD 0 = x2 at *
  generalize hx3 : l[3]?.getD 0 = x3 at *
  clear hx0 hx1 hx2 hx3
  have HK := Lib.hid hok
  rw [Nat.add_zero] at hc0
  have HC := Lib.hid (hr : RInts w B (some ⟨b, off, none⟩) l)
  clear hc hr hok
  have h0n : (0 : Int) < (n : Int) := by omega
  have h1n : (1 : Int) < (n : Int) := by omega
  have h2n : (2 : Int) < (n : Int) := by omega
  have h3n : (3 : Int) < (n : Int) := by omega
  go_enter Try.func54, Try.ntmps54
  go_wp2_with fail
  refine wp_scope_jumps 0 (JumpS w l) (fun _ _ => 0) rfl ?_ ?_
  · go_wp2_with fail
    go_region
    go_wp2_with fail
    have hb1 : Below w.heap.size w (w.alloc (.cells (headCells x0 x1 x2 x3) 117)).drew := ((Below.refl w.heap.size w).alloc (Nat.le_refl _) _).drew
    have hk := (Blk.new w 117 (headCells x0 x1 x2 x3)).drew
    have HC1 := Lib.hid (HC.out.below hb1 hB)
    generalize hW1 : (w.alloc (.cells (headCells x0 x1 x2 x3) 117)).drew = w1 at *
    clear hW1 HC hc0 hc1 hc2 hc3
    have hx0 := fun x : Ext w1 => x.cell (hk.cell 0 : w1.cell? ⟨w.heap.size, 0, none⟩ = some (.int .i64 x0))
    have hx1 := fun x : Ext w1 => x.cell (hk.cell 1 : w1.cell? ⟨w.heap.size, 1, none⟩ = some (.int .i64 x1))
    have hx2 := fun x : Ext w1 => x.cell (hk.cell 2 : w1.cell? ⟨w.heap.size, 2, none⟩ = some (.int .i64 x2))
    have hx3 := fun x : Ext w1 => x.cell (hk.cell 3 : w1.cell? ⟨w.heap.size, 3, none⟩ = some (.int .i64 x3))
    have hq : (n : Int).tdiv 16 = ((n / 16 : Nat) : Int) := by rw [Int.tdiv_eq_ediv_of_nonneg (by omega)]; omega
    by_cases c0 : x0 = 7015
    · obtain rfl := c0
      by_cases c2 : x2 = crcOf [7015, x1]
      · obtain rfl := c2
        by_cases cm : headMay x1 x3 = true
        · have HM := Lib.hid cm
          clear cm
          by_cases c4 : x1 = ((n / 16 : Nat) : Int)
          · have hd4 : (x1 == ((n : Int) / 16)) = true := by simp [c4]
            have hd4' : (x1 != ((n : Int) / 16)) = false := by simp [c4]
            have H4 := Lib.hid c4
            clear c4 hq
            refine wp_region_ext (by kernel_rfl) (by kernel_rfl) ?_
            repeat (go_big_quiet_step ((first | (go_at_call 80; exact ext_call (of_head _ _ _)) | (go_at_call 81; exact ext_call (HM.out ▸ may_any _ _ _ _ _)))))
            refine wpQuiet_nil ?_
            rintro _ ⟨x, rfl⟩
            have hb2 := hb1.trans (x.h.mono hb1.size)
            have HC2 := Lib.hid (HC1.out.below x.h (by have := hb1.size; omega))
            have hy0 := hx0 x
            have hy1 := hx1 x
            have hy2 := hx2 x
            have hy3 := hx3 x
            obtain ⟨w2, hb', hW2⟩ : ∃ w2, Below w1.heap.size w1 w2 ∧ w2 = x.w := ⟨_, x.h, rfl⟩
            rw [← hW2] at hb2 HC2 hy0 hy1 hy2 hy3 ⊢
            clear hx0 hx1 hx2 hx3 HC1 hk hb' hW2 hd4 hd4'
            have hcap4 : 4 < cap := by omega
            have hcap16 : (16 : Int) ≤ (cap : Int) := by omega
            go_wp2_with fail
            go_loop [7, 47] (fun _ i => ∃ k : Nat, k ≤ 12 ∧ i = .int .i64 k ∧ Hid (∀ j, j < k → l[4 + j]?.getD 0 = 0)) (fun _ i => 12 - (intOf i).toNat)
            case atStart => exact ⟨0, by omega, rfl, Lib.hid fun j hj => absurd hj (by omega)⟩
            case round =>
              obtain ⟨k, hk, rfl, hz⟩ := hrel
              by_cases hlt : k < 12
              · obtain ⟨b', off', hA, _, hcell⟩ := HC2.out.at_ (k := 4 + k) (by omega)
                obtain ⟨rfl, rfl⟩ : b = b' ∧ off = off' := by simpa using hA
                rw [← Nat.add_assoc] at hcell
                clear hA
                by_cases hzk : l[4 + k]?.getD 0 = 0
                · rw [hzk] at hcell
                  have HZ := Lib.hid hzk
                  clear hzk
                  go_wp2_with fail
                  go_round
                  case rel => exact ⟨k + 1, by omega, by go_num, Lib.hid fun j hj => by
                    rcases Nat.lt_or_ge j k with h' | h'
                    · exact hz.out j h'
                    · obtain rfl : j = k := by omega
                      exact HZ.out⟩
                  case measure => simp [intOf]; omega
                · have hbad : superOk l = false := by
                    rw [HK.out]
                    have hall : ((l.drop 4).take 12).all (· == 0) = false := by
                      rw [List.all_eq_false]
                      refine ⟨l[4 + k]?.getD 0, ?_, by simpa using hzk⟩
                      rw [List.getElem?_eq_getElem (by omega)]
                      rw [List.mem_iff_getElem]
                      exact ⟨k, by simp; omega, by simp⟩
                    rw [hall]; simp
                  have HBad := Lib.hid hbad
                  generalize hv : l[4 + k]?.getD 0 = v at *
                  have hne : (v != 0) = true := by simp [hzk]
                  have hne' : (v == 0) = false := by simp [hzk]
                  clear hbad hv hzk
                  go_wp2_with fail
                  go_step3
                  simp only [Exit.then, Exit.jump, Exit.inBlock]
                  exact ⟨rfl, HBad.out, _, rfl, rfl, hb2⟩
              · obtain rfl : k = 12 := by omega
                have hgood : superOk l = true := by
                  rw [HK.out, HM.out, ← H4.out]
                  have hall : ((l.drop 4).take 12).all (· == 0) = true := by
                    rw [List.all_eq_true]
                    intro v hv
                    obtain ⟨i, hi, rfl⟩ := List.mem_iff_getElem.1 hv
                    have hi' : i < 12 := by simp at hi; omega
                    have := hz.out i hi'
                    rw [List.getElem?_eq_getElem (by simp at hi; omega)] at this
                    simpa using this
                  rw [hall]; simp
                have HG := Lib.hid hgood
                clear hgood
                go_wp2_with fail
                have hx1 := fun x : Ext w2 => x.cell hy1
                have hx3 := fun x : Ext w2 => x.cell hy3
                refine wp_region_ext (by kernel_rfl) (by kernel_rfl) ?_
                repeat (go_big_quiet_step (fail))
                refine wpQuiet_nil ?_
                rintro _ ⟨x, rfl⟩
                have hb3 := hb2.trans (x.h.mono hb2.size)
                go_wp2_with fail
                simp only [Exit.jump]
                go_ret3
                exact (HP.out _ _).2 ⟨.inl ⟨HG.out, rfl⟩, hb3⟩
          · have hd4 : (x1 == ((n : Int) / 16)) = false := by rw [beq_eq_false_iff_ne]; omega
            have hd4' : (x1 != ((n : Int) / 16)) = true := by rw [bne_iff_ne]; omega
            have hbad : superOk l = false := by rw [HK.out, decide_eq_false c4]; simp
            have HBad := Lib.hid hbad
            clear c4 hq hbad
            refine wp_region_ext (by kernel_rfl) (by kernel_rfl) ?_
            repeat (go_big_quiet_step ((first | (go_at_call 80; exact ext_call (of_head _ _ _)) | (go_at_call 81; exact ext_call (HM.out ▸ may_any _ _ _ _ _)))))
            refine wpQuiet_nil ?_
            rintro _ ⟨x, rfl⟩
            have hb2 := hb1.trans (x.h.mono hb1.size)
            clear hx0 hx1 hx2 hx3
            go_wp2_with fail
            go_step3
            simp only [Exit.then, Exit.jump]
            exact ⟨trivial, HBad.out, _, rfl, rfl, hb2⟩
        · have cm' : headMay x1 x3 = false := by simpa using cm
          have hbad : superOk l = false := by rw [HK.out, cm']; simp
          have HBad := Lib.hid hbad
          have HM := Lib.hid cm'
          clear cm cm' hq hbad
          refine wp_region_ext (by kernel_rfl) (by kernel_rfl) ?_
          repeat (go_big_quiet_step ((first | (go_at_call 80; exact ext_call (of_head _ _ _)) | (go_at_call 81; exact ext_call (HM.out ▸ may_any _ _ _ _ _)))))
          refine wpQuiet_nil ?_
          rintro _ ⟨x, rfl⟩
          have hb2 := hb1.trans (x.h.mono hb1.size)
          clear hx0 hx1 hx2 hx3
          go_wp2_with fail
          go_step3
          simp only [Exit.then, Exit.jump]
          exact ⟨trivial, HBad.out, _, rfl, rfl, hb2⟩
      · have hd2 : (x2 == crcOf [7015, x1]) = false := by simp [c2]
        have hbad : superOk l = false := by rw [HK.out]; simp [c2]
        have HBad := Lib.hid hbad
        clear c2 hbad hq
        refine wp_region_ext (by kernel_rfl) (by kernel_rfl) ?_
        repeat (go_big_quiet_step ((go_at_call 80; exact ext_call (of_head _ _ _))))
        refine wpQuiet_nil ?_
        rintro _ ⟨x, rfl⟩
        have hb2 := hb1.trans (x.h.mono hb1.size)
        clear hx0 hx1 hx2 hx3
        go_wp2_with fail
        go_step3
        simp only [Exit.then, Exit.jump]
        exact ⟨trivial, HBad.out, _, rfl, rfl, hb2⟩
    · have hd0 : (x0 == 7015) = false := by simp [c0]
      have hbad : superOk l = false := by rw [HK.out]; simp [c0]
      have HBad := Lib.hid hbad
      clear c0 hbad hq
      refine wp_region_ext (by kernel_rfl) (by kernel_rfl) ?_
      repeat (go_big_quiet_step ((go_at_call 80; exact ext_call (of_head _ _ _))))
      refine wpQuiet_nil ?_
      rintro _ ⟨x, rfl⟩
      have hb2 := hb1.trans (x.h.mono hb1.size)
      clear hx0 hx1 hx2 hx3
      go_wp2_with fail
      go_step3
      simp only [Exit.then, Exit.jump]
      exact ⟨trivial, HBad.out, _, rfl, rfl, hb2⟩
  · rintro a' w' ⟨hbad, tm, rfl, hs, hb⟩
    have HS := Lib.hid hs
    have HBad := Lib.hid hbad
    clear hs hbad
    go_wp2_with fail
    refine bodyPost_ret (results_tmp3 rfl _ _ _) rfl ((HP.out _ _).2 ⟨.inr ⟨HBad.out, ?_⟩, hb⟩)
    have e := HS.out
    simp [Array.getElem?_setIfInBounds, e]

theorem superRead_any (A : Option Addr) (n cap : Nat) (l : List Int) (hn : l.length = n) (w : World) (B : Nat) (hB : B ≤ w.heap.size) (hr : RInts w B A l) (hcap : n ≤ cap) (hbig : cap ≤ 9223372036854775807) :
    Calls Try.prog 54 #[.slice A n cap] w (PostSuperRead w l) := by
  by_cases h : n < 32
  · exact superRead_short A n cap l hn h w
  · exact superRead_long A n cap l hn (by omega) w B hB hr hcap hbig
end Go.Proofs.Ytkkaabagehjmbaa
