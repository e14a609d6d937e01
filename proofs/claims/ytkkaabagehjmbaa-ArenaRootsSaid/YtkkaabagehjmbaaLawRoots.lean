/-
  ArenaRoots: the walk.
-/
import Derived.Test.YtkkaabagehjmbaaLawApart
set_option linter.unusedSimpArgs false
set_option linter.unusedVariables false
namespace Go.Proofs.Ytkkaabagehjmbaa
open Go.RowKit Go.Shelf Crc

theorem superOk_root {l : List Int} {r : Int} (h : superOk l = true) (h1 : 1 ≤ r) (h2 : r < ((l.length / 16 : Nat) : Int)) : superOk (l.set 3 r) = true := by
  have hl := superOk_len h
  unfold superOk at h ⊢
  rw [List.length_set, List.getElem?_set_ne (by omega), List.getElem?_set_ne (by omega), List.getElem?_set_ne (by omega), List.getElem?_set_self (by omega), List.drop_set_of_lt (by omega)]
  simp only [Bool.and_eq_true, decide_eq_true_eq] at h ⊢
  obtain ⟨a, b, c, d, e, f⟩ := h
  refine ⟨a, b, c, ?_, e, f⟩
  unfold headMay at d ⊢
  simp only [Bool.and_eq_true, decide_eq_true_eq, Option.getD_some] at d ⊢
  omega
theorem roots_look {l leaves : List Int} (h : lookOf l = some leaves) {r : Int} (h1 : 1 ≤ r) (h2 : r < ((l.length / 16 : Nat) : Int)) :
    lookOf (l.set 3 r) = some leaves ∧ ∀ x, x ∈ baseS (l.set 3 r) leaves ↔ x ∈ baseS l leaves := by
  refine look_same (by simp) (superOk_root (chainOf_parts (lookOf_parts h).1).1 h1 h2) (fun x hx h0 => ?_) h
  have hin := base_in h x hx
  exact blk16_set_other l 0 x.toNat 3 r (by omega) (by omega)
theorem bare_leaf {l leaves : List Int} (h : lookOf l = some leaves) : leafRoot (l.set 3 1) := by
  have hc := (lookOf_parts h).1
  have hl := superOk_len (chainOf_parts hc).1
  obtain ⟨h', _⟩ := roots_look h (r := 1) (by omega) (by omega)
  obtain ⟨t, rfl⟩ := chainOf_head hc
  obtain ⟨nd, hnd, hlev⟩ := chainOf_nodes (lookOf_parts h').1 1 (by simp)
  refine ⟨nd, ?_, hlev⟩
  rw [List.getElem?_set_self (by omega)]
  exact hnd

set_option maxHeartbeats 4000000 in
set_option maxRecDepth 100000 in
theorem arenaRoots_any (A : Option Addr) (n c : Nat) (l : List Int) (hn : l.length = n) (hnc : n ≤ c) (hbig : c ≤ 9223372036854775807) (r : Nat) (hr256 : r < 256) (w : World) (hr : RInts w w.heap.size A l) :
    Calls Try.prog 8 #[.slice A n c, .int .u8 r] w fun e w' => e = .returned (.bool true) ∧ Below w.heap.size w w' := by
  by_cases h1000 : 1000 < n
  · go_enter Try.func8, Try.ntmps8
    go_wp2_with fail
    refine (awake_any w).mono ?_
    rintro e w1 ⟨rfl, hb1⟩
    go_wp2_with fail
    go_ret
    exact ⟨rfl, hb1⟩
  by_cases h32 : n < 32
  · go_enter Try.func8, Try.ntmps8
    go_wp2_with fail
    refine (awake_any w).mono ?_
    rintro e w1 ⟨rfl, hb1⟩
    go_wp2_with fail
    go_ret
    exact ⟨rfl, hb1⟩
  by_cases hr0 : r = 0
  · subst hr0
    go_enter Try.func8, Try.ntmps8
    go_wp2_with fail
    refine (awake_any w).mono ?_
    rintro e w1 ⟨rfl, hb1⟩
    go_wp2_with fail
    go_ret
    exact ⟨rfl, hb1⟩
  have hr1 : ¬ (r : Int) < 1 := by omega
  by_cases hrn : n / 16 ≤ r
  · have hrn' : (n : Int) / 16 ≤ (r : Int) := by omega
    go_enter Try.func8, Try.ntmps8
    go_wp2_with fail
    refine (awake_any w).mono ?_
    rintro e w1 ⟨rfl, hb1⟩
    go_wp2_with fail
    go_ret
    exact ⟨rfl, hb1⟩
  have hrn' : ¬ (n : Int) / 16 ≤ (r : Int) := by omega
  have HR := Lib.hid hr
  have HN := Lib.hid hn
  clear hr hn
  obtain ⟨al, ol, rfl, hbl, hcl⟩ := HR.out (by intro e; have := HN.out; rw [e] at this; simp at this; omega)
  obtain ⟨i0, hi, hz0, hz1, hz2⟩ := info_parts (show (Try.prog.info? 3).map (fun i => (i.zero, i.size, i.bytes)) = some (some (.int .i64 0), 1, 8) by kernel_rfl)
  clear hcl
  go_enter Try.func8, Try.ntmps8
  go_wp2_with fail
  refine (awake_any w).mono ?_
  rintro e w1 ⟨rfl, hb1⟩
  have HR1 := Lib.hid (HR.out.below hb1 (Nat.le_refl _))
  have hs1 := hb1.size
  have HB1 := Lib.hid hb1
  clear hb1
  have hcells : ∀ j u, (intRow l)[j]? = some u → (w1.alloc (.cells #[] 3)).cell? ((⟨al, ol, none⟩ : Addr).add j) = some u := fun j u hu => by
    obtain ⟨b', o', he, _, hc⟩ := ((HR1.out.alloc hs1 (.cells #[] 3))) (by intro e; have := HN.out; rw [e] at this; simp at this; omega)
    cases he
    have hj : j < l.length := by have := (List.getElem?_eq_some_iff.1 hu).1; simpa [intRow_length] using this
    rw [add_lit, hc j hj, ← hu, intRow_get l j hj]
  have HCells := Lib.hid hcells
  have HOne := Lib.hid (intRow_cells l)
  have HLen1 : Hid ((intRow l).length = n * 1) := Lib.hid (by rw [intRow_length, HN.out, Nat.mul_one])
  have HOwn0 := Lib.hid (World.ownsRow_lit (base := w1.heap.size) (e := 3) (size := 1) w1 #[] 0 (Nat.le_refl _) (Nat.zero_le _) rfl)
  have HBa := Lib.hid ((Below.refl w1.heap.size w1).alloc (Nat.le_refl _) (.cells #[] 3))
  clear hcells
  go_upto_region 4 with fail
  go_upto_region 5 with (at_builtin; refine wpList_append_own _ rfl _ _ 23 rfl w1.heap.size 3 i0 (.int .i64 0) 1 8 Try.underlying23 hi hz0 hz1 hz2 rfl (by decide) _ _ _ rfl HOwn0.out ⟨al, ol, none⟩ n c (intRow l) rfl HLen1.out HCells.out HOne.out (by unfold maxLen; omega) (by omega) (by simp) ?_; intro v' w2 hown2 hgrow2 _)
  have hown2' : w2.ownsRow w1.heap.size 3 1 v' n (intRow l) := by simpa using hown2
  obtain ⟨g, cap, rfl, hnl, hg1, hg2, hgc, hgm, hO⟩ := OwnL.of hown2' (by omega)
  have hb2 : Below w1.heap.size w1 w2 := HBa.out.grown hgrow2 (by simp) (own_base HOwn0.out)
  have c3 : w2.cell? ⟨g, 3, none⟩ = some (.int .i64 (l[3]?.getD 0)) := hO.cell (by rw [HN.out]; omega)
  have f3 := hO.frozen 3
  have HO3 := Lib.hid (hO.set 3 (r : Int))
  have HB3 := Lib.hid (HB1.out.trans ((hb2.setCell (p := ⟨g, 3, none⟩) hg1 (.int .i64 (r : Int))).mono hs1))
  have HR3 := Lib.hid (HR1.out.below (hb2.setCell (p := ⟨g, 3, none⟩) hg1 (.int .i64 (r : Int))) hs1)
  have hcap' : cap ≤ 9223372036854775807 := by simp only [maxLen] at hgm; omega
  clear hown2 hown2' hnl hgrow2 hO hb2 HOwn0 HBa HCells HOne HLen1
  go_upto_region 6 with fail
  generalize w2.setCell ⟨g, 3, none⟩ (.int .i64 (r : Int)) = w3 at *
  have hs3 : w.heap.size ≤ w3.heap.size := HB3.out.size
  have HRo := Lib.hid HO3.out.rints
  have HLo : Hid ((l.set 3 (r : Int)).length = n) := Lib.hid (by rw [List.length_set]; exact HN.out)
  rcases hlk : lookOf l with _ | leaves
  · have HLk := Lib.hid hlk
    clear hlk
    go_wp2_with fail
    refine (leaves_any _ n c w.heap.size l HN.out hnc hbig w3 hs3 HR3.out).mono ?_
    intro e w4 hp
    have hp2 : ∃ A' k' c' x, e = .returned (.tuple #[.slice A' k' c', .int .i64 x]) ∧ Below w3.heap.size w3 w4 := by
      rcases hch : chainOf l with _ | out
      · rw [hch] at hp
        exact ⟨_, _, _, _, hp.1, hp.2⟩
      · rw [hch] at hp
        obtain ⟨A', c', h1, _, _, _, h2⟩ := hp
        exact ⟨_, _, _, _, h1, h2⟩
    clear hp
    obtain ⟨A', k', c', x, rfl, hb4⟩ := hp2
    have HR4 := Lib.hid (HR3.out.below hb4 hs3)
    have HRo4 := Lib.hid (HRo.out.below hb4 (Nat.le_refl _))
    have HB4 := Lib.hid (HB3.out.trans (hb4.mono hs3))
    have hs34 := hb4.size
    clear hb4
    go_wp2_with fail
    refine (leaves_any _ n cap w3.heap.size (l.set 3 (r : Int)) HLo.out hgc hcap' w4 hs34 HRo4.out).mono ?_
    intro e w5 hp
    have hp2 : ∃ A' k' c' x, e = .returned (.tuple #[.slice A' k' c', .int .i64 x]) ∧ Below w4.heap.size w4 w5 := by
      rcases hch : chainOf (l.set 3 (r : Int)) with _ | out
      · rw [hch] at hp
        exact ⟨_, _, _, _, hp.1, hp.2⟩
      · rw [hch] at hp
        obtain ⟨A', c', h1, _, _, _, h2⟩ := hp
        exact ⟨_, _, _, _, h1, h2⟩
    clear hp
    obtain ⟨A5, k5, c5, x5, rfl, hb5⟩ := hp2
    have hs4 : w.heap.size ≤ w4.heap.size := HB4.out.size
    have HR5 := Lib.hid (HR4.out.below hb5 hs4)
    have HB5 := Lib.hid (HB4.out.trans (hb5.mono hs4))
    have hs5 : w.heap.size ≤ w5.heap.size := HB5.out.size
    clear hb5
    go_wp2_with fail
    refine (check_any _ n c w.heap.size l HN.out hnc hbig w5 hs5 HR5.out).mono ?_
    rw [HLk.out]
    rintro e w6 ⟨rfl, hb6⟩
    have HB6 := Lib.hid (HB5.out.trans (hb6.mono hs5))
    clear hb6
    go_wp2_with fail
    go_ret
    exact ⟨rfl, HB6.out⟩
  · have hch := (lookOf_parts hlk).1
    have hrl := roots_look hlk (r := (r : Int)) (by omega) (by rw [HN.out]; omega)
    have hrb := roots_look hlk (r := 1) (by omega) (by rw [HN.out]; omega)
    have HLf := Lib.hid (bare_leaf hlk)
    have HLk := Lib.hid hlk
    have HCh := Lib.hid hch
    have HLkW := Lib.hid hrl.1
    have HBsW := Lib.hid hrl.2
    have HLkB := Lib.hid hrb.1
    have HBsB := Lib.hid hrb.2
    have HChW := Lib.hid (lookOf_parts hrl.1).1
    clear hlk hch hrl hrb
    go_wp2_with fail
    refine (leaves_any _ n c w.heap.size l HN.out hnc hbig w3 hs3 HR3.out).mono ?_
    rw [HCh.out]
    rintro e w4 ⟨A4, c4, rfl, hc4, hm4, hr4, hb4⟩
    obtain ⟨p, hp⟩ : ∃ p, p = leaves.length := ⟨_, rfl⟩
    rw [← hp] at hc4
    rw [← hp]
    have HP := Lib.hid hp
    have hpL : p ≤ 9223372036854775807 := by simp only [maxLen] at hm4; omega
    have HL4 := Lib.hid hr4
    have HR4 := Lib.hid (HR3.out.below hb4 hs3)
    have HRo4 := Lib.hid (HRo.out.below hb4 (Nat.le_refl _))
    have HB4 := Lib.hid (HB3.out.trans (hb4.mono hs3))
    have hs34 := hb4.size
    clear hb4 hp hr4
    go_wp2_with fail
    refine (leaves_any _ n cap w3.heap.size (l.set 3 (r : Int)) HLo.out hgc hcap' w4 hs34 HRo4.out).mono ?_
    rw [HChW.out]
    rintro e w5 ⟨A5, c5, rfl, hc5, hm5, hr5, hb5⟩
    rw [← HP.out] at hc5
    rw [← HP.out]
    have hs4 : w.heap.size ≤ w4.heap.size := HB4.out.size
    have HL45 := Lib.hid (HL4.out.below hb5 (Nat.le_refl _))
    have HL5 := Lib.hid hr5
    have HR5 := Lib.hid (HR4.out.below hb5 hs4)
    have HRo5 := Lib.hid (HRo4.out.below hb5 hs34)
    have HB5 := Lib.hid (HB4.out.trans (hb5.mono hs4))
    have hs5 : w.heap.size ≤ w5.heap.size := HB5.out.size
    have hs45 := hb5.size
    clear hb5 hr5
    go_wp2_with fail
    refine (check_any _ n c w.heap.size l HN.out hnc hbig w5 hs5 HR5.out).mono ?_
    rw [HLk.out]
    rintro e w6 ⟨rfl, hb6⟩
    have HL46 := Lib.hid (HL45.out.below hb6 hs45)
    have HL56 := Lib.hid (HL5.out.below hb6 (Nat.le_refl _))
    have HR6 := Lib.hid (HR5.out.below hb6 hs5)
    have HRo6 := Lib.hid (HRo5.out.below hb6 (by omega))
    have HB6 := Lib.hid (HB5.out.trans (hb6.mono hs5))
    have hs6 : w.heap.size ≤ w6.heap.size := HB6.out.size
    have hs56 := hb6.size
    clear hb6
    have hcells : ∀ j u, (intRow l)[j]? = some u → (w6.alloc (.cells #[] 3)).cell? ((⟨al, ol, none⟩ : Addr).add j) = some u := fun j u hu => by
      obtain ⟨b', o', he, _, hc⟩ := ((HR6.out.alloc hs6 (.cells #[] 3))) (by intro e; have := HN.out; rw [e] at this; simp at this; omega)
      cases he
      have hj : j < l.length := by have := (List.getElem?_eq_some_iff.1 hu).1; simpa [intRow_length] using this
      rw [add_lit, hc j hj, ← hu, intRow_get l j hj]
    have HCells := Lib.hid hcells
    have HOne := Lib.hid (intRow_cells l)
    have HLen1 : Hid ((intRow l).length = n * 1) := Lib.hid (by rw [intRow_length, HN.out, Nat.mul_one])
    have HOwn0 := Lib.hid (World.ownsRow_lit (base := w6.heap.size) (e := 3) (size := 1) w6 #[] 0 (Nat.le_refl _) (Nat.zero_le _) rfl)
    have HBa := Lib.hid ((Below.refl w6.heap.size w6).alloc (Nat.le_refl _) (.cells #[] 3))
    clear hcells
    go_upto_region 10 with fail
    go_upto_region 11 with (at_builtin; refine wpList_append_own _ rfl _ _ 23 rfl w6.heap.size 3 i0 (.int .i64 0) 1 8 Try.underlying23 hi hz0 hz1 hz2 rfl (by decide) _ _ _ rfl HOwn0.out ⟨al, ol, none⟩ n c (intRow l) rfl HLen1.out HCells.out HOne.out (by unfold maxLen; omega) (by omega) (by simp) ?_; intro v' w7 hown7 hgrow7 _)
    have hown7' : w7.ownsRow w6.heap.size 3 1 v' n (intRow l) := by simpa using hown7
    obtain ⟨g', cap2, rfl, hnl, hg1', hg2', hgc2, hgm2, hO⟩ := OwnL.of hown7' (by omega)
    have hb7 : Below w6.heap.size w6 w7 := HBa.out.grown hgrow7 (by simp) (own_base HOwn0.out)
    have c3' : w7.cell? ⟨g', 3, none⟩ = some (.int .i64 (l[3]?.getD 0)) := hO.cell (by rw [HN.out]; omega)
    have f3' := hO.frozen 3
    have hb8 := hb7.setCell (p := ⟨g', 3, none⟩) hg1' (.int .i64 1)
    have HO8 := Lib.hid (hO.set 3 1)
    have HB8 := Lib.hid (HB6.out.trans (hb8.mono hs6))
    have HL48 := Lib.hid (HL46.out.below hb8 (by omega))
    have HL58 := Lib.hid (HL56.out.below hb8 hs56)
    have HRo8 := Lib.hid (HRo6.out.below hb8 (by omega))
    have hcap2' : cap2 ≤ 9223372036854775807 := by simp only [maxLen] at hgm2; omega
    have hs68 := hb8.size
    clear hown7 hown7' hnl hgrow7 hO hb7 HOwn0 HBa HCells HOne HLen1 hb8
    go_upto_region 12 with fail
    generalize w7.setCell ⟨g', 3, none⟩ (.int .i64 1) = w8 at *
    have hs8 : w.heap.size ≤ w8.heap.size := HB8.out.size
    have HRb := Lib.hid HO8.out.rints
    have HLb : Hid ((l.set 3 1).length = n) := Lib.hid (by rw [List.length_set]; exact HN.out)
    go_wp2_with fail
    refine (reach_any _ n cap w3.heap.size (l.set 3 (r : Int)) HLo.out hgc hcap' w8 (by omega) HRo8.out).mono ?_
    rw [HLkW.out]
    rintro e w9 ⟨A9, c9, S9, rfl, hc9, hm9, hall9, _, hr9, hb9⟩
    rw [HLo.out] at hr9 hc9
    rw [HLo.out]
    have hin9 : ∀ x, (0 ≤ x ∧ x < ((n / 16 : Nat) : Int)) → x ∈ baseS l leaves → x ∈ reachOut (n / 16) S9 := fun x h1 h2 => mem_reachOut.2 ⟨h1, hall9 x ((HBsW.out x).2 h2)⟩
    generalize reachOut (n / 16) S9 = R at *
    obtain ⟨m, hm⟩ : ∃ m, m = R.length := ⟨_, rfl⟩
    rw [← hm] at hc9
    rw [← hm]
    have HM := Lib.hid hm
    have hmR : m ≤ 9223372036854775807 := by simp only [maxLen] at hm9; omega
    have HIn9 := Lib.hid hin9
    have HRr := Lib.hid hr9
    have HB9 := Lib.hid (HB8.out.trans (hb9.mono hs8))
    have HL49 := Lib.hid (HL48.out.below hb9 (by omega))
    have HL59 := Lib.hid (HL58.out.below hb9 (by omega))
    have HRo9 := Lib.hid (HRo8.out.below hb9 (by omega))
    have HRb9 := Lib.hid (HRb.out.below hb9 (Nat.le_refl _))
    have hs89 := hb9.size
    clear hm hr9 hb9 hin9 hall9
    go_wp2_with fail
    refine (reach_any _ n cap2 w8.heap.size (l.set 3 1) HLb.out hgc2 hcap2' w9 hs89 HRb9.out).mono ?_
    rw [HLkB.out]
    rintro e w10 ⟨A10, c10, S10, rfl, hc10, hm10, _, hleaf, hr10, hb10⟩
    rw [HLb.out] at hr10 hc10
    rw [HLb.out]
    have hS10 := hleaf HLf.out
    have hsub : ∀ x ∈ reachOut (n / 16) S10, x ∈ R := fun x hx => by
      obtain ⟨h1, h2⟩ := mem_reachOut.1 hx
      rw [hS10] at h2
      exact HIn9.out x h1 ((HBsB.out x).1 h2)
    generalize reachOut (n / 16) S10 = R2 at *
    obtain ⟨m2, hm2⟩ : ∃ m, m = R2.length := ⟨_, rfl⟩
    rw [← hm2] at hc10
    rw [← hm2]
    have HM2 := Lib.hid hm2
    have hmR2 : m2 ≤ 9223372036854775807 := by simp only [maxLen] at hm10; omega
    have HSub := Lib.hid hsub
    have HRr10 := Lib.hid (HRr.out.below hb10 (Nat.le_refl _))
    have HRs10 := Lib.hid hr10
    have hs9 : w.heap.size ≤ w9.heap.size := HB9.out.size
    have HB10 := Lib.hid (HB9.out.trans (hb10.mono hs9))
    have HL410 := Lib.hid (HL49.out.below hb10 (by omega))
    have HL510 := Lib.hid (HL59.out.below hb10 (by omega))
    have HRo10 := Lib.hid (HRo9.out.below hb10 (by omega))
    have hs910 := hb10.size
    clear hm2 hr10 hb10 hsub hleaf hS10
    go_wp2_with fail
    go_loopw [16] (fun q wx => ∃ j : Nat, q = .int .i64 (j : Int) ∧ j ≤ m2 ∧ w10 = wx) (fun q _ => m2 - (intOf q).toNat)
    case atStart => exact ⟨0, rfl, Nat.zero_le _, rfl⟩
    case round =>
      obtain ⟨j, rfl, hj, rfl⟩ := hrel
      have hpL' := HM2.out
      by_cases hlt : j < m2
      · obtain ⟨x, hx⟩ : ∃ x, x = R2[j]?.getD 0 := ⟨_, rfl⟩
        have hjl : j < R2.length := by omega
        have hxm : x ∈ R2 := by rw [hx, List.getElem?_eq_getElem hjl]; exact List.getElem_mem hjl
        obtain ⟨b, o, rfl, _, hc⟩ := HRs10.out.at_ hjl
        rw [← hx] at hc
        have hin : R.contains x = true := by simpa using HSub.out x hxm
        have HIn := Lib.hid (in_any A9 m c9 w9.heap.size x R HM.out.symm hmR w10 HRr10.out)
        rw [hin] at HIn
        clear hx hjl hxm hin hpL'
        go_wp2_with fail
        refine HIn.out.mono ?_
        rintro e w11 ⟨rfl, rfl⟩
        go_wp2_with fail
        exact ⟨⟨j + 1, by simp, by omega, trivial⟩, by simp [intOf]; omega⟩
      · obtain rfl : j = m2 := by omega
        clear hpL'
        go_wp2_with fail
        refine (check_any _ n cap w3.heap.size (l.set 3 (r : Int)) HLo.out hgc hcap' w10 (by omega) HRo10.out).mono ?_
        rw [HLkW.out]
        rintro e w11 ⟨rfl, hb11⟩
        have HL411 := Lib.hid (HL410.out.below hb11 (by omega))
        have HL511 := Lib.hid (HL510.out.below hb11 (by omega))
        have HB11 := Lib.hid (HB10.out.trans (hb11.mono HB10.out.size))
        clear hb11
        go_wp2_with fail
        refine (numbers_any A4 A5 p p c4 c5 w4.heap.size w5.heap.size leaves leaves HP.out.symm HP.out.symm hpL hpL w11 HL411.out HL511.out).mono ?_
        rintro e w12 ⟨rfl, q12, rfl⟩
        have e12 : (leaves == leaves) = true := by simp
        rw [e12]
        have HB12 := Lib.hid (below_drewN' HB11.out q12)
        generalize w11.drewN q12 = w12 at *
        go_wp2_with fail
        go_ret
        exact ⟨rfl, HB12.out⟩
end Go.Proofs.Ytkkaabagehjmbaa
