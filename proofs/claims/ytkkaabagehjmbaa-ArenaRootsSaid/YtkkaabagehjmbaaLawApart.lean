/-
  ArenaApart: the walk.
-/
import Derived.Test.YtkkaabagehjmbaaOwnL
import Derived.Test.YtkkaabagehjmbaaLawReaches
set_option linter.unusedSimpArgs false
set_option linter.unusedVariables false
namespace Go.Proofs.Ytkkaabagehjmbaa
open Go.RowKit Go.Shelf Crc

/-- What the leaves of a sound arena have is in it. -/
theorem base_in {l leaves : List Int} (h : lookOf l = some leaves) : ∀ x ∈ baseS l leaves, 0 ≤ x ∧ x < ((l.length / 16 : Nat) : Int) := by
  obtain ⟨hc, hg⟩ := lookOf_parts h
  have hl := superOk_len (chainOf_parts hc).1
  intro x hx
  rcases mem_baseS.1 hx with rfl | ⟨a, ha, nd, hnd, hx⟩
  · omega
  · obtain ⟨j, hj, rfl⟩ := List.getElem_of_mem ha
    obtain ⟨nd', low, prev, hn, hlow, hsl, _⟩ := lookGo_at leaves 0 _ hg j hj
    rw [hnd] at hn
    cases hn
    rcases hx with rfl | hx | ⟨h0, rfl⟩
    · exact readNode_in hnd
    · obtain ⟨r, hr, _⟩ := slotsGo_at _ _ _ hsl x (mem_compact.2 hx)
      exact readRec_in hr
    · unfold lowVal at hlow
      rw [if_neg h0] at hlow
      unfold keyAt at hlow
      split at hlow
      · rename_i r hr
        exact readRec_in hr
      · cases hlow
theorem apart_look {l m leaves S : List Int} (h : lookOf l = some leaves) (hs : ∀ x ∈ baseS l leaves, x ∈ S) (hlen : m.length = l.length)
    (ha : ∀ i, i < l.length → ((i / 16 : Nat) : Int) ∈ reachOut (l.length / 16) S → m[i]?.getD 0 = l[i]?.getD 0) : lookOf m = some leaves := by
  have hb : ∀ x ∈ baseS l leaves, blk16 m x.toNat = blk16 l x.toNat := fun x hx => by
    have hin := base_in h x hx
    refine blk16_ext hlen fun i hi hix => ha i hi (mem_reachOut.2 ⟨by omega, ?_⟩)
    have : ((i / 16 : Nat) : Int) = x := by omega
    rw [this]
    exact hs x hx
  have hsup : superOk m = true := (superOk_same hlen (hb 0 (mem_baseS.2 (.inl rfl)))).trans (chainOf_parts (lookOf_parts h).1).1
  exact (look_same hlen hsup (fun x hx _ => hb x hx) h).1

set_option maxHeartbeats 2000000 in
set_option maxRecDepth 100000 in
theorem arenaApart_any (A A' : Option Addr) (n c n' c' : Nat) (l o : List Int) (hn : l.length = n) (hnc : n ≤ c) (hbig : c ≤ 9223372036854775807) (ho : o.length = n') (hbig' : n' ≤ 9223372036854775807)
    (w : World) (hr : RInts w w.heap.size A l) (hro : RInts w w.heap.size A' o) :
    Calls Try.prog 6 #[.slice A n c, .slice A' n' c'] w fun e w' => e = .returned (.bool true) ∧ Below w.heap.size w w' := by
  by_cases h1000 : 1000 < n
  · go_enter Try.func6, Try.ntmps6
    go_wp2_with fail
    refine (awake_any w).mono ?_
    rintro e w1 ⟨rfl, hb1⟩
    go_wp2_with fail
    go_ret
    exact ⟨rfl, hb1⟩
  by_cases h1000' : 1000 < n'
  · go_enter Try.func6, Try.ntmps6
    go_wp2_with fail
    refine (awake_any w).mono ?_
    rintro e w1 ⟨rfl, hb1⟩
    go_wp2_with fail
    go_ret
    exact ⟨rfl, hb1⟩
  have HR := Lib.hid hr
  have HN := Lib.hid hn
  have HRo := Lib.hid hro
  have HNo := Lib.hid ho
  clear hr hro
  rcases hlk : lookOf l with _ | leaves
  · have HLk := Lib.hid hlk
    clear hlk hn ho
    go_enter Try.func6, Try.ntmps6
    go_wp2_with fail
    refine (awake_any w).mono ?_
    rintro e w1 ⟨rfl, hb1⟩
    have HR1 := Lib.hid (HR.out.below hb1 (Nat.le_refl _))
    have hs1 := hb1.size
    have HB1 := Lib.hid hb1
    clear hb1
    go_wp2_with fail
    refine (reach_any A n c w.heap.size l HN.out hnc hbig w1 hs1 HR1.out).mono ?_
    rw [HLk.out]
    rintro e w2 ⟨rfl, hb2⟩
    have HB2 := Lib.hid (HB1.out.trans (hb2.mono hs1))
    clear hb2
    go_wp2_with fail
    go_ret
    exact ⟨rfl, HB2.out⟩
  · have HLk := Lib.hid hlk
    have hch := (lookOf_parts hlk).1
    have hl32 : 32 ≤ n := by have := superOk_len (chainOf_parts hch).1; omega
    have HCh := Lib.hid hch
    clear hlk hn ho hch
    by_cases h0 : n' = 0
    · subst h0
      go_enter Try.func6, Try.ntmps6
      go_wp2_with fail
      refine (awake_any w).mono ?_
      rintro e w1 ⟨rfl, hb1⟩
      have HR1 := Lib.hid (HR.out.below hb1 (Nat.le_refl _))
      have hs1 := hb1.size
      have HB1 := Lib.hid hb1
      clear hb1
      go_wp2_with fail
      refine (reach_any A n c w.heap.size l HN.out hnc hbig w1 hs1 HR1.out).mono ?_
      rw [HLk.out]
      rintro e w2 ⟨Ar, cr, S, rfl, hc2, hm2, hall, _, hr2, hb2⟩
      have HB2 := Lib.hid (HB1.out.trans (hb2.mono hs1))
      clear hb2 hc2 hr2 hall
      go_wp2_with fail
      go_ret
      exact ⟨rfl, HB2.out⟩
    · obtain ⟨ao, oo, rfl, hbo, hco⟩ := HRo.out (by intro e; have := HNo.out; rw [e] at this; simp at this; omega)
      obtain ⟨al, ol, rfl, hbl, hcl⟩ := HR.out (by intro e; have := HN.out; rw [e] at this; simp at this; omega)
      have HCo := Lib.hid hco
      have HCl := Lib.hid hcl
      obtain ⟨i0, hi, hz0, hz1, hz2⟩ := info_parts (show (Try.prog.info? 3).map (fun i => (i.zero, i.size, i.bytes)) = some (some (.int .i64 0), 1, 8) by kernel_rfl)
      clear hco hcl
      go_enter Try.func6, Try.ntmps6
      go_wp2_with fail
      refine (awake_any w).mono ?_
      rintro e w1 ⟨rfl, hb1⟩
      have HR1 := Lib.hid (HR.out.below hb1 (Nat.le_refl _))
      have hs1 := hb1.size
      have HB1 := Lib.hid hb1
      clear hb1
      go_wp2_with fail
      refine (reach_any _ n c w.heap.size l HN.out hnc hbig w1 hs1 HR1.out).mono ?_
      rw [HLk.out]
      rintro e w2 ⟨Ar, cr, S, rfl, hc2, hm2, hall, _, hr2, hb2⟩
      have hap := fun m hlen ha => apart_look (m := m) HLk.out hall hlen ha
      rw [HN.out] at hap hr2 hc2
      rw [HN.out]
      generalize reachOut (n / 16) S = R at *
      obtain ⟨m, hm⟩ : ∃ m, m = R.length := ⟨_, rfl⟩
      rw [← hm] at hc2
      rw [← hm]
      have HM := Lib.hid hm
      have hmR : m ≤ 9223372036854775807 := by simp only [maxLen] at hm2; omega
      have HAp := Lib.hid hap
      clear hm hall hap
      have HR2 := Lib.hid (HR1.out.below hb2 hs1)
      have HB2 := Lib.hid (HB1.out.trans (hb2.mono hs1))
      have hs2 : w.heap.size ≤ w2.heap.size := HB2.out.size
      have HRr := Lib.hid hr2
      clear hb2 hr2
      have hcells : ∀ j u, (intRow l)[j]? = some u → (w2.alloc (.cells #[] 3)).cell? ((⟨al, ol, none⟩ : Addr).add j) = some u := fun j u hu => by
        obtain ⟨b', o', he, _, hc⟩ := ((HR2.out.alloc hs2 (.cells #[] 3))) (by intro e; have := HN.out; rw [e] at this; simp at this; omega)
        cases he
        have hj : j < l.length := by have := (List.getElem?_eq_some_iff.1 hu).1; simpa [intRow_length] using this
        rw [add_lit, hc j hj, ← hu, intRow_get l j hj]
      have hone := intRow_cells l
      have hlen1 : (intRow l).length = n * 1 := by rw [intRow_length, HN.out, Nat.mul_one]
      have hown0 := World.ownsRow_lit (base := w2.heap.size) (e := 3) (size := 1) w2 #[] 0 (Nat.le_refl _) (Nat.zero_le _) rfl
      have hba := (Below.refl w2.heap.size w2).alloc (Nat.le_refl _) (.cells #[] 3)
      have HCells := Lib.hid hcells
      have HOne := Lib.hid hone
      have HLen1 := Lib.hid hlen1
      have HOwn0 := Lib.hid hown0
      have HBa := Lib.hid hba
      clear hcells hone hlen1 hown0 hba
      go_upto_region 7 with fail
      go_wp2_with (at_builtin; refine wpList_append_own _ rfl _ _ 23 rfl w2.heap.size 3 i0 (.int .i64 0) 1 8 Try.underlying23 hi hz0 hz1 hz2 rfl (by decide) _ _ _ rfl HOwn0.out ⟨al, ol, none⟩ n c (intRow l) rfl HLen1.out HCells.out HOne.out (by unfold maxLen; omega) (by omega) (by simp) ?_; intro v' w3 hown3 hgrow3 _)
      have hown3' : w3.ownsRow w2.heap.size 3 1 v' n (intRow l) := by simpa using hown3
      obtain ⟨g, cap, rfl, hnl, hg1, hg2, hgc, hgm, hO⟩ := OwnL.of hown3' (by omega)
      have hb3 : Below w2.heap.size w2 w3 := HBa.out.grown hgrow3 (by simp) (own_base HOwn0.out)
      have HO := Lib.hid hO
      have HB3 := Lib.hid hb3
      clear hown3 hown3' hnl hgrow3 hO hb3 HOwn0 HBa HCells HOne HLen1
      go_loopw [9] (fun q wr => ∃ (k : Nat) (m1 : List Int), q = .int .i64 (k : Int) ∧ k ≤ n ∧ OwnL wr w2.heap.size g cap m1 ∧ m1.length = n ∧ Below w2.heap.size w2 wr ∧ (∀ i, i < n → ((i / 16 : Nat) : Int) ∈ R → m1[i]?.getD 0 = l[i]?.getD 0)) (fun q _ => n - (intOf q).toNat)
      case atStart => exact ⟨0, l, rfl, Nat.zero_le _, HO.out, HN.out, HB3.out, fun _ _ _ => rfl⟩
      case round =>
        obtain ⟨k, m1, rfl, hk, hO, hl1, hb, hag⟩ := hrel
        have HO1 := Lib.hid hO
        have HL1 := Lib.hid hl1
        have HB1' := Lib.hid hb
        have HAg := Lib.hid hag
        clear hO hl1 hb hag
        by_cases hlt : k < n
        · have HIn := Lib.hid (in_any Ar m cr w2.heap.size ((k / 16 : Nat) : Int) R HM.out.symm hmR wr (HRr.out.below HB1'.out (Nat.le_refl _)))
          by_cases hmem : ((k / 16 : Nat) : Int) ∈ R
          · have hcon : R.contains ((k / 16 : Nat) : Int) = true := by simpa using hmem
            rw [hcon] at HIn
            clear hcon hmem
            go_wp2_with fail
            refine HIn.out.mono ?_
            rintro e w4 ⟨rfl, rfl⟩
            go_wp2_with fail
            exact ⟨⟨k + 1, m1, by simp, by omega, HO1.out, HL1.out, HB1'.out, HAg.out⟩, by simp [intOf]; omega⟩
          · have hcon : R.contains ((k / 16 : Nat) : Int) = false := by simpa using hmem
            have HMem := Lib.hid hmem
            rw [hcon] at HIn
            obtain ⟨y, hy⟩ : ∃ y, y = o[k % n']?.getD 0 := ⟨_, rfl⟩
            have hmod : k % n' < n' := Nat.mod_lt _ (by omega)
            have hc1 : wr.cell? ⟨ao, oo + k % n', none⟩ = some (.int .i64 y) := by
              rw [hy]
              exact ((HB2.out.trans (HB1'.out.mono hs2)).cell (p := ⟨ao, oo + k % n', none⟩) hbo).trans (HCo.out _ (by rw [HNo.out]; exact hmod))
            have hc2 : wr.cell? ⟨g, k, none⟩ = some (.int .i64 (m1[k]?.getD 0)) := HO1.out.cell (by rw [HL1.out]; exact hlt)
            have hf2 := HO1.out.frozen k
            have hO2 := Lib.hid (HO1.out.set k y)
            have hB2 := Lib.hid (HB1'.out.setCell (p := ⟨g, k, none⟩) hg1 (.int .i64 y))
            clear hcon hmem hy
            go_wp2_with fail
            refine HIn.out.mono ?_
            rintro e w4 ⟨rfl, rfl⟩
            go_wp2_with fail
            refine ⟨⟨k + 1, m1.set k y, by simp, by omega, hO2.out, by rw [List.length_set]; exact HL1.out, hB2.out, fun i hi hri => ?_⟩, by simp [intOf]; omega⟩
            have hne : k ≠ i := fun e => by subst e; exact HMem.out hri
            rw [List.getElem?_set_ne hne]
            exact HAg.out i hi hri
        · obtain rfl : k = n := by omega
          have hlook := HAp.out m1 HL1.out HAg.out
          have HC1 := Lib.hid (lookOf_parts hlook).1
          have HLk1 := Lib.hid hlook
          have HRw := Lib.hid (HR2.out.below HB1'.out hs2)
          have HRm := Lib.hid HO1.out.rints
          have HBw := Lib.hid (HB2.out.trans (HB1'.out.mono hs2))
          have hsw : w.heap.size ≤ wr.heap.size := HBw.out.size
          have hcap' : cap ≤ 9223372036854775807 := by simp only [maxLen] at hgm; omega
          clear hlook
          generalize wr = w4 at *
          go_wp2_with fail
          refine (leaves_any _ k c w.heap.size l HN.out hnc hbig w4 hsw HRw.out).mono ?_
          rw [HCh.out]
          rintro e w5 ⟨A5, c5, rfl, hc5, hm5, hr5, hb5⟩
          obtain ⟨p, hp⟩ : ∃ p, p = leaves.length := ⟨_, rfl⟩
          rw [← hp] at hc5
          rw [← hp]
          have HP := Lib.hid hp
          have HR5 := Lib.hid hr5
          have HRm5 := Lib.hid (HRm.out.below hb5 (Nat.le_refl _))
          have HB5 := Lib.hid (HBw.out.trans (hb5.mono hsw))
          have hs45 := hb5.size
          clear hp hr5 hb5
          go_wp2_with fail
          refine (leaves_any _ k cap w4.heap.size m1 HL1.out hgc hcap' w5 hs45 HRm5.out).mono ?_
          rw [HC1.out]
          rintro e w6 ⟨A6, c6, rfl, hc6, hm6, hr6, hb6⟩
          rw [← HP.out] at hc6
          rw [← HP.out]
          have HR56 := Lib.hid (HR5.out.below hb6 (Nat.le_refl _))
          have HR6 := Lib.hid hr6
          have HRm6 := Lib.hid (HRm5.out.below hb6 hs45)
          have HB6 := Lib.hid (HB5.out.trans (hb6.mono HB5.out.size))
          have hs56 := hb6.size
          clear hr6 hb6
          go_wp2_with fail
          refine (check_any _ k cap w4.heap.size m1 HL1.out hgc hcap' w6 (by omega) HRm6.out).mono ?_
          rw [HLk1.out]
          rintro e w7 ⟨rfl, hb7⟩
          have HR57 := Lib.hid (HR56.out.below hb7 hs56)
          have HR67 := Lib.hid (HR6.out.below hb7 (Nat.le_refl _))
          have HB7 := Lib.hid (HB6.out.trans (hb7.mono HB6.out.size))
          have hs67 := hb7.size
          have hp5 : p ≤ 9223372036854775807 := by simp only [maxLen] at hm5; omega
          clear hb7
          go_wp2_with fail
          refine (numbers_any A5 A6 p p c5 c6 w5.heap.size w6.heap.size leaves leaves HP.out.symm HP.out.symm hp5 hp5 w7 HR57.out HR67.out).mono ?_
          rintro e w8 ⟨rfl, q8, rfl⟩
          have e8 : (leaves == leaves) = true := by simp
          rw [e8]
          have HB8 := Lib.hid (below_drewN' HB7.out q8)
          generalize w7.drewN q8 = w8 at *
          go_wp2_with fail
          go_ret
          exact ⟨rfl, HB8.out⟩
end Go.Proofs.Ytkkaabagehjmbaa
