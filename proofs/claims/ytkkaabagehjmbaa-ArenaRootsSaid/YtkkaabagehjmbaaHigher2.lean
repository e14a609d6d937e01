/-
  (*reach).higher: the recursion.
-/
import Derived.Test.YtkkaabagehjmbaaHigher
set_option linter.unusedSimpArgs false
set_option linter.unusedVariables false
namespace Go.Proofs.Ytkkaabagehjmbaa
open Go.RowKit Go.Shelf Crc Go.Maps
attribute [local go_sem ↓] Go.wp_at_zero Go.wp_at_succ

/-- What higher leaves. -/
def PostHigher (w : World) (gr b1 b2 n1 n2 : Nat) (A : Option Addr) (n c : Nat) (S1 S2 : List Int) (e : Ending) (w' : World) : Prop :=
  e = .returned (.tuple #[]) ∧ ∃ n1' n2' S1' S2', RState w' gr b1 b2 n1' n2' A n c S1' S2' ∧ But b1 b2 w w' ∧ (∀ x ∈ S1, x ∈ S1') ∧ (∀ x ∈ S2, x ∈ S2') ∧
    n1' + 1100 * unseen (n / 16) S2' ≤ n1 + 1100 * unseen (n / 16) S2 ∧ n2' + unseen (n / 16) S2' ≤ n2 + unseen (n / 16) S2

theorem PostHigher.same {w w' : World} {gr b1 b2 n1 n2 : Nat} {A : Option Addr} {n c : Nat} {S1 S2 : List Int} (h : RState w gr b1 b2 n1 n2 A n c S1 S2) (hb : Below w.heap.size w w') : PostHigher w gr b1 b2 n1 n2 A n c S1 S2 (.returned (.tuple #[])) w' :=
  ⟨rfl, n1, n2, S1, S2, h.below hb, .of_below hb, fun _ h => h, fun _ h => h, Nat.le_refl _, Nat.le_refl _⟩

theorem readNode_ok {l : List Int} {at' : Int} {nd : NodeV} (h : readNode l at' = .ok nd) : nodeOk nd.lev nd.turn nd.next nd.low nd.slots = true := by
  unfold readNode at h
  split at h
  · cases h
  · split at h
    · rename_i hok
      cases h
      simp only [Bool.and_eq_true] at hok
      exact hok.1
    · cases h
theorem readNode_wf {l : List Int} {at' : Int} {nd : NodeV} (h : readNode l at' = .ok nd) : wfI nd.low ∧ (∀ s ∈ nd.slots, wfI s) ∧ nd.slots.length ≤ 13 := by
  have h1 := readNode_ok h
  unfold nodeOk blockB at h1
  simp only [Bool.and_eq_true, decide_eq_true_eq, Bool.not_eq_true', List.any_eq_false] at h1
  obtain ⟨_, _, _, _, _, hl, h13, hs⟩ := h1
  refine ⟨wfI_small hl.1 (by omega), fun s hm => ?_, h13⟩
  have := hs s hm
  unfold slotBad blockB at this
  simp only [Bool.or_eq_true, decide_eq_true_eq, Bool.not_eq_true', Bool.and_eq_false_iff, decide_eq_false_iff_not, not_or] at this
  exact wfI_small (by omega) (by omega)

set_option maxHeartbeats 2000000 in
set_option maxRecDepth 100000 in
theorem higher_any (l : List Int) (n c B gr b1 b2 : Nat) (A : Option Addr) (hn : l.length = n) (hnc : n ≤ c) (hbig : c ≤ 9223372036854775807) : ∀ (u : Nat) (block : Int) (fv : Value) (w : World) (n1 n2 : Nat) (S1 S2 : List Int),
    RState w gr b1 b2 n1 n2 A n c S1 S2 → RInts w B A l → B ≤ w.heap.size → MayOk w fv → unseen (n / 16) S2 ≤ u → n1 + 1100 * unseen (n / 16) S2 + 1100 ≤ maxLen → n2 + unseen (n / 16) S2 + 1 ≤ maxLen →
    Calls Try.prog 55 #[.pointer (some ⟨gr, 0, none⟩), .int .i64 block, fv] w (PostHigher w gr b1 b2 n1 n2 A n c S1 S2) := by
  have hmf : ∀ (fn : Fn) (first cap : Array Value) (w : World), (Instr.makeFunc fn first cap).run Try.prog w = .ok (.func fn first cap) w := fun _ _ _ _ => rfl
  intro u
  induction u using Nat.strongRecOn with
  | ind u ih =>
    intro block fv w n1 n2 S1 S2 hs hr hB hmay hu hn1 hn2
    have HRd := Lib.hid (nodeRead_any A n c B block l hn hnc hbig w hB hr)
    have r0 : w.cell? ⟨gr, 0, none⟩ = some (.slice A n c) := hs.var.cell 0
    have HS := Lib.hid hs
    have HR := Lib.hid hr
    obtain ⟨f, cap, rfl, henter, hmay⟩ := hmay
    have HMay := Lib.hid hmay
    have HIh := Lib.hid ih
    clear hs hr hmay ih
    rcases hnode : readNode l block with x | nd
    · have hx : ¬ x = 0 := by
        unfold readNode at hnode
        split at hnode
        · cases hnode; decide
        · split at hnode
          · cases hnode
          · cases hnode; decide
      have hx0 : (x == 0) = false := by simpa using hx
      rw [hnode] at HRd
      clear hnode
      go_enter Try.func55, Try.ntmps55
      go_wp2_with fail
      refine HRd.out.mono ?_
      rintro e w1 ⟨rfl, hb1⟩
      have hb2 := hb1.alloc hb1.size (.cells (nodeCells 0 0 0 0 none 0 0) 37)
      have hfin := PostHigher.same HS.out hb2
      go_wp2_with fail
      exact bodyPost_ret (results_none rfl _ _ _) rfl hfin
    · rw [hnode] at HRd
      have HNode := Lib.hid hnode
      clear hnode
      go_enter Try.func55, Try.ntmps55
      go_wp2_with fail
      refine HRd.out.mono ?_
      rintro e w1 ⟨A1, k1, c1, rfl, hk1, hkc1, hr1, hb1, _⟩
      have hb2 := hb1.alloc hb1.size (.cells (nodeCells nd.lev nd.turn nd.next nd.low A1 k1 c1) 37)
      have hX := Blk.new w1 37 (nodeCells nd.lev nd.turn nd.next nd.low A1 k1 c1)
      have hr2 := hr1.alloc (Nat.le_refl _) (.cells (nodeCells nd.lev nd.turn nd.next nd.low A1 k1 c1) 37)
      have hsame := Lib.hid (PostHigher.same HS.out hb2)
      go_upto_region 1 with fail
      generalize w1.alloc (.cells (nodeCells nd.lev nd.turn nd.next nd.low A1 k1 c1) 37) = w2 at *
      have hgX : w.heap.size ≤ w1.heap.size := hb1.size
      generalize w1.heap.size = g at *
      have HS2 := Lib.hid (HS.out.below hb2)
      have HR2 := Lib.hid (HR.out.below hb2 hB)
      have HX := Lib.hid hX
      have HR1 := Lib.hid hr2
      have HK1 := Lib.hid hk1
      have d0 : w2.cell? ⟨g, 0, none⟩ = some (.int .i64 nd.lev) := hX.cell 0
      have r2 : w2.cell? ⟨gr, 2, none⟩ = some (.map (some b2)) := HS2.out.var.cell 2
      have hltX := hX.lt
      clear hr1 hr2 hk1 hb1 hX HRd
      clear w1
      have hin : 0 ≤ block ∧ block < ((n / 16 : Nat) : Int) := by
        have := HNode.out
        unfold readNode at this
        split at this
        · cases this
        · omega
      by_cases hlev : nd.lev = 0
      · rw [hlev] at d0
        clear hlev HIh HMay
        go_wp2_with fail
        exact bodyPost_ret (results_none rfl _ _ _) rfl hsame.out
      · have hl0 : (nd.lev == 0) = false := by simpa using hlev
        obtain ⟨b, hCm⟩ := HMay.out w2 hb2 nd.lev
        have HCm := Lib.hid hCm
        clear hCm HMay
        rcases b with _ | _
        · go_wp2_with (with_reducible refine HCm.out.mono ?_; rintro e w3 ⟨rfl, rfl⟩)
          exact bodyPost_ret (results_none rfl _ _ _) rfl hsame.out
        · have hbw : wfI block := wfI_small hin.1 (by omega)
          have hlk := HS2.out.m2.lookup hbw
          by_cases hseen : block ∈ S2
          · rw [decide_eq_true hseen] at hlk
            clear hseen
            go_wp2_with (with_reducible refine HCm.out.mono ?_; rintro e w3 ⟨rfl, rfl⟩)
            exact bodyPost_ret (results_none rfl _ _ _) rfl hsame.out
          · rw [decide_eq_false hseen] at hlk
            have hun := unseen_cons (N := n / 16) hin.1 hin.2 hseen
            have hmx2 : n2 < maxLen := by omega
            obtain ⟨w3, hrun3, hm3, hg3⟩ := HS2.out.m2.update hmx2 hbw
            have hbut3 : But b1 b2 w2 w3 := .grown2 hg3
            have HS3 := Lib.hid (HS2.out.set2 hg3 hm3)
            have hX3 := hbut3.rstate HX.out HS2.out.m1 HS2.out.m2
            have hB2 : B ≤ w2.heap.size := Nat.le_trans hB hb2.size
            have HR3 := Lib.hid (hbut3.list HR2.out hB2 HS2.out.m1 HS2.out.m2)
            have HRs3 := Lib.hid (hbut3.list HR1.out (Nat.le_of_lt hltX) HS2.out.m1 HS2.out.m2)
            have hB3 : B ≤ w3.heap.size := Nat.le_trans hB2 hbut3.size
            have hB3' : g ≤ w3.heap.size := Nat.le_trans (Nat.le_of_lt hltX) hbut3.size
            have HLd := nodeLoad hX3
            have hbutw3 : But b1 b2 w w3 := (But.of_below hb2).trans hbut3
            obtain ⟨hlw, hsw, hs13⟩ := readNode_wf HNode.out
            have HNd := Lib.hid (reachNode_any gr b1 b2 n1 (n2 + 1) n c k1 c1 g A A1 S1 (block :: S2) nd.slots nd.lev nd.turn nd.next nd.low block w3 HS3.out HRs3.out hB3' HK1.out (by have := HK1.out; omega) (by omega) hbw hlw hsw)
            have HX3 := Lib.hid hX3
            have HBut3 := Lib.hid hbutw3
            clear hseen hsame hbut3 hm3 hg3 hX3 HS2 HR2 HX HR1 hbutw3
            go_wp2_with (first | (with_reducible refine HCm.out.mono ?_; rintro e w5 ⟨rfl, rfl⟩) | (with_reducible refine wpList_load_r rfl _ _ rfl rfl HLd ?_))
            refine HNd.out.mono ?_
            rintro e w4 ⟨rfl, hs4, hbut4⟩
            have hk1b : k1 ≤ 13 := by have := HK1.out; omega
            have hS1sub : ∀ x ∈ S1, x ∈ addAll nd.slots (addLow nd.low (block :: S1)) := fun x hx => by
              rw [mem_addAll]
              refine .inr ?_
              unfold addLow
              split
              · exact List.mem_cons_of_mem _ hx
              · exact List.mem_cons_of_mem _ (List.mem_cons_of_mem _ hx)
            have hbud1 : n1 + 2 + nd.slots.length + 1100 * unseen (n / 16) (block :: S2) ≤ n1 + 1100 * unseen (n / 16) S2 := by omega
            have hbud2 : n2 + 1 + unseen (n / 16) (block :: S2) ≤ n2 + unseen (n / 16) S2 := by omega
            have hun2 : unseen (n / 16) (block :: S2) < u := by omega
            have hX4 := hbut4.rstate HX3.out HS3.out.m1 HS3.out.m2
            have HR4 := Lib.hid (hbut4.list HR3.out hB3 HS3.out.m1 HS3.out.m2)
            have HRs4 := Lib.hid (hbut4.list HRs3.out hB3' HS3.out.m1 HS3.out.m2)
            have hB4 : B ≤ w4.heap.size := Nat.le_trans hB3 hbut4.size
            have hB4' : g ≤ w4.heap.size := Nat.le_trans hB3' hbut4.size
            have HS4 := Lib.hid hs4
            have HBut4 := Lib.hid (HBut3.out.trans hbut4)
            have e4 : w4.cell? ⟨g, 4, none⟩ = some (.slice A1 k1 c1) := hX4.cell 4
            have HX4 := Lib.hid hX4
            have HSub := Lib.hid hS1sub
            generalize addAll nd.slots (addLow nd.low (block :: S1)) = T1 at *
            clear hs4 hbut4 hS1sub hX4 HNd HX3 HS3 HR3 HRs3 HBut3 HCm hlk hrun3 HLd hun
            go_upto_region 4 with fail
            clear r0 r2 d0
            go_wp2_with fail
            go_loopw [55] (fun q wr => ∃ (k m1 m2 : Nat) (T1' T2' : List Int), q = .int .i64 (k : Int) ∧ k ≤ k1 ∧ RState wr gr b1 b2 m1 m2 A n c T1' T2' ∧ But b1 b2 w4 wr ∧ (∀ x ∈ T1, x ∈ T1') ∧ (∀ x ∈ block :: S2, x ∈ T2') ∧
                m1 + 1100 * unseen (n / 16) T2' ≤ n1 + 1100 * unseen (n / 16) S2 ∧ m2 + unseen (n / 16) T2' ≤ n2 + unseen (n / 16) S2)
              (fun q _ => k1 - (intOf q).toNat)
            case atStart => exact ⟨0, _, _, _, _, rfl, Nat.zero_le _, HS4.out, But.refl _ _ _, fun _ h => h, fun _ h => h, hbud1, hbud2⟩
            case round =>
              obtain ⟨k, m1, m2, T1', T2', rfl, hk, hs, hb, hsub1, hsub2, hbg1, hbg2⟩ := hrel
              have hunr : unseen (n / 16) T2' < u := Nat.lt_of_le_of_lt (unseen_mono hsub2) hun2
              have hXr := hb.rstate HX4.out HS4.out.m1 HS4.out.m2
              have HRr := Lib.hid (hb.list HR4.out hB4 HS4.out.m1 HS4.out.m2)
              have hBr : B ≤ wr.heap.size := Nat.le_trans hB4 hb.size
              by_cases hlt : k < k1
              · obtain ⟨s, hsv⟩ : ∃ x, x = nd.slots[k]?.getD 0 := ⟨_, rfl⟩
                have hkl : k < nd.slots.length := by have := HK1.out; omega
                obtain ⟨bb, oo, rfl, _, hc⟩ := (hb.list HRs4.out hB4' HS4.out.m1 HS4.out.m2).at_ hkl
                rw [← hsv] at hc
                have q0 : wr.cell? ⟨gr, 0, none⟩ = some (.slice A n c) := hs.var.cell 0
                have HRc := Lib.hid (recRead_any A n c B s l hn hnc hbig wr hBr HRr.out)
                have HSr := Lib.hid hs
                have HBr := Lib.hid hb
                have HSub1 := Lib.hid hsub1
                have HSub2 := Lib.hid hsub2
                have HXr := Lib.hid hXr
                clear hs hb hsub1 hsub2 hsv hXr hkl
                rcases hrec : readRec l s with x | x
                · have hx : ¬ x = 0 := by
                    unfold readRec at hrec
                    split at hrec
                    · cases hrec; decide
                    · split at hrec
                      · cases hrec
                      · cases hrec; decide
                  have hx0 : (x == 0) = false := by simpa using hx
                  rw [hrec] at HRc
                  clear hrec hx
                  go_wp2_with fail
                  refine HRc.out.mono ?_
                  rintro e w5 ⟨rfl, hb5⟩
                  have hN := Blk.new w5 59 (recCells 0 (ByteArray.mk #[]) (ByteArray.mk #[]) 0)
                  have hb6 : Below wr.heap.size wr ((w5.alloc (.cells #[.int .i64 0, .string (ByteArray.mk #[]), .string (ByteArray.mk #[]), .int .i64 0] 59)).setRow w5.heap.size (recCells 0 (ByteArray.mk #[]) (ByteArray.mk #[]) 0)) := below_setRow (hb5.alloc hb5.size _) hb5.size _
                  have HSt : StoreRow Try.prog (w5.alloc (.cells #[.int .i64 0, .string (ByteArray.mk #[]), .string (ByteArray.mk #[]), .int .i64 0] 59)) w5.heap.size 59 59 #[.int .i64 0, .string (ByteArray.mk #[]), .string (ByteArray.mk #[]), .int .i64 0] (recCells 0 (ByteArray.mk #[]) (ByteArray.mk #[]) 0) := recStore (kind' := 0) (key' := ByteArray.mk #[]) (val' := ByteArray.mk #[]) (child' := 0) hN
                  have HS6 := Lib.hid (HSr.out.below hb6)
                  have HB6 := Lib.hid (HBr.out.trans (.of_below hb6))
                  clear hN hb6
                  go_wp2_with (with_reducible refine wpList_store_r rfl _ _ _ rfl rfl rfl HSt ?_)
                  exact ⟨⟨k + 1, m1, m2, T1', T2', by simp, by omega, HS6.out, HB6.out, HSub1.out, HSub2.out, hbg1, hbg2⟩, by simp [intOf]; omega⟩
                · rw [hrec] at HRc
                  clear hrec
                  go_wp2_with fail
                  refine HRc.out.mono ?_
                  rintro e w5 ⟨rfl, hb5⟩
                  have hN := Blk.new w5 59 (recCells 0 (ByteArray.mk #[]) (ByteArray.mk #[]) 0)
                  have hb6 : Below wr.heap.size wr ((w5.alloc (.cells #[.int .i64 0, .string (ByteArray.mk #[]), .string (ByteArray.mk #[]), .int .i64 0] 59)).setRow w5.heap.size (recCells x.kind x.key x.val x.child)) := below_setRow (hb5.alloc hb5.size _) hb5.size _
                  have HSt : StoreRow Try.prog (w5.alloc (.cells #[.int .i64 0, .string (ByteArray.mk #[]), .string (ByteArray.mk #[]), .int .i64 0] 59)) w5.heap.size 59 59 #[.int .i64 0, .string (ByteArray.mk #[]), .string (ByteArray.mk #[]), .int .i64 0] (recCells x.kind x.key x.val x.child) := recStore (kind' := x.kind) (key' := x.key) (val' := x.val) (child' := x.child) hN
                  have hN2 : Blk ((w5.alloc (.cells #[.int .i64 0, .string (ByteArray.mk #[]), .string (ByteArray.mk #[]), .int .i64 0] 59)).setRow w5.heap.size (recCells x.kind x.key x.val x.child)) w5.heap.size 59 (recCells x.kind x.key x.val x.child) := hN.setRow _
                  go_upto_region 8 with (with_reducible refine wpList_store_r rfl _ _ _ rfl rfl rfl HSt ?_)
                  clear HSt hN
                  generalize (w5.alloc (.cells #[.int .i64 0, .string (ByteArray.mk #[]), .string (ByteArray.mk #[]), .int .i64 0] 59)).setRow w5.heap.size (recCells x.kind x.key x.val x.child) = w6 at *
                  generalize w5.heap.size = gx at *
                  have HS6 := Lib.hid (HSr.out.below hb6)
                  have HB6 := Lib.hid (HBr.out.trans (.of_below hb6))
                  have HR6 := Lib.hid (HRr.out.below hb6 hBr)
                  have hX6 := HXr.out.below hb6 HXr.out.lt
                  have hB6 : B ≤ w6.heap.size := Nat.le_trans hBr hb6.size
                  have v0 : w6.cell? ⟨gx, 0, none⟩ = some (.int .i64 x.kind) := hN2.cell 0
                  have v3 : w6.cell? ⟨gx, 3, none⟩ = some (.int .i64 x.child) := hN2.cell 3
                  have HRec := Lib.hid (HIh.out _ hunr x.child _ w6 m1 m2 T1' T2' HS6.out HR6.out hB6 (may_one w6 g _ _ _ _ _ _ _ hX6) (Nat.le_refl _) (by omega) (by omega))
                  clear hb5 hb6 hN2 hX6 hc q0
                  by_cases h2 : x.kind = 2
                  · rw [h2] at v0
                    go_wp2_with fail
                    refine HRec.out.mono ?_
                    rintro e w7 ⟨rfl, p1, p2, U1, U2, hs7, hb7, hu1, hu2, hq1, hq2⟩
                    have HS7 := Lib.hid hs7
                    have HB7 := Lib.hid (HB6.out.trans hb7)
                    have HU1 : Hid (∀ y ∈ T1, y ∈ U1) := Lib.hid fun y hy => hu1 _ (HSub1.out y hy)
                    have HU2 : Hid (∀ y ∈ block :: S2, y ∈ U2) := Lib.hid fun y hy => hu2 _ (HSub2.out y hy)
                    have hz1 := Nat.le_trans hq1 hbg1
                    have hz2 := Nat.le_trans hq2 hbg2
                    clear hs7 hb7 hu1 hu2 hq1 hq2 v0 v3
                    go_wp2_with fail
                    exact ⟨⟨k + 1, p1, p2, U1, U2, by simp, by omega, HS7.out, HB7.out, HU1.out, HU2.out, hz1, hz2⟩, by simp [intOf]; omega⟩
                  · have h20 : (x.kind == 2) = false := by simpa using h2
                    go_wp2_with fail
                    exact ⟨⟨k + 1, m1, m2, T1', T2', by simp, by omega, HS6.out, HB6.out, HSub1.out, HSub2.out, hbg1, hbg2⟩, by simp [intOf]; omega⟩
              · obtain rfl : k = k1 := by omega
                have e2 : wr.cell? ⟨g, 2, none⟩ = some (.int .i64 nd.next) := hXr.cell 2
                have hout : PostHigher w gr b1 b2 n1 n2 A n c S1 S2 (.returned (.tuple #[])) wr := ⟨rfl, m1, m2, T1', T2', hs, HBut4.out.trans hb, fun y hy => hsub1 _ (HSub.out y hy), fun y hy => hsub2 _ (List.mem_cons_of_mem _ hy), hbg1, hbg2⟩
                have HRec := Lib.hid (HIh.out _ hunr nd.next _ wr m1 m2 T1' T2' hs HRr.out hBr (may_two wr g _ _ _ _ _ _ _ hXr) (Nat.le_refl _) (by omega) (by omega))
                have HOut := Lib.hid hout
                have HBr := Lib.hid hb
                have HSub1 := Lib.hid hsub1
                have HSub2 := Lib.hid hsub2
                clear hs hb hsub1 hsub2 hXr hout
                by_cases hnx : nd.next = 0
                · rw [hnx] at e2
                  go_wp2_with fail
                  go_end0
                  exact HOut.out
                · have hnx0 : (nd.next == 0) = false := by simpa using hnx
                  go_wp2_with fail
                  refine HRec.out.mono ?_
                  rintro e w7 ⟨rfl, p1, p2, U1, U2, hs7, hb7, hu1, hu2, hq1, hq2⟩
                  have hout : PostHigher w gr b1 b2 n1 n2 A n c S1 S2 (.returned (.tuple #[])) w7 := ⟨rfl, p1, p2, U1, U2, hs7, (HBut4.out.trans HBr.out).trans hb7, fun y hy => hu1 _ (HSub1.out _ (HSub.out y hy)), fun y hy => hu2 _ (HSub2.out _ (List.mem_cons_of_mem _ hy)), Nat.le_trans hq1 hbg1, Nat.le_trans hq2 hbg2⟩
                  have HOut2 := Lib.hid hout
                  clear hs7 hb7 hu1 hu2 hq1 hq2 hout
                  go_wp2_with fail
                  go_end0
                  exact HOut2.out
end Go.Proofs.Ytkkaabagehjmbaa
