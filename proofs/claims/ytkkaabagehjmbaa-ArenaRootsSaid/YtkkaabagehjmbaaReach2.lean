/-
  (*reach).node.
-/
import Derived.Test.YtkkaabagehjmbaaReach
set_option linter.unusedSimpArgs false
set_option linter.unusedVariables false
namespace Go.Proofs.Ytkkaabagehjmbaa
open Go.RowKit Go.Shelf Crc Go.Maps
attribute [local go_sem ↓] Go.wp_at_zero Go.wp_at_succ

def addAll (l S : List Int) : List Int := l.foldl (fun S s => s :: S) S
def addLow (low : Int) (S : List Int) : List Int := if low = 0 then S else low :: S
theorem mem_addAll : ∀ (l S : List Int) (x : Int), x ∈ addAll l S ↔ x ∈ l ∨ x ∈ S
  | [], S, x => by simp [addAll]
  | a :: l, S, x => by
    show x ∈ addAll l (a :: S) ↔ _
    rw [mem_addAll l (a :: S) x]
    simp only [List.mem_cons]
    constructor
    · rintro (h | h | h)
      · exact .inl (.inr h)
      · exact .inl (.inl h)
      · exact .inr h
    · rintro ((h | h) | h)
      · exact .inr (.inl h)
      · exact .inl h
      · exact .inr (.inr h)
theorem addAll_snoc (l S : List Int) (x : Int) : addAll (l ++ [x]) S = x :: addAll l S := by simp [addAll]

theorem But.rstate {b1 b2 : Nat} {w w' : World} (h : But b1 b2 w w') {g : Nat} {t : TypeId} {cs : Array Value} (hg : Blk w g t cs) {n1 n2 : Nat} {S1 S2 : List Int} (m1 : BMap w b1 n1 S1) (m2 : BMap w b2 n2 S2) : Blk w' g t cs :=
  h.blk hg (hg.not_map m1) (hg.not_map m2)

theorem BMap.more {w : World} {b n : Nat} {S : List Int} (h : BMap w b n S) : BMap w b (n + 1) S := by
  obtain ⟨D, ho, ha⟩ := h
  exact ⟨D, ho.mono (Nat.le_succ n), ha⟩
theorem RState.more1 {w : World} {gr b1 b2 n1 n2 : Nat} {A : Option Addr} {n c : Nat} {S1 S2 : List Int} (h : RState w gr b1 b2 (n1 + 1) n2 A n c S1 S2) : RState w gr b1 b2 (n1 + 2) n2 A n c S1 S2 :=
  ⟨h.var, h.m1.more, h.m2, h.ne⟩

set_option maxHeartbeats 1000000 in
set_option maxRecDepth 100000 in
theorem reachNode_any (gr b1 b2 n1 n2 n c k' c' B : Nat) (A A' : Option Addr) (S1 S2 slots : List Int) (lev turn next low block : Int) (w : World) (hs : RState w gr b1 b2 n1 n2 A n c S1 S2)
    (hr : RInts w B A' slots) (hB : B ≤ w.heap.size) (hk : slots.length = k') (hk13 : k' ≤ 1000) (hn1 : n1 + 1100 ≤ maxLen) (hbl : wfI block) (hlo : wfI low) (hsl : ∀ s ∈ slots, wfI s) :
    Calls Try.prog 52 #[.pointer (some ⟨gr, 0, none⟩), .agg (nodeCells lev turn next low A' k' c'), .int .i64 block] w fun e w' =>
      e = .returned (.tuple #[]) ∧ RState w' gr b1 b2 (n1 + 2 + slots.length) n2 A n c (addAll slots (addLow low (block :: S1))) S2 ∧ But b1 b2 w w' := by
  have hD := Blk.new w 37 (nodeCells lev turn next low A' k' c')
  have hs0 := hs.below ((Below.refl _ w).alloc (Nat.le_refl _) (.cells (nodeCells lev turn next low A' k' c') 37))
  have hbut0 : But b1 b2 w (w.alloc (.cells (nodeCells lev turn next low A' k' c') 37)) := But.alloc _ _
  have hr0 := hr.alloc hB (.cells (nodeCells lev turn next low A' k' c') 37)
  have hB0 : B ≤ (w.alloc (.cells (nodeCells lev turn next low A' k' c') 37)).heap.size := by simp; omega
  have hmx : n1 < maxLen := by omega
  obtain ⟨w1, hrun1, hm1, hg1⟩ := hs0.m1.update hmx hbl
  have q1 : (w.alloc (.cells (nodeCells lev turn next low A' k' c') 37)).cell? ⟨gr, 1, none⟩ = some (.map (some b1)) := hs0.var.cell 1
  have hs1 := hs0.set1 hg1 hm1
  have hbut1 : But b1 b2 w w1 := hbut0.trans (.grown1 hg1)
  have hD1 : Blk w1 w.heap.size 37 (nodeCells lev turn next low A' k' c') := (But.grown1 (b2 := b2) hg1).rstate hD hs0.m1 hs0.m2
  have hr1 : RInts w1 B A' slots := (But.grown1 (b2 := b2) hg1).list hr0 hB0 hs0.m1 hs0.m2
  have hB1 : B ≤ w1.heap.size := Nat.le_trans hB0 hg1.size
  have d3 : w1.cell? ⟨w.heap.size, 3, none⟩ = some (.int .i64 low) := hD1.cell 3
  have HS1 := Lib.hid hs1
  have HBut1 := Lib.hid hbut1
  have HD1 := Lib.hid hD1
  have HR1 := Lib.hid hr1
  have HSl := Lib.hid hsl
  have HK := Lib.hid hk
  clear hs0 hbut0 hr0 hB0 hm1 hg1 hs1 hbut1 hD1 hr1 hsl hk hs hr hD
  go_enter Try.func52, Try.ntmps52
  go_upto_region 2 with fail
  clear hrun1 q1
  by_cases h0 : low = 0
  · have e0 : addLow low (block :: S1) = block :: S1 := by unfold addLow; rw [if_pos h0]
    have hs2 : RState w1 gr b1 b2 (n1 + 2) n2 A n c (addLow low (block :: S1)) S2 := by rw [e0]; exact HS1.out.more1
    have hbut2 := HBut1.out
    have hr2 := HR1.out
    have hD2 := HD1.out
    clear HS1 HBut1 HR1 HD1 e0
    have d4 : w1.cell? ⟨w.heap.size, 4, none⟩ = some (.slice A' k' c') := hD2.cell 4
    have hB2 : B ≤ w1.heap.size := Nat.le_trans hB hbut2.size
    have HS2 := Lib.hid hs2
    have HBut2 := Lib.hid hbut2
    have HR2 := Lib.hid hr2
    clear hs2 hbut2 hr2 hD2
    go_wp2_with fail
    go_loopw [25] (fun q wr => ∃ k : Nat, q = .int .i64 (k : Int) ∧ k ≤ k' ∧ RState wr gr b1 b2 (n1 + 2 + k) n2 A n c (addAll (slots.take k) (addLow low (block :: S1))) S2 ∧ But b1 b2 w1 wr)
      (fun q _ => k' - (intOf q).toNat)
    case atStart => exact ⟨0, rfl, Nat.zero_le _, HS2.out, But.refl _ _ _⟩
    case round =>
      obtain ⟨k, rfl, hk, hs, hb⟩ := hrel
      by_cases hlt : k < k'
      · obtain ⟨x, hx⟩ : ∃ x, x = slots[k]?.getD 0 := ⟨_, rfl⟩
        have hkl : k < slots.length := by have := HK.out; omega
        have hxm : x ∈ slots := by rw [hx, List.getElem?_eq_getElem hkl]; exact List.getElem_mem hkl
        have htk : slots.take (k + 1) = slots.take k ++ [x] := by rw [List.take_add_one, hx, List.getElem?_eq_getElem hkl]; rfl
        obtain ⟨b, o, rfl, _, hc⟩ := (hb.list HR2.out hB2 HS2.out.m1 HS2.out.m2).at_ hkl
        rw [← hx] at hc
        have hmx3 : n1 + 2 + k < maxLen := by omega
        obtain ⟨w3, hrun3, hm3, hg3⟩ := hs.m1.update hmx3 (HSl.out x hxm)
        have q1 : wr.cell? ⟨gr, 1, none⟩ = some (.map (some b1)) := hs.var.cell 1
        have HS3 := Lib.hid (hs.set1 hg3 hm3)
        have HB3 := Lib.hid (hb.trans (.grown1 hg3))
        have HT := Lib.hid htk
        clear hs hb hm3 hg3 hx htk hxm hkl
        go_wp2_with fail
        refine ⟨⟨k + 1, by simp, by omega, ?_, HB3.out⟩, by simp [intOf]; omega⟩
        rw [HT.out, addAll_snoc]
        exact HS3.out
      · obtain rfl : k = k' := by omega
        have htk : slots.take k = slots := List.take_of_length_le (by have := HK.out; omega)
        rw [htk] at hs
        have hK := HK.out
        have hfin : RState wr gr b1 b2 (n1 + 2 + slots.length) n2 A n c (addAll slots (addLow low (block :: S1))) S2 := by rw [hK]; exact hs
        have HFin := Lib.hid hfin
        have HBF := Lib.hid (HBut2.out.trans hb)
        clear hs hb htk hfin hK
        go_wp2_with fail
        go_end0
        exact ⟨rfl, HFin.out, HBF.out⟩
  · have e0 : addLow low (block :: S1) = low :: block :: S1 := by unfold addLow; rw [if_neg h0]
    have hmx2 : n1 + 1 < maxLen := by omega
    have HSd : RState w1.drew gr b1 b2 (n1 + 1) n2 A n c (block :: S1) S2 := HS1.out.below (Below.refl _ w1).drew
    obtain ⟨w2, hrun2, hm2, hg2⟩ := HSd.m1.update hmx2 hlo
    have q1 : w1.cell? ⟨gr, 1, none⟩ = some (.map (some b1)) := HS1.out.var.cell 1
    have hs2 : RState w2 gr b1 b2 (n1 + 2) n2 A n c (addLow low (block :: S1)) S2 := by rw [e0]; exact HSd.set1 hg2 hm2
    have hbd : But b1 b2 w1 w2 := (But.drew w1).trans (.grown1 hg2)
    have hbut2 := HBut1.out.trans hbd
    have hr2 := hbd.list HR1.out hB1 HS1.out.m1 HS1.out.m2
    have hD2 := hbd.rstate HD1.out HS1.out.m1 HS1.out.m2
    have q2 : w2.cell? ⟨gr, 1, none⟩ = some (.map (some b1)) := hs2.var.cell 1
    have q3 : w2.cell? ⟨w.heap.size, 3, none⟩ = some (.int .i64 low) := hD2.cell 3
    clear HS1 HBut1 HR1 HD1 e0 HSd hm2 hg2
    go_upto_region 3 with fail
    go_region_held3 (fun w' => w'.cell? ⟨gr, 1, none⟩ = some (.map (some b1)) ∧ w'.cell? ⟨w.heap.size, 3, none⟩ = some (.int .i64 low)) (first | go_keep | exact ⟨by assumption, by assumption⟩) (fail)
    rename_i hHeld
    clear hHeld q1 q2 q3 hrun2 hbd
    have d4 : w2.cell? ⟨w.heap.size, 4, none⟩ = some (.slice A' k' c') := hD2.cell 4
    have hB2 : B ≤ w2.heap.size := Nat.le_trans hB hbut2.size
    have HS2 := Lib.hid hs2
    have HBut2 := Lib.hid hbut2
    have HR2 := Lib.hid hr2
    clear hs2 hbut2 hr2 hD2
    go_wp2_with fail
    go_loopw [25] (fun q wr => ∃ k : Nat, q = .int .i64 (k : Int) ∧ k ≤ k' ∧ RState wr gr b1 b2 (n1 + 2 + k) n2 A n c (addAll (slots.take k) (addLow low (block :: S1))) S2 ∧ But b1 b2 w2 wr)
      (fun q _ => k' - (intOf q).toNat)
    case atStart => exact ⟨0, rfl, Nat.zero_le _, HS2.out, But.refl _ _ _⟩
    case round =>
      obtain ⟨k, rfl, hk, hs, hb⟩ := hrel
      by_cases hlt : k < k'
      · obtain ⟨x, hx⟩ : ∃ x, x = slots[k]?.getD 0 := ⟨_, rfl⟩
        have hkl : k < slots.length := by have := HK.out; omega
        have hxm : x ∈ slots := by rw [hx, List.getElem?_eq_getElem hkl]; exact List.getElem_mem hkl
        have htk : slots.take (k + 1) = slots.take k ++ [x] := by rw [List.take_add_one, hx, List.getElem?_eq_getElem hkl]; rfl
        obtain ⟨b, o, rfl, _, hc⟩ := (hb.list HR2.out hB2 HS2.out.m1 HS2.out.m2).at_ hkl
        rw [← hx] at hc
        have hmx3 : n1 + 2 + k < maxLen := by omega
        obtain ⟨w3, hrun3, hm3, hg3⟩ := hs.m1.update hmx3 (HSl.out x hxm)
        have q1 : wr.cell? ⟨gr, 1, none⟩ = some (.map (some b1)) := hs.var.cell 1
        have HS3 := Lib.hid (hs.set1 hg3 hm3)
        have HB3 := Lib.hid (hb.trans (.grown1 hg3))
        have HT := Lib.hid htk
        clear hs hb hm3 hg3 hx htk hxm hkl
        go_wp2_with fail
        refine ⟨⟨k + 1, by simp, by omega, ?_, HB3.out⟩, by simp [intOf]; omega⟩
        rw [HT.out, addAll_snoc]
        exact HS3.out
      · obtain rfl : k = k' := by omega
        have htk : slots.take k = slots := List.take_of_length_le (by have := HK.out; omega)
        rw [htk] at hs
        have hK := HK.out
        have hfin : RState wr gr b1 b2 (n1 + 2 + slots.length) n2 A n c (addAll slots (addLow low (block :: S1))) S2 := by rw [hK]; exact hs
        have HFin := Lib.hid hfin
        have HBF := Lib.hid (HBut2.out.trans hb)
        clear hs hb htk hfin hK
        go_wp2_with fail
        go_end0
        exact ⟨rfl, HFin.out, HBF.out⟩
end Go.Proofs.Ytkkaabagehjmbaa
