/-
  ArenaLows: the walk.
-/
import Derived.Test.YtkkaabagehjmbaaFacts
import Derived.Test.YtkkaabagehjmbaaAwake
set_option linter.unusedSimpArgs false
set_option linter.unusedVariables false
namespace Go.Proofs.Ytkkaabagehjmbaa
open Go.RowKit Go.Shelf Crc

theorem toList_data (a : ByteArray) : a.toList = a.data.toList := ByteArray.toList_eq a
theorem bytes_inj {a b : ByteArray} (h : a.toList = b.toList) : a = b := by
  rw [toList_data, toList_data] at h
  exact ByteArray.ext (Array.toList_inj.mp h)
theorem toList_empty : (ByteArray.mk #[]).toList = [] := by rw [toList_data]
theorem gtS_empty (b : ByteArray) : gtS (ByteArray.mk #[]) b = false := by
  unfold gtS
  rw [toList_empty]
  cases h : b.toList with
  | nil => rfl
  | cons x t => rfl
theorem gtS_parts {a b : ByteArray} (h : gtS a b = true) : Op.bytesLess a.toList b.toList = false ∧ (a.toList == b.toList) = false := by
  unfold gtS at h
  simpa using h
theorem isEmpty_of_ne {a : ByteArray} (h : a ≠ ByteArray.mk #[]) : a.toList.isEmpty = false := by
  rw [Bool.eq_false_iff]
  intro e
  apply h
  have e3 : a.toList = [] := by simpa using e
  exact bytes_inj (e3.trans toList_empty.symm)
/-- From which keys on the leaves are. -/
theorem lows_at {l out : List Int} (h : lookOf l = some out) (j : Nat) (hj : j < out.length) : ∃ low, lowAt l (out[j]?.getD 0) = some low ∧ (j = 0 → low = ByteArray.mk #[]) ∧
    (0 < j → low ≠ ByteArray.mk #[] ∧ ∃ prev, lowAt l (out[j - 1]?.getD 0) = some prev ∧ gtS low prev = true) := by
  obtain ⟨hc, hg⟩ := lookOf_parts h
  obtain ⟨nd, low, prev, hn, hl, _, hp, hw⟩ := lookGo_at out 0 _ hg j hj
  refine ⟨low, ?_, ?_, ?_⟩
  · rw [List.getElem?_eq_getElem hj]
    show lowAt l out[j] = _
    unfold lowAt
    rw [hn]
    exact hl
  · rintro rfl
    rcases hw with ⟨_, h0⟩ | ⟨h0, _⟩
    · unfold lowVal at hl
      rw [if_pos h0] at hl
      cases hl
      rfl
    · omega
  · intro h0
    rcases hw with ⟨h1, _⟩ | ⟨_, hw⟩
    · omega
    · refine ⟨fun e => ?_, prev, ?_, hw⟩
      · rw [e, gtS_empty] at hw
        cases hw
      · rw [if_neg (by omega)] at hp
        rw [List.getElem?_eq_getElem (by omega)]
        exact hp

set_option maxHeartbeats 2000000 in
set_option maxRecDepth 100000 in
theorem arenaLows_any (A : Option Addr) (n c : Nat) (l : List Int) (hn : l.length = n) (hnc : n ≤ c) (hbig : c ≤ 9223372036854775807) (w : World) (hr : RInts w w.heap.size A l) :
    Calls Try.prog 5 #[.slice A n c] w fun e w' => e = .returned (.bool true) ∧ Below w.heap.size w w' := by
  by_cases h1000 : 1000 < n
  · go_enter Try.func5, Try.ntmps5
    go_wp2_with fail
    refine (awake_any w).mono ?_
    rintro e w1 ⟨rfl, hb1⟩
    go_wp2_with fail
    go_ret
    exact ⟨rfl, hb1⟩
  · have HR := Lib.hid hr
    have HN := Lib.hid hn
    clear hr
    rcases hlk : lookOf l with _ | leaves
    · have HLk := Lib.hid hlk
      clear hlk hn
      go_enter Try.func5, Try.ntmps5
      go_wp2_with fail
      refine (awake_any w).mono ?_
      rintro e w1 ⟨rfl, hb1⟩
      have HR1 := Lib.hid (HR.out.below hb1 (Nat.le_refl _))
      have hs1 := hb1.size
      have HB1 := Lib.hid hb1
      clear hb1
      go_wp2_with fail
      refine (check_any A n c w.heap.size l HN.out hnc hbig w1 hs1 HR1.out).mono ?_
      rw [HLk.out]
      rintro e w2 ⟨rfl, hb2⟩
      have HB2 := Lib.hid (HB1.out.trans (hb2.mono hs1))
      clear hb2
      go_wp2_with fail
      go_ret
      exact ⟨rfl, HB2.out⟩
    · have HLk := Lib.hid hlk
      have HCh := Lib.hid (lookOf_parts hlk).1
      have HNd := Lib.hid (chainOf_nodup (lookOf_parts hlk).1)
      clear hlk hn
      go_enter Try.func5, Try.ntmps5
      go_wp2_with fail
      refine (awake_any w).mono ?_
      rintro e w1 ⟨rfl, hb1⟩
      have HR1 := Lib.hid (HR.out.below hb1 (Nat.le_refl _))
      have hs1 := hb1.size
      have HB1 := Lib.hid hb1
      clear hb1
      go_wp2_with fail
      refine (check_any A n c w.heap.size l HN.out hnc hbig w1 hs1 HR1.out).mono ?_
      rw [HLk.out]
      rintro e w2 ⟨rfl, hb2⟩
      have HR2 := Lib.hid (HR1.out.below hb2 hs1)
      have HB2 := Lib.hid (HB1.out.trans (hb2.mono hs1))
      have hs2 : w.heap.size ≤ w2.heap.size := HB2.out.size
      clear hb2
      go_wp2_with fail
      refine (leaves_any A n c w.heap.size l HN.out hnc hbig w2 hs2 HR2.out).mono ?_
      rw [HCh.out]
      rintro e w3 ⟨Al, cl, rfl, hc3, hm3, hr3, hb3⟩
      obtain ⟨p, hp⟩ : ∃ p, p = leaves.length := ⟨_, rfl⟩
      rw [← hp] at hc3
      rw [← hp]
      have HP := Lib.hid hp
      have HR3 := Lib.hid (HR2.out.below hb3 hs2)
      have HB3 := Lib.hid (HB2.out.trans (hb3.mono hs2))
      have hs3 : w.heap.size ≤ w3.heap.size := HB3.out.size
      have HL3 := Lib.hid hr3
      clear hb3 hr3 hp
      have hpL : p ≤ 9223372036854775807 := by simp only [maxLen] at hm3; omega
      go_wp2_with fail
      go_loopw [6, 7] (fun z q wr => ∃ (k : Nat) (last : ByteArray), z = .string last ∧ q = .int .i64 (k : Int) ∧ k ≤ p ∧ Below w3.heap.size w3 wr ∧ (0 < k → lowAt l (leaves[k - 1]?.getD 0) = some last)) (fun _ q _ => p - (intOf q).toNat)
      case atStart => exact ⟨0, _, rfl, rfl, Nat.zero_le _, Below.refl _ _, fun h => absurd h (by omega)⟩
      case round =>
        obtain ⟨k, last, rfl, rfl, hk, hz, hlast⟩ := hrel
        have hrl := HL3.out.below hz (Nat.le_refl _)
        have hpL' := HP.out
        by_cases hlt : k < p
        · have hkl : k < leaves.length := by omega
          obtain ⟨low, hlow, hfirst, hnext⟩ := lows_at HLk.out k hkl
          obtain ⟨x, hx⟩ : ∃ x, x = leaves[k]?.getD 0 := ⟨_, rfl⟩
          obtain ⟨b, o, rfl, _, hc⟩ := hrl.at_ hkl
          rw [← hx] at hc hlow
          have HLow := Lib.hid hlow
          have HX := Lib.hid hx
          have HLw := Lib.hid (low_any A n c w.heap.size x l HN.out hnc hbig wr (Nat.le_trans hs3 hz.size) (HR3.out.below hz hs3))
          rw [hlow] at HLw
          have HZ := Lib.hid hz
          have HL4 := Lib.hid hrl
          have HLast := Lib.hid hlast
          by_cases h0 : k = 0
          · subst h0
            obtain rfl := hfirst rfl
            rw [Nat.add_zero] at hc
            clear hfirst hnext hlast hkl hrl hz hx hlow hpL'
            go_wp2_with fail
            refine HLw.out.mono ?_
            rintro e w4 ⟨rfl, hb4⟩
            have HZ4 := Lib.hid (HZ.out.trans (hb4.mono HZ.out.size))
            clear hb4
            go_wp2_with fail
            go_loopw [10] (fun q wx => q = .int .i64 0 ∧ wx = w4) (fun q _ => 0)
            case atStart => exact ⟨rfl, rfl⟩
            case round =>
              obtain ⟨rfl, rfl⟩ := hrel
              go_wp2_with fail
              refine ⟨⟨1, _, rfl, by simp, by omega, HZ4.out, fun _ => ?_⟩, by simp [intOf]; omega⟩
              rw [Nat.sub_self, ← HX.out]
              exact HLow.out
          · obtain ⟨hne, prev, hprev, hgt⟩ := hnext (by omega)
            rw [hlast (by omega)] at hprev
            cases hprev
            have HE := Lib.hid (isEmpty_of_ne hne)
            have HG := Lib.hid (gtS_parts hgt)
            clear hfirst hnext hlast hkl hrl hz hx hlow hpL' hne hgt
            go_wp2_with fail
            refine HLw.out.mono ?_
            rintro e w4 ⟨rfl, hb4⟩
            have hse := HE.out
            obtain ⟨hl1, hl2⟩ := HG.out
            have hk0 : ((k : Int) == 0) = false := by simpa using h0
            have HZ4 := Lib.hid (HZ.out.trans (hb4.mono HZ.out.size))
            clear hb4
            go_wp2_with fail
            go_loopw [10] (fun q wx => ∃ j : Nat, q = .int .i64 (j : Int) ∧ j ≤ k ∧ Below w4.heap.size w4 wx) (fun q _ => k - (intOf q).toNat)
            case atStart => exact ⟨0, rfl, Nat.zero_le _, Below.refl _ _⟩
            case round =>
              obtain ⟨j, rfl, hj, hz5⟩ := hrel
              have HZ5 := Lib.hid (HZ4.out.trans (hz5.mono HZ4.out.size))
              have HZ5' := Lib.hid hz5
              have HL5 := Lib.hid (HL3.out.below HZ5.out (Nat.le_refl _))
              have hp5 := HP.out
              clear hz5
              by_cases hlt2 : j < k
              · obtain ⟨y, hy⟩ : ∃ y, y = leaves[j]?.getD 0 := ⟨_, rfl⟩
                have hxy : (y == x) = false := by
                  have hne := (List.pairwise_iff_getElem.1 HNd.out) j k (by omega) (by omega) hlt2
                  rw [hy, HX.out, List.getElem?_eq_getElem (by omega), List.getElem?_eq_getElem (by omega)]
                  simpa using hne
                have hcx : ∀ z : Ext wr, z.w.cell? ⟨b, o + k, none⟩ = some (.int .i64 x) := fun z => by
                  obtain ⟨b', o', he, _, hc'⟩ := HL5.out.at_ (k := k) (by omega)
                  cases he
                  rw [HX.out]
                  exact z.cell hc'
                have hcy : ∀ z : Ext wr, z.w.cell? ⟨b, o + j, none⟩ = some (.int .i64 y) := fun z => by
                  obtain ⟨b', o', he, _, hc'⟩ := HL5.out.at_ (k := j) (by omega)
                  cases he
                  rw [hy]
                  exact z.cell hc'
                clear hy hp5
                go_wp2_with fail
                refine wp_region_ext (by kernel_rfl) (by kernel_rfl) ?_
                repeat (go_big_quiet_step (fail))
                refine wpQuiet_nil ?_
                rintro _ ⟨v, rfl⟩
                have HZ6 := Lib.hid (HZ5'.out.trans (v.h.mono HZ5'.out.size))
                go_wp2_with fail
                exact ⟨⟨j + 1, by simp, by omega, HZ6.out⟩, by simp [intOf]; omega⟩
              · obtain rfl : j = k := by omega
                clear hp5
                go_wp2_with fail
                refine ⟨⟨j + 1, _, rfl, by simp, by omega, HZ5.out, fun _ => ?_⟩, by simp [intOf]; omega⟩
                rw [Nat.add_sub_cancel, ← HX.out]
                exact HLow.out
        · obtain rfl : k = p := by omega
          have HB4 := Lib.hid (HB3.out.trans (hz.mono hs3))
          clear hrl hpL' hz hlast
          go_wp2_with fail
          go_ret
          exact ⟨rfl, HB4.out⟩
end Go.Proofs.Ytkkaabagehjmbaa
