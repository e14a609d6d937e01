/-
  The document's answer: two lists are one; a number is in a list.
-/
import Derived.Test.YtkkaabagehjmbaaReach3
import Derived.Deep.RegionHeld3
set_option linter.unusedSimpArgs false
set_option linter.unusedVariables false
namespace Go.Proofs.Ytkkaabagehjmbaa
open Go.RowKit Go.Shelf Crc

set_option maxRecDepth 100000 in
theorem in_any (A : Option Addr) (n c B : Nat) (x : Int) (l : List Int) (hn : l.length = n) (hbig : n ≤ 9223372036854775807) (w : World) (hr : RInts w B A l) :
    Calls Try.prog 21 #[.slice A n c, .int .i64 x] w fun e w' => e = .returned (.bool (l.contains x)) ∧ w = w' := by
  obtain ⟨r, hr_⟩ : ∃ r, r = l.contains x := ⟨_, rfl⟩
  rw [← hr_]
  have HR := Lib.hid hr_
  have HRI := Lib.hid hr
  have HN := Lib.hid hn
  clear hr_ hr hn
  go_enter Try.func21, Try.ntmps21
  go_wp2_with fail
  go_loopw [5] (fun q wr => ∃ k : Nat, q = .int .i64 (k : Int) ∧ k ≤ n ∧ wr = w ∧ r = (l.drop k).contains x) (fun q _ => n - (intOf q).toNat)
  case atStart => exact ⟨0, rfl, Nat.zero_le _, rfl, HR.out⟩
  case round =>
    obtain ⟨k, rfl, hk, rfl, hres⟩ := hrel
    have hl := HN.out
    by_cases hlt : k < n
    · obtain ⟨y, hy⟩ : ∃ y, y = l[k]?.getD 0 := ⟨_, rfl⟩
      have hkl : k < l.length := by omega
      have hd : l.drop k = y :: l.drop (k + 1) := by rw [List.drop_eq_getElem_cons hkl, hy, List.getElem?_eq_getElem hkl]; rfl
      obtain ⟨b, o, rfl, _, hc⟩ := HRI.out.at_ hkl
      rw [← hy] at hc
      rw [hd, List.contains_cons] at hres
      clear hd hy hkl hl
      by_cases he : y = x
      · have e1 : r = true := by rw [hres]; simp [he]
        subst e1
        subst he
        clear hres HR
        go_wp2_with fail
        go_ret
        exact ⟨rfl, rfl⟩
      · have hyx : (y == x) = false := by simpa using he
        have hxy : (x == y) = false := by simpa using fun h => he h.symm
        have hres2 : r = (l.drop (k + 1)).contains x := by rw [hres]; simp [hxy]
        have HRes := Lib.hid hres2
        clear hres hres2 hxy
        go_wp2_with fail
        exact ⟨⟨k + 1, by simp, by omega, trivial, HRes.out⟩, by simp [intOf]; omega⟩
    · obtain rfl : k = n := by omega
      have e1 : r = false := by rw [hres, List.drop_of_length_le (by omega)]; rfl
      subst e1
      clear hres HR hl
      go_wp2_with fail
      go_ret
      exact ⟨rfl, rfl⟩

set_option maxRecDepth 100000 in
theorem numbers_any (A A' : Option Addr) (n m c d B B' : Nat) (l l' : List Int) (hn : l.length = n) (hm : l'.length = m) (h1 : n ≤ 9223372036854775807) (h2 : m ≤ 9223372036854775807) (w : World) (hr : RInts w B A l) (hr' : RInts w B' A' l') :
    Calls Try.prog 20 #[.slice A n c, .slice A' m d] w fun e w' => e = .returned (.bool (l == l')) ∧ ∃ q, w' = w.drewN q := by
  obtain ⟨r, hr_⟩ : ∃ r, r = (l == l') := ⟨_, rfl⟩
  rw [← hr_]
  have HR := Lib.hid hr_
  have HRI := Lib.hid hr
  have HRJ := Lib.hid hr'
  have HN := Lib.hid hn
  have HM := Lib.hid hm
  clear hr_ hr hr' hn hm
  by_cases hnm : n = m
  · subst hnm
    go_enter Try.func20, Try.ntmps20
    go_wp2_with fail
    go_loopw [5] (fun q wr => ∃ k : Nat, q = .int .i64 (k : Int) ∧ k ≤ n ∧ (∃ z, wr = w.drewN z) ∧ r = (l.drop k == l'.drop k)) (fun q _ => n - (intOf q).toNat)
    case atStart => exact ⟨0, rfl, Nat.zero_le _, ⟨0, rfl⟩, HR.out⟩
    case round =>
      obtain ⟨k, rfl, hk, hz, hres⟩ := hrel
      have hri : RInts wr B A l := by obtain ⟨z, rfl⟩ := hz; exact HRI.out.drewN z
      have hrj : RInts wr B' A' l' := by obtain ⟨z, rfl⟩ := hz; exact HRJ.out.drewN z
      have HZ := Lib.hid hz
      have HZ2 : Hid (∃ z, wr.drew = w.drewN z) := Lib.hid (by obtain ⟨z, rfl⟩ := hz; exact ⟨z + 1, rfl⟩)
      clear hz
      have hl := HN.out
      have hl' := HM.out
      by_cases hlt : k < n
      · obtain ⟨y, hy⟩ : ∃ y, y = l[k]?.getD 0 := ⟨_, rfl⟩
        obtain ⟨y', hy'⟩ : ∃ y, y = l'[k]?.getD 0 := ⟨_, rfl⟩
        have hkl : k < l.length := by omega
        have hkl' : k < l'.length := by omega
        have hd : l.drop k = y :: l.drop (k + 1) := by rw [List.drop_eq_getElem_cons hkl, hy, List.getElem?_eq_getElem hkl]; rfl
        have hd' : l'.drop k = y' :: l'.drop (k + 1) := by rw [List.drop_eq_getElem_cons hkl', hy', List.getElem?_eq_getElem hkl']; rfl
        obtain ⟨b, o, rfl, _, hc⟩ := hri.at_ hkl
        obtain ⟨b', o', rfl, _, hc'⟩ := hrj.at_ hkl'
        rw [← hy] at hc
        rw [← hy'] at hc'
        rw [hd, hd', List.cons_beq_cons] at hres
        have HRes := Lib.hid hres
        clear hd hy hkl hl hd' hy' hkl' hl' hres hri hrj
        go_wp2_with fail
        go_region_held3 (fun w' => w'.cell? ⟨b, o + k, none⟩ = some (.int .i64 y) ∧ w'.cell? ⟨b', o' + k, none⟩ = some (.int .i64 y')) (first | go_keep | exact ⟨by assumption, by assumption⟩) (fail)
        by_cases he : y = y'
        · subst he
          have hres2 : r = (l.drop (k + 1) == l'.drop (k + 1)) := by rw [HRes.out]; simp
          have HRes2 := Lib.hid hres2
          clear hres2
          go_wp2_with fail
          exact ⟨⟨k + 1, by simp, by omega, HZ2.out, HRes2.out⟩, by simp [intOf]; omega⟩
        · have e1 : r = false := by rw [HRes.out]; simp [he]
          have hyy : (y == y') = false := by simpa using he
          subst e1
          clear HRes HR
          go_wp2_with fail
          go_ret
          exact ⟨rfl, HZ2.out⟩
      · obtain rfl : k = n := by omega
        have e1 : r = true := by rw [hres, List.drop_of_length_le (by omega), List.drop_of_length_le (by omega)]; rfl
        subst e1
        clear hres HR hl hl'
        go_wp2_with fail
        go_ret
        exact ⟨rfl, HZ.out⟩
  · have e1 : r = false := by
      rw [HR.out]
      have := HN.out
      have := HM.out
      simp
      intro e
      subst e
      omega
    subst e1
    clear HR
    go_enter Try.func20, Try.ntmps20
    go_wp2_with fail
    go_ret
    exact ⟨rfl, 0, rfl⟩
end Go.Proofs.Ytkkaabagehjmbaa
