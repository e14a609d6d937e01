/-
  slices' functions at []int, by the shelf's contracts, in this seat's words.
-/
import Derived.Test.YtkkaabagehjmbaaBase
import Derived.Test.YtkkaabagehjmbaaShelf
set_option linter.unusedSimpArgs false
set_option linter.unusedVariables false
namespace Go.Proofs.Ytkkaabagehjmbaa
open Go.RowKit

/-- What a function hands back that makes a list of numbers of its own. -/
def PostOwn (w : World) (l : List Int) (e : Ending) (w' : World) : Prop :=
  ∃ v, e = .returned v ∧ w'.ownsRow w.heap.size 3 1 v l.length (intRow l) ∧ Below w.heap.size w w'

theorem own_form {w : World} {base n : Nat} {v : Value} {l : List Int} (h : w.ownsRow base 3 1 v n (intRow l)) :
    ∃ A c, v = .slice A n c ∧ n ≤ c ∧ c ≤ maxLen ∧ l.length = n ∧ RInts w w.heap.size A l := by
  obtain ⟨h1, h2⟩ := h
  have hl : l.length = n := by simpa [intRow] using h1
  rcases h2 with ⟨rfl, rfl⟩ | ⟨g, cap, cur, rfl, hb, hg, hnc, hm, hs, ht⟩
  · obtain rfl : l = [] := List.eq_nil_of_length_eq_zero hl
    exact ⟨none, 0, rfl, Nat.le_refl _, by simp [maxLen], rfl, RInts.nil _ _ _⟩
  · refine ⟨some ⟨g, 0, none⟩, cap, rfl, hnc, hm, hl, fun _ => ⟨g, 0, rfl, (Array.getElem?_eq_some_iff.1 hg).1, fun i hi => ?_⟩⟩
    rw [cells_of_block hg, Nat.zero_add]
    have e : (cur.toList.take (n * 1))[i]? = some (.int .i64 (l[i]?.getD 0)) := by rw [ht]; exact intRow_get l i hi
    rw [List.getElem?_take] at e
    split at e
    · simpa using e
    · cases e

theorem getD_eq (l : List Int) (i : Nat) : l.getD i 0 = l[i]?.getD 0 := by simp [List.getD]

theorem clone_any (A : Option Addr) (n c B : Nat) (l : List Int) (hn : l.length = n) (hbig : n * 8 ≤ 140737488355328) (w : World) (hr : RInts w B A l) :
    Calls Try.prog 64 #[.slice A n c] w (PostOwn w l) := by
  subst hn
  cases A with
  | none =>
    obtain rfl : l = [] := by
      apply Classical.byContradiction
      intro h
      obtain ⟨b, o, hA, _⟩ := hr h
      cases hA
    exact (Try.slices_Clone_int_nil _ c w).mono fun e w' ⟨he, hw⟩ => ⟨_, he, by rw [hw]; exact World.ownsRow_nil w _ _ _, by rw [hw]; exact Below.refl _ _⟩
  | some a =>
    by_cases hl : l = []
    · subst hl
      exact (Try.slices_Clone_int_zero a c w).mono fun e w' ⟨v, he, ho, _, hb⟩ => ⟨v, he, ho, hb⟩
    · obtain ⟨b, off, hA, _, hc⟩ := hr hl
      cases hA
      exact (Try.slices_Clone_int b off l.length c l w (Nat.le_refl _) hbig (fun j hj => by rw [getD_eq]; exact hc j hj)).mono fun e w' ⟨v, he, ho, _, hb⟩ => ⟨v, he, by rw [List.take_length] at ho; exact ho, hb⟩

theorem equal_any (A A' : Option Addr) (n c m d B B' : Nat) (l l' : List Int) (hn : l.length = n) (hm : l'.length = m) (h1 : n ≤ 9223372036854775807) (h2 : m ≤ 9223372036854775807) (w : World) (hr : RInts w B A l) (hr' : RInts w B' A' l') :
    Calls Try.prog 59 #[.slice A n c, .slice A' m d] w fun e w' => e = .returned (.bool (l == l')) ∧ ∃ q, w' = w.drewN q := by
  subst hn
  subst hm
  by_cases hl : l = []
  · subst hl
    refine (Try.slices_Equal_int_empty A A' c l'.length d w h2).mono fun e w' ⟨he, hw⟩ => ⟨he.trans ?_, 0, hw⟩
    cases l' <;> simp
  · by_cases hnm : l.length = l'.length
    · have hl' : l' ≠ [] := by intro e; subst e; simp at hnm; exact hl hnm
      obtain ⟨b, off, hA, _, hc⟩ := hr hl
      obtain ⟨b', off', hA', _, hc'⟩ := hr' hl'
      cases hA
      cases hA'
      refine (Try.slices_Equal_int b off l.length c b' off' l'.length d l l' w (Nat.le_refl _) (Nat.le_refl _) h1 h2 (fun j hj => by rw [getD_eq]; exact hc j hj) (fun j hj => by rw [getD_eq]; exact hc' j hj)).mono fun e w' ⟨he, hw⟩ => ⟨?_, hw⟩
      rw [he, List.take_length, List.take_length]
    · refine (Try.slices_Equal_int_lens A A' l.length c l'.length d w hnm).mono fun e w' ⟨he, hw⟩ => ⟨he.trans ?_, 0, hw⟩
      have : (l == l') = false := by
        rw [beq_eq_false_iff_ne]; intro e; subst e; exact hnm rfl
      rw [this]

theorem contains_any (A : Option Addr) (n c B : Nat) (l : List Int) (x : Int) (hn : l.length = n) (h1 : n ≤ 9223372036854775807) (w : World) (hr : RInts w B A l) :
    Calls Try.prog 83 #[.slice A n c, .int .i64 x] w fun e w' => e = .returned (.bool (l.contains x)) ∧ w = w' := by
  subst hn
  by_cases hl : l = []
  · subst hl
    exact (Try.slices_Contains_int_empty A c x w).mono fun e w' ⟨he, hw⟩ => ⟨he, hw.symm⟩
  · obtain ⟨b, off, hA, _, hc⟩ := hr hl
    cases hA
    refine (Try.slices_Contains_int b off l.length c l x w (Nat.le_refl _) h1 (fun j hj => by rw [getD_eq]; exact hc j hj)).mono fun e w' ⟨he, hw⟩ => ⟨?_, hw.symm⟩
    rw [he, List.take_length]

/-- slices.Compact, of a row of the call's own. -/
theorem compact_any (base n c : Nat) (A : Option Addr) (l : List Int) (w w0 : World) (hb : Below base w0 w) (hbase : base ≤ w.heap.size) (h1 : n ≤ 9223372036854775807) (ho : w.ownsRow base 3 1 (.slice A n c) n (intRow l)) :
    Calls Try.prog 111 #[.slice A n c] w fun e w' => ∃ m, e = .returned (.slice A m c) ∧ m = (Lib.compact l).length ∧ m ≤ c ∧ RInts w' w'.heap.size A (Lib.compact l) ∧ Below base w0 w' := by
  obtain ⟨A', c', hv, hnc, hcm, hl, _⟩ := own_form ho
  cases hv
  subst hl
  have hcl : (Lib.compact l).length ≤ l.length := by
    unfold Lib.compact Lib.compactUpTo
    rw [List.length_map]
    exact Nat.le_trans (List.length_filter_le _ _) (by simp)
  obtain ⟨h1', h2⟩ := ho
  rcases h2 with ⟨hv, h0⟩ | ⟨g, cap, cur, hv, hbg, hg, _, _, hs, ht⟩
  · obtain rfl : l = [] := List.eq_nil_of_length_eq_zero h0
    cases hv
    exact (Try.slices_Compact_int_empty none 0 w).mono fun e w' ⟨he, hw⟩ => ⟨0, he, rfl, Nat.zero_le _, RInts.nil _ _ _, by rw [hw]; exact hb⟩
  · cases hv
    have hget : ∀ j, j < l.length → cur[j]? = some (.int .i64 (l[j]?.getD 0)) := fun j hj => by
      have e : (cur.toList.take (l.length * 1))[j]? = some (.int .i64 (l[j]?.getD 0)) := by rw [ht]; exact intRow_get l j hj
      rw [List.getElem?_take] at e
      split at e
      · simpa using e
      · cases e
    have hH : Sort.Holds (Value.int .i64) w g 0 l.toArray := fun j hj => by
      have hj' : j < l.length := by simpa using hj
      refine ⟨?_, frozen_of_row w g _ cur _ hg⟩
      rw [cells_of_block hg, Nat.zero_add, hget j hj']
      simp [hj']
    refine (Try.slices_Compact_int g 0 c l w hH h1 hnc).mono fun e w' ⟨he, q, hw⟩ => ⟨_, he, rfl, by omega, ?_, ?_⟩
    · subst hw
      have hsz : (Lib.compact l ++ List.replicate (l.length - (Lib.compact l).length) 0).toArray.size = l.toArray.size := by simp; omega
      have hH' : Sort.Holds (Value.int .i64) (Sort.ahead w q) g 0 l.toArray := hH
      have hP := Sort.holds_putRow (Value.int .i64) (Sort.ahead w q) g 0 l.toArray _ hH' hsz
      intro _
      refine ⟨g, 0, rfl, by simp [Sort.ahead]; exact (Array.getElem?_eq_some_iff.1 hg).1, fun i hi => ?_⟩
      have := (hP i (by simp; omega)).1
      rw [this]
      have hi2 : i < (Lib.compact l ++ List.replicate (l.length - (Lib.compact l).length) 0).length := by simp; omega
      simp [hi, List.getElem_append, Array.getElem!_eq_getD, Array.getD, hi2]
      try omega
    · subst hw
      refine hb.trans ⟨rfl, rfl, rfl, by simp [Sort.ahead], fun k hk => ?_⟩
      show (Sort.mapBlock _ _ _).heap[k]? = _
      simp only [Sort.mapBlock, Array.getElem?_modify]
      rw [if_neg (by omega)]
      rfl

set_option maxRecDepth 100000 in
/-- fast.Plain. -/
theorem plain_any (A : Option Addr) (n c B : Nat) (l : List Int) (hn : l.length = n) (hbig : n * 8 ≤ 140737488355328) (w : World) (hr : RInts w B A l) :
    Calls Try.prog 84 #[.slice A n c] w (PostInts w (Lib.compact l)) := by
  subst hn
  have HR := Lib.hid hr
  clear hr
  go_enter Try.func84, Try.ntmps84
  go_wp2_with fail
  refine (clone_any A _ c B l rfl hbig w HR.out).mono ?_
  rintro e w1 ⟨v, rfl, ho, hb⟩
  obtain ⟨A1, c1, rfl, hnc, hcm, hl, hr1⟩ := own_form ho
  have HO := Lib.hid ho
  have HR1 := Lib.hid hr1
  clear ho hr1 hl
  have hn2 : l.length ≤ 9223372036854775807 := by omega
  go_wp2_with fail
  refine (compact_any w.heap.size l.length c1 A1 l w1 w hb hb.size hn2 HO.out).mono ?_
  rintro e w2 ⟨m, rfl, hm, hmc, hr2, hb2⟩
  have HR2 := Lib.hid hr2
  have HM := Lib.hid hm
  clear hr2 hm
  go_wp2_with fail
  go_ret
  exact ⟨A1, m, c1, rfl, HM.out.symm, hmc, HR2.out, hb2⟩
end Go.Proofs.Ytkkaabagehjmbaa
