/-
  node.Check.
-/
import Derived.Test.YtkkaabagehjmbaaNode
set_option linter.unusedSimpArgs false
set_option linter.unusedVariables false
namespace Go.Proofs.Ytkkaabagehjmbaa
open Go.RowKit

/-- May a node be? -/
def nodeOk (lev turn next low : Int) (l : List Int) : Bool :=
  decide (0 ≤ lev) && (decide (lev ≤ 9) && (decide (0 ≤ turn) && (decide (turn ≤ 1099511627776) && (blockB next && (blockB low && (decide (l.length ≤ 13) && !(l.any slotBad)))))))

set_option maxHeartbeats 1000000 in
set_option maxRecDepth 100000 in
theorem nodeCheck_any (lev turn next low : Int) (A : Option Addr) (n c B : Nat) (l : List Int) (hn : l.length = n) (h1 : n ≤ 9223372036854775807) (w : World) (hB : B ≤ w.heap.size) (hr : RInts w B A l) :
    Calls Try.prog 71 #[.agg (nodeCells lev turn next low A n c)] w fun e w' => e = .returned (.bool (nodeOk lev turn next low l)) ∧ Below w.heap.size w w' := by
  have hr1 : ∀ o, RInts (w.alloc o) B A l := fun o => hr.alloc hB o
  have HR := Lib.hid hr1
  have HN := Lib.hid hn
  clear hr hr1 hn
  obtain ⟨ok, hok⟩ : ∃ ok, ok = nodeOk lev turn next low l := ⟨_, rfl⟩
  rw [← hok]
  unfold nodeOk at hok
  by_cases a1 : 0 ≤ lev
  · by_cases a2 : lev ≤ 9
    · by_cases a3 : 0 ≤ turn
      · by_cases a4 : turn ≤ 1099511627776
        · cases a5 : blockB next with
          | true =>
            cases a6 : blockB low with
            | true =>
              by_cases a7 : n ≤ 13
              · have hok' : ok = !(l.any slotBad) := by rw [hok, HN.out]; simp [a1, a2, a3, a4, a5, a6, a7]
                have HO := Lib.hid hok'
                have HC := Lib.hid (containsFunc_any 100 check1_enters slotBad check1_any A n c B l HN.out h1 _ (HR.out (.cells (nodeCells lev turn next low A n c) 37)))
                clear hok hok'
                go_enter Try.func71, Try.ntmps71
                go_wp2_with (go_at_call 98; refine (block_any _ _).mono ?_; rintro e w' ⟨rfl, rfl⟩)
                refine HC.out.mono ?_
                rintro e w' ⟨rfl, rfl⟩
                go_wp2_with fail
                go_ret
                exact ⟨by rw [HO.out]; rfl, (Below.refl _ _).alloc (Nat.le_refl _) _⟩
              · have hok' : ok = false := by rw [hok, HN.out]; simp [a7]
                have HO := Lib.hid hok'
                clear hok hok' HR
                go_enter Try.func71, Try.ntmps71
                go_wp2_with (go_at_call 98; refine (block_any _ _).mono ?_; rintro e w' ⟨rfl, rfl⟩)
                go_ret
                exact ⟨by rw [HO.out]; rfl, (Below.refl _ _).alloc (Nat.le_refl _) _⟩
            | false =>
              have hok' : ok = false := by rw [hok]; simp [a6]
              have HO := Lib.hid hok'
              clear hok hok' HR
              go_enter Try.func71, Try.ntmps71
              go_wp2_with (go_at_call 98; refine (block_any _ _).mono ?_; rintro e w' ⟨rfl, rfl⟩)
              go_ret
              exact ⟨by rw [HO.out]; rfl, (Below.refl _ _).alloc (Nat.le_refl _) _⟩
          | false =>
            have hok' : ok = false := by rw [hok]; simp [a5]
            have HO := Lib.hid hok'
            clear hok hok' HR
            go_enter Try.func71, Try.ntmps71
            go_wp2_with (go_at_call 98; refine (block_any _ _).mono ?_; rintro e w' ⟨rfl, rfl⟩)
            go_ret
            exact ⟨by rw [HO.out]; rfl, (Below.refl _ _).alloc (Nat.le_refl _) _⟩
        · have hok' : ok = false := by rw [hok]; simp [a4]
          have HO := Lib.hid hok'
          clear hok hok' HR
          go_enter Try.func71, Try.ntmps71
          go_wp2_with fail
          go_ret
          exact ⟨by rw [HO.out]; rfl, (Below.refl _ _).alloc (Nat.le_refl _) _⟩
      · have hok' : ok = false := by rw [hok]; simp [a3]
        have HO := Lib.hid hok'
        clear hok hok' HR
        go_enter Try.func71, Try.ntmps71
        go_wp2_with fail
        go_ret
        exact ⟨by rw [HO.out]; rfl, (Below.refl _ _).alloc (Nat.le_refl _) _⟩
    · have hok' : ok = false := by rw [hok]; simp [a2]
      have HO := Lib.hid hok'
      clear hok hok' HR
      go_enter Try.func71, Try.ntmps71
      go_wp2_with fail
      go_ret
      exact ⟨by rw [HO.out]; rfl, (Below.refl _ _).alloc (Nat.le_refl _) _⟩
  · have hok' : ok = false := by rw [hok]; simp [a1]
    have HO := Lib.hid hok'
    clear hok hok' HR
    go_enter Try.func71, Try.ntmps71
    go_wp2_with fail
    go_ret
    exact ⟨by rw [HO.out]; rfl, (Below.refl _ _).alloc (Nat.le_refl _) _⟩
end Go.Proofs.Ytkkaabagehjmbaa
