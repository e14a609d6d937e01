/-
  node: block, Check, first.
-/
import Derived.Test.YtkkaabagehjmbaaFast
set_option linter.unusedSimpArgs false
set_option linter.unusedVariables false
namespace Go.Proofs.Ytkkaabagehjmbaa
open Go.RowKit

def blockB (n : Int) : Bool := decide (0 ≤ n) && decide (n < 256)

set_option maxRecDepth 100000 in
theorem block_any (n : Int) (w : World) : Calls Try.prog 98 #[.int .i64 n] w fun e w' => e = .returned (.bool (blockB n)) ∧ w = w' := by
  by_cases h0 : 0 ≤ n
  · by_cases h1 : n < 256
    · have hb : blockB n = true := by simp [blockB, h0, h1]
      rw [hb]
      clear hb
      go_enter Try.func98, Try.ntmps98
      go_wp2
      go_ret
      exact ⟨rfl, rfl⟩
    · have hb : blockB n = false := by simp [blockB, h1]
      rw [hb]
      clear hb
      go_enter Try.func98, Try.ntmps98
      go_wp2
      go_ret
      exact ⟨rfl, rfl⟩
  · have hb : blockB n = false := by simp [blockB, h0]
    rw [hb]
    clear hb
    go_enter Try.func98, Try.ntmps98
    go_wp2
    go_ret
    exact ⟨rfl, rfl⟩

/-- A slot that may not be. -/
def slotBad (s : Int) : Bool := decide (s = 0) || !blockB s

set_option maxRecDepth 100000 in
theorem check1_any (s : Int) (w : World) : Calls Try.prog 100 #[.int .i64 s] w fun e w' => e = .returned (.bool (slotBad s)) ∧ w = w' := by
  by_cases h0 : s = 0
  · have hb : slotBad s = true := by simp [slotBad, h0]
    rw [hb]
    have hd : (s == 0) = true := by simp [h0]
    clear hb h0
    go_enter Try.func100, Try.ntmps100
    go_wp2_with fail
    go_ret
    exact ⟨rfl, rfl⟩
  · have hd : (s == 0) = false := by simp [h0]
    by_cases hb : blockB s = true
    · have hb' : slotBad s = false := by simp [slotBad, h0, hb]
      rw [hb']
      have HB := Lib.hid hb
      clear hb hb' h0
      go_enter Try.func100, Try.ntmps100
      go_wp2_with fail
      refine (block_any s w).mono ?_
      rw [HB.out]
      rintro e w' ⟨rfl, rfl⟩
      go_wp2_with fail
      go_ret
      exact ⟨rfl, rfl⟩
    · have hbf : blockB s = false := by simpa using hb
      have hb' : slotBad s = true := by simp [slotBad, hbf]
      rw [hb']
      have HB := Lib.hid hbf
      clear hb hbf hb' h0
      go_enter Try.func100, Try.ntmps100
      go_wp2_with fail
      refine (block_any s w).mono ?_
      rw [HB.out]
      rintro e w' ⟨rfl, rfl⟩
      go_wp2_with fail
      go_ret
      exact ⟨rfl, rfl⟩
theorem check1_enters (args : Array Value) (w : World) : (callFunc 100 args).run Try.prog w = .ok (.enter 100 args) w := by kernel_rfl

theorem idxP_any (p : Int → Bool) (l : List Int) : decide (0 ≤ idxP p l) = l.any p := by
  unfold idxP
  cases h : l.findIdx? p with
  | none =>
    rw [List.findIdx?_eq_none_iff] at h
    have : l.any p = false := by rw [List.any_eq_false]; intro x hx; simp [h x hx]
    rw [this]; rfl
  | some i =>
    rw [List.findIdx?_eq_some_iff_getElem] at h
    obtain ⟨hi, hp, _⟩ := h
    have : l.any p = true := List.any_eq_true.2 ⟨l[i], List.getElem_mem hi, hp⟩
    rw [this]; simp

set_option maxRecDepth 100000 in
theorem containsFunc_any (k : Nat) (hk : ∀ args w, (callFunc k args).run Try.prog w = .ok (.enter k args) w) (p : Int → Bool)
    (hp : ∀ (x : Int) (W : World), Calls Try.prog k #[.int .i64 x] W fun e w' => e = .returned (.bool (p x)) ∧ W = w')
    (A : Option Addr) (n c B : Nat) (l : List Int) (hn : l.length = n) (h1 : n ≤ 9223372036854775807) (w : World) (hr : RInts w B A l) :
    Calls Try.prog 99 #[.slice A n c, .func (.func k) #[] #[]] w fun e w' => e = .returned (.bool (l.any p)) ∧ w = w' := by
  subst hn
  have HC := Lib.hid (indexFunc_any k hk p hp A l.length c B l rfl h1 w hr)
  have HI := Lib.hid (idxP_any p l)
  clear hp hk hr
  go_enter Try.func99, Try.ntmps99
  go_wp2_with fail
  refine HC.out.mono ?_
  rintro e w' ⟨rfl, rfl⟩
  generalize idxP p l = r at *
  go_wp2_with fail
  go_ret
  exact ⟨by rw [← HI.out]; rfl, rfl⟩

/-- A node's first word. -/
def firstOf (lev turn : Int) : Int := bits .or .i64 (bits .or .i64 1152921504606846976 (wrap64 (turn * 16))) lev

abbrev nodeCells (lev turn next low : Int) (A : Option Addr) (n c : Nat) : Array Value := #[.int .i64 lev, .int .i64 turn, .int .i64 next, .int .i64 low, .slice A n c]

set_option maxRecDepth 100000 in
theorem first_any (lev turn next low : Int) (A : Option Addr) (n c : Nat) (w : World) :
    Calls Try.prog 72 #[.agg (nodeCells lev turn next low A n c)] w fun e w' => e = .returned (.int .i64 (firstOf lev turn)) ∧ Below w.heap.size w w' := by
  go_enter Try.func72, Try.ntmps72
  go_wp2_with fail
  go_ret
  refine ⟨ret_eq ?_, (Below.refl _ _).alloc (Nat.le_refl _) _⟩
  unfold firstOf
  rfl
end Go.Proofs.Ytkkaabagehjmbaa
