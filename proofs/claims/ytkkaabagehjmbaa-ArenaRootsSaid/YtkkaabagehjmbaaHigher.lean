/-
  (*reach).higher.
-/
import Derived.Test.YtkkaabagehjmbaaReach2
set_option linter.unusedSimpArgs false
set_option linter.unusedVariables false
namespace Go.Proofs.Ytkkaabagehjmbaa
open Go.RowKit Go.Shelf Crc Go.Maps
attribute [local go_sem ↓] Go.wp_at_zero Go.wp_at_succ

/-- What higher's last argument must be: a function that tells, and turns nothing. -/
def MayOk (w : World) (fv : Value) : Prop :=
  ∃ (f : Nat) (cap : Array Value), fv = .func (.func f) #[] cap ∧ (∀ args w, (callFunc f args).run Try.prog w = .ok (.enter f args) w) ∧
    ∀ w', Below w.heap.size w w' → ∀ lev, ∃ b : Bool, Calls Try.prog f (#[.int .i64 lev] ++ cap) w' fun e w'' => e = .returned (.bool b) ∧ w' = w''

theorem may_all (w : World) : MayOk w (.func (.func 56) #[] #[]) := by
  refine ⟨_, _, rfl, fun args w => by kernel_rfl, fun w' _ lev => ⟨true, ?_⟩⟩
  show Calls Try.prog 56 #[.int .i64 lev] w' _
  go_enter Try.func56, Try.ntmps56
  go_wp2_with fail
  go_ret
  exact ⟨rfl, rfl⟩

theorem may_one (w : World) (g : Nat) (lev turn next low : Int) (A : Option Addr) (k c : Nat) (hg : Blk w g 37 (nodeCells lev turn next low A k c)) : MayOk w (.func (.func 85) #[] #[.pointer (some ⟨g, 0, none⟩)]) := by
  refine ⟨_, _, rfl, fun args w => by kernel_rfl, fun w' hb x => ⟨x == wrap64 (lev - 1), ?_⟩⟩
  show Calls Try.prog 85 #[.int .i64 x, .pointer (some ⟨g, 0, none⟩)] w' _
  have c0 : w'.cell? ⟨g, 0, none⟩ = some (.int .i64 lev) := (hg.below hb hg.lt).cell 0
  go_enter Try.func85, Try.ntmps85
  go_wp2_with fail
  go_ret
  exact ⟨rfl, rfl⟩

theorem may_two (w : World) (g : Nat) (lev turn next low : Int) (A : Option Addr) (k c : Nat) (hg : Blk w g 37 (nodeCells lev turn next low A k c)) : MayOk w (.func (.func 86) #[] #[.pointer (some ⟨g, 0, none⟩)]) := by
  refine ⟨_, _, rfl, fun args w => by kernel_rfl, fun w' hb x => ⟨x == lev, ?_⟩⟩
  show Calls Try.prog 86 #[.int .i64 x, .pointer (some ⟨g, 0, none⟩)] w' _
  have c0 : w'.cell? ⟨g, 0, none⟩ = some (.int .i64 lev) := (hg.below hb hg.lt).cell 0
  go_enter Try.func86, Try.ntmps86
  go_wp2_with fail
  go_ret
  exact ⟨rfl, rfl⟩

/-- How many blocks are not seen. -/
def unseen : Nat → List Int → Nat
  | 0, _ => 0
  | N + 1, S => unseen N S + (if ((N : Nat) : Int) ∈ S then 0 else 1)
theorem unseen_mono : ∀ {N : Nat} {S S' : List Int}, (∀ x ∈ S, x ∈ S') → unseen N S' ≤ unseen N S
  | 0, _, _, _ => Nat.le_refl _
  | N + 1, S, S', h => by
    have ih := unseen_mono (N := N) h
    unfold unseen
    by_cases h1 : ((N : Nat) : Int) ∈ S
    · rw [if_pos h1, if_pos (h _ h1)]; omega
    · rw [if_neg h1]; split <;> omega
theorem unseen_cons : ∀ {N : Nat} {S : List Int} {x : Int}, 0 ≤ x → x < ((N : Nat) : Int) → x ∉ S → unseen N (x :: S) + 1 ≤ unseen N S
  | 0, _, _, h0, h1, _ => by omega
  | N + 1, S, x, h0, h1, hx => by
    by_cases e : x = ((N : Nat) : Int)
    · have ih := unseen_mono (N := N) (S := S) (S' := x :: S) (fun y hy => List.mem_cons_of_mem _ hy)
      unfold unseen
      rw [if_pos (by rw [← e]; simp), if_neg (by rw [← e]; exact hx)]
      omega
    · have ih := unseen_cons (N := N) h0 (by omega) hx
      unfold unseen
      by_cases h2 : ((N : Nat) : Int) ∈ S
      · rw [if_pos (List.mem_cons_of_mem _ h2), if_pos h2]; omega
      · rw [if_neg h2, if_neg (by simp [h2]; omega)]; omega
end Go.Proofs.Ytkkaabagehjmbaa
