/-
  arena.told; Leaves, Low, Check.
-/
import Derived.Test.YtkkaabagehjmbaaLook
import Derived.Recover
import Derived.Laws.Pointers
set_option linter.unusedSimpArgs false
set_option linter.unusedVariables false
namespace Go.Proofs.Ytkkaabagehjmbaa
open Go.RowKit Go.Shelf Crc



set_option maxRecDepth 100000 in
theorem told_caught (g : Nat) (x : Int) (older : List PanicEntry) (w : World) (hc : w.cell? ⟨g, 0, none⟩ = some (.int .i64 x)) (hz : w.frozen? ⟨g, 0, none⟩ = false) :
    CallsD Try.prog 49 #[.pointer (some ⟨g, 0, none⟩)] (.panicking ({ v := .iface 120 (.agg #[]), recovered := false } :: older)) w fun e u' w' =>
      e = .returned (.tuple #[]) ∧ u' = .panicking ({ v := .iface 120 (.agg #[]), recovered := true } :: older) ∧ w' = (w.setCell ⟨g, 0, none⟩ (.int .i64 110)).alloc (.cells #[] 120) := by
  have hta : ∀ w, (Instr.typeAssert (.iface 120 (.agg #[])) 20 120 true).run Try.prog w = .ok (.tuple #[.agg #[], .bool true]) w := fun _ => by kernel_rfl
  have hlt : g < w.heap.size := block_lt_of_cell hc
  have hba := (Below.refl w.heap.size w).alloc (Nat.le_refl _) (.cells #[] 120)
  have hc' := (hba.cell (p := ⟨g, 0, none⟩) hlt).trans hc
  have hz' := (hba.frozen (p := ⟨g, 0, none⟩) hlt).trans hz
  clear hba
  refine callsD_of_wpS Try.func49 rfl fun c₀ cs hu => ?_
  apply wpS_seq
  apply wpS_region
  simp [wpOpsS, go_sem, recoverD, hu, Try.ntmps49, Exit.thenS, Array.replicate_succ, Array.replicate_zero, List.push_toArray]
  refine wpS_of_wp ?_
  go_wp2_with fail
  cases c₀
  simp_all [bodyPostS, results, Try.results49]

theorem told_idle (g : Nat) (w : World) :
    CallsD Try.prog 49 #[.pointer (some ⟨g, 0, none⟩)] .returning w fun e u' w' => e = .returned (.tuple #[]) ∧ u' = .returning ∧ w' = w := by
  refine callsD_of_wpS Try.func49 rfl fun c₀ cs hu => ?_
  apply wpS_seq
  apply wpS_region
  simp [wpOpsS, go_sem, recoverD, hu, Try.ntmps49, Exit.thenS, Array.replicate_succ, Array.replicate_zero, List.push_toArray]
  refine wpS_of_wp ?_
  go_wp2_with fail
  cases c₀
  simp_all [bodyPostS, results, Try.results49]

theorem setCell_same {w : World} {g : Nat} {t : TypeId} {v : Value} (h : Blk w g t #[v]) : w.setCell ⟨g, 0, none⟩ v = w := by
  have hh : (w.setCell ⟨g, 0, none⟩ v).heap = w.heap := by
    apply Array.ext_getElem?
    intro i
    by_cases e : i = g
    · subst e
      rw [show (w.setCell ⟨i, 0, none⟩ v).heap[i]? = _ from h.set_ 0 v, show w.heap[i]? = _ from h]
      rfl
    · exact Below.heap_setCell w ⟨g, 0, none⟩ v i e
  unfold World.setCell at hh ⊢
  simp only at hh
  rw [hh]

/-- A list of numbers, or the error of an arena that is not sound. -/
def PostLeaves (w : World) : Option (List Int) → Ending → World → Prop
  | none, e, w' => e = .returned (.tuple #[.slice none 0 0, .int .i64 110]) ∧ Below w.heap.size w w'
  | some out, e, w' => ∃ A c, e = .returned (.tuple #[.slice A out.length c, .int .i64 0]) ∧ out.length ≤ c ∧ c ≤ maxLen ∧ RInts w' w'.heap.size A out ∧ Below w.heap.size w w'

set_option maxRecDepth 100000 in
theorem leaves_any (A : Option Addr) (n c B : Nat) (l : List Int) (hn : l.length = n) (hnc : n ≤ c) (hbig : c ≤ 9223372036854775807) (w : World) (hB : B ≤ w.heap.size) (hr : RInts w B A l) :
    Calls Try.prog 17 #[.slice A n c] w (PostLeaves w (chainOf l)) := by
  have hmf : ∀ (fn : Fn) (first cap : Array Value) (w : World), (Instr.makeFunc fn first cap).run Try.prog w = .ok (.func fn first cap) w := fun _ _ _ _ => rfl
  have HC := Lib.hid (chain_any A n c B l hn hnc hbig (w.alloc (.cells #[.int .i64 0] 24)) (by simp; omega) (hr.alloc hB _))
  have hb0 : Below w.heap.size w (w.alloc (.cells #[.int .i64 0] 24)) := (Below.refl _ _).alloc (Nat.le_refl _) _
  have hG := Blk.new w 24 #[.int .i64 0]
  obtain ⟨r, hr_⟩ : ∃ r, r = chainOf l := ⟨_, rfl⟩
  rw [← hr_] at HC ⊢
  clear hr_ hr
  go_enter_defers Try.func17, Try.ntmps17
  go_wp2_with fail
  refine HC.out.mono ?_
  intro e w1 hp
  rcases r with _ | out
  · obtain ⟨rfl, hb1⟩ := hp
    have hG1 := hG.below hb1 hG.lt
    refine leaves_cons (f := 49) (args := #[.pointer (some ⟨w.heap.size, 0, none⟩)]) (by simp) (by simp [go_sem]) ?_
    refine (told_caught w.heap.size 0 [] w1 (hG1.cell 0) (hG1.frozen 0)).mono ?_
    rintro e u' w'' ⟨rfl, rfl, rfl⟩
    have hG2 := ((hG1.set_ 0 (.int .i64 110)).alloc (.cells #[] 120))
    have c2 : ((w1.setCell ⟨w.heap.size, 0, none⟩ (.int .i64 110)).alloc (.cells #[] 120)).cell? ⟨w.heap.size, 0, none⟩ = some (.int .i64 110) := hG2.cell 0
    have hb2 := ((hb0.trans (hb1.mono hb0.size)).setCell (p := ⟨w.heap.size, 0, none⟩) (Nat.le_refl _) (.int .i64 110)).alloc (by have := hb1.size; simp [World.setCell] at *; omega) (.cells #[] 120)
    refine ⟨.tuple #[.slice none 0 0, .int .i64 110], ?_, rfl, hb2⟩
    simp [results, Try.func17, asAddr, go_sem, c2]
  · obtain ⟨Ao, co, rfl, h1, h2, h3, hb1⟩ := hp
    have hG1 := hG.below hb1 hG.lt
    have g0 := hG1.cell 0
    have f0 := hG1.frozen 0
    go_wp2_with fail
    refine leaves_cons (f := 49) (args := #[.pointer (some ⟨w.heap.size, 0, none⟩)]) (by simp) (by simp [go_sem]) ?_
    refine (told_idle w.heap.size _).mono ?_
    rintro e u' w'' ⟨rfl, rfl, rfl⟩
    have c2 : (w1.setCell ⟨w.heap.size, 0, none⟩ (.int .i64 0)).cell? ⟨w.heap.size, 0, none⟩ = some (.int .i64 0) := (hG1.set_ 0 (.int .i64 0)).cell 0
    have e1 : w1.setCell ⟨w.heap.size, 0, none⟩ (.int .i64 0) = w1 := setCell_same hG1
    have hb2 := hb0.trans (hb1.mono hb0.size)
    refine ⟨.tuple #[.slice Ao out.length co, .int .i64 0], ?_, Ao, co, rfl, h1, h2, ?_, ?_⟩
    · simp [results, Try.func17, asAddr, go_sem, c2]
    · rw [e1]; exact h3
    · rw [e1]; exact hb2
end Go.Proofs.Ytkkaabagehjmbaa
