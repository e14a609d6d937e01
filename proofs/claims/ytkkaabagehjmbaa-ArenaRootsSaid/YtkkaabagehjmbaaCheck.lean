/-
  arena.Low, arena.Check.
-/
import Derived.Test.YtkkaabagehjmbaaTold
set_option linter.unusedSimpArgs false
set_option linter.unusedVariables false
namespace Go.Proofs.Ytkkaabagehjmbaa
open Go.RowKit Go.Shelf Crc

def lowAt (l : List Int) (at' : Int) : Option ByteArray := match readNode l at' with | .ok nd => lowVal l nd.low | .error _ => none
def PostLow (w : World) : Option ByteArray → Ending → World → Prop
  | none, e, w' => e = .returned (.tuple #[.string (ByteArray.mk #[]), .int .i64 110]) ∧ Below w.heap.size w w'
  | some s, e, w' => e = .returned (.tuple #[.string s, .int .i64 0]) ∧ Below w.heap.size w w'

/-- The way out of a panic that told has caught. -/
theorem told_out {fn : Func} {tmps : Array Value} {R : Ending → World → Prop} {w w1 : World} {g : Nat} (hG : Blk w1 g 24 #[.int .i64 0])
    (h : ∀ w2 : World, Blk w2 g 24 #[.int .i64 110] → (∀ B w0, B ≤ g → Below B w0 w1 → Below B w0 w2) → ∃ v, (results fn tmps).run Try.prog w2 = .ok v w2 ∧ R (.returned v) w2) :
    bodyPostD Try.prog fn R (.panic Corrupt) { tmps := tmps, defers := [{ target := .fn (.func 49) #[], args := #[.pointer (some ⟨g, 0, none⟩)] }] } w1 := by
  refine leaves_cons (f := 49) (args := #[.pointer (some ⟨g, 0, none⟩)]) (by simp) (by simp [go_sem]) ?_
  refine (told_caught g 0 [] w1 (hG.cell 0) (hG.frozen 0)).mono ?_
  rintro e u' w'' ⟨rfl, rfl, rfl⟩
  have hlt := hG.lt
  refine h _ ((hG.set_ 0 (.int .i64 110)).alloc (.cells #[] 120)) (fun B w0 hB hb => (hb.setCell (p := ⟨g, 0, none⟩) hB (.int .i64 110)).alloc ?_ _)
  simp [World.setCell]
  omega
/-- The way out without a panic. -/
theorem told_in {fn : Func} {tmps : Array Value} {R : Ending → World → Prop} {w1 : World} {g : Nat} {v : Value} (hr : (results fn tmps).run Try.prog w1 = .ok v w1) (hR : R (.returned v) w1) :
    bodyPostD Try.prog fn R .ret { tmps := tmps, defers := [{ target := .fn (.func 49) #[], args := #[.pointer (some ⟨g, 0, none⟩)] }] } w1 := by
  refine leaves_cons (f := 49) (args := #[.pointer (some ⟨g, 0, none⟩)]) (by simp) (by simp [go_sem]) ?_
  refine (told_idle g w1).mono ?_
  rintro e u' w'' ⟨rfl, rfl, rfl⟩
  exact ⟨v, hr, hR⟩

set_option maxRecDepth 100000 in
theorem low_any (A : Option Addr) (n c B : Nat) (at' : Int) (l : List Int) (hn : l.length = n) (hnc : n ≤ c) (hbig : c ≤ 9223372036854775807) (w : World) (hB : B ≤ w.heap.size) (hr : RInts w B A l) :
    Calls Try.prog 22 #[.slice A n c, .int .i64 at'] w (PostLow w (lowAt l at')) := by
  have hmf : ∀ (fn : Fn) (first cap : Array Value) (w : World), (Instr.makeFunc fn first cap).run Try.prog w = .ok (.func fn first cap) w := fun _ _ _ _ => rfl
  have hb0 : Below w.heap.size w (w.alloc (.cells #[.int .i64 0] 24)) := (Below.refl _ _).alloc (Nat.le_refl _) _
  have hG := Blk.new w 24 #[.int .i64 0]
  have hr0 := hr.below hb0 hB
  have hB0 : B ≤ (w.alloc (.cells #[.int .i64 0] 24)).heap.size := by simp; omega
  generalize hw0 : w.alloc (.cells #[.int .i64 0] 24) = w0 at *
  have HN := Lib.hid (nodeOf_any A n c B at' l hn hnc hbig w0 hB0 hr0)
  have HLw := Lib.hid (fun (lev turn next low : Int) (A' : Option Addr) (k' c' : Nat) w' (hb : Below w0.heap.size w0 w') => lowOf_any A A' n c B k' c' lev turn next low l hn hnc hbig w' (Nat.le_trans hB0 hb.size) (hr0.below hb hB0))
  obtain ⟨r, hr_⟩ : ∃ r, r = lowAt l at' := ⟨_, rfl⟩
  rw [← hr_]
  unfold lowAt at hr_
  obtain ⟨q, hq⟩ : ∃ q, q = readNode l at' := ⟨_, rfl⟩
  rw [← hq] at HN hr_
  have HR := Lib.hid hr_
  clear hq hr hr0 hr_
  subst hw0
  go_enter_defers Try.func22, Try.ntmps22
  go_wp2_with fail
  refine HN.out.mono ?_
  intro e w1 hp
  rcases q with x | nd
  · obtain ⟨rfl, hb1⟩ := hp
    have e1 : r = none := HR.out
    subst e1
    refine told_out (w := w) (hG.below hb1 hG.lt) ?_
    intro w2 hG2 hb2
    refine ⟨.tuple #[.string (ByteArray.mk #[]), .int .i64 110], ?_, rfl, hb2 _ _ (Nat.le_refl _) (hb0.trans (hb1.mono hb0.size))⟩
    have c2 := hG2.cell 0
    simp at c2
    simp [results, Try.func22, asAddr, go_sem, c2]
  · obtain ⟨A1, k1, c1, rfl, _, _, _, hb1, _⟩ := hp
    have hG1 := hG.below hb1 hG.lt
    go_wp2_with fail
    refine (HLw.out _ _ _ _ _ _ _ w1 hb1).mono ?_
    intro e w2 hp
    rcases hlow : lowVal l nd.low with _ | low
    · rw [hlow] at hp
      obtain ⟨rfl, hb2⟩ := hp
      have e1 : r = none := by rw [HR.out, hlow]
      subst e1
      refine told_out (w := w) (hG1.below hb2 hG1.lt) ?_
      intro w3 hG3 hb3
      have hb12 := hb1.trans (hb2.mono hb1.size)
      refine ⟨.tuple #[.string (ByteArray.mk #[]), .int .i64 110], ?_, rfl, hb3 _ _ (Nat.le_refl _) (hb0.trans (hb12.mono hb0.size))⟩
      have c2 := hG3.cell 0
      simp at c2
      simp [results, Try.func22, asAddr, go_sem, c2]
    · rw [hlow] at hp
      obtain ⟨rfl, hb2⟩ := hp
      have e1 : r = some low := by rw [HR.out, hlow]
      subst e1
      have hG2 := hG1.below hb2 hG1.lt
      have g0 := hG2.cell 0
      have f0 := hG2.frozen 0
      have hb12 := hb0.trans ((hb1.trans (hb2.mono hb1.size)).mono hb0.size)
      have hset := setCell_same hG2
      clear hG1 hb1 hb2 HR
      go_wp2_with fail
      try rw [hset]
      refine told_in (v := .tuple #[.string low, .int .i64 0]) ?_ ⟨rfl, hb12⟩
      have c2 := hG2.cell 0
      simp at c2
      simp [results, Try.func22, asAddr, go_sem, c2]

def PostCheck (w : World) (ok : Bool) (e : Ending) (w' : World) : Prop := e = .returned (.int .i64 (if ok then 0 else 110)) ∧ Below w.heap.size w w'

set_option maxRecDepth 100000 in
theorem check_any (A : Option Addr) (n c B : Nat) (l : List Int) (hn : l.length = n) (hnc : n ≤ c) (hbig : c ≤ 9223372036854775807) (w : World) (hB : B ≤ w.heap.size) (hr : RInts w B A l) :
    Calls Try.prog 19 #[.slice A n c] w (PostCheck w (lookOf l).isSome) := by
  have hmf : ∀ (fn : Fn) (first cap : Array Value) (w : World), (Instr.makeFunc fn first cap).run Try.prog w = .ok (.func fn first cap) w := fun _ _ _ _ => rfl
  have hb0 : Below w.heap.size w (w.alloc (.cells #[.int .i64 0] 24)) := (Below.refl _ _).alloc (Nat.le_refl _) _
  have hG := Blk.new w 24 #[.int .i64 0]
  have HC := Lib.hid (look_any A n c B l hn hnc hbig (w.alloc (.cells #[.int .i64 0] 24)) (by simp; omega) (hr.alloc hB _))
  obtain ⟨r, hr_⟩ : ∃ r, r = lookOf l := ⟨_, rfl⟩
  rw [← hr_] at HC ⊢
  clear hr_ hr
  go_enter_defers Try.func19, Try.ntmps19
  go_wp2_with fail
  refine HC.out.mono ?_
  intro e w1 hp
  rcases r with _ | out
  · obtain ⟨rfl, hb1⟩ := hp
    refine told_out (w := w) (hG.below hb1 hG.lt) ?_
    intro w2 hG2 hb2
    refine ⟨.int .i64 110, ?_, rfl, hb2 _ _ (Nat.le_refl _) (hb0.trans (hb1.mono hb0.size))⟩
    have c2 := hG2.cell 0
    simp at c2
    simp [results, Try.func19, asAddr, go_sem, c2]
  · obtain ⟨A1, c1, rfl, _, _, _, hb1⟩ := hp
    have hG1 := hG.below hb1 hG.lt
    have g0 := hG1.cell 0
    have f0 := hG1.frozen 0
    have hb12 := hb0.trans (hb1.mono hb0.size)
    have hset := setCell_same hG1
    go_wp2_with fail
    try rw [hset]
    refine told_in (v := .int .i64 0) ?_ ⟨rfl, hb12⟩
    have c2 := hG1.cell 0
    simp at c2
    simp [results, Try.func19, asAddr, go_sem, c2]
end Go.Proofs.Ytkkaabagehjmbaa
