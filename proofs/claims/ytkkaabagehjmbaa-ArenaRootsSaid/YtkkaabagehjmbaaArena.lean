/-
  arena.sound, nodeOf, keyOf, lowOf.
-/
import Derived.Test.YtkkaabagehjmbaaRec5
set_option linter.unusedSimpArgs false
set_option linter.unusedVariables false
namespace Go.Proofs.Ytkkaabagehjmbaa
open Go.RowKit Go.Shelf Crc

/-- The panic of an arena that is not sound. -/
def Corrupt : List PanicEntry := [{ v := .iface 120 (.agg #[]), recovered := false }]

theorem sound_yes (w : World) : Calls Try.prog 82 #[.bool true] w fun e w' => e = .returned (.tuple #[]) ∧ w = w' := by
  go_enter Try.func82, Try.ntmps82
  go_wp2_with fail
  go_end0
  exact ⟨rfl, rfl⟩

theorem sound_no (w : World) : Calls Try.prog 82 #[.bool false] w fun e w' => e = .panicked Corrupt ∧ w = w' := by
  go_enter Try.func82, Try.ntmps82
  go_wp2_with fail
  exact ⟨rfl, rfl, rfl⟩

/-- What nodeOf answers, or with what it panics. -/
def PostNodeOf (w : World) : Except Int NodeV → Ending → World → Prop
  | .error _, e, w' => e = .panicked Corrupt ∧ Below w.heap.size w w'
  | .ok n, e, w' => ∃ A k c, e = .returned (.agg (nodeCells n.lev n.turn n.next n.low A k c)) ∧ n.slots.length = k ∧ k ≤ c ∧ RInts w' w'.heap.size A n.slots ∧ Below w.heap.size w w' ∧ ∀ p, A = some p → w.heap.size ≤ p.block

theorem RInts.farRow {w : World} {B g : Nat} {A : Option Addr} {l : List Int} (h : RInts w B A l) (hf : ∀ p, A = some p → p.block ≠ g) (cs : Array Value) : RInts (w.setRow g cs) B A l := by
  intro hne
  obtain ⟨b, o, hA, hb, hc⟩ := h hne
  exact ⟨b, o, hA, hb, fun i hi => (cell_setRow_other w g cs ⟨b, o + i, none⟩ (hf ⟨b, o, none⟩ hA)).trans (hc i hi)⟩

set_option maxRecDepth 100000 in
theorem nodeOf_any (A : Option Addr) (n c B : Nat) (at' : Int) (l : List Int) (hn : l.length = n) (hnc : n ≤ c) (hbig : c ≤ 9223372036854775807) (w : World) (hB : B ≤ w.heap.size) (hr : RInts w B A l) :
    Calls Try.prog 53 #[.slice A n c, .int .i64 at'] w (PostNodeOf w (readNode l at')) := by
  have hC := nodeRead_any A n c B at' l hn hnc hbig (w.alloc (.cells (nodeCells 0 0 0 0 none 0 0) 37)) (by simp; omega) (hr.alloc hB _)
  have hb0 : Below w.heap.size w (w.alloc (.cells (nodeCells 0 0 0 0 none 0 0) 37)) := (Below.refl _ _).alloc (Nat.le_refl _) _
  have hD := Blk.new w 37 (nodeCells 0 0 0 0 none 0 0)
  have hlt := hD.lt
  rcases hres : readNode l at' with x | nd
  · rw [hres] at hC
    have HC := Lib.hid hC
    have hx : ¬ x = 0 := by
      unfold readNode at hres
      split at hres
      · cases hres; decide
      · split at hres
        · cases hres
        · cases hres; decide
    have hx0 : (x == 0) = false := by simpa using hx
    clear hres hC hx
    go_enter Try.func53, Try.ntmps53
    go_wp2_with fail
    refine HC.out.mono ?_
    rintro e w1 ⟨rfl, hb1⟩
    have hb2 := (hb0.trans (hb1.mono hb0.size)).alloc (hb0.trans (hb1.mono hb0.size)).size (.cells (nodeCells 0 0 0 0 none 0 0) 37)
    go_wp2_with (go_at_call 82; refine (sound_no _).mono ?_; rintro e w2 ⟨rfl, rfl⟩)
    exact ⟨rfl, rfl, hb2⟩
  · rw [hres] at hC
    have HC := Lib.hid hC
    clear hres hC
    go_enter Try.func53, Try.ntmps53
    go_wp2_with fail
    refine HC.out.mono ?_
    rintro e w1 ⟨A1, k1, c1, rfl, hk, hkc, hr1, hb1, hfar⟩
    have HFar : Hid (∀ p, A1 = some p → w.heap.size + 1 ≤ p.block) := Lib.hid (fun p hp => by have := hfar p hp; simpa using this)
    clear hfar
    have hb2 := hb0.trans (hb1.mono hb0.size)
    have hN := Blk.new w1 37 (nodeCells nd.lev nd.turn nd.next nd.low A1 k1 c1)
    have hD2 := (hD.below hb1 hlt).alloc (.cells (nodeCells nd.lev nd.turn nd.next nd.low A1 k1 c1) 37)
    have hb3 := hb2.alloc hb2.size (.cells (nodeCells nd.lev nd.turn nd.next nd.low A1 k1 c1) 37)
    have hr2 := hr1.alloc (Nat.le_refl _) (.cells (nodeCells nd.lev nd.turn nd.next nd.low A1 k1 c1) 37)
    have HL := nodeLoad hN
    have HS := nodeStore (lev' := nd.lev) (turn' := nd.turn) (next' := nd.next) (low' := nd.low) (A' := A1) (n' := k1) (c' := c1) hD2
    have HLr := nodeLoad (hD2.setRow (nodeCells nd.lev nd.turn nd.next nd.low A1 k1 c1))
    have HR2 := Lib.hid hr2
    have HK := Lib.hid hk
    clear hb1 hr1 hk hr2
    go_wp2_with (first | (go_at_call 82; refine (sound_yes _).mono ?_; rintro e w2 ⟨rfl, rfl⟩) | (with_reducible refine wpList_load_r rfl _ _ rfl rfl HL ?_) | (with_reducible refine wpList_store_r rfl _ _ _ rfl rfl rfl HS ?_))
    exact bodyPost_ret (results_r rfl rfl HLr) rfl ⟨A1, k1, c1, rfl, HK.out, hkc, (HR2.out.farRow (fun p hp => by have := HFar.out p hp; omega) _).more (by simp), below_setRow hb3 (Nat.le_refl _) _, fun p hp => Nat.le_of_succ_le (HFar.out p hp)⟩

/-- A text, or the panic. -/
def PostStr (w : World) : Option ByteArray → Ending → World → Prop
  | none, e, w' => e = .panicked Corrupt ∧ Below w.heap.size w w'
  | some s, e, w' => e = .returned (.string s) ∧ Below w.heap.size w w'
def keyAt (l : List Int) (at' : Int) : Option ByteArray := match readRec l at' with | .ok r => some r.key | .error _ => none

set_option maxRecDepth 100000 in
theorem keyOf_any (A : Option Addr) (n c B : Nat) (at' : Int) (l : List Int) (hn : l.length = n) (hnc : n ≤ c) (hbig : c ≤ 9223372036854775807) (w : World) (hB : B ≤ w.heap.size) (hr : RInts w B A l) :
    Calls Try.prog 87 #[.slice A n c, .int .i64 at'] w (PostStr w (keyAt l at')) := by
  have hC := recRead_any A n c B at' l hn hnc hbig w hB hr
  unfold keyAt
  rcases hres : readRec l at' with x | nd
  · rw [hres] at hC
    have HC := Lib.hid hC
    have hx : ¬ x = 0 := by
      unfold readRec at hres
      split at hres
      · cases hres; decide
      · split at hres
        · cases hres
        · cases hres; decide
    have hx0 : (x == 0) = false := by simpa using hx
    clear hres hC hx
    go_enter Try.func87, Try.ntmps87
    go_wp2_with fail
    refine HC.out.mono ?_
    rintro e w1 ⟨rfl, hb1⟩
    have hN := Blk.new w1 59 (recCells 0 (ByteArray.mk #[]) (ByteArray.mk #[]) 0)
    have hb2 := below_setRow (hb1.alloc hb1.size (.cells (recCells 0 (ByteArray.mk #[]) (ByteArray.mk #[]) 0) 59)) hb1.size (recCells 0 (ByteArray.mk #[]) (ByteArray.mk #[]) 0)
    have HS : StoreRow Try.prog (w1.alloc (.cells #[.int .i64 0, .string (ByteArray.mk #[]), .string (ByteArray.mk #[]), .int .i64 0] 59)) w1.heap.size 59 59 #[.int .i64 0, .string (ByteArray.mk #[]), .string (ByteArray.mk #[]), .int .i64 0] (recCells 0 (ByteArray.mk #[]) (ByteArray.mk #[]) 0) := recStore (kind' := 0) (key' := ByteArray.mk #[]) (val' := ByteArray.mk #[]) (child' := 0) hN
    go_wp2_with (first | (go_at_call 82; refine (sound_no _).mono ?_; rintro e w2 ⟨rfl, rfl⟩) | (with_reducible refine wpList_store_r rfl _ _ _ rfl rfl rfl HS ?_))
    exact ⟨rfl, rfl, hb2⟩
  · rw [hres] at hC
    have HC := Lib.hid hC
    clear hres hC
    go_enter Try.func87, Try.ntmps87
    go_wp2_with fail
    refine HC.out.mono ?_
    rintro e w1 ⟨rfl, hb1⟩
    have hN := Blk.new w1 59 (recCells 0 (ByteArray.mk #[]) (ByteArray.mk #[]) 0)
    have HS : StoreRow Try.prog (w1.alloc (.cells #[.int .i64 0, .string (ByteArray.mk #[]), .string (ByteArray.mk #[]), .int .i64 0] 59)) w1.heap.size 59 59 #[.int .i64 0, .string (ByteArray.mk #[]), .string (ByteArray.mk #[]), .int .i64 0] (recCells nd.kind nd.key nd.val nd.child) := recStore (kind' := nd.kind) (key' := nd.key) (val' := nd.val) (child' := nd.child) hN
    have hN2 := hN.setRow (recCells nd.kind nd.key nd.val nd.child)
    have hb3 := below_setRow (hb1.alloc hb1.size (.cells (recCells 0 (ByteArray.mk #[]) (ByteArray.mk #[]) 0) 59)) hb1.size (recCells nd.kind nd.key nd.val nd.child)
    have c1 : ((w1.alloc (.cells #[.int .i64 0, .string (ByteArray.mk #[]), .string (ByteArray.mk #[]), .int .i64 0] 59)).setRow w1.heap.size (recCells nd.kind nd.key nd.val nd.child)).cell? ⟨w1.heap.size, 1, none⟩ = some (.string nd.key) := hN2.cell 1
    go_wp2_with (first | (go_at_call 82; refine (sound_yes _).mono ?_; rintro e w2 ⟨rfl, rfl⟩) | (with_reducible refine wpList_store_r rfl _ _ _ rfl rfl rfl HS ?_))
    go_ret
    exact ⟨rfl, hb3⟩

/-- lowOf. -/
def lowVal (l : List Int) (low : Int) : Option ByteArray := if low = 0 then some (ByteArray.mk #[]) else keyAt l low
set_option maxRecDepth 100000 in
theorem lowOf_any (A A' : Option Addr) (n c B k' c' : Nat) (lev turn next low : Int) (l : List Int) (hn : l.length = n) (hnc : n ≤ c) (hbig : c ≤ 9223372036854775807) (w : World) (hB : B ≤ w.heap.size) (hr : RInts w B A l) :
    Calls Try.prog 57 #[.slice A n c, .agg (nodeCells lev turn next low A' k' c')] w (PostStr w (lowVal l low)) := by
  have hD := Blk.new w 37 (nodeCells lev turn next low A' k' c')
  have hb0 : Below w.heap.size w (w.alloc (.cells (nodeCells lev turn next low A' k' c') 37)) := (Below.refl _ _).alloc (Nat.le_refl _) _
  have c3 : (w.alloc (.cells (nodeCells lev turn next low A' k' c') 37)).cell? ⟨w.heap.size, 3, none⟩ = some (.int .i64 low) := hD.cell 3
  have hC := keyOf_any A n c B low l hn hnc hbig _ (by simp; omega) (hr.alloc hB (.cells (nodeCells lev turn next low A' k' c') 37))
  have HC := Lib.hid hC
  unfold lowVal
  by_cases h0 : low = 0
  · rw [if_pos h0]
    subst h0
    clear hC
    go_enter Try.func57, Try.ntmps57
    go_wp2_with fail
    go_ret
    exact ⟨rfl, hb0⟩
  · rw [if_neg h0]
    clear hC
    obtain ⟨r, hr_⟩ : ∃ r, r = keyAt l low := ⟨_, rfl⟩
    rw [← hr_] at HC ⊢
    clear hr_
    go_enter Try.func57, Try.ntmps57
    go_wp2_with fail
    refine HC.out.mono ?_
    intro e w1 hp
    rcases r with _ | s
    · obtain ⟨rfl, hb1⟩ := hp
      exact ⟨rfl, rfl, hb0.trans (hb1.mono hb0.size)⟩
    · obtain ⟨rfl, hb1⟩ := hp
      have hb2 := hb0.trans (hb1.mono hb0.size)
      go_wp2_with fail
      go_ret
      exact ⟨rfl, hb2⟩
end Go.Proofs.Ytkkaabagehjmbaa
