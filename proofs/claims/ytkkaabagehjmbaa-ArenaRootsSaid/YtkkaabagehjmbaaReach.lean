/-
  A map from numbers to bools; (*reach).node.
-/
import Derived.Test.YtkkaabagehjmbaaNew
import Derived.Maps.OwnSet
import Derived.Maps.Views
import Derived.Maps.Keyed
set_option linter.unusedSimpArgs false
set_option linter.unusedVariables false
namespace Go.Proofs.Ytkkaabagehjmbaa
open Go.RowKit Go.Shelf Crc Go.Maps
attribute [local go_sem ↓] Go.wp_at_zero Go.wp_at_succ

def wfI (x : Int) : Prop := (Lit.int .i64 x).wf = true
theorem wfI_small {x : Int} (h0 : 0 ≤ x) (h1 : x < 9223372036854775808) : wfI x := by
  unfold wfI
  simp [Lit.wf, IntKind.min, IntKind.max, IntKind.bits, IntKind.signed]
  omega

/-- The block is a map whose set keys are S. -/
def BMap (w : World) (b n : Nat) (S : List Int) : Prop :=
  ∃ D : DataW Unit, w.ownsMap Try.prog 3 (plainElem Try.prog 4) b n D ∧ ∀ x, wfI x → D.atKey (.int .i64 x) (.lit (.bool false)) = .lit (.bool (decide (x ∈ S)))

theorem BMap.lt {w : World} {b n : Nat} {S : List Int} (h : BMap w b n S) : b < w.heap.size := by obtain ⟨D, ho, _⟩ := h; exact ho.lt
theorem BMap.kept {w w' : World} {b n : Nat} {S : List Int} (h : BMap w b n S) (hb : w'.heap[b]? = w.heap[b]?) : BMap w' b n S := by
  obtain ⟨D, ⟨es, clock, h1, F, h2, h3⟩, ha⟩ := h
  exact ⟨D, ⟨es, clock, hb.trans h1, F, h2, h3⟩, ha⟩
theorem BMap.made (w : World) : BMap (w.alloc (.map #[] 0)) w.heap.size 0 [] :=
  ⟨.map [], World.ownsMap_made w _ _ _, fun x _ => rfl⟩

theorem BMap.update {w : World} {b n : Nat} {S : List Int} (h : BMap w b n S) (hn : n < maxLen) {x : Int} (hx : wfI x) :
    ∃ w', (Instr.mapUpdate 82 (.map (some b)) (.int .i64 x) (.bool true)).run Try.prog w = .ok () w' ∧ BMap w' b (n + 1) (x :: S) ∧ w.grownBy w' (some b) := by
  obtain ⟨D, ho, ha⟩ := h
  have K := int_keyed Try.underlying3
  have hkey := keyOf_int_mk Try.underlying3 hx
  obtain ⟨w', hrun, ho', hg⟩ := ho.update K Try.underlying82 hn hkey (plainElem_bool Try.underlying4 true)
  refine ⟨w', hrun, ⟨_, ho', fun y hy => ?_⟩, hg⟩
  by_cases e : y = x
  · subst e
    rw [atKey_put_same ho.isMap (K.key hkey)]
    simp
  · rw [atKey_put_other (by intro e'; cases e'; exact e rfl), ha y hy]
    simp [e]

set_option maxRecDepth 100000 in
theorem BMap.lookup {w : World} {b n : Nat} {S : List Int} (h : BMap w b n S) {x : Int} (hx : wfI x) :
    (Instr.lookup 82 (.map (some b)) (.int .i64 x) false).run Try.prog w = .ok (.bool (decide (x ∈ S))) w := by
  obtain ⟨D, ho, ha⟩ := h
  have K := int_keyed Try.underlying3
  have hkey := keyOf_int_mk Try.underlying3 hx
  have hz : (zeroValue 4).run Try.prog w = .ok (.bool false) w := by kernel_rfl
  obtain ⟨v, ps, hrun, hv⟩ := ho.lookup K Try.underlying82 hz (plainElem_bool Try.underlying4 false) hkey
  rw [ha x hx] at hv
  rw [hrun]
  have : v = .bool (decide (x ∈ S)) := by
    unfold plainElem at hv
    rw [Try.underlying4] at hv
    cases v <;> simp at hv
    simp [hv]
  rw [this]

/-- Whatever lay in the world lies as it lay, but for the two maps. -/
structure But (b1 b2 : Nat) (w w' : World) : Prop where
  os : w'.os = w.os
  tape : w'.tape = w.tape
  output : w'.output = w.output
  size : w.heap.size ≤ w'.heap.size
  block : ∀ k, k < w.heap.size → k ≠ b1 → k ≠ b2 → w'.heap[k]? = w.heap[k]?
theorem But.refl (b1 b2 : Nat) (w : World) : But b1 b2 w w := ⟨rfl, rfl, rfl, Nat.le_refl _, fun _ _ _ _ => rfl⟩
theorem But.trans {b1 b2 : Nat} {a b c : World} (h : But b1 b2 a b) (k : But b1 b2 b c) : But b1 b2 a c :=
  ⟨k.os.trans h.os, k.tape.trans h.tape, k.output.trans h.output, Nat.le_trans h.size k.size, fun i hi h1 h2 => (k.block i (Nat.lt_of_lt_of_le hi h.size) h1 h2).trans (h.block i hi h1 h2)⟩
theorem But.of_below {b1 b2 : Nat} {w w' : World} (h : Below w.heap.size w w') : But b1 b2 w w' := ⟨h.os, h.tape, h.output, h.size, fun k hk _ _ => h.block k hk⟩
theorem But.grown1 {b1 b2 : Nat} {w w' : World} (h : w.grownBy w' (some b1)) : But b1 b2 w w' := ⟨h.os, h.tape, h.output, h.size, fun k hk h1 _ => h.block k hk (by simpa using h1)⟩
theorem But.grown2 {b1 b2 : Nat} {w w' : World} (h : w.grownBy w' (some b2)) : But b1 b2 w w' := ⟨h.os, h.tape, h.output, h.size, fun k hk _ h2 => h.block k hk (by simpa using h2)⟩
theorem But.alloc {b1 b2 : Nat} (w : World) (o : Obj) : But b1 b2 w (w.alloc o) := .of_below ((Below.refl _ w).alloc (Nat.le_refl _) o)
theorem But.drew {b1 b2 : Nat} (w : World) : But b1 b2 w w.drew := .of_below (Below.refl _ w).drew
theorem But.blk {b1 b2 : Nat} {w w' : World} (h : But b1 b2 w w') {g : Nat} {t : TypeId} {cs : Array Value} (hg : Blk w g t cs) (h1 : g ≠ b1) (h2 : g ≠ b2) : Blk w' g t cs := (h.block g hg.lt h1 h2).trans hg
theorem But.ints {b1 b2 : Nat} {w w' : World} (h : But b1 b2 w w') {B : Nat} {A : Option Addr} {l : List Int} (hr : RInts w B A l) (hB : B ≤ w.heap.size) (hA : ∀ p, A = some p → p.block ≠ b1 ∧ p.block ≠ b2) : RInts w' B A l := by
  intro hne
  obtain ⟨b, o, hA', hb, hc⟩ := hr hne
  obtain ⟨h1, h2⟩ := hA _ hA'
  exact ⟨b, o, hA', hb, fun i hi => (World.cell?_of_block (h.block b (by omega) h1 h2)).trans (hc i hi)⟩
theorem Blk.not_map {w : World} {g b n : Nat} {t : TypeId} {cs : Array Value} {S : List Int} (h : Blk w g t cs) (hb : BMap w b n S) : g ≠ b := by
  intro e
  subst e
  obtain ⟨D, ⟨es, clock, h1, _⟩, _⟩ := hb
  rw [show w.heap[g]? = _ from h] at h1
  cases h1
theorem RInts.not_map {w : World} {B b n : Nat} {A : Option Addr} {l S : List Int} (h : RInts w B A l) (hl : l ≠ []) (hb : BMap w b n S) : ∀ p, A = some p → p.block ≠ b := by
  rintro p rfl e
  obtain ⟨b', o, hA, _, hc⟩ := h hl
  cases hA
  simp only at e
  subst e
  have := hc 0 (by rcases l with _ | _; exact absurd rfl hl; simp)
  obtain ⟨D, ⟨es, clock, h1, _⟩, _⟩ := hb
  unfold World.cell? at this
  rw [h1] at this
  simp at this
/-- A list's cells stay, whatever becomes of the maps. -/
theorem But.list {b1 b2 n1 n2 : Nat} {w w' : World} {S1 S2 : List Int} (h : But b1 b2 w w') {B : Nat} {A : Option Addr} {l : List Int} (hr : RInts w B A l) (hB : B ≤ w.heap.size) (m1 : BMap w b1 n1 S1) (m2 : BMap w b2 n2 S2) : RInts w' B A l := by
  by_cases hl : l = []
  · subst hl; exact RInts.nil _ _ _
  · exact h.ints hr hB fun p hp => ⟨hr.not_map hl m1 p hp, hr.not_map hl m2 p hp⟩

/-- The state of a reach: its variable, and its two maps. -/
structure RState (w : World) (gr b1 b2 n1 n2 : Nat) (A : Option Addr) (n c : Nat) (S1 S2 : List Int) : Prop where
  var : Blk w gr 84 #[.slice A n c, .map (some b1), .map (some b2)]
  m1 : BMap w b1 n1 S1
  m2 : BMap w b2 n2 S2
  ne : b1 ≠ b2
theorem RState.below {w w' : World} {gr b1 b2 n1 n2 : Nat} {A : Option Addr} {n c : Nat} {S1 S2 : List Int} (h : RState w gr b1 b2 n1 n2 A n c S1 S2) (hb : Below w.heap.size w w') : RState w' gr b1 b2 n1 n2 A n c S1 S2 :=
  ⟨h.var.below hb h.var.lt, h.m1.kept (hb.block _ h.m1.lt), h.m2.kept (hb.block _ h.m2.lt), h.ne⟩
theorem RState.set1 {w w' : World} {gr b1 b2 n1 n2 : Nat} {A : Option Addr} {n c : Nat} {S1 S2 S : List Int} {m : Nat} (h : RState w gr b1 b2 n1 n2 A n c S1 S2) (hg : w.grownBy w' (some b1)) (hm : BMap w' b1 m S) : RState w' gr b1 b2 m n2 A n c S S2 :=
  ⟨(hg.block _ h.var.lt (by simpa using h.var.not_map h.m1)).trans h.var, hm, h.m2.kept (hg.block _ h.m2.lt (by simpa using h.ne.symm)), h.ne⟩
theorem RState.set2 {w w' : World} {gr b1 b2 n1 n2 : Nat} {A : Option Addr} {n c : Nat} {S1 S2 S : List Int} {m : Nat} (h : RState w gr b1 b2 n1 n2 A n c S1 S2) (hg : w.grownBy w' (some b2)) (hm : BMap w' b2 m S) : RState w' gr b1 b2 n1 m A n c S1 S :=
  ⟨(hg.block _ h.var.lt (by simpa using h.var.not_map h.m2)).trans h.var, h.m1.kept (hg.block _ h.m1.lt (by simpa using h.ne)), hm, h.ne⟩
end Go.Proofs.Ytkkaabagehjmbaa
