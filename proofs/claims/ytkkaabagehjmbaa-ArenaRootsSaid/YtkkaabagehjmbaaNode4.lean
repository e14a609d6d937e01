/-
  node.Read.
-/
import Derived.Test.YtkkaabagehjmbaaNode3
import Derived.Deep.DeepCutAuto
set_option linter.unusedSimpArgs false
set_option linter.unusedVariables false
namespace Go.Proofs.Ytkkaabagehjmbaa
open Go.RowKit

structure NodeV where
  lev : Int
  turn : Int
  next : Int
  low : Int
  slots : List Int

def levOf (x : Int) : Int := bits .and .i64 x 15
def turnOf (x : Int) : Int := bits .andNot .i64 x 1152921504606846976 / 16
/-- What sixteen words say, be they a node's or not. -/
def nodeOf16 (m : List Int) : NodeV := ⟨levOf (m[0]?.getD 0), turnOf (m[0]?.getD 0), m[1]?.getD 0, m[2]?.getD 0, slotsOf m⟩
def NodeV.ok (n : NodeV) : Bool := nodeOk n.lev n.turn n.next n.low n.slots
def NodeV.words (n : NodeV) : List Int := nodeWords n.lev n.turn n.next n.low n.slots
/-- A block's words. -/
def blk16 (l : List Int) (k : Nat) : List Int := (l.drop (16 * k)).take 16
/-- The node of a block. -/
def readNode (l : List Int) (at' : Int) : Except Int NodeV :=
  if at' < 0 ∨ ((l.length / 16 : Nat) : Int) ≤ at' then .error 1
  else if (nodeOf16 (blk16 l at'.toNat)).ok && ((nodeOf16 (blk16 l at'.toNat)).words == blk16 l at'.toNat) then .ok (nodeOf16 (blk16 l at'.toNat)) else .error 90

def PostNode (w : World) : Except Int NodeV → Ending → World → Prop
  | .error x, e, w' => e = .returned (.tuple #[.agg (nodeCells 0 0 0 0 none 0 0), .int .i64 x]) ∧ Below w.heap.size w w'
  | .ok n, e, w' => ∃ A k c, e = .returned (.tuple #[.agg (nodeCells n.lev n.turn n.next n.low A k c), .int .i64 0]) ∧ n.slots.length = k ∧ k ≤ c ∧ RInts w' w'.heap.size A n.slots ∧ Below w.heap.size w w' ∧ ∀ p, A = some p → w.heap.size ≤ p.block

theorem nodeStore {w : World} {g : Nat} {lev turn next low lev' turn' next' low' : Int} {A A' : Option Addr} {n c n' c' : Nat} (h : Blk w g 37 (nodeCells lev turn next low A n c)) :
    StoreRow Try.prog w g 37 37 (nodeCells lev turn next low A n c) (nodeCells lev' turn' next' low' A' n' c') := ⟨h, nodeSize, rfl, by simp [Value.oneCell']⟩

theorem results_cell1 {P : Program} {fn : Func} {p u : Tmp} {ty : TypeId} (h : fn.results = #[.cell p ty, .tmp u]) {tmps : Array Value} {w : World} {g : Nat} {t : TypeId} {cs : Array Value}
    (hp : tmps.getD p undef = .pointer (some ⟨g, 0, none⟩)) (H : LoadRow P w g t ty cs) : (results fn tmps).run P w = .ok (.tuple #[.agg cs, tmps.getD u undef]) w := by
  have hp' : tmps[p]?.getD undef = .pointer (some ⟨g, 0, none⟩) := by simpa using hp
  rcases H.hd with ⟨fs, hu⟩ | ⟨n, e, hu⟩
  · simp [results, h, hp', asAddr, run_loadVar_row w g t ty cs (0, 0) _ H.hg hu rfl H.hi]
  · simp [results, h, hp', asAddr, run_loadVar_row w g t ty cs (0, 0) _ H.hg hu rfl H.hi]

set_option maxRecDepth 100000 in
theorem nodeRead_out (A : Option Addr) (n c : Nat) (at' : Int) (hbig : n ≤ 9223372036854775807) (h : at' < 0 ∨ ((n / 16 : Nat) : Int) ≤ at') (w : World) :
    Calls Try.prog 23 #[.slice A n c, .int .i64 at'] w fun e w' => e = .returned (.tuple #[.agg (nodeCells 0 0 0 0 none 0 0), .int .i64 1]) ∧ Below w.heap.size w w' := by
  have hnew := Blk.new w 37 (nodeCells 0 0 0 0 none 0 0)
  have hb0 : Below w.heap.size w (w.alloc (.cells (nodeCells 0 0 0 0 none 0 0) 37)) := (Below.refl _ _).alloc (Nat.le_refl _) _
  have HS := nodeStore (lev' := 0) (turn' := 0) (next' := 0) (low' := 0) (A' := none) (n' := 0) (c' := 0) hnew
  have HL := nodeLoad (hnew.setRow (nodeCells 0 0 0 0 none 0 0))
  have hb1 := below_setRow hb0 (Nat.le_refl w.heap.size) (nodeCells 0 0 0 0 none 0 0)
  rcases h with h | h
  · go_enter Try.func23, Try.ntmps23
    go_wp2_with (with_reducible refine wpList_store_r rfl _ _ _ rfl rfl rfl HS ?_)
    exact bodyPost_ret (results_cell1 rfl rfl HL) rfl ⟨rfl, hb1⟩
  · have h0 : ¬ at' < 0 := by omega
    have hq : ((n : Int) / 16) ≤ at' := by omega
    go_enter Try.func23, Try.ntmps23
    go_wp2_with (with_reducible refine wpList_store_r rfl _ _ _ rfl rfl rfl HS ?_)
    exact bodyPost_ret (results_cell1 rfl rfl HL) rfl ⟨rfl, hb1⟩

theorem blk16_get (l : List Int) (k i : Nat) (hi : i < 16) : (blk16 l k)[i]?.getD 0 = l[16 * k + i]?.getD 0 := by
  unfold blk16
  rw [List.getElem?_take, if_pos hi, List.getElem?_drop]
theorem blk16_length (l : List Int) (k : Nat) (h : k < l.length / 16) : (blk16 l k).length = 16 := by
  unfold blk16
  simp; omega

theorem keep3b {wp wn : World} {b o0 o1 o2 : Nat} {v0 v1 v2 : Value} (hb : Below wp.heap.size wp wn)
    (h : wp.cell? ⟨b, o0, none⟩ = some v0 ∧ wp.cell? ⟨b, o1, none⟩ = some v1 ∧ wp.cell? ⟨b, o2, none⟩ = some v2 ∧ b < wp.heap.size) :
    wn.cell? ⟨b, o0, none⟩ = some v0 ∧ wn.cell? ⟨b, o1, none⟩ = some v1 ∧ wn.cell? ⟨b, o2, none⟩ = some v2 ∧ b < wn.heap.size :=
  ⟨(hb.cell (p := ⟨b, o0, none⟩) h.2.2.2).trans h.1, (hb.cell (p := ⟨b, o1, none⟩) h.2.2.2).trans h.2.1, (hb.cell (p := ⟨b, o2, none⟩) h.2.2.2).trans h.2.2.1, Nat.lt_of_lt_of_le h.2.2.2 hb.size⟩
theorem keep3a {wp : World} {b o0 o1 o2 : Nat} {v0 v1 v2 : Value} (o : Obj)
    (h : wp.cell? ⟨b, o0, none⟩ = some v0 ∧ wp.cell? ⟨b, o1, none⟩ = some v1 ∧ wp.cell? ⟨b, o2, none⟩ = some v2 ∧ b < wp.heap.size) :
    (wp.alloc o).cell? ⟨b, o0, none⟩ = some v0 ∧ (wp.alloc o).cell? ⟨b, o1, none⟩ = some v1 ∧ (wp.alloc o).cell? ⟨b, o2, none⟩ = some v2 ∧ b < (wp.alloc o).heap.size :=
  keep3b ((Below.refl wp.heap.size wp).alloc (Nat.le_refl _) o) h

theorem keep3d {w0 wp : World} {b o0 o1 o2 : Nat} {v0 v1 v2 : Value} {o o' : Obj} (hb : b < w0.heap.size) (hs : w0.heap.size ≤ wp.heap.size)
    (h : (wp.alloc o).cell? ⟨b, o0, none⟩ = some v0 ∧ (wp.alloc o).cell? ⟨b, o1, none⟩ = some v1 ∧ (wp.alloc o).cell? ⟨b, o2, none⟩ = some v2 ∧ b < (wp.alloc o).heap.size) :
    (wp.alloc o').cell? ⟨b, o0, none⟩ = some v0 ∧ (wp.alloc o').cell? ⟨b, o1, none⟩ = some v1 ∧ (wp.alloc o').cell? ⟨b, o2, none⟩ = some v2 ∧ b < (wp.alloc o').heap.size := by
  have hlt : b < wp.heap.size := by omega
  rw [World.cell?_alloc_past _ _ _ hlt, World.cell?_alloc_past _ _ _ hlt, World.cell?_alloc_past _ _ _ hlt] at h
  rw [World.cell?_alloc_past _ _ _ hlt, World.cell?_alloc_past _ _ _ hlt, World.cell?_alloc_past _ _ _ hlt]
  exact ⟨h.1, h.2.1, h.2.2.1, by simp; omega⟩
theorem keep3e {wp : World} {b g i o0 o1 o2 : Nat} {u v0 v1 v2 : Value} (hne : ¬ b = g)
    (h : wp.cell? ⟨b, o0, none⟩ = some v0 ∧ wp.cell? ⟨b, o1, none⟩ = some v1 ∧ wp.cell? ⟨b, o2, none⟩ = some v2 ∧ b < wp.heap.size) :
    (wp.setCell ⟨g, i, none⟩ u).cell? ⟨b, o0, none⟩ = some v0 ∧ (wp.setCell ⟨g, i, none⟩ u).cell? ⟨b, o1, none⟩ = some v1 ∧ (wp.setCell ⟨g, i, none⟩ u).cell? ⟨b, o2, none⟩ = some v2 ∧ b < (wp.setCell ⟨g, i, none⟩ u).heap.size :=
  ⟨keepSet hne h.1, keepSet hne h.2.1, keepSet hne h.2.2.1, by simpa [World.setCell] using h.2.2.2⟩

theorem keep3f {wp : World} {b o0 o1 o2 : Nat} {v0 v1 v2 : Value} {o : Obj}
    (h : wp.cell? ⟨b, o0, none⟩ = some v0 ∧ wp.cell? ⟨b, o1, none⟩ = some v1 ∧ wp.cell? ⟨b, o2, none⟩ = some v2 ∧ b < wp.heap.size) :
    (wp.alloc o).drew.cell? ⟨b, o0, none⟩ = some v0 ∧ (wp.alloc o).drew.cell? ⟨b, o1, none⟩ = some v1 ∧ (wp.alloc o).drew.cell? ⟨b, o2, none⟩ = some v2 ∧ b < (wp.alloc o).drew.heap.size :=
  keep3a o h

theorem own_keep5 {w : World} {base n g : Nat} {v : Value} {xs : List Value} (hg : g < base) (h : w.ownsRow base 3 1 v n xs) (u0 u1 u2 u3 u4 : Value) :
    (((((w.setCell ⟨g, 0, none⟩ u0).setCell ⟨g, 1, none⟩ u1).setCell ⟨g, 2, none⟩ u2).setCell ⟨g, 3, none⟩ u3).setCell ⟨g, 4, none⟩ u4).ownsRow base 3 1 v n xs :=
  ownsRow_setCell_below (ownsRow_setCell_below (ownsRow_setCell_below (ownsRow_setCell_below (ownsRow_setCell_below h hg _) hg _) hg _) hg _) hg _

theorem own_far {w : World} {base n k c : Nat} {A : Option Addr} {xs : List Value} (h : w.ownsRow base 3 1 (.slice A k c) n xs) : ∀ p, A = some p → base ≤ p.block := by
  intro p hp
  rcases h.2 with ⟨hv, _⟩ | ⟨g, cap, cur, hv, hb, _⟩
  · cases hv; cases hp
  · cases hv; cases hp; exact hb

set_option maxHeartbeats 1000000 in
set_option maxRecDepth 100000 in
theorem nodeRead_in (A : Option Addr) (n c B k : Nat) (l : List Int) (hn : l.length = n) (hk : k < n / 16) (hnc : n ≤ c) (hbig : c ≤ 9223372036854775807) (w : World) (hB : B ≤ w.heap.size) (hr : RInts w B A l) :
    Calls Try.prog 23 #[.slice A n c, .int .i64 (k : Int)] w (PostNode w (readNode l k)) := by
  obtain ⟨b, off, rfl, hb, hc⟩ := id hr (by intro e; subst e; simp at hn; omega)
  obtain ⟨m, hm⟩ : ∃ m, m = blk16 l k := ⟨_, rfl⟩
  have hm16 : m.length = 16 := by rw [hm]; exact blk16_length l k (by omega)
  have hrm : RInts w B (some ⟨b, off + 16 * k, none⟩) m := fun _ => ⟨b, off + 16 * k, rfl, hb, fun i hi => by
    rw [hm, blk16_get l k i (by omega), Nat.add_assoc]
    exact hc _ (by omega)⟩
  have hres : readNode l k = if (nodeOf16 m).ok && ((nodeOf16 m).words == m) then .ok (nodeOf16 m) else .error 90 := by
    unfold readNode
    rw [if_neg (by omega), Int.toNat_natCast, ← hm]
  rw [hres]
  clear hres hm hc hr
  obtain ⟨x0, hx0⟩ : ∃ x, x = m[0]?.getD 0 := ⟨_, rfl⟩
  obtain ⟨x1, hx1⟩ : ∃ x, x = m[1]?.getD 0 := ⟨_, rfl⟩
  obtain ⟨x2, hx2⟩ : ∃ x, x = m[2]?.getD 0 := ⟨_, rfl⟩
  have h0 : w.cell? ⟨b, off + 16 * k, none⟩ = some (.int .i64 x0) := by
    obtain ⟨b', o', hA, _, hcell⟩ := hrm.at_ (k := 0) (by omega)
    cases hA; rw [hx0]; exact hcell
  have h1 : w.cell? ⟨b, off + 16 * k + 1, none⟩ = some (.int .i64 x1) := by
    obtain ⟨b', o', hA, _, hcell⟩ := hrm.at_ (k := 1) (by omega)
    cases hA; rw [hx1]; exact hcell
  have h2 : w.cell? ⟨b, off + 16 * k + 2, none⟩ = some (.int .i64 x2) := by
    obtain ⟨b', o', hA, _, hcell⟩ := hrm.at_ (k := 2) (by omega)
    cases hA; rw [hx2]; exact hcell
  have hN : nodeOf16 m = ⟨levOf x0, turnOf x0, x1, x2, slotsOf m⟩ := by unfold nodeOf16; rw [← hx0, ← hx1, ← hx2]
  rw [hN]
  obtain ⟨r, hr_⟩ : ∃ r, r = if (NodeV.mk (levOf x0) (turnOf x0) x1 x2 (slotsOf m)).ok && ((NodeV.mk (levOf x0) (turnOf x0) x1 x2 (slotsOf m)).words == m) then Except.ok (NodeV.mk (levOf x0) (turnOf x0) x1 x2 (slotsOf m)) else Except.error (90 : Int) := ⟨_, rfl⟩
  rw [← hr_]
  have HRes := Lib.hid hr_
  clear hr_
  have hbw : b < w.heap.size := by omega
  have hl16 : 16 * (k + 1) - 16 * k = 16 := by omega
  have hcc : 16 ≤ c - 16 * k := by omega
  have HR := Lib.hid hrm
  have HM := Lib.hid hm16
  clear hx0 hx1 hx2 hN hrm
  go_enter Try.func23, Try.ntmps23
  go_upto_region 4 with fail
  rw [hl16]
  clear hl16
  have hD := Blk.new w 37 (nodeCells 0 0 0 0 none 0 0)
  have hb1 : Below w.heap.size w (w.alloc (.cells (nodeCells 0 0 0 0 none 0 0) 37)) := (Below.refl _ _).alloc (Nat.le_refl _) _
  have HR1 := Lib.hid (HR.out.below hb1 hB)
  have h0' : (w.alloc (.cells (nodeCells 0 0 0 0 none 0 0) 37)).cell? ⟨b, off + 16 * k, none⟩ = some (.int .i64 x0) := (hb1.cell (p := ⟨b, off + 16 * k, none⟩) hbw).trans h0
  have h1' : (w.alloc (.cells (nodeCells 0 0 0 0 none 0 0) 37)).cell? ⟨b, off + 16 * k + 1, none⟩ = some (.int .i64 x1) := (hb1.cell (p := ⟨b, off + 16 * k + 1, none⟩) hbw).trans h1
  have h2' : (w.alloc (.cells (nodeCells 0 0 0 0 none 0 0) 37)).cell? ⟨b, off + 16 * k + 2, none⟩ = some (.int .i64 x2) := (hb1.cell (p := ⟨b, off + 16 * k + 2, none⟩) hbw).trans h2
  have hlt := hD.lt
  have hbA : b < (w.alloc (.cells (nodeCells 0 0 0 0 none 0 0) 37)).drew.heap.size := by have := hb1.size; show b < (w.alloc _).heap.size; omega
  have hBA : B ≤ (w.alloc (.cells (nodeCells 0 0 0 0 none 0 0) 37)).drew.heap.size := by have := hb1.size; show B ≤ (w.alloc _).heap.size; omega
  generalize w.alloc (.cells (nodeCells 0 0 0 0 none 0 0) 37) = wA at *
  have hneA : ¬ b = wA.heap.size := by have : b < wA.heap.size := hbA; omega
  have hS0 : wA.drew.cell? ⟨b, off + 16 * k, none⟩ = some (.int .i64 x0) ∧ wA.drew.cell? ⟨b, off + 16 * k + 1, none⟩ = some (.int .i64 x1) ∧ wA.drew.cell? ⟨b, off + 16 * k + 2, none⟩ = some (.int .i64 x2) ∧ b < wA.drew.heap.size := ⟨h0', h1', h2', hbA⟩
  have hS1 := keep3f (o := .cells (nodeCells 0 0 0 0 none 0 0) 37) (wp := wA) ⟨h0', h1', h2', hbA⟩
  have HRa : Hid (RInts wA.drew B (some ⟨b, off + 16 * k, none⟩) m) := Lib.hid HR1.out.drew
  have HRb : Hid (RInts (wA.alloc (.cells (nodeCells 0 0 0 0 none 0 0) 37)).drew B (some ⟨b, off + 16 * k, none⟩) m) := Lib.hid (HR1.out.alloc hBA _).drew
  clear h0 h1 h2 HR
  go_cut [7] (fun s7 wx => ∃ (g : Nat) (A' : Option Addr) (k' c' : Nat), s7 = .pointer (some ⟨g, 0, none⟩) ∧ Blk wx g 37 (nodeCells (levOf x0) (turnOf x0) x1 x2 A' k' c') ∧ (slotsOf m).length = k' ∧ k' ≤ c' ∧ c' ≤ maxLen ∧ RInts wx wx.heap.size A' (slotsOf m) ∧ Below wA.heap.size wA wx ∧ ∀ p, A' = some p → wA.heap.size ≤ p.block)
  case first =>
    go_region_held3 (fun w' => w'.cell? ⟨b, off + 16 * k, none⟩ = some (.int .i64 x0) ∧ w'.cell? ⟨b, off + 16 * k + 1, none⟩ = some (.int .i64 x1) ∧ w'.cell? ⟨b, off + 16 * k + 2, none⟩ = some (.int .i64 x2) ∧ b < w'.heap.size) (first | with_reducible exact hS0 | with_reducible exact keep3b (by assumption) (by assumption) | with_reducible exact keep3a _ (by assumption) | with_reducible exact hS1 | with_reducible exact keep3d hbA (by assumption) (by assumption) | with_reducible exact keep3e hneA (keep3e hneA (keep3e hneA (keep3e hneA (keep3e hneA (by assumption))))))
      (first | (go_at_call 58; refine (slots_any (some ⟨b, off + 16 * k, none⟩) (c - 16 * k) B m HM.out hcc (by omega) _ ?_).mono ?_; (first | with_reducible exact HRa.out | with_reducible exact HRb.out); rintro e w' ⟨v, rfl, ho, hb'⟩; obtain ⟨A1, c1, rfl, hkc, hcm, _, hr1⟩ := own_form ho; have HO := Lib.hid hr1; have HW := Lib.hid ho; have HF := Lib.hid (own_far ho); clear hr1 ho; obtain ⟨hcl', hfr'⟩ := bcell hb'; have hsz' := hb'.size))
    · go_wp2_with fail
      go_meet
      exact ⟨_, A1, _, c1, rfl, Blk.new _ _ _, rfl, hkc, hcm, (HO.out.alloc (Nat.le_refl _) _).more (by simp), ((Below.refl wA.heap.size wA).drew.trans hb').alloc hsz' _, HF.out⟩
    · have hZ : Blk w' wA.heap.size 37 (nodeCells 0 0 0 0 none 0 0) := ((Blk.new wA _ _).drew).below hb' (by simp)
      have hZ5 := ((((hZ.set_ 0 (.int .i64 (levOf x0))).set_ 1 (.int .i64 (turnOf x0))).set_ 2 (.int .i64 x1)).set_ 3 (.int .i64 x2)).set_ 4 (.slice A1 (slotsOf m).length c1)
      have hO5 := own_keep5 (g := wA.heap.size) (by simp) HW.out (.int .i64 (levOf x0)) (.int .i64 (turnOf x0)) (.int .i64 x1) (.int .i64 x2) (.slice A1 (slotsOf m).length c1)
      obtain ⟨A2, c2, hv2, _, _, _, hr2⟩ := own_form hO5
      cases hv2
      have hB5 := (((((((Below.refl wA.heap.size wA).alloc (Nat.le_refl _) (.cells (nodeCells 0 0 0 0 none 0 0) 37)).drew.trans (hb'.mono (by simp))).setCell (p := ⟨wA.heap.size, 0, none⟩) (Nat.le_refl _) (.int .i64 (levOf x0))).setCell (p := ⟨wA.heap.size, 1, none⟩) (Nat.le_refl _) (.int .i64 (turnOf x0))).setCell (p := ⟨wA.heap.size, 2, none⟩) (Nat.le_refl _) (.int .i64 x1)).setCell (p := ⟨wA.heap.size, 3, none⟩) (Nat.le_refl _) (.int .i64 x2)).setCell (p := ⟨wA.heap.size, 4, none⟩) (Nat.le_refl _) (.slice A1 (slotsOf m).length c1)
      have HZ5 := Lib.hid hZ5
      have HR5 := Lib.hid hr2
      have HB5 := Lib.hid hB5
      clear hZ5 hr2 hB5 hZ hO5
      go_wp2_with fail
      go_meet
      exact ⟨_, A1, _, c1, rfl, HZ5.out, rfl, hkc, hcm, HR5.out, HB5.out, fun p hp => Nat.le_of_succ_le (by simpa using HF.out p hp)⟩
  case rest =>
    obtain ⟨g, A', k', c', rfl, hg, hk', hkc', hcm', hr', hb2, hfar⟩ := hcut
    have HFar := Lib.hid hfar
    clear hfar
    have hwA : w.heap.size < wA.heap.size := hlt
    have hD2 := hD.below hb2 hlt
    have hbx := hb1.trans (hb2.mono (by omega))
    have HRm := Lib.hid (HR1.out.below hb2 hBA)
    have HRs := Lib.hid hr'
    have HK' := Lib.hid hk'
    have hkm : k' ≤ 9223372036854775807 := by simp only [maxLen] at hcm'; omega
    have HL := nodeLoad hg
    have hgl := hg.lt
    have hDl := hD2.lt
    have hBx : B ≤ wc.heap.size := by have := hb2.size; have : B ≤ wA.heap.size := hBA; omega
    clear hr' hk' hD hb1 HR1 h0' h1' h2' hbA hBA hneA hS0 hS1 HRa HRb hb2 hlt hg hcm'
    rcases hok : (NodeV.mk (levOf x0) (turnOf x0) x1 x2 (slotsOf m)).ok with _ | _
    · have HRes2 := Lib.hid (HRes.out.trans (by rw [hok]; rfl) : r = Except.error 90)
      have HC := Lib.hid (nodeWords_bad (levOf x0) (turnOf x0) x1 x2 A' k' c' wc.heap.size (slotsOf m) HK'.out hkm wc (Nat.le_refl _) HRs.out hok)
      clear hok HRes
      go_wp2_with (with_reducible refine wpList_load_r rfl _ _ rfl rfl HL ?_)
      refine HC.out.mono ?_
      rintro e w3 ⟨A3, n3, c3, rfl, hn3, _, _, hb3⟩
      have hD3 := hD2.below hb3 hDl
      have hbz := hbx.trans (hb3.mono hbx.size)
      have HS := nodeStore (lev' := 0) (turn' := 0) (next' := 0) (low' := 0) (A' := none) (n' := 0) (c' := 0) hD3
      have HL3 := nodeLoad (hD3.setRow (nodeCells 0 0 0 0 none 0 0))
      clear hn3 HL hb3 HC
      go_wp2_with (with_reducible refine wpList_store_r rfl _ _ _ rfl rfl rfl HS ?_)
      exact bodyPost_ret (results_cell1 rfl rfl HL3) rfl (by rw [HRes2.out]; exact ⟨rfl, below_setRow hbz (Nat.le_refl _) _⟩)
    · have HC := Lib.hid (nodeWords_ok (levOf x0) (turnOf x0) x1 x2 A' k' c' wc.heap.size (slotsOf m) HK'.out hkm wc (Nat.le_refl _) HRs.out hok)
      have hl13 : (slotsOf m).length ≤ 13 := by
        unfold NodeV.ok nodeOk at hok
        simp only [Bool.and_eq_true, decide_eq_true_eq] at hok
        exact hok.2.2.2.2.2.2.1
      have hl16 : (nodeWords (levOf x0) (turnOf x0) x1 x2 (slotsOf m)).length = 16 := by simp only [nodeWords, List.length_append, List.length_cons, List.length_nil, zeros_length]; omega
      have HL16 := Lib.hid hl16
      clear hl16 hl13
      rcases heq : ((NodeV.mk (levOf x0) (turnOf x0) x1 x2 (slotsOf m)).words == m) with _ | _
      · have HRes2 := Lib.hid (HRes.out.trans (by rw [hok, heq]; rfl) : r = Except.error 90)
        have HE : Hid ((nodeWords (levOf x0) (turnOf x0) x1 x2 (slotsOf m) == m) = false) := Lib.hid heq
        clear heq hok HRes
        go_wp2_with (with_reducible refine wpList_load_r rfl _ _ rfl rfl HL ?_)
        refine HC.out.mono ?_
        rintro e w3 ⟨A3, n3, c3, rfl, hn3, hnc3, hr3, hb3⟩
        have hn3b : n3 ≤ 16 := by have := HL16.out; omega
        have HN3 := Lib.hid hn3
        have HR3 := Lib.hid hr3
        have HRm3 := Lib.hid (HRm.out.below hb3 hBx)
        have hD3 := hD2.below hb3 hDl
        have hbz := hbx.trans (hb3.mono hbx.size)
        clear hn3 hr3 HL hb3 HC
        go_wp2_with fail
        refine (equal_any A3 _ n3 c3 16 _ _ B _ m HN3.out HM.out (by omega) (by omega) w3 HR3.out HRm3.out).mono ?_
        rw [HE.out]
        rintro e w4 ⟨rfl, q, rfl⟩
        have hD4 := hD3.drewN q
        have hbz4 := below_drewN' hbz q
        have HS := nodeStore (lev' := 0) (turn' := 0) (next' := 0) (low' := 0) (A' := none) (n' := 0) (c' := 0) hD4
        have HL3 := nodeLoad (hD4.setRow (nodeCells 0 0 0 0 none 0 0))
        generalize w3.drewN q = w4 at *
        go_wp2_with (with_reducible refine wpList_store_r rfl _ _ _ rfl rfl rfl HS ?_)
        exact bodyPost_ret (results_cell1 rfl rfl HL3) rfl (by rw [HRes2.out]; exact ⟨rfl, below_setRow hbz4 (Nat.le_refl _) _⟩)
      · have HRes2 := Lib.hid (HRes.out.trans (by rw [hok, heq]; rfl) : r = Except.ok (NodeV.mk (levOf x0) (turnOf x0) x1 x2 (slotsOf m)))
        have HE : Hid ((nodeWords (levOf x0) (turnOf x0) x1 x2 (slotsOf m) == m) = true) := Lib.hid heq
        have hg2 : Blk wc g 37 (nodeCells (levOf x0) (turnOf x0) x1 x2 A' k' c') := HL.hg
        clear heq hok HRes
        go_wp2_with (with_reducible refine wpList_load_r rfl _ _ rfl rfl HL ?_)
        refine HC.out.mono ?_
        rintro e w3 ⟨A3, n3, c3, rfl, hn3, hnc3, hr3, hb3⟩
        have hn3b : n3 ≤ 16 := by have := HL16.out; omega
        have HN3 := Lib.hid hn3
        have HR3 := Lib.hid hr3
        have HRm3 := Lib.hid (HRm.out.below hb3 hBx)
        have HRs3 := HRs.out.below hb3 (Nat.le_refl _)
        have hD3 := hD2.below hb3 hDl
        have hg3 := hg2.below hb3 hgl
        have hbz := hbx.trans (hb3.mono hbx.size)
        have hw3s := hb3.size
        clear hn3 hr3 HL hb3 HC hg2
        go_wp2_with fail
        refine (equal_any A3 _ n3 c3 16 _ _ B _ m HN3.out HM.out (by omega) (by omega) w3 HR3.out HRm3.out).mono ?_
        rw [HE.out]
        rintro e w4 ⟨rfl, q, rfl⟩
        have hD4 := hD3.drewN q
        have hbz4 := below_drewN' hbz q
        have HRs4 : RInts (w3.drewN q) wc.heap.size A' (slotsOf m) := HRs3
        have hw4s : wc.heap.size ≤ (w3.drewN q).heap.size := hw3s
        have HLg := nodeLoad (hg3.drewN q)
        generalize w3.drewN q = w4 at *
        have HS := nodeStore (lev' := levOf x0) (turn' := turnOf x0) (next' := x1) (low' := x2) (A' := A') (n' := k') (c' := c') hD4
        have HL3 := nodeLoad (hD4.setRow (nodeCells (levOf x0) (turnOf x0) x1 x2 A' k' c'))
        have hRfin : ∀ (cs : Array Value), RInts (w4.setRow w.heap.size cs) (w4.setRow w.heap.size cs).heap.size A' (slotsOf m) := by
          intro cs
          have : (w4.setRow w.heap.size cs).heap.size = w4.heap.size := by simp [World.setRow]
          rw [this]
          refine RInts.more (fun hne => ?_) hw4s
          obtain ⟨b', o', hA', hb', hc'⟩ := HRs4 hne
          have := HFar.out _ hA'
          exact ⟨b', o', hA', hb', fun i hi => by rw [← hc' i hi]; exact cell_setRow_other _ _ _ _ (by show b' ≠ w.heap.size; have h3 : wA.heap.size ≤ b' := this; omega)⟩
        have HRs5 := Lib.hid HRs4
        clear HRs3 HRs4
        go_wp2_with (first | (with_reducible refine wpList_load_r rfl _ _ rfl rfl HLg ?_) | (with_reducible refine wpList_store_r rfl _ _ _ rfl rfl rfl HS ?_))
        exact bodyPost_ret (results_cell1 rfl rfl HL3) rfl (by rw [HRes2.out]; exact ⟨A', k', c', rfl, HK'.out, hkc', hRfin _, below_setRow hbz4 (Nat.le_refl _) _, fun p hp => Nat.le_trans (Nat.le_of_lt hwA) (HFar.out p hp)⟩)

theorem nodeRead_any (A : Option Addr) (n c B : Nat) (at' : Int) (l : List Int) (hn : l.length = n) (hnc : n ≤ c) (hbig : c ≤ 9223372036854775807) (w : World) (hB : B ≤ w.heap.size) (hr : RInts w B A l) :
    Calls Try.prog 23 #[.slice A n c, .int .i64 at'] w (PostNode w (readNode l at')) := by
  by_cases h : at' < 0 ∨ ((n / 16 : Nat) : Int) ≤ at'
  · have e : readNode l at' = .error 1 := by unfold readNode; rw [hn, if_pos h]
    rw [e]
    exact nodeRead_out A n c at' (by omega) h w
  · obtain ⟨k, rfl⟩ : ∃ k : Nat, at' = (k : Int) := ⟨at'.toNat, by omega⟩
    exact nodeRead_in A n c B k l hn (by omega) hnc hbig w hB hr
end Go.Proofs.Ytkkaabagehjmbaa
