/-
  key.pieces, and the law for a range over an iterator that keeps its state in a captured variable's cell.
-/
import Derived.RangeFuncNested
import Derived.RangeFuncBound
import Derived.RangeFuncCalls
import Derived.RangeFuncLeaves
import Derived.Shelf.Abstract
import Derived.Shelf.RegionOpen
import Derived.WalkKit
import Derived.OwnWalkIn
import Derived.TacticsInMore
import Derived.LoopNIn
import Derived.LoopIn
import Derived.Maps.AppendAt
import Derived.Test.YtkkaabagehjmbaaNode4
set_option linter.unusedSimpArgs false
set_option linter.unusedVariables false
namespace Go.Proofs.Ytkkaabagehjmbaa
open Go.RowKit Go.Shelf

attribute [local go_sem] Oper.semAt_some

/-- How a body may end that never leaves the loop. -/
def cellPost {α : Type} (I : List α → World → Prop) (xs : List α) (p : Addr) (W : World) : Exit → Act → World → Prop
  | .normal, _, W' => KeepsOthers W W' ∧ I xs W' ∧ W'.cell? p = W.cell? p ∧ W'.frozen? p = W.frozen? p
  | _, _, _ => False

theorem putObj_cell {W : World} {r : Nat} (o : Obj) {p : Addr} (h : p.block ≠ r) : (W.putObj r o).cell? p = W.cell? p ∧ (W.putObj r o).frozen? p = W.frozen? p :=
  ⟨World.cell?_of_block (World.putObj_heap_other h), World.frozen?_of_block (World.putObj_heap_other h)⟩
theorem setCell_other (W : World) (p : Addr) (v : Value) {k : Nat} {o : Obj} (h : W.heap[k]? = some o) (ho : o.isCells = false) : (W.setCell p v).heap[k]? = some o := (KeepsOthers.setCell W p v).same k o h ho

theorem wpIn_rangeFunc_cell {F : Fence} {n : Nat} {P : Program} {α : Type} {g : Operand} {ps : Array Tmp} {assign body : Code} {Q : Exit → Act → World → Prop} {a : Act} {w : World}
    (hro : F.round = none) (hd : F.depth = none) {gf : Nat} {lb : Array Value} (hg : a.eval g = .func (.func gf) #[] lb) (hFg : F.fn gf) (eg : ∀ args w, (callFunc gf args).run P w = .ok (.enter gf args) w)
    {encs : α → Array Value} (hps : ∀ x, (encs x).size = ps.size) (xs : List α) (p : Addr) (hp : p.block < w.heap.size) (I : List α → World → Prop)
    (hIo : ∀ s A r o, w.heap.size ≤ r → I s A → A.heap[r]? = some o → o.isCells = false → ∀ o', I s (A.putObj r o')) (hIa : ∀ s A o, I s A → I s (A.alloc o)) (hIp : ∀ s A v, I s A → I s (A.setCell p v))
    (hseq : ∀ (l : Nat) (J : List α → World → Prop) (W : World), (∀ s A v, J s A → J s (A.setCell p v)) →
      (∀ pre x rest W1, xs = pre ++ x :: rest → J pre W1 → YieldAt F (n - 1 - 1) P l (encs x) W1 fun e W' => e = .returned (.bool true) ∧ J (pre ++ [x]) W' ∧ W'.cell? p = W1.cell? p ∧ W'.frozen? p = W1.frozen? p) →
      J [] W → W.cell? p = w.cell? p → W.frozen? p = w.frozen? p → CallsIn F (n - 1) P gf (#[.func (.yield l) #[] #[]] ++ lb) W fun e W' => (∃ v, e = .returned v) ∧ J xs W')
    (h0 : I [] w) (a₁ : α → Act)
    (hassign : ∀ (l : Nat) (x : α) (W : World) (K : Act → World → Prop), K (a₁ x) W →
      assign.wpIn (F.inRound l) (n - 1 - 1) P (Exit.then K (fun _ _ _ => False)) { tmps := (ps.zip (encs x)).foldl (fun t (p, v) => t.setIfInBounds p v) a.tmps, defers := [] } W)
    (hbody : ∀ (l : Nat) (pre : List α) (x : α) (rest : List α) (W : World), xs = pre ++ x :: rest → I pre W → body.wpIn (F.inRound l) (n - 1 - 1) P (cellPost I (pre ++ [x]) p W) (a₁ x) W)
    (hdone : ∀ (D : Nat) (W : World), w.heap.size ≤ D → I xs W → W.heap[D]? = some (.deferred (some [])) → Q .normal { a with defers := { target := .collected D, args := #[] } :: a.defers } W) :
    (Code.rangeFunc g ps assign body).wpIn F n P Q a w := by
  refine wpIn_rangeFunc fun fn hfn => ?_
  rw [hro]
  let R : LoopState → Option Code → Loop := fun st pe => { state := st, pending := pe, fn, tmps := a.tmps, params := ps, assign, body, defers := w.heap.size }
  obtain ⟨W1, hW1⟩ : ∃ W1, W1 = (w.alloc (.deferred (some []))).alloc (.loop (R .ready none)) := ⟨_, rfl⟩
  have hl1 : W1.heap[w.heap.size + 1]? = some (.loop (R .ready none)) := by
    rw [hW1]; have := World.alloc_heap_new (w.alloc (.deferred (some []))) (.loop (R .ready none)); rwa [World.size_alloc] at this
  have hk1 : W1.heap[w.heap.size]? = some (.deferred (some [])) := by
    rw [hW1]; exact (Below.heap_alloc _ _ _ (by simp)).trans (World.alloc_heap_new w _)
  have hb1 : Below w.heap.size w W1 := by rw [hW1]; exact ((Below.refl _ w).alloc (Nat.le_refl _) _).alloc (by simp) _
  have hi1 : I [] W1 := by rw [hW1]; exact hIa _ _ _ (hIa _ _ _ h0)
  refine ⟨w.heap.size + 1, [{ target := .collected w.heap.size, args := #[] }], W1, { target := .fn (.func gf) lb, args := #[.func (.yield (w.heap.size + 1)) #[] #[]] }, W1, gf,
    #[.func (.yield (w.heap.size + 1)) #[] #[]] ++ lb, W1, ?_, ?_, ?_, ?_, fun h => by rw [hd] at h; simp at h, ?_⟩
  · rw [hW1]; exact run_enterLoop_outer _ _ _ _ _
  · simp only [resolve, hg]; simp [go_sem]
  · intro f' hf'; simp [Target.leads] at hf'; subst hf'; exact hFg
  · simp [invoke, go_sem, eg]
  · refine (hseq (w.heap.size + 1) (fun pre W => I pre W ∧ W.heap[w.heap.size + 1]? = some (.loop (R .ready none)) ∧ W.heap[w.heap.size]? = some (.deferred (some []))) W1
      (fun s A v hs => ⟨hIp s A v hs.1, setCell_other _ _ _ hs.2.1 rfl, setCell_other _ _ _ hs.2.2 rfl⟩) ?_ ⟨hi1, hl1, hk1⟩ (hb1.cell hp) (World.frozen?_of_block (hb1.block _ hp))).mono ?_
    · rintro pre x rest W hx ⟨hi, hl, hk⟩
      have hlt : w.heap.size + 1 < W.heap.size := (Array.getElem?_eq_some_iff.1 hl).1
      refine ⟨fn, _, assign, body, run_yield hl (hps x), roundIn_of_wpIn hfn (hassign _ x W _ ⟨_, run_beginRound hl rfl, ?_⟩)⟩
      obtain ⟨W2, hW2⟩ : ∃ W2, W2 = W.putObj (w.heap.size + 1) (.loop { R .ready none with state := .busy }) := ⟨_, rfl⟩
      have hl2 : W2.heap[w.heap.size + 1]? = some (.loop { R .ready none with state := .busy }) := by rw [hW2]; exact World.putObj_heap_same hlt
      have hk2 : W2.heap[w.heap.size]? = some (.deferred (some [])) := by rw [hW2]; exact (World.putObj_heap_other (by omega)).trans hk
      have hp2 : W2.cell? p = W.cell? p ∧ W2.frozen? p = W.frozen? p := by rw [hW2]; exact putObj_cell _ (by omega)
      have hi2 : I pre W2 := by rw [hW2]; exact hIo _ _ _ _ (by omega) hi hl rfl _
      have := hbody (w.heap.size + 1) pre x rest W2 hx hi2
      rw [hW2] at this
      refine wpIn_mono this ?_
      rw [← hW2]
      rintro e a3 W3 hq
      cases e with
      | normal =>
        obtain ⟨hk3, hi3, hc3, hf3⟩ := hq
        have hl3 := hk3.same _ _ hl2 rfl
        have hk3' := hk3.same _ _ hk2 rfl
        have hp3 : (W3.putObj (w.heap.size + 1) (.loop (R .ready none))).cell? p = W3.cell? p ∧ (W3.putObj (w.heap.size + 1) (.loop (R .ready none))).frozen? p = W3.frozen? p := putObj_cell _ (by omega)
        exact ⟨_, _, run_endRound none hl3, rfl, ⟨hIo _ _ _ _ (by omega) hi3 hl3 rfl _, World.putObj_heap_same (Array.getElem?_eq_some_iff.1 hl3).1, (World.putObj_heap_other (by omega)).trans hk3'⟩,
          hp3.1.trans (hc3.trans hp2.1), hp3.2.trans (hf3.trans hp2.2)⟩
      | ret => exact hq.elim
      | exit id => exact hq.elim
      | goto t => exact hq.elim
      | panic ch => exact hq.elim
      | outgrown => exact hq.elim
    · rintro e W2 ⟨⟨v, rfl⟩, hi, hl, hk⟩
      exact ⟨none, _, run_endLoop hl (by simp [R]), hdone _ _ (Nat.le_refl _) (hIo _ _ _ _ (by omega) hi hl rfl _) ((World.putObj_heap_other (by omega)).trans hk)⟩

/-- A text's pieces. -/
def piecesOf (s : ByteArray) : List ByteArray :=
  if h : s.size = 0 then [] else s.extract 0 (min 7 s.size) :: piecesOf (s.extract (min 7 s.size) s.size)
termination_by s.size
decreasing_by simp; omega

/-- What a world's cell's text has of bytes. -/
def textLeft (p : Addr) (w : World) : Nat := match w.cell? p with | some (.string b) => b.size | _ => 0

set_option maxRecDepth 100000 in
theorem pieces1_gives (l Bs m : Nat) (s : ByteArray) (J : List ByteArray → World → Prop) (W : World) (hJ : ∀ s A v, J s A → J s (A.setCell ⟨Bs, 0, none⟩ v))
    (hY : ∀ pre x rest W1, piecesOf s = pre ++ x :: rest → J pre W1 → YieldAt Fence.wide (m - 1) Try.prog l #[.string x] W1 fun e W' => e = .returned (.bool true) ∧ J (pre ++ [x]) W' ∧ W'.cell? ⟨Bs, 0, none⟩ = W1.cell? ⟨Bs, 0, none⟩ ∧ W'.frozen? ⟨Bs, 0, none⟩ = W1.frozen? ⟨Bs, 0, none⟩)
    (h0 : J [] W) (hc : W.cell? ⟨Bs, 0, none⟩ = some (.string s)) (hf : W.frozen? ⟨Bs, 0, none⟩ = false) (hbig : s.size ≤ 9223372036854775807) :
    CallsIn Fence.wide m Try.prog 145 #[.func (.yield l) #[] #[], .pointer (some ⟨Bs, 0, none⟩)] W fun e W' => (∃ v, e = .returned v) ∧ J (piecesOf s) W' := by
  refine callsIn_of_wp Try.func145 rfl trivial ?_ rfl
  simp only [Try.ntmps145, List.size_toArray, List.length_cons, List.length_nil, Nat.reduceAdd, Nat.reduceSub, Array.replicate_succ, Array.replicate_zero, List.push_toArray, List.append_toArray, List.nil_append, List.cons_append]
  gi_wp2
  gi_loopw [3] (fun (_ : Value) wr => ∃ (pre : List ByteArray) (cur : ByteArray), piecesOf s = pre ++ piecesOf cur ∧ cur.size ≤ s.size ∧ wr.cell? ⟨Bs, 0, none⟩ = some (.string cur) ∧ wr.frozen? ⟨Bs, 0, none⟩ = false ∧ J pre wr)
    (fun _ wr => textLeft ⟨Bs, 0, none⟩ wr)
  case atStart => exact ⟨[], s, rfl, Nat.le_refl _, hc, hf, h0⟩
  case round =>
    obtain ⟨pre, cur, hx, hsz, hcr, hfr, hJs⟩ := hrel
    by_cases hz : cur.size = 0
    · have hx' : piecesOf s = pre := by rw [hx, piecesOf, dif_pos hz]; simp
      gi_wp2
      go_end0
      exact ⟨⟨_, rfl⟩, by rw [hx']; exact hJs⟩
    · have hx' : piecesOf s = pre ++ cur.extract 0 (min 7 cur.size) :: piecesOf (cur.extract (min 7 cur.size) cur.size) := by rw [hx]; conv => lhs; rw [piecesOf, dif_neg hz]
      have hmin : min 7 cur.size = (min 7 (cur.size : Int)).toNat := by omega
      rw [hmin] at hx'
      have h0min : 0 ≤ min 7 (cur.size : Int) := by omega
      have h1min : min 7 (cur.size : Int) ≤ cur.size := by omega
      obtain ⟨fn, tmps, assign, body, hy, hR⟩ := hY pre _ _ wr hx' hJs
      gi_wp2
      refine ⟨fun h => by simp [Fence.wide] at h, hR.mono ?_⟩
      rintro e W3 ⟨rfl, hJ3, hc3, hf3⟩
      have hc4 := hc3.trans hcr
      have hf4 := hf3.trans hfr
      gi_wp2
      go_roundw
      case rel =>
        refine ⟨_, _, by rw [hx']; simp, ?_, World.cell?_setCell_same' _ _ _ (by rw [hc4]; rfl), by rw [World.frozen?_setCell]; exact hf4, hJ _ _ _ hJ3⟩
        simp; omega
      case measure =>
        unfold textLeft
        rw [World.cell?_setCell_same' _ _ _ (by rw [hc4]; rfl), hcr]
        simp; omega
end Go.Proofs.Ytkkaabagehjmbaa
