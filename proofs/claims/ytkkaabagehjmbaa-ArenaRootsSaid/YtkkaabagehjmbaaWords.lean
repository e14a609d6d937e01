/-
  key.Words.
-/
import Derived.Test.YtkkaabagehjmbaaPieces
set_option linter.unusedSimpArgs false
set_option linter.unusedVariables false
namespace Go.Proofs.Ytkkaabagehjmbaa
open Go.RowKit Go.Shelf

attribute [local go_sem] Oper.semAt_some

theorem pieces_any (m : Nat) (s : ByteArray) (w : World) :
    CallsIn Fence.wide m Try.prog 128 #[.string s] w fun e w' => e = .returned (.func (.func 145) #[] #[.pointer (some ⟨w.heap.size, 0, none⟩)]) ∧ w' = w.alloc (.cells #[.string s] 9) := by
  refine callsIn_of_wp Try.func128 rfl trivial ?_ rfl
  simp only [Try.ntmps128, List.size_toArray, List.length_cons, List.length_nil, Nat.reduceAdd, Nat.reduceSub, Array.replicate_succ, Array.replicate_zero, List.push_toArray, List.append_toArray, List.nil_append, List.cons_append]
  gi_wp2
  go_ret
  exact ⟨rfl, rfl⟩

theorem pieces_facts (n : Nat) : ∀ s : ByteArray, s.size = n → (∀ x ∈ piecesOf s, x.size ≤ 7) ∧ (piecesOf s).length = (s.size + 6) / 7 := by
  induction n using Nat.strongRecOn with
  | ind n ih =>
    intro s hs
    by_cases hz : s.size = 0
    · rw [piecesOf, dif_pos hz]; exact ⟨by simp, by simp [hz]⟩
    · have hlt : (s.extract (min 7 s.size) s.size).size < n := by simp; omega
      obtain ⟨h1, h2⟩ := ih _ hlt _ rfl
      rw [piecesOf, dif_neg hz]
      constructor
      · intro x hx
        rcases List.mem_cons.1 hx with rfl | hx
        · simp; omega
        · exact h1 x hx
      · rw [List.length_cons, h2]; simp; omega

def byteAt (x : ByteArray) (k : Nat) : Int := if h : k < x.size then (x[k].toNat : Int) else 0
/-- A piece's word, of its first k bytes. -/
def wordUp (x : ByteArray) : Nat → Int
  | 0 => 0
  | k + 1 => bits .or .i64 (wordUp x k) (wrap64 (wrap64 (byteAt x k) * 2 ^ (8 * (6 - k))))
def wordB (x : ByteArray) : Int := wordUp x x.size
def keyWords (s : ByteArray) : List Int := (piecesOf s).map wordB

set_option maxRecDepth 100000 in
set_option maxHeartbeats 1000000 in
theorem words_in (m : Nat) (s : ByteArray) (hs : s.size ≤ 21) (w : World) :
    CallsIn Fence.wide m Try.prog 104 #[.string s] w fun e W' => ∃ v, e = .returned v ∧ W'.ownsRow w.heap.size 3 1 v (keyWords s).length (intRow (keyWords s)) ∧ Below w.heap.size w W' := by
  obtain ⟨hp7, hpl⟩ := pieces_facts _ s rfl
  have hp3 : (piecesOf s).length ≤ 3 := by omega
  obtain ⟨i0, hi, hz0, hz1, hz2⟩ := info_parts (show (Try.prog.info? 3).map (fun i => (i.zero, i.size, i.bytes)) = some (some (.int .i64 0), 1, 8) by kernel_rfl)
  refine callsIn_of_wp_marks Try.func104 rfl trivial ?_ rfl
  simp only [Try.ntmps104, List.size_toArray, List.length_cons, List.length_nil, Nat.reduceAdd, Nat.reduceSub, Array.replicate_succ, Array.replicate_zero, List.push_toArray, List.append_toArray, List.nil_append, List.cons_append]
  gi_wp2
  refine ⟨trivial, fun h => by simp [Fence.wide] at h, (pieces_any _ _ _).mono ?_⟩
  rintro e w' ⟨rfl, rfl⟩
  gi_wp2
  have bO := Boxed.new w 23 (.slice none 0 0)
  have bN := Boxed.new (w.alloc (.cells #[.slice none 0 0] 23)) 9 (.string s)
  rw [World.size_alloc] at bN
  have hB0 : Below w.heap.size w ((w.alloc (.cells #[.slice none 0 0] 23)).alloc (.cells #[.string s] 9)) := ((Below.refl _ w).alloc (Nat.le_refl _) _).alloc (by simp) _
  refine wpIn_rangeFunc_cell (F := Fence.wide) (n := m) (P := Try.prog) rfl rfl (gf := 145) (lb := #[.pointer (some ⟨w.heap.size + 1, 0, none⟩)]) ?hg trivial (enters_of Try.func145 (by kernel_rfl) rfl)
    (encs := fun x : ByteArray => #[.string x]) ?hps (piecesOf s) ⟨w.heap.size + 1, 0, none⟩ ?hlt
    (fun pre W => (∃ v, Boxed W w.heap.size 23 v ∧ W.ownsRow w.heap.size 3 1 v pre.length (intRow (pre.map wordB)) ∧ ∃ u, Boxed W (w.heap.size + 1) 9 u) ∧ Below w.heap.size w W)
    ?ho ?ha ?hp ?seq ?h0
    (fun x => { tmps := #[.string s, undef, .pointer (some ⟨w.heap.size, 0, none⟩), .string x, undef, undef, .string s, .func (.func 145) #[] #[.pointer (some ⟨w.heap.size + 1, 0, none⟩)], .string x, undef, undef, undef, undef, undef, undef, undef, undef, undef, undef, undef, undef, undef, undef, undef, undef, undef, undef, undef, undef, undef], defers := [] }) ?assign ?body ?done
  case hg => rfl
  case hps => exact fun _ => rfl
  case hlt => simp
  case ho =>
    rintro pre A r o hr ⟨⟨v, h1, h2, u, h3⟩, h4⟩ hAr ho o'
    simp at hr
    have hno : ∀ (B : Nat) (t : TypeId) (u : Value), Boxed A B t u → B ≠ r := fun B t u hb e => by subst e; rw [show A.heap[B]? = _ from hb] at hAr; cases hAr; cases ho
    exact ⟨⟨v, (World.putObj_heap_other (hno _ _ _ h1)).trans h1, ownsRow_putObj h2 o' hAr ho, u, (World.putObj_heap_other (hno _ _ _ h3)).trans h3⟩, h4.trans ⟨rfl, rfl, rfl, by simp, fun k hk => World.putObj_heap_other (by omega)⟩⟩
  case ha =>
    rintro pre A o ⟨⟨v, h1, h2, u, h3⟩, h4⟩
    exact ⟨⟨v, h1.alloc _, h2.alloc _, u, h3.alloc _⟩, h4.alloc h4.size _⟩
  case hp =>
    rintro pre A q ⟨⟨v, h1, h2, u, h3⟩, h4⟩
    exact ⟨⟨v, h1.other (by omega) _, h2.kept (grownBy_setCell' A _ _) (.inr (h3.not_row (by decide) h2).symm), _, h3.set q⟩, h4.setCell (p := ⟨w.heap.size + 1, 0, none⟩) (Nat.le_succ _) _⟩
  case h0 => exact ⟨⟨_, bO.alloc _, World.ownsRow_nil _ _ _ _, _, bN⟩, hB0⟩
  case seq =>
    intro l J W hJ hY h0 hc hf
    exact (pieces1_gives l (w.heap.size + 1) _ s J W hJ hY h0 (hc.trans bN.cell) (hf.trans bN.frozen) (by omega)).mono (fun _ _ h => h)
  case assign =>
    intro l x W K hK
    gi_wp2
    exact hK
  case body =>
    rintro l pre x rest W hx ⟨⟨v, hv, hrow, u, hbs⟩, hB⟩
    have hx7 : x.size ≤ 7 := hp7 x (by rw [hx]; simp)
    have hpl3 : pre.length < 3 := by rw [hx] at hp3; simp at hp3; omega
    have hc := hv.cell
    have hf := hv.frozen
    have hmax : pre.length + 1 ≤ maxLen := by simp [maxLen]; omega
    gi_wp2
    gi_loopw [4, 11] (fun p q wr => ∃ k : Nat, k ≤ x.size ∧ p = .int .i64 (wordUp x k) ∧ q = .int .i64 (k : Int) ∧ wr = W)
      (fun _ q _ => x.size - (intOf q).toNat)
    case atStart => exact ⟨0, Nat.zero_le _, rfl, rfl, rfl⟩
    case round =>
      obtain ⟨k, hk, rfl, rfl, rfl⟩ := hrel
      by_cases hlt : k < x.size
      · gi_wp2
        go_roundw
        case rel => exact ⟨k + 1, by omega, by simp [wordUp, byteAt, hlt], by simp, trivial⟩
        case measure => simp [intOf]; omega
      · obtain rfl : k = x.size := by omega
        have hwb : wordUp x x.size = wordB x := rfl
        rw [hwb]
        gi_wp2_with (gi_at_builtin; refine wpListIn_append_own _ rfl _ _ 23 rfl w.heap.size 3 i0 (.int .i64 0) 1 8 Try.underlying23 hi hz0 hz1 hz2 rfl (by decide) _ _ _ rfl (hrow.alloc _) ⟨wr.heap.size, 0, none⟩ 1 1 [.int .i64 (wordB x)] rfl rfl (cell_one_new _ _ _) (by simp [Value.oneCell']) (by omega) (by omega) (by have := hB.size; simp; omega) ?_; intro v' w1 hown' hgrow _; obtain ⟨g', cap', rfl⟩ := ownsRow_succ hown'; have hbs1 := (hbs.alloc _).kept hgrow ((hbs.alloc (.cells #[.int .i64 (wordB x)] 3)).not_row (by decide) (hrow.alloc _)); obtain ⟨hv1, hv2, hr2, hk2, hb2⟩ := hv.appended (by decide) hrow hB.size (Nat.le_refl _) hown' hgrow; have hc1 := hv1.cell; have hf1 := hv1.frozen)
        exact ⟨hk2, ⟨⟨_, hv2, by simpa [intRow] using hr2, u, hbs1.other (by omega) _⟩, hB.trans hb2⟩, ((hbs1.other (by omega) _).cell).trans hbs.cell.symm, ((hbs1.other (by omega) _).frozen).trans hbs.frozen.symm⟩
  case done =>
    rintro D W hD ⟨⟨v, hv, hrow, u, hbs⟩, hB⟩ hK
    have hc := hv.cell
    have hf := hv.frozen
    have hrow' := hrow
    clear hpl hp3
    rcases hrow'.2 with ⟨rfl, _⟩ | ⟨g, cap, cur, rfl, _⟩
    · gi_wp2
      have hK2 := setCell_other W ⟨w.heap.size, 0, none⟩ (.slice none 0 0) hK rfl
      refine ⟨by simp, .inl ⟨_, _, rfl, run_takeDeferred (setCell_other W ⟨w.heap.size, 0, none⟩ _ hK rfl), ?_⟩⟩
      have hne : w.heap.size ≠ D := by simp at hD; omega
      have hv2 := hv.set (.slice none 0 0)
      have hv3 : Boxed ((W.setCell ⟨w.heap.size, 0, none⟩ (.slice none 0 0)).putObj D (.deferred none)) w.heap.size 23 (.slice none 0 0) := (World.putObj_heap_other hne).trans hv2
      have hc3 := hv3.cell
      have hr3 := ownsRow_putObj (hrow.kept (grownBy_setCell' W _ (.slice none 0 0)) (.inr (hv.not_row (by decide) hrow).symm)) (.deferred none) hK2 rfl
      have hB3 : Below w.heap.size w ((W.setCell ⟨w.heap.size, 0, none⟩ (.slice none 0 0)).putObj D (.deferred none)) :=
        (hB.setCell (p := ⟨w.heap.size, 0, none⟩) (Nat.le_refl _) (.slice none 0 0)).trans ⟨rfl, rfl, rfl, by simp, fun k hk => World.putObj_heap_other (by simp at hD; omega)⟩
      refine ⟨(.slice none 0 0), ?_, (.slice none 0 0), rfl, by simpa [keyWords] using hr3, hB3⟩
      simp [Try.func104, results, asAddr, go_sem, hc3]
    · gi_wp2
      have hK2 := setCell_other W ⟨w.heap.size, 0, none⟩ (.slice (some ⟨g, 0, none⟩) (piecesOf s).length cap) hK rfl
      refine ⟨by simp, .inl ⟨_, _, rfl, run_takeDeferred (setCell_other W ⟨w.heap.size, 0, none⟩ _ hK rfl), ?_⟩⟩
      have hne : w.heap.size ≠ D := by simp at hD; omega
      have hv2 := hv.set (.slice (some ⟨g, 0, none⟩) (piecesOf s).length cap)
      have hv3 : Boxed ((W.setCell ⟨w.heap.size, 0, none⟩ (.slice (some ⟨g, 0, none⟩) (piecesOf s).length cap)).putObj D (.deferred none)) w.heap.size 23 (.slice (some ⟨g, 0, none⟩) (piecesOf s).length cap) := (World.putObj_heap_other hne).trans hv2
      have hc3 := hv3.cell
      have hr3 := ownsRow_putObj (hrow.kept (grownBy_setCell' W _ (.slice (some ⟨g, 0, none⟩) (piecesOf s).length cap)) (.inr (hv.not_row (by decide) hrow).symm)) (.deferred none) hK2 rfl
      have hB3 : Below w.heap.size w ((W.setCell ⟨w.heap.size, 0, none⟩ (.slice (some ⟨g, 0, none⟩) (piecesOf s).length cap)).putObj D (.deferred none)) :=
        (hB.setCell (p := ⟨w.heap.size, 0, none⟩) (Nat.le_refl _) (.slice (some ⟨g, 0, none⟩) (piecesOf s).length cap)).trans ⟨rfl, rfl, rfl, by simp, fun k hk => World.putObj_heap_other (by simp at hD; omega)⟩
      refine ⟨(.slice (some ⟨g, 0, none⟩) (piecesOf s).length cap), ?_, (.slice (some ⟨g, 0, none⟩) (piecesOf s).length cap), rfl, by simpa [keyWords] using hr3, hB3⟩
      simp [Try.func104, results, asAddr, go_sem, hc3]

/-- **key.Words.** -/
theorem keyWords_any (s : ByteArray) (hs : s.size ≤ 21) (w : World) :
    Calls Try.prog 104 #[.string s] w fun e W' => ∃ v, e = .returned v ∧ W'.ownsRow w.heap.size 3 1 v (keyWords s).length (intRow (keyWords s)) ∧ Below w.heap.size w W' :=
  callsIn_wide.1 (words_in 0 s hs w)
theorem keyWords_length (s : ByteArray) : (keyWords s).length = (s.size + 6) / 7 := by
  rw [keyWords, List.length_map, (pieces_facts _ s rfl).2]
end Go.Proofs.Ytkkaabagehjmbaa
