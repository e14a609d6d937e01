/-
  rec.summed, rec.of.
-/
import Derived.Test.YtkkaabagehjmbaaRec
import Derived.Test.YtkkaabagehjmbaaSumTable
set_option linter.unusedSimpArgs false
set_option linter.unusedVariables false
namespace Go.Proofs.Ytkkaabagehjmbaa
open Go.RowKit Go.Shelf Crc
attribute [local go_sem ↓] Go.wp_at_zero Go.wp_at_succ

def sumAt (m : List Int) : List Int := m.set 2 (crcOf (m.take 2 ++ m.drop 3))

theorem formSize : (Try.prog.info? 103).map (·.size) = some 16 := by kernel_rfl
theorem formArray : IsRowType Try.prog 103 := isArray Try.underlying103
theorem formLoad {w : World} {g : Nat} {m : List Int} (hm : m.length = 16) (h : Blk w g 103 (intRow m).toArray) : LoadRow Try.prog w g 103 103 (intRow m).toArray :=
  ⟨h, by rw [formSize]; simp [intRow, hm], formArray⟩
theorem formStore {w : World} {g : Nat} {m m' : List Int} (hm : m.length = 16) (hm' : m'.length = 16) (h : Blk w g 103 (intRow m).toArray) : StoreRow Try.prog w g 103 103 (intRow m).toArray (intRow m').toArray :=
  ⟨h, by rw [formSize]; simp [intRow, hm'], by simp [intRow, hm, hm'], by simp [intRow, Value.oneCell']⟩

set_option maxRecDepth 100000 in
theorem summed_any (m : List Int) (hm : m.length = 16) (w : World) :
    Calls Try.prog 105 #[.agg (intRow m).toArray] w fun e w' => e = .returned (.agg (intRow (sumAt m)).toArray) ∧ Below w.heap.size w w' := by
  obtain ⟨i0, hi, hz0, hz1, hz2⟩ := info_parts (show (Try.prog.info? 3).map (fun i => (i.zero, i.size, i.bytes)) = some (some (.int .i64 0), 1, 8) by kernel_rfl)
  go_enter Try.func105, Try.ntmps105
  go_wp2_with fail
  rw [show (Obj.cells #[.int .i64 0, .int .i64 0, .int .i64 0, .int .i64 0, .int .i64 0, .int .i64 0, .int .i64 0, .int .i64 0, .int .i64 0, .int .i64 0, .int .i64 0, .int .i64 0, .int .i64 0, .int .i64 0, .int .i64 0, .int .i64 0] 103) = .cells (intRow (zeros 16)).toArray 103 from rfl]
  have hA := Blk.new w 103 (intRow m).toArray
  have hB := Blk.new (w.alloc (.cells (intRow m).toArray 103)) 103 (intRow (zeros 16)).toArray
  have hA := hA.alloc (.cells (intRow (zeros 16)).toArray 103)
  have hb0 : Below w.heap.size w ((w.alloc (.cells (intRow m).toArray 103)).alloc (.cells (intRow (zeros 16)).toArray 103)) := ((Below.refl _ w).alloc (Nat.le_refl _) _).alloc (by simp) _
  rw [World.size_alloc] at hB
  generalize (w.alloc (.cells (intRow m).toArray 103)).alloc (.cells (intRow (zeros 16)).toArray 103) = W at *
  obtain ⟨x0, hx0⟩ : ∃ x, x = m[0]?.getD 0 := ⟨_, rfl⟩
  obtain ⟨x1, hx1⟩ : ∃ x, x = m[1]?.getD 0 := ⟨_, rfl⟩
  have c0 : W.cell? ⟨w.heap.size, 0, none⟩ = some (.int .i64 x0) := by rw [hA.cell, hx0]; simpa using intRow_get m 0 (by omega)
  have c1 : W.cell? ⟨w.heap.size, 1, none⟩ = some (.int .i64 x1) := by rw [hA.cell, hx1]; simpa using intRow_get m 1 (by omega)
  have HX0 := Lib.hid hx0
  have HX1 := Lib.hid hx1
  clear hx0 hx1
  have hlt := hA.lt
  have hltB := hB.lt
  have hown : (W.alloc (.cells #[.int .i64 x0, .int .i64 x1] 3)).drew.ownsRow (w.heap.size + 2) 3 1 (.slice (some ⟨W.heap.size, 0, none⟩) 2 2) 2 [.int .i64 x0, .int .i64 x1] := by
    refine ⟨rfl, .inr ⟨W.heap.size, 2, #[.int .i64 x0, .int .i64 x1], rfl, by omega, ?_, by omega, by unfold maxLen; omega, rfl, rfl⟩⟩
    exact heap_alloc_new W _
  have hnews : ∀ j u, (intRow (m.drop 3))[j]? = some u → (W.alloc (.cells #[.int .i64 x0, .int .i64 x1] 3)).drew.cell? ((⟨w.heap.size, 3, none⟩ : Addr).add j) = some u := fun j u hu => by
    rw [add_lit, ((hA.alloc _).drew).cell]
    simpa [intRow] using hu
  go_region_held3 (fun w' => w'.cell? ⟨w.heap.size, 0, none⟩ = some (.int .i64 x0) ∧ w'.cell? ⟨w.heap.size, 1, none⟩ = some (.int .i64 x1)) (first | go_keep | exact ⟨by assumption, by assumption⟩)
    ((refine step_append_lies _ (by rfl) _ _ _ (by rfl) (w.heap.size + 2) 3 i0 (.int .i64 0) 1 8 Try.underlying23 hi hz0 hz1 hz2 rfl (by omega) _ 2 _ (by rfl) hown ⟨w.heap.size, 3, none⟩ 13 13 (intRow (m.drop 3)) (by rfl) (by simp [intRow, hm]) hnews (intRow_cells _) (by omega) (by unfold maxLen; omega) (by omega) (by simp; omega) _ rfl ?_; intro g cap w1 hown1 hgrow hat hlt1; have hbd : Below W.heap.size W w1 := (((Below.refl W.heap.size W).alloc (Nat.le_refl _) _).drew).grown hgrow (by simp) (fun k e => by simp [Value.ownBlock] at e; omega); have d0 := (hbd.cell (p := ⟨w.heap.size, 0, none⟩) hlt).trans c0; have d1 := (hbd.cell (p := ⟨w.heap.size, 1, none⟩) hlt).trans c1))
  have hA1 := hA.below hbd hlt
  have hB1 := hB.below hbd hltB
  have hb1 := hb0.trans (hbd.mono hb0.size)
  have hl1 := hA1.lt
  have hrow : ([.int .i64 x0, .int .i64 x1] ++ intRow (m.drop 3) : List Value) = intRow (m.take 2 ++ m.drop 3) := by
    rw [HX0.out, HX1.out]
    obtain _ | ⟨a, _ | ⟨b, t⟩⟩ := m
    · simp at hm
    · simp at hm
    · rfl
  rw [hrow] at hown1
  obtain ⟨A', c', hv', hnc', _, hl', hr1⟩ := own_form hown1
  cases hv'
  have HC := Lib.hid (of_any (some ⟨g, 0, none⟩) 15 cap w1.heap.size (m.take 2 ++ m.drop 3) hl' (by omega) w1 (Nat.le_refl _) hr1)
  have hsum : m.set 2 (crcOf (m.take 2 ++ m.drop 3)) = sumAt m := rfl
  clear hrow hown1 hr1 hown hnews hgrow hl' c0 c1
  generalize crcOf (m.take 2 ++ m.drop 3) = q at *
  go_wp2_with fail
  refine HC.out.mono ?_
  rintro e w2 ⟨rfl, hbx⟩
  have hA2 := hA1.below hbx hl1
  have hl2 := hB1.lt
  have hB2 := hB1.below hbx hl2
  have hb2 := hb1.trans (hbx.mono hb1.size)
  have hA3 := hA2.set_ 2 (.int .i64 q)
  have e3 : (intRow m).toArray.setIfInBounds 2 (.int .i64 q) = (intRow (sumAt m)).toArray := by rw [← hsum]; simp [intRow, List.map_set]
  rw [e3] at hA3
  have hls : (sumAt m).length = 16 := by rw [← hsum]; simp [hm]
  have HL := formLoad hls hA3
  have hB3 := hB2.far (p := ⟨w.heap.size, 2, none⟩) (by simp) (.int .i64 q)
  have HS := formStore (m' := sumAt m) (zeros_length 16) hls hB3
  have HR := formLoad hls (hB3.setRow (intRow (sumAt m)).toArray)
  have hb3 := hb2.setCell (p := ⟨w.heap.size, 2, none⟩) (Nat.le_refl _) (.int .i64 q)
  have f2 := hA2.frozen 2
  have k2 : w2.cell? ⟨w.heap.size, 2, none⟩ = some (.int .i64 (m[2]?.getD 0)) := by rw [hA2.cell]; simpa using intRow_get m 2 (by omega)
  generalize m[2]?.getD 0 = x2 at *
  clear hA hB hA1 hB1 hA2 hB2 hbx hb1 hb0 hbd HC e3
  go_wp2_with (first | (with_reducible refine wpList_load_r rfl _ _ rfl rfl HL ?_) | (with_reducible refine wpList_store_r rfl _ _ _ rfl rfl rfl HS ?_))
  exact bodyPost_ret (results_r rfl rfl HR) rfl ⟨rfl, below_setRow hb3 (by omega) _⟩
end Go.Proofs.Ytkkaabagehjmbaa
