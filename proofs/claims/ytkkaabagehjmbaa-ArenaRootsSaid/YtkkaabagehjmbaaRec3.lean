/-
  rec.of.
-/
import Derived.Test.YtkkaabagehjmbaaRec2
import Derived.Deep.DeepCutAuto
set_option linter.unusedSimpArgs false
set_option linter.unusedVariables false
namespace Go.Proofs.Ytkkaabagehjmbaa
open Go.RowKit Go.Shelf Crc
attribute [local go_sem ↓] Go.wp_at_zero Go.wp_at_succ

def head2 (kind : Int) (key val : ByteArray) : List Int := kind :: (32 * (key.size : Int) + (val.size : Int)) :: zeros 14
/-- Words laid over others. -/
def over (m : List Int) (o : Nat) (l : List Int) : List Int := m.take o ++ l ++ m.drop (o + l.length)
theorem over_length (m : List Int) (o : Nat) (l : List Int) (h : o + l.length ≤ m.length) : (over m o l).length = m.length := by
  unfold over; simp; omega
def recBase (kind : Int) (key val : ByteArray) (child : Int) : List Int :=
  if kind = 2 then (over (over (head2 kind key val) 3 (keyWords key)) 6 (keyWords val)).set 6 child else over (over (head2 kind key val) 3 (keyWords key)) 6 (keyWords val)
theorem splice_over (m l : List Int) (o : Nat) : splice (intRow m) o (intRow l) = intRow (over m o l) := by
  unfold splice over intRow
  simp [List.map_drop, List.map_take]
/-- rec.of. -/
def recForm (kind : Int) (key val : ByteArray) (child : Int) : List Int := sumAt (recBase kind key val child)
theorem recCells_load {w : World} {g : Nat} {kind child : Int} {key val : ByteArray} (h : Blk w g 59 (recCells kind key val child)) :
    LoadRow Try.prog w g 59 59 (recCells kind key val child) :=
  ⟨h, by rw [show (Try.prog.info? 59).map (·.size) = some 4 by kernel_rfl]; rfl, isStruct Try.underlying59⟩

set_option maxHeartbeats 2000000 in
set_option maxRecDepth 100000 in
theorem recOf_any (kind : Int) (key val : ByteArray) (child : Int) (hk : key.size ≤ 21) (hv : val.size ≤ 21) (w : World) :
    Calls Try.prog 75 #[.agg (recCells kind key val child)] w fun e w' => e = .returned (.agg (intRow (recForm kind key val child)).toArray) ∧ Below w.heap.size w w' := by
  have hnew := Blk.new w 59 (recCells kind key val child)
  obtain ⟨W0, hW0⟩ : ∃ W0, W0 = (w.alloc (.cells (recCells kind key val child) 59)).alloc (.cells #[.int .i64 0, .int .i64 0, .int .i64 0, .int .i64 0, .int .i64 0, .int .i64 0, .int .i64 0, .int .i64 0, .int .i64 0, .int .i64 0, .int .i64 0, .int .i64 0, .int .i64 0, .int .i64 0, .int .i64 0, .int .i64 0] 103) := ⟨_, rfl⟩
  have hA : Blk W0 w.heap.size 59 (recCells kind key val child) := by rw [hW0]; exact hnew.alloc _
  have hB : Blk W0 (w.heap.size + 1) 103 (intRow (zeros 16)).toArray := by
    rw [hW0]; have := Blk.new (w.alloc (.cells (recCells kind key val child) 59)) 103 (intRow (zeros 16)).toArray; rw [World.size_alloc] at this; exact this
  have c0 : W0.cell? ⟨w.heap.size, 0, none⟩ = some (.int .i64 kind) := hA.cell 0
  have c1 : W0.cell? ⟨w.heap.size, 1, none⟩ = some (.string key) := hA.cell 1
  have c2 : W0.cell? ⟨w.heap.size, 2, none⟩ = some (.string val) := hA.cell 2
  have c3 : W0.cell? ⟨w.heap.size, 3, none⟩ = some (.int .i64 child) := hA.cell 3
  have hb0 : Below w.heap.size w W0 := by rw [hW0]; exact ((Below.refl _ w).alloc (Nat.le_refl _) _).alloc (by simp) _
  rw [hW0] at c0 c1 c2 c3
  have hhl : (head2 kind key val).length = 16 := by simp [head2, zeros_length]
  obtain ⟨R, hR⟩ : ∃ R, R = recForm kind key val child := ⟨_, rfl⟩
  rw [← hR]
  obtain ⟨m0, hm0⟩ : ∃ m, m = head2 kind key val := ⟨_, rfl⟩
  obtain ⟨kw, hkw⟩ : ∃ m, m = keyWords key := ⟨_, rfl⟩
  obtain ⟨vw, hvw⟩ : ∃ m, m = keyWords val := ⟨_, rfl⟩
  have hkl : kw.length ≤ 3 := by rw [hkw, keyWords_length]; omega
  have hvl : vw.length ≤ 3 := by rw [hvw, keyWords_length]; omega
  have hKW := Lib.hid (fun w => keyWords_any key hk w)
  have hVW := Lib.hid (fun w => keyWords_any val hv w)
  rw [← hkw] at hKW
  rw [← hvw] at hVW
  have hres : R = sumAt (if kind = 2 then (over (over m0 3 kw) 6 vw).set 6 child else over (over m0 3 kw) 6 vw) := by
    rw [hR, hm0, hkw, hvw]; rfl
  have HRes := Lib.hid hres
  clear hkw hvw hres
  rw [← hm0] at hhl
  have HM0 := Lib.hid hm0
  clear hm0 hR
  go_enter Try.func75, Try.ntmps75
  go_wp2_with fail
  rw [← hW0, show (Obj.cells #[.int .i64 kind, .int .i64 (32 * (key.size : Int) + (val.size : Int)), .int .i64 0, .int .i64 0, .int .i64 0, .int .i64 0, .int .i64 0, .int .i64 0, .int .i64 0, .int .i64 0, .int .i64 0, .int .i64 0, .int .i64 0, .int .i64 0, .int .i64 0, .int .i64 0] 103) = .cells (intRow (head2 kind key val)).toArray 103 from rfl]
  have hs0 : W0.heap.size = w.heap.size + 1 + 1 := by rw [hW0]; simp
  have hG := Blk.new W0 103 (intRow (head2 kind key val)).toArray
  rw [hs0] at hG
  have hA := hA.alloc (.cells (intRow (head2 kind key val)).toArray 103)
  have hB := hB.alloc (.cells (intRow (head2 kind key val)).toArray 103)
  have hb1 := hb0.alloc (by omega) (.cells (intRow (head2 kind key val)).toArray 103)
  generalize W0.alloc (.cells (intRow (head2 kind key val)).toArray 103) = W1 at *
  clear c0 c1 c2 c3 hW0 hs0 hb0 hnew
  rw [← HM0.out] at hG
  have c1 : W1.cell? ⟨w.heap.size, 1, none⟩ = some (.string key) := hA.cell 1
  have hltA := hA.lt
  have hltB := hB.lt
  have hltG := hG.lt
  go_region_held3 (fun w' => w'.cell? ⟨w.heap.size, 1, none⟩ = some (.string key)) (first | go_keep | assumption)
    (first | (go_at_call 104; refine (hKW.out _).mono ?_; rintro e W3 ⟨v, rfl, hown, hbx⟩; obtain ⟨A1, k1, rfl, hnc, hcm, hl, hr⟩ := own_form hown; have hb2 : Below (w.heap.size + 1 + 1) W1 W3 := (Below.refl _ W1).drew.trans (hbx.mono (Nat.le_of_lt hltG)); have hG2 := hG.drew.below hbx hltG; have HC : CopyR Try.prog W3 23 3 (w.heap.size + 1 + 1) 3 (some ⟨w.heap.size + 1 + 1, 3, none⟩) A1 13 kw.length (intRow m0) 103 (intRow (kw.take kw.length)) := CopyR.ints (n := kw.length) Try.underlying23 intSize hG2 rfl hr rfl (Nat.min_eq_left (by omega)) (by simp [intRow_length]; omega); have d1 := (hb2.cell (p := ⟨w.heap.size, 1, none⟩) (by show w.heap.size < _; omega)).trans c1)
           | (refine step_copy_splice (by rfl) _ _ _ _ (by rfl) 3 HC.hu HC.hsz _ _ _ _ _ _ (by rfl) (by rfl) (w.heap.size + 1 + 1) 3 (intRow m0) 103 HC.hg (intRow (kw.take kw.length)) HC.hn HC.hpos HC.hfit HC.h1 (w.heap.size + 1 + 1) W1 hb2 (Nat.le_refl _) ?_; intro w4 hg4 hb4; have d2 := (hb4.cell (p := ⟨w.heap.size, 1, none⟩) (by show w.heap.size < _; omega)).trans c1))
  have hG4 : Blk w4 (w.heap.size + 1 + 1) 103 (intRow (over m0 3 kw)).toArray := by
    have := hg4.out
    rw [List.take_length, splice_over] at this
    exact this
  have hA4 := hA.below hb4 (by omega)
  have hB4 := hB.below hb4 (by omega)
  have hb5 : Below w.heap.size w w4 := hb1.trans (hb4.mono (by omega))
  have hl1 : (over m0 3 kw).length = 16 := by rw [over_length _ _ _ (by omega)]; exact hhl
  rename_i hHeld
  clear hHeld d1 d2 hg4 hb4 hG2 HC hr hb2 hown hnc hcm hl hbx c1 hA hB hG hb1 hltA hltB hltG hKW
  obtain ⟨m1, hm1⟩ : ∃ m, m = over m0 3 kw := ⟨_, rfl⟩
  have HM1 := Lib.hid hm1
  rw [← hm1] at hG4 hl1
  clear hm1
  have e1 : w4.cell? ⟨w.heap.size, 2, none⟩ = some (.string val) := hA4.cell 2
  have hltA := hA4.lt
  have hltB := hB4.lt
  have hltG := hG4.lt
  generalize goInt (intRow (kw.take kw.length)).length = z1
  clear W3
  go_wp2_with fail
  go_region_held3 (fun w' => w'.cell? ⟨w.heap.size, 2, none⟩ = some (.string val)) (first | go_keep | assumption)
    (first | (go_at_call 104; refine (hVW.out _).mono ?_; rintro e W3 ⟨v, rfl, hown, hbx⟩; obtain ⟨A2, k2, rfl, hnc, hcm, hl, hr⟩ := own_form hown; have hb2 : Below (w.heap.size + 1 + 1) w4 W3 := (Below.refl _ w4).drew.trans (hbx.mono (Nat.le_of_lt hltG)); have hG2 := hG4.drew.below hbx hltG; have HC : CopyR Try.prog W3 23 3 (w.heap.size + 1 + 1) 6 (some ⟨w.heap.size + 1 + 1, 6, none⟩) A2 10 vw.length (intRow m1) 103 (intRow (vw.take vw.length)) := CopyR.ints (n := vw.length) Try.underlying23 intSize hG2 rfl hr rfl (Nat.min_eq_left (by omega)) (by simp [intRow_length]; omega); have d1 := (hb2.cell (p := ⟨w.heap.size, 2, none⟩) (by show w.heap.size < _; omega)).trans e1)
           | (refine step_copy_splice (by rfl) _ _ _ _ (by rfl) 3 HC.hu HC.hsz _ _ _ _ _ _ (by rfl) (by rfl) (w.heap.size + 1 + 1) 6 (intRow m1) 103 HC.hg (intRow (vw.take vw.length)) HC.hn HC.hpos HC.hfit HC.h1 (w.heap.size + 1 + 1) w4 hb2 (Nat.le_refl _) ?_; intro w6 hg4 hb4; have d2 := (hb4.cell (p := ⟨w.heap.size, 2, none⟩) (by show w.heap.size < _; omega)).trans e1))
  have hG6 : Blk w6 (w.heap.size + 1 + 1) 103 (intRow (over m1 6 vw)).toArray := by
    have := hg4.out
    rw [List.take_length, splice_over] at this
    exact this
  have hA6 := hA4.below hb4 (by omega)
  have hB6 := hB4.below hb4 (by omega)
  have hb7 : Below w.heap.size w w6 := hb5.trans (hb4.mono (by omega))
  have hl2 : (over m1 6 vw).length = 16 := by rw [over_length _ _ _ (by omega)]; exact hl1
  rename_i hHeld
  clear hHeld d1 d2 hg4 hb4 hG2 HC hr hb2 hown hnc hcm hl hbx e1 hA4 hB4 hG4 hb5 hltA hltB hltG hVW
  obtain ⟨m2, hm2⟩ : ∃ m, m = over m1 6 vw := ⟨_, rfl⟩
  have HM2 := Lib.hid hm2
  rw [← hm2] at hG6 hl2
  clear hm2
  have f0 : w6.cell? ⟨w.heap.size, 0, none⟩ = some (.int .i64 kind) := hA6.cell 0
  have f3 : w6.cell? ⟨w.heap.size, 3, none⟩ = some (.int .i64 child) := hA6.cell 3
  have hltB := hB6.lt
  have hltG := hG6.lt
  by_cases h2 : kind = 2
  · have hfin : R = sumAt (m2.set 6 child) := by rw [HRes.out, if_pos h2, HM2.out, HM1.out]
    subst h2
    have hG7 := hG6.set_ 6 (.int .i64 child)
    have e3 : (intRow m2).toArray.setIfInBounds 6 (.int .i64 child) = (intRow (m2.set 6 child)).toArray := by simp [intRow, List.map_set]
    rw [e3] at hG7
    have hl3 : (m2.set 6 child).length = 16 := by simp [hl2]
    have HL := formLoad hl3 hG7
    have hB7 := hB6.far (p := ⟨w.heap.size + 1 + 1, 6, none⟩) (by simp) (.int .i64 child)
    have hb8 := hb7.setCell (p := ⟨w.heap.size + 1 + 1, 6, none⟩) (by show w.heap.size ≤ w.heap.size + 1 + 1; omega) (.int .i64 child)
    have k6 : w6.cell? ⟨w.heap.size + 1 + 1, 6, none⟩ = some (.int .i64 (m2[6]?.getD 0)) := by rw [hG6.cell]; simpa using intRow_get m2 6 (by omega)
    have f6 := hG6.frozen 6
    generalize m2[6]?.getD 0 = x6 at *
    have HB7 := Lib.hid hB7
    have HB8 := Lib.hid hb8
    have HFin := Lib.hid hfin
    have hltB7 := hB7.lt
    clear hA6 hB6 hG6 hb7 e3 hG7 hB7 hb8 hfin
    go_wp2_with (with_reducible refine wpList_load_r rfl _ _ rfl rfl HL ?_)
    refine (summed_any _ hl3 _).mono ?_
    rintro e w9 ⟨rfl, hb9⟩
    have hB9 := HB7.out.below hb9 hltB7
    have hls : (sumAt (m2.set 6 child)).length = 16 := by unfold sumAt; simp [hl2]
    have HS := formStore (m' := sumAt (m2.set 6 child)) (zeros_length 16) hls hB9
    have HR := formLoad hls (hB9.setRow (intRow (sumAt (m2.set 6 child))).toArray)
    have hb10 := HB8.out.trans (hb9.mono HB8.out.size)
    rw [← HFin.out] at hls HS HR ⊢
    clear hb9 hB9 HB8 HB7 HL
    go_wp2_with (with_reducible refine wpList_store_r rfl _ _ _ rfl rfl rfl HS ?_)
    exact bodyPost_ret (results_r rfl rfl HR) rfl ⟨rfl, below_setRow hb10 (by omega) _⟩
  · have hfin : R = sumAt m2 := by rw [HRes.out, if_neg h2, HM2.out, HM1.out]
    have HL := formLoad hl2 hG6
    have HB7 := Lib.hid hB6
    have HB8 := Lib.hid hb7
    have HFin := Lib.hid hfin
    have hltB7 := hltB
    clear hA6 hB6 hG6 hb7 hfin
    go_wp2_with (with_reducible refine wpList_load_r rfl _ _ rfl rfl HL ?_)
    refine (summed_any _ hl2 _).mono ?_
    rintro e w9 ⟨rfl, hb9⟩
    have hB9 := HB7.out.below hb9 hltB7
    have hls : (sumAt (m2)).length = 16 := by unfold sumAt; simp [hl2]
    have HS := formStore (m' := sumAt (m2)) (zeros_length 16) hls hB9
    have HR := formLoad hls (hB9.setRow (intRow (sumAt (m2))).toArray)
    have hb10 := HB8.out.trans (hb9.mono HB8.out.size)
    rw [← HFin.out] at hls HS HR ⊢
    clear hb9 hB9 HB8 HB7 HL
    go_wp2_with (with_reducible refine wpList_store_r rfl _ _ _ rfl rfl rfl HS ?_)
    exact bodyPost_ret (results_r rfl rfl HR) rfl ⟨rfl, below_setRow hb10 (by omega) _⟩
end Go.Proofs.Ytkkaabagehjmbaa
