/-
  rec.Read.
-/
import Derived.Test.YtkkaabagehjmbaaRec4
import Derived.Deep.CutBlock
set_option linter.unusedSimpArgs false
set_option linter.unusedVariables false
namespace Go.Proofs.Ytkkaabagehjmbaa
open Go.RowKit Go.Shelf Crc
attribute [local go_sem ↓] Go.wp_at_zero Go.wp_at_succ

theorem quiet_load {P : Program} {C : World → Prop} {a : Act} {o : Oper} {K : Act → Prop} (ty : TypeId) (x : Operand) (h : o.op = .load ty x) {u v : Value} (hx : a.eval x = u)
    (hl : ∀ w, C w → (Instr.loadAt ty u).run P w = .ok v w) (hk : K (a.put o.dst v)) : o.quiet P a C K :=
  ⟨v, fun w hw => by unfold Oper.quietAt execOp; simp only [h, hx, Sem.run_bind, hl w hw, Result.andThen_ok, Sem.run_pure]; exact ⟨rfl, rfl⟩, hk⟩
theorem quiet_binOp {P : Program} {C : World → Prop} {a : Act} {o : Oper} {K : Act → Prop} (op : BinOp) (ty ty' : TypeId) (x y : Operand) (h : o.op = .binOp op ty x y ty') {p q v : Value} (hx : a.eval x = p) (hy : a.eval y = q)
    (hg : ∀ w, (eqGuard op ty x y p q).run P w = .ok () w) (hb : ∀ w, (binOp op ty p q).run P w = .ok v w) (hk : K (a.put o.dst v)) : o.quiet P a C K :=
  ⟨v, fun w _ => by unfold Oper.quietAt execOp; simp only [h, hx, hy, Sem.run_bind, hg w, hb w, Result.andThen_ok, Sem.run_pure]; exact ⟨rfl, rfl⟩, hk⟩

theorem recText_one (m : List Int) (at' : Nat) (n : Int) (hm : m.length = 16) (hat : at' ≤ 6) (w : World) :
    Calls Try.prog 73 #[.agg (intRow m).toArray, .int .i64 (at' : Int), .int .i64 n] w fun e w' =>
      e = .returned (.tuple #[.string ((recText m at' n).getD (ByteArray.mk #[])), .bool (recText m at' n).isSome]) ∧ Below w.heap.size w w' := by
  refine (recText_any m at' n hm hat w).mono ?_
  intro e w' h
  rcases hr : recText m at' n with _ | b <;> rw [hr] at h <;> exact h

set_option maxHeartbeats 2000000 in
set_option maxRecDepth 100000 in
theorem recRead_in (A : Option Addr) (n c B k : Nat) (l : List Int) (hn : l.length = n) (hk : k < n / 16) (hnc : n ≤ c) (hbig : c ≤ 9223372036854775807) (w : World) (hB : B ≤ w.heap.size) (hr : RInts w B A l) :
    Calls Try.prog 37 #[.slice A n c, .int .i64 (k : Int)] w (PostRec w (readRec l k)) := by
  obtain ⟨b, off, rfl, hb, hc⟩ := id hr (by intro e; subst e; simp at hn; omega)
  obtain ⟨m, hm⟩ : ∃ m, m = blk16 l k := ⟨_, rfl⟩
  have hm16 : m.length = 16 := by rw [hm]; exact blk16_length l k (by omega)
  have hrl : RInts w B (some ⟨b, off + 16 * k, none⟩) (l.drop (16 * k)) := fun _ => ⟨b, off + 16 * k, rfl, hb, fun i hi => by
    simp at hi
    rw [Nat.add_assoc, hc _ (by omega), List.getElem?_drop]⟩
  have hlen : (l.drop (16 * k)).length = n - 16 * k := by simp [hn]
  have htk : (l.drop (16 * k)).take 16 = m := by rw [hm]; rfl
  obtain ⟨R, hR⟩ : ∃ R, R = readRec l k := ⟨_, rfl⟩
  have hres : R = match readForm m with | some r => .ok r | none => .error 70 := by
    rw [hR]
    unfold readRec
    rw [if_neg (by omega), Int.toNat_natCast, ← hm]
    rcases readForm m with _ | _ <;> rfl
  rw [← hR]
  have HRes := Lib.hid hres
  have HRl := Lib.hid hrl
  have HLn := Lib.hid hlen
  have HTk := Lib.hid htk
  clear hres hR hrl hlen htk hm hr hc
  have hbw : b < w.heap.size := by omega
  have hl16 : n - 16 * k ≥ 16 := by omega
  have hcc : n - 16 * k ≤ c - 16 * k := by omega
  go_enter Try.func37, Try.ntmps37
  go_wp2_with fail
  rw [show (Obj.cells #[.int .i64 0, .string (ByteArray.mk #[]), .string (ByteArray.mk #[]), .int .i64 0] 59) = .cells (recCells 0 (ByteArray.mk #[]) (ByteArray.mk #[]) 0) 59 from rfl, show (Obj.cells #[.int .i64 0, .int .i64 0, .int .i64 0, .int .i64 0, .int .i64 0, .int .i64 0, .int .i64 0, .int .i64 0, .int .i64 0, .int .i64 0, .int .i64 0, .int .i64 0, .int .i64 0, .int .i64 0, .int .i64 0, .int .i64 0] 103) = .cells (intRow (zeros 16)).toArray 103 from rfl]
  have hD := (Blk.new w 59 (recCells 0 (ByteArray.mk #[]) (ByteArray.mk #[]) 0)).alloc (.cells (intRow (zeros 16)).toArray 103)
  have hF := Blk.new (w.alloc (.cells (recCells 0 (ByteArray.mk #[]) (ByteArray.mk #[]) 0) 59)) 103 (intRow (zeros 16)).toArray
  rw [World.size_alloc] at hF
  have hb0 : Below w.heap.size w ((w.alloc (.cells (recCells 0 (ByteArray.mk #[]) (ByteArray.mk #[]) 0) 59)).alloc (.cells (intRow (zeros 16)).toArray 103)) := ((Below.refl _ w).alloc (Nat.le_refl _) _).alloc (by simp) _
  have HRl1 := Lib.hid (HRl.out.below hb0 hB)
  generalize (w.alloc (.cells (recCells 0 (ByteArray.mk #[]) (ByteArray.mk #[]) 0) 59)).alloc (.cells (intRow (zeros 16)).toArray 103) = W1 at *
  have HC : CopyR Try.prog W1.drew 23 3 (w.heap.size + 1) 0 (some ⟨w.heap.size + 1, 0, none⟩) (some ⟨b, off + 16 * k, none⟩) 16 (n - 16 * k) (intRow (zeros 16)) 103 (intRow ((l.drop (16 * k)).take 16)) :=
    CopyR.ints (n := 16) Try.underlying23 intSize hF.drew HLn.out HRl1.out.drew rfl (Nat.min_eq_right (by omega)) (by simp [intRow_length, zeros_length])
  rw [HTk.out] at HC
  have e0 : splice (intRow (zeros 16)) 0 (intRow m) = intRow m := by
    unfold splice
    rw [List.drop_of_length_le (by simp [intRow_length, hm16, zeros_length])]
    simp
  have E0 := Lib.hid e0
  clear HRl1 HRl HTk HLn e0
  have g0 : (0 : Int) ≤ 16 * (k : Int) := by omega
  have g1 : 16 * (k : Int) ≤ (n : Int) := by omega
  have g2 : (n : Int) ≤ (c : Int) := by omega
  have ht : (16 * (k : Int)).toNat = 16 * k := by omega
  have g3 : ¬ c = 16 * k := by omega
  have g4 : IntKind.i64.wrap (16 * (k : Int)) = 16 * (k : Int) := by simp [IntKind.wrap, IntKind.bits, IntKind.signed]; omega
  have d0 : W1.cell? ⟨w.heap.size, 0, none⟩ = some (.int .i64 0) := hD.cell 0
  go_region_held3 (fun w' => w'.cell? ⟨w.heap.size, 0, none⟩ = some (.int .i64 0)) (first | go_keep | assumption)
    ((refine step_copy_splice (by rfl) _ _ _ _ (by rfl) 3 HC.hu HC.hsz _ _ _ _ _ _ (by rfl) (by rfl) (w.heap.size + 1) 0 (intRow (zeros 16)) 103 HC.hg (intRow m) HC.hn HC.hpos HC.hfit HC.h1 (w.heap.size + 1) W1 (Below.refl _ W1).drew (Nat.le_refl _) ?_; intro w4 hg4 hb4; have d1 := (hb4.cell (p := ⟨w.heap.size, 0, none⟩) (Nat.lt_succ_self w.heap.size)).trans d0))
  have hF2 : Blk w4 (w.heap.size + 1) 103 (intRow m).toArray := by
    have := hg4.out
    rw [E0.out] at this
    exact this
  have hD2 := hD.below hb4 (Nat.lt_succ_self w.heap.size)
  have hb2 : Below w.heap.size w w4 := hb0.trans (hb4.mono (Nat.le_succ w.heap.size))
  rename_i hHeld
  clear hHeld d1 hg4 hb4 HC hD hF hb0 d0 g4 E0 ht
  obtain ⟨x0, hx0⟩ : ∃ x, x = m[0]?.getD 0 := ⟨_, rfl⟩
  obtain ⟨x1, hx1⟩ : ∃ x, x = m[1]?.getD 0 := ⟨_, rfl⟩
  obtain ⟨x6, hx6⟩ : ∃ x, x = m[6]?.getD 0 := ⟨_, rfl⟩
  have c0 : w4.cell? ⟨w.heap.size + 1, 0, none⟩ = some (.int .i64 x0) := by rw [hF2.cell, hx0]; simpa using intRow_get m 0 (by omega)
  have HX0 := Lib.hid hx0
  have HX1 := Lib.hid hx1
  have HX6 := Lib.hid hx6
  clear hx0 hx1 hx6
  have hltF := hF2.lt
  have hltD := hD2.lt
  generalize goInt (intRow m).length = z1
  have HL := formLoad hm16 (hF2.alloc (.cells (recCells x0 (ByteArray.mk #[]) (ByteArray.mk #[]) 0) 59))
  have c1 : (w4.alloc (.cells (recCells x0 (ByteArray.mk #[]) (ByteArray.mk #[]) 0) 59)).cell? ⟨w.heap.size + 1, 1, none⟩ = some (.int .i64 x1) := by rw [(hF2.alloc _).cell, HX1.out]; simpa using intRow_get m 1 (by omega)
  go_upto_region 7 with fail
  have hX4 := Blk.new w4 59 (recCells x0 (ByteArray.mk #[]) (ByteArray.mk #[]) 0)
  have hF4 := hF2.alloc (.cells (recCells x0 (ByteArray.mk #[]) (ByteArray.mk #[]) 0) 59)
  have hD4 := hD2.alloc (.cells (recCells x0 (ByteArray.mk #[]) (ByteArray.mk #[]) 0) 59)
  have hb4 := hb2.alloc hb2.size (.cells (recCells x0 (ByteArray.mk #[]) (ByteArray.mk #[]) 0) 59)
  rw [show (Obj.cells #[.int .i64 x0, .string (ByteArray.mk #[]), .string (ByteArray.mk #[]), .int .i64 0] 59) = .cells (recCells x0 (ByteArray.mk #[]) (ByteArray.mk #[]) 0) 59 from rfl]
  generalize w4.alloc (.cells (recCells x0 (ByteArray.mk #[]) (ByteArray.mk #[]) 0) 59) = w5 at *
  obtain ⟨gx, hgx⟩ : ∃ gx, gx = w4.heap.size := ⟨_, rfl⟩
  rw [← hgx] at hX4 ⊢
  have hgxD : ¬ gx = w.heap.size := by omega
  have hgxF : ¬ gx = w.heap.size + 1 := by omega
  have hbgx : w.heap.size ≤ gx := by omega
  clear hgx hF2 hD2 hb2 c0 hltF hltD
  clear w4
  have hltX := hX4.lt
  have hltF := hF4.lt
  have hltD := hD4.lt
  go_wp2_with (with_reducible refine wpList_load_r rfl _ _ rfl rfl HL ?_)
  obtain ⟨q1, hq1⟩ : ∃ q, q = recText m 3 (wrap64 (x1.tdiv 32)) := ⟨_, rfl⟩
  have hC1 := recText_one m 3 (wrap64 (x1.tdiv 32)) hm16 (by omega) w5
  rw [← hq1] at hC1
  have HQ1 := Lib.hid hq1
  clear hq1
  generalize hn1 : wrap64 (x1.tdiv 32) = n1 at *
  have HN1 := Lib.hid hn1
  clear hn1
  refine hC1.mono ?_
  rintro e w6 ⟨rfl, hb6⟩
  clear hC1
  obtain ⟨key, hkey⟩ : ∃ s, s = q1.getD (ByteArray.mk #[]) := ⟨_, rfl⟩
  obtain ⟨is1, his1⟩ : ∃ s, s = q1.isSome := ⟨_, rfl⟩
  rw [← hkey, ← his1]
  have HKey := Lib.hid hkey
  have HIs1 := Lib.hid his1
  clear hkey his1
  have hX6 := hX4.below hb6 hltX
  have hF6 := hF4.below hb6 hltF
  have hD6 := hD4.below hb6 hltD
  have hb7 := hb4.trans (hb6.mono hb4.size)
  have x1c : w6.cell? ⟨gx, 1, none⟩ = some (.string (ByteArray.mk #[])) := hX6.cell 1
  have x1f := hX6.frozen 1
  have hX7 : Blk (w6.setCell ⟨gx, 1, none⟩ (.string key)) gx 59 (recCells x0 key (ByteArray.mk #[]) 0) := hX6.set_ 1 (.string key)
  have hF7 := hF6.far (p := ⟨gx, 1, none⟩) (Ne.symm hgxF) (.string key)
  have hD7 := hD6.far (p := ⟨gx, 1, none⟩) (Ne.symm hgxD) (.string key)
  have hb8 := hb7.setCell (p := ⟨gx, 1, none⟩) hbgx (.string key)
  clear hX4 hF4 hD4 hb4 hb6 hX6 hF6 hD6 hb7 hltX hltF hltD c1 HL
  go_upto_region 8 with fail
  clear x1c x1f
  generalize w6.setCell ⟨gx, 1, none⟩ (.string key) = w7 at *
  have hltX := hX7.lt
  have hltF := hF7.lt
  have hltD := hD7.lt
  rcases q1 with _ | key1
  · have e1 : is1 = false := HIs1.out
    subst e1
    have hfin : R = .error 70 := by
      rw [HRes.out]
      have : readForm m = none := by
        unfold readForm recOf16
        rw [← HX1.out, HN1.out, ← HQ1.out]
        rfl
      rw [this]
    have HFin := Lib.hid hfin
    clear hfin
    have HS := recStore (kind' := 0) (key' := ByteArray.mk #[]) (val' := ByteArray.mk #[]) (child' := 0) hD7
    have HL := recCells_load (hD7.setRow (recCells 0 (ByteArray.mk #[]) (ByteArray.mk #[]) 0))
    have hb9 := below_setRow hb8 (Nat.le_refl _) (recCells 0 (ByteArray.mk #[]) (ByteArray.mk #[]) 0)
    clear hb8 hX7 hF7 hD7
    go_wp2_with (with_reducible refine wpList_store_r rfl _ _ _ rfl rfl rfl HS ?_)
    exact bodyPost_ret (results_cell1 rfl rfl HL) rfl (by rw [HFin.out]; exact ⟨rfl, hb9⟩)
  · have e1 : is1 = true := HIs1.out
    have e2 : key = key1 := HKey.out
    subst e1
    subst e2
    have y0 : w7.cell? ⟨gx, 0, none⟩ = some (.int .i64 x0) := hX7.cell 0
    have hkey21 : key.size ≤ 21 := recText_size HQ1.out.symm
    go_upto_block 0 with fail
    go_cut [8] (fun s8 wx => ∃ (val : ByteArray) (child : Int) (is : Bool), s8 = .bool is ∧ Blk wx gx 59 (recCells x0 key val child) ∧ Blk wx (w.heap.size + 1) 103 (intRow m).toArray ∧ Blk wx w.heap.size 59 (recCells 0 (ByteArray.mk #[]) (ByteArray.mk #[]) 0) ∧ Below w.heap.size w wx ∧ val.size ≤ 21 ∧
      readForm m = if is && recOk x0 key val child && (recForm x0 key val child == m) then some ⟨x0, key, val, child⟩ else none)
    case first =>
      by_cases h1 : x0 = 1
      · have hrf : readForm m = ((recText m 6 (x1.tmod 32)).map fun val => (⟨x0, key, val, 0⟩ : RecV)).bind fun r => if r.ok && (r.form == m) then some r else none := by
          unfold readForm recOf16
          rw [← HX1.out, HN1.out, ← HQ1.out, ← HX0.out]
          simp only [if_pos h1]
        obtain ⟨q2, hq2⟩ : ∃ q, q = recText m 6 (x1.tmod 32) := ⟨_, rfl⟩
        have hC2 := recText_one m 6 (x1.tmod 32) hm16 (by omega) w7
        rw [← hq2] at hC2 hrf
        have hval : (q2.getD (ByteArray.mk #[])).size ≤ 21 := by
          rcases q2 with _ | v
          · decide
          · exact recText_size hq2.symm
        have HVal := Lib.hid hval
        have HRf := Lib.hid hrf
        have HC2 := Lib.hid hC2
        clear hq2 hC2 hrf hval
        have c1 : w7.cell? ⟨w.heap.size + 1, 1, none⟩ = some (.int .i64 x1) := by rw [hF7.cell, HX1.out]; simpa using intRow_get m 1 (by omega)
        have HL := formLoad hm16 hF7
        subst h1
        go_wp2_with (with_reducible refine wpList_load_r rfl _ _ rfl rfl HL ?_)
        refine HC2.out.mono ?_
        rintro e w8 ⟨rfl, hb9⟩
        have hX8 := hX7.below hb9 hltX
        have hF8 := hF7.below hb9 hltF
        have hD8 := hD7.below hb9 hltD
        have hb10 := hb8.trans (hb9.mono hb8.size)
        have z1c : w8.cell? ⟨gx, 2, none⟩ = some (.string (ByteArray.mk #[])) := hX8.cell 2
        have z1f := hX8.frozen 2
        have HX9 : Hid (Blk (w8.setCell ⟨gx, 2, none⟩ (.string (q2.getD (ByteArray.mk #[])))) gx 59 (recCells 1 key (q2.getD (ByteArray.mk #[])) 0)) := Lib.hid (hX8.set_ 2 _)
        have HF9 := Lib.hid (hF8.far (p := ⟨gx, 2, none⟩) (Ne.symm hgxF) (.string (q2.getD (ByteArray.mk #[]))))
        have HD9 := Lib.hid (hD8.far (p := ⟨gx, 2, none⟩) (Ne.symm hgxD) (.string (q2.getD (ByteArray.mk #[]))))
        have HB11 := Lib.hid (hb10.setCell (p := ⟨gx, 2, none⟩) hbgx (.string (q2.getD (ByteArray.mk #[]))))
        clear hb9 hX8 hF8 hD8 hb10
        go_wp2_with fail
        go_meet
        refine ⟨_, 0, q2.isSome, rfl, HX9.out, HF9.out, HD9.out, HB11.out, HVal.out, ?_⟩
        rw [HRf.out]
        rcases q2 with _ | v
        · rfl
        · simp only [Option.map_some, Option.bind_some, Option.isSome_some, Bool.true_and]; rfl
      · by_cases h2 : x0 = 2
        · have hrf : readForm m = if recOk x0 key (ByteArray.mk #[]) x6 && (recForm x0 key (ByteArray.mk #[]) x6 == m) then some ⟨x0, key, ByteArray.mk #[], x6⟩ else none := by
            unfold readForm recOf16
            rw [← HX1.out, HN1.out, ← HQ1.out, ← HX0.out, ← HX6.out]
            simp only [if_neg h1, if_pos h2]
            rfl
          have HRf := Lib.hid hrf
          clear hrf
          have c6 : w7.cell? ⟨w.heap.size + 1, 6, none⟩ = some (.int .i64 x6) := by rw [hF7.cell, HX6.out]; simpa using intRow_get m 6 (by omega)
          have z3c : w7.cell? ⟨gx, 3, none⟩ = some (.int .i64 0) := hX7.cell 3
          have z3f := hX7.frozen 3
          subst h2
          have HX9 : Hid (Blk (w7.setCell ⟨gx, 3, none⟩ (.int .i64 x6)) gx 59 (recCells 2 key (ByteArray.mk #[]) x6)) := Lib.hid (hX7.set_ 3 _)
          have HF9 := Lib.hid (hF7.far (p := ⟨gx, 3, none⟩) (Ne.symm hgxF) (.int .i64 x6))
          have HD9 := Lib.hid (hD7.far (p := ⟨gx, 3, none⟩) (Ne.symm hgxD) (.int .i64 x6))
          have HB11 := Lib.hid (hb8.setCell (p := ⟨gx, 3, none⟩) hbgx (.int .i64 x6))
          clear hX7 hF7 hD7 hb8
          go_wp2_with fail
          go_meet
          exact ⟨ByteArray.mk #[], x6, true, rfl, HX9.out, HF9.out, HD9.out, HB11.out, by decide, by rw [HRf.out]; rfl⟩
        · have hrf : readForm m = if recOk x0 key (ByteArray.mk #[]) 0 && (recForm x0 key (ByteArray.mk #[]) 0 == m) then some ⟨x0, key, ByteArray.mk #[], 0⟩ else none := by
            unfold readForm recOf16
            rw [← HX1.out, HN1.out, ← HQ1.out, ← HX0.out]
            simp only [if_neg h1, if_neg h2]
            rfl
          have HRf := Lib.hid hrf
          clear hrf
          go_wp2_with fail
          go_meet
          exact ⟨ByteArray.mk #[], 0, true, rfl, hX7, hF7, hD7, hb8, by decide, by rw [HRf.out]; rfl⟩
    case rest =>
      obtain ⟨val, child, is, rfl, hX, hF, hD, hbx, hv21, hrf⟩ := hcut
      have hres : R = if is && recOk x0 key val child && (recForm x0 key val child == m) then .ok ⟨x0, key, val, child⟩ else .error 70 := by
        rw [HRes.out, hrf]
        rcases is && recOk x0 key val child && (recForm x0 key val child == m) with _ | _ <;> rfl
      have HRes2 := Lib.hid hres
      have hltX' := hX.lt
      have hltF' := hF.lt
      have hltD' := hD.lt
      clear hrf hres hX7 hF7 hD7 hb8 y0
      have y0 := fun x : Ext wc => x.cell (hX.cell 0 : wc.cell? ⟨gx, 0, none⟩ = some (.int .i64 x0))
      have y1 := fun x : Ext wc => x.cell (hX.cell 1 : wc.cell? ⟨gx, 1, none⟩ = some (.string key))
      have y2 := fun x : Ext wc => x.cell (hX.cell 2 : wc.cell? ⟨gx, 2, none⟩ = some (.string val))
      have y3 := fun x : Ext wc => x.cell (hX.cell 3 : wc.cell? ⟨gx, 3, none⟩ = some (.int .i64 child))
      have HX := Lib.hid hX
      have HF := Lib.hid hF
      have HD := Lib.hid hD
      have HB := Lib.hid hbx
      clear hX hF hD hbx
      rcases is with _ | _
      · have hfin : R = .error 70 := by rw [HRes2.out]; simp
        have HFin := Lib.hid hfin
        clear hfin
        go_wp2_with fail
        refine wp_region_ext (by kernel_rfl) (by kernel_rfl) ?_
        repeat (go_big_quiet_step (fail))
        refine wpQuiet_nil ?_
        rintro _ ⟨x, rfl⟩
        have hD9 := HD.out.below x.h hltD'
        have HS := recStore (kind' := 0) (key' := ByteArray.mk #[]) (val' := ByteArray.mk #[]) (child' := 0) hD9
        have HL := recCells_load (hD9.setRow (recCells 0 (ByteArray.mk #[]) (ByteArray.mk #[]) 0))
        have hb9 := below_setRow (HB.out.trans (x.h.mono HB.out.size)) (Nat.le_refl _) (recCells 0 (ByteArray.mk #[]) (ByteArray.mk #[]) 0)
        clear hD9
        go_wp2_with (with_reducible refine wpList_store_r rfl _ _ _ rfl rfl rfl HS ?_)
        exact bodyPost_ret (results_cell1 rfl rfl HL) rfl (by rw [HFin.out]; exact ⟨rfl, hb9⟩)
      · rcases hok : recOk x0 key val child with _ | _
        · have hfin : R = .error 70 := by rw [HRes2.out, hok]; simp
          have HFin := Lib.hid hfin
          have HOk := Lib.hid hok
          clear hfin hok
          go_wp2_with fail
          refine wp_region_ext (by kernel_rfl) (by kernel_rfl) ?_
          repeat (go_big_quiet_step ((first | (go_at_call 74; exact ext_call (HOk.out ▸ recCheck_any _ _ _ _ _)))))
          refine wpQuiet_nil ?_
          rintro _ ⟨x, rfl⟩
          have hD9 := HD.out.below x.h hltD'
          have HS := recStore (kind' := 0) (key' := ByteArray.mk #[]) (val' := ByteArray.mk #[]) (child' := 0) hD9
          have HL := recCells_load (hD9.setRow (recCells 0 (ByteArray.mk #[]) (ByteArray.mk #[]) 0))
          have hb9 := below_setRow (HB.out.trans (x.h.mono HB.out.size)) (Nat.le_refl _) (recCells 0 (ByteArray.mk #[]) (ByteArray.mk #[]) 0)
          clear hD9
          go_wp2_with (with_reducible refine wpList_store_r rfl _ _ _ rfl rfl rfl HS ?_)
          exact bodyPost_ret (results_cell1 rfl rfl HL) rfl (by rw [HFin.out]; exact ⟨rfl, hb9⟩)
        · have HOk := Lib.hid hok
          clear hok
          have hld : ∀ x : Ext wc, (Instr.loadAt 103 (.pointer (some ⟨w.heap.size + 1, 0, none⟩))).run Try.prog x.w = .ok (.agg (intRow m).toArray) x.w := fun x =>
            run_loadAt_mid x.w (w.heap.size + 1) 0 103 (intRow m) _ (fun j v hj => by rw [Nat.zero_add, (HF.out.below x.h hltF').cell]; simpa using hj) Try.underlying103 rfl (by rw [formSize]; simp [intRow, hm16])
          have hfl : (recForm x0 key val child).length = 16 := by
            unfold recForm sumAt recBase
            have h1 : (over (head2 x0 key val) 3 (keyWords key)).length = 16 := by rw [over_length _ _ _ (by simp [head2, zeros_length, keyWords_length]; omega)]; simp [head2, zeros_length]
            have h2 : (over (over (head2 x0 key val) 3 (keyWords key)) 6 (keyWords val)).length = 16 := by rw [over_length _ _ _ (by rw [h1, keyWords_length]; omega)]; exact h1
            split <;> simp [h2]
          obtain ⟨F, hF⟩ : ∃ F, F = recForm x0 key val child := ⟨_, rfl⟩
          rw [← hF] at hfl
          have hneq := formNeq F m hfl hm16
          have hguard := fun x y => eq_guard_form F m x y
          have HFF := Lib.hid hF
          clear hF
          rcases heq : (F == m) with _ | _
          · have hfin : R = .error 70 := by rw [HRes2.out, HOk.out, ← HFF.out, heq]; simp
            rw [heq] at hneq
            have HFin := Lib.hid hfin
            clear hfin
            go_wp2_with fail
            refine wp_region_ext (by kernel_rfl) (by kernel_rfl) ?_
            repeat (go_big_quiet_step ((first | (go_at_call 74; exact ext_call (HOk.out ▸ recCheck_any _ _ _ _ _)) | (go_at_call 75; exact ext_call (HFF.out ▸ recOf_any _ _ _ _ hkey21 hv21 _)))))
            go_big_quiet_want
            refine quiet_load _ _ rfl rfl (fun w' hw' => by obtain ⟨x, rfl⟩ := hw'; exact hld x) ?_
            simp only [Act.put, List.setIfInBounds_toArray, List.set_cons_succ, List.set_cons_zero]
            go_big_quiet_on
            go_big_quiet_want
            refine quiet_binOp _ _ _ _ _ rfl rfl rfl (hguard _ _) hneq ?_
            simp only [Act.put, List.setIfInBounds_toArray, List.set_cons_succ, List.set_cons_zero, Bool.not_false, Bool.not_true]
            go_big_quiet_on
            repeat (go_big_quiet_step (fail))
            refine wpQuiet_nil ?_
            rintro _ ⟨x, rfl⟩
            have hD9 := HD.out.below x.h hltD'
            have hb9 := HB.out.trans (x.h.mono HB.out.size)
            have HS := recStore (kind' := 0) (key' := ByteArray.mk #[]) (val' := ByteArray.mk #[]) (child' := 0) hD9
            have HL := recCells_load (hD9.setRow (recCells 0 (ByteArray.mk #[]) (ByteArray.mk #[]) 0))
            have hb10 := below_setRow hb9 (Nat.le_refl _) (recCells 0 (ByteArray.mk #[]) (ByteArray.mk #[]) 0)
            clear hD9 hb9
            go_wp2_with (with_reducible refine wpList_store_r rfl _ _ _ rfl rfl rfl HS ?_)
            exact bodyPost_ret (results_cell1 rfl rfl HL) rfl (by rw [HFin.out]; exact ⟨rfl, hb10⟩)
          · have hfin : R = .ok ⟨x0, key, val, child⟩ := by rw [HRes2.out, HOk.out, ← HFF.out, heq]; simp
            rw [heq] at hneq
            have HFin := Lib.hid hfin
            clear hfin
            go_wp2_with fail
            refine wp_region_ext (by kernel_rfl) (by kernel_rfl) ?_
            repeat (go_big_quiet_step ((first | (go_at_call 74; exact ext_call (HOk.out ▸ recCheck_any _ _ _ _ _)) | (go_at_call 75; exact ext_call (HFF.out ▸ recOf_any _ _ _ _ hkey21 hv21 _)))))
            go_big_quiet_want
            refine quiet_load _ _ rfl rfl (fun w' hw' => by obtain ⟨x, rfl⟩ := hw'; exact hld x) ?_
            simp only [Act.put, List.setIfInBounds_toArray, List.set_cons_succ, List.set_cons_zero]
            go_big_quiet_on
            go_big_quiet_want
            refine quiet_binOp _ _ _ _ _ rfl rfl rfl (hguard _ _) hneq ?_
            simp only [Act.put, List.setIfInBounds_toArray, List.set_cons_succ, List.set_cons_zero, Bool.not_false, Bool.not_true]
            go_big_quiet_on
            repeat (go_big_quiet_step (fail))
            refine wpQuiet_nil ?_
            rintro _ ⟨x, rfl⟩
            have hD9 := HD.out.below x.h hltD'
            have hb9 := HB.out.trans (x.h.mono HB.out.size)
            have hX9 := HX.out.below x.h hltX'
            have HLx := recCells_load hX9
            have HS := recStore (kind' := x0) (key' := key) (val' := val) (child' := child) hD9
            have HL := recCells_load (hD9.setRow (recCells x0 key val child))
            have hb10 := below_setRow hb9 (Nat.le_refl _) (recCells x0 key val child)
            clear hD9 hb9 hX9
            go_wp2_with (first | (with_reducible refine wpList_load_r rfl _ _ rfl rfl HLx ?_) | (with_reducible refine wpList_store_r rfl _ _ _ rfl rfl rfl HS ?_))
            exact bodyPost_ret (results_cell1 rfl rfl HL) rfl (by rw [HFin.out]; exact ⟨rfl, hb10⟩)

theorem recRead_any (A : Option Addr) (n c B : Nat) (at' : Int) (l : List Int) (hn : l.length = n) (hnc : n ≤ c) (hbig : c ≤ 9223372036854775807) (w : World) (hB : B ≤ w.heap.size) (hr : RInts w B A l) :
    Calls Try.prog 37 #[.slice A n c, .int .i64 at'] w (PostRec w (readRec l at')) := by
  by_cases h : at' < 0 ∨ ((n / 16 : Nat) : Int) ≤ at'
  · have e : readRec l at' = .error 1 := by unfold readRec; rw [hn, if_pos h]
    rw [e]
    exact recRead_out A n c at' (by omega) h w
  · obtain ⟨k, rfl⟩ : ∃ k : Nat, at' = (k : Int) := ⟨at'.toNat, by omega⟩
    exact recRead_in A n c B k l hn (by omega) hnc hbig w hB hr
end Go.Proofs.Ytkkaabagehjmbaa
