/-
  key.Check, key.CheckVal, key.Text.
-/
import Derived.Test.YtkkaabagehjmbaaWords
set_option linter.unusedSimpArgs false
set_option linter.unusedVariables false
namespace Go.Proofs.Ytkkaabagehjmbaa
open Go.RowKit Go.Shelf

def keyOk (s : ByteArray) : Bool := !s.toList.isEmpty && decide ((s.size : Int) ≤ 21)
def valOk (s : ByteArray) : Bool := decide ((s.size : Int) ≤ 21)

theorem keyCheckVal_any (s : ByteArray) (w : World) : Calls Try.prog 103 #[.string s] w fun e w' => e = .returned (.bool (valOk s)) ∧ w = w' := by
  go_enter Try.func103, Try.ntmps103
  go_wp2_with fail
  go_ret
  exact ⟨rfl, rfl⟩

theorem keyCheck_any (s : ByteArray) (w : World) : Calls Try.prog 102 #[.string s] w fun e w' => e = .returned (.bool (keyOk s)) ∧ w = w' := by
  by_cases hz : s.toList = []
  · have hk : keyOk s = false := by simp [keyOk, hz]
    rw [hk]
    go_enter Try.func102, Try.ntmps102
    go_wp2_with fail
    go_ret
    exact ⟨rfl, rfl⟩
  · go_enter Try.func102, Try.ntmps102
    go_wp2_with fail
    go_ret
    exact ⟨rfl, rfl⟩

/-- A word's byte. -/
def byteI (x : Int) (i : Nat) : Int := IntKind.u8.wrap (x / 2 ^ (8 * (6 - i)))
def bytesOfWord (x : Int) : List Int := (List.range 7).map (byteI x)
def bytesOfWords (l : List Int) : List Int := l.flatMap bytesOfWord
def badWord (x : Int) : Bool := decide (x < 0) || decide (72057594037927936 ≤ x)
def strOf (l : List Int) : ByteArray := ⟨(l.map fun x => UInt8.ofNat x.toNat).toArray⟩
/-- key.Text. -/
def readText (l : List Int) (n : Int) : Option ByteArray :=
  if l.any badWord then none else if ((bytesOfWords l).drop n.toNat).any (· ≠ 0) then none else some (strOf ((bytesOfWords l).take n.toNat))

theorem bytes_range (l : List Int) : ∀ x ∈ bytesOfWords l, 0 ≤ x ∧ x < 256 := by
  intro x hx
  simp only [bytesOfWords, bytesOfWord, List.mem_flatMap, List.mem_map] at hx
  obtain ⟨a, _, i, _, rfl⟩ := hx
  unfold byteI
  simp [IntKind.wrap, IntKind.bits, IntKind.signed]
  omega
theorem strOf_run (w : World) (g m cap : Nat) (bs : List Int) (hm : m ≤ bs.length) (hr : ∀ x ∈ bs, 0 ≤ x ∧ x < 256) (hc : ∀ i, i < m → w.cell? ⟨g, i, none⟩ = some (.int .u8 (bs[i]?.getD 0))) :
    (convert 144 9 (.slice (some ⟨g, 0, none⟩) m cap)).run Try.prog w = .ok (.string (strOf (bs.take m))) w := by
  have hl : ((bs.take m).map fun x => UInt8.ofNat x.toNat).length = m := by simp; omega
  have := run_convert_bytes_back w 144 9 5 ⟨g, 0, none⟩ cap ((bs.take m).map fun x => UInt8.ofNat x.toNat) Try.underlying144 Try.underlying5 Try.underlying9 (fun j hj => by
    rw [hl] at hj
    have := hc j hj
    rw [add_lit, Nat.zero_add, this, List.getElem?_eq_getElem (by omega)]
    have hr' := hr bs[j] (List.getElem_mem _)
    simp
    omega)
  rw [hl] at this
  exact this

def PostText (w : World) (r : Option ByteArray) (e : Ending) (w' : World) : Prop :=
  (match r with | none => e = .returned (.tuple #[.string (ByteArray.mk #[]), .int .i64 20]) | some b => e = .returned (.tuple #[.string b, .int .i64 0])) ∧ Below w.heap.size w w'

theorem own_base {w : World} {base size n : Nat} {t : TypeId} {v : Value} {xs : List Value} (h : w.ownsRow base t size v n xs) : ∀ k, v.ownBlock = some k → base ≤ k := by
  intro k hk
  rcases h.2 with ⟨rfl, _⟩ | ⟨g, cap, cur, rfl, hb, _⟩
  · simp [Value.ownBlock] at hk
  · simp [Value.ownBlock] at hk; omega

def intRow8 (l : List Int) : List Value := l.map (Value.int .u8)

set_option maxHeartbeats 1000000 in
set_option maxRecDepth 100000 in
theorem keyText_any (A : Option Addr) (n m c B : Nat) (l : List Int) (hn : l.length = n) (hm : (m + 6) / 7 = n) (hm21 : m ≤ 21) (w : World) (hB : B ≤ w.heap.size) (hr : RInts w B A l) :
    Calls Try.prog 101 #[.slice A n c, .int .i64 (m : Int)] w (PostText w (readText l m)) := by
  obtain ⟨i0, hi, hz0, hz1, hz2⟩ := info_parts (show (Try.prog.info? 5).map (fun i => (i.zero, i.size, i.bytes)) = some (some (.int .u8 0), 1, 1) by kernel_rfl)
  obtain ⟨w1, hmk, hown0, hg0⟩ := run_make_own (P := Try.prog) (w := w) w.heap.size 144 5 i0 (.int .u8 0) 1 Try.underlying144 hi hz0 hz1 .i64 .i64 (7 * n) (by rw [hz2]; omega) (by unfold maxLen; omega) (Nat.le_refl _)
  have hmk' : (Instr.makeSlice 144 (.int .i64 0) (.int .i64 (7 * (n : Int)))).run Try.prog w = .ok (.slice (some ⟨w.heap.size, 0, none⟩) 0 (7 * n)) w1 := by simpa using hmk
  have hb0 : Below w.heap.size w w1 := (Below.refl _ _).grown hg0 (Nat.le_refl _) (fun k e => by cases e)
  have hq : (m : Int) / 7 + min 1 ((m : Int) % 7) = n := by omega
  have hr1 := hr.below hb0 hB
  obtain ⟨r, hr_⟩ : ∃ r, r = readText l m := ⟨_, rfl⟩
  rw [← hr_]
  have HR0 := Lib.hid hr_
  clear hmk hr_
  go_enter Try.func101, Try.ntmps101
  go_wp2_with fail
  go_loopw [6, 31] (fun p q wr => ∃ k : Nat, k ≤ n ∧ q = .int .i64 (k : Int) ∧ wr.ownsRow w.heap.size 5 1 p (7 * k) (intRow8 (bytesOfWords (l.take k))) ∧ Below w.heap.size w wr ∧ (l.take k).any badWord = false)
    (fun _ q _ => n - (intOf q).toNat)
  case atStart => exact ⟨0, Nat.zero_le _, rfl, hown0, hb0, rfl⟩
  case round =>
    obtain ⟨k, hk, rfl, hown, hb, hgood⟩ := hrel
    by_cases hlt : k < n
    · obtain ⟨x, hx⟩ : ∃ x, x = l[k]?.getD 0 := ⟨_, rfl⟩
      have htake : l.take (k + 1) = l.take k ++ [x] := by rw [List.take_add_one, hx, List.getElem?_eq_getElem (by omega)]; simp
      obtain ⟨b, off, rfl, hbB, hc⟩ := (hr.below hb hB).at_ (k := k) (by omega)
      rw [← hx] at hc
      have HX := Lib.hid hx
      have HT := Lib.hid htake
      have HG := Lib.hid hgood
      clear hx htake hgood
      by_cases hbad : x < 0 ∨ 72057594037927936 ≤ x
      · have hres : r = none := by
          rw [HR0.out]
          unfold readText
          rw [if_pos]
          rw [List.any_eq_true]
          refine ⟨x, by rw [HX.out, List.getElem?_eq_getElem (by omega)]; simp, ?_⟩
          simpa [badWord] using hbad
        have HA := Lib.hid hres
        clear hres
        rcases hbad with hbad | hbad
        · go_wp2_with fail
          go_ret2
          exact ⟨by rw [HA.out]; rfl, hb⟩
        · have h0 : ¬ x < 0 := by omega
          go_wp2_with fail
          go_ret2
          exact ⟨by rw [HA.out]; rfl, hb⟩
      · have h0 : ¬ x < 0 := by omega
        have h1 : x < 72057594037927936 := by omega
        go_wp2_with fail
        go_loopw [6, 41] (fun p q wi => ∃ j : Nat, j ≤ 7 ∧ q = .int .i64 (j : Int) ∧ wi.ownsRow w.heap.size 5 1 p (7 * k + j) (intRow8 (bytesOfWords (l.take k) ++ (List.range j).map (byteI x))) ∧ Below w.heap.size w wi)
          (fun _ q _ => 7 - (intOf q).toNat)
        case atStart => exact ⟨0, Nat.zero_le _, rfl, by simpa using hown, hb⟩
        case round =>
          obtain ⟨j, hj, rfl, hownj, hbj⟩ := hrel
          by_cases hj7 : j < 7
          · have hmax : 7 * k + j + 1 ≤ maxLen := by unfold maxLen; omega
            go_wp2_with (at_builtin; refine wpList_append_own _ rfl _ _ 144 rfl w.heap.size 5 i0 (.int .u8 0) 1 1 Try.underlying144 hi hz0 hz1 hz2 rfl (by decide) _ _ _ rfl (hownj.alloc _) ⟨wr.heap.size, 0, none⟩ 1 1 [.int .u8 (byteI x j)] rfl rfl (cell_one_new _ _ _) (by simp [Value.oneCell']) (by omega) (by omega) (by have := hbj.size; simp; omega) ?_; intro v' w3 hown' hgrow3 _)
            refine ⟨⟨j + 1, by omega, by simp, ?_, (hbj.alloc hbj.size _).grown hgrow3 (by have := hbj.size; simp; omega) (own_base hownj)⟩, by simp [intOf]; omega⟩
            rw [List.range_succ, List.map_append, ← List.append_assoc]
            rw [show 7 * k + (j + 1) = 7 * k + j + 1 from rfl]
            simpa [intRow8] using hown'
          · obtain rfl : j = 7 := by omega
            have HJ := Lib.hid hownj
            clear hownj
            go_wp2_with fail
            refine ⟨⟨k + 1, by omega, by simp, ?_, hbj, ?_⟩, by simp [intOf]; omega⟩
            · rw [HT.out, show 7 * (k + 1) = 7 * k + 7 by omega]
              simpa [bytesOfWords, bytesOfWord] using HJ.out
            · rw [HT.out, List.any_append, HG.out]
              simp [badWord, h0, h1]
    · obtain rfl : k = n := by omega
      have htl : l.take k = l := List.take_of_length_le (by omega)
      rw [htl] at hown hgood
      have hlen : (bytesOfWords l).length = 7 * k := by simpa [intRow8] using hown.1
      obtain ⟨bs, hbs⟩ : ∃ bs, bs = bytesOfWords l := ⟨_, rfl⟩
      rw [← hbs] at hown hlen
      have hres : r = if (bs.drop m).any (· ≠ 0) then none else some (strOf (bs.take m)) := by
        rw [HR0.out]
        unfold readText
        rw [hgood, ← hbs]
        simp
      have HRES := Lib.hid hres
      have HBS := Lib.hid hbs
      clear hres htl hgood hbs
      have hm7 : m ≤ 7 * k := by omega
      rcases hown.2 with ⟨rfl, h0⟩ | ⟨g, cap, cur, rfl, hbg, hg, hnc, hcm, hcs, htk⟩
      · have hk0 : k = 0 := by omega
        subst hk0
        have hm0 : m = 0 := by omega
        subst hm0
        have hnil : r = some (ByteArray.mk #[]) := by
          have : bs = [] := List.eq_nil_of_length_eq_zero (by omega)
          rw [HRES.out, this]; rfl
        have HA := Lib.hid hnil
        clear hnil
        go_wp2_with fail
        go_loopw [59] (fun q wi => q = .int .i64 0 ∧ wi = wr) (fun _ _ => 0)
        case atStart => exact ⟨rfl, rfl⟩
        case round =>
          obtain ⟨rfl, rfl⟩ := hrel
          have hcv := run_convert_bytes_nil (P := Try.prog) wr 144 5 Try.underlying144 Try.underlying5 0 0
          go_wp2_with fail
          go_ret2
          exact ⟨by rw [HA.out]; rfl, hb⟩
      · have hget : ∀ i, i < 7 * k → wr.cell? ⟨g, i, none⟩ = some (.int .u8 (bs[i]?.getD 0)) := fun i hi => by
          have e : (cur.toList.take (7 * k * 1))[i]? = some (.int .u8 (bs[i]?.getD 0)) := by rw [htk]; simp [intRow8, List.getElem?_eq_getElem (show i < bs.length by omega)]
          rw [cells_of_block hg]
          rw [List.getElem?_take] at e
          split at e
          · simpa using e
          · cases e
        have HD := Lib.hid hget
        have HL := Lib.hid hlen
        clear hget hlen hown hg hcs htk
        have hcap : cap ≤ 9223372036854775807 := by simp only [maxLen] at hcm; omega
        have hcv : (convert 144 9 (.slice (some ⟨g, 0, none⟩) m cap)).run Try.prog wr = .ok (.string (strOf (bs.take m))) wr :=
          strOf_run wr g m cap bs (by rw [HL.out]; omega) (by rw [HBS.out]; exact bytes_range l) (fun i hi => HD.out i (by omega))
        by_cases hmc : m = cap
        · subst hmc
          have hmk7 : 7 * k = m := by omega
          have hall : r = some (strOf (bs.take m)) := by rw [HRES.out, List.drop_of_length_le (by rw [HL.out]; omega)]; rfl
          have HA := Lib.hid hall
          clear hall
          go_wp2_with fail
          go_loopw [59] (fun q wi => q = .int .i64 0 ∧ wi = wr) (fun _ _ => 0)
          case atStart => exact ⟨rfl, rfl⟩
          case round =>
            obtain ⟨rfl, rfl⟩ := hrel
            go_wp2_with fail
            go_ret2
            exact ⟨by rw [HA.out]; rfl, hb⟩
        · go_wp2_with fail
          go_loopw [59] (fun q wi => ∃ j : Nat, q = .int .i64 (j : Int) ∧ j ≤ 7 * k - m ∧ wi = wr ∧ ∀ i, i < j → bs[m + i]?.getD 0 = 0) (fun q _ => 7 * k - m - (intOf q).toNat)
          case atStart => exact ⟨0, rfl, Nat.zero_le _, rfl, fun i hi => by omega⟩
          case round =>
            obtain ⟨j, rfl, hj, rfl, hz⟩ := hrel
            have HZ := Lib.hid hz
            clear hz
            by_cases hjm : j < 7 * k - m
            · obtain ⟨y, hy⟩ : ∃ y, y = bs[m + j]?.getD 0 := ⟨_, rfl⟩
              have hcy := HD.out (m + j) (by omega)
              rw [← hy] at hcy
              have HY := Lib.hid hy
              clear hy
              by_cases hy0 : y = 0
              · subst hy0
                go_wp2_with fail
                refine ⟨⟨j + 1, by simp, by omega, trivial, fun i hi => ?_⟩, by simp [intOf]; omega⟩
                rcases Nat.lt_succ_iff_lt_or_eq.1 hi with h | rfl
                · exact HZ.out i h
                · exact HY.out.symm
              · have hany : r = none := by
                  rw [HRES.out, if_pos]
                  rw [List.any_eq_true]
                  refine ⟨y, ?_, by simpa using hy0⟩
                  rw [HY.out, List.getElem?_eq_getElem (by rw [HL.out]; omega)]
                  exact List.mem_drop_iff_getElem.2 ⟨j, by rw [HL.out]; omega, rfl⟩
                have HA := Lib.hid hany
                clear hany
                go_wp2_with fail
                go_ret2
                exact ⟨by rw [HA.out]; rfl, hb⟩
            · obtain rfl : j = 7 * k - m := by omega
              have hall : r = some (strOf (bs.take m)) := by
                rw [HRES.out, if_neg]
                rw [List.any_eq_true]
                rintro ⟨x, hx, hx0⟩
                obtain ⟨i, hi, rfl⟩ := List.mem_drop_iff_getElem.1 hx
                have e := HZ.out i (by rw [HL.out] at hi; omega)
                have hi' : m + i < bs.length := by omega
                rw [List.getElem?_eq_getElem hi'] at e
                simp at hx0 e
                exact hx0 e
              have HA := Lib.hid hall
              clear hall
              go_wp2_with fail
              go_ret2
              exact ⟨by rw [HA.out]; rfl, hb⟩
end Go.Proofs.Ytkkaabagehjmbaa
