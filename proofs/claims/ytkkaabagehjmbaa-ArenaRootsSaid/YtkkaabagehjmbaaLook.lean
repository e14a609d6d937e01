/-
  arena.look.
-/
import Derived.Test.YtkkaabagehjmbaaChain
set_option linter.unusedSimpArgs false
set_option linter.unusedVariables false
namespace Go.Proofs.Ytkkaabagehjmbaa
open Go.RowKit Go.Shelf Crc
attribute [local go_sem ↓] Go.wp_at_zero Go.wp_at_succ

/-- A text's being above another, and not below it. -/
def gtS (a b : ByteArray) : Bool := !(Op.bytesLess a.toList b.toList || a.toList == b.toList)
def geS (a b : ByteArray) : Bool := !(Op.bytesLess a.toList b.toList)
def maxS (a b : ByteArray) : ByteArray := if Op.bytesLess a.toList b.toList then b else a

/-- What look asks of a leaf's slots. -/
def slotsGo (l : List Int) (low : ByteArray) : Nat → ByteArray → List Int → Bool
  | _, _, [] => true
  | k, last, s :: rest =>
    match readRec l s with
    | .ok x => (decide (x.kind = 1) && geS x.key low && (k == 0 || gtS x.key last)) && slotsGo l low (k + 1) (maxS last x.key) rest
    | .error _ => false
/-- What look asks of the leaves. -/
def lookGo (l : List Int) : Nat → ByteArray → List Int → Bool
  | _, _, [] => true
  | i, last, at' :: rest =>
    match readNode l at' with
    | .ok nd =>
      match lowVal l nd.low with
      | some low => ((i == 0 && decide (nd.low = 0)) || (decide (0 < i) && gtS low last)) && slotsGo l low 0 low (Lib.compact nd.slots) && lookGo l (i + 1) low rest
      | none => false
    | .error _ => false
def lookOf (l : List Int) : Option (List Int) := match chainOf l with | some out => cond (lookGo l 0 (ByteArray.mk #[]) out) (some out) none | none => none

theorem readNode_slots {l : List Int} {at' : Int} {nd : NodeV} (h : readNode l at' = .ok nd) : nd.slots.length ≤ 13 := by
  unfold readNode at h
  split at h
  · cases h
  · split at h
    · rename_i hok
      cases h
      simp only [Bool.and_eq_true] at hok
      have := hok.1
      unfold NodeV.ok nodeOk at this
      simp only [Bool.and_eq_true, decide_eq_true_eq] at this
      exact this.2.2.2.2.2.2.1
    · cases h

theorem PostChain.panicked {w w' : World} (h : Below w.heap.size w w') : PostChain w none (.panicked Corrupt) w' := ⟨rfl, h⟩

theorem run_maxS (ts : Array TypeId) (t : TypeId) (a b : ByteArray) (P : Program) (w : World) : (Builtin.max_ ts t #[.string a, .string b]).run P w = .ok (.string (maxS a b)) w := by
  unfold maxS
  cases h : Op.bytesLess a.toList b.toList <;> simp [Builtin.max_, Builtin.max2, Op.stringOp, asBool, h]

theorem body_panic {P : Program} {fn : Func} {R : Ending → World → Prop} {a : Act} {w : World} {ch : List PanicEntry} (hd : a.defers = []) (hR : R (.panicked ch) w) : bodyPost P fn R (.panic ch) a w := ⟨hd, hR⟩

set_option maxHeartbeats 2000000 in
set_option maxRecDepth 100000 in
theorem look_any (A : Option Addr) (n c B : Nat) (l : List Int) (hn : l.length = n) (hnc : n ≤ c) (hbig : c ≤ 9223372036854775807) (w : World) (hB : B ≤ w.heap.size) (hr : RInts w B A l) :
    Calls Try.prog 51 #[.slice A n c] w (PostChain w (lookOf l)) := by
  have HC := Lib.hid (chain_any A n c B l hn hnc hbig w hB hr)
  have HN := Lib.hid (fun at' w' (hb : Below w.heap.size w w') => nodeOf_any A n c B at' l hn hnc hbig w' (Nat.le_trans hB hb.size) (hr.below hb hB))
  have HLw := Lib.hid (fun (lev turn next low : Int) (A' : Option Addr) (k' c' : Nat) w' (hb : Below w.heap.size w w') => lowOf_any A A' n c B k' c' lev turn next low l hn hnc hbig w' (Nat.le_trans hB hb.size) (hr.below hb hB))
  have HRc := Lib.hid (fun at' w' (hb : Below w.heap.size w w') => recRead_any A n c B at' l hn hnc hbig w' (Nat.le_trans hB hb.size) (hr.below hb hB))
  obtain ⟨r, hr_⟩ : ∃ r, r = lookOf l := ⟨_, rfl⟩
  rw [← hr_]
  unfold lookOf at hr_
  have HR := Lib.hid hr_
  clear hr_ hr
  go_enter Try.func51, Try.ntmps51
  go_wp2_with fail
  refine HC.out.mono ?_
  intro e w1 hp
  rcases hch : chainOf l with _ | out
  · rw [hch] at hp
    obtain ⟨rfl, hb⟩ := hp
    have : r = none := by rw [HR.out, hch]
    subst this
    exact ⟨rfl, rfl, hb⟩
  · rw [hch] at hp
    obtain ⟨Ao, co, rfl, hoc, hom, hro, hb1⟩ := hp
    have hres : r = cond (lookGo l 0 (ByteArray.mk #[]) out) (some out) none := by rw [HR.out, hch]
    have HRes := Lib.hid hres
    have HRo := Lib.hid hro
    have HB1 := Lib.hid hb1
    clear hres hch HC HR hro hb1
    have hbs1 : w.heap.size ≤ w1.heap.size := HB1.out.size
    have hom2 : co ≤ 9223372036854775807 := by simp only [maxLen] at hom; omega
    go_wp2_with fail
    go_loopw [4, 17] (fun p q wr => ∃ (k : Nat) (last : ByteArray), p = .string last ∧ q = .int .i64 (k : Int) ∧ k ≤ out.length ∧ Below w1.heap.size w1 wr ∧ r = cond (lookGo l k last (out.drop k)) (some out) none)
      (fun _ q _ => out.length - (intOf q).toNat)
    case atStart => exact ⟨0, ByteArray.mk #[], rfl, rfl, Nat.zero_le _, Below.refl _ _, HRes.out⟩
    case round =>
      obtain ⟨k, last, rfl, rfl, hk, hb, hres⟩ := hrel
      by_cases hlt : k < out.length
      · obtain ⟨at', hat⟩ : ∃ x, x = out[k]?.getD 0 := ⟨_, rfl⟩
        have hdrop : out.drop k = at' :: out.drop (k + 1) := by rw [List.drop_eq_getElem_cons hlt, hat, List.getElem?_eq_getElem hlt]; rfl
        rw [hdrop] at hres
        obtain ⟨b, o, rfl, _, hc⟩ := (HRo.out.below hb (Nat.le_refl _)).at_ hlt
        rw [← hat] at hc
        have hbw := HB1.out.trans (hb.mono hbs1)
        have HRes2 := Lib.hid hres
        clear hat hdrop hres HRes
        unfold lookGo at HRes2
        rcases hnode : readNode l at' with x | nd
        · have e1 : r = none := by rw [HRes2.out, hnode]; rfl
          subst e1
          have HNode := Lib.hid hnode
          clear hnode
          go_wp2_with fail
          refine (HN.out at' wr hbw).mono ?_
          rw [HNode.out]
          rintro e w2 ⟨rfl, hb2⟩
          exact ⟨rfl, rfl, hbw.trans (hb2.mono hbw.size)⟩
        · rw [hnode] at HRes2
          have hn13 := readNode_slots hnode
          have HNode := Lib.hid hnode
          clear hnode
          go_wp2_with fail
          refine (HN.out at' wr hbw).mono ?_
          rw [HNode.out]
          rintro e w2 ⟨A1, k1, c1, rfl, hk1, hkc1, hr1, hb2, _⟩
          have hb3 := hb2.alloc hb2.size (.cells (nodeCells nd.lev nd.turn nd.next nd.low A1 k1 c1) 37)
          have hX := Blk.new w2 37 (nodeCells nd.lev nd.turn nd.next nd.low A1 k1 c1)
          have hr3 := hr1.alloc (Nat.le_refl _) (.cells (nodeCells nd.lev nd.turn nd.next nd.low A1 k1 c1) 37)
          have HLd := nodeLoad hX
          go_upto_region 7 with fail
          generalize w2.alloc (.cells (nodeCells nd.lev nd.turn nd.next nd.low A1 k1 c1) 37) = w3 at *
          have hb4 := hbw.trans (hb3.mono hbw.size)
          have hbb : Below w1.heap.size w1 w3 := hb.trans (hb3.mono hb.size)
          have hltX := hX.lt
          have HR3 := Lib.hid hr3
          have HK1 := Lib.hid hk1
          clear hr1 hb2 hr3 hb3 hk1
          go_wp2_with (with_reducible refine wpList_load_r rfl _ _ rfl rfl HLd ?_)
          refine (HLw.out _ _ _ _ _ _ _ w3 hb4).mono ?_
          intro e w4 hp
          rcases hlow : lowVal l nd.low with _ | low
          · rw [hlow] at hp
            obtain ⟨rfl, hb5⟩ := hp
            have e1 : r = none := by rw [HRes2.out, hlow]; rfl
            subst e1
            exact ⟨rfl, rfl, hb4.trans (hb5.mono hb4.size)⟩
          · rw [hlow] at hp HRes2
            obtain ⟨rfl, hb5⟩ := hp
            have hX4 := hX.below hb5 hltX
            have hlt4 := hX4.lt
            have d3 : w4.cell? ⟨w2.heap.size, 3, none⟩ = some (.int .i64 nd.low) := hX4.cell 3
            have d4 : w4.cell? ⟨w2.heap.size, 4, none⟩ = some (.slice A1 k1 c1) := hX4.cell 4
            have hb6 := hb4.trans (hb5.mono hb4.size)
            have hbb6 : Below w1.heap.size w1 w4 := hbb.trans (hb5.mono hbb.size)
            have HR4 := Lib.hid (HR3.out.below hb5 (Nat.le_of_lt hltX))
            have hs34 : w3.heap.size ≤ w4.heap.size := hb5.size
            clear hX hltX HLd hb4 hb5 hbb HR3 hbw hc hb
            go_upto_region 8 with fail
            obtain ⟨cnd, hcnd⟩ : ∃ x, x = ((k == 0 && decide (nd.low = 0)) || (decide (0 < k) && gtS low last)) := ⟨_, rfl⟩
            have HRes3 : Hid (r = cond (cnd && slotsGo l low 0 low (Lib.compact nd.slots) && lookGo l (k + 1) low (List.drop (k + 1) out)) (some out) none) := by rw [hcnd]; exact HRes2
            have HCnd := Lib.hid hcnd
            clear HRes2 hcnd
            go_cut [8] (fun s8 wx => s8 = .string low ∧ wx = w4 ∧ cnd = true)
            case first =>
              by_cases hk0 : k = 0
              · subst hk0
                by_cases hl0 : nd.low = 0
                · have e1 : cnd = true := by rw [HCnd.out]; simp [hl0]
                  have HE := Lib.hid e1
                  rw [hl0] at d3
                  clear e1 hl0
                  go_wp2_with (first | (go_at_call 82; refine (sound_yes _).mono ?_; rintro e w5 ⟨rfl, rfl⟩))
                  go_meet
                  exact ⟨rfl, rfl, HE.out⟩
                · have e1 : cnd = false := by rw [HCnd.out]; simp [hl0]
                  have e2 : r = none := by rw [HRes3.out, e1]; rfl
                  have h00 : (nd.low == 0) = false := by simpa using hl0
                  subst e2
                  clear HRes3 e1
                  go_wp2_with (first | (go_at_call 82; refine (sound_no _).mono ?_; rintro e w5 ⟨rfl, rfl⟩))
                  exact ⟨rfl, rfl, hb6⟩
              · have hk00 : (0 : Int) < (k : Int) := by omega
                rcases hgt : gtS low last with _ | _
                · have e1 : cnd = false := by rw [HCnd.out, hgt]; simp [hk0]
                  have e2 : r = none := by rw [HRes3.out, e1]; rfl
                  subst e2
                  have hgt' := hgt
                  unfold gtS at hgt'
                  clear HRes3 e1
                  go_wp2_with (first | (go_at_call 82; refine (sound_no _).mono ?_; rintro e w5 ⟨rfl, rfl⟩))
                  exact ⟨rfl, rfl, hb6⟩
                · have e1 : cnd = true := by rw [HCnd.out, hgt]; simp; omega
                  have HE := Lib.hid e1
                  have hgt' := hgt
                  unfold gtS at hgt'
                  clear e1
                  go_wp2_with (first | (go_at_call 82; refine (sound_yes _).mono ?_; rintro e w5 ⟨rfl, rfl⟩))
                  go_meet
                  exact ⟨rfl, rfl, HE.out⟩
            case rest =>
              obtain ⟨rfl, rfl, hcn⟩ := hcut
              have hres4 : r = cond (slotsGo l low 0 low (Lib.compact nd.slots) && lookGo l (k + 1) low (List.drop (k + 1) out)) (some out) none := by rw [HRes3.out, hcn]; rfl
              have HRes4 := Lib.hid hres4
              clear HRes3 HCnd hcn hres4
              go_wp2_with fail
              refine (plain_any A1 k1 c1 _ nd.slots HK1.out (by have := HK1.out; omega) wc HR4.out).mono ?_
              rintro e w5 ⟨Ac, m, cc, rfl, hm, hmc, hrc, hb7⟩
              obtain ⟨cs, hcs⟩ : ∃ cs, cs = Lib.compact nd.slots := ⟨_, rfl⟩
              rw [← hcs] at hm hrc HRes4
              have hcs13 : m ≤ 13 := by
                have h1 : cs.length ≤ nd.slots.length := by
                  rw [hcs]
                  unfold Lib.compact Lib.compactUpTo
                  rw [List.length_map]
                  exact Nat.le_trans (List.length_filter_le _ _) (by simp)
                omega
              have hbw5 : Below w.heap.size w w5 := hb6.trans (hb7.mono hb6.size)
              have hbb5 : Below w1.heap.size w1 w5 := hbb6.trans (hb7.mono hbb6.size)
              have HRC := Lib.hid hrc
              have HM := Lib.hid hm
              clear hcs hrc hb7 hb6 hbb6 d3 d4 hX4 HR4 hm HK1
              go_wp2_with fail
              go_loopw [4, 50] (fun p q wx => ∃ (j : Nat) (las : ByteArray), p = .string las ∧ q = .int .i64 (j : Int) ∧ j ≤ m ∧ Below w5.heap.size w5 wx ∧ r = cond (slotsGo l low j las (cs.drop j) && lookGo l (k + 1) low (List.drop (k + 1) out)) (some out) none)
                (fun _ q _ => m - (intOf q).toNat)
              case atStart => exact ⟨0, low, rfl, rfl, Nat.zero_le _, Below.refl _ _, HRes4.out⟩
              case round =>
                rename_i wx
                obtain ⟨j, las, rfl, rfl, hj, hbx, hres⟩ := hrel
                by_cases hjm : j < m
                · obtain ⟨s, hs⟩ : ∃ x, x = cs[j]?.getD 0 := ⟨_, rfl⟩
                  have hjl : j < cs.length := by have := HM.out; omega
                  have hdrop : cs.drop j = s :: cs.drop (j + 1) := by rw [List.drop_eq_getElem_cons hjl, hs, List.getElem?_eq_getElem hjl]; rfl
                  rw [hdrop] at hres
                  obtain ⟨bc, oc, rfl, _, hc⟩ := (HRC.out.below hbx (Nat.le_refl _)).at_ hjl
                  rw [← hs] at hc
                  have hbwx := hbw5.trans (hbx.mono hbw5.size)
                  have HResx := Lib.hid hres
                  clear hs hdrop hres HRes4 hjl
                  unfold slotsGo at HResx
                  rcases hrec : readRec l s with x | x
                  · have e1 : r = none := by rw [HResx.out, hrec]; rfl
                    have hx : ¬ x = 0 := by
                      unfold readRec at hrec
                      split at hrec
                      · cases hrec; decide
                      · split at hrec
                        · cases hrec
                        · cases hrec; decide
                    have hx0 : (x == 0) = false := by simpa using hx
                    have HRec := Lib.hid hrec
                    subst e1
                    clear hrec hx HResx
                    go_wp2_with fail
                    refine (HRc.out s _ hbwx).mono ?_
                    rw [HRec.out]
                    rintro e w6 ⟨rfl, hb8⟩
                    have hN := Blk.new w6 59 (recCells 0 (ByteArray.mk #[]) (ByteArray.mk #[]) 0)
                    have hb9 := hbwx.trans (hb8.mono hbwx.size)
                    have hb10 : Below w.heap.size w ((w6.alloc (.cells #[.int .i64 0, .string (ByteArray.mk #[]), .string (ByteArray.mk #[]), .int .i64 0] 59)).setRow w6.heap.size (recCells 0 (ByteArray.mk #[]) (ByteArray.mk #[]) 0)) := below_setRow (hb9.alloc hb9.size _) hb9.size _
                    have HS : StoreRow Try.prog (w6.alloc (.cells #[.int .i64 0, .string (ByteArray.mk #[]), .string (ByteArray.mk #[]), .int .i64 0] 59)) w6.heap.size 59 59 #[.int .i64 0, .string (ByteArray.mk #[]), .string (ByteArray.mk #[]), .int .i64 0] (recCells 0 (ByteArray.mk #[]) (ByteArray.mk #[]) 0) := recStore (kind' := 0) (key' := ByteArray.mk #[]) (val' := ByteArray.mk #[]) (child' := 0) hN
                    go_wp2_with (first | (go_at_call 82; refine (sound_no _).mono ?_; rintro e w7 ⟨rfl, rfl⟩) | (with_reducible refine wpList_store_r rfl _ _ _ rfl rfl rfl HS ?_))
                    exact body_panic rfl (PostChain.panicked hb10)
                  · have hres2 : r = cond (((decide (x.kind = 1) && geS x.key low && (j == 0 || gtS x.key las)) && slotsGo l low (j + 1) (maxS las x.key) (cs.drop (j + 1))) && lookGo l (k + 1) low (List.drop (k + 1) out)) (some out) none := by
                      rw [HResx.out, hrec]
                    have HRes5 := Lib.hid hres2
                    have HRec := Lib.hid hrec
                    clear hrec HResx hres2
                    go_wp2_with fail
                    refine (HRc.out s _ hbwx).mono ?_
                    rw [HRec.out]
                    rintro e w6 ⟨rfl, hb8⟩
                    have hN := Blk.new w6 59 (recCells 0 (ByteArray.mk #[]) (ByteArray.mk #[]) 0)
                    have hb9 := hbwx.trans (hb8.mono hbwx.size)
                    have hbx9 := hbx.trans (hb8.mono hbx.size)
                    have HS : StoreRow Try.prog (w6.alloc (.cells #[.int .i64 0, .string (ByteArray.mk #[]), .string (ByteArray.mk #[]), .int .i64 0] 59)) w6.heap.size 59 59 #[.int .i64 0, .string (ByteArray.mk #[]), .string (ByteArray.mk #[]), .int .i64 0] (recCells x.kind x.key x.val x.child) := recStore (kind' := x.kind) (key' := x.key) (val' := x.val) (child' := x.child) hN
                    have hN2 : Blk ((w6.alloc (.cells #[.int .i64 0, .string (ByteArray.mk #[]), .string (ByteArray.mk #[]), .int .i64 0] 59)).setRow w6.heap.size (recCells x.kind x.key x.val x.child)) w6.heap.size 59 (recCells x.kind x.key x.val x.child) := hN.setRow _
                    have hb10 : Below w.heap.size w ((w6.alloc (.cells #[.int .i64 0, .string (ByteArray.mk #[]), .string (ByteArray.mk #[]), .int .i64 0] 59)).setRow w6.heap.size (recCells x.kind x.key x.val x.child)) := below_setRow (hb9.alloc hb9.size _) hb9.size _
                    have hbx10 : Below w5.heap.size w5 ((w6.alloc (.cells #[.int .i64 0, .string (ByteArray.mk #[]), .string (ByteArray.mk #[]), .int .i64 0] 59)).setRow w6.heap.size (recCells x.kind x.key x.val x.child)) := below_setRow (hbx9.alloc hbx9.size _) hbx9.size _
                    clear hN hb9 hbx9 hb8 hbx hbwx hc
                    go_upto_region 14 with (with_reducible refine wpList_store_r rfl _ _ _ rfl rfl rfl HS ?_)
                    clear HS
                    generalize (w6.alloc (.cells #[.int .i64 0, .string (ByteArray.mk #[]), .string (ByteArray.mk #[]), .int .i64 0] 59)).setRow w6.heap.size (recCells x.kind x.key x.val x.child) = w7 at *
                    generalize w6.heap.size = gx at *
                    have v0 : w7.cell? ⟨gx, 0, none⟩ = some (.int .i64 x.kind) := hN2.cell 0
                    have v1 : w7.cell? ⟨gx, 1, none⟩ = some (.string x.key) := hN2.cell 1
                    obtain ⟨cnd, hcnd⟩ : ∃ y, y = (decide (x.kind = 1) && geS x.key low && (j == 0 || gtS x.key las)) := ⟨_, rfl⟩
                    rw [← hcnd] at HRes5
                    have HCnd := Lib.hid hcnd
                    clear hcnd hN2
                    go_cut [12] (fun s12 wy => s12 = .int .i64 0 ∧ wy = w7 ∧ cnd = true)
                    case first =>
                      by_cases hkd : x.kind = 1
                      · rw [hkd] at v0
                        rcases hge : geS x.key low with _ | _
                        · have e1 : cnd = false := by rw [HCnd.out, hge]; simp
                          have e2 : r = none := by rw [HRes5.out, e1]; rfl
                          subst e2
                          have hge' := hge
                          unfold geS at hge'
                          clear HRes5 e1 HCnd
                          go_wp2_with (first | (go_at_call 82; refine (sound_no _).mono ?_; rintro e w8 ⟨rfl, rfl⟩))
                          exact body_panic rfl (PostChain.panicked hb10)
                        · have hge' := hge
                          unfold geS at hge'
                          by_cases hj0 : j = 0
                          · have e1 : cnd = true := by rw [HCnd.out, hge]; simp [hkd, hj0]
                            have HE := Lib.hid e1
                            subst hj0
                            clear e1
                            go_wp2_with (first | (go_at_call 82; refine (sound_yes _).mono ?_; rintro e w8 ⟨rfl, rfl⟩))
                            go_meet
                            exact ⟨rfl, rfl, HE.out⟩
                          · have hj00 : ¬ (j : Int) = 0 := by omega
                            have hj01 : ((j : Int) == 0) = false := by simpa using hj00
                            rcases hgt : gtS x.key las with _ | _
                            · have e1 : cnd = false := by rw [HCnd.out, hgt]; simp [hj0]
                              have e2 : r = none := by rw [HRes5.out, e1]; rfl
                              subst e2
                              have hgt' := hgt
                              unfold gtS at hgt'
                              clear HRes5 e1 HCnd
                              go_wp2_with (first | (go_at_call 82; refine (sound_no _).mono ?_; rintro e w8 ⟨rfl, rfl⟩))
                              exact body_panic rfl (PostChain.panicked hb10)
                            · have e1 : cnd = true := by rw [HCnd.out, hgt, hge]; simp [hkd]
                              have HE := Lib.hid e1
                              have hgt' := hgt
                              unfold gtS at hgt'
                              clear e1
                              go_wp2_with (first | (go_at_call 82; refine (sound_yes _).mono ?_; rintro e w8 ⟨rfl, rfl⟩))
                              go_meet
                              exact ⟨rfl, rfl, HE.out⟩
                      · have e1 : cnd = false := by rw [HCnd.out]; simp [hkd]
                        have e2 : r = none := by rw [HRes5.out, e1]; rfl
                        have hk0 : (x.kind == 1) = false := by simpa using hkd
                        subst e2
                        clear HRes5 e1 HCnd
                        go_wp2_with (first | (go_at_call 82; refine (sound_no _).mono ?_; rintro e w8 ⟨rfl, rfl⟩))
                        exact body_panic rfl (PostChain.panicked hb10)
                    case rest =>
                      obtain ⟨rfl, rfl, hcn⟩ := hcut
                      have e1 : r = cond (slotsGo l low (j + 1) (maxS las x.key) (cs.drop (j + 1)) && lookGo l (k + 1) low (List.drop (k + 1) out)) (some out) none := by rw [HRes5.out, hcn]; rfl
                      have HE := Lib.hid e1
                      have hmx := run_maxS #[9, 9] 9 las x.key Try.prog wc
                      clear HRes5 HCnd hcn e1
                      go_wp2_with fail
                      refine ⟨⟨j + 1, maxS las x.key, rfl, by simp, by omega, hbx10, HE.out⟩, by simp [intOf]; omega⟩
                · obtain rfl : j = m := by omega
                  have e1 : r = cond (lookGo l (k + 1) low (List.drop (k + 1) out)) (some out) none := by rw [hres, List.drop_of_length_le (by have := HM.out; omega)]; rfl
                  have HE := Lib.hid e1
                  have hbbx := hbb5.trans (hbx.mono hbb5.size)
                  clear hres HRes4 e1
                  go_wp2_with fail
                  refine ⟨⟨k + 1, low, rfl, by simp, by omega, hbbx, HE.out⟩, by simp [intOf]; omega⟩
      · obtain rfl : k = out.length := by omega
        have e1 : r = some out := by rw [hres, List.drop_length]; rfl
        subst e1
        clear hres HRes
        have hro2 := HRo.out.below hb (Nat.le_refl _)
        have HFin : Hid (PostChain w (some out) (.returned (.slice Ao out.length co)) wr) := Lib.hid ⟨Ao, co, rfl, hoc, hom, hro2.more hb.size, HB1.out.trans (hb.mono hbs1)⟩
        clear hro2
        go_wp2_with fail
        go_ret
        exact HFin.out
end Go.Proofs.Ytkkaabagehjmbaa
