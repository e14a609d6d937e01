/-
  arena.Reach.
-/
import Derived.Test.YtkkaabagehjmbaaHigher2
set_option linter.unusedSimpArgs false
set_option linter.unusedVariables false
namespace Go.Proofs.Ytkkaabagehjmbaa
open Go.RowKit Go.Shelf Crc Go.Maps
attribute [local go_sem ↓] Go.wp_at_zero Go.wp_at_succ

/-- higher stops at a leaf. -/
theorem higher_leaf (l : List Int) (n c B gr b1 b2 : Nat) (A : Option Addr) (hn : l.length = n) (hnc : n ≤ c) (hbig : c ≤ 9223372036854775807) (block : Int) (fv : Value) (w : World) (n1 n2 : Nat) (S1 S2 : List Int)
    (hs : RState w gr b1 b2 n1 n2 A n c S1 S2) (hr : RInts w B A l) (hB : B ≤ w.heap.size) (nd : NodeV) (hnode : readNode l block = .ok nd) (hlev : nd.lev = 0) :
    Calls Try.prog 55 #[.pointer (some ⟨gr, 0, none⟩), .int .i64 block, fv] w fun e w' => e = .returned (.tuple #[]) ∧ Below w.heap.size w w' := by
  have HRd := Lib.hid (nodeRead_any A n c B block l hn hnc hbig w hB hr)
  have r0 : w.cell? ⟨gr, 0, none⟩ = some (.slice A n c) := hs.var.cell 0
  rw [hnode] at HRd
  clear hnode hs hr
  go_enter Try.func55, Try.ntmps55
  go_wp2_with fail
  refine HRd.out.mono ?_
  rintro e w1 ⟨A1, k1, c1, rfl, _, _, _, hb1, _⟩
  have hb2 := hb1.alloc hb1.size (.cells (nodeCells nd.lev nd.turn nd.next nd.low A1 k1 c1) 37)
  have d0 : (w1.alloc (.cells (nodeCells nd.lev nd.turn nd.next nd.low A1 k1 c1) 37)).cell? ⟨w1.heap.size, 0, none⟩ = some (.int .i64 0) := by
    rw [← hlev]; exact (Blk.new w1 37 (nodeCells nd.lev nd.turn nd.next nd.low A1 k1 c1)).cell 0
  clear hb1 hlev HRd
  go_wp2_with fail
  exact bodyPost_ret (results_none rfl _ _ _) rfl ⟨rfl, hb2⟩

def baseS (l : List Int) (leaves : List Int) : List Int :=
  leaves.foldl (fun S at' => match readNode l at' with | .ok nd => addAll nd.slots (addLow nd.low (at' :: S)) | .error _ => S) [0]

theorem chainF_facts (l : List Int) : ∀ (k : Nat) (out : List Int) (at' : Int) (r : List Int), chainF l k out at' = some r → (∀ x ∈ out, ∃ nd, readNode l x = .ok nd ∧ nd.lev = 0) →
    r.length ≤ out.length + k ∧ ∀ x ∈ r, ∃ nd, readNode l x = .ok nd ∧ nd.lev = 0
  | 0, out, at', r, h, _ => by unfold chainF at h; cases h
  | k + 1, out, at', r, h, ho => by
    unfold chainF at h
    by_cases h0 : at' = 0
    · rw [if_pos h0] at h
      cases h
      exact ⟨by omega, ho⟩
    · rw [if_neg h0] at h
      rcases hn : readNode l at' with x | nd
      · rw [hn] at h; cases h
      · rw [hn] at h
        simp only at h
        split at h
        · rename_i hc
          simp only [Bool.and_eq_true, decide_eq_true_eq] at hc
          have := chainF_facts l k (out ++ [at']) nd.next r h (fun x hx => by
            rcases List.mem_append.1 hx with h' | h'
            · exact ho x h'
            · obtain rfl : x = at' := by simpa using h'
              exact ⟨nd, hn, hc.1⟩)
          simp at this
          exact ⟨by omega, this.2⟩
        · cases h

theorem lookOf_chain {l out : List Int} (h : lookOf l = some out) : superOk l = true ∧ chainF l (l.length / 16 + 1) [] 1 = some out := by
  unfold lookOf chainOf at h
  split at h
  · rename_i o ho
    split at ho
    · rename_i hs
      cases hg : lookGo l 0 (ByteArray.mk #[]) o
      · rw [hg] at h; cases h
      · rw [hg] at h
        have h' : some o = some out := h
        cases h'
        exact ⟨hs, ho⟩
    · cases ho
  · cases h

theorem superOk_blocks {l : List Int} (h : superOk l = true) : l[1]?.getD 0 = ((l.length / 16 : Nat) : Int) ∧ l.length / 16 ≤ 256 := by
  unfold superOk headMay at h
  simp only [Bool.and_eq_true, decide_eq_true_eq] at h
  exact ⟨by omega, by omega⟩

theorem But.below {b1 b2 B : Nat} {w0 w w' : World} (h : But b1 b2 w w') (hb : Below B w0 w) (h0 : B ≤ w.heap.size) (h1 : B ≤ b1) (h2 : B ≤ b2) : Below B w0 w' :=
  hb.trans ⟨h.os, h.tape, h.output, h.size, fun k hk => h.block k (by omega) (by omega) (by omega)⟩

/-- The numbers of a range that are set. -/
def reachOut (N : Nat) (S : List Int) : List Int := ((List.range N).map fun k : Nat => (k : Int)).filter fun x => decide (x ∈ S)
theorem reachOut_succ (k : Nat) (S : List Int) : reachOut (k + 1) S = if (k : Int) ∈ S then reachOut k S ++ [(k : Int)] else reachOut k S := by
  unfold reachOut
  rw [List.range_succ, List.map_append, List.filter_append]
  split <;> simp [*]
theorem reachOut_length (k : Nat) (S : List Int) : (reachOut k S).length ≤ k := by
  unfold reachOut
  refine Nat.le_trans (List.length_filter_le _ _) ?_
  simp

/-- The root is a leaf. -/
def leafRoot (l : List Int) : Prop := ∃ nd, readNode l (l[3]?.getD 0) = .ok nd ∧ nd.lev = 0

theorem higher_root (l : List Int) (n c B gr b1 b2 : Nat) (A : Option Addr) (hn : l.length = n) (hnc : n ≤ c) (hbig : c ≤ 9223372036854775807) (fv : Value) (w : World) (n1 n2 : Nat) (S1 S2 : List Int)
    (hs : RState w gr b1 b2 n1 n2 A n c S1 S2) (hr : RInts w B A l) (hB : B ≤ w.heap.size) (hm : MayOk w fv) (h1 : n1 + 1100 * unseen (n / 16) S2 + 1100 ≤ maxLen) (h2 : n2 + unseen (n / 16) S2 + 1 ≤ maxLen) :
    Calls Try.prog 55 #[.pointer (some ⟨gr, 0, none⟩), .int .i64 (l[3]?.getD 0), fv] w fun e w' =>
      e = .returned (.tuple #[]) ∧ ∃ n1' n2' S1' S2', RState w' gr b1 b2 n1' n2' A n c S1' S2' ∧ But b1 b2 w w' ∧ (∀ x ∈ S1, x ∈ S1') ∧ (leafRoot l → S1' = S1) := by
  by_cases hl : leafRoot l
  · obtain ⟨nd, hnd, hlev⟩ := id hl
    refine (higher_leaf l n c B gr b1 b2 A hn hnc hbig _ fv w n1 n2 S1 S2 hs hr hB nd hnd hlev).mono ?_
    rintro e w' ⟨rfl, hb⟩
    exact ⟨rfl, n1, n2, S1, S2, hs.below hb, .of_below hb, fun _ h => h, fun _ => rfl⟩
  · refine (higher_any l n c B gr b1 b2 A hn hnc hbig _ _ fv w n1 n2 S1 S2 hs hr hB hm (Nat.le_refl _) h1 h2).mono ?_
    rintro e w' ⟨rfl, n1', n2', S1', S2', a, b, c', _⟩
    exact ⟨rfl, n1', n2', S1', S2', a, b, c', fun h => absurd h hl⟩

/-- What Reach answers. -/
def PostReach (w : World) (l : List Int) : Option (List Int) → Ending → World → Prop
  | none, e, w' => e = .returned (.tuple #[.slice none 0 0, .int .i64 110]) ∧ Below w.heap.size w w'
  | some leaves, e, w' => ∃ A c S, e = .returned (.tuple #[.slice A (reachOut (l.length / 16) S).length c, .int .i64 0]) ∧ (reachOut (l.length / 16) S).length ≤ c ∧ c ≤ maxLen ∧
      (∀ x ∈ baseS l leaves, x ∈ S) ∧ (leafRoot l → S = baseS l leaves) ∧ RInts w' w'.heap.size A (reachOut (l.length / 16) S) ∧ Below w.heap.size w w'

theorem unseen_le : ∀ (N : Nat) (S : List Int), unseen N S ≤ N
  | 0, _ => Nat.le_refl _
  | N + 1, S => by have := unseen_le N S; unfold unseen; split <;> omega

theorem far_map {w : World} {base size n b m : Nat} {t : TypeId} {v : Value} {xs : List Value} {S : List Int} (h : w.ownsRow base t size v n xs) (hb : BMap w b m S) : some b ≠ v.ownBlock := by
  rcases h.2 with ⟨rfl, _⟩ | ⟨g', cap, cur, rfl, _, hg', _⟩
  · simp [Value.ownBlock]
  · intro e
    obtain rfl : b = g' := by simpa [Value.ownBlock] using e
    obtain ⟨D, ⟨es, clock, h1, _⟩, _⟩ := hb
    rw [h1] at hg'
    cases hg'
theorem RState.grown {w w' : World} {gr b1 b2 n1 n2 : Nat} {A : Option Addr} {n c : Nat} {S1 S2 : List Int} (h : RState w gr b1 b2 n1 n2 A n c S1 S2) {base size k : Nat} {v : Value} {xs : List Value} (hg : w.grownBy w' v.ownBlock) (ho : w.ownsRow base 3 size v k xs) : RState w' gr b1 b2 n1 n2 A n c S1 S2 :=
  ⟨(hg.block _ h.var.lt (far_of ho h.var)).trans h.var, h.m1.kept (hg.block _ h.m1.lt (far_map ho h.m1)), h.m2.kept (hg.block _ h.m2.lt (far_map ho h.m2)), h.ne⟩

set_option maxHeartbeats 2000000 in
set_option maxRecDepth 100000 in
theorem reach_any (A : Option Addr) (n c B : Nat) (l : List Int) (hn : l.length = n) (hnc : n ≤ c) (hbig : c ≤ 9223372036854775807) (w : World) (hB : B ≤ w.heap.size) (hr : RInts w B A l) :
    Calls Try.prog 18 #[.slice A n c] w (PostReach w l (lookOf l)) := by
  have hmf : ∀ (fn : Fn) (first cap : Array Value) (w : World), (Instr.makeFunc fn first cap).run Try.prog w = .ok (.func fn first cap) w := fun _ _ _ _ => rfl
  have hmm := @run_makeMap Try.prog
  obtain ⟨r, hr_⟩ : ∃ r, r = lookOf l := ⟨_, rfl⟩
  rw [← hr_]
  have HLk := Lib.hid hr_
  clear hr_
  have hG0 := Blk.new w 24 #[.int .i64 0]
  have hM := BMap.made (w.alloc (.cells #[.int .i64 0] 24))
  rw [World.size_alloc] at hM
  obtain ⟨w1, hrun1, hm1, hg1⟩ := hM.update (by unfold maxLen; omega) (wfI_small (x := 0) (by omega) (by omega))
  have hba : Below w.heap.size w ((w.alloc (.cells #[.int .i64 0] 24)).alloc (.map #[] 0)) := ((Below.refl _ w).alloc (Nat.le_refl _) _).alloc (by simp) _
  have hb1 : Below w.heap.size w w1 := hba.grown hg1 (by simp; omega) (fun k e => by cases e; omega)
  have hG1 : Blk w1 w.heap.size 24 #[.int .i64 0] := (hg1.block _ (by simp; omega) (by simp)).trans (hG0.alloc _)
  have hs1 : w.heap.size + 2 ≤ w1.heap.size := by have := hg1.size; simpa using this
  have hM2 := BMap.made w1
  have hb2 := hb1.alloc hb1.size (.map #[] 0)
  have hG2 := hG1.alloc (.map #[] 0)
  have hm1' : BMap (w1.alloc (.map #[] 0)) (w.heap.size + 1) 1 [0] := hm1.kept (Below.heap_alloc w1 _ _ hm1.lt)
  have hvar := Blk.new (w1.alloc (.map #[] 0)) 84 #[.slice A n c, .map (some (w.heap.size + 1)), .map (some w1.heap.size)]
  rw [World.size_alloc] at hvar
  have hb3 := hb2.alloc hb2.size (.cells #[.slice A n c, .map (some (w.heap.size + 1)), .map (some w1.heap.size)] 84)
  have hG3 := hG2.alloc (.cells #[.slice A n c, .map (some (w.heap.size + 1)), .map (some w1.heap.size)] 84)
  have hst : RState ((w1.alloc (.map #[] 0)).alloc (.cells #[.slice A n c, .map (some (w.heap.size + 1)), .map (some w1.heap.size)] 84)) (w1.heap.size + 1) (w.heap.size + 1) w1.heap.size 1 0 A n c [0] [] :=
    ⟨hvar, hm1'.kept (Below.heap_alloc _ _ _ hm1'.lt), hM2.kept (Below.heap_alloc _ _ _ hM2.lt), by omega⟩
  have HR3 := Lib.hid (hr.below hb3 hB)
  have HSt := Lib.hid hst
  have HB3 := Lib.hid hb3
  have HG3 := Lib.hid hG3
  clear hG0 hM hm1 hg1 hba hb1 hG1 hM2 hb2 hG2 hm1' hvar hb3 hG3 hst hr
  go_enter_defers Try.func18, Try.ntmps18
  go_upto_region 3 with fail
  generalize (w1.alloc (.map #[] 0)).alloc (.cells #[.slice A n c, .map (some (w.heap.size + 1)), .map (some w1.heap.size)] 84) = w3 at *
  generalize w1.heap.size = b2 at *
  clear hrun1
  clear w1
  have hbs3 : w.heap.size ≤ w3.heap.size := HB3.out.size
  have HC := Lib.hid (look_any A n c B l hn hnc hbig w3 (by omega) HR3.out)
  rw [← HLk.out] at HC
  go_wp2_with fail
  refine HC.out.mono ?_
  intro e w4 hp
  rcases r with _ | leaves
  · obtain ⟨rfl, hb4⟩ := hp
    refine told_out (w := w) (HG3.out.below hb4 HG3.out.lt) ?_
    intro w5 hG5 hb5
    refine ⟨.tuple #[.slice none 0 0, .int .i64 110], ?_, rfl, hb5 _ _ (Nat.le_refl _) (HB3.out.trans (hb4.mono hbs3))⟩
    have c2 := hG5.cell 0
    simp at c2
    simp [results, Try.func18, asAddr, go_sem, c2]
  · obtain ⟨Al, cl, rfl, hlc, hcm, hrl, hb4⟩ := hp
    obtain ⟨hsup, hch⟩ := lookOf_chain HLk.out.symm
    obtain ⟨hblk, h256⟩ := superOk_blocks hsup
    obtain ⟨hlen, hnodes⟩ := chainF_facts l _ _ _ _ hch (by simp)
    have hlen' : leaves.length ≤ 257 := by simp at hlen; omega
    have HNodes := Lib.hid hnodes
    have HSup := Lib.hid hsup
    have HBlk := Lib.hid hblk
    have HS4 := Lib.hid (HSt.out.below hb4)
    have HB4 := Lib.hid (HB3.out.trans (hb4.mono hbs3))
    have HG4 := Lib.hid (HG3.out.below hb4 HG3.out.lt)
    have HR4 := Lib.hid (HR3.out.below hb4 (by omega))
    have HRl := Lib.hid hrl
    have hbs4 : w.heap.size ≤ w4.heap.size := HB4.out.size
    rw [hn] at h256
    clear hch hlen hnodes hsup hblk hrl hb4 HC HSt HB3 HG3 HR3 HLk
    go_wp2_with fail
    go_loopw [20] (fun q wr => ∃ (k m1 : Nat) (S : List Int), q = .int .i64 (k : Int) ∧ k ≤ leaves.length ∧ RState wr (b2 + 1) (w.heap.size + 1) b2 m1 0 A n c S [] ∧ But (w.heap.size + 1) b2 w4 wr ∧ m1 ≤ 1 + 1100 * k ∧ S = baseS l (leaves.take k))
      (fun q _ => leaves.length - (intOf q).toNat)
    case atStart => exact ⟨0, 1, [0], rfl, Nat.zero_le _, HS4.out, But.refl _ _ _, by omega, rfl⟩
    case round =>
      obtain ⟨k, m1, S, rfl, hk, hs, hb, hm1, hS⟩ := hrel
      have HRr := Lib.hid (hb.list HR4.out (by omega) HS4.out.m1 HS4.out.m2)
      have hbr := hb.below HB4.out hbs4 (Nat.le_succ _) (by omega)
      have hsr : w.heap.size ≤ wr.heap.size := hbr.size
      by_cases hlt : k < leaves.length
      · obtain ⟨at', hat⟩ : ∃ x, x = leaves[k]?.getD 0 := ⟨_, rfl⟩
        have htk : leaves.take (k + 1) = leaves.take k ++ [at'] := by rw [List.take_add_one, hat, List.getElem?_eq_getElem hlt]; rfl
        have hmem : at' ∈ leaves := by rw [hat, List.getElem?_eq_getElem hlt]; exact List.getElem_mem hlt
        obtain ⟨bb, oo, rfl, _, hc⟩ := (hb.list HRl.out (Nat.le_refl _) HS4.out.m1 HS4.out.m2).at_ hlt
        rw [← hat] at hc
        obtain ⟨nd, hnode, hl0⟩ := HNodes.out at' hmem
        clear hl0
        have hbase : baseS l (leaves.take (k + 1)) = addAll nd.slots (addLow nd.low (at' :: S)) := by
          rw [htk, hS]
          unfold baseS
          rw [List.foldl_append]
          simp only [List.foldl_cons, List.foldl_nil, hnode]
        have hin : 0 ≤ at' ∧ at' < 9223372036854775808 := by
          have := hnode
          unfold readNode at this
          split at this
          · cases this
          · omega
        obtain ⟨hlw, hsw, hs13⟩ := readNode_wf hnode
        have HNo := Lib.hid (nodeOf_any A n c B at' l hn hnc hbig wr (by omega) HRr.out)
        rw [hnode] at HNo
        have HSr := Lib.hid hs
        have HBr := Lib.hid hb
        have HBase := Lib.hid hbase
        clear hs hb hS hat htk hmem hnode hbase
        go_wp2_with fail
        refine HNo.out.mono ?_
        rintro e w5 ⟨A1, k1, c1, rfl, hk1, hkc1, hr1, hb5, _⟩
        have HNd := Lib.hid (reachNode_any (b2 + 1) (w.heap.size + 1) b2 m1 0 n c k1 c1 w5.heap.size A A1 S [] nd.slots nd.lev nd.turn nd.next nd.low at' w5 (HSr.out.below hb5) hr1 (Nat.le_refl _) hk1 (by omega) (by unfold maxLen; omega) (wfI_small hin.1 hin.2) hlw hsw)
        have HB5 := Lib.hid (HBr.out.trans (.of_below hb5))
        clear hk1 hr1 hb5 hlw hsw
        go_wp2_with fail
        refine HNd.out.mono ?_
        rintro e w6 ⟨rfl, hs6, hb6⟩
        have HS6 := Lib.hid hs6
        have HB6 := Lib.hid (HB5.out.trans hb6)
        clear hs6 hb6
        go_wp2_with fail
        exact ⟨⟨k + 1, _, _, by simp, by omega, HS6.out, HB6.out, by omega, HBase.out.symm⟩, by simp [intOf]; omega⟩
      · obtain rfl : k = leaves.length := by omega
        rw [List.take_length] at hS
        have HSup2 := Lib.hid (superRead_any A n c l hn wr B (by omega) HRr.out hnc hbig)
        have HGr := Lib.hid (hb.rstate HG4.out HS4.out.m1 HS4.out.m2)
        have HSr := Lib.hid hs
        have HBr := Lib.hid hbr
        have HSb := Lib.hid hS
        clear hs hb hS hbr HS4 HB4 HG4 HR4 HRl
        go_wp2_with fail
        refine HSup2.out.mono ?_
        rintro e w5 ⟨hcase, hb5⟩
        have hcase' : e = .returned (.tuple #[.int .i64 (l[1]?.getD 0), .int .i64 (l[3]?.getD 0), .int .i64 0]) := by
          rcases hcase with ⟨_, h⟩ | ⟨h, _⟩
          · exact h
          · rw [HSup.out] at h; cases h
        subst hcase'
        rw [HBlk.out, hn]
        have HH := Lib.hid (higher_root l n c B (b2 + 1) (w.heap.size + 1) b2 A hn hnc hbig (.func (.func 56) #[] #[]) w5 m1 0 S [] (HSr.out.below hb5) (HRr.out.below hb5 (by omega)) (by have := hb5.size; omega) (may_all w5) (by have := unseen_le (n / 16) []; unfold maxLen; omega) (by have := unseen_le (n / 16) []; unfold maxLen; omega))
        have HG5 := Lib.hid (HGr.out.below hb5 HGr.out.lt)
        have HB5 := Lib.hid (HBr.out.trans (hb5.mono hsr))
        have hs5 : w.heap.size ≤ w5.heap.size := HB5.out.size
        have HSr5 := Lib.hid (HSr.out.below hb5)
        generalize l[3]?.getD 0 = root at *
        clear hb5 hcase HSup2 HGr HBr HSr HRr
        go_wp2_with fail
        refine HH.out.mono ?_
        rintro e w6 ⟨rfl, p1, p2, U1, U2, hs6, hb6, hu, hleaf⟩
        have HS6 := Lib.hid hs6
        have HG6 := Lib.hid (hb6.rstate HG5.out HSr5.out.m1 HSr5.out.m2)
        have HB6 := Lib.hid (hb6.below HB5.out hs5 (Nat.le_succ _) (by omega))
        have HFin : Hid ((∀ x ∈ baseS l leaves, x ∈ U1) ∧ (leafRoot l → U1 = baseS l leaves)) := Lib.hid ⟨fun x hx => hu x (by rw [HSb.out]; exact hx), fun h => (hleaf h).trans HSb.out⟩
        clear hs6 hb6 hu hleaf HH HG5 HB5 HSr5 HSb
        obtain ⟨i0, hi, hz0, hz1, hz2⟩ := info_parts (show (Try.prog.info? 3).map (fun i => (i.zero, i.size, i.bytes)) = some (some (.int .i64 0), 1, 8) by kernel_rfl)
        go_wp2_with fail
        go_loopw [2, 41] (fun p q wx => ∃ k : Nat, q = .int .i64 (k : Int) ∧ k ≤ n / 16 ∧ wx.ownsRow w.heap.size 3 1 p (reachOut k U1).length (intRow (reachOut k U1)) ∧ RState wx (b2 + 1) (w.heap.size + 1) b2 p1 p2 A n c U1 U2 ∧ Blk wx w.heap.size 24 #[.int .i64 0] ∧ Below w.heap.size w wx)
          (fun _ q _ => n / 16 - (intOf q).toNat)
        case atStart => exact ⟨0, rfl, Nat.zero_le _, World.ownsRow_nil _ _ _ _, HS6.out, HG6.out, HB6.out⟩
        case round =>
          obtain ⟨k, rfl, hk, hown, hs, hG, hb⟩ := hrel
          by_cases hlt : k < n / 16
          · have hlk := hs.m1.lookup (wfI_small (x := (k : Int)) (by omega) (by omega))
            have q1 : wr.cell? ⟨b2 + 1, 1, none⟩ = some (.map (some (w.heap.size + 1))) := hs.var.cell 1
            have hrl := reachOut_length k U1
            by_cases hin : (k : Int) ∈ U1
            · rw [decide_eq_true hin] at hlk
              have hro : reachOut (k + 1) U1 = reachOut k U1 ++ [(k : Int)] := by rw [reachOut_succ, if_pos hin]
              have HRo := Lib.hid hro
              have HOwn := Lib.hid hown
              have hmax : (reachOut k U1).length + 1 ≤ maxLen := by unfold maxLen; omega
              have hby : ((reachOut k U1).length + 1) * 8 ≤ 140737488355328 := by omega
              have hbs : w.heap.size ≤ wr.heap.size := hb.size
              have HS7 := Lib.hid hs
              have HG7 := Lib.hid hG
              have HB7 := Lib.hid hb
              clear hro hin hs hG hb hown
              go_wp2_with (at_builtin; refine wpList_append_own _ rfl _ _ 23 rfl w.heap.size 3 i0 (.int .i64 0) 1 8 Try.underlying23 hi hz0 hz1 hz2 rfl (by decide) _ _ _ rfl (HOwn.out.alloc _) ⟨wr.heap.size, 0, none⟩ 1 1 [.int .i64 (k : Int)] rfl rfl (cell_one_new _ _ _) (by simp [Value.oneCell']) hmax hby (by simp; omega) ?_; intro v' w8 hown8 hgrow8 _)
              have ha : Below wr.heap.size wr (wr.alloc (.cells #[.int .i64 (k : Int)] 3)) := (Below.refl _ wr).alloc (Nat.le_refl _) _
              have hlen2 : (reachOut (k + 1) U1).length = (reachOut k U1).length + 1 := by rw [HRo.out]; simp
              refine ⟨⟨k + 1, by simp, by omega, ?_, (HS7.out.below ha).grown hgrow8 (HOwn.out.alloc _), ?_, ?_⟩, by simp [intOf]; omega⟩
              · rw [hlen2, HRo.out]
                simpa [intRow] using hown8
              · exact (hgrow8.block _ (by rw [World.size_alloc]; exact Nat.lt_succ_of_lt HG7.out.lt) (far_of HOwn.out HG7.out)).trans (HG7.out.alloc _)
              · exact (HB7.out.trans (ha.mono hbs)).grown hgrow8 (by simp; omega) (own_base HOwn.out)
            · rw [decide_eq_false hin] at hlk
              have hro : reachOut (k + 1) U1 = reachOut k U1 := by rw [reachOut_succ, if_neg hin]
              have HRo := Lib.hid hro
              have HOwn := Lib.hid hown
              have HS7 := Lib.hid hs
              have HG7 := Lib.hid hG
              have HB7 := Lib.hid hb
              clear hro hin hs hG hb hown
              go_wp2_with fail
              exact ⟨⟨k + 1, by simp, by omega, by rw [HRo.out]; exact HOwn.out, HS7.out, HG7.out, HB7.out⟩, by simp [intOf]; omega⟩
          · obtain rfl : k = n / 16 := by omega
            obtain ⟨Ar, cr, rfl, h1, h2, _, h3⟩ := own_form hown
            have hset := setCell_same hG
            have g0 := hG.cell 0
            have f0 := hG.frozen 0
            have hout : PostReach w l (some leaves) (.returned (.tuple #[.slice Ar (reachOut (n / 16) U1).length cr, .int .i64 0])) wr := by
              refine ⟨Ar, cr, U1, ?_, ?_, h2, HFin.out.1, HFin.out.2, ?_, hb⟩
              · rw [hn]
              · rw [hn]; exact h1
              · rw [hn]; exact h3
            have HOut := Lib.hid hout
            have HG7 := Lib.hid hG
            clear hout hown hs hG hb h3
            go_wp2_with fail
            try rw [hset]
            refine told_in (v := .tuple #[.slice Ar (reachOut (n / 16) U1).length cr, .int .i64 0]) ?_ HOut.out
            have c2 := HG7.out.cell 0
            simp at c2
            simp [results, Try.func18, asAddr, go_sem, c2]
end Go.Proofs.Ytkkaabagehjmbaa
