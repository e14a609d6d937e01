/-
  ArenaDamage: the walk.
-/
import Derived.Test.YtkkaabagehjmbaaLawApart
set_option linter.unusedSimpArgs false
set_option linter.unusedVariables false
namespace Go.Proofs.Ytkkaabagehjmbaa
open Go.RowKit Go.Shelf Crc

theorem xor64 (x y : Int) : (bits .xor .i64 x y % 18446744073709551616).toNat = (x % 18446744073709551616).toNat ^^^ (y % 18446744073709551616).toNat := by
  have h : bits .xor .i64 x y = IntKind.i64.wrap ((BitVec.ofInt 64 x ^^^ BitVec.ofInt 64 y).toNat : Int) := rfl
  have hx : (x % 18446744073709551616).toNat < 2 ^ 64 := by omega
  have hy : (y % 18446744073709551616).toNat < 2 ^ 64 := by omega
  have hxy := Nat.xor_lt_two_pow hx hy
  rw [h, BitVec.toNat_xor, BitVec.toNat_ofInt, BitVec.toNat_ofInt, IntKind.wrap_i64]
  simp only [Nat.reducePow, Int.cast_ofNat_Int] at hxy ⊢
  omega
theorem xor_low (x : Int) (a : Nat) (h0 : a ≠ 0) (h1 : a < 4294967296) :
    ((x % 18446744073709551616).toNat / 2 ^ 32 = (bits .xor .i64 x a % 18446744073709551616).toNat / 2 ^ 32) ∧ (x % 18446744073709551616).toNat ≠ (bits .xor .i64 x a % 18446744073709551616).toNat := by
  rw [xor64]
  have ha : (((a : Nat) : Int) % 18446744073709551616).toNat = a := by omega
  rw [ha]
  refine ⟨?_, fun e => ?_⟩
  · rw [Nat.xor_div_two_pow, Nat.div_eq_of_lt (show a < 2 ^ 32 by omega), Nat.xor_zero]
  · have : (x % 18446744073709551616).toNat ^^^ ((x % 18446744073709551616).toNat ^^^ a) = a := by rw [← Nat.xor_assoc, Nat.xor_self, Nat.zero_xor]
    rw [← e, Nat.xor_self] at this
    exact h0 this.symm
theorem xor_high (x : Int) (a : Nat) (h0 : a ≠ 0) (h1 : a < 4294967296) :
    ((x % 18446744073709551616).toNat % 2 ^ 32 = (bits .xor .i64 x (wrap64 (a * 4294967296)) % 18446744073709551616).toNat % 2 ^ 32) ∧ (x % 18446744073709551616).toNat ≠ (bits .xor .i64 x (wrap64 (a * 4294967296)) % 18446744073709551616).toNat := by
  rw [xor64]
  have ha : (wrap64 ((a : Int) * 4294967296) % 18446744073709551616).toNat = a * 4294967296 := by unfold wrap64; omega
  rw [ha]
  refine ⟨?_, fun e => ?_⟩
  · rw [Nat.xor_mod_two_pow, show a * 4294967296 % 2 ^ 32 = 0 by omega, Nat.xor_zero]
  · have : (x % 18446744073709551616).toNat ^^^ ((x % 18446744073709551616).toNat ^^^ (a * 4294967296)) = a * 4294967296 := by rw [← Nat.xor_assoc, Nat.xor_self, Nat.zero_xor]
    rw [← e, Nat.xor_self] at this
    omega

set_option maxHeartbeats 2000000 in
set_option maxRecDepth 100000 in
theorem arenaDamage_any (A : Option Addr) (n c : Nat) (l : List Int) (hn : l.length = n) (hnc : n ≤ c) (hbig : c ≤ 9223372036854775807) (hwf : ∀ x ∈ l, (Lit.int .i64 x).wf = true) (a1 a2 a3 a4 : Nat) (h1 : a1 < 256) (h2 : a2 < 256) (h3 : a3 < 256) (h4 : a4 < 4294967296) (hi : Bool)
    (w : World) (hr : RInts w w.heap.size A l) :
    Calls Try.prog 7 #[.slice A n c, .int .u8 a1, .int .u8 a2, .int .u8 a3, .int .u32 a4, .bool hi] w fun e w' => e = .returned (.bool true) ∧ Below w.heap.size w w' := by
  by_cases h1000 : 1000 < n
  · go_enter Try.func7, Try.ntmps7
    go_wp2_with fail
    refine (awake_any w).mono ?_
    rintro e w1 ⟨rfl, hb1⟩
    go_wp2_with fail
    go_ret
    exact ⟨rfl, hb1⟩
  by_cases h40 : a4 = 0
  · subst h40
    go_enter Try.func7, Try.ntmps7
    go_wp2_with fail
    refine (awake_any w).mono ?_
    rintro e w1 ⟨rfl, hb1⟩
    go_wp2_with fail
    go_ret
    exact ⟨rfl, hb1⟩
  have h4z : ((a4 : Int) == 0) = false := by simpa using h40
  have HR := Lib.hid hr
  have HN := Lib.hid hn
  have HWf := Lib.hid hwf
  clear hr hwf
  rcases hlk : lookOf l with _ | leaves
  · have HLk := Lib.hid hlk
    clear hlk hn
    go_enter Try.func7, Try.ntmps7
    go_wp2_with fail
    refine (awake_any w).mono ?_
    rintro e w1 ⟨rfl, hb1⟩
    have HR1 := Lib.hid (HR.out.below hb1 (Nat.le_refl _))
    have hs1 := hb1.size
    have HB1 := Lib.hid hb1
    clear hb1
    go_wp2_with fail
    refine (check_any A n c w.heap.size l HN.out hnc hbig w1 hs1 HR1.out).mono ?_
    rw [HLk.out]
    rintro e w2 ⟨rfl, hb2⟩
    have HB2 := Lib.hid (HB1.out.trans (hb2.mono hs1))
    clear hb2
    go_wp2_with fail
    go_ret
    exact ⟨rfl, HB2.out⟩
  · have HLk := Lib.hid hlk
    have hch := (lookOf_parts hlk).1
    have hl32 : 32 ≤ n := by have := superOk_len (chainOf_parts hch).1; omega
    obtain ⟨t, ht⟩ := chainOf_head hch
    have hp0 : 0 < leaves.length := by rw [ht]; simp
    have HCh := Lib.hid hch
    obtain ⟨p, hp⟩ : ∃ p, p = leaves.length := ⟨_, rfl⟩
    rw [← hp] at hp0
    have HP := Lib.hid hp
    -- the leaf
    obtain ⟨a, ha⟩ : ∃ a, a = leaves[a1 % p]?.getD 0 := ⟨_, rfl⟩
    have ham : a ∈ leaves := by
      have hlt : a1 % p < leaves.length := by rw [← hp]; exact Nat.mod_lt _ hp0
      rw [ha, List.getElem?_eq_getElem hlt]; exact List.getElem_mem hlt
    obtain ⟨nd, hnd, hlev⟩ := chainOf_nodes hch a ham
    have hsl13 := readNode_slots hnd
    obtain ⟨i0, hi0, hz0, hz1, hz2⟩ := info_parts (show (Try.prog.info? 3).map (fun i => (i.zero, i.size, i.bytes)) = some (some (.int .i64 0), 1, 8) by kernel_rfl)
    have HA := Lib.hid ha
    have HAm := Lib.hid ham
    have HNd := Lib.hid hnd
    clear hlk hn hch ht hp ha ham hnd hlev
    obtain ⟨al, ol, rfl, hbl, hcl⟩ := HR.out (by intro e; have := HN.out; rw [e] at this; simp at this; omega)
    have HCl := Lib.hid hcl
    clear hcl
    obtain ⟨q, hq⟩ : ∃ q, q = nd.slots.length := ⟨_, rfl⟩
    have HQ := Lib.hid hq
    rw [← hq] at hsl13
    clear hq
    go_enter Try.func7, Try.ntmps7
    go_wp2_with fail
    refine (awake_any w).mono ?_
    rintro e w1 ⟨rfl, hb1⟩
    have HR1 := Lib.hid (HR.out.below hb1 (Nat.le_refl _))
    have hs1 := hb1.size
    have HB1 := Lib.hid hb1
    clear hb1
    go_wp2_with fail
    refine (check_any _ n c w.heap.size l HN.out hnc hbig w1 hs1 HR1.out).mono ?_
    rw [HLk.out]
    rintro e w2 ⟨rfl, hb2⟩
    have HR2 := Lib.hid (HR1.out.below hb2 hs1)
    have HB2 := Lib.hid (HB1.out.trans (hb2.mono hs1))
    have hs2 : w.heap.size ≤ w2.heap.size := HB2.out.size
    clear hb2
    go_wp2_with fail
    refine (leaves_any _ n c w.heap.size l HN.out hnc hbig w2 hs2 HR2.out).mono ?_
    rw [HCh.out]
    rintro e w3 ⟨Al, cl, rfl, hc3, hm3, hr3, hb3⟩
    rw [← HP.out] at hc3
    rw [← HP.out]
    have HR3 := Lib.hid (HR2.out.below hb3 hs2)
    have HB3 := Lib.hid (HB2.out.trans (hb3.mono hs2))
    have hs3 : w.heap.size ≤ w3.heap.size := HB3.out.size
    have hpL : p ≤ 9223372036854775807 := by simp only [maxLen] at hm3; omega
    have hmod : a1 % p < p := Nat.mod_lt _ hp0
    obtain ⟨bL, oL, rfl, _, hcL⟩ := hr3.at_ (k := a1 % p) (by rw [← HP.out]; exact hmod)
    rw [← HA.out] at hcL
    clear hb3 hr3
    go_wp2_with fail
    refine (nodeRead_any _ n c w.heap.size a l HN.out hnc hbig w3 hs3 HR3.out).mono ?_
    rw [HNd.out]
    rintro e w4 ⟨A4, k4, c4, rfl, hk4, hkc4, hr4, hb4, _⟩
    rw [← HQ.out] at hk4
    subst hk4
    obtain ⟨D, hD⟩ : ∃ D, D = w4.heap.size := ⟨_, rfl⟩
    have hDn := Blk.new w4 37 (nodeCells nd.lev nd.turn nd.next nd.low A4 q c4)
    have hb5 := hb4.alloc hb4.size (.cells (nodeCells nd.lev nd.turn nd.next nd.low A4 q c4) 37)
    have hr5 := hr4.alloc (Nat.le_refl _) (.cells (nodeCells nd.lev nd.turn nd.next nd.low A4 q c4) 37)
    have d4 : (w4.alloc (.cells (nodeCells nd.lev nd.turn nd.next nd.low A4 q c4) 37)).cell? ⟨w4.heap.size, 4, none⟩ = some (.slice A4 q c4) := hDn.cell 4
    have HR5 := Lib.hid (HR3.out.below hb5 hs3)
    have HB5 := Lib.hid (HB3.out.trans (hb5.mono hs3))
    have HRs := Lib.hid hr5
    have hs45 : w4.heap.size ≤ (w4.alloc (.cells (nodeCells nd.lev nd.turn nd.next nd.low A4 q c4) 37)).heap.size := by simp
    have hs5 : w.heap.size ≤ (w4.alloc (.cells (nodeCells nd.lev nd.turn nd.next nd.low A4 q c4) 37)).heap.size := HB5.out.size
    clear hb4 hr4 hDn hb5 hr5
    by_cases hq0 : q = 0
    · subst hq0
      go_wp2_with fail
      go_ret
      exact ⟨rfl, HB5.out⟩
    · obtain ⟨s, hs⟩ : ∃ s, s = nd.slots[a2 % q]?.getD 0 := ⟨_, rfl⟩
      have hlt : a2 % q < nd.slots.length := by rw [← HQ.out]; exact Nat.mod_lt _ (by omega)
      have hltq : a2 % q < q := Nat.mod_lt _ (by omega)
      have hsm : s ∈ nd.slots := by rw [hs, List.getElem?_eq_getElem hlt]; exact List.getElem_mem hlt
      have hs0 := readNode_slot HNd.out s hsm
      obtain ⟨t, rfl⟩ : ∃ t : Nat, s = (t : Int) := ⟨s.toNat, by omega⟩
      have htb : t < n / 16 := by
        have := (base_in HLk.out _ (mem_baseS.2 (.inr ⟨a, HAm.out, nd, HNd.out, .inr (.inl hsm)⟩))).2
        rw [HN.out] at this
        omega
      have HDam := Lib.hid (fun v hhl hne => damage HLk.out HAm.out HNd.out hsm (i := a3 % 16) (Nat.mod_lt _ (by omega)) (v := v) hhl hne)
      have ht0 : 0 < t := by omega
      have ht1 : t < 256 := by omega
      obtain ⟨b4, o4, rfl, hb4, hc4⟩ := HRs.out.at_ hlt
      rw [← hs] at hc4
      clear hs hlt hsm hs0
      have hqz : ((q : Int) == 0) = false := by simpa using hq0
      go_upto_region 10 with fail
      generalize w4.alloc (.cells (nodeCells nd.lev nd.turn nd.next nd.low (some ⟨b4, o4, none⟩) q c4) 37) = w5 at *
      have hx1 : ∀ x : Ext w5, x.w.cell? ⟨w4.heap.size, 4, none⟩ = some (.slice (some ⟨b4, o4, none⟩) q c4) := fun x => x.cell d4
      have hx2 : ∀ x : Ext w5, x.w.cell? ⟨b4, o4 + a2 % q, none⟩ = some (.int .i64 (t : Int)) := fun x => x.cell hc4
      refine wp_region_ext (by kernel_rfl) (by kernel_rfl) ?_
      repeat (go_big_quiet_step (fail))
      refine wpQuiet_nil ?_
      rintro _ ⟨v, rfl⟩
      have hkk : 16 * (t : Int) + (a3 : Int) % 16 = ((16 * t + a3 % 16 : Nat) : Int) := by omega
      rw [hkk]
      have HR6 := Lib.hid (HR5.out.below v.h hs5)
      have HB6 := Lib.hid (HB5.out.trans (v.h.mono hs5))
      have hs6 : w.heap.size ≤ v.w.heap.size := HB6.out.size
      obtain ⟨k, hk⟩ : ∃ k, k = 16 * t + a3 % 16 := ⟨_, rfl⟩
      have HDam2 : Hid (∀ v : Int, ((l[k]?.getD 0 % 18446744073709551616).toNat / 2 ^ 32 = (v % 18446744073709551616).toNat / 2 ^ 32 ∨ (l[k]?.getD 0 % 18446744073709551616).toNat % 2 ^ 32 = (v % 18446744073709551616).toNat % 2 ^ 32) →
          (l[k]?.getD 0 % 18446744073709551616).toNat ≠ (v % 18446744073709551616).toNat → lookOf (l.set k v) = none) := Lib.hid (fun v hhl hne => by
        have := (HDam.out v (by rw [Int.toNat_natCast, ← hk]; exact hhl) (by rw [Int.toNat_natCast, ← hk]; exact hne)).1
        rw [Int.toNat_natCast, ← hk] at this
        exact this)
      rw [← hk]
      have hkn : k < n := by omega
      clear hkk hk HDam hx1 hx2 d4 hc4 HRs HR5 HB5
      generalize v.w = w6 at *
      have hcells : ∀ j u, (intRow l)[j]? = some u → (w6.alloc (.cells #[] 3)).cell? ((⟨al, ol, none⟩ : Addr).add j) = some u := fun j u hu => by
        obtain ⟨b', o', he, _, hc⟩ := ((HR6.out.alloc hs6 (.cells #[] 3))) (by intro e; have := HN.out; rw [e] at this; simp at this; omega)
        cases he
        have hj : j < l.length := by have := (List.getElem?_eq_some_iff.1 hu).1; simpa [intRow_length] using this
        rw [add_lit, hc j hj, ← hu, intRow_get l j hj]
      have HCells := Lib.hid hcells
      have HOne := Lib.hid (intRow_cells l)
      have HLen1 : Hid ((intRow l).length = n * 1) := Lib.hid (by rw [intRow_length, HN.out, Nat.mul_one])
      have HOwn0 := Lib.hid (World.ownsRow_lit (base := w6.heap.size) (e := 3) (size := 1) w6 #[] 0 (Nat.le_refl _) (Nat.zero_le _) rfl)
      have HBa := Lib.hid ((Below.refl w6.heap.size w6).alloc (Nat.le_refl _) (.cells #[] 3))
      clear hcells
      go_upto_region 13 with fail
      go_upto_region 14 with (at_builtin; refine wpList_append_own _ rfl _ _ 23 rfl w6.heap.size 3 i0 (.int .i64 0) 1 8 Try.underlying23 hi0 hz0 hz1 hz2 rfl (by decide) _ _ _ rfl HOwn0.out ⟨al, ol, none⟩ n c (intRow l) rfl HLen1.out HCells.out HOne.out (by unfold maxLen; omega) (by omega) (by simp) ?_; intro v' w7 hown7 hgrow7 _)
      have hown7' : w7.ownsRow w6.heap.size 3 1 v' n (intRow l) := by simpa using hown7
      obtain ⟨g, cap, rfl, hnl, hg1, hg2, hgc, hgm, hO⟩ := OwnL.of hown7' (by omega)
      have hb7 : Below w6.heap.size w6 w7 := HBa.out.grown hgrow7 (by simp) (own_base HOwn0.out)
      have HO := Lib.hid hO
      have HB7 := Lib.hid (HB6.out.trans (hb7.mono hs6))
      have hc7 : w7.cell? ⟨g, k, none⟩ = some (.int .i64 (l[k]?.getD 0)) := hO.cell (by rw [HN.out]; exact hkn)
      have hf7 := hO.frozen k
      obtain ⟨x, hx⟩ : ∃ x, x = l[k]?.getD 0 := ⟨_, rfl⟩
      have hxw : (Lit.int .i64 x).wf = true := by
        rw [hx, List.getElem?_eq_getElem (by rw [HN.out]; exact hkn)]
        exact HWf.out _ (List.getElem_mem _)
      rw [← hx] at hc7
      have HX := Lib.hid hx
      have HXw := Lib.hid hxw
      have hcap' : cap ≤ 9223372036854775807 := by simp only [maxLen] at hgm; omega
      clear hown7 hown7' hnl hgrow7 hO hb7 HOwn0 HBa HCells HOne HLen1 hx hxw
      rcases hi with _ | _
      · have hxor := xor_low x a4 h40 h4
        have hdn := HDam2.out (bits .xor .i64 x (a4 : Int)) (by rw [← HX.out]; exact .inl hxor.1) (by rw [← HX.out]; exact hxor.2)
        have HDn := Lib.hid hdn
        have HO2 := Lib.hid (HO.out.set k (bits .xor .i64 x (a4 : Int)))
        have HB8 := Lib.hid (HB7.out.setCell (p := ⟨g, k, none⟩) (Nat.le_trans hs6 hg1) (.int .i64 (bits .xor .i64 x (a4 : Int))))
        have hset : ∀ y : Int, (l.set k y).length = n := fun y => by rw [List.length_set]; exact HN.out
        have HSet := Lib.hid hset
        have hs8 : w.heap.size ≤ (w7.setCell ⟨g, k, none⟩ (.int .i64 (bits .xor .i64 x (a4 : Int)))).heap.size := HB8.out.size
        clear hxor hdn hset
        go_wp2_with fail
        generalize (bits .xor .i64 x (a4 : Int)) = vv at *
        generalize w7.setCell ⟨g, k, none⟩ (.int .i64 vv) = w8 at *
        refine (check_any _ n cap w8.heap.size (l.set k vv) (HSet.out vv) hgc hcap' w8 (Nat.le_refl _) HO2.out.rints).mono ?_
        rw [HDn.out]
        rintro e w9 ⟨rfl, hb9⟩
        have HB9 := Lib.hid (HB8.out.trans (hb9.mono hs8))
        clear hb9
        go_wp2_with fail
        go_ret
        exact ⟨rfl, HB9.out⟩
      · have hxor := xor_high x a4 h40 h4
        have hdn := HDam2.out (bits .xor .i64 x (wrap64 ((a4 : Int) * 4294967296))) (by rw [← HX.out]; exact .inr hxor.1) (by rw [← HX.out]; exact hxor.2)
        have HDn := Lib.hid hdn
        have HO2 := Lib.hid (HO.out.set k (bits .xor .i64 x (wrap64 ((a4 : Int) * 4294967296))))
        have HB8 := Lib.hid (HB7.out.setCell (p := ⟨g, k, none⟩) (Nat.le_trans hs6 hg1) (.int .i64 (bits .xor .i64 x (wrap64 ((a4 : Int) * 4294967296)))))
        have hset : ∀ y : Int, (l.set k y).length = n := fun y => by rw [List.length_set]; exact HN.out
        have HSet := Lib.hid hset
        have hs8 : w.heap.size ≤ (w7.setCell ⟨g, k, none⟩ (.int .i64 (bits .xor .i64 x (wrap64 ((a4 : Int) * 4294967296))))).heap.size := HB8.out.size
        clear hxor hdn hset
        go_wp2_with fail
        generalize (bits .xor .i64 x (wrap64 ((a4 : Int) * 4294967296))) = vv at *
        generalize w7.setCell ⟨g, k, none⟩ (.int .i64 vv) = w8 at *
        refine (check_any _ n cap w8.heap.size (l.set k vv) (HSet.out vv) hgc hcap' w8 (Nat.le_refl _) HO2.out.rints).mono ?_
        rw [HDn.out]
        rintro e w9 ⟨rfl, hb9⟩
        have HB9 := Lib.hid (HB8.out.trans (hb9.mono hs8))
        clear hb9
        go_wp2_with fail
        go_ret
        exact ⟨rfl, HB9.out⟩
end Go.Proofs.Ytkkaabagehjmbaa
