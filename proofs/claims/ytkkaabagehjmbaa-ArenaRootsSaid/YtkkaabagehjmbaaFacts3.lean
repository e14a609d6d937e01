/-
  An arena of which one half of a word of a leaf's record was changed is not sound.
-/
import Derived.Test.YtkkaabagehjmbaaFacts2
set_option linter.unusedSimpArgs false
set_option linter.unusedVariables false
namespace Go.Proofs.Ytkkaabagehjmbaa
open Go.RowKit Go.Shelf Crc

theorem slotsGo_at {l : List Int} {low : ByteArray} : ∀ (sl : List Int) (k : Nat) (last : ByteArray), slotsGo l low k last sl = true → ∀ s ∈ sl, ∃ x, readRec l s = .ok x ∧ x.kind = 1
  | [], k, last, _, s, hs => by simp at hs
  | a :: t, k, last, h, s, hs => by
    unfold slotsGo at h
    rcases hr : readRec l a with e | x
    · rw [hr] at h; cases h
    · rw [hr] at h
      simp only [Bool.and_eq_true, decide_eq_true_eq] at h
      rcases List.mem_cons.1 hs with rfl | hs
      · exact ⟨x, hr, h.1.1.1⟩
      · exact slotsGo_at t _ _ h.2 s hs
theorem readRec_parts {l : List Int} {x : Int} {r : RecV} (h : readRec l x = .ok r) : readForm (blk16 l x.toNat) = some r := by
  unfold readRec at h
  split at h
  · cases h
  · split at h
    · rename_i r' hr'
      cases h
      exact hr'
    · cases h
theorem sumAt_rest (b : List Int) : (sumAt b).take 2 ++ (sumAt b).drop 3 = b.take 2 ++ b.drop 3 := by
  unfold sumAt
  rw [List.take_set_of_le (by omega), List.drop_set_of_lt (by omega)]
/-- What holds of sixteen words that are a record's. -/
theorem form_facts {m : List Int} {r : RecV} (h : readForm m = some r) (hl : m.length = 16) : m[2]?.getD 0 = crcOf (m.take 2 ++ m.drop 3) ∧ m[0]?.getD 0 = r.kind := by
  unfold readForm at h
  rcases hq : recOf16 m with _ | q
  · rw [hq] at h; cases h
  · rw [hq] at h
    simp only [Option.bind_some] at h
    split at h
    · rename_i hc
      cases h
      simp only [Bool.and_eq_true, beq_iff_eq] at hc
      have hf := hc.2
      constructor
      · have hm : m = sumAt (recBase r.kind r.key r.val r.child) := hf.symm
        generalize recBase r.kind r.key r.val r.child = b at hm
        have hb : b.length = 16 := by
          rw [← hl, hm]
          unfold sumAt
          simp
        have h1 : m.take 2 ++ m.drop 3 = b.take 2 ++ b.drop 3 := by rw [hm, sumAt_rest]
        rw [h1, hm]
        unfold sumAt
        rw [List.getElem?_set_self (by omega)]
        rfl
      · unfold recOf16 at hq
        split at hq
        · cases hq
        · split at hq
          · rcases hv : recText m 6 (Int.tmod (m[1]?.getD 0) 32) with _ | v
            · rw [hv] at hq; cases hq
            · rw [hv] at hq; cases hq; rfl
          · split at hq <;> (cases hq; rfl)
    · cases h
theorem firstOf_ge {lev turn : Int} (h0 : 0 ≤ lev) (h1 : lev ≤ 9) (h2 : 0 ≤ turn) (h3 : turn ≤ 1099511627776) : 1152921504606846976 ≤ firstOf lev turn := by
  obtain ⟨a, rfl⟩ : ∃ a : Nat, lev = (a : Int) := ⟨lev.toNat, by omega⟩
  obtain ⟨b, rfl⟩ : ∃ b : Nat, turn = (b : Int) := ⟨turn.toNat, by omega⟩
  have hw : wrap64 ((b : Int) * 16) = ((b * 16 : Nat) : Int) := by unfold wrap64; omega
  unfold firstOf
  rw [hw, show (1152921504606846976 : Int) = ((1152921504606846976 : Nat) : Int) by rfl, i64_or_nat _ _ (by omega) (by omega)]
  have hlt : 1152921504606846976 ||| b * 16 < 2 ^ 62 := Nat.or_lt_two_pow (by omega) (by omega)
  rw [i64_or_nat _ _ (by omega) (by omega)]
  have := Nat.left_le_or (n := 1152921504606846976) (m := b * 16)
  have := Nat.left_le_or (n := 1152921504606846976 ||| b * 16) (m := a)
  omega
/-- A block is not a node and a record of kind 1. -/
theorem node_not_rec {l : List Int} {x : Int} {nd : NodeV} {r : RecV} (hn : readNode l x = .ok nd) (hr : readRec l x = .ok r) (hk : r.kind = 1) : False := by
  have hin := readNode_in hn
  have hlen := blk16_length l x.toNat (by omega)
  have h1 := (form_facts (readRec_parts hr) hlen).2
  unfold readNode at hn
  split at hn
  · cases hn
  · split at hn
    · rename_i hok
      cases hn
      simp only [Bool.and_eq_true, beq_iff_eq] at hok
      obtain ⟨hok, hw⟩ := hok
      unfold NodeV.ok nodeOk at hok
      simp only [Bool.and_eq_true, decide_eq_true_eq] at hok
      have hf := firstOf_ge hok.1 hok.2.1 hok.2.2.1 hok.2.2.2.1
      have h0 := congrArg (fun m : List Int => m[0]?.getD 0) hw
      have h3 : (blk16 l x.toNat)[0]?.getD 0 = firstOf (nodeOf16 (blk16 l x.toNat)).lev (nodeOf16 (blk16 l x.toNat)).turn := h0.symm
      rw [h1, hk] at h3
      rw [← h3] at hf
      omega
    · cases hn
theorem rest_split {m : List Int} {i : Nat} (hi : i < m.length) (h2 : i ≠ 2) : ∃ a b, ∀ v, (m.set i v).take 2 ++ (m.set i v).drop 3 = a ++ v :: b := by
  by_cases h : i < 2
  · refine ⟨(m.take 2).take i, (m.take 2).drop (i + 1) ++ m.drop 3, fun v => ?_⟩
    rw [List.take_set, List.drop_set_of_lt (by omega), List.set_eq_take_append_cons_drop, if_pos (by simp; omega)]
    simp
  · refine ⟨m.take 2 ++ (m.drop 3).take (i - 3), (m.drop 3).drop (i - 3 + 1), fun v => ?_⟩
    rw [List.take_set_of_le (by omega), List.drop_set, if_neg (by omega), List.set_eq_take_append_cons_drop, if_pos (by simp; omega)]
    simp
/-- Two forms that differ in one half of one word are not both records. -/
theorem form_differs {m : List Int} {i : Nat} {v : Int} {r r' : RecV} (hl : m.length = 16) (hi : i < 16)
    (hhl : (m[i]?.getD 0 % 18446744073709551616).toNat / 2 ^ 32 = (v % 18446744073709551616).toNat / 2 ^ 32 ∨ (m[i]?.getD 0 % 18446744073709551616).toNat % 2 ^ 32 = (v % 18446744073709551616).toNat % 2 ^ 32)
    (hne : (m[i]?.getD 0 % 18446744073709551616).toNat ≠ (v % 18446744073709551616).toNat) (h : readForm m = some r) (h' : readForm (m.set i v) = some r') : False := by
  have h1 := (form_facts h hl).1
  have h1' := (form_facts h' (by simpa using hl)).1
  by_cases h2 : i = 2
  · subst h2
    rw [List.take_set_of_le (by omega), List.drop_set_of_lt (by omega), List.getElem?_set_self (by omega)] at h1'
    apply hne
    rw [h1]
    simp only [Option.getD_some] at h1'
    rw [h1']
  · obtain ⟨a, b, hab⟩ := rest_split (m := m) (i := i) (by omega) h2
    have hself : m.set i (m[i]?.getD 0) = m := by
      rw [List.getElem?_eq_getElem (by omega)]
      simp
    have hm := hab (m[i]?.getD 0)
    rw [hself] at hm
    rw [hm] at h1
    rw [hab v] at h1'
    rw [List.getElem?_set_ne (by omega), h1] at h1'
    exact crcOf_parts hhl hne h1'
theorem blk16_set_same (l : List Int) (k i : Nat) (v : Int) (hi : i < 16) : blk16 (l.set (16 * k + i) v) k = (blk16 l k).set i v := by
  unfold blk16
  rw [List.drop_set, if_neg (by omega), List.take_set]
  congr 1
  omega
theorem blk16_set_other (l : List Int) (k k' i : Nat) (v : Int) (hi : i < 16) (h : k' ≠ k) : blk16 (l.set (16 * k + i) v) k' = blk16 l k' := by
  unfold blk16
  by_cases hlt : k' < k
  · rw [List.drop_set, if_neg (by omega), List.take_set_of_le (by omega)]
  · rw [List.drop_set_of_lt (by omega)]
theorem superOk_same {l l' : List Int} (hlen : l'.length = l.length) (hb : blk16 l' 0 = blk16 l 0) : superOk l' = superOk l := by
  have hg : ∀ i, i < 16 → l'[i]?.getD 0 = l[i]?.getD 0 := fun i hi => by
    have h1 := blk16_get l' 0 i hi
    have h2 := blk16_get l 0 i hi
    rw [hb] at h1
    have h3 := h1.symm.trans h2
    simpa using h3
  have hd : (l'.drop 4).take 12 = (l.drop 4).take 12 := by
    have := congrArg (fun m : List Int => m.drop 4) hb
    unfold blk16 at this
    simp only [List.drop_take, List.drop_drop] at this
    simpa using this
  unfold superOk
  rw [hlen, hg 0 (by omega), hg 1 (by omega), hg 2 (by omega), hg 3 (by omega), hd]
theorem damage {l leaves : List Int} (h : lookOf l = some leaves) {a : Int} (ha : a ∈ leaves) {nd : NodeV} (hnd : readNode l a = .ok nd) {s : Int} (hs : s ∈ nd.slots) {i : Nat} (hi : i < 16) {v : Int}
    (hhl : (l[16 * s.toNat + i]?.getD 0 % 18446744073709551616).toNat / 2 ^ 32 = (v % 18446744073709551616).toNat / 2 ^ 32 ∨ (l[16 * s.toNat + i]?.getD 0 % 18446744073709551616).toNat % 2 ^ 32 = (v % 18446744073709551616).toNat % 2 ^ 32)
    (hne : (l[16 * s.toNat + i]?.getD 0 % 18446744073709551616).toNat ≠ (v % 18446744073709551616).toNat) : lookOf (l.set (16 * s.toNat + i) v) = none ∧ s < ((l.length / 16 : Nat) : Int) := by
  obtain ⟨hc, hg⟩ := lookOf_parts h
  obtain ⟨hsup, hcf⟩ := chainOf_parts hc
  obtain ⟨j, hj, rfl⟩ := List.getElem_of_mem ha
  obtain ⟨nd', low, prev, hn, _, hsl, _⟩ := lookGo_at leaves 0 _ hg j hj
  rw [hnd] at hn
  cases hn
  obtain ⟨r, hr, hk⟩ := slotsGo_at _ _ _ hsl s (mem_compact.2 hs)
  have hin := readRec_in hr
  have hs0 := (readNode_slot hnd s hs).1
  refine ⟨?_, hin.2⟩
  have hlen : (l.set (16 * s.toNat + i) v).length = l.length := by simp
  have hleaf : ∀ x ∈ leaves, readNode (l.set (16 * s.toNat + i) v) x = readNode l x := fun x hx => by
    refine readNode_same hlen (blk16_set_other l s.toNat x.toNat i v hi fun e => ?_)
    obtain ⟨ndx, hndx, _⟩ := chainOf_nodes hc x hx
    have := readNode_in hndx
    obtain rfl : x = s := by omega
    exact node_not_rec hndx hr hk
  have hsup' : superOk (l.set (16 * s.toNat + i) v) = true := (superOk_same hlen (blk16_set_other l s.toNat 0 i v hi (by omega))).trans hsup
  have hch : chainOf (l.set (16 * s.toNat + i) v) = some leaves := by
    unfold chainOf
    rw [hsup', if_pos rfl, hlen]
    exact chainF_same _ _ _ _ hcf hleaf
  unfold lookOf
  rw [hch]
  simp only
  cases hgo : lookGo (l.set (16 * s.toNat + i) v) 0 (ByteArray.mk #[]) leaves with
  | false => rfl
  | true =>
    obtain ⟨nd', low', prev', hn', _, hsl', _⟩ := lookGo_at leaves 0 _ hgo j hj
    rw [hleaf _ ha, hnd] at hn'
    cases hn'
    obtain ⟨r', hr', _⟩ := slotsGo_at _ _ _ hsl' s (mem_compact.2 hs)
    have hf' := readRec_parts hr'
    rw [blk16_set_same l _ i v hi] at hf'
    have hg16 := blk16_get l s.toNat i hi
    exact (form_differs (blk16_length l s.toNat (by omega)) hi (by rw [hg16]; exact hhl) (by rw [hg16]; exact hne) (readRec_parts hr) hf').elim
end Go.Proofs.Ytkkaabagehjmbaa
