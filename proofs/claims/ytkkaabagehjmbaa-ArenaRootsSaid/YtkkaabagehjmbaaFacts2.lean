/-
  Arenas that agree in the blocks that are reached are as sound, and have the same leaves; one of which one half of a word of a record was changed is not sound.
-/
import Derived.Test.YtkkaabagehjmbaaFacts
set_option linter.unusedSimpArgs false
set_option linter.unusedVariables false
namespace Go.Proofs.Ytkkaabagehjmbaa
open Go.RowKit Go.Shelf Crc

theorem readNode_same {l l' : List Int} {x : Int} (hlen : l'.length = l.length) (hb : blk16 l' x.toNat = blk16 l x.toNat) : readNode l' x = readNode l x := by
  unfold readNode
  rw [hlen, hb]
theorem readRec_same {l l' : List Int} {x : Int} (hlen : l'.length = l.length) (hb : blk16 l' x.toNat = blk16 l x.toNat) : readRec l' x = readRec l x := by
  unfold readRec
  rw [hlen, hb]
theorem chainF_same {l l' : List Int} : ∀ (k : Nat) (out : List Int) (at' : Int) (r : List Int), chainF l k out at' = some r → (∀ x ∈ r, readNode l' x = readNode l x) → chainF l' k out at' = some r
  | 0, out, at', r, h, _ => by unfold chainF at h; cases h
  | k + 1, out, at', r, h, hs => by
    by_cases h0 : at' = 0
    · unfold chainF at h ⊢
      rw [if_pos h0] at h ⊢
      exact h
    · obtain ⟨nd, hn, hl, hno, hc⟩ := chainF_step h0 h
      obtain ⟨t, ht⟩ := chainF_prefix l k _ _ _ hc
      have := chainF_same k _ _ _ hc hs
      unfold chainF
      rw [if_neg h0, hs at' (by rw [ht]; simp), hn]
      simp only
      rw [if_pos (by simp [hl, hno])]
      exact this
theorem slotsGo_same {l l' : List Int} (low : ByteArray) : ∀ (sl : List Int) (k : Nat) (last : ByteArray), (∀ s ∈ sl, readRec l' s = readRec l s) → slotsGo l' low k last sl = slotsGo l low k last sl
  | [], k, last, _ => rfl
  | s :: t, k, last, h => by
    unfold slotsGo
    rw [h s (by simp)]
    cases readRec l s with
    | error e => rfl
    | ok x => simp only [slotsGo_same low t _ _ (fun s' hs' => h s' (by simp [hs']))]
/-- Slots without those that are as the one ahead. -/
def plainGo (prev : Option Int) : List Int → List Int
  | [] => []
  | x :: t => if prev = some x then plainGo (some x) t else x :: plainGo (some x) t
theorem plainGo_snoc : ∀ (l : List Int) (prev : Option Int) (x : Int), plainGo prev (l ++ [x]) = plainGo prev l ++ (if (l.getLast?.or prev) = some x then [] else [x])
  | [], prev, x => by
    simp only [List.nil_append, plainGo]
    split <;> simp_all
  | a :: t, prev, x => by
    have h := plainGo_snoc t (some a) x
    have e : ((a :: t).getLast?.or prev) = (t.getLast?.or (some a)) := by
      rcases List.eq_nil_or_concat t with rfl | ⟨t', b, rfl⟩
      · simp
      · simp [List.getLast?_cons]
    rw [List.cons_append]
    unfold plainGo
    rw [e, h]
    split <;> simp
theorem compact_eq (l : List Int) : Lib.compact l = plainGo none l := by
  have : ∀ m, m ≤ l.length → Lib.compactUpTo l.toArray m = plainGo none (l.take m) := by
    intro m
    induction m with
    | zero => intro _; rfl
    | succ m ih =>
      intro hm
      have hget : l.toArray[m]! = l[m]'(by omega) := by simp [getElem!_pos, show m < l.length by omega]
      rw [Lib.compactUpTo_succ, ih (by omega), List.take_add_one, List.getElem?_eq_getElem (by omega)]
      simp only [Option.toList_some]
      rw [plainGo_snoc, hget]
      congr 1
      rcases m with _ | m
      · simp [Lib.keeps]
      · have hp : l.toArray[m + 1 - 1]! = l[m]'(by omega) := by simp [getElem!_pos, show m < l.length by omega]
        have hl : (l.take (m + 1)).getLast? = some (l[m]'(by omega)) := by
          rw [List.getLast?_eq_getElem?, List.length_take, Nat.min_eq_left (by omega), List.getElem?_take, if_pos (by omega), Nat.add_sub_cancel, List.getElem?_eq_getElem (by omega)]
        rw [hl]
        unfold Lib.keeps
        rw [hget, hp]
        by_cases h : l[m + 1]'(by omega) = l[m]'(by omega)
        · simp [h]
        · have h' : ¬ l[m]'(by omega) = l[m + 1]'(by omega) := fun e => h e.symm
          simp [h, h']
  have h := this l.length (Nat.le_refl _)
  rw [List.take_length] at h
  exact h
theorem mem_plainGo : ∀ (l : List Int) (prev : Option Int) (x : Int), (x ∈ plainGo prev l → x ∈ l) ∧ (x ∈ l → x ∈ plainGo prev l ∨ prev = some x)
  | [], prev, x => by simp [plainGo]
  | a :: t, prev, x => by
    have h := mem_plainGo t (some a) x
    unfold plainGo
    by_cases hp : prev = some a
    · rw [if_pos hp]
      subst hp
      refine ⟨fun hx => List.mem_cons_of_mem _ (h.1 hx), fun hx => ?_⟩
      rcases List.mem_cons.1 hx with rfl | hx
      · exact .inr rfl
      · exact h.2 hx
    · rw [if_neg hp]
      refine ⟨fun hx => ?_, fun hx => .inl ?_⟩
      · rcases List.mem_cons.1 hx with rfl | hx
        · simp
        · exact List.mem_cons_of_mem _ (h.1 hx)
      · rcases List.mem_cons.1 hx with rfl | hx
        · simp
        · rcases h.2 hx with h' | h'
          · exact List.mem_cons_of_mem _ h'
          · cases h'; simp
theorem mem_compact {l : List Int} {x : Int} : x ∈ Lib.compact l ↔ x ∈ l := by
  rw [compact_eq]
  refine ⟨(mem_plainGo l none x).1, fun h => ?_⟩
  rcases (mem_plainGo l none x).2 h with h' | h'
  · exact h'
  · cases h'
theorem readNode_slot {l : List Int} {at' : Int} {nd : NodeV} (h : readNode l at' = .ok nd) : ∀ s ∈ nd.slots, 0 < s ∧ s < 256 := by
  unfold readNode at h
  split at h
  · cases h
  · split at h
    · rename_i hok
      cases h
      simp only [Bool.and_eq_true] at hok
      have := hok.1
      unfold NodeV.ok nodeOk at this
      simp only [Bool.and_eq_true, decide_eq_true_eq] at this
      have h2 := this.2.2.2.2.2.2.2
      simp only [Bool.not_eq_true', List.any_eq_false] at h2
      intro s hs
      have h3 := h2 s hs
      unfold slotBad blockB at h3
      simp at h3
      omega
    · cases h
theorem lookGo_same {l l' : List Int} : ∀ (out : List Int) (i : Nat) (last : ByteArray),
    (∀ x ∈ out, readNode l' x = readNode l x) → (∀ x ∈ out, ∀ nd, readNode l x = .ok nd → (nd.low ≠ 0 → readRec l' nd.low = readRec l nd.low) ∧ ∀ s ∈ nd.slots, readRec l' s = readRec l s) → lookGo l' i last out = lookGo l i last out
  | [], i, last, _, _ => rfl
  | a :: t, i, last, hn, hr => by
    unfold lookGo
    rw [hn a (by simp)]
    rcases hnd : readNode l a with e | nd
    · rfl
    · obtain ⟨h1, h2⟩ := hr a (by simp) nd hnd
      have hlow : lowVal l' nd.low = lowVal l nd.low := by
        unfold lowVal
        split
        · rfl
        · unfold keyAt
          rw [h1 (by assumption)]
      simp only
      rw [hlow]
      cases lowVal l nd.low with
      | none => rfl
      | some low =>
        simp only
        rw [slotsGo_same low _ _ _ (fun s hs => h2 s (mem_compact.1 hs)), lookGo_same t (i + 1) low (fun x hx => hn x (by simp [hx])) (fun x hx => hr x (by simp [hx]))]

/-- Arenas that agree in what their leaves reach. -/
theorem look_same {l l' leaves : List Int} (hlen : l'.length = l.length) (hs : superOk l' = true) (hb : ∀ x ∈ baseS l leaves, x ≠ 0 → blk16 l' x.toNat = blk16 l x.toNat) (h : lookOf l = some leaves) :
    lookOf l' = some leaves ∧ ∀ x, x ∈ baseS l' leaves ↔ x ∈ baseS l leaves := by
  obtain ⟨hc, hg⟩ := lookOf_parts h
  obtain ⟨hsup, hcf⟩ := chainOf_parts hc
  have hn0 : ∀ x ∈ leaves, x ≠ 0 := by
    have : ∀ (k : Nat) (out : List Int) (at' : Int) (r : List Int), chainF l k out at' = some r → (∀ x ∈ out, x ≠ 0) → ∀ x ∈ r, x ≠ 0 := by
      intro k
      induction k with
      | zero => intro out at' r h; unfold chainF at h; cases h
      | succ k ih =>
        intro out at' r h ho
        by_cases h0 : at' = 0
        · unfold chainF at h
          rw [if_pos h0] at h
          cases h
          exact ho
        · obtain ⟨nd, _, _, _, hc⟩ := chainF_step h0 h
          refine ih _ _ _ hc ?_
          intro x hx
          rcases List.mem_append.1 hx with h' | h'
          · exact ho x h'
          · obtain rfl : x = at' := by simpa using h'
            exact h0
    exact this _ _ _ _ hcf (by simp)
  have hnode : ∀ x ∈ leaves, readNode l' x = readNode l x := fun x hx => by
    obtain ⟨nd, hnd, _⟩ := chainOf_nodes hc x hx
    exact readNode_same hlen (hb x (mem_baseS.2 (.inr ⟨x, hx, nd, hnd, .inl rfl⟩)) (hn0 x hx))
  have hrec : ∀ x ∈ leaves, ∀ nd, readNode l x = .ok nd → (nd.low ≠ 0 → readRec l' nd.low = readRec l nd.low) ∧ ∀ s ∈ nd.slots, readRec l' s = readRec l s := fun x hx nd hnd => by
    refine ⟨fun hl => readRec_same hlen (hb _ (mem_baseS.2 (.inr ⟨x, hx, nd, hnd, .inr (.inr ⟨hl, rfl⟩)⟩)) hl), fun s hs => ?_⟩
    by_cases h0 : s = 0
    · have := readNode_slot hnd s hs
      omega
    · exact readRec_same hlen (hb _ (mem_baseS.2 (.inr ⟨x, hx, nd, hnd, .inr (.inl hs)⟩)) h0)
  refine ⟨?_, ?_⟩
  · unfold lookOf chainOf
    rw [hs, if_pos rfl, hlen, chainF_same _ _ _ _ hcf hnode]
    simp only
    rw [lookGo_same leaves 0 _ hnode hrec, hg]
    rfl
  · intro x
    rw [mem_baseS, mem_baseS]
    constructor
    · rintro (h0 | ⟨a, ha, nd, hnd, hx⟩)
      · exact .inl h0
      · exact .inr ⟨a, ha, nd, by rw [← hnode a ha]; exact hnd, hx⟩
    · rintro (h0 | ⟨a, ha, nd, hnd, hx⟩)
      · exact .inl h0
      · exact .inr ⟨a, ha, nd, by rw [hnode a ha]; exact hnd, hx⟩
end Go.Proofs.Ytkkaabagehjmbaa
