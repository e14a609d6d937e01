/-
  Plain facts about the leaves of a sound arena, and what it reaches.
-/
import Derived.Test.YtkkaabagehjmbaaNewLaw
set_option linter.unusedSimpArgs false
set_option linter.unusedVariables false
namespace Go.Proofs.Ytkkaabagehjmbaa
open Go.RowKit Go.Shelf Crc

theorem readNode_in {l : List Int} {x : Int} {nd : NodeV} (h : readNode l x = .ok nd) : 0 ≤ x ∧ x < ((l.length / 16 : Nat) : Int) := by
  unfold readNode at h
  split at h
  · cases h
  · omega
theorem readRec_in {l : List Int} {x : Int} {r : RecV} (h : readRec l x = .ok r) : 0 ≤ x ∧ x < ((l.length / 16 : Nat) : Int) := by
  unfold readRec at h
  split at h
  · cases h
  · omega
theorem chainOf_parts {l out : List Int} (h : chainOf l = some out) : superOk l = true ∧ chainF l (l.length / 16 + 1) [] 1 = some out := by
  unfold chainOf at h
  split at h
  · exact ⟨by assumption, h⟩
  · cases h
theorem lookOf_parts {l out : List Int} (h : lookOf l = some out) : chainOf l = some out ∧ lookGo l 0 (ByteArray.mk #[]) out = true := by
  unfold lookOf at h
  split at h
  · rename_i o ho
    cases hg : lookGo l 0 (ByteArray.mk #[]) o with
    | true => rw [hg] at h; cases h; exact ⟨ho, hg⟩
    | false => rw [hg] at h; cases h
  · cases h
/-- One step of the chain. -/
theorem chainF_step {l : List Int} {k : Nat} {out : List Int} {at' : Int} {r : List Int} (h0 : at' ≠ 0) (h : chainF l (k + 1) out at' = some r) :
    ∃ nd, readNode l at' = .ok nd ∧ nd.lev = 0 ∧ at' ∉ out ∧ chainF l k (out ++ [at']) nd.next = some r := by
  unfold chainF at h
  rw [if_neg h0] at h
  rcases hn : readNode l at' with x | nd
  · rw [hn] at h; cases h
  · rw [hn] at h
    simp only at h
    split at h
    · rename_i hc
      simp only [Bool.and_eq_true, decide_eq_true_eq] at hc
      refine ⟨nd, rfl, hc.1, ?_, h⟩
      intro hm
      have := hc.2
      simp [hm] at this
    · cases h
theorem chainF_prefix (l : List Int) : ∀ (k : Nat) (out : List Int) (at' : Int) (r : List Int), chainF l k out at' = some r → ∃ t, r = out ++ t
  | 0, out, at', r, h => by unfold chainF at h; cases h
  | k + 1, out, at', r, h => by
    by_cases h0 : at' = 0
    · unfold chainF at h
      rw [if_pos h0] at h
      cases h
      exact ⟨[], by simp⟩
    · obtain ⟨nd, _, _, _, hc⟩ := chainF_step h0 h
      obtain ⟨t, rfl⟩ := chainF_prefix l k _ _ _ hc
      exact ⟨at' :: t, by simp⟩
theorem chainF_nodup (l : List Int) : ∀ (k : Nat) (out : List Int) (at' : Int) (r : List Int), chainF l k out at' = some r → out.Nodup → r.Nodup
  | 0, out, at', r, h, _ => by unfold chainF at h; cases h
  | k + 1, out, at', r, h, hn => by
    by_cases h0 : at' = 0
    · unfold chainF at h
      rw [if_pos h0] at h
      cases h
      exact hn
    · obtain ⟨nd, _, _, hno, hc⟩ := chainF_step h0 h
      refine chainF_nodup l k _ _ _ hc ?_
      rw [List.nodup_append]
      refine ⟨hn, by simp, ?_⟩
      intro a ha b hb
      obtain rfl : b = at' := by simpa using hb
      intro e
      subst e
      exact hno ha
/-- The first leaf is block 1. -/
theorem chainOf_head {l out : List Int} (h : chainOf l = some out) : ∃ t, out = 1 :: t := by
  obtain ⟨_, hc⟩ := chainOf_parts h
  obtain ⟨nd, _, _, _, hc⟩ := chainF_step (by decide) hc
  obtain ⟨t, rfl⟩ := chainF_prefix l _ _ _ _ hc
  exact ⟨t, by simp⟩
theorem chainOf_nodup {l out : List Int} (h : chainOf l = some out) : out.Nodup := chainF_nodup l _ _ _ _ (chainOf_parts h).2 (by simp)
theorem chainOf_nodes {l out : List Int} (h : chainOf l = some out) : ∀ x ∈ out, ∃ nd, readNode l x = .ok nd ∧ nd.lev = 0 :=
  (chainF_facts l _ _ _ _ (chainOf_parts h).2 (by simp)).2
theorem chainOf_in {l out : List Int} (h : chainOf l = some out) : ∀ x ∈ out, 0 ≤ x ∧ x < ((l.length / 16 : Nat) : Int) := fun x hx => by
  obtain ⟨nd, hn, _⟩ := chainOf_nodes h x hx
  exact readNode_in hn
theorem superOk_len {l : List Int} (h : superOk l = true) : 32 ≤ l.length := by
  unfold superOk at h
  simp only [Bool.and_eq_true, decide_eq_true_eq] at h
  exact h.1

theorem mem_reachOut {N : Nat} {S : List Int} {x : Int} : x ∈ reachOut N S ↔ (0 ≤ x ∧ x < (N : Int)) ∧ x ∈ S := by
  unfold reachOut
  simp only [List.mem_filter, List.mem_map, List.mem_range, decide_eq_true_eq]
  constructor
  · rintro ⟨⟨k, hk, rfl⟩, h⟩
    exact ⟨by omega, h⟩
  · rintro ⟨⟨h0, h1⟩, h⟩
    exact ⟨⟨x.toNat, by omega, by omega⟩, h⟩
theorem reachOut_sorted (N : Nat) (S : List Int) : (reachOut N S).Pairwise (· < ·) := by
  unfold reachOut
  refine List.Pairwise.filter _ ?_
  rw [List.pairwise_map]
  exact List.pairwise_lt_range.imp (fun h => by omega)
/-- All of the leaves' own is in what is reached, as far as it is in the arena. -/
theorem mem_baseS_go (l : List Int) (x : Int) : ∀ (leaves S : List Int), x ∈ leaves.foldl (fun S at' => match readNode l at' with | .ok nd => addAll nd.slots (addLow nd.low (at' :: S)) | .error _ => S) S ↔
    x ∈ S ∨ ∃ at' ∈ leaves, ∃ nd, readNode l at' = .ok nd ∧ (x = at' ∨ x ∈ nd.slots ∨ (nd.low ≠ 0 ∧ x = nd.low))
  | [], S => by simp
  | a :: t, S => by
    rw [List.foldl_cons, mem_baseS_go l x t]
    rcases hn : readNode l a with e | nd
    · simp only [hn, List.mem_cons, exists_eq_or_imp]
      simp [hn]
    · have hm : x ∈ addAll nd.slots (addLow nd.low (a :: S)) ↔ x ∈ S ∨ (x = a ∨ x ∈ nd.slots ∨ (nd.low ≠ 0 ∧ x = nd.low)) := by
        rw [mem_addAll]
        unfold addLow
        split <;> simp_all <;> grind
      simp only [List.mem_cons, exists_eq_or_imp]
      rw [hm]
      have : (∃ nd', readNode l a = .ok nd' ∧ (x = a ∨ x ∈ nd'.slots ∨ (nd'.low ≠ 0 ∧ x = nd'.low))) ↔ (x = a ∨ x ∈ nd.slots ∨ (nd.low ≠ 0 ∧ x = nd.low)) := by
        rw [hn]
        constructor
        · rintro ⟨nd', h, h'⟩; cases h; exact h'
        · intro h; exact ⟨nd, rfl, h⟩
      rw [this]
      exact or_assoc
theorem mem_baseS {l leaves : List Int} {x : Int} : x ∈ baseS l leaves ↔ x = 0 ∨ ∃ at' ∈ leaves, ∃ nd, readNode l at' = .ok nd ∧ (x = at' ∨ x ∈ nd.slots ∨ (nd.low ≠ 0 ∧ x = nd.low)) := by
  refine Iff.trans (mem_baseS_go l x leaves [0]) ?_
  simp

/-- What look has seen of one leaf. -/
theorem lookGo_at {l : List Int} : ∀ (out : List Int) (i : Nat) (last : ByteArray), lookGo l i last out = true → ∀ j, (hj : j < out.length) →
    ∃ nd low prev, readNode l out[j] = .ok nd ∧ lowVal l nd.low = some low ∧ slotsGo l low 0 low (Lib.compact nd.slots) = true ∧
      (if j = 0 then prev = last else lowAt l (out[j - 1]'(by omega)) = some prev) ∧ ((i + j = 0 ∧ nd.low = 0) ∨ (0 < i + j ∧ gtS low prev = true))
  | [], i, last, h, j, hj => by simp at hj
  | a :: t, i, last, h, j, hj => by
    unfold lookGo at h
    rcases hn : readNode l a with e | nd
    · rw [hn] at h; cases h
    · rw [hn] at h
      simp only at h
      rcases hl : lowVal l nd.low with _ | low
      · rw [hl] at h; cases h
      · rw [hl] at h
        simp only [Bool.and_eq_true, Bool.or_eq_true, decide_eq_true_eq, beq_iff_eq] at h
        obtain ⟨⟨h1, h2⟩, h3⟩ := h
        rcases j with _ | j
        · exact ⟨nd, low, last, hn, hl, h2, rfl, by simpa using h1⟩
        · obtain ⟨nd', low', prev, q1, q2, q3, q4, q5⟩ := lookGo_at t (i + 1) low h3 j (by simpa using hj)
          refine ⟨nd', low', prev, by simpa using q1, q2, q3, ?_, ?_⟩
          · rw [if_neg (by omega)]
            rcases j with _ | j
            · rw [if_pos rfl] at q4
              subst q4
              show lowAt l a = some _
              unfold lowAt
              rw [hn]
              exact hl
            · rw [if_neg (by omega)] at q4
              simpa using q4
          · have e : i + 1 + j = i + (j + 1) := by omega
            rwa [e] at q5
end Go.Proofs.Ytkkaabagehjmbaa
