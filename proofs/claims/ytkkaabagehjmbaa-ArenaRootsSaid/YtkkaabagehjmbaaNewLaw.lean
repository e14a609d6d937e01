/-
  What a new arena reads as.
-/
import Derived.Test.YtkkaabagehjmbaaNums
set_option linter.unusedSimpArgs false
set_option linter.unusedVariables false
namespace Go.Proofs.Ytkkaabagehjmbaa
open Go.RowKit Go.Shelf Crc

def leafW : List Int := nodeWords 0 0 0 0 []
theorem newWords_eq (k : Nat) (hk : 2 ≤ k) : newWords k = superWords k 1 ++ (leafW ++ zeros (16 * k - 32)) := by
  unfold newWords over
  rw [superWords_length, leafWords_length]
  have e1 : (zeros (16 * k)).drop (0 + 16) = zeros (16 * k - 16) := by simp [zeros]
  rw [e1, List.take_zero, List.nil_append]
  rw [List.take_append_of_le_length (by rw [superWords_length]; exact Nat.le_refl _), List.take_of_length_le (by rw [superWords_length]; exact Nat.le_refl _)]
  rw [List.drop_append, List.drop_of_length_le (by rw [superWords_length]; omega), superWords_length, List.nil_append]
  have e2 : (zeros (16 * k - 16)).drop (16 + 16 - 16) = zeros (16 * k - 32) := by simp [zeros]; omega
  rw [e2, List.append_assoc]
  rfl
theorem blk1_new (k : Nat) (hk : 2 ≤ k) : blk16 (newWords k) 1 = leafW := by
  rw [newWords_eq k hk]
  unfold blk16
  rw [List.drop_append, List.drop_of_length_le (by rw [superWords_length]; omega), superWords_length, List.nil_append]
  simp only [Nat.mul_one, Nat.sub_self, List.drop_zero]
  rw [List.take_append_of_le_length (by unfold leafW; rw [leafWords_length]; exact Nat.le_refl _), List.take_of_length_le (by unfold leafW; rw [leafWords_length]; exact Nat.le_refl _)]
def leafN : NodeV := ⟨0, 0, 0, 0, []⟩
theorem leaf_of : nodeOf16 leafW = leafN := by
  have h1 : levOf (leafW[0]?.getD 0) = 0 := by kernel_rfl
  have h2 : turnOf (leafW[0]?.getD 0) = 0 := by kernel_rfl
  have h3 : leafW[1]?.getD 0 = 0 := rfl
  have h4 : leafW[2]?.getD 0 = 0 := rfl
  have h5 : slotsOf leafW = [] := by decide
  unfold nodeOf16
  rw [h1, h2, h3, h4, h5]
  rfl
theorem leaf_ok : leafN.ok = true := by rfl
theorem leaf_words : leafN.words = leafW := by rfl
theorem readNode_new (k : Nat) (hk : 2 ≤ k) : readNode (newWords k) 1 = .ok leafN := by
  unfold readNode
  rw [newWords_length k hk, if_neg (by omega)]
  show (if (nodeOf16 (blk16 (newWords k) 1)).ok && ((nodeOf16 (blk16 (newWords k) 1)).words == blk16 (newWords k) 1) then Except.ok (nodeOf16 (blk16 (newWords k) 1)) else Except.error 90) = _
  rw [blk1_new k hk, leaf_of, leaf_ok, leaf_words]
  simp
theorem superOk_new (k : Nat) (hk : 2 ≤ k) (h256 : k ≤ 256) : superOk (newWords k) = true := by
  have hl := newWords_length k hk
  unfold superOk
  rw [hl]
  have hm : headMay k 1 = true := by unfold headMay; simp; omega
  rw [newWords_eq k hk]
  have e0 : (superWords k 1 ++ (leafW ++ zeros (16 * k - 32)))[0]?.getD 0 = 7015 := rfl
  have e1 : (superWords k 1 ++ (leafW ++ zeros (16 * k - 32)))[1]?.getD 0 = (k : Int) := rfl
  have e2 : (superWords k 1 ++ (leafW ++ zeros (16 * k - 32)))[2]?.getD 0 = crcOf [7015, (k : Int)] := rfl
  have e3 : (superWords k 1 ++ (leafW ++ zeros (16 * k - 32)))[3]?.getD 0 = 1 := rfl
  rw [e0, e1, e2, e3, hm]
  have e4 : (((superWords k 1 ++ (leafW ++ zeros (16 * k - 32))).drop 4).take 12).all (· == 0) = true := rfl
  rw [e4]
  simp
  omega
theorem chain_new (k : Nat) (hk : 2 ≤ k) (h256 : k ≤ 256) : chainOf (newWords k) = some [1] := by
  unfold chainOf
  rw [superOk_new k hk h256, if_pos rfl, newWords_length k hk]
  obtain ⟨j, hj⟩ : ∃ j, 16 * k / 16 + 1 = j + 1 + 1 := ⟨16 * k / 16 - 1, by omega⟩
  rw [hj]
  unfold chainF
  rw [if_neg (by decide), readNode_new k hk]
  show (if leafN.lev = 0 && !([] : List Int).contains 1 then chainF (newWords k) (j + 1) ([] ++ [1]) leafN.next else none) = some [1]
  rw [if_pos (by rfl)]
  unfold chainF
  rw [if_pos (by rfl)]
  rfl
theorem look_new (k : Nat) (hk : 2 ≤ k) (h256 : k ≤ 256) : lookOf (newWords k) = some [1] := by
  unfold lookOf
  rw [chain_new k hk h256]
  have : lookGo (newWords k) 0 (ByteArray.mk #[]) [1] = true := by
    unfold lookGo
    rw [readNode_new k hk]
    rfl
  show cond (lookGo (newWords k) 0 (ByteArray.mk #[]) [1]) (some [1]) none = some [1]
  rw [this]
  rfl
theorem low_new (k : Nat) (hk : 2 ≤ k) : lowAt (newWords k) 1 = some (ByteArray.mk #[]) := by
  unfold lowAt
  rw [readNode_new k hk]
  rfl
theorem leafRoot_new (k : Nat) (hk : 2 ≤ k) : leafRoot (newWords k) := by
  refine ⟨leafN, ?_, rfl⟩
  have e3 : (newWords k)[3]?.getD 0 = 1 := by rw [newWords_eq k hk]; rfl
  rw [e3]
  exact readNode_new k hk
theorem base_new (k : Nat) (hk : 2 ≤ k) : baseS (newWords k) [1] = [1, 0] := by
  unfold baseS
  simp only [List.foldl_cons, List.foldl_nil, readNode_new k hk]
  rfl
end Go.Proofs.Ytkkaabagehjmbaa
