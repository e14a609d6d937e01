/-
  sum.with, sum.word: a check with a byte more, with a word's eight.
-/
import Derived.Test.YtkkaabagehjmbaaBase
import Derived.Test.YtkkaabagehjmbaaCrc
set_option linter.unusedSimpArgs false
set_option linter.unusedVariables false
namespace Go.Proofs.Ytkkaabagehjmbaa
open Go.RowKit Crc

set_option maxRecDepth 100000 in
theorem with_nat (g : Nat) (c : BitVec 32) (b : Nat) (hb : b < 256) (w : World) (hc : ∀ i, i < 256 → w.cell? ⟨g, i, none⟩ = some (.int .u32 ((tbl i).toNat : Int))) :
    Calls Try.prog 149 #[.pointer (some ⟨g, 0, none⟩), .int .u32 (c.toNat : Int), .int .u8 (b : Int)] w fun e w' => e = .returned (.int .u32 ((byte c b).toNat : Int)) ∧ w = w' := by
  obtain ⟨n, hn⟩ : ∃ n, n = (c.toNat % 256) ^^^ b := ⟨_, rfl⟩
  have hlt : n < 256 := by rw [hn]; exact Nat.xor_lt_two_pow (n := 8) (Nat.mod_lt _ (by decide)) hb
  have hx : bits .xor .u8 ((c.toNat : Int) % 256) (b : Int) = (n : Int) := by
    rw [hn, ← u8_xor_nat _ _ (Nat.mod_lt _ (by decide)) hb]; simp
  have hcell := hc n hlt
  obtain ⟨t, ht⟩ : ∃ t, t = (tbl n).toNat := ⟨_, rfl⟩
  have htl : t < 4294967296 := by rw [ht]; exact (tbl n).isLt
  rw [← ht] at hcell
  have hx2 : bits .xor .u32 ((c.toNat : Int) / 256) (t : Int) = ((c.toNat / 256 ^^^ t : Nat) : Int) := by
    have hcl := c.isLt
    rw [← u32_xor_nat _ _ (by omega) htl]; simp
  have hfin : (byte c b).toNat = c.toNat / 256 ^^^ t := by
    unfold byte
    rw [BitVec.toNat_xor, ← hn, ← ht, BitVec.toNat_ushiftRight, Nat.shiftRight_eq_div_pow]
  have H := Lib.hid hfin
  have hcl := c.isLt
  clear hc hn ht hfin
  generalize c.toNat = cn at *
  go_enter Try.func149, Try.ntmps149
  go_wp2
  go_ret
  exact ⟨by rw [H.out]; rfl, rfl⟩

theorem with_any (g : Nat) (c : BitVec 32) (b : Int) (h0 : 0 ≤ b) (h1 : b < 256) (w : World) (hc : ∀ i, i < 256 → w.cell? ⟨g, i, none⟩ = some (.int .u32 ((tbl i).toNat : Int))) :
    Calls Try.prog 149 #[.pointer (some ⟨g, 0, none⟩), .int .u32 (c.toNat : Int), .int .u8 b] w fun e w' => e = .returned (.int .u32 ((byte c b.toNat).toNat : Int)) ∧ w = w' := by
  obtain ⟨n, rfl⟩ := Int.eq_ofNat_of_zero_le h0
  rw [Int.toNat_natCast]
  exact with_nat g c n (by omega) w hc

/-- A word's bytes, the first k of them. -/
def upTo (c : BitVec 32) (w : Int) : Nat → BitVec 32
  | 0 => c
  | k + 1 => byte (upTo c w k) (Crc.byteOf w (56 - 8 * k))
theorem upTo_word (c : BitVec 32) (w : Int) : upTo c w 8 = word c w := rfl

set_option maxRecDepth 100000 in
theorem word_any (g : Nat) (c : BitVec 32) (x : Int) (w : World) (hc : ∀ i, i < 256 → w.cell? ⟨g, i, none⟩ = some (.int .u32 ((tbl i).toNat : Int))) :
    Calls Try.prog 135 #[.pointer (some ⟨g, 0, none⟩), .int .u32 (c.toNat : Int), .int .i64 x] w fun e w' => e = .returned (.int .u32 ((word c x).toNat : Int)) ∧ w = w' := by
  have HC := Lib.hid hc
  clear hc
  go_enter Try.func135, Try.ntmps135
  go_wp2
  go_loop [1, 7] (fun c' s => ∃ k : Nat, k ≤ 8 ∧ s = .int .i64 (56 - 8 * (k : Int)) ∧ c' = .int .u32 ((upTo c x k).toNat : Int)) (fun _ s => (intOf s + 8).toNat)
  case atStart => exact ⟨0, by omega, rfl, rfl⟩
  case round =>
    obtain ⟨k, hk, rfl, rfl⟩ := hrel
    by_cases h8 : k < 8
    · have hw0 : 0 ≤ IntKind.u64.wrap x := by rw [IntKind.wrap_u64]; omega
      have hb : (IntKind.u64.wrap x / 2 ^ (56 - 8 * k) % 256).toNat = Crc.byteOf x (56 - 8 * k) := by
        have hp : (0 : Int) < 2 ^ (56 - 8 * k) := Int.pow_pos (by decide)
        obtain ⟨m, hm⟩ := Int.eq_ofNat_of_zero_le hw0
        unfold Crc.byteOf
        have e : (x % 18446744073709551616).toNat = m := by rw [IntKind.wrap_u64] at hm; omega
        rw [hm, e]
        have e2 : ((m : Int) / 2 ^ (56 - 8 * k)) = ((m / 2 ^ (56 - 8 * k) : Nat) : Int) := by rw [Int.natCast_ediv]; norm_cast
        rw [e2]
        omega
      have HB := Lib.hid hb
      clear hb
      go_wp2_with fail
      refine (with_any g (upTo c x k) _ (by omega) (by omega) w HC.out).mono ?_
      rintro e w' ⟨rfl, rfl⟩
      rw [HB.out]
      go_wp2_with fail
      go_round
      case rel => exact ⟨k + 1, by omega, by go_num, rfl⟩
      case measure => simp [intOf]; omega
    · obtain rfl : k = 8 := by omega
      go_wp2
      go_ret
      exact ⟨by rw [← upTo_word]; rfl, rfl⟩
end Go.Proofs.Ytkkaabagehjmbaa
