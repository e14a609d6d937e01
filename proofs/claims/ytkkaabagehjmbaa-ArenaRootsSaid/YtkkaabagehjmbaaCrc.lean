/-
  The check of words (a CRC), as a plain function, and what it tells: lists of words of one length that part in one half of one word alone have other checks. Plain Lean; no program.
-/
set_option linter.unusedSimpArgs false
set_option linter.unusedVariables false
namespace Go.Proofs.Ytkkaabagehjmbaa.Crc

def poly : BitVec 32 := 0xEDB88320#32
def step (c : BitVec 32) : BitVec 32 := (c >>> 1) ^^^ (if c.getLsbD 0 then poly else 0#32)
def step8 (c : BitVec 32) : BitVec 32 := step (step (step (step (step (step (step (step c)))))))
/-- What a byte makes of a check. -/
def tbl (b : Nat) : BitVec 32 := step8 (BitVec.ofNat 32 b)
def byte (c : BitVec 32) (b : Nat) : BitVec 32 := (c >>> 8) ^^^ tbl ((c.toNat % 256) ^^^ b)
/-- A word's byte, by how far it is shifted. -/
def byteOf (w : Int) (s : Nat) : Nat := (w % 18446744073709551616).toNat / 2 ^ s % 256
def half (c : BitVec 32) (a b d e : Nat) : BitVec 32 := byte (byte (byte (byte c a) b) d) e
def word (c : BitVec 32) (w : Int) : BitVec 32 :=
  half (half c (byteOf w 56) (byteOf w 48) (byteOf w 40) (byteOf w 32)) (byteOf w 24) (byteOf w 16) (byteOf w 8) (byteOf w 0)
def fold (c : BitVec 32) (l : List Int) : BitVec 32 := l.foldl word c
def crcOf (l : List Int) : Int := ((~~~ (fold 0xFFFFFFFF#32 l)).toNat : Int)

theorem byteOf_lt (w : Int) (s : Nat) : byteOf w s < 256 := by unfold byteOf; exact Nat.mod_lt _ (by decide)

theorem step_xor (a b : BitVec 32) : step (a ^^^ b) = step a ^^^ step b := by
  unfold step
  have h : (a ^^^ b) >>> 1 = a >>> 1 ^^^ b >>> 1 := by
    apply BitVec.eq_of_getLsbD_eq; intro i hi; simp
  rw [h]
  have e : (a ^^^ b).getLsbD 0 = (a.getLsbD 0 ^^ b.getLsbD 0) := by simp
  rw [e]
  generalize a >>> 1 = x
  generalize b >>> 1 = y
  cases a.getLsbD 0 <;> cases b.getLsbD 0
  · simp
  · simp [BitVec.xor_assoc]
  · simp only [Bool.true_bne, Bool.xor_false, if_true, Bool.false_eq_true, if_false, BitVec.xor_zero]; rw [BitVec.xor_assoc, BitVec.xor_comm y, ← BitVec.xor_assoc]
  · simp only [Bool.xor_true, Bool.not_true, Bool.false_eq_true, if_false, if_true, BitVec.xor_zero]
    rw [BitVec.xor_comm y, BitVec.xor_assoc, ← BitVec.xor_assoc poly poly, BitVec.xor_self, BitVec.zero_xor]

theorem step_zero {a : BitVec 32} (h : step a = 0#32) : a = 0#32 := by
  unfold step at h
  have h31 : (a >>> 1 ^^^ (if a.getLsbD 0 then poly else 0#32)).getLsbD 31 = false := by rw [h]; simp
  have h0 : a.getLsbD 0 = false := by
    cases e : a.getLsbD 0
    · rfl
    · rw [e] at h31
      simp [poly] at h31
  rw [h0] at h
  simp only [Bool.false_eq_true, if_false, BitVec.xor_zero] at h
  apply BitVec.eq_of_getLsbD_eq
  intro i hi
  by_cases hz : i = 0
  · subst hz; rw [h0]; simp
  · have hb : (a >>> 1).getLsbD (i - 1) = false := by rw [h]; simp
    rw [BitVec.getLsbD_ushiftRight] at hb
    rw [show 1 + (i - 1) = i from by omega] at hb
    rw [hb]; simp

theorem step_inj {a b : BitVec 32} (h : step a = step b) : a = b := by
  have : step (a ^^^ b) = 0#32 := by rw [step_xor, h, BitVec.xor_self]
  have := step_zero this
  exact BitVec.xor_eq_zero_iff.1 this

theorem step8_xor (a b : BitVec 32) : step8 (a ^^^ b) = step8 a ^^^ step8 b := by
  unfold step8; simp only [step_xor]
theorem step8_inj {a b : BitVec 32} (h : step8 a = step8 b) : a = b := by
  unfold step8 at h
  exact step_inj (step_inj (step_inj (step_inj (step_inj (step_inj (step_inj (step_inj h)))))))
theorem step8_zero : step8 0#32 = 0#32 := by decide

theorem step_shl {x : BitVec 32} {n : Nat} (h : x.toNat < 2 ^ (31 - n)) (hn : n < 31) : step (x <<< (n + 1)) = x <<< n := by
  unfold step
  have e : (x <<< (n + 1)).getLsbD 0 = false := by simp
  rw [e]
  simp only [Bool.false_eq_true, if_false, BitVec.xor_zero]
  apply BitVec.eq_of_toNat_eq
  have hp : 2 ^ (31 - n) * 2 ^ n = 2 ^ 31 := by rw [← Nat.pow_add]; congr 1; omega
  have hlt : x.toNat * 2 ^ n < 2 ^ 31 := by
    rw [← hp]; exact Nat.mul_lt_mul_of_pos_right h (Nat.two_pow_pos n)
  simp only [BitVec.toNat_ushiftRight, BitVec.toNat_shiftLeft, Nat.shiftLeft_eq, Nat.shiftRight_eq_div_pow, Nat.pow_succ]
  rw [← Nat.mul_assoc, Nat.mod_eq_of_lt (by omega), Nat.mod_eq_of_lt (by omega)]
  omega

theorem step8_shl {x : BitVec 32} (h : x.toNat < 2 ^ 24) : step8 (x <<< 8) = x := by
  unfold step8
  rw [step_shl (n := 7) (by simpa using h) (by omega)]
  rw [step_shl (n := 6) (by omega) (by omega), step_shl (n := 5) (by omega) (by omega), step_shl (n := 4) (by omega) (by omega), step_shl (n := 3) (by omega) (by omega), step_shl (n := 2) (by omega) (by omega), step_shl (n := 1) (by omega) (by omega), step_shl (n := 0) (by omega) (by omega)]
  simp

theorem byte_eq (c : BitVec 32) {b : Nat} (hb : b < 256) : byte c b = step8 (c ^^^ BitVec.ofNat 32 b) := by
  have hs : c ^^^ BitVec.ofNat 32 b = ((c >>> 8) <<< 8) ^^^ BitVec.ofNat 32 ((c.toNat % 256) ^^^ b) := by
    apply BitVec.eq_of_getLsbD_eq
    intro i hi
    have h256 : (c.toNat % 256).testBit i = (decide (i < 8) && c.toNat.testBit i) := by
      rw [show (256 : Nat) = 2 ^ 8 from rfl, Nat.testBit_mod_two_pow]
    have hbi : ¬ i < 8 → b.testBit i = false := by
      intro h
      exact Nat.testBit_lt_two_pow (Nat.lt_of_lt_of_le hb (by
        calc 256 = 2 ^ 8 := rfl
          _ ≤ 2 ^ i := Nat.pow_le_pow_right (by omega) (by omega)))
    simp only [BitVec.getLsbD_xor, BitVec.getLsbD_ofNat, hi, decide_true, Bool.true_and, BitVec.getLsbD_shiftLeft, BitVec.getLsbD_ushiftRight, Nat.testBit_xor, h256]
    by_cases h8 : i < 8
    · simp [h8, BitVec.getLsbD]
    · simp [h8, hbi h8, show 8 + (i - 8) = i from by omega, BitVec.getLsbD]
  rw [hs, step8_xor]
  rw [step8_shl (by
    rw [BitVec.toNat_ushiftRight, Nat.shiftRight_eq_div_pow]
    have := c.isLt
    omega)]
  rfl

theorem byte_inj {c c' : BitVec 32} {b : Nat} (hb : b < 256) (h : byte c b = byte c' b) : c = c' := by
  rw [byte_eq c hb, byte_eq c' hb] at h
  have := step8_inj h
  have h2 := congrArg (· ^^^ BitVec.ofNat 32 b) this
  simpa [BitVec.xor_assoc] using h2

theorem half_inj {c c' : BitVec 32} {a b d e : Nat} (ha : a < 256) (hb : b < 256) (hd : d < 256) (he : e < 256) (h : half c a b d e = half c' a b d e) : c = c' :=
  byte_inj ha (byte_inj hb (byte_inj hd (byte_inj he h)))

theorem and255 (x : BitVec 32) : (x <<< 8) &&& 255#32 = 0#32 := by
  apply BitVec.eq_of_getLsbD_eq
  intro i hi
  have h255 : (255#32).getLsbD i = decide (i < 8) := by
    rw [BitVec.getLsbD_ofNat, show (255 : Nat) = 2 ^ 8 - 1 from rfl, Nat.testBit_two_pow_sub_one]; simp [hi]
  rw [BitVec.getLsbD_and, BitVec.getLsbD_shiftLeft, h255]
  by_cases h8 : i < 8 <;> simp [h8]

theorem and255_of_lt {d : BitVec 32} (h : d.toNat < 256) : d &&& 255#32 = d := by
  apply BitVec.eq_of_toNat_eq
  rw [BitVec.toNat_and]
  show d.toNat &&& 255 = _
  rw [show (255 : Nat) = 2 ^ 8 - 1 from rfl, Nat.and_two_pow_sub_one_eq_mod]
  omega

/-- A byte that is what was shifted is nothing. -/
theorem parts {x d : BitVec 32} (hx : x.toNat < 2 ^ 24) (hd : d.toNat < 256) (h : x <<< 8 = d) : x = 0#32 ∧ d = 0#32 := by
  have h1 := and255 x
  rw [h, and255_of_lt hd] at h1
  refine ⟨?_, h1⟩
  have h2 : (x <<< 8).toNat = 0 := by rw [h, h1]; rfl
  rw [BitVec.toNat_shiftLeft, Nat.shiftLeft_eq] at h2
  apply BitVec.eq_of_toNat_eq
  show x.toNat = 0
  omega

theorem shl_xor_lt {x d : BitVec 32} {n : Nat} (hx : x.toNat < 2 ^ n) (hn : n ≤ 16) (hd : d.toNat < 256) : (x <<< 8 ^^^ d).toNat < 2 ^ (n + 8) := by
  rw [BitVec.toNat_xor]
  refine Nat.xor_lt_two_pow ?_ (Nat.lt_of_lt_of_le hd (by
    calc 256 = 2 ^ 8 := rfl
      _ ≤ 2 ^ (n + 8) := Nat.pow_le_pow_right (by omega) (by omega)))
  rw [BitVec.toNat_shiftLeft, Nat.shiftLeft_eq]
  refine Nat.lt_of_le_of_lt (Nat.mod_le _ _) ?_
  rw [Nat.pow_add]
  exact Nat.mul_lt_mul_of_pos_right hx (by decide)

theorem xor_zero_eq {a b : BitVec 32} (h : a ^^^ b = 0#32) : a = b := BitVec.xor_eq_zero_iff.1 h

theorem byte_diff (c c' : BitVec 32) {b b' : Nat} (hb : b < 256) (hb' : b' < 256) : byte c b ^^^ byte c' b' = step8 ((c ^^^ c') ^^^ BitVec.ofNat 32 (b ^^^ b')) := by
  rw [byte_eq c hb, byte_eq c' hb', ← step8_xor]
  congr 1
  have e : BitVec.ofNat 32 (b ^^^ b') = BitVec.ofNat 32 b ^^^ BitVec.ofNat 32 b' := by
    apply BitVec.eq_of_getLsbD_eq; intro i hi; simp [hi]
  rw [e]
  apply BitVec.eq_of_getLsbD_eq
  intro i hi
  simp only [BitVec.getLsbD_xor]
  cases c.getLsbD i <;> cases c'.getLsbD i <;> cases (BitVec.ofNat 32 b).getLsbD i <;> cases (BitVec.ofNat 32 b').getLsbD i <;> rfl

theorem ofNat_lt {b b' : Nat} (hb : b < 256) (hb' : b' < 256) : (BitVec.ofNat 32 (b ^^^ b')).toNat < 256 := by
  rw [BitVec.toNat_ofNat]
  have : b ^^^ b' < 2 ^ 8 := Nat.xor_lt_two_pow hb hb'
  omega

theorem ofNat_zero {b b' : Nat} (hb : b < 256) (hb' : b' < 256) (h : BitVec.ofNat 32 (b ^^^ b') = 0#32) : b = b' := by
  have h1 : b ^^^ b' < 2 ^ 8 := Nat.xor_lt_two_pow hb hb'
  have h2 := congrArg BitVec.toNat h
  simp only [BitVec.toNat_ofNat] at h2
  have h3 : b ^^^ b' = 0 := by omega
  apply Nat.eq_of_testBit_eq
  intro i
  have h4 := congrArg (fun n => n.testBit i) h3
  simp only [Nat.testBit_xor, Nat.zero_testBit] at h4
  cases e1 : b.testBit i <;> cases e2 : b'.testBit i <;> simp_all

/-- Four bytes behind one check: alike alone if all are. -/
theorem half_same {c : BitVec 32} {a b d e a' b' d' e' : Nat} (ha : a < 256) (hb : b < 256) (hd : d < 256) (he : e < 256) (ha' : a' < 256) (hb' : b' < 256) (hd' : d' < 256) (he' : e' < 256)
    (h : half c a b d e = half c a' b' d' e') : a = a' ∧ b = b' ∧ d = d' ∧ e = e' := by
  unfold half at h
  have h4 : byte (byte (byte (byte c a) b) d) e ^^^ byte (byte (byte (byte c a') b') d') e' = 0#32 := by rw [h, BitVec.xor_self]
  rw [byte_diff _ _ he he'] at h4
  have q4 := xor_zero_eq (step8_inj (h4.trans step8_zero.symm))
  rw [byte_diff _ _ hd hd'] at q4
  have l3 := ofNat_lt he he'
  rw [← step8_shl (x := BitVec.ofNat 32 (e ^^^ e')) (by omega)] at q4
  have q3 := step8_inj q4
  have q3' : byte (byte c a) b ^^^ byte (byte c a') b' = (BitVec.ofNat 32 (e ^^^ e') <<< 8) ^^^ BitVec.ofNat 32 (d ^^^ d') := by
    rw [← q3, BitVec.xor_assoc, BitVec.xor_self, BitVec.xor_zero]
  rw [byte_diff _ _ hb hb'] at q3'
  have l2 := ofNat_lt hd hd'
  have m2 := shl_xor_lt (n := 8) (x := BitVec.ofNat 32 (e ^^^ e')) (by omega) (by omega) l2
  rw [← step8_shl (x := (BitVec.ofNat 32 (e ^^^ e') <<< 8) ^^^ BitVec.ofNat 32 (d ^^^ d')) (by omega)] at q3'
  have q2 := step8_inj q3'
  have q2' : byte c a ^^^ byte c a' = (((BitVec.ofNat 32 (e ^^^ e') <<< 8) ^^^ BitVec.ofNat 32 (d ^^^ d')) <<< 8) ^^^ BitVec.ofNat 32 (b ^^^ b') := by
    rw [← q2, BitVec.xor_assoc, BitVec.xor_self, BitVec.xor_zero]
  rw [byte_diff _ _ ha ha', BitVec.xor_self, BitVec.zero_xor] at q2'
  have l1 := ofNat_lt hb hb'
  have m1 := shl_xor_lt (n := 16) (by omega) (by omega) l1 (x := (BitVec.ofNat 32 (e ^^^ e') <<< 8) ^^^ BitVec.ofNat 32 (d ^^^ d'))
  rw [← step8_shl (x := (((BitVec.ofNat 32 (e ^^^ e') <<< 8) ^^^ BitVec.ofNat 32 (d ^^^ d')) <<< 8) ^^^ BitVec.ofNat 32 (b ^^^ b')) (by omega)] at q2'
  have q1 := step8_inj q2'
  have l0 := ofNat_lt ha ha'
  obtain ⟨z1, z0⟩ := parts (by omega) l0 q1.symm
  obtain ⟨z2, zb⟩ := parts (by omega) l1 (xor_zero_eq z1)
  obtain ⟨z3, zd⟩ := parts (by omega) l2 (xor_zero_eq z2)
  exact ⟨ofNat_zero ha ha' z0, ofNat_zero hb hb' zb, ofNat_zero hd hd' zd, ofNat_zero he he' z3⟩

/-- Words of which one half alone parts: other checks. -/
theorem word_ne {c : BitVec 32} {w w' : Int} (hhl : (w % 18446744073709551616).toNat / 2 ^ 32 = (w' % 18446744073709551616).toNat / 2 ^ 32 ∨ (w % 18446744073709551616).toNat % 2 ^ 32 = (w' % 18446744073709551616).toNat % 2 ^ 32)
    (hne : (w % 18446744073709551616).toNat ≠ (w' % 18446744073709551616).toNat) : word c w ≠ word c w' := by
  intro h
  unfold word at h
  have lt : ∀ s, byteOf w s < 256 := byteOf_lt w
  have lt' : ∀ s, byteOf w' s < 256 := byteOf_lt w'
  rcases hhl with hh | hl
  · have e56 : byteOf w 56 = byteOf w' 56 := by unfold byteOf; omega
    have e48 : byteOf w 48 = byteOf w' 48 := by unfold byteOf; omega
    have e40 : byteOf w 40 = byteOf w' 40 := by unfold byteOf; omega
    have e32 : byteOf w 32 = byteOf w' 32 := by unfold byteOf; omega
    rw [e56, e48, e40, e32] at h
    obtain ⟨h1, h2, h3, h4⟩ := half_same (lt _) (lt _) (lt _) (lt _) (lt' _) (lt' _) (lt' _) (lt' _) h
    unfold byteOf at h1 h2 h3 h4
    omega
  · have e24 : byteOf w 24 = byteOf w' 24 := by unfold byteOf; omega
    have e16 : byteOf w 16 = byteOf w' 16 := by unfold byteOf; omega
    have e8 : byteOf w 8 = byteOf w' 8 := by unfold byteOf; omega
    have e0 : byteOf w 0 = byteOf w' 0 := by unfold byteOf; omega
    rw [e24, e16, e8, e0] at h
    have h := half_inj (lt' _) (lt' _) (lt' _) (lt' _) h
    obtain ⟨h1, h2, h3, h4⟩ := half_same (lt _) (lt _) (lt _) (lt _) (lt' _) (lt' _) (lt' _) (lt' _) h
    unfold byteOf at h1 h2 h3 h4
    have := Int.emod_lt_of_pos w (show (0 : Int) < 18446744073709551616 by decide)
    have := Int.emod_lt_of_pos w' (show (0 : Int) < 18446744073709551616 by decide)
    omega

theorem word_inj {c c' : BitVec 32} {w : Int} (h : word c w = word c' w) : c = c' :=
  half_inj (byteOf_lt _ _) (byteOf_lt _ _) (byteOf_lt _ _) (byteOf_lt _ _) (half_inj (byteOf_lt _ _) (byteOf_lt _ _) (byteOf_lt _ _) (byteOf_lt _ _) h)

theorem fold_inj {l : List Int} : ∀ {c c' : BitVec 32}, fold c l = fold c' l → c = c' := by
  induction l with
  | nil => intro c c' h; exact h
  | cons x r ih => intro c c' h; exact word_inj (ih h)

theorem crcOf_parts {a b : List Int} {w w' : Int} (hhl : (w % 18446744073709551616).toNat / 2 ^ 32 = (w' % 18446744073709551616).toNat / 2 ^ 32 ∨ (w % 18446744073709551616).toNat % 2 ^ 32 = (w' % 18446744073709551616).toNat % 2 ^ 32)
    (hne : (w % 18446744073709551616).toNat ≠ (w' % 18446744073709551616).toNat) : crcOf (a ++ w :: b) ≠ crcOf (a ++ w' :: b) := by
  intro h
  unfold crcOf at h
  have h1 : ~~~ (fold 0xFFFFFFFF#32 (a ++ w :: b)) = ~~~ (fold 0xFFFFFFFF#32 (a ++ w' :: b)) := BitVec.eq_of_toNat_eq (by omega)
  have h2 := congrArg (fun x => ~~~ x) h1
  simp only [BitVec.not_not] at h2
  unfold fold at h2
  rw [List.foldl_append, List.foldl_append] at h2
  exact word_ne hhl hne (fold_inj h2)

theorem crcOf_nonneg (l : List Int) : 0 ≤ crcOf l := by unfold crcOf; omega
theorem crcOf_lt (l : List Int) : crcOf l < 4294967296 := by
  unfold crcOf
  have := (~~~ (fold 0xFFFFFFFF#32 l)).isLt
  omega

end Go.Proofs.Ytkkaabagehjmbaa.Crc
