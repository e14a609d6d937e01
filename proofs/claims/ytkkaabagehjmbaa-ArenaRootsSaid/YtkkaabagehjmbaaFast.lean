/-
  slices.IndexFunc, slices.ContainsFunc at []int with a plain function; fast.node, fast.Slots.
-/
import Derived.Test.YtkkaabagehjmbaaSlices
set_option linter.unusedSimpArgs false
set_option linter.unusedVariables false
namespace Go.Proofs.Ytkkaabagehjmbaa
open Go.RowKit

/-- The first place at which p holds, or -1. -/
def idxP (p : Int → Bool) (l : List Int) : Int := match l.findIdx? p with | some i => (i : Int) | none => -1

theorem idxP_some {p : Int → Bool} {l : List Int} {k : Nat} (hk : k < l.length) (h : p (l[k]?.getD 0) = true) (hb : ∀ j, j < k → p (l[j]?.getD 0) = false) : idxP p l = (k : Int) := by
  unfold idxP
  have : l.findIdx? p = some k := by
    rw [List.findIdx?_eq_some_iff_getElem]
    refine ⟨hk, ?_, fun j hj => ?_⟩
    · rw [List.getElem?_eq_getElem hk] at h; exact h
    · have := hb j hj
      rw [List.getElem?_eq_getElem (by omega)] at this
      simp at this
      simp [this]
  rw [this]
theorem idxP_none {p : Int → Bool} {l : List Int} (hb : ∀ j, j < l.length → p (l[j]?.getD 0) = false) : idxP p l = -1 := by
  unfold idxP
  have : l.findIdx? p = none := by
    rw [List.findIdx?_eq_none_iff]
    intro x hx
    obtain ⟨j, hj, rfl⟩ := List.mem_iff_getElem.1 hx
    have := hb j hj
    rw [List.getElem?_eq_getElem hj] at this
    simpa using this
  rw [this]

set_option maxRecDepth 100000 in
theorem indexFunc_any (k : Nat) (hk : ∀ args w, (callFunc k args).run Try.prog w = .ok (.enter k args) w) (p : Int → Bool)
    (hp : ∀ (x : Int) (W : World), Calls Try.prog k #[.int .i64 x] W fun e w' => e = .returned (.bool (p x)) ∧ W = w')
    (A : Option Addr) (n c B : Nat) (l : List Int) (hn : l.length = n) (h1 : n ≤ 9223372036854775807) (w : World) (hr : RInts w B A l) :
    Calls Try.prog 89 #[.slice A n c, .func (.func k) #[] #[]] w fun e w' => e = .returned (.int .i64 (idxP p l)) ∧ w = w' := by
  subst hn
  have HR := Lib.hid hr
  have HP := Lib.hid hp
  clear hr hp
  go_enter Try.func89, Try.ntmps89
  go_wp2_with fail
  go_loop [5, 8] (fun _ i => ∃ k : Nat, k ≤ l.length ∧ i = .int .i64 k ∧ Hid (∀ j, j < k → p (l[j]?.getD 0) = false)) (fun _ i => l.length - (intOf i).toNat)
  case atStart => exact ⟨0, by omega, rfl, Lib.hid fun j hj => absurd hj (by omega)⟩
  case round =>
    obtain ⟨i, hi, rfl, hz⟩ := hrel
    by_cases hlt : i < l.length
    · obtain ⟨b, off, rfl, _, hcell⟩ := HR.out.at_ hlt
      generalize hx : l[i]?.getD 0 = x at *
      have HX := Lib.hid hx
      clear hx
      go_wp2_with fail
      refine (HP.out x _).mono ?_
      rintro e w' ⟨rfl, rfl⟩
      by_cases hpx : p x = true
      · have HPX := Lib.hid hpx
        rw [hpx]
        clear hpx
        go_wp2_with fail
        go_ret
        exact ⟨ret_eq (int_eq (idxP_some hlt (by rw [HX.out]; exact HPX.out) hz.out).symm), rfl⟩
      · have hpf : p x = false := by simpa using hpx
        have HPX := Lib.hid hpf
        rw [hpf]
        clear hpx hpf
        go_wp2_with fail
        go_round
        case rel => exact ⟨i + 1, by omega, by go_num, Lib.hid fun j hj => by
          rcases Nat.lt_or_ge j i with h' | h'
          · exact hz.out j h'
          · obtain rfl : j = i := by omega
            rw [HX.out]; exact HPX.out⟩
        case measure => simp [intOf]; omega
    · obtain rfl : i = l.length := by omega
      go_wp2_with fail
      go_ret
      exact ⟨ret_eq (int_eq (idxP_none hz.out).symm), rfl⟩

/-- The slots of a node's sixteen words. -/
def slotsOf (l : List Int) : List Int := (l.drop 3).takeWhile fun x => !decide (x < 1)

set_option maxRecDepth 100000 in
theorem slots1_any (x : Int) (w : World) : Calls Try.prog 90 #[.int .i64 x] w fun e w' => e = .returned (.bool (decide (x < 1))) ∧ w = w' := by
  go_enter Try.func90, Try.ntmps90
  go_wp2_with fail
  go_ret
  exact ⟨rfl, rfl⟩
theorem slots1_enters (args : Array Value) (w : World) : (callFunc 90 args).run Try.prog w = .ok (.enter 90 args) w := by kernel_rfl

set_option maxRecDepth 100000 in
theorem node_yes (b : Int) (h0 : 0 ≤ b) (h1 : b ≤ 4080) (h2 : b % 16 = 0) (w : World) : Calls Try.prog 88 #[.int .i64 b] w fun e w' => e = .returned (.bool true) ∧ w = w' := by
  have hd : (b % 16 == 0) = true := by simp [h2]
  go_enter Try.func88, Try.ntmps88
  go_wp2
  go_ret
  exact ⟨rfl, rfl⟩

theorem takeWhile_of {p : Int → Bool} {l : List Int} {k : Nat} (hk : k ≤ l.length) (hb : ∀ j, j < k → p (l[j]?.getD 0) = true) (he : k < l.length → p (l[k]?.getD 0) = false) : l.takeWhile p = l.take k := by
  induction l generalizing k with
  | nil => simp
  | cons x r ih =>
    cases k with
    | zero =>
      have := he (by simp)
      simp at this
      simp [List.takeWhile_cons, this]
    | succ k =>
      have h0 := hb 0 (by omega)
      simp at h0
      rw [List.takeWhile_cons, if_pos h0, List.take_succ_cons, ih (by simpa using hk) (fun j hj => by simpa using hb (j + 1) (by omega)) (fun h => by simpa using he (by simpa using h))]

theorem first_hole (p : Int → Bool) (l : List Int) : ∃ k, k ≤ l.length ∧ (∀ j, j < k → p (l[j]?.getD 0) = false) ∧ (k < l.length → p (l[k]?.getD 0) = true) := by
  induction l with
  | nil => exact ⟨0, Nat.le_refl _, fun j hj => absurd hj (by omega), fun h => absurd h (by simp)⟩
  | cons x r ih =>
    by_cases h : p x = true
    · exact ⟨0, by omega, fun j hj => absurd hj (by omega), fun _ => by simpa using h⟩
    · obtain ⟨k, h1, h2, h3⟩ := ih
      refine ⟨k + 1, by simpa using h1, fun j hj => ?_, fun hk => by simpa using h3 (by simpa using hk)⟩
      cases j with
      | zero => simpa using h
      | succ j => simpa using h2 j (by omega)

set_option maxRecDepth 100000 in
theorem slots_any (A : Option Addr) (cap B : Nat) (l : List Int) (hn : l.length = 16) (hcap : 16 ≤ cap) (hbig : cap ≤ 9223372036854775807) (w : World) (hr : RInts w B A l) :
    Calls Try.prog 58 #[.slice A 16 cap, .int .i64 0] w (PostOwn w (slotsOf l)) := by
  obtain ⟨b, off, rfl, hb, hc⟩ := hr (by intro e; subst e; simp at hn)
  have hr2 : RInts w B (some ⟨b, off + 3, none⟩) (l.drop 3) := fun _ => ⟨b, off + 3, rfl, hb, fun i hi => by
    have := hc (3 + i) (by simp at hi; omega)
    rw [← Nat.add_assoc] at this
    rw [this]; simp⟩
  have HR := Lib.hid hr2
  have hl13 : (l.drop 3).length = 13 := by simp [hn]
  have HL := Lib.hid hl13
  obtain ⟨k, hk1, hk2, hk3⟩ := first_hole (fun x => decide (x < 1)) (l.drop 3)
  have hs : slotsOf l = (l.drop 3).take k := by
    unfold slotsOf
    exact takeWhile_of hk1 (fun j hj => by rw [show decide ((l.drop 3)[j]?.getD 0 < 1) = false from hk2 j hj]; rfl) (fun h => by rw [show decide ((l.drop 3)[k]?.getD 0 < 1) = true from hk3 h]; rfl)
  rw [hs]
  clear hs
  generalize l.drop 3 = m at *
  have hk13 : k ≤ 13 := by omega
  have hlen : (m.take k).length = k := by simp; omega
  have HLen := Lib.hid hlen
  have hr3 : RInts w B (some ⟨b, off + 3, none⟩) (m.take k) := fun hne => by
    obtain ⟨b', o', hA, hb', hc'⟩ := HR.out (by intro e; subst e; simp at hne)
    exact ⟨b', o', hA, hb', fun i hi => by rw [hc' i (by simp at hi; omega)]; rw [List.getElem?_take, if_pos (by simp at hi; omega)]⟩
  have HR3 := Lib.hid hr3
  clear hc hl13 hr2 hr hlen hr3
  have HK1 := Lib.hid hk1
  have HK2 := Lib.hid hk2
  have HK3 := Lib.hid hk3
  clear hk1 hk2 hk3
  go_enter Try.func58, Try.ntmps58
  go_wp2_with fail
  refine (node_yes 0 (by omega) (by omega) rfl w).mono ?_
  rintro e w' ⟨rfl, rfl⟩
  go_wp2_with fail
  refine (indexFunc_any 90 slots1_enters (fun x => decide (x < 1)) slots1_any (some ⟨b, off + 3, none⟩) 13 13 B m HL.out (by omega) w HR.out).mono ?_
  rintro e w' ⟨rfl, rfl⟩
  by_cases hlt : k < 13
  · rw [idxP_some (by rw [HL.out]; exact hlt) (HK3.out (by rw [HL.out]; exact hlt)) HK2.out]
    go_wp2_with fail
    refine (clone_any (some ⟨b, off + 3, none⟩) k 13 B (m.take k) HLen.out (by omega) w HR3.out).mono ?_
    rintro e w' ⟨v, rfl, ho, hbel⟩
    have HO := Lib.hid ho
    clear ho
    go_wp2_with fail
    go_ret
    exact ⟨v, rfl, HO.out, hbel⟩
  · obtain rfl : k = 13 := by omega
    rw [idxP_none (fun j hj => HK2.out j (by rw [HL.out] at hj; exact hj))]
    go_wp2_with fail
    refine (clone_any (some ⟨b, off + 3, none⟩) 13 13 B (m.take 13) HLen.out (by omega) w HR3.out).mono ?_
    rintro e w' ⟨v, rfl, ho, hbel⟩
    have HO := Lib.hid ho
    clear ho
    go_wp2_with fail
    go_ret
    exact ⟨v, rfl, HO.out, hbel⟩
end Go.Proofs.Ytkkaabagehjmbaa
