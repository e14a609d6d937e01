/-
  arena.chain.
-/
import Derived.Test.YtkkaabagehjmbaaArena
import Derived.Test.YtkkaabagehjmbaaSuper3
set_option linter.unusedSimpArgs false
set_option linter.unusedVariables false
namespace Go.Proofs.Ytkkaabagehjmbaa
open Go.RowKit Go.Shelf Crc
attribute [local go_sem ↓] Go.wp_at_zero Go.wp_at_succ

/-- The chain from a block on: so many steps at most. -/
def chainF (l : List Int) : Nat → List Int → Int → Option (List Int)
  | 0, _, _ => none
  | k + 1, out, at' => if at' = 0 then some out else
    match readNode l at' with
    | .ok nd => if nd.lev = 0 && !out.contains at' then chainF l k (out ++ [at']) nd.next else none
    | .error _ => none
def chainOf (l : List Int) : Option (List Int) := if superOk l then chainF l (l.length / 16 + 1) [] 1 else none

/-- Numbers of a range, each once, are no more than the range has. -/
theorem nodup_le : ∀ (N : Nat) (l : List Int), l.Nodup → (∀ x ∈ l, 0 ≤ x ∧ x < N) → l.length ≤ N
  | 0, l, _, h => by
    rcases l with _ | ⟨x, t⟩
    · simp
    · have := h x (by simp); omega
  | N + 1, l, hn, h => by
    by_cases hm : ((N : Nat) : Int) ∈ l
    · have h1 := nodup_le N (l.erase (N : Int)) (hn.erase _) (fun x hx => by
        have hx' := List.mem_of_mem_erase hx
        have hne : x ≠ (N : Int) := fun e => by subst e; exact (List.Nodup.not_mem_erase hn) hx
        have := h x hx'
        omega)
      rw [List.length_erase_of_mem hm] at h1
      omega
    · have h1 := nodup_le N l hn (fun x hx => by
        have hne : x ≠ (N : Int) := fun e => by subst e; exact hm hx
        have := h x hx
        omega)
      omega

theorem own_below {w w' : World} {base size n : Nat} {t : TypeId} {v : Value} {xs : List Value} (h : w.ownsRow base t size v n xs) (hb : Below w.heap.size w w') : w'.ownsRow base t size v n xs := by
  refine ⟨h.1, ?_⟩
  rcases h.2 with hn | ⟨g, cap, cur, hv, hbg, hg, rest⟩
  · exact .inl hn
  · exact .inr ⟨g, cap, cur, hv, hbg, (hb.block g (Array.getElem?_eq_some_iff.1 hg).1).trans hg, rest⟩
/-- A block of another element type is no slice's own. -/
theorem far_of {w : World} {base size n g : Nat} {t t' : TypeId} {v : Value} {xs : List Value} {cs : Array Value} (h : w.ownsRow base t size v n xs) (hg : Blk w g t' cs) (hne : t' ≠ t := by decide) : some g ≠ v.ownBlock := by
  rcases h.2 with ⟨rfl, _⟩ | ⟨g', cap, cur, rfl, _, hg', _⟩
  · simp [Value.ownBlock]
  · intro e
    obtain rfl : g = g' := by simpa [Value.ownBlock] using e
    rw [show w.heap[g]? = _ from hg] at hg'
    cases hg'
    exact hne rfl

def PostChain (w : World) : Option (List Int) → Ending → World → Prop
  | none, e, w' => e = .panicked Corrupt ∧ Below w.heap.size w w'
  | some out, e, w' => ∃ A c, e = .returned (.slice A out.length c) ∧ out.length ≤ c ∧ c ≤ maxLen ∧ RInts w' w'.heap.size A out ∧ Below w.heap.size w w'

set_option maxHeartbeats 1000000 in
set_option maxRecDepth 100000 in
theorem chain_any (A : Option Addr) (n c B : Nat) (l : List Int) (hn : l.length = n) (hnc : n ≤ c) (hbig : c ≤ 9223372036854775807) (w : World) (hB : B ≤ w.heap.size) (hr : RInts w B A l) :
    Calls Try.prog 50 #[.slice A n c] w (PostChain w (chainOf l)) := by
  have HS := Lib.hid (superRead_any A n c l hn w B hB hr hnc hbig)
  have HN := Lib.hid (fun at' w' (hb : Below w.heap.size w w') => nodeOf_any A n c B at' l hn hnc hbig w' (Nat.le_trans hB hb.size) (hr.below hb hB))
  obtain ⟨i0, hi, hz0, hz1, hz2⟩ := info_parts (show (Try.prog.info? 3).map (fun i => (i.zero, i.size, i.bytes)) = some (some (.int .i64 0), 1, 8) by kernel_rfl)
  obtain ⟨r, hr_⟩ : ∃ r, r = chainOf l := ⟨_, rfl⟩
  rw [← hr_]
  unfold chainOf at hr_
  rcases hok : superOk l with _ | _
  · rw [hok] at hr_
    have e1 : r = none := by simpa using hr_
    subst e1
    have HOk := Lib.hid hok
    clear hr_ hok hr
    go_enter Try.func50, Try.ntmps50
    go_wp2_with fail
    refine HS.out.mono ?_
    rintro e w1 ⟨(⟨h, _⟩ | ⟨_, rfl⟩), hb1⟩
    · rw [HOk.out] at h; cases h
    · go_wp2_with (go_at_call 82; refine (sound_no _).mono ?_; rintro e w2 ⟨rfl, rfl⟩)
      exact ⟨rfl, rfl, hb1⟩
  · rw [hok, if_pos rfl] at hr_
    have h256 : n / 16 ≤ 256 := by
      unfold superOk headMay at hok
      simp only [Bool.and_eq_true, decide_eq_true_eq] at hok
      omega
    have HOk := Lib.hid hok
    have HR := Lib.hid hr_
    clear hr_ hok hr
    go_enter Try.func50, Try.ntmps50
    go_wp2_with fail
    refine HS.out.mono ?_
    rintro e w1 ⟨hcase, hb1⟩
    have hcase' : e = .returned (.tuple #[.int .i64 (l[1]?.getD 0), .int .i64 (l[3]?.getD 0), .int .i64 0]) := by
      rcases hcase with ⟨_, h⟩ | ⟨h, _⟩
      · exact h
      · rw [HOk.out] at h; cases h
    subst hcase'
    clear hcase
    generalize l[1]?.getD 0 = s1
    generalize l[3]?.getD 0 = s3
    clear HS
    go_wp2_with (go_at_call 82; refine (sound_yes _).mono ?_; rintro e w2 ⟨rfl, rfl⟩)
    go_loopw [2, 6] (fun p q wr => ∃ (k : Nat) (out : List Int) (at' : Int), q = .int .i64 at' ∧ wr.ownsRow w.heap.size 3 1 p out.length (intRow out) ∧ Below w.heap.size w wr ∧ r = chainF l k out at' ∧ k + out.length = n / 16 + 1 ∧ out.Nodup ∧ ∀ x ∈ out, 0 ≤ x ∧ x < ((n / 16 : Nat) : Int))
      (fun p _ _ => n / 16 + 1 - (match p with | .slice _ k _ => k | _ => 0))
    case atStart => exact ⟨n / 16 + 1, [], 1, rfl, World.ownsRow_nil _ _ _ _, hb1, by rw [← hn]; exact HR.out, rfl, List.nodup_nil, by simp⟩
    case round =>
      obtain ⟨k, out, at', rfl, hown, hb, hres, hk, hnd, hin⟩ := hrel
      have hlen := nodup_le _ _ hnd hin
      obtain ⟨k, rfl⟩ : ∃ k', k = k' + 1 := ⟨k - 1, by omega⟩
      unfold chainF at hres
      obtain ⟨Ao, co, rfl, hoc, hom, _, hro⟩ := own_form hown
      by_cases h0 : at' = 0
      · subst h0
        rw [if_pos rfl] at hres
        subst hres
        clear hown
        go_wp2_with fail
        go_ret
        exact ⟨Ao, co, rfl, hoc, hom, hro, hb⟩
      · rw [if_neg h0] at hres
        have HOwn := Lib.hid hown
        have HRo := Lib.hid hro
        have HNd := Lib.hid hnd
        have HIn := Lib.hid hin
        have HB := Lib.hid hb
        clear hown hro hnd hin
        rcases hnode : readNode l at' with x | nd
        · have e1 : r = none := by rw [hres, hnode]
          have HNode := Lib.hid hnode
          subst e1
          clear hres hnode
          go_wp2_with fail
          refine (HN.out at' wr hb).mono ?_
          rw [HNode.out]
          rintro e w2 ⟨rfl, hb2⟩
          exact ⟨rfl, rfl, hb.trans (hb2.mono hb.size)⟩
        · rw [hnode] at hres
          have hres : r = if nd.lev = 0 && !out.contains at' then chainF l k (out ++ [at']) nd.next else none := hres
          have HNode := Lib.hid hnode
          clear hnode
          have hat : 0 ≤ at' ∧ at' < ((n / 16 : Nat) : Int) := by
            have := HNode.out
            unfold readNode at this
            split at this
            · cases this
            · omega
          have HRes := Lib.hid hres
          clear hres
          go_wp2_with fail
          refine (HN.out at' wr hb).mono ?_
          rw [HNode.out]
          rintro e w2 ⟨A1, k1, c1, rfl, _, _, _, hb2, _⟩
          have hb3 := hb2.alloc hb2.size (.cells (nodeCells nd.lev nd.turn nd.next nd.low A1 k1 c1) 37)
          have hX := Blk.new w2 37 (nodeCells nd.lev nd.turn nd.next nd.low A1 k1 c1)
          have d0 : (w2.alloc (.cells (nodeCells nd.lev nd.turn nd.next nd.low A1 k1 c1) 37)).cell? ⟨w2.heap.size, 0, none⟩ = some (.int .i64 nd.lev) := hX.cell 0
          have d2 : (w2.alloc (.cells (nodeCells nd.lev nd.turn nd.next nd.low A1 k1 c1) 37)).cell? ⟨w2.heap.size, 2, none⟩ = some (.int .i64 nd.next) := hX.cell 2
          have hltX := hX.lt
          have HRo3 := Lib.hid (HRo.out.below hb3 (Nat.le_refl _))
          have hb4 := hb.trans (hb3.mono hb.size)
          have hcon := contains_any Ao out.length co wr.heap.size out at' rfl (by omega) _ HRo3.out
          go_upto_region 6 with fail
          generalize w2.alloc (.cells (nodeCells nd.lev nd.turn nd.next nd.low A1 k1 c1) 37) = w3 at *
          by_cases hlev : nd.lev = 0
          · rw [hlev] at d0
            rcases hcc : out.contains at' with _ | _
            · rw [hcc] at hcon
              have e1 : r = chainF l k (out ++ [at']) nd.next := by rw [HRes.out, hlev, hcc]; simp
              have HE := Lib.hid e1
              have HCC := Lib.hid hcc
              clear hlev e1 hcc
              go_wp2_with (first | (go_at_call 83; refine hcon.mono ?_; rintro e w4 ⟨rfl, rfl⟩) | (go_at_call 82; refine (sound_yes _).mono ?_; rintro e w5 ⟨rfl, rfl⟩))
              have hsz3 : wr.heap.size ≤ w3.heap.size := hb3.size
              have hown3 : w3.ownsRow w.heap.size 3 1 (.slice Ao out.length co) out.length (intRow out) := own_below HOwn.out hb3
              have hnews : ∀ j u, [Value.int .i64 at'][j]? = some u → (w3.alloc (.cells #[.int .i64 at'] 3)).drew.cell? ((⟨w3.heap.size, 0, none⟩ : Addr).add j) = some u := fun j u hu => by
                rcases j with _ | j
                · rw [add_lit, ((Blk.new w3 3 #[.int .i64 at']).drew).cell]; simpa using hu
                · simp at hu
              have hown4 : (w3.alloc (.cells #[.int .i64 at'] 3)).drew.ownsRow w.heap.size 3 1 (.slice Ao out.length co) out.length (intRow out) := hown3.alloc _
              have hX4 : Blk (w3.alloc (.cells #[.int .i64 at'] 3)).drew w2.heap.size 37 (nodeCells nd.lev nd.turn nd.next nd.low A1 k1 c1) := hX.alloc _
              have hmax : out.length + 1 ≤ maxLen := by unfold maxLen; omega
              have hby : (out.length + 1) * 8 ≤ 140737488355328 := by omega
              have hbs : w.heap.size ≤ w3.heap.size := hb4.size
              clear hcon hb3 d0
              go_region_held3 (fun w' => w'.cell? ⟨w2.heap.size, 2, none⟩ = some (.int .i64 nd.next)) (first | go_keep | assumption)
                ((refine step_append_lies _ (by rfl) _ _ _ (by rfl) w.heap.size 3 i0 (.int .i64 0) 1 8 Try.underlying23 hi hz0 hz1 hz2 rfl (by omega) _ out.length _ (by rfl) hown4 ⟨w3.heap.size, 0, none⟩ 1 1 [.int .i64 at'] (by rfl) (by rfl) hnews (by simp [Value.oneCell']) (by omega) hmax hby (by simp; omega) _ rfl ?_; intro g cap w6 hown6 hgrow hat6 hlt6; have hbd : Below w.heap.size w w6 := ((hb4.alloc hb4.size _).drew).grown hgrow (by simp; omega) (own_base hown3); have e2 : w6.cell? ⟨w2.heap.size, 2, none⟩ = some (.int .i64 nd.next) := (hgrow.cell_far ⟨w2.heap.size, 2, none⟩ (by simp; omega) (far_of hown3 hX)).trans (hX4.cell 2)))
              have hrow : (intRow out ++ [Value.int .i64 at'] : List Value) = intRow (out ++ [at']) := by simp [intRow]
              rw [hrow] at hown6
              have hlen2 : (out ++ [at']).length = out.length + 1 := by simp
              have HOwn6 := Lib.hid hown6
              clear hown6 hrow
              go_wp2_with fail
              refine ⟨⟨k, out ++ [at'], nd.next, rfl, ?_, hbd, HE.out, by rw [hlen2]; omega, ?_, ?_⟩, by simp; omega⟩
              · rw [hlen2]; exact HOwn6.out
              · rw [List.nodup_append]
                refine ⟨HNd.out, by simp, ?_⟩
                rintro a ha b hb' rfl
                obtain rfl : a = at' := by simpa using hb'
                have := HCC.out
                rw [List.contains_eq_mem] at this
                simp [ha] at this
              · intro x hx
                rcases List.mem_append.1 hx with h | h
                · exact HIn.out x h
                · obtain rfl : x = at' := by simpa using h
                  exact hat
            · rw [hcc] at hcon
              have e1 : r = none := by rw [HRes.out, hlev, hcc]; simp
              subst e1
              clear hlev hcc HRes
              go_wp2_with (first | (go_at_call 83; refine hcon.mono ?_; rintro e w4 ⟨rfl, rfl⟩) | (go_at_call 82; refine (sound_no _).mono ?_; rintro e w5 ⟨rfl, rfl⟩))
              exact ⟨rfl, rfl, hb4⟩
          · have e1 : r = none := by rw [HRes.out]; simp [hlev]
            have hl0 : (nd.lev == 0) = false := by simpa using hlev
            subst e1
            clear HRes
            go_wp2_with (first | (go_at_call 82; refine (sound_no _).mono ?_; rintro e w5 ⟨rfl, rfl⟩))
            exact ⟨rfl, rfl, hb4⟩
end Go.Proofs.Ytkkaabagehjmbaa
