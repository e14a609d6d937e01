/-
  Words and small lemmas that all walks of this seat use.
-/
import Derived.Test.YtkkaabagehjmbaaProg
import Derived.WalkKit
import Derived.WalkLawsBesides
import Derived.WalkSpells
import Derived.Lib.Hide
import Derived.Deep.QuietTactic
import Derived.BigQuiet
import Derived.Deep.Draws
import Derived.Laws.CopyOwn
set_option linter.unusedSimpArgs false
set_option linter.unusedVariables false
namespace Go.Proofs.Ytkkaabagehjmbaa
open Go.RowKit

/-- A slice at A reads as these numbers, out of blocks below B (nil, too). -/
def RInts (w : World) (B : Nat) (A : Option Addr) (l : List Int) : Prop :=
  l ≠ [] → ∃ b off, A = some ⟨b, off, none⟩ ∧ b < B ∧ ∀ i, i < l.length → w.cell? ⟨b, off + i, none⟩ = some (.int .i64 (l[i]?.getD 0))

theorem RInts.nil (w : World) (B : Nat) (A : Option Addr) : RInts w B A [] := fun h => absurd rfl h
theorem RInts.at_ {w : World} {B : Nat} {A : Option Addr} {l : List Int} (h : RInts w B A l) {k : Nat} (hk : k < l.length) :
    ∃ b off, A = some ⟨b, off, none⟩ ∧ b < B ∧ w.cell? ⟨b, off + k, none⟩ = some (.int .i64 (l[k]?.getD 0)) := by
  obtain ⟨b, off, hA, hb, hc⟩ := h (by intro e; subst e; simp at hk)
  exact ⟨b, off, hA, hb, hc k hk⟩
theorem RInts.keep {w w' : World} {B : Nat} {A : Option Addr} {l : List Int} (h : RInts w B A l) (hk : ∀ p : Addr, p.block < B → w'.cell? p = w.cell? p) : RInts w' B A l := by
  intro hne
  obtain ⟨b, off, hA, hb, hc⟩ := h hne
  exact ⟨b, off, hA, hb, fun i hi => (hk _ hb).trans (hc i hi)⟩
theorem RInts.more {w : World} {B B' : Nat} {A : Option Addr} {l : List Int} (h : RInts w B A l) (hB : B ≤ B') : RInts w B' A l := by
  intro hne
  obtain ⟨b, off, hA, hb, hc⟩ := h hne
  exact ⟨b, off, hA, by omega, hc⟩
theorem RInts.below {w w' : World} {B C : Nat} {A : Option Addr} {l : List Int} (h : RInts w B A l) (hb : Below C w w') (hBC : B ≤ C) : RInts w' B A l :=
  h.keep fun _ hp => hb.cell (by omega)
theorem RInts.drew {w : World} {B : Nat} {A : Option Addr} {l : List Int} (h : RInts w B A l) : RInts w.drew B A l := h
theorem RInts.drewN {w : World} {B : Nat} {A : Option Addr} {l : List Int} (h : RInts w B A l) (n : Nat) : RInts (w.drewN n) B A l := h
theorem RInts.alloc {w : World} {B : Nat} {A : Option Addr} {l : List Int} (h : RInts w B A l) (hB : B ≤ w.heap.size) (o : Obj) : RInts (w.alloc o) B A l :=
  h.below ((Below.refl B w).alloc hB o) (Nat.le_refl _)
theorem RInts.setCell {w : World} {B : Nat} {A : Option Addr} {l : List Int} (h : RInts w B A l) {p : Addr} (hp : B ≤ p.block) (u : Value) : RInts (w.setCell p u) B A l :=
  h.below ((Below.refl B w).setCell hp u) (Nat.le_refl _)

theorem below_setRow {B : Nat} {a w : World} (h : Below B a w) {g : Nat} (hg : B ≤ g) (cs : Array Value) : Below B a (w.setRow g cs) :=
  h.trans ⟨rfl, rfl, rfl, by simp, fun k hk => setRow_other w g k cs (by omega)⟩
theorem below_drewN' {B : Nat} {a w : World} (h : Below B a w) (n : Nat) : Below B a (w.drewN n) := ⟨h.os, h.tape, h.output, h.size, h.block⟩
/-- A call behind a call, each of which keeps what was there. -/
theorem below_call {w w1 w2 : World} (h : Below w.heap.size w w1) (k : Below w1.heap.size w1 w2) : Below w.heap.size w w2 := h.trans (k.mono h.size)

/-- All old cells and marks read as before. -/
theorem bcell {W w1 : World} (hb : Below W.heap.size W w1) : (∀ b o, b < W.heap.size → w1.cell? ⟨b, o, none⟩ = W.cell? ⟨b, o, none⟩) ∧ (∀ b o, b < W.heap.size → w1.frozen? ⟨b, o, none⟩ = W.frozen? ⟨b, o, none⟩) :=
  ⟨fun b o h => hb.cell (p := ⟨b, o, none⟩) h, fun b o h => hb.frozen (p := ⟨b, o, none⟩) h⟩

/-- A world in which nothing that was there has turned. -/
structure Ext (w1 : World) where
  w : World
  h : Below w1.heap.size w1 w
instance (w1 : World) : Nonempty (Ext w1) := ⟨⟨w1, Below.refl _ _⟩⟩
/-- A region that draws its order, of reads of what was there, and of calls that make memory alone: walked once, in the text's order. -/
theorem wp_region_ext {P : Program} {id : Nat} {Q : Exit → Act → World → Prop} {a : Act} {w : World} {l : List Oper} (hm : P.follows .mixedOrders = true) (hB : Region.lexB .any l.toArray = true)
    (h : wpQuiet P l.toArray (fun w' => ∃ x : Ext w, w' = x.w) (fun a' => ∀ w', (∃ x : Ext w, w' = x.w) → Q .normal a' w') l a) : (Code.region id l.toArray true).wp P Q a w :=
  wp_region_quiet (C := fun w' => ∃ x : Ext w, w' = x.w) hm hB ⟨⟨_, (Below.refl _ _).drew⟩, rfl⟩ (by simpa using h)
theorem ext_call {P : Program} {f : FuncId} {args : Array Value} {w : World} {x : Ext w} {v : Value} (h : Calls P f args x.w fun e w' => e = .returned v ∧ Below x.w.heap.size x.w w') :
    Calls P f args x.w fun e w'' => e = .returned v ∧ ∃ y : Ext w, w'' = y.w := h.mono fun _ w'' ⟨he, hb⟩ => ⟨he, ⟨w'', below_call x.h hb⟩, rfl⟩
theorem ext_same {P : Program} {f : FuncId} {args : Array Value} {w : World} {x : Ext w} {v : Value} (h : Calls P f args x.w fun e w' => e = .returned v ∧ x.w = w') :
    Calls P f args x.w fun e w'' => e = .returned v ∧ ∃ y : Ext w, w'' = y.w := h.mono fun _ _ ⟨he, hb⟩ => ⟨he, x, hb.symm⟩
theorem Ext.cell {w : World} (x : Ext w) {b o : Nat} {v : Value} (h : w.cell? ⟨b, o, none⟩ = some v) : x.w.cell? ⟨b, o, none⟩ = some v := (x.h.cell (p := ⟨b, o, none⟩) (block_lt_of_cell h)).trans h

theorem ofInt_toNat (n : Nat) (a : Nat) (ha : a < 2 ^ n) : (BitVec.ofInt n (a : Int)).toNat = a := by
  rw [BitVec.ofInt_natCast, BitVec.toNat_ofNat]; exact Nat.mod_eq_of_lt ha
theorem u8_xor_nat (a b : Nat) (ha : a < 256) (hb : b < 256) : bits .xor .u8 (a : Int) (b : Int) = ((a ^^^ b : Nat) : Int) := by
  have hx : a ^^^ b < 2 ^ 8 := Nat.xor_lt_two_pow ha hb
  show IntKind.u8.wrap ((BitVec.ofInt 8 (a : Int) ^^^ BitVec.ofInt 8 (b : Int)).toNat : Int) = _
  rw [BitVec.toNat_xor, ofInt_toNat 8 a ha, ofInt_toNat 8 b hb, IntKind.wrap_u8]
  omega
theorem u32_xor_nat (a b : Nat) (ha : a < 4294967296) (hb : b < 4294967296) : bits .xor .u32 (a : Int) (b : Int) = ((a ^^^ b : Nat) : Int) := by
  have hx : a ^^^ b < 2 ^ 32 := Nat.xor_lt_two_pow ha hb
  show IntKind.u32.wrap ((BitVec.ofInt 32 (a : Int) ^^^ BitVec.ofInt 32 (b : Int)).toNat : Int) = _
  rw [BitVec.toNat_xor, ofInt_toNat 32 a ha, ofInt_toNat 32 b hb, IntKind.wrap_u32]
  omega
theorem u32_and_nat (a b : Nat) (ha : a < 4294967296) (hb : b < 4294967296) : bits .and .u32 (a : Int) (b : Int) = ((a &&& b : Nat) : Int) := by
  have hx : a &&& b < 2 ^ 32 := Nat.and_lt_two_pow _ hb
  show IntKind.u32.wrap ((BitVec.ofInt 32 (a : Int) &&& BitVec.ofInt 32 (b : Int)).toNat : Int) = _
  rw [BitVec.toNat_and, ofInt_toNat 32 a ha, ofInt_toNat 32 b hb, IntKind.wrap_u32]
  omega
theorem i64_or_nat (a b : Nat) (ha : a < 9223372036854775808) (hb : b < 9223372036854775808) : bits .or .i64 (a : Int) (b : Int) = ((a ||| b : Nat) : Int) := by
  have hx : a ||| b < 2 ^ 63 := Nat.or_lt_two_pow (by omega) (by omega)
  show IntKind.i64.wrap ((BitVec.ofInt 64 (a : Int) ||| BitVec.ofInt 64 (b : Int)).toNat : Int) = _
  rw [BitVec.toNat_or, ofInt_toNat 64 a (by omega), ofInt_toNat 64 b (by omega), IntKind.wrap_i64]
  omega

/-- What a load of a whole row asks; what a store of one asks: each under one name, so that an arm of a walk takes it as it stands. -/
def IsRowType (P : Program) (ty : TypeId) : Prop := (∃ fs, P.underlying ty = some (.struct fs)) ∨ ∃ n e, P.underlying ty = some (.array n e)
structure LoadRow (P : Program) (w : World) (g : Nat) (t ty : TypeId) (cs : Array Value) : Prop where
  hg : w.heap[g]? = some (.cells cs t (0, 0))
  hi : (P.info? ty).map (·.size) = some cs.size
  hd : IsRowType P ty
structure StoreRow (P : Program) (w : World) (g : Nat) (t ty : TypeId) (old cells : Array Value) : Prop where
  hg : w.heap[g]? = some (.cells old t (0, 0))
  hi : (P.info? ty).map (·.size) = some cells.size
  hold : old.size = cells.size
  h1 : cells.all (·.oneCell') = true
theorem wpList_load_r {P : Program} {ops : Array Oper} {rest : List Oper} {o : Oper} {a : Act} {w : World} {Q : Exit → Act → World → Prop} (hgd : o.guard = none) (ty : TypeId) (x : Operand) (ho : o.op = .load ty x)
    {g : Nat} (hx : a.eval x = .pointer (some ⟨g, 0, none⟩)) {t : TypeId} {cs : Array Value} (H : LoadRow P w g t ty cs) (h : wpList P ops Q rest (a.put o.dst (.agg cs)) w) : wpList P ops Q (o :: rest) a w := by
  rcases H.hd with ⟨fs, hu⟩ | ⟨n, e, hu⟩
  · exact wpList_load_row hgd ty x ho g hx t cs (0, 0) _ H.hg hu rfl H.hi h
  · exact wpList_load_row hgd ty x ho g hx t cs (0, 0) _ H.hg hu rfl H.hi h
theorem wpList_store_r {P : Program} {ops : Array Oper} {rest : List Oper} {o : Oper} {a : Act} {w : World} {Q : Exit → Act → World → Prop} (hgd : o.guard = none) (ty : TypeId) (x y : Operand) (ho : o.op = .store ty x y)
    {g : Nat} {cells : Array Value} (hx : a.eval x = .pointer (some ⟨g, 0, none⟩)) (hy : a.eval y = .agg cells) {t : TypeId} {old : Array Value} (H : StoreRow P w g t ty old cells)
    (h : wpList P ops Q rest (a.put o.dst undef) (w.setRow g cells)) : wpList P ops Q (o :: rest) a w :=
  wpList_store_row hgd ty x y ho g cells hx hy t old H.hg H.hi H.hold H.h1 h
theorem results_r {P : Program} {fn : Func} {p : Tmp} {ty : TypeId} (h : fn.results = #[.cell p ty]) {tmps : Array Value} {w : World} {g : Nat} {t : TypeId} {cs : Array Value}
    (hp : tmps.getD p undef = .pointer (some ⟨g, 0, none⟩)) (H : LoadRow P w g t ty cs) : (results fn tmps).run P w = .ok (.agg cs) w := by
  rcases H.hd with ⟨fs, hu⟩ | ⟨n, e, hu⟩
  · exact results_cell_row h tmps w g t cs (0, 0) _ hp H.hg hu rfl H.hi
  · exact results_cell_row h tmps w g t cs (0, 0) _ hp H.hg hu rfl H.hi
theorem StoreRow.load {P : Program} {w : World} {g : Nat} {t ty : TypeId} {old cells : Array Value} (H : StoreRow P w g t ty old cells) (hd : IsRowType P ty) :
    LoadRow P (w.setRow g cells) g t ty cells := ⟨setRow_heap w g _ _ _ _ H.hg, H.hi, hd⟩
/-- A struct's type. -/
theorem isStruct {P : Program} {ty : TypeId} {fs : Array Field} (h : P.underlying ty = some (.struct fs)) : IsRowType P ty := .inl ⟨_, h⟩
theorem isArray {P : Program} {ty e : TypeId} {n : Nat} (h : P.underlying ty = some (.array n e)) : IsRowType P ty := .inr ⟨_, _, h⟩
theorem cells_of_block {w : World} {g : Nat} {cs : Array Value} {t : TypeId} (h : w.heap[g]? = some (.cells cs t (0, 0))) (j : Nat) : w.cell? ⟨g, j, none⟩ = cs[j]? := cell_of_row w g j cs t (0, 0) h

/-- What a copy asks: onto a row that is known whole, at a place; out of whatever slice (nil, too). -/
structure CopyR (P : Program) (w : World) (dT elem g off : Nat) (dp sp : Option Addr) (dLen sLen : Nat) (cur : List Value) (t : TypeId) (cs : List Value) : Prop where
  hu : P.underlying dT = some (.slice elem)
  hsz : (P.info? elem).map (·.size) = some 1
  hg : w.heap[g]? = some (.cells cur.toArray t (0, 0))
  hn : cs.length = Nat.min sLen dLen
  hpos : 0 < cs.length → dp = some ⟨g, off, none⟩ ∧ ∃ ad, sp = some ad ∧ ∀ j v, cs[j]? = some v → w.cell? (ad.add j) = some v
  hfit : off + cs.length ≤ cur.length
  h1 : ∀ v ∈ cs, v.oneCell' = true
theorem wpList_copy_r {P : Program} {w : World} {ops : Array Oper} {rest : List Oper} {o : Oper} {a : Act} {Q : Exit → Act → World → Prop} (hgd : o.guard = none) (d s : Operand) (dT sT : TypeId)
    (ho : o.op = .call { callee := .builtin .copy, args := #[d, s], argTypes := #[dT, sT] }) {dp sp : Option Addr} {dLen dCap sLen sCap : Nat} (hd : a.eval d = .slice dp dLen dCap) (hs : a.eval s = .slice sp sLen sCap)
    {elem g off : Nat} {cur : List Value} {t : TypeId} {cs : List Value} (H : CopyR P w dT elem g off dp sp dLen sLen cur t cs)
    (h : wpList P ops Q rest (a.put o.dst (goInt cs.length)) (w.setRow g (splice cur off cs).toArray)) : wpList P ops Q (o :: rest) a w := by
  by_cases h0 : cs.length = 0
  · obtain rfl : cs = [] := List.eq_nil_of_length_eq_zero h0
    refine wpList_copy_nothing hgd d s dT sT ho elem H.hu H.hsz dp sp dLen dCap sLen sCap hd hs (by simpa using H.hn.symm) ?_
    have e : w.setRow g (splice cur off []).toArray = w := by
      have := setRow_self w g cur.toArray t (0, 0) H.hg
      simpa [splice] using this
    rw [e] at h
    exact h
  · obtain ⟨rfl, ad, rfl, hsrc⟩ := H.hpos (by omega)
    exact wpList_copy_own hgd d s dT sT ho elem H.hu H.hsz g off dLen dCap ad sLen sCap hd hs cur.toArray t H.hg cs H.hn hsrc (by simpa using H.hfit) H.h1 h
theorem add_lit (b off j : Nat) : (⟨b, off, none⟩ : Addr).add j = ⟨b, off + j, none⟩ := by unfold Addr.add; split <;> simp_all
/-- A copy of numbers. -/
theorem CopyR.ints {P : Program} {w : World} {dT elem g off dLen sLen n B : Nat} {dp sp : Option Addr} {cur : List Value} {t : TypeId} {l : List Int} (hu : P.underlying dT = some (.slice elem)) (hsz : (P.info? elem).map (·.size) = some 1)
    (hg : w.heap[g]? = some (.cells cur.toArray t (0, 0))) (hl : l.length = sLen) (hr : RInts w B sp l) (hd : dp = some ⟨g, off, none⟩) (hn : Nat.min sLen dLen = n) (hfit : off + n ≤ cur.length) :
    CopyR P w dT elem g off dp sp dLen sLen cur t ((l.take n).map (Value.int .i64)) := by
  have hnl : n ≤ l.length := by rw [← hn, hl]; exact Nat.min_le_left _ _
  refine ⟨hu, hsz, hg, by simp [hn]; omega, fun hp => ⟨hd, ?_⟩, by simp; omega, fun v hv => ?_⟩
  · obtain ⟨b, o, hA, _, hc⟩ := hr (by intro e; subst e; simp at hnl; simp [hnl] at hp)
    refine ⟨_, hA, fun j v hv => ?_⟩
    rw [add_lit]
    rw [List.getElem?_map, List.getElem?_take] at hv
    split at hv
    · rename_i hj
      rw [hc j (by omega)]
      rw [List.getElem?_eq_getElem (show j < l.length by omega)] at hv ⊢
      simpa using hv
    · simp at hv
  · obtain ⟨x, _, rfl⟩ := List.mem_map.1 hv
    rfl
/-- A block that is known whole. -/
def Blk (w : World) (g : Nat) (t : TypeId) (cs : Array Value) : Prop := w.heap[g]? = some (.cells cs t (0, 0))
section
variable {w w' : World} {g : Nat} {t : TypeId} {cs : Array Value}
theorem Blk.lt (h : Blk w g t cs) : g < w.heap.size := (Array.getElem?_eq_some_iff.1 h).1
theorem Blk.cell (h : Blk w g t cs) (i : Nat) : w.cell? ⟨g, i, none⟩ = cs[i]? := cell_of_row w g i cs t (0, 0) h
theorem Blk.frozen (h : Blk w g t cs) (i : Nat) : w.frozen? ⟨g, i, none⟩ = false := frozen_of_row w g i cs t h
theorem Blk.new (w : World) (t : TypeId) (cs : Array Value) : Blk (w.alloc (.cells cs t)) w.heap.size t cs := heap_alloc_new w _
theorem Blk.drew (h : Blk w g t cs) : Blk w.drew g t cs := h
theorem Blk.drewN (h : Blk w g t cs) (n : Nat) : Blk (w.drewN n) g t cs := h
theorem Blk.alloc (h : Blk w g t cs) (o : Obj) : Blk (w.alloc o) g t cs := (Below.heap_alloc w o g h.lt).trans h
theorem Blk.set_ (h : Blk w g t cs) (i : Nat) (u : Value) : Blk (w.setCell ⟨g, i, none⟩ u) g t (cs.setIfInBounds i u) := heap_setCell_same w g i cs t u h
theorem Blk.setRow (h : Blk w g t cs) (ds : Array Value) : Blk (w.setRow g ds) g t ds := setRow_heap w g cs ds t _ h
theorem Blk.far (h : Blk w g t cs) {p : Addr} (hp : g ≠ p.block) (u : Value) : Blk (w.setCell p u) g t cs := (Below.heap_setCell w p u g hp).trans h
theorem Blk.farRow (h : Blk w g t cs) {g' : Nat} (hp : g ≠ g') (ds : Array Value) : Blk (w.setRow g' ds) g t cs := (setRow_other w g' g ds hp).trans h
theorem Blk.below {B : Nat} (h : Blk w g t cs) (hb : Below B w w') (hg : g < B) : Blk w' g t cs := (hb.block g hg).trans h
end
/-- A row of numbers. -/
def intRow (l : List Int) : List Value := l.map (Value.int .i64)
theorem intRow_length (l : List Int) : (intRow l).length = l.length := by simp [intRow]
theorem intRow_cells (l : List Int) : ∀ v ∈ intRow l, v.oneCell' = true := fun v hv => by
  obtain ⟨x, _, rfl⟩ := List.mem_map.1 hv
  rfl
/-- n zeros. -/
def zeros (n : Nat) : List Int := List.replicate n 0
theorem zeros_length (n : Nat) : (zeros n).length = n := by simp [zeros]
theorem RInts.of_row {w : World} {g off : Nat} {l : List Int} {cs : List Value} {t : TypeId} {B : Nat} (hg : w.heap[g]? = some (.cells cs.toArray t (0, 0))) (hB : g < B) (h : ∀ i, i < l.length → cs[off + i]? = some (.int .i64 (l[i]?.getD 0))) :
    RInts w B (some ⟨g, off, none⟩) l := fun _ => ⟨g, off, rfl, hB, fun i hi => by rw [cells_of_block hg]; simpa using h i hi⟩
theorem intRow_get (l : List Int) (i : Nat) (hi : i < l.length) : (intRow l)[i]? = some (.int .i64 (l[i]?.getD 0)) := by simp [intRow, hi]

/-- What a function hands back that makes a list of numbers, and an error's number. -/
def PostIntsErr (w : World) (l : List Int) (err : Int) (e : Ending) (w' : World) : Prop :=
  ∃ A n c, e = .returned (.tuple #[.slice A n c, .int .i64 err]) ∧ l.length = n ∧ n ≤ c ∧ RInts w' w'.heap.size A l ∧ Below w.heap.size w w'
/-- .. and a list alone. -/
def PostInts (w : World) (l : List Int) (e : Ending) (w' : World) : Prop :=
  ∃ A n c, e = .returned (.slice A n c) ∧ l.length = n ∧ n ≤ c ∧ RInts w' w'.heap.size A l ∧ Below w.heap.size w w'

theorem int_eq {k : IntKind} {a b : Int} (h : a = b) : Value.int k a = Value.int k b := by rw [h]
theorem ret_eq {a b : Value} (h : a = b) : Ending.returned a = Ending.returned b := by rw [h]
end Go.Proofs.Ytkkaabagehjmbaa
