/-
  Two forms compared; what rec.Read answers.
-/
import Derived.Test.YtkkaabagehjmbaaRec3
import Derived.Test.YtkkaabagehjmbaaNode4
import Derived.ChangeKeysEq
set_option linter.unusedSimpArgs false
set_option linter.unusedVariables false
namespace Go.Proofs.Ytkkaabagehjmbaa
open Go.RowKit Go.Shelf Crc

theorem all_range_eqI : ∀ (xs ys : List Int), xs.length = ys.length → ((List.range xs.length).all fun i => xs[i]?.getD 0 == ys[i]?.getD 0) = (xs == ys)
  | [], [], _ => rfl
  | x :: xs, y :: ys, h => by
    have ih := all_range_eqI xs ys (by simpa using h)
    rw [List.length_cons, List.range_succ_eq_map, List.all_cons, List.all_map]
    simp only [List.getElem?_cons_zero, Option.getD_some, Function.comp_def, Nat.succ_eq_add_one, List.getElem?_cons_succ, ih]
    simp [List.cons_beq_cons]
  | [], _ :: _, h => by simp at h
  | _ :: _, [], h => by simp at h

theorem run_eqItemsI (d : Nat) (w : World) (xs ys : List Int) (n : Nat) (hx : xs.length = n) (hy : ys.length = n) : ∀ is : List Nat, (∀ i ∈ is, i < n) →
    (Op.eqItems (d + 1) 3 1 (intRow xs).toArray (intRow ys).toArray is).run Try.prog w = .ok (is.all fun i => xs[i]?.getD 0 == ys[i]?.getD 0) w
  | [], _ => by simp [Op.eqItems]
  | i :: is, h => by
    have hi : i < n := h i (by simp)
    have px : (part 3 (intRow xs).toArray (i * 1)).run Try.prog w = .ok (.int .i64 (xs[i]?.getD 0)) w := by
      simp [part, isAgg, run_underlying Try.underlying3, intRow, List.getElem?_eq_getElem (show i < xs.length by omega)]
    have py : (part 3 (intRow ys).toArray (i * 1)).run Try.prog w = .ok (.int .i64 (ys[i]?.getD 0)) w := by
      simp [part, isAgg, run_underlying Try.underlying3, intRow, List.getElem?_eq_getElem (show i < ys.length by omega)]
    simp only [Op.eqItems, Sem.run_bind, px, py, run_equalIn_int w d 3 .i64 .i64 _ _ Try.underlying3, Result.andThen_ok, List.all_cons]
    cases hb : (xs[i]?.getD 0 == ys[i]?.getD 0)
    · simp
    · simp only [Bool.not_true, Bool.false_eq_true, if_false, Bool.true_and]
      exact run_eqItemsI d w xs ys n hx hy is fun j hj => h j (by simp [hj])

theorem formNeq (a b : List Int) (ha : a.length = 16) (hb : b.length = 16) (w : World) :
    (binOp .neq 103 (.agg (intRow a).toArray) (.agg (intRow b).toArray)).run Try.prog w = .ok (.bool (!(a == b))) w := by
  obtain ⟨i0, hi, _, h1, _⟩ := info_parts (show (Try.prog.info? 3).map (fun i => (i.zero, i.size, i.bytes)) = some (some (.int .i64 0), 1, 8) by kernel_rfl)
  have hc : Try.prog.cellsOf 3 = 1 := by kernel_rfl
  rw [run_neq_struct, run_equalIn_array w 9999 _ _ Try.underlying103 hi, hc, run_eqItemsI 9998 w a b 16 ha hb _ (fun i h => by simpa using h)]
  rw [← all_range_eqI a b (by omega), ha]
  rfl

theorem eq_guard_form (a b : List Int) (x y : Operand) (w : World) : (eqGuard .neq 103 x y (.agg (intRow a).toArray) (.agg (intRow b).toArray)).run Try.prog w = .ok () w :=
  run_eqGuard_agg w .neq _ x y _ _ (by kernel_rfl)

structure RecV where
  kind : Int
  key : ByteArray
  val : ByteArray
  child : Int

/-- What sixteen words say, be they a record's or not: its value's text may fail. -/
def recOf16 (m : List Int) : Option RecV :=
  match recText m 3 (wrap64 (Int.tdiv (m[1]?.getD 0) 32)) with
  | none => none
  | some key =>
    if m[0]?.getD 0 = 1 then (recText m 6 (Int.tmod (m[1]?.getD 0) 32)).map fun val => ⟨m[0]?.getD 0, key, val, 0⟩
    else if m[0]?.getD 0 = 2 then some ⟨m[0]?.getD 0, key, ByteArray.mk #[], m[6]?.getD 0⟩
    else some ⟨m[0]?.getD 0, key, ByteArray.mk #[], 0⟩
def RecV.ok (r : RecV) : Bool := recOk r.kind r.key r.val r.child
def RecV.form (r : RecV) : List Int := recForm r.kind r.key r.val r.child
/-- Sixteen words' record. -/
def readForm (m : List Int) : Option RecV := (recOf16 m).bind fun r => if r.ok && (r.form == m) then some r else none
/-- rec.Read. -/
def readRec (l : List Int) (at' : Int) : Except Int RecV :=
  if at' < 0 ∨ ((l.length / 16 : Nat) : Int) ≤ at' then .error 1
  else match readForm (blk16 l at'.toNat) with | some r => .ok r | none => .error 70

def PostRec (w : World) : Except Int RecV → Ending → World → Prop
  | .error x, e, w' => e = .returned (.tuple #[.agg (recCells 0 (ByteArray.mk #[]) (ByteArray.mk #[]) 0), .int .i64 x]) ∧ Below w.heap.size w w'
  | .ok r, e, w' => e = .returned (.tuple #[.agg (recCells r.kind r.key r.val r.child), .int .i64 0]) ∧ Below w.heap.size w w'

theorem strOf_size (l : List Int) : (strOf l).size = l.length := by simp [strOf, ByteArray.size]
theorem recText_size {m : List Int} {at' : Nat} {n : Int} {b : ByteArray} (h : recText m at' n = some b) : b.size ≤ 21 := by
  unfold recText at h
  split at h
  · cases h
  · unfold readText at h
    split at h
    · cases h
    · split at h
      · cases h
      · cases h
        rw [strOf_size, List.length_take]
        omega

theorem recStore {w : World} {g : Nat} {kind child kind' child' : Int} {key val key' val' : ByteArray} (h : Blk w g 59 (recCells kind key val child)) :
    StoreRow Try.prog w g 59 59 (recCells kind key val child) (recCells kind' key' val' child') :=
  ⟨h, by rw [show (Try.prog.info? 59).map (·.size) = some 4 by kernel_rfl]; rfl, rfl, by simp [recCells, Value.oneCell']⟩

set_option maxRecDepth 100000 in
theorem recRead_out (A : Option Addr) (n c : Nat) (at' : Int) (hbig : n ≤ 9223372036854775807) (h : at' < 0 ∨ ((n / 16 : Nat) : Int) ≤ at') (w : World) :
    Calls Try.prog 37 #[.slice A n c, .int .i64 at'] w (PostRec w (.error 1)) := by
  have hnew := Blk.new w 59 (recCells 0 (ByteArray.mk #[]) (ByteArray.mk #[]) 0)
  have hb0 : Below w.heap.size w (w.alloc (.cells (recCells 0 (ByteArray.mk #[]) (ByteArray.mk #[]) 0) 59)) := (Below.refl _ _).alloc (Nat.le_refl _) _
  have HL := recCells_load hnew
  rcases h with h | h
  · go_enter Try.func37, Try.ntmps37
    go_wp2_with fail
    exact bodyPost_ret (results_cell1 rfl rfl HL) rfl ⟨rfl, hb0⟩
  · have h0 : ¬ at' < 0 := by omega
    have hq : ((n : Int) / 16) ≤ at' := by omega
    go_enter Try.func37, Try.ntmps37
    go_wp2_with fail
    exact bodyPost_ret (results_cell1 rfl rfl HL) rfl ⟨rfl, hb0⟩
end Go.Proofs.Ytkkaabagehjmbaa
