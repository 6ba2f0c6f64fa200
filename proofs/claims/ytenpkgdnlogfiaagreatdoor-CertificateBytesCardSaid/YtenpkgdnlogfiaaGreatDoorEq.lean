/-
  '==' on arrays of bytes and of words.
-/
import Derived.Test.YtenpkgdnlogfiaaGreatDoorMem4
import Derived.ChangeKeysEq
namespace Go.Proofs.YtenpkgdnlogfiaaGreatDoor
open Go.RowKit

theorem run_part_int {P : Program} (w : World) {e : TypeId} {k : IntKind} (hu : P.underlying e = some (.int k)) (xs : List Value) (off : Nat) (v : Value) (h : xs[off]? = some v) : (part e xs.toArray off).run P w = .ok v w := by
  have : (isAgg e).run P w = .ok false w := by unfold isAgg; rw [Sem.run_bind, run_underlying hu w]; simp
  simp [part, this, h]
theorem run_eqItems_ints {P : Program} (w : World) (d : Nat) {e : TypeId} {k : IntKind} (hu : P.underlying e = some (.int k)) (xs ys : List Int) (is : List Nat) (hx : ∀ i ∈ is, i < xs.length ∧ i < ys.length) :
    (Op.eqItems (d + 1) e 1 (xs.map (Value.int k)).toArray (ys.map (Value.int k)).toArray is).run P w = .ok (is.all fun i => xs.getD i 0 == ys.getD i 0) w := by
  induction is with
  | nil => simp [Op.eqItems]
  | cons i is ih =>
    have h1 := hx i (by simp)
    have p1 := run_part_int (P := P) w hu (xs.map (Value.int k)) (i * 1) (.int k (xs.getD i 0)) (by simp [List.getElem?_eq_getElem h1.1])
    have p2 := run_part_int (P := P) w hu (ys.map (Value.int k)) (i * 1) (.int k (ys.getD i 0)) (by simp [List.getElem?_eq_getElem h1.2])
    have ih := ih (fun j hj => hx j (by simp [hj]))
    simp only [Op.eqItems, Sem.run_bind, p1, p2, Result.andThen_ok, run_equalIn_int w d e k k _ _ hu, List.all_cons]
    cases hb : (xs.getD i 0 == ys.getD i 0)
    · simp
    · simpa using ih
theorem all_range_eq (xs ys : List Int) (h : xs.length = ys.length) : ((List.range xs.length).all fun i => xs.getD i 0 == ys.getD i 0) = (xs == ys) := by
  rw [Bool.eq_iff_iff, List.all_eq_true, beq_iff_eq]
  constructor
  · intro h1
    apply List.ext_getElem h
    intro i h2 h3
    have := h1 i (by simpa using h2)
    simpa [List.getD_eq_getElem?_getD, List.getElem?_eq_getElem h2, List.getElem?_eq_getElem h3] using this
  · rintro rfl i _; simp
theorem run_eql_ints {P : Program} (w : World) (t e : TypeId) (n : Nat) (k : IntKind) (hu : P.underlying t = some (.array n e)) (i : TypeInfo) (hi : P.info? e = some i) (he : P.underlying e = some (.int k)) (hc : P.cellsOf e = 1) (xs ys : List Int) (hx : xs.length = n) (hy : ys.length = n) :
    (binOp .eql t (.agg (xs.map (Value.int k)).toArray) (.agg (ys.map (Value.int k)).toArray)).run P w = .ok (.bool (xs == ys)) w := by
  rw [run_eql_struct, run_equalIn_array w 9999 _ _ hu hi, hc, run_eqItems_ints w 9998 he xs ys _ (by intro j hj; simp at hj; omega), ← hx, all_range_eq xs ys (by omega)]
  rfl
theorem run_neq_ints {P : Program} (w : World) (t e : TypeId) (n : Nat) (k : IntKind) (hu : P.underlying t = some (.array n e)) (i : TypeInfo) (hi : P.info? e = some i) (he : P.underlying e = some (.int k)) (hc : P.cellsOf e = 1) (xs ys : List Int) (hx : xs.length = n) (hy : ys.length = n) :
    (binOp .neq t (.agg (xs.map (Value.int k)).toArray) (.agg (ys.map (Value.int k)).toArray)).run P w = .ok (.bool (xs != ys)) w := by
  rw [run_neq_struct, run_equalIn_array w 9999 _ _ hu hi, hc, run_eqItems_ints w 9998 he xs ys _ (by intro j hj; simp at hj; omega), ← hx, all_range_eq xs ys (by omega)]
  rfl
theorem cast_beq (a b : List Nat) : ((a.map fun x : Nat => (x : Int)) == (b.map fun x : Nat => (x : Int))) = (a == b) := by
  rw [Bool.eq_iff_iff, beq_iff_eq, beq_iff_eq]
  constructor
  · intro h
    have := congrArg (List.map Int.toNat) h
    simpa [Function.comp_def] using this
  · rintro rfl; rfl
theorem run_eql_u8s {P : Program} (w : World) (t e : TypeId) (n : Nat) (hu : P.underlying t = some (.array n e)) (i : TypeInfo) (hi : P.info? e = some i) (he : P.underlying e = some (.int .u8)) (hc : P.cellsOf e = 1) (a b : List Nat) (hx : a.length = n) (hy : b.length = n) :
    (binOp .eql t (.agg (u8s a).toArray) (.agg (u8s b).toArray)).run P w = .ok (.bool (a == b)) w := by
  have := run_eql_ints (P := P) w t e n .u8 hu i hi he hc (a.map fun x : Nat => (x : Int)) (b.map fun x : Nat => (x : Int)) (by simpa using hx) (by simpa using hy)
  rw [cast_beq] at this
  simpa [u8s, Function.comp_def] using this
theorem run_neq_u8s {P : Program} (w : World) (t e : TypeId) (n : Nat) (hu : P.underlying t = some (.array n e)) (i : TypeInfo) (hi : P.info? e = some i) (he : P.underlying e = some (.int .u8)) (hc : P.cellsOf e = 1) (a b : List Nat) (hx : a.length = n) (hy : b.length = n) :
    (binOp .neq t (.agg (u8s a).toArray) (.agg (u8s b).toArray)).run P w = .ok (.bool (a != b)) w := by
  have := run_neq_ints (P := P) w t e n .u8 hu i hi he hc (a.map fun x : Nat => (x : Int)) (b.map fun x : Nat => (x : Int)) (by simpa using hx) (by simpa using hy)
  rw [bne, cast_beq, ← bne] at this
  simpa [u8s, Function.comp_def] using this
theorem eql_id (w : World) (a b : List Nat) (hx : a.length = 32) (hy : b.length = 32) : (binOp .eql 32 (.agg (u8s a).toArray) (.agg (u8s b).toArray)).run Tryz.prog w = .ok (.bool (a == b)) w := by
  obtain ⟨i, hi⟩ : ∃ i, Tryz.prog.info? 5 = some i := Option.isSome_iff_exists.1 (show (Tryz.prog.info? 5).isSome = true by kernel_rfl)
  exact run_eql_u8s w _ 5 32 Tryz.underlying32 i hi Tryz.underlying5 (by kernel_rfl) a b hx hy
theorem neq_id (w : World) (a b : List Nat) (hx : a.length = 32) (hy : b.length = 32) : (binOp .neq 32 (.agg (u8s a).toArray) (.agg (u8s b).toArray)).run Tryz.prog w = .ok (.bool (a != b)) w := by
  obtain ⟨i, hi⟩ : ∃ i, Tryz.prog.info? 5 = some i := Option.isSome_iff_exists.1 (show (Tryz.prog.info? 5).isSome = true by kernel_rfl)
  exact run_neq_u8s w _ 5 32 Tryz.underlying32 i hi Tryz.underlying5 (by kernel_rfl) a b hx hy
end Go.Proofs.YtenpkgdnlogfiaaGreatDoor
