/-
  More plain words for memory: a struct that is built by value (a law at the operation); a block of a struct read as a range.
-/
import Derived.Test.YtenpkgdnlogfiaaGreatDoorMem3
import Derived.Deep.MidRow
namespace Go.Proofs.YtenpkgdnlogfiaaGreatDoor
open Go.RowKit

theorem wpList_build_of {P : Program} {ops : Array Oper} {rest : List Oper} {o : Oper} {a : Act} {w : World} {Q : Exit → Act → World → Prop} (hg : o.guard = none) (t : TypeId) (parts : Array (Nat × Operand)) (ho : o.op = .build t parts)
    (cells : Array Value) (hb : P.built t (parts.map fun (i, x) => (i, a.eval x)).toList = some cells) (h : wpList P ops Q rest (a.put o.dst (.agg cells)) w) : wpList P ops Q (o :: rest) a w :=
  wpList_build hg t parts ho (by rw [hb]; rfl) (by rw [hb]; exact h)
theorem Box.range {w : World} {b : Nat} {t : TypeId} {cs : Array Value} (h : Box w b t cs) : w.rangeAt b 0 cs.toList := fun j v hj => by
  rw [Nat.zero_add, h.cell]; simpa using hj
theorem range_ext {w w' : World} {b o : Nat} {cs : List Value} (h : w.rangeAt b o cs) (hb : Below w.heap.size w w') (hl : b < w.heap.size) : w'.rangeAt b o cs := fun j v hj => (hb.cell (p := ⟨b, o + j, none⟩) hl).trans (h j v hj)
theorem bel_al {w w' : World} {o : Obj} (h : Below (w.alloc o).heap.size (w.alloc o) w') : Below w.heap.size w w' := ((Below.refl _ w).alloc (Nat.le_refl _) o).trans (h.mono (by simp))
theorem bel_tr {a b c : World} (h : Below a.heap.size a b) (k : Below b.heap.size b c) : Below a.heap.size a c := h.trans (k.mono h.size)
end Go.Proofs.YtenpkgdnlogfiaaGreatDoor
