/-
  Laws at single operations whose new world and new value are left open: a new variable, a store of a whole row, a row that is read, a struct or a slice that is built.
-/
import Derived.Test.YtenpkgdnlogfiaaGreatDoorMem4
namespace Go.Proofs.YtenpkgdnlogfiaaGreatDoor
open Go.RowKit

/-- block g may be another one, all else is as it was -/
structure Upd (g : Nat) (w w' : World) : Prop where
  os : w'.os = w.os
  tape : w'.tape = w.tape
  output : w'.output = w.output
  size : w'.heap.size = w.heap.size
  other : ∀ k, k ≠ g → w'.heap[k]? = w.heap[k]?
theorem Upd.below {g B : Nat} {a w w' : World} (h : Upd g w w') (hb : Below B a w) (hg : B ≤ g) : Below B a w' :=
  ⟨h.os.trans hb.os, h.tape.trans hb.tape, h.output.trans hb.output, by rw [h.size]; exact hb.size, fun k hk => (h.other k (by omega)).trans (hb.block k hk)⟩
theorem Upd.cell {g : Nat} {w w' : World} (h : Upd g w w') {p : Addr} (hp : p.block ≠ g) : w'.cell? p = w.cell? p := by
  simp only [World.cell?, h.other _ hp]
theorem Box.upd {g b : Nat} {w w' : World} {t : TypeId} {cs : Array Value} (h : Box w b t cs) (hU : Upd g w w') (hb : b ≠ g) : Box w' b t cs := (hU.other b hb).trans h
theorem Sl.upd {g size n : Nat} {w w' : World} {D : Nat → Prop} {v : Value} {xs : List Value} (h : Sl w D size v n xs) (hU : Upd g w w') (hD : ∀ b, D b → b < w.heap.size → b ≠ g) : Sl w' D size v n xs :=
  h.keep (Nat.le_of_eq hU.size.symm) fun _ h1 h2 => hU.cell (hD _ h1 h2)
theorem IsSet.upd {g N : Nat} {w w' : World} {D : Nat → Prop} {v : Value} (h : IsSet w D v N) (hU : Upd g w w') (hD : ∀ b, D b → b < w.heap.size → b ≠ g) : IsSet w' D v N :=
  h.keep (Nat.le_of_eq hU.size.symm) fun _ h1 h2 => hU.cell (hD _ h1 h2)
theorem IsCubes.upd {g : Nat} {w w' : World} {D : Nat → Prop} {v : Value} {l : List (Nat × Nat)} (h : IsCubes w D v l) (hU : Upd g w w') (hD : ∀ b, D b → b < w.heap.size → b ≠ g) : IsCubes w' D v l :=
  h.keep (Nat.le_of_eq hU.size.symm) fun _ h1 h2 => hU.cell (hD _ h1 h2)

section
variable {P : Program} {ops : Array Oper} {rest : List Oper} {o : Oper} {a : Act} {w : World} {Q : Exit → Act → World → Prop}
/-- the cells of a type's zero value -/
def zeroCells (P : Program) (t : TypeId) : Array Value := (((P.info? t).bind (·.zero)).map (·.cells)).getD #[]
theorem wpList_alloc_op (hg : o.guard = none) (t : TypeId) (ho : o.op = .alloc t) (hz : ((P.info? t).bind (·.zero)).isSome = true)
    (h : ∀ w', Box w' w.heap.size t (zeroCells P t) → Below w.heap.size w w' → wpList P ops Q rest (a.put o.dst (.pointer (some ⟨w.heap.size, 0, none⟩))) w') : wpList P ops Q (o :: rest) a w := by
  refine wpList_plain hg fun _ hK => ?_
  cases hi : P.info? t with
  | none => simp [hi] at hz
  | some i =>
    cases hz' : i.zero with
    | none => simp [hi, hz'] at hz
    | some z =>
      have hzc : zeroCells P t = z.cells := by simp [zeroCells, hi, hz']
      have hr : (Instr.alloc t true (.tuple #[])).run P w = .ok (.pointer (some ⟨w.heap.size, 0, none⟩)) (w.alloc (.cells (zeroCells P t) t)) := by
        rw [hzc]
        simp [Instr.alloc, zeroValue, typeInfo, hi, hz', newVar, newRow, newObj]
        rfl
      unfold Oper.wp execOp
      simp only [ho, Sem.run_bind, hr, Result.andThen_ok]
      exact hK _ _ (h _ (Box.new _ _ _) ((Below.refl _ _).alloc (Nat.le_refl _) _))
theorem wpList_box_op (hg : o.guard = none) (t : TypeId) (x : Operand) (ho : o.op = .box t x) (vx : Value) (cells : Array Value) (hx : a.eval x = vx) (hc : vx.cells = cells)
    (h : ∀ w', Box w' w.heap.size t cells → Below w.heap.size w w' → wpList P ops Q rest (a.put o.dst (.pointer (some ⟨w.heap.size, 0, none⟩))) w') : wpList P ops Q (o :: rest) a w := by
  refine wpList_plain hg fun _ hK => ?_
  have hr : (Instr.box t vx).run P w = .ok (.pointer (some ⟨w.heap.size, 0, none⟩)) (w.alloc (.cells cells t)) := by
    subst hc
    simp [Instr.box, newVar, newRow, newObj]
    rfl
  unfold Oper.wp execOp
  simp only [ho, hx, Sem.run_bind, hr, Result.andThen_ok]
  exact hK _ _ (h _ (Box.new _ _ _) ((Below.refl _ _).alloc (Nat.le_refl _) _))
theorem wpList_store_op (hg : o.guard = none) (ty : TypeId) (x y : Operand) (ho : o.op = .store ty x y)
    (g : Nat) (cells : Array Value) (hx : a.eval x = .pointer (some ⟨g, 0, none⟩)) (hy : a.eval y = .agg cells) (t : TypeId) (old : Array Value) (hb : Box w g t old) (hi : (P.info? ty).map (·.size) = some cells.size)
    (hold : old.size = cells.size) (h1 : cells.all (·.oneCell') = true)
    (h : ∀ w', Box w' g t cells → Upd g w w' → wpList P ops Q rest (a.put o.dst undef) w') : wpList P ops Q (o :: rest) a w :=
  wpList_store_row hg ty x y ho g cells hx hy t old hb hi hold h1 (h _ (setRow_heap _ _ _ _ _ _ hb) ⟨rfl, rfl, rfl, by simp, fun k hk => setRow_other _ _ _ _ hk⟩)
theorem wpList_load_op (hg : o.guard = none) (ty : TypeId) (x : Operand) (ho : o.op = .load ty x) (g : Nat) (hx : a.eval x = .pointer (some ⟨g, 0, none⟩)) (t : TypeId) (cs : Array Value) (hb : Box w g t cs)
    (d : TypeDesc) (hu : P.underlying ty = some d) (hd : (match d with | .struct _ | .array _ _ => true | _ => false) = true) (hi : (P.info? ty).map (·.size) = some cs.size)
    (h : wpList P ops Q rest (a.put o.dst (.agg cs)) w) : wpList P ops Q (o :: rest) a w :=
  wpList_load_row hg ty x ho g hx t cs (0, 0) d hb hu hd hi h
/-- the cells of a slice that is built of its elements -/
def builtSlice (P : Program) (e : TypeId) (len : Nat) (parts : List (Nat × Value)) : Option (Array Value) :=
  match P.info? e with
  | some i => match i.zero with
    | some z => if len * i.size > 2 ^ 24 then none else if len * i.size = 0 then (match parts with | [] => some #[] | _ => none) else Instr.fill (fun k => some (k * i.size, i.size)) ((Array.range (len * i.size)).map (z.cells[· % z.cells.size]!)) parts
    | none => none
  | none => none
theorem run_buildSlice (w : World) (t e : TypeId) (len : Nat) (parts : Array (Nat × Value)) (cells : Array Value) (ht : P.underlying t = some (.slice e)) (h : builtSlice P e len parts.toList = some cells) :
    (Instr.buildSlice t len parts).run P w = .ok (.slice (some ⟨w.heap.size, 0, none⟩) len len) (w.alloc (.cells cells e)) := by
  unfold builtSlice at h
  cases hi : P.info? e with
  | none => simp [hi] at h
  | some i =>
    cases hz : i.zero with
    | none => simp [hi, hz] at h
    | some z =>
      simp only [hi, hz] at h
      split at h
      · cases h
      · rename_i h24
        split at h
        · rename_i h0
          cases hp : parts.toList with
          | nil =>
            simp [hp] at h
            subst h
            simp [Instr.buildSlice, run_underlying ht, sizeOf, typeInfo, zeroValue, hi, hz, h0, hp, Instr.fill, newRow, newObj]
            rw [show (Array.map (fun _ : Nat => (default : Value)) (Array.range 0)) = #[] from by simp]
            rfl
          | cons _ _ => simp [hp] at h
        · rename_i h0
          simp [Instr.buildSlice, run_underlying ht, sizeOf, typeInfo, zeroValue, hi, hz, h24, h0, h, newRow, newObj]
          rfl
theorem wpList_buildSlice_op (hg : o.guard = none) (t e : TypeId) (len : Nat) (parts : Array (Nat × Operand)) (ho : o.op = .buildSlice t len parts) (ht : P.underlying t = some (.slice e)) (cells : Array Value)
    (hb : builtSlice P e len (parts.map fun (i, x) => (i, a.eval x)).toList = some cells)
    (h : ∀ w', Box w' w.heap.size e cells → Below w.heap.size w w' → wpList P ops Q rest (a.put o.dst (.slice (some ⟨w.heap.size, 0, none⟩) len len)) w') : wpList P ops Q (o :: rest) a w := by
  refine wpList_plain hg fun _ hK => ?_
  unfold Oper.wp execOp
  simp only [ho, Sem.run_bind, run_buildSlice w t e len _ cells ht hb, Result.andThen_ok]
  exact hK _ _ (h _ (Box.new _ _ _) ((Below.refl _ _).alloc (Nat.le_refl _) _))
theorem Sl.of_box {w : World} {b n size : Nat} {t : TypeId} {cs : Array Value} (h : Box w b t cs) (hs : cs.size = n * size) (hn : n ≤ 1000000000000) : Sl w (· = b) size (.slice (some ⟨b, 0, none⟩) n n) n cs.toList :=
  ⟨by simpa using hs, _, _, rfl, Nat.le_refl _, by simp [maxLen]; omega, fun _ => ⟨b, 0, rfl, rfl, h.lt, fun j x hj => by rw [Nat.zero_add, h.cell]; simpa using hj⟩⟩
end
end Go.Proofs.YtenpkgdnlogfiaaGreatDoor
