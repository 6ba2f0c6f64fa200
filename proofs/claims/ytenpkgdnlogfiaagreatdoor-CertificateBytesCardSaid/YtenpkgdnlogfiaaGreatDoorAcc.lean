/-
  A slice of the call's own that grows: append of one element that is built in place, append of a slice, make: laws at the operations, the new world left open.
-/
import Derived.Test.YtenpkgdnlogfiaaGreatDoorOp
namespace Go.Proofs.YtenpkgdnlogfiaaGreatDoor
open Go.RowKit

/-- t is the type of slices of e, whose values take `size` cells and `bytes` bytes -/
structure SliceTy (P : Program) (t e : TypeId) (size bytes : Nat) : Prop where
  under : P.underlying t = some (.slice e)
  ok : (match P.info? e with
    | some i => match i.zero with
      | some z => i.size == size && i.bytes == bytes && z.cells.size == size && decide (0 < size)
      | none => false
    | none => false) = true
theorem SliceTy.get {P : Program} {t e : TypeId} {size bytes : Nat} (h : SliceTy P t e size bytes) : ∃ i z, P.info? e = some i ∧ i.zero = some z ∧ i.size = size ∧ i.bytes = bytes ∧ z.cells.size = size ∧ 0 < size := by
  have := h.ok
  cases hi : P.info? e with
  | none => simp [hi] at this
  | some i =>
    cases hz : i.zero with
    | none => simp [hi, hz] at this
    | some z => simp [hi, hz] at this; exact ⟨i, z, rfl, hz, this.1.1.1, this.1.1.2, this.1.2, this.2⟩

/-- all old blocks but `row` are as they were -/
theorem grown_below {B : Nat} {w w' a : World} {row : Option Nat} (h : w.grownBy w' row) (hb : Below B a w) (hB : B ≤ w.heap.size) (hr : ∀ k, row = some k → B ≤ k) : Below B a w' :=
  hb.grown h hB (fun k hk => hr k hk)
/-- any block from base on but that of the row v -/
def notOwn (base : Nat) (v : Value) : Nat → Prop := fun b => base ≤ b ∧ v.ownBlock ≠ some b
theorem own_lt {w : World} {base : Nat} {e : TypeId} {size n : Nat} {v : Value} {xs : List Value} (h : w.ownsRow base e size v n xs) (k : Nat) (hk : v.ownBlock = some k) : k < w.heap.size := by
  rcases h.2 with ⟨rfl, _⟩ | ⟨g, cap, cur, rfl, hb, hh, _⟩
  · simp [Value.ownBlock] at hk
  · have : g = k := by simpa [Value.ownBlock] using hk
    subst this
    exact (Array.getElem?_eq_some_iff.1 hh).1
theorem grown_cell {w w' : World} {row : Option Nat} (h : w.grownBy w' row) {p : Addr} (hp : p.block < w.heap.size) (hr : row ≠ some p.block) : w'.cell? p = w.cell? p := by
  simp only [World.cell?, h.block p.block hp (fun e => hr e.symm)]
theorem own_len {w : World} {base : Nat} {e : TypeId} {size n k : Nat} {v : Value} {xs : List Value} (h : w.ownsRow base e size v n xs) (hn : n = k) : w.ownsRow base e size v k xs := hn ▸ h
theorem own_ge {w : World} {base : Nat} {e : TypeId} {size n : Nat} {v : Value} {xs : List Value} (h : w.ownsRow base e size v n xs) (k : Nat) (hk : v.ownBlock = some k) : base ≤ k := by
  rcases h.2 with ⟨rfl, _⟩ | ⟨g, cap, cur, rfl, hb, _⟩
  · simp [Value.ownBlock] at hk
  · have : g = k := by simpa [Value.ownBlock] using hk
    omega
theorem Sl.app {w w' : World} {base : Nat} {v0 v1 : Value} {size n : Nat} {v : Value} {xs : List Value} (h : Sl w (notOwn base v0) size v n xs) (hg : w.grownBy w' v0.ownBlock) (hat : ∀ k, v1.ownBlock = some k → v0.ownBlock = some k ∨ w.heap.size ≤ k) : Sl w' (notOwn base v1) size v n xs :=
  ((h.imp (D' := fun b => (base ≤ b ∧ v0.ownBlock ≠ some b) ∧ b < w.heap.size) fun _ h1 h2 => ⟨h1, h2⟩).keep hg.size fun _ h1 h2 => grown_cell hg h2 h1.1.2).imp fun b h1 _ => ⟨h1.1.1, fun e => by
    rcases hat b e with h | h
    · exact h1.1.2 h
    · have := h1.2; omega⟩
theorem IsSet.app {w w' : World} {base : Nat} {v0 v1 : Value} {v : Value} {N : Nat} (h : IsSet w (notOwn base v0) v N) (hg : w.grownBy w' v0.ownBlock) (hat : ∀ k, v1.ownBlock = some k → v0.ownBlock = some k ∨ w.heap.size ≤ k) : IsSet w' (notOwn base v1) v N :=
  ((h.imp (D' := fun b => (base ≤ b ∧ v0.ownBlock ≠ some b) ∧ b < w.heap.size) fun _ h1 h2 => ⟨h1, h2⟩).keep hg.size fun _ h1 h2 => grown_cell hg h2 h1.1.2).imp fun b h1 _ => ⟨h1.1.1, fun e => by
    rcases hat b e with h | h
    · exact h1.1.2 h
    · have := h1.2; omega⟩
theorem IsCubes.app {w w' : World} {base : Nat} {v0 v1 : Value} {v : Value} {l : List (Nat × Nat)} (h : IsCubes w (notOwn base v0) v l) (hg : w.grownBy w' v0.ownBlock) (hat : ∀ k, v1.ownBlock = some k → v0.ownBlock = some k ∨ w.heap.size ≤ k) : IsCubes w' (notOwn base v1) v l :=
  ((h.imp (D' := fun b => (base ≤ b ∧ v0.ownBlock ≠ some b) ∧ b < w.heap.size) fun _ h1 h2 => ⟨h1, h2⟩).keep hg.size fun _ h1 h2 => grown_cell hg h2 h1.1.2).imp fun b h1 _ => ⟨h1.1.1, fun e => by
    rcases hat b e with h | h
    · exact h1.1.2 h
    · have := h1.2; omega⟩
section
variable {P : Program} {ops : Array Oper} {rest : List Oper} {o o1 o2 : Oper} {a : Act} {w : World} {Q : Exit → Act → World → Prop}
theorem wpList_app_op (hg : o.guard = none) (s x : Operand) (t : TypeId) (ho : o.op = .call { callee := .builtin .append, args := #[s, x], argTypes := #[t, t] }) {e : TypeId} {size bytes : Nat} (hT : SliceTy P t e size bytes)
    (base : Nat) (v : Value) (n : Nat) (xs : List Value) (hs : a.eval s = v) (hown : w.ownsRow base e size v n xs) (D : Nat → Prop) (y : Value) (m : Nat) (news : List Value) (hx : a.eval x = y) (hr : Sl w D size y m news)
    (h1 : ∀ u ∈ news, u.oneCell' = true) (hb : n + m ≤ maxLen) (hbytes : (n + m) * bytes ≤ 140737488355328) (hbase : base ≤ w.heap.size)
    (h : ∀ v' w', w'.ownsRow base e size v' (n + m) (xs ++ news) → w.grownBy w' v.ownBlock → (∀ k, v'.ownBlock = some k → v.ownBlock = some k ∨ w.heap.size ≤ k) → wpList P ops Q rest (a.put o.dst v') w') : wpList P ops Q (o :: rest) a w := by
  obtain ⟨i, z, hi, hz, h2, h3, h4, h5⟩ := hT.get
  exact wpList_append_sl w hg s x t ho base e i z size bytes hT.under hi hz h2 h3 h4 h5 v n xs hs hown D y m news hx hr h1 hb hbytes hbase fun v' w' a1 a2 a3 => h v' w' a1 a2 fun k hk => by
    rcases a3 with h | h
    · left; rw [← h]; exact hk
    · right; rw [hk] at h; injection h with h; omega
/-- 'out = append(out, x)': the slice of one element, and the append -/
theorem wpList_push_op (hg1 : o1.guard = none) (hg2 : o2.guard = none) (s x y : Operand) (t : TypeId) (ho1 : o1.op = .buildSlice t 1 #[(0, x)]) (ho2 : o2.op = .call { callee := .builtin .append, args := #[s, y], argTypes := #[t, t] })
    {e : TypeId} {size bytes : Nat} (hT : SliceTy P t e size bytes) (base : Nat) (v : Value) (n : Nat) (xs : List Value) (vx : Value) (cells : Array Value) (hx : a.eval x = vx) (hc : builtSlice P e 1 [(0, vx)] = some cells) (hcs : cells.size = size)
    (hs : (a.put o1.dst (.slice (some ⟨w.heap.size, 0, none⟩) 1 1)).eval s = v) (hy : (a.put o1.dst (.slice (some ⟨w.heap.size, 0, none⟩) 1 1)).eval y = .slice (some ⟨w.heap.size, 0, none⟩) 1 1) (hown : w.ownsRow base e size v n xs)
    (h1 : ∀ u ∈ cells.toList, u.oneCell' = true) (hb : n + 1 ≤ 1000000000000) (hbytes : (n + 1) * bytes ≤ 140737488355328) (hbase : base ≤ w.heap.size)
    (h : ∀ v' w', w'.ownsRow base e size v' (n + 1) (xs ++ cells.toList) → w.grownBy w' v.ownBlock → (∀ k, v'.ownBlock = some k → v.ownBlock = some k ∨ w.heap.size ≤ k) → wpList P ops Q rest ((a.put o1.dst (.slice (some ⟨w.heap.size, 0, none⟩) 1 1)).put o2.dst v') w') : wpList P ops Q (o1 :: o2 :: rest) a w := by
  refine wpList_buildSlice_op hg1 t e 1 _ ho1 hT.under cells (by simpa [hx] using hc) fun w1 hX hb1 => ?_
  refine wpList_app_op hg2 s y t ho2 hT base v n xs hs (own_ext hown hb1) (· = w.heap.size) _ 1 cells.toList hy (Sl.of_box hX (by omega) (by omega)) h1 (by unfold maxLen; omega) hbytes (by have := hb1.size; omega) fun v' w' a1 a2 a3 => h v' w' a1 ?_ fun k hk => (a3 k hk).imp id fun h => Nat.le_trans hb1.size h
  exact ⟨a2.os.trans hb1.os, a2.tape.trans hb1.tape, a2.output.trans hb1.output, Nat.le_trans hb1.size a2.size, fun k hk hne => (a2.block k (Nat.lt_of_lt_of_le hk hb1.size) hne).trans (hb1.block k hk)⟩
/-- 'make([]T, n)' -/
theorem wpList_mk_op (hg : o.guard = none) (t : TypeId) (l c : Operand) (ho : o.op = .makeSlice t l c) {e : TypeId} {size bytes : Nat} (hT : SliceTy P t e size bytes) (kl kc : IntKind) (n : Nat) (zs : Array Value)
    (hl : a.eval l = .int kl n) (hcap : a.eval c = .int kc n) (hz : zeroCells P e = zs) (hb : bytes * n ≤ 281474976710656) (h63 : n ≤ 1000000000000)
    (h : ∀ w', w'.ownsRow w.heap.size e size (.slice (some ⟨w.heap.size, 0, none⟩) n n) n (madeCells zs (n * size)).toList → Below w.heap.size w w' → wpList P ops Q rest (a.put o.dst (.slice (some ⟨w.heap.size, 0, none⟩) n n)) w') : wpList P ops Q (o :: rest) a w := by
  obtain ⟨i, z, hi, hz', h2, h3, h4, h5⟩ := hT.get
  have hzc : zs = z.cells := by rw [← hz]; simp [zeroCells, hi, hz']
  subst hzc
  exact wpList_make_full w hg l c t ho w.heap.size e i z size hT.under hi hz' h2 kl kc _ _ n hl hcap rfl rfl (by rw [h3]; exact hb) (by unfold maxLen; omega) (Nat.le_refl _) fun w' h1 h2 => h w' h1 ((Below.refl _ _).grown h2 (Nat.le_refl _) (by simp))
/-- 'make([]T, 0, n)' -/
theorem wpList_mkcap_op (hg : o.guard = none) (t : TypeId) (l c : Operand) (ho : o.op = .makeSlice t l c) {e : TypeId} {size bytes : Nat} (hT : SliceTy P t e size bytes) (kl kc : IntKind) (n : Nat)
    (hl : a.eval l = .int kl 0) (hcap : a.eval c = .int kc n) (hb : bytes * n ≤ 281474976710656) (h63 : n ≤ 1000000000000)
    (h : ∀ w', w'.ownsRow w.heap.size e size (.slice (some ⟨w.heap.size, 0, none⟩) 0 n) 0 [] → Below w.heap.size w w' → wpList P ops Q rest (a.put o.dst (.slice (some ⟨w.heap.size, 0, none⟩) 0 n)) w') : wpList P ops Q (o :: rest) a w := by
  obtain ⟨i, z, hi, hz', h2, h3, h4, h5⟩ := hT.get
  exact wpList_make_own w hg l c t ho w.heap.size e i z size hT.under hi hz' h2 kl kc _ n hl hcap rfl (by rw [h3]; exact hb) (by unfold maxLen; omega) (Nat.le_refl _) fun w' h1 h2 => h w' h1 ((Below.refl _ _).grown h2 (Nat.le_refl _) (by simp))
theorem run_store_box {g i : Nat} {t ty : TypeId} {cs : Array Value} {v : Value} (hb : Box w g t cs) (hi : i < cs.size) (hv : v.cells = #[v]) (h1 : v.oneCell' = true) (hs : (P.info? ty).map (·.size) = some 1) :
    (Instr.storeAt ty (.pointer (some ⟨g, i, none⟩)) v).run P w = .ok () (w.setCell ⟨g, i, none⟩ v) := by
  have hc := hb.cell i
  have hf := hb.free i
  have := run_storeCells_cells (P := P) g i [v] 0 w (fun j hj => by simp at hj; subst hj; simp [hc, hi]) (fun j hj => by simp at hj; subst hj; simpa using hf) (by simpa using h1)
  cases hq : P.info? ty with
  | none => simp [hq] at hs
  | some inf =>
    have hs' : inf.size = 1 := by simpa [hq] using hs
    simp only [Nat.add_zero] at this
    simp [Instr.storeAt, Instr.sureAddr, storeVar, sizeOf, typeInfo, hq, hv, hs', this, World.setCells]
theorem Box.setC {g i : Nat} {t : TypeId} {cs : Array Value} (h : Box w g t cs) (u : Value) : Box (w.setCell ⟨g, i, none⟩ u) g t (cs.setIfInBounds i u) := h.set i u
theorem upd_setCell (w : World) (g i : Nat) (u : Value) : Upd g w (w.setCell ⟨g, i, none⟩ u) := ⟨rfl, rfl, rfl, by simp, fun k hk => Below.heap_setCell w _ u k hk⟩
/-- a store into one cell of a variable of several cells -/
theorem wpList_cstore_op (hg : o.guard = none) (ty : TypeId) (x y : Operand) (ho : o.op = .store ty x y) (g i : Nat) (v : Value) (hx : a.eval x = .pointer (some ⟨g, i, none⟩)) (hy : a.eval y = v) {t : TypeId} {cs : Array Value} (hb : Box w g t cs) (hi : i < cs.size)
    (hv : v.cells = #[v]) (h1 : v.oneCell' = true) (hs : (P.info? ty).map (·.size) = some 1) (h : ∀ w', Box w' g t (cs.setIfInBounds i v) → Upd g w w' → wpList P ops Q rest (a.put o.dst undef) w') : wpList P ops Q (o :: rest) a w := by
  refine wpList_plain hg fun _ hK => ?_
  unfold Oper.wp execOp
  simp only [ho, hx, hy, Sem.run_bind, run_store_box hb hi hv h1 hs, Result.andThen_ok]
  exact hK _ _ (h _ (hb.setC v) (upd_setCell w g i v))
theorem own_upd {g base size n : Nat} {e t : TypeId} {v : Value} {xs : List Value} {cs : Array Value} {w w' : World} (h : w.ownsRow base e size v n xs) (hb : Box w g t cs) (he : e ≠ t) (hU : Upd g w w') : w'.ownsRow base e size v n xs :=
  h.kept (row := some g) ⟨hU.os, hU.tape, hU.output, Nat.le_of_eq hU.size.symm, fun k _ hk => hU.other k (fun e => hk (by rw [e]))⟩ (.inr (own_ne_box h hb he))
theorem own_type {base size n : Nat} {e : TypeId} {v : Value} {xs : List Value} {w : World} (h : w.ownsRow base e size v n xs) (k : Nat) (hk : v.ownBlock = some k) : ∃ cs fr, w.heap[k]? = some (.cells cs e fr) := by
  rcases h.2 with ⟨rfl, _⟩ | ⟨g, cap, cur, rfl, hb, hh, _⟩
  · simp [Value.ownBlock] at hk
  · have : g = k := by simpa [Value.ownBlock] using hk
    subst this
    exact ⟨_, _, hh⟩
theorem own_other {base size n base' size' n' : Nat} {e e' : TypeId} {v v' : Value} {xs xs' : List Value} {w w' : World} (h : w.ownsRow base e size v n xs) (h' : w.ownsRow base' e' size' v' n' xs') (he : e ≠ e') (hg : w.grownBy w' v'.ownBlock) : w'.ownsRow base e size v n xs := by
  cases hv : v'.ownBlock with
  | none => rw [hv] at hg; exact h.kept hg (by cases v.ownBlock <;> simp)
  | some k =>
    rw [hv] at hg
    refine h.kept hg (.inr fun e2 => ?_)
    obtain ⟨cs, fr, h1⟩ := own_type h k e2
    obtain ⟨cs', fr', h2⟩ := own_type h' k hv
    rw [h1] at h2
    injection h2 with h2
    injection h2 with _ h3 _
    exact he h3
theorem own_box_grown {base size n b : Nat} {e t : TypeId} {v : Value} {xs : List Value} {cs : Array Value} {w w' : World} (hb : Box w b t cs) (h : w.ownsRow base e size v n xs) (he : e ≠ t) (hg : w.grownBy w' v.ownBlock) : Box w' b t cs :=
  hb.grown hg (fun e2 => own_ne_box h hb he e2.symm)
theorem own_box {base g n cap size : Nat} {e : TypeId} {xs : List Value} (h : w.ownsRow base e size (.slice (some ⟨g, 0, none⟩) n cap) n xs) : ∃ cur : Array Value, Box w g e cur ∧ n * size ≤ cur.size ∧ ∀ (j : Nat) (x : Value), xs[j]? = some x → cur[j]? = some x := by
  rcases h.2 with ⟨h', _⟩ | ⟨g', cap', cur, h', hb, hg, hnc, hcm, hcs, htake⟩
  · simp at h'
  · simp only [Value.slice.injEq, Option.some.injEq, Addr.mk.injEq, and_true, true_and] at h'
    obtain ⟨rfl, rfl⟩ := h'
    refine ⟨cur, hg, by rw [hcs]; exact Nat.mul_le_mul_right _ hnc, fun j x hj => ?_⟩
    rw [← htake] at hj
    have hlt : j < n * size := by
      have := (List.getElem?_eq_some_iff.1 hj).1
      simp at this; omega
    rw [List.getElem?_take_of_lt hlt] at hj
    simpa using hj
theorem own_cell {base g n cap size : Nat} {e : TypeId} {xs : List Value} (h : w.ownsRow base e size (.slice (some ⟨g, 0, none⟩) n cap) n xs) (j : Nat) (x : Value) (hj : xs[j]? = some x) : w.cell? ⟨g, j, none⟩ = some x := by
  obtain ⟨cur, h1, _, h3⟩ := own_box h
  rw [h1.cell]; exact h3 j x hj
theorem run_store_own {base g n cap size i : Nat} {e ty : TypeId} {xs : List Value} {v : Value} (h : w.ownsRow base e size (.slice (some ⟨g, 0, none⟩) n cap) n xs) (hi : i < n * size) (hv : v.cells = #[v]) (h1 : v.oneCell' = true) (hs : (P.info? ty).map (·.size) = some 1) :
    (Instr.storeAt ty (.pointer (some ⟨g, i, none⟩)) v).run P w = .ok () (w.setCell ⟨g, i, none⟩ v) := by
  obtain ⟨cur, h2, h3, _⟩ := own_box h
  exact run_store_box h2 (by omega) hv h1 hs
/-- a store into one cell of a row of the call's own -/
theorem wpList_ostore_op (hg : o.guard = none) (ty : TypeId) (x y : Operand) (ho : o.op = .store ty x y) (g i : Nat) (v : Value) (hx : a.eval x = .pointer (some ⟨g, i, none⟩)) (hy : a.eval y = v) {base n cap size : Nat} {e : TypeId} {xs : List Value} (hown : w.ownsRow base e size (.slice (some ⟨g, 0, none⟩) n cap) n xs) (hi : i < n * size)
    (hv : v.cells = #[v]) (h1 : v.oneCell' = true) (hs : (P.info? ty).map (·.size) = some 1) (h : ∀ w', w'.ownsRow base e size (.slice (some ⟨g, 0, none⟩) n cap) n (xs.set i v) → Upd g w w' → wpList P ops Q rest (a.put o.dst undef) w') : wpList P ops Q (o :: rest) a w := by
  refine wpList_plain hg fun _ hK => ?_
  unfold Oper.wp execOp
  simp only [ho, hx, hy, Sem.run_bind, run_store_own hown hi hv h1 hs, Result.andThen_ok]
  exact hK _ _ (h _ (hown.stored i v).1 (upd_setCell w g i v))
theorem upd_grown {g : Nat} {w w' : World} (h : Upd g w w') : w.grownBy w' (some g) := ⟨h.os, h.tape, h.output, Nat.le_of_eq h.size.symm, fun k _ hk => h.other k (fun e => hk (by rw [e]))⟩
/-- 'append([]T{}, xs...)' -/
theorem run_append_fresh {t ty e : TypeId} {size bytes g m : Nat} {x : Value} {news : List Value} {D : Nat → Prop} (hT : SliceTy P t e size bytes) (hr : Sl w D size x m news) (hm : m ≤ 1000000000000) (hbytes : m * bytes ≤ 140737488355328) :
    ∃ v' w', (Builtin.append_ #[t, t] ty #[.slice (some ⟨g, 0, none⟩) 0 0, x]).run P w = .ok v' w' ∧ Below w.heap.size w w' ∧ Sl w' (w.heap.size ≤ ·) size v' m news := by
  obtain ⟨i, z, hi, hz, h2, h3, h4, h5⟩ := hT.get
  obtain ⟨hl, A, c, rfl, _, _, hc⟩ := hr
  rcases Nat.eq_zero_or_pos m with h0 | h0
  · subst h0
    have hn : news = [] := List.eq_nil_of_length_eq_zero (by simpa using hl)
    subst hn
    refine ⟨.slice (some ⟨g, 0, none⟩) 0 0, w, ?_, Below.refl _ _, ⟨by simp, _, 0, rfl, Nat.le_refl _, by simp [maxLen], fun h => absurd h (by omega)⟩⟩
    cases A with
    | none => simp [Builtin.append_, run_underlying hT.under, sizeOf, typeInfo, hi, Builtin.lenOf, Builtin.firstCells, storeCells]
    | some ad => simp [Builtin.append_, run_underlying hT.under, sizeOf, typeInfo, hi, Builtin.lenOf, Builtin.firstCells, storeCells, loadCells, loadCellsFrom]
  · obtain ⟨b, o, rfl, _, hb, hcc⟩ := hc h0
    obtain ⟨v', w', hrun, ho, hg⟩ := run_append_arg_grows (P := P) w t ty e i z size bytes hT.under hi hz h2 h3 h4 h5 ⟨g, 0, none⟩ 0 0 [] (by simp) (by simp) ⟨b, o, none⟩ m c news hl (fun j u hj => by rw [Addr.add_lit]; exact hcc j u hj) (by omega) (by unfold maxLen; omega) (by rw [Nat.zero_add]; exact hbytes)
    rw [Nat.zero_add, List.nil_append] at ho
    exact ⟨v', w', hrun, (Below.refl _ _).grown hg (Nat.le_refl _) (by simp), Sl.of_own ho⟩
theorem wpList_fresh_op (hg : o.guard = none) (s x : Operand) (t : TypeId) (ho : o.op = .call { callee := .builtin .append, args := #[s, x], argTypes := #[t, t] }) {e : TypeId} {size bytes : Nat} (hT : SliceTy P t e size bytes)
    (g : Nat) (hs : a.eval s = .slice (some ⟨g, 0, none⟩) 0 0) (D : Nat → Prop) (y : Value) (m : Nat) (news : List Value) (hx : a.eval x = y) (hr : Sl w D size y m news) (hm : m ≤ 1000000000000) (hbytes : m * bytes ≤ 140737488355328)
    (h : ∀ v' w', Sl w' (w.heap.size ≤ ·) size v' m news → Below w.heap.size w w' → wpList P ops Q rest (a.put o.dst v') w') : wpList P ops Q (o :: rest) a w := by
  refine wpList_plain hg fun _ hK => ?_
  obtain ⟨v', w', hrun, h2, h3⟩ := run_append_fresh (P := P) (ty := o.type) (g := g) hT hr hm hbytes
  unfold Oper.wp execOp
  simp only [ho, resolve, invoke, builtin, Sem.run_bind, Sem.run_pure, Result.andThen_ok, List.map_toArray, List.map_cons, List.map_nil, hs, hx, hrun]
  exact hK _ _ (h v' w' h3 h2)
end
end Go.Proofs.YtenpkgdnlogfiaaGreatDoor
