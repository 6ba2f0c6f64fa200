/-
  More plain words for memory: a block that is known whole; append from any readable slice; bytes; the writer's buffer.
-/
import Derived.Test.YtenpkgdnlogfiaaGreatDoorMem
import Derived.Maps.AppendAt
import Derived.Deep.AppendLies
import Derived.OneCell
namespace Go.Proofs.YtenpkgdnlogfiaaGreatDoor
open Go.RowKit

/-- block b is just the cells cs of type t, none frozen -/
def Box (w : World) (b : Nat) (t : TypeId) (cs : Array Value) : Prop := w.heap[b]? = some (.cells cs t (0, 0))
section
variable {w w' : World} {b : Nat} {t : TypeId} {cs : Array Value}
theorem Box.lt (h : Box w b t cs) : b < w.heap.size := (Array.getElem?_eq_some_iff.1 h).1
theorem Box.cell (h : Box w b t cs) (i : Nat) : w.cell? ⟨b, i, none⟩ = cs[i]? := cell_of_row w b i cs t (0, 0) h
theorem Box.free (h : Box w b t cs) (i : Nat) : w.frozen? ⟨b, i, none⟩ = false := by
  unfold Box at h
  simp [World.frozen?, h]
theorem Box.new (w : World) (t : TypeId) (cs : Array Value) : Box (w.alloc (.cells cs t)) w.heap.size t cs := heap_alloc_new w _
theorem Box.drew (h : Box w b t cs) : Box w.drew b t cs := h
theorem Box.drewN (h : Box w b t cs) (n : Nat) : Box (w.drewN n) b t cs := h
theorem Box.alloc (h : Box w b t cs) (o : Obj) : Box (w.alloc o) b t cs := (Below.heap_alloc w o b h.lt).trans h
theorem Box.ext (h : Box w b t cs) (hb : Below w.heap.size w w') : Box w' b t cs := (hb.block b h.lt).trans h
theorem Box.below {B : Nat} (h : Box w b t cs) (hb : Below B w w') (hl : b < B) : Box w' b t cs := (hb.block b hl).trans h
theorem Box.far (h : Box w b t cs) {q : Addr} (hq : b ≠ q.block) (u : Value) : Box (w.setCell q u) b t cs := (Below.heap_setCell w q u b hq).trans h
theorem Box.grown {row : Option Nat} (h : Box w b t cs) (hg : w.grownBy w' row) (hr : some b ≠ row) : Box w' b t cs := (hg.block b h.lt hr).trans h
theorem Box.set (h : Box w b t cs) (i : Nat) (u : Value) : Box (w.setCell ⟨b, i, none⟩ u) b t (cs.setIfInBounds i u) := by
  unfold Box at h ⊢
  simp [World.setCell, Array.getElem?_modify, h]
theorem own_ne_box {base : Nat} {e : TypeId} {size n : Nat} {v : Value} {xs : List Value} (h : w.ownsRow base e size v n xs) (hb : Box w b t cs) (he : e ≠ t) : v.ownBlock ≠ some b := by
  rcases h.2 with ⟨rfl, _⟩ | ⟨g, cap, cur, rfl, _, hh, _⟩
  · simp [Value.ownBlock]
  · intro e'
    have : g = b := by simpa [Value.ownBlock] using e'
    subst this
    unfold Box at hb
    rw [hh] at hb
    injection hb with hb
    injection hb with _ ht _
    exact he ht
theorem own_far {base : Nat} {e : TypeId} {size n : Nat} {v : Value} {xs : List Value} (h : w.ownsRow base e size v n xs) (hb : Box w b t cs) (he : e ≠ t) (i : Nat) (u : Value) : (w.setCell ⟨b, i, none⟩ u).ownsRow base e size v n xs :=
  h.kept (row := some b) ⟨rfl, rfl, rfl, by simp, fun k _ hk => Below.heap_setCell w _ u k (fun e => hk (by rw [e]))⟩ (.inr (own_ne_box h hb he))
theorem own_ext {base : Nat} {e : TypeId} {size n : Nat} {v : Value} {xs : List Value} (h : w.ownsRow base e size v n xs) (hb : Below w.heap.size w w') : w'.ownsRow base e size v n xs :=
  h.kept (row := none) (below_grown hb none) (by cases v.ownBlock <;> simp)
end

theorem grown_set {a w : World} {g : Nat} (h : a.grownBy w (some g)) (i : Nat) (u : Value) : a.grownBy (w.setCell ⟨g, i, none⟩ u) (some g) :=
  ⟨h.os, h.tape, h.output, by simpa [World.setCell] using h.size, fun k hk hne => (Below.heap_setCell w ⟨g, i, none⟩ u k (fun e => hne (by rw [e]))).trans (h.block k hk hne)⟩
theorem grown_drew {a w : World} {row : Option Nat} (h : a.grownBy w row) : a.grownBy w.drew row := ⟨h.os, h.tape, h.output, h.size, h.block⟩
/-- append from any readable slice onto a row of one's own -/
theorem run_append_sl {P : Program} (w : World) (base : Nat) (t ty e : TypeId) (i : TypeInfo) (z : Value) (size bytes : Nat) (ht : P.underlying t = some (.slice e)) (hi : P.info? e = some i) (hz : i.zero = some z)
    (hsize : i.size = size) (hby : i.bytes = bytes) (hzs : z.cells.size = size) (hsz : 0 < size)
    (v : Value) (n : Nat) (xs : List Value) (hown : w.ownsRow base e size v n xs)
    (D : Nat → Prop) (x : Value) (m : Nat) (news : List Value) (hr : Sl w D size x m news) (h1 : ∀ u ∈ news, u.oneCell' = true)
    (h63 : n + m ≤ maxLen) (hbytes : (n + m) * bytes ≤ 140737488355328) (hbase : base ≤ w.heap.size) :
    ∃ v' w', (Builtin.append_ #[t, t] ty #[v, x]).run P w = .ok v' w' ∧ w'.ownsRow base e size v' (n + m) (xs ++ news) ∧ w.grownBy w' v.ownBlock ∧ (v'.ownBlock = v.ownBlock ∨ v'.ownBlock = some w.heap.size) := by
  obtain ⟨hl, A, c, rfl, _, _, hc⟩ := hr
  cases A with
  | none =>
    have hm : m = 0 := by
      rcases Nat.eq_zero_or_pos m with h | h
      · exact h
      · obtain ⟨b, o, e, _⟩ := hc h; cases e
    subst hm
    have hn : news = [] := List.eq_nil_of_length_eq_zero (by simpa using hl)
    subst hn
    refine ⟨v, w, ?_, by simpa using hown, World.grownBy.refl w _, .inl rfl⟩
    rcases hown.2 with ⟨rfl, rfl⟩ | ⟨g, cap, cur, rfl, _, _, hnc, _⟩
    · simp [Builtin.append_, run_underlying ht, sizeOf, typeInfo, hi, Builtin.lenOf, Builtin.firstCells]
    · simp [Builtin.append_, run_underlying ht, sizeOf, typeInfo, hi, Builtin.lenOf, Builtin.firstCells, hnc, storeCells]
  | some ad =>
    have hcells : ∀ j u, news[j]? = some u → w.cell? (ad.add j) = some u := by
      intro j u hu
      rcases Nat.eq_zero_or_pos m with h0 | h0
      · subst h0
        have hn : news = [] := List.eq_nil_of_length_eq_zero (by simpa using hl)
        subst hn
        simp at hu
      · obtain ⟨b, o, h, _, _, hcc⟩ := hc h0
        injection h with h
        subst h
        rw [Addr.add_lit]
        exact hcc j u hu
    obtain ⟨v', w', hrun, h2, h3, _, h4⟩ := run_append_own_at (P := P) w base t ty e i z size bytes ht hi hz hsize hby hzs hsz v n xs hown ad m c news hl hcells h1 h63 hbytes hbase
    exact ⟨v', w', hrun, h2, h3, h4⟩
theorem wp_append_sl {P : Program} (w : World) {o : Oper} {a : Act} {K : Act → World → Prop} {Q : Exit → Act → World → Prop} (s x : Operand) (t : TypeId)
    (ho : o.op = .call { callee := .builtin .append, args := #[s, x], argTypes := #[t, t] })
    (base : Nat) (e : TypeId) (i : TypeInfo) (z : Value) (size bytes : Nat) (ht : P.underlying t = some (.slice e)) (hi : P.info? e = some i) (hz : i.zero = some z)
    (hsize : i.size = size) (hby : i.bytes = bytes) (hzs : z.cells.size = size) (hsz : 0 < size)
    (v : Value) (n : Nat) (xs : List Value) (hs : a.eval s = v) (hown : w.ownsRow base e size v n xs)
    (D : Nat → Prop) (y : Value) (m : Nat) (news : List Value) (hx : a.eval x = y) (hr : Sl w D size y m news) (h1 : ∀ u ∈ news, u.oneCell' = true)
    (h63 : n + m ≤ maxLen) (hbytes : (n + m) * bytes ≤ 140737488355328) (hbase : base ≤ w.heap.size)
    (h : ∀ v' w', w'.ownsRow base e size v' (n + m) (xs ++ news) → w.grownBy w' v.ownBlock → (v'.ownBlock = v.ownBlock ∨ v'.ownBlock = some w.heap.size) → K (a.put o.dst v') w') : o.wp P a w K Q := by
  obtain ⟨v', w', hrun, h2, h3, h4⟩ := run_append_sl (P := P) w base t o.type e i z size bytes ht hi hz hsize hby hzs hsz v n xs hown D y m news hr h1 h63 hbytes hbase
  unfold Oper.wp execOp
  simp only [ho, resolve, invoke, builtin, Sem.run_bind, Sem.run_pure, Result.andThen_ok, List.map_toArray, List.map_cons, List.map_nil, hs, hx, hrun]
  exact h v' w' h2 h3 h4
theorem wpList_append_sl {P : Program} (w : World) {ops : Array Oper} {rest : List Oper} {o : Oper} {a : Act} {Q : Exit → Act → World → Prop} (hgd : o.guard = none) (s x : Operand) (t : TypeId)
    (ho : o.op = .call { callee := .builtin .append, args := #[s, x], argTypes := #[t, t] })
    (base : Nat) (e : TypeId) (i : TypeInfo) (z : Value) (size bytes : Nat) (ht : P.underlying t = some (.slice e)) (hi : P.info? e = some i) (hz : i.zero = some z)
    (hsize : i.size = size) (hby : i.bytes = bytes) (hzs : z.cells.size = size) (hsz : 0 < size)
    (v : Value) (n : Nat) (xs : List Value) (hs : a.eval s = v) (hown : w.ownsRow base e size v n xs)
    (D : Nat → Prop) (y : Value) (m : Nat) (news : List Value) (hx : a.eval x = y) (hr : Sl w D size y m news) (h1 : ∀ u ∈ news, u.oneCell' = true)
    (h63 : n + m ≤ maxLen) (hbytes : (n + m) * bytes ≤ 140737488355328) (hbase : base ≤ w.heap.size)
    (h : ∀ v' w', w'.ownsRow base e size v' (n + m) (xs ++ news) → w.grownBy w' v.ownBlock → (v'.ownBlock = v.ownBlock ∨ v'.ownBlock = some w.heap.size) → wpList P ops Q rest (a.put o.dst v') w') : wpList P ops Q (o :: rest) a w :=
  wpList_plain hgd fun _ hK => wp_append_sl w s x t ho base e i z size bytes ht hi hz hsize hby hzs hsz v n xs hs hown D y m news hx hr h1 h63 hbytes hbase fun v' w' h2 h3 h4 => hK _ _ (h v' w' h2 h3 h4)

/-- a slice of a new block -/
theorem Sl.new (w : World) (t : TypeId) (l : List Value) (hl : l.length ≤ 1000000000000) : Sl (w.alloc (.cells l.toArray t)) (w.heap.size ≤ ·) 1 (.slice (some ⟨w.heap.size, 0, none⟩) l.length l.length) l.length l :=
  ⟨by simp, _, _, rfl, Nat.le_refl _, by simp [maxLen]; omega, fun _ => ⟨w.heap.size, 0, rfl, Nat.le_refl _, by simp, fun j x hj => by rw [(Box.new w t l.toArray).cell]; simpa using hj⟩⟩
/-- bytes as numbers -/
def u8s (l : List Nat) : List Value := l.map fun x : Nat => Value.int .u8 (x : Int)
theorem u8s_length (l : List Nat) : (u8s l).length = l.length := by simp [u8s]
theorem u8s_at (l : List Nat) (k : Nat) (h : k < l.length) : (u8s l)[k]? = some (.int .u8 (l.getD k 0 : Nat)) := by simp [u8s, List.getElem?_eq_getElem h]
theorem u8s_one (l : List Nat) : ∀ u ∈ u8s l, u.oneCell' = true := by intro u hu; simp [u8s] at hu; obtain ⟨x, _, rfl⟩ := hu; rfl
theorem u8s_append (a b : List Nat) : u8s (a ++ b) = u8s a ++ u8s b := by simp [u8s]
theorem u8s_set (l : List Nat) (k x : Nat) : u8s (l.set k x) = (u8s l).set k (.int .u8 (x : Nat)) := by simp [u8s, List.map_set]
def Bytes (l : List Nat) : Prop := ∀ x ∈ l, x < 256
theorem Sl.byte {w : World} {D : Nat → Prop} {A : Option Addr} {c : Nat} {l : List Nat} (h : Sl w D 1 (.slice A l.length c) l.length (u8s l)) {k : Nat} (hk : k < l.length) :
    ∃ b o, A = some ⟨b, o, none⟩ ∧ D b ∧ b < w.heap.size ∧ ∀ j, j < l.length → w.cell? ⟨b, o + j, none⟩ = some (.int .u8 (l.getD j 0 : Nat)) := by
  obtain ⟨_, A', c', h1, _, _, h2⟩ := h
  obtain ⟨b, o, h3, h4, h6, h5⟩ := h2 (by omega)
  injection h1 with h1
  exact ⟨b, o, h1.trans h3, h4, h6, fun j hj => h5 j _ (u8s_at l j hj)⟩

theorem own_fill8 {w x : World} {base : Nat} {e : TypeId} {g n cap k : Nat} {f : Nat → Nat} (h : w.ownsRow base e 1 (.slice (some ⟨g, 0, none⟩) n cap) n (u8s (fillTo f k n))) (hb : Below w.heap.size w x) :
    (x.setCell ⟨g, k, none⟩ (.int .u8 (f k : Nat))).ownsRow base e 1 (.slice (some ⟨g, 0, none⟩) n cap) n (u8s (fillTo f (k + 1) n)) := by
  have h1 := own_ext h hb
  have h2 := (h1.stored k (.int .u8 (f k : Nat))).1
  rw [← u8s_set, fillTo_set] at h2
  exact h2
theorem own_set8 {w x : World} {base : Nat} {e : TypeId} {g n cap k y : Nat} {l : List Nat} (h : w.ownsRow base e 1 (.slice (some ⟨g, 0, none⟩) n cap) n (u8s l)) (hb : Below w.heap.size w x) :
    (x.setCell ⟨g, k, none⟩ (.int .u8 (y : Nat))).ownsRow base e 1 (.slice (some ⟨g, 0, none⟩) n cap) n (u8s (l.set k y)) := by
  have h2 := ((own_ext h hb).stored k (.int .u8 (y : Nat))).1
  rw [← u8s_set] at h2
  exact h2
theorem madeCells_u8 (n : Nat) : (madeCells #[Value.int .u8 0] n).toList = u8s (List.replicate n 0) := by
  rw [toList_madeCells_one]; simp [u8s]
theorem fillTo_at8 (f : Nat → Nat) (k n j : Nat) (h : j < n) : (u8s (fillTo f k n))[j]? = some (.int .u8 ((fillTo f k n).getD j 0 : Nat)) := u8s_at _ _ (by rw [fillTo_len]; exact h)

/-- the writer in block q holds the bytes bs; R holds of the block of its buffer -/
def IsW (w : World) (R : Nat → Prop) (q : Nat) (bs : List Nat) : Prop := ∃ sv, Box w q 97 #[sv] ∧ w.ownsRow 0 5 1 sv bs.length (u8s bs) ∧ ∀ k, sv.ownBlock = some k → R k
/-- what a call on the writer in block q, its buffer in R, may have turned: that block and the buffer -/
structure WF (R : Nat → Prop) (q : Nat) (w w' : World) : Prop where
  os : w'.os = w.os
  tape : w'.tape = w.tape
  output : w'.output = w.output
  size : w.heap.size ≤ w'.heap.size
  other : ∀ k, k < w.heap.size → k ≠ q → ¬ R k → w'.heap[k]? = w.heap[k]?
  kind : ∀ k cs t fr, k ≠ q → t ≠ 5 → w.heap[k]? = some (.cells cs t fr) → w'.heap[k]? = some (.cells cs t fr)
def Since (R : Nat → Prop) (w : World) : Nat → Prop := fun k => R k ∨ w.heap.size ≤ k
theorem WF.refl (R : Nat → Prop) (q : Nat) (w : World) : WF R q w w := ⟨rfl, rfl, rfl, Nat.le_refl _, fun _ _ _ _ => rfl, fun _ _ _ _ _ _ h => h⟩
theorem WF.trans {R : Nat → Prop} {q : Nat} {a b c : World} (h : WF R q a b) (k : WF (Since R a) q b c) : WF R q a c :=
  ⟨k.os.trans h.os, k.tape.trans h.tape, k.output.trans h.output, Nat.le_trans h.size k.size, fun i hi hq hr => (k.other i (Nat.lt_of_lt_of_le hi h.size) hq (fun e => by rcases e with e | e; exact hr e; omega)).trans (h.other i hi hq hr),
    fun i cs t fr h1 h2 h3 => k.kind i cs t fr h1 h2 (h.kind i cs t fr h1 h2 h3)⟩
theorem WF.imp {R R' : Nat → Prop} {q : Nat} {w w' : World} (h : WF R q w w') (hi : ∀ k, R k → k < w.heap.size → R' k) : WF R' q w w' :=
  ⟨h.os, h.tape, h.output, h.size, fun k hk hq hr => h.other k hk hq (fun e => hr (hi k e hk)), h.kind⟩
theorem WF.of_below {R : Nat → Prop} {q : Nat} {w w' : World} (h : Below w.heap.size w w') : WF R q w w' :=
  ⟨h.os, h.tape, h.output, h.size, fun k hk _ _ => h.block k hk, fun k cs t fr _ _ h3 => (h.block k (Array.getElem?_eq_some_iff.1 h3).1).trans h3⟩
theorem WF.of_grown {R : Nat → Prop} {q base : Nat} {w w' : World} {v : Value} {n : Nat} {xs : List Value} (h : w.ownsRow base 5 1 v n xs) (hR : ∀ k, v.ownBlock = some k → R k) (hg : w.grownBy w' v.ownBlock) : WF R q w w' := by
  refine ⟨hg.os, hg.tape, hg.output, hg.size, fun k hk _ hr => hg.block k hk (fun e => hr (hR k e.symm)), fun k cs t fr _ ht h3 => ?_⟩
  refine (hg.block k (Array.getElem?_eq_some_iff.1 h3).1 fun e => ?_).trans h3
  rcases h.2 with ⟨rfl, _⟩ | ⟨g, cap, cur, rfl, _, hh, _⟩
  · simp [Value.ownBlock] at e
  · have : k = g := by simpa [Value.ownBlock] using e
    subst this
    rw [hh] at h3
    injection h3 with h3
    injection h3 with _ h4
    exact ht h4.symm
theorem WF.set (R : Nat → Prop) (q : Nat) (w : World) (i : Nat) (u : Value) : WF R q w (w.setCell ⟨q, i, none⟩ u) :=
  ⟨rfl, rfl, rfl, by simp, fun k _ hq _ => Below.heap_setCell w _ u k hq, fun k cs t fr hk _ h3 => (Below.heap_setCell w _ u k hk).trans h3⟩
theorem WF.below {R : Nat → Prop} {q B : Nat} {w w' : World} (h : WF R q w w') (hq : B ≤ q) (hR : ∀ k, R k → B ≤ k) (hB : B ≤ w.heap.size) : Below B w w' :=
  ⟨h.os, h.tape, h.output, h.size, fun k hk => h.other k (by omega) (by omega) (fun e => by have := hR k e; omega)⟩
theorem WF.box {R : Nat → Prop} {q : Nat} {w w' : World} (h : WF R q w w') {b : Nat} {t : TypeId} {cs : Array Value} (hb : Box w b t cs) (hne : b ≠ q) (ht : t ≠ 5) : Box w' b t cs := h.kind b cs t (0, 0) hne ht hb
theorem Sl.wf {w w' : World} {R D : Nat → Prop} {q size n : Nat} {v : Value} {xs : List Value} (h : Sl w D size v n xs) (hw : WF R q w w') (hD : ∀ b, D b → b < w.heap.size → b ≠ q ∧ ¬ R b) : Sl w' D size v n xs :=
  h.keep hw.size fun p hp hl => World.cell?_of_block (hw.other p.block hl (hD _ hp hl).1 (hD _ hp hl).2)
theorem IsSet.wf {w w' : World} {R D : Nat → Prop} {q : Nat} {v : Value} {N : Nat} (h : IsSet w D v N) (hw : WF R q w w') (hD : ∀ b, D b → b < w.heap.size → b ≠ q ∧ ¬ R b) : IsSet w' D v N :=
  h.keep hw.size fun p hp hl => World.cell?_of_block (hw.other p.block hl (hD _ hp hl).1 (hD _ hp hl).2)
theorem IsW.lt {w : World} {R : Nat → Prop} {q : Nat} {bs : List Nat} (h : IsW w R q bs) : q < w.heap.size := by obtain ⟨sv, h2, _⟩ := h; exact h2.lt
theorem IsW.imp {w : World} {R R' : Nat → Prop} {q : Nat} {bs : List Nat} (h : IsW w R q bs) (hi : ∀ k, R k → k < w.heap.size → R' k) : IsW w R' q bs := by
  obtain ⟨sv, h1, h2, h3⟩ := h
  exact ⟨sv, h1, h2, fun k hk => hi k (h3 k hk) (h2.lt k hk).2⟩
theorem IsW.ext {w w' : World} {R : Nat → Prop} {q : Nat} {bs : List Nat} (h : IsW w R q bs) (hb : Below w.heap.size w w') : IsW w' R q bs := by
  obtain ⟨sv, h1, h2, h3⟩ := h
  exact ⟨sv, h1.ext hb, own_ext h2 hb, h3⟩
theorem IsW.alloc {w : World} {R : Nat → Prop} {q : Nat} {bs : List Nat} (h : IsW w R q bs) (o : Obj) : IsW (w.alloc o) R q bs := h.ext ((Below.refl _ _).alloc (Nat.le_refl _) o)
theorem IsW.other {w : World} {R : Nat → Prop} {q : Nat} {bs : List Nat} (h : IsW w R q bs) {b : Nat} {t : TypeId} {cs : Array Value} (hb : Box w b t cs) (hne : b ≠ q) (ht : t ≠ 5) (i : Nat) (u : Value) : IsW (w.setCell ⟨b, i, none⟩ u) R q bs := by
  obtain ⟨sv, h2, h3, h4⟩ := h
  exact ⟨sv, h2.far (Ne.symm hne) u, own_far h3 hb (Ne.symm ht) i u, h4⟩
theorem since_since {R : Nat → Prop} {a b : World} (h : a.heap.size ≤ b.heap.size) : ∀ k, Since (Since R a) b k → Since R a k := by
  intro k hk
  rcases hk with hk | hk
  · exact hk
  · exact .inr (by omega)
end Go.Proofs.YtenpkgdnlogfiaaGreatDoor
