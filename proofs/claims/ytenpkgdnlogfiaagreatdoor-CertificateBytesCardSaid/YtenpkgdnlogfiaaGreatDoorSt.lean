/-
  What is known of memory, in one sentence: blocks of the call's own, each known whole, and whatever else only reads: a law at each operation that hands the sentence on.
-/
import Derived.Test.YtenpkgdnlogfiaaGreatDoorAcc
namespace Go.Proofs.YtenpkgdnlogfiaaGreatDoor
open Go.RowKit

/-- what is known of one block of the call's own -/
inductive Fact where
  | box (g : Nat) (t : TypeId) (cs : Array Value)
  | own (v : Value) (e : TypeId) (size n : Nat) (xs : List Value)
  | obj (g : Nat) (o : Obj)
def Fact.blk : Fact → Option Nat
  | .box g _ _ => some g
  | .own v _ _ _ _ => v.ownBlock
  | .obj g _ => some g
def Fact.holds (base : Nat) (w : World) : Fact → Prop
  | .box g t cs => base ≤ g ∧ Box w g t cs
  | .own v e size n xs => w.ownsRow base e size v n xs
  | .obj g o => base ≤ g ∧ w.heap[g]? = some o
/-- a block of which none of the facts speaks -/
def Free (F : List Fact) (b : Nat) : Prop := ∀ f ∈ F, f.blk ≠ some b
/-- what only reads: it stays as long as the cells that it reads stay -/
def Stable (K : (Nat → Prop) → World → Prop) : Prop := ∀ D D' w w', K D w → w.heap.size ≤ w'.heap.size → (∀ (p : Addr) (x : Value), D p.block → p.block < w.heap.size → w.cell? p = some x → w'.cell? p = some x) → (∀ b, D b → b < w.heap.size → (∃ cs t fr, w.heap[b]? = some (.cells cs t fr)) → D' b) → K D' w'
theorem cell_is {w : World} {p : Addr} {x : Value} (h : w.cell? p = some x) : ∃ cs t fr, w.heap[p.block]? = some (.cells cs t fr) := by
  cases hh : w.heap[p.block]? with
  | none => simp [World.cell?, hh] at h
  | some o =>
    cases o with
    | cells cs t fr => exact ⟨cs, t, fr, rfl⟩
    | _ => simp [World.cell?, hh] at h
structure St (w0 w : World) (F : List Fact) (K : (Nat → Prop) → World → Prop) : Prop where
  below : Below w0.heap.size w0 w
  holds : ∀ f ∈ F, f.holds w0.heap.size w
  apart : F.Pairwise fun f g => ∀ k, f.blk = some k → g.blk ≠ some k
  stable : Stable K
  ro : K (Free F) w

section
variable {w0 w w' : World} {F : List Fact} {K K' r : (Nat → Prop) → World → Prop} {base : Nat} {f : Fact}
theorem Fact.lt (h : f.holds base w) {k : Nat} (hk : f.blk = some k) : k < w.heap.size := by
  cases f with
  | box g t cs => injection hk with hk; subst hk; exact h.2.lt
  | own v e size n xs => exact own_lt h k hk
  | obj g o => injection hk with hk; subst hk; exact (Array.getElem?_eq_some_iff.1 h.2).1
theorem Fact.ge (h : f.holds base w) {k : Nat} (hk : f.blk = some k) : base ≤ k := by
  cases f with
  | box g t cs => injection hk with hk; subst hk; exact h.1
  | own v e size n xs => exact own_ge h k hk
  | obj g o => injection hk with hk; subst hk; exact h.1
theorem Fact.kept {row : Option Nat} (h : f.holds base w) (hg : w.grownBy w' row) (hne : ∀ k, f.blk = some k → row ≠ some k) : f.holds base w' := by
  cases f with
  | box g t cs => exact ⟨h.1, h.2.grown hg fun e => hne g rfl e.symm⟩
  | own v e size n xs =>
    refine World.ownsRow.kept h hg ?_
    cases hb : v.ownBlock with
    | none => exact .inl rfl
    | some k => exact .inr fun e => hne k hb e.symm
  | obj g o => exact ⟨h.1, (hg.block g (Array.getElem?_eq_some_iff.1 h.2).1 fun e => hne g rfl e.symm).trans h.2⟩
theorem Fact.down {base' : Nat} (h : f.holds base w) (hb : base' ≤ base) : f.holds base' w := by
  cases f with
  | box g t cs => exact ⟨Nat.le_trans hb h.1, h.2⟩
  | own v e size n xs =>
    refine ⟨h.1, ?_⟩
    rcases h.2 with h | ⟨g, cap, cur, h1, h2, h3⟩
    · exact .inl h
    · exact .inr ⟨g, cap, cur, h1, Nat.le_trans hb h2, h3⟩
  | obj g o => exact ⟨Nat.le_trans hb h.1, h.2⟩
theorem Stable.and (h : Stable K) (k : Stable r) : Stable fun D w => K D w ∧ r D w := fun _ _ _ _ hh a b c => ⟨h _ _ _ _ hh.1 a b c, k _ _ _ _ hh.2 a b c⟩
theorem Stable.pure (p : Prop) : Stable fun _ _ => p := fun _ _ _ _ h _ _ _ => h
theorem Stable.any {α : Sort _} {r : α → (Nat → Prop) → World → Prop} (h : ∀ x, Stable (r x)) : Stable fun D w => ∃ x, r x D w := fun _ _ _ _ ⟨x, hh⟩ a b c => ⟨x, h x _ _ _ _ hh a b c⟩
theorem stable_sl {size n : Nat} {v : Value} {xs : List Value} (hs : 0 < size := by decide) : Stable fun D w => Sl w D size v n xs := fun D D' w w' h a b c => by
  obtain ⟨h1, A, cap, h2, h3, h4, h5⟩ := h
  refine ⟨h1, A, cap, h2, h3, h4, fun hn => ?_⟩
  obtain ⟨k, o, h6, h7, h9, h8⟩ := h5 hn
  have hj : xs[0]? = some (xs[0]'(by rw [h1]; exact Nat.mul_pos hn hs)) := List.getElem?_eq_getElem _
  exact ⟨k, o, h6, c k h7 h9 (cell_is (h8 0 _ hj)), Nat.lt_of_lt_of_le h9 a, fun j x hj => b _ _ h7 h9 (h8 j x hj)⟩
theorem stable_set {v : Value} {N : Nat} : Stable fun D w => IsSet w D v N := fun D D' w w' h a b c => by
  obtain ⟨u, l, h1, h2, h3, h4⟩ := h
  exact ⟨u, l, h1, h2, h3, stable_sl (by decide) D D' w w' h4 a b c⟩
theorem stable_cubes {v : Value} {l : List (Nat × Nat)} : Stable fun D w => IsCubes w D v l := fun D D' w w' h a b c => by
  obtain ⟨xs, h1, h2⟩ := h
  refine ⟨xs, stable_sl (by decide) D D' w w' h1 a b c, fun i y n hi => ?_⟩
  obtain ⟨u, v, h3, h4, h5, h6⟩ := h2 i y n hi
  exact ⟨u, v, h3, h4, stable_set D D' w w' h5 a b c, stable_set D D' w w' h6 a b c⟩
theorem stable_cert {v : Value} {c : CertD} : Stable fun D w => IsCert w D v c := fun D D' w w' h a b c => by
  obtain ⟨cs, pv, qv, h1, h2, h3, h4, h5, h6, h7, h8, h9, h10⟩ := h
  exact ⟨cs, pv, qv, h1, h2, h3, h4, h5, h6, h7, h8, stable_sl (by decide) D D' w w' h9 a b c, stable_cubes D D' w w' h10 a b c⟩
/-- one cell that only reads -/
theorem stable_cell {p : Addr} {x : Value} : Stable fun D w => w.cell? p = some x ∧ D p.block ∧ p.block < w.heap.size := fun _ _ _ _ h a b c => ⟨b p x h.2.1 h.2.2 h.1, c _ h.2.1 h.2.2 (cell_is h.1), Nat.lt_of_lt_of_le h.2.2 a⟩

theorem St.start (hs : Stable K) {D : Nat → Prop} (h : K D w) : St w w [] K := ⟨Below.refl _ _, fun _ h => by simp at h, .nil, hs, hs _ _ _ _ h (Nat.le_refl _) (fun _ _ _ _ h => h) fun _ _ _ _ f hf => by simp at hf⟩
theorem St.start0 : St w w [] fun _ _ => True := .start (D := fun _ => True) (Stable.pure True) trivial
theorem St.size (h : St w0 w F K) : w0.heap.size ≤ w.heap.size := h.below.size
theorem St.lt (h : St w0 w F K) {f : Fact} (hf : f ∈ F) {k : Nat} (hk : f.blk = some k) : k < w.heap.size := Fact.lt (h.holds f hf) hk
/-- memory that was made since is new -/
theorem St.fresh (h : St w0 w F K) {b : Nat} (hb : w.heap.size ≤ b) : Free F b := fun _ hf e => by have := h.lt hf e; omega
theorem St.ext (h : St w0 w F K) (hb : Below w.heap.size w w') : St w0 w' F K :=
  ⟨bel_tr h.below hb, fun f hf => Fact.kept (row := none) (h.holds f hf) (below_grown hb none) (by simp), h.apart, h.stable, h.stable _ _ _ _ h.ro hb.size (fun _ _ _ hp hc => (hb.cell hp).trans hc) fun _ h _ _ => h⟩
theorem St.drew (h : St w0 w F K) : St w0 w.drew F K := h.ext ⟨rfl, rfl, rfl, Nat.le_refl _, fun _ _ => rfl⟩
/-- a new fact about a new block -/
theorem St.new (h : St w0 w F K) (hb : Below w.heap.size w w') (f : Fact) (hf : f.holds w.heap.size w') : St w0 w' (f :: F) K := by
  have h' := h.ext hb
  refine ⟨h'.below, fun g hg => ?_, ?_, h.stable, h.stable _ _ _ _ h.ro hb.size (fun _ _ _ hp hc => (hb.cell hp).trans hc) fun b h1 h2 _ g hg => ?_⟩
  · rcases List.mem_cons.1 hg with rfl | hg
    · exact Fact.down hf h.size
    · exact h'.holds g hg
  · refine List.pairwise_cons.2 ⟨fun g hg k hk e => ?_, h.apart⟩
    have h1 := Fact.ge hf hk
    have h2 := h.lt hg e
    omega
  · rcases List.mem_cons.1 hg with rfl | hg
    · intro e; have := Fact.ge hf e; omega
    · exact h1 g hg
/-- one block is written to -/
theorem St.upd (h : St w0 w F K) (i : Nat) {f : Fact} (hi : F[i]? = some f) (f' : Fact) (hg : w.grownBy w' f.blk) (hf' : f'.holds w0.heap.size w') (hb : ∀ k, f'.blk = some k → f.blk = some k ∨ w.heap.size ≤ k) : St w0 w' (F.set i f') K := by
  have hlt := (List.getElem?_eq_some_iff.1 hi).1
  have hfF : f ∈ F := List.mem_of_getElem? hi
  have hap : ∀ j g, F[j]? = some g → j ≠ i → ∀ k, f.blk = some k → g.blk ≠ some k := by
    intro j g hj hne k hk e
    have hjl := (List.getElem?_eq_some_iff.1 hj).1
    have := List.pairwise_iff_getElem.1 h.apart
    have e1 : F[j] = g := (List.getElem?_eq_some_iff.1 hj).2
    have e2 : F[i] = f := (List.getElem?_eq_some_iff.1 hi).2
    rcases Nat.lt_or_ge j i with hh | hh
    · have := this j i hjl hlt hh k (by rw [e1]; exact e)
      rw [e2] at this; exact this hk
    · have := this i j hlt hjl (by omega) k (by rw [e2]; exact hk)
      rw [e1] at this; exact this e
  refine ⟨⟨hg.os.trans h.below.os, hg.tape.trans h.below.tape, hg.output.trans h.below.output, Nat.le_trans h.size hg.size, fun k hk => ?_⟩, fun g hgm => ?_, ?_, h.stable, h.stable _ _ _ _ h.ro hg.size (fun p x hp hl hc => ?_) fun b h1 h2 _ g hgm => ?_⟩
  · refine (hg.block k (by have := h.size; omega) fun e => ?_).trans (h.below.block k hk)
    have := Fact.ge (h.holds f hfF) e.symm; omega
  · obtain ⟨j, hj⟩ := List.mem_iff_getElem?.1 hgm
    rw [List.getElem?_set] at hj
    by_cases hji : i = j
    · subst hji; simp [hlt] at hj; subst hj; exact hf'
    · simp [hji] at hj
      refine Fact.kept (h.holds g (List.mem_of_getElem? hj)) hg fun k hk e => ?_
      exact hap j g hj (Ne.symm hji) k e hk
  · rw [List.pairwise_iff_getElem]
    intro a b ha hb' hab k hk
    have ha' : a < F.length := by simpa using ha
    have hb'' : b < F.length := by simpa using hb'
    rw [List.getElem_set] at hk
    rw [List.getElem_set]
    by_cases h1 : i = a
    · subst h1
      rw [if_pos rfl] at hk
      rw [if_neg (by omega)]
      rcases hb k hk with hk | hk
      · exact hap b _ (List.getElem?_eq_getElem hb'') (by omega) k hk
      · intro e; have := h.lt (List.getElem_mem hb'') e; omega
    · rw [if_neg h1] at hk
      by_cases h2 : i = b
      · subst h2
        rw [if_pos rfl]
        intro e
        rcases hb k e with e | e
        · exact hap a _ (List.getElem?_eq_getElem ha') (by omega) k e hk
        · have := h.lt (List.getElem_mem ha') hk; omega
      · rw [if_neg h2]
        exact List.pairwise_iff_getElem.1 h.apart a b ha' hb'' hab k hk
  · exact (World.cell?_of_block (hg.block p.block hl fun e => hp f hfF e.symm)).trans hc
  · obtain ⟨j, hj⟩ := List.mem_iff_getElem?.1 hgm
    rw [List.getElem?_set] at hj
    by_cases hji : i = j
    · subst hji; simp [hlt] at hj; subst hj
      intro e
      rcases hb b e with e | e
      · exact h1 f hfF e
      · omega
    · simp [hji] at hj
      exact h1 g (List.mem_of_getElem? hj)
/-- more that only reads -/
theorem St.add (h : St w0 w F K) (hr : Stable r) {D : Nat → Prop} (hh : r D w) (hD : ∀ b, D b → b < w.heap.size → Free F b) : St w0 w F fun D w => K D w ∧ r D w :=
  ⟨h.below, h.holds, h.apart, h.stable.and hr, h.ro, hr _ _ _ _ hh (Nat.le_refl _) (fun _ _ _ _ h => h) fun b h1 h2 _ => hD b h1 h2⟩
/-- what a call has handed back, in memory that it made -/
theorem St.ret (h : St w0 w F K) (hb : Below w.heap.size w w') (hr : Stable r) (hh : r (w.heap.size ≤ ·) w') : St w0 w' F fun D w => K D w ∧ r D w := (h.ext hb).add hr hh fun _ h1 _ => h.fresh h1
theorem St.mono (h : St w0 w F K) (hs : Stable K') (hk : ∀ D w, K D w → K' D w) : St w0 w F K' := ⟨h.below, h.holds, h.apart, hs, hk _ _ h.ro⟩
/-- fewer facts -/
theorem St.sub {F' : List Fact} (h : St w0 w F K) (hs : F'.Sublist F) : St w0 w F' K :=
  ⟨h.below, fun f hf => h.holds f (hs.subset hf), h.apart.sublist hs, h.stable, h.stable _ _ _ _ h.ro (Nat.le_refl _) (fun _ _ _ _ h => h) fun _ h1 _ _ f hf => h1 f (hs.subset hf)⟩
/-- a row that is no more written to only reads -/
theorem St.freeze (h : St w0 w F K) (i : Nat) {v : Value} {e : TypeId} {size n : Nat} {xs : List Value} (hsz : 0 < size) (hi : F[i]? = some (.own v e size n xs)) : St w0 w (F.eraseIdx i) fun D w => K D w ∧ Sl w D size v n xs := by
  have hlt := (List.getElem?_eq_some_iff.1 hi).1
  have hfF : Fact.own v e size n xs ∈ F := List.mem_of_getElem? hi
  have ho : w.ownsRow w0.heap.size e size v n xs := h.holds _ hfF
  have hsl : Sl w (fun b => v.ownBlock = some b) size v n xs := by
    refine ⟨ho.1, ?_⟩
    obtain ⟨_, A, c, h1, h2, h3, h4⟩ := Sl.of_own ho
    refine ⟨A, c, h1, h2, h3, fun hn => ?_⟩
    obtain ⟨b, o, h5, h6, h7, h8⟩ := h4 hn
    refine ⟨b, o, h5, ?_, h7, h8⟩
    rcases ho.2 with ⟨rfl, rfl⟩ | ⟨g, cap, cur, rfl, _⟩
    · omega
    · injection h1 with h1; subst h5; simp [Value.ownBlock, h1]; simp at h1; exact h1.1
  refine (h.sub (List.eraseIdx_sublist _ _)).add (stable_sl hsz) hsl fun b hb _ g hg e => ?_
  obtain ⟨j, hj⟩ := List.mem_iff_getElem?.1 hg
  rw [List.getElem?_eraseIdx] at hj
  have e1 : F[i] = Fact.own v _ size n xs := (List.getElem?_eq_some_iff.1 hi).2
  split at hj
  · have := List.pairwise_iff_getElem.1 h.apart j i (by omega) hlt (by omega) b (by rw [(List.getElem?_eq_some_iff.1 hj).2]; exact e)
    rw [e1] at this; exact this hb
  · have hjl := (List.getElem?_eq_some_iff.1 hj).1
    have := List.pairwise_iff_getElem.1 h.apart i (j + 1) hlt hjl (by omega) b (by rw [e1]; exact hb)
    rw [(List.getElem?_eq_some_iff.1 hj).2] at this; exact this e
theorem St.box (h : St w0 w F K) (i : Nat) {g : Nat} {t : TypeId} {cs : Array Value} (hi : F[i]? = some (.box g t cs)) : Box w g t cs := (h.holds _ (List.mem_of_getElem? hi)).2
theorem St.own (h : St w0 w F K) (i : Nat) {v : Value} {e : TypeId} {size n : Nat} {xs : List Value} (hi : F[i]? = some (.own v e size n xs)) : w.ownsRow w0.heap.size e size v n xs := h.holds _ (List.mem_of_getElem? hi)
/-- a box that is no more written to: its cells only read -/
theorem St.shut (h : St w0 w F K) (i : Nat) {g : Nat} {t : TypeId} {cs : Array Value} (hi : F[i]? = some (.box g t cs)) (j : Nat) {x : Value} (hx : cs[j]? = some x) : w.cell? ⟨g, j, none⟩ = some x := ((h.box i hi).cell j).trans hx
theorem upd_gb {g : Nat} (h : Upd g w w') : w.grownBy w' (some g) := ⟨h.os, h.tape, h.output, Nat.le_of_eq h.size.symm, fun k _ hk => h.other k fun e => hk (by rw [e])⟩

variable {P : Program} {ops : Array Oper} {rest : List Oper} {o o1 o2 : Oper} {a : Act} {Q : Exit → Act → World → Prop}
theorem st_alloc (h : St w0 w F K) (hg : o.guard = none) (t : TypeId) (ho : o.op = .alloc t) (hz : ((P.info? t).bind (·.zero)).isSome = true)
    (hk : ∀ g w', St w0 w' (.box g t (zeroCells P t) :: F) K → wpList P ops Q rest (a.put o.dst (.pointer (some ⟨g, 0, none⟩))) w') : wpList P ops Q (o :: rest) a w :=
  wpList_alloc_op hg t ho hz fun w' hX hb => hk _ w' (h.new hb _ ⟨Nat.le_refl _, hX⟩)
theorem st_allocz (h : St w0 w F K) (hg : o.guard = none) (t : TypeId) (ho : o.op = .alloc t) (hz : ((P.info? t).bind (·.zero)).isSome = true) (zs : Array Value) (hzs : zeroCells P t = zs)
    (hk : ∀ g w', St w0 w' (.box g t zs :: F) K → wpList P ops Q rest (a.put o.dst (.pointer (some ⟨g, 0, none⟩))) w') : wpList P ops Q (o :: rest) a w :=
  st_alloc h hg t ho hz fun g w' h => hk g w' (hzs ▸ h)
theorem st_box (h : St w0 w F K) (hg : o.guard = none) (t : TypeId) (x : Operand) (ho : o.op = .box t x) (vx : Value) (cells : Array Value) (hx : a.eval x = vx) (hc : vx.cells = cells)
    (hk : ∀ g w', St w0 w' (.box g t cells :: F) K → wpList P ops Q rest (a.put o.dst (.pointer (some ⟨g, 0, none⟩))) w') : wpList P ops Q (o :: rest) a w :=
  wpList_box_op hg t x ho vx cells hx hc fun w' hX hb => hk _ w' (h.new hb _ ⟨Nat.le_refl _, hX⟩)
theorem st_lit (h : St w0 w F K) (hg : o.guard = none) (t e : TypeId) (len : Nat) (parts : Array (Nat × Operand)) (ho : o.op = .buildSlice t len parts) (ht : P.underlying t = some (.slice e)) (cells : Array Value)
    (hb : builtSlice P e len (parts.map fun (i, x) => (i, a.eval x)).toList = some cells)
    (hk : ∀ g w', St w0 w' (.box g e cells :: F) K → wpList P ops Q rest (a.put o.dst (.slice (some ⟨g, 0, none⟩) len len)) w') : wpList P ops Q (o :: rest) a w :=
  wpList_buildSlice_op hg t e len parts ho ht cells hb fun w' hX hb => hk _ w' (h.new hb _ ⟨Nat.le_refl _, hX⟩)
theorem st_store (h : St w0 w F K) (i : Nat) (hg : o.guard = none) (ty : TypeId) (x y : Operand) (ho : o.op = .store ty x y)
    (g : Nat) (cells : Array Value) (hx : a.eval x = .pointer (some ⟨g, 0, none⟩)) (hy : a.eval y = .agg cells) (t : TypeId) (old : Array Value) (hb : F[i]? = some (.box g t old)) (hi : (P.info? ty).map (·.size) = some cells.size)
    (hold : old.size = cells.size) (h1 : cells.all (·.oneCell') = true)
    (hk : ∀ w', St w0 w' (F.set i (.box g t cells)) K → wpList P ops Q rest (a.put o.dst undef) w') : wpList P ops Q (o :: rest) a w :=
  wpList_store_op hg ty x y ho g cells hx hy t old (h.box i hb) hi hold h1 fun w' hX hU => hk w' (h.upd i hb _ (upd_gb hU) ⟨(h.holds _ (List.mem_of_getElem? hb)).1, hX⟩ fun _ e => .inl e)
theorem st_cstore (h : St w0 w F K) (i : Nat) (hg : o.guard = none) (ty : TypeId) (x y : Operand) (ho : o.op = .store ty x y) (g j : Nat) (v : Value) (hx : a.eval x = .pointer (some ⟨g, j, none⟩)) (hy : a.eval y = v) {t : TypeId} {cs : Array Value} (hb : F[i]? = some (.box g t cs)) (hi : j < cs.size)
    (hv : v.cells = #[v]) (h1 : v.oneCell' = true) (hs : (P.info? ty).map (·.size) = some 1) (hk : ∀ w', St w0 w' (F.set i (.box g t (cs.setIfInBounds j v))) K → wpList P ops Q rest (a.put o.dst undef) w') : wpList P ops Q (o :: rest) a w :=
  wpList_cstore_op hg ty x y ho g j v hx hy (h.box i hb) hi hv h1 hs fun w' hX hU => hk w' (h.upd i hb _ (upd_gb hU) ⟨(h.holds _ (List.mem_of_getElem? hb)).1, hX⟩ fun _ e => .inl e)
theorem st_ostore (h : St w0 w F K) (i : Nat) (hg : o.guard = none) (ty : TypeId) (x y : Operand) (ho : o.op = .store ty x y) (g j : Nat) (v : Value) (hx : a.eval x = .pointer (some ⟨g, j, none⟩)) (hy : a.eval y = v) {n cap size : Nat} {e : TypeId} {xs : List Value} (hb : F[i]? = some (.own (.slice (some ⟨g, 0, none⟩) n cap) e size n xs)) (hi : j < n * size)
    (hv : v.cells = #[v]) (h1 : v.oneCell' = true) (hs : (P.info? ty).map (·.size) = some 1) (hk : ∀ w', St w0 w' (F.set i (.own (.slice (some ⟨g, 0, none⟩) n cap) e size n (xs.set j v))) K → wpList P ops Q rest (a.put o.dst undef) w') : wpList P ops Q (o :: rest) a w :=
  wpList_ostore_op hg ty x y ho g j v hx hy (h.own i hb) hi hv h1 hs fun w' hX hU => hk w' (h.upd i hb _ (by simpa [Fact.blk, Value.ownBlock] using upd_gb hU) hX fun _ e => .inl e)
theorem st_load (h : St w0 w F K) (i : Nat) (hg : o.guard = none) (ty : TypeId) (x : Operand) (ho : o.op = .load ty x) (g : Nat) (hx : a.eval x = .pointer (some ⟨g, 0, none⟩)) (t : TypeId) (cs : Array Value) (hb : F[i]? = some (.box g t cs))
    (d : TypeDesc) (hu : P.underlying ty = some d) (hd : (match d with | .struct _ | .array _ _ => true | _ => false) = true) (hi : (P.info? ty).map (·.size) = some cs.size)
    (hk : wpList P ops Q rest (a.put o.dst (.agg cs)) w) : wpList P ops Q (o :: rest) a w :=
  wpList_load_op hg ty x ho g hx t cs (h.box i hb) d hu hd hi hk
theorem st_app (h : St w0 w F K) (i : Nat) (hg : o.guard = none) (s x : Operand) (t : TypeId) (ho : o.op = .call { callee := .builtin .append, args := #[s, x], argTypes := #[t, t] }) {e : TypeId} {size bytes : Nat} (hT : SliceTy P t e size bytes)
    (v : Value) (n : Nat) (xs : List Value) (hs : a.eval s = v) (hb : F[i]? = some (.own v e size n xs)) (D : Nat → Prop) (y : Value) (m : Nat) (news : List Value) (hx : a.eval x = y) (hr : Sl w D size y m news)
    (h1 : ∀ u ∈ news, u.oneCell' = true) (hm : n + m ≤ maxLen) (hbytes : (n + m) * bytes ≤ 140737488355328)
    (hk : ∀ v' w', St w0 w' (F.set i (.own v' e size (n + m) (xs ++ news))) K → wpList P ops Q rest (a.put o.dst v') w') : wpList P ops Q (o :: rest) a w :=
  wpList_app_op hg s x t ho hT w0.heap.size v n xs hs (h.own i hb) D y m news hx hr h1 hm hbytes h.size fun v' w' h1 h2 h3 => hk v' w' (h.upd i hb _ h2 h1 h3)
theorem st_push (h : St w0 w F K) (i : Nat) (hg1 : o1.guard = none) (hg2 : o2.guard = none) (s x y : Operand) (t : TypeId) (ho1 : o1.op = .buildSlice t 1 #[(0, x)]) (ho2 : o2.op = .call { callee := .builtin .append, args := #[s, y], argTypes := #[t, t] })
    {e : TypeId} {size bytes : Nat} (hT : SliceTy P t e size bytes) (v : Value) (n : Nat) (xs : List Value) (vx : Value) (cells : Array Value) (hx : a.eval x = vx) (hc : builtSlice P e 1 [(0, vx)] = some cells) (hcs : cells.size = size)
    (hs : (a.put o1.dst (.slice (some ⟨w.heap.size, 0, none⟩) 1 1)).eval s = v) (hy : (a.put o1.dst (.slice (some ⟨w.heap.size, 0, none⟩) 1 1)).eval y = .slice (some ⟨w.heap.size, 0, none⟩) 1 1) (hb : F[i]? = some (.own v e size n xs))
    (h1 : ∀ u ∈ cells.toList, u.oneCell' = true) (hm : n + 1 ≤ 1000000000000) (hbytes : (n + 1) * bytes ≤ 140737488355328)
    (hk : ∀ z v' w', St w0 w' (F.set i (.own v' e size (n + 1) (xs ++ cells.toList))) K → wpList P ops Q rest ((a.put o1.dst z).put o2.dst v') w') : wpList P ops Q (o1 :: o2 :: rest) a w :=
  wpList_push_op hg1 hg2 s x y t ho1 ho2 hT w0.heap.size v n xs vx cells hx hc hcs hs hy (h.own i hb) h1 hm hbytes h.size fun v' w' h1 h2 h3 => hk _ v' w' (h.upd i hb _ h2 h1 h3)
theorem st_mkcap (h : St w0 w F K) (hg : o.guard = none) (t : TypeId) (l c : Operand) (ho : o.op = .makeSlice t l c) {e : TypeId} {size bytes : Nat} (hT : SliceTy P t e size bytes) (kl kc : IntKind) (n : Nat)
    (hl : a.eval l = .int kl 0) (hcap : a.eval c = .int kc n) (hb : bytes * n ≤ 281474976710656) (h63 : n ≤ 1000000000000)
    (hk : ∀ g w', St w0 w' (.own (.slice (some ⟨g, 0, none⟩) 0 n) e size 0 [] :: F) K → wpList P ops Q rest (a.put o.dst (.slice (some ⟨g, 0, none⟩) 0 n)) w') : wpList P ops Q (o :: rest) a w :=
  wpList_mkcap_op hg t l c ho hT kl kc n hl hcap hb h63 fun w' h1 h2 => hk _ w' (h.new h2 _ h1)
theorem st_mk (h : St w0 w F K) (hg : o.guard = none) (t : TypeId) (l c : Operand) (ho : o.op = .makeSlice t l c) {e : TypeId} {size bytes : Nat} (hT : SliceTy P t e size bytes) (kl kc : IntKind) (n : Nat) (zs : Array Value)
    (hl : a.eval l = .int kl n) (hcap : a.eval c = .int kc n) (hz : zeroCells P e = zs) (hb : bytes * n ≤ 281474976710656) (h63 : n ≤ 1000000000000)
    (hk : ∀ g w', St w0 w' (.own (.slice (some ⟨g, 0, none⟩) n n) e size n (madeCells zs (n * size)).toList :: F) K → wpList P ops Q rest (a.put o.dst (.slice (some ⟨g, 0, none⟩) n n)) w') : wpList P ops Q (o :: rest) a w :=
  wpList_mk_op hg t l c ho hT kl kc n zs hl hcap hz hb h63 fun w' h1 h2 => hk _ w' (h.new h2 _ h1)
/-- 'var out []T': a row of the call's own, still nil -/
theorem St.nil (h : St w0 w F K) (e : TypeId) (size : Nat) : St w0 w (.own (.slice none 0 0) e size 0 [] :: F) K :=
  ⟨h.below, fun f hf => by
    rcases List.mem_cons.1 hf with rfl | hf
    · exact World.ownsRow_nil _ _ _ _
    · exact h.holds f hf, List.pairwise_cons.2 ⟨fun g _ k hk => by simp [Fact.blk, Value.ownBlock] at hk, h.apart⟩, h.stable, h.stable _ _ _ _ h.ro (Nat.le_refl _) (fun _ _ _ _ h => h) fun b h1 _ _ f hf => by
    rcases List.mem_cons.1 hf with rfl | hf
    · simp [Fact.blk, Value.ownBlock]
    · exact h1 f hf⟩
end
end Go.Proofs.YtenpkgdnlogfiaaGreatDoor
