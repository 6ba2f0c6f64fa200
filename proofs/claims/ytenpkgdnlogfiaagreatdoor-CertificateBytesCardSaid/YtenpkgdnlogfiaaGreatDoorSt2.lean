/-
  More laws at the operations over what is known of memory: a cell is read, an element of a slice is addressed, a length.
-/
import Derived.Test.YtenpkgdnlogfiaaGreatDoorSt
import Derived.Test.YtenpkgdnlogfiaaGreatDoorTyp
namespace Go.Proofs.YtenpkgdnlogfiaaGreatDoor
open Go.RowKit

section
variable {w0 w w' : World} {F : List Fact} {K K' r : (Nat → Prop) → World → Prop}
variable {P : Program} {ops : Array Oper} {rest : List Oper} {o o1 o2 : Oper} {a : Act} {Q : Exit → Act → World → Prop}
theorem st_cell (h : St w0 w F K) (i : Nat) (hg : Region.wanted o (yielded ops a.tmps) = true) (ty : TypeId) (x : Operand) (ho : o.op = .load ty x) (g j : Nat) (hx : a.eval x = .pointer (some ⟨g, j, none⟩)) (t : TypeId) (cs : Array Value) (hb : F[i]? = some (.box g t cs))
    (hu : cellTy P ty = true) (v : Value) (hv : cs[j]? = some v) (hk : wpList P ops Q rest (a.put o.dst v) w) : wpList P ops Q (o :: rest) a w :=
  BigFrame.wpList_want hg fun _ hK => opw_cell ho hx hu (h.shut i hb j hv) (hK _ _ hk)
theorem st_kcell (h : St w0 w F K) (hg : Region.wanted o (yielded ops a.tmps) = true) (ty : TypeId) (x : Operand) (ho : o.op = .load ty x) (p : Addr) (hx : a.eval x = .pointer (some p)) (v : Value) (hv : ∀ D w, K D w → w.cell? p = some v)
    (hu : cellTy P ty = true) (hk : wpList P ops Q rest (a.put o.dst v) w) : wpList P ops Q (o :: rest) a w :=
  BigFrame.wpList_want hg fun _ hK => opw_cell ho hx hu (hv _ _ h.ro) (hK _ _ hk)
theorem run_iaddr_sl {D : Nat → Prop} {T e : TypeId} {size n k : Nat} {v : Value} {xs : List Value} {kk : IntKind} (hv : Sl w D size v n xs) (hT : P.underlying T = some (.slice e)) (hsz : (P.info? e).map (·.size) = some size) (hk : k < n) :
    ∃ b o, (Instr.indexAt T v (.int kk (k : Nat))).run P w = .ok (.pointer (some ⟨b, o, none⟩)) w ∧ D b ∧ b < w.heap.size ∧ ∀ j x, xs[k * size + j]? = some x → w.cell? ⟨b, o + j, none⟩ = some x := by
  obtain ⟨hl, A, c, rfl, _, _, hc⟩ := hv
  obtain ⟨b, o, rfl, h1, h2, h3⟩ := hc (by omega)
  cases hi : P.info? e with
  | none => simp [hi] at hsz
  | some inf =>
    have hs : inf.size = size := by simpa [hi] using hsz
    refine ⟨b, o + k * size, ?_, h1, h2, fun j x hj => by have := h3 _ _ hj; rw [← Nat.add_assoc] at this; exact this⟩
    have : ((k : Nat) : Int) < (n : Int) := by omega
    simp [Instr.indexAt, run_underlying hT, this, sizeOf, typeInfo, hi, hs, asIntOf, asInt, Addr.add_lit]
    omega
/-- the address of an element of a slice that only reads -/
theorem st_iaddr (hg : Region.wanted o (yielded ops a.tmps) = true) (T : TypeId) (s i : Operand) (ho : o.op = .indexAddr T s i) {e : TypeId} {size n k : Nat} {xs : List Value} {kk : IntKind} {D : Nat → Prop} (v : Value) (hs : a.eval s = v) (hi : a.eval i = .int kk (k : Nat)) (hv : Sl w D size v n xs) (hT : P.underlying T = some (.slice e)) (hsz : (P.info? e).map (·.size) = some size) (hlt : k < n)
    (hk : ∀ b j, D b → b < w.heap.size → (∀ l x, xs[k * size + l]? = some x → w.cell? ⟨b, j + l, none⟩ = some x) → wpList P ops Q rest (a.put o.dst (.pointer (some ⟨b, j, none⟩))) w) : wpList P ops Q (o :: rest) a w := by
  obtain ⟨b, j, h1, h2, h3, h4⟩ := run_iaddr_sl (kk := kk) hv hT hsz hlt
  exact BigFrame.wpList_want hg fun _ hK => opw_iaddr ho hs hi h1 (hK _ _ (hk b j h2 h3 h4))
/-- the address of an element of one cell -/
theorem st_iaddr1 (h : St w0 w F K) (hg : Region.wanted o (yielded ops a.tmps) = true) (T : TypeId) (s i : Operand) (ho : o.op = .indexAddr T s i) {e : TypeId} {n k : Nat} {xs : List Value} {kk : IntKind} (v : Value) (hs : a.eval s = v) (hi : a.eval i = .int kk (k : Nat)) (hv : ∀ D w, K D w → Sl w D 1 v n xs) (hT : P.underlying T = some (.slice e)) (hsz : (P.info? e).map (·.size) = some 1) (hlt : k < n) (x : Value) (hx : xs[k]? = some x)
    (hk : ∀ p : Addr, w.cell? p = some x → wpList P ops Q rest (a.put o.dst (.pointer (some p))) w) : wpList P ops Q (o :: rest) a w :=
  st_iaddr hg T s i ho v hs hi (hv _ _ h.ro) hT hsz hlt fun b j _ _ h4 => hk _ (h4 0 x (by simpa using hx))
/-- the address of an element of two cells -/
theorem st_iaddr2 (h : St w0 w F K) (hg : Region.wanted o (yielded ops a.tmps) = true) (T : TypeId) (s i : Operand) (ho : o.op = .indexAddr T s i) {e : TypeId} {n k : Nat} {xs : List Value} {kk : IntKind} (v : Value) (hs : a.eval s = v) (hi : a.eval i = .int kk (k : Nat)) (hv : ∀ D w, K D w → Sl w D 2 v n xs) (hT : P.underlying T = some (.slice e)) (hsz : (P.info? e).map (·.size) = some 2) (hlt : k < n) (x y : Value) (hx : xs[k * 2]? = some x) (hy : xs[k * 2 + 1]? = some y)
    (hk : ∀ b j, w.cell? ⟨b, j, none⟩ = some x → w.cell? ⟨b, j + 1, none⟩ = some y → wpList P ops Q rest (a.put o.dst (.pointer (some ⟨b, j, none⟩))) w) : wpList P ops Q (o :: rest) a w :=
  st_iaddr hg T s i ho v hs hi (hv _ _ h.ro) hT hsz hlt fun b j _ _ h4 => hk b j (h4 0 x (by simpa using hx)) (h4 1 y (by simpa using hy))
theorem own_shp {base size n : Nat} {v : Value} {e : TypeId} {xs : List Value} (h : w.ownsRow base e size v n xs) : ∃ A c, v = .slice A n c ∧ n ≤ c ∧ c ≤ 9223372036854775807 := (Sl.of_own h).shape
theorem own_pos {w : World} {base n : Nat} {e : TypeId} {size : Nat} {v : Value} {xs : List Value} (h : w.ownsRow base e size v n xs) (hn : 0 < n) : ∃ g cap, v = .slice (some ⟨g, 0, none⟩) n cap ∧ n ≤ cap ∧ cap ≤ 9223372036854775807 := by
  obtain ⟨A, c, e1, h1, h2⟩ := own_shp h
  rcases h.2 with ⟨rfl, h0⟩ | ⟨g, cap, cur, rfl, _⟩
  · omega
  · injection e1 with e1 e2 e3; subst e3; exact ⟨g, cap, rfl, h1, h2⟩
theorem st_len (h : St w0 w F K) (i : Nat) (hg : Region.wanted o (yielded ops a.tmps) = true) (s : Operand) (t : TypeId) (ho : o.op = .call { callee := .builtin .len, args := #[s], argTypes := #[t] }) (v : Value) (hs : a.eval s = v) {e e' : TypeId} {size n : Nat} {xs : List Value} (hb : F[i]? = some (.own v e size n xs)) (ht : P.underlying t = some (.slice e'))
    (hk : wpList P ops Q rest (a.put o.dst (.int .i64 (n : Nat))) w) : wpList P ops Q (o :: rest) a w := by
  obtain ⟨A, c, rfl, _⟩ := own_shp (h.own i hb)
  refine BigFrame.wpList_want hg fun _ hK => ?_
  have hr : (Builtin.len_ #[t] o.type #[.slice A n c]).run P w = .ok (.int .i64 (n : Nat)) w := by
    simp [Builtin.len_, run_underlying ht]; rfl
  unfold Oper.wp execOp
  simp only [ho, resolve, invoke, builtin, Sem.run_bind, Sem.run_pure, Result.andThen_ok, List.map_toArray, List.map_cons, List.map_nil, hs, hr]
  exact hK _ _ hk
theorem st_lss (hg : Region.wanted o (yielded ops a.tmps) = true) (t t2 : TypeId) (x y : Operand) (ho : o.op = .binOp .lss t x y t2) (k : IntKind) (m n : Int) (hx : a.eval x = .int k m) (hy : a.eval y = .int k n)
    (ht : m < n → wpList P ops Q rest (a.put o.dst (.bool true)) w) (hf : ¬ m < n → wpList P ops Q rest (a.put o.dst (.bool false)) w) : wpList P ops Q (o :: rest) a w := by
  refine BigFrame.wpList_want hg fun _ hK => opw_bin (v := .bool (decide (m < n))) ho hx hy (by simp [eqGuard]) (by rw [binOp_lss]; simp) (hK _ _ ?_)
  by_cases h : m < n
  · rw [decide_eq_true h]; exact ht h
  · rw [decide_eq_false h]; exact hf h
theorem st_leq (hg : Region.wanted o (yielded ops a.tmps) = true) (t t2 : TypeId) (x y : Operand) (ho : o.op = .binOp .leq t x y t2) (k : IntKind) (m n : Int) (hx : a.eval x = .int k m) (hy : a.eval y = .int k n)
    (ht : m ≤ n → wpList P ops Q rest (a.put o.dst (.bool true)) w) (hf : ¬ m ≤ n → wpList P ops Q rest (a.put o.dst (.bool false)) w) : wpList P ops Q (o :: rest) a w := by
  refine BigFrame.wpList_want hg fun _ hK => opw_bin (v := .bool (decide (m ≤ n))) ho hx hy (by simp [eqGuard]) (by rw [binOp_leq]; simp) (hK _ _ ?_)
  by_cases h : m ≤ n
  · rw [decide_eq_true h]; exact ht h
  · rw [decide_eq_false h]; exact hf h
theorem st_gtr (hg : Region.wanted o (yielded ops a.tmps) = true) (t t2 : TypeId) (x y : Operand) (ho : o.op = .binOp .gtr t x y t2) (k : IntKind) (m n : Int) (hx : a.eval x = .int k m) (hy : a.eval y = .int k n)
    (ht : m > n → wpList P ops Q rest (a.put o.dst (.bool true)) w) (hf : ¬ m > n → wpList P ops Q rest (a.put o.dst (.bool false)) w) : wpList P ops Q (o :: rest) a w := by
  refine BigFrame.wpList_want hg fun _ hK => opw_bin (v := .bool (decide (m > n))) ho hx hy (by simp [eqGuard]) (by rw [binOp_gtr]; simp) (hK _ _ ?_)
  by_cases h : m > n
  · rw [decide_eq_true h]; exact ht h
  · rw [decide_eq_false h]; exact hf h
theorem st_geq (hg : Region.wanted o (yielded ops a.tmps) = true) (t t2 : TypeId) (x y : Operand) (ho : o.op = .binOp .geq t x y t2) (k : IntKind) (m n : Int) (hx : a.eval x = .int k m) (hy : a.eval y = .int k n)
    (ht : m ≥ n → wpList P ops Q rest (a.put o.dst (.bool true)) w) (hf : ¬ m ≥ n → wpList P ops Q rest (a.put o.dst (.bool false)) w) : wpList P ops Q (o :: rest) a w := by
  refine BigFrame.wpList_want hg fun _ hK => opw_bin (v := .bool (decide (m ≥ n))) ho hx hy (by simp [eqGuard]) (by rw [binOp_geq]; simp) (hK _ _ ?_)
  by_cases h : m ≥ n
  · rw [decide_eq_true h]; exact ht h
  · rw [decide_eq_false h]; exact hf h
theorem st_eql (hg : Region.wanted o (yielded ops a.tmps) = true) (t t2 : TypeId) (x y : Operand) (ho : o.op = .binOp .eql t x y t2) (k : IntKind) (m n : Int) (hx : a.eval x = .int k m) (hy : a.eval y = .int k n)
    (ht : m = n → wpList P ops Q rest (a.put o.dst (.bool true)) w) (hf : ¬ m = n → wpList P ops Q rest (a.put o.dst (.bool false)) w) : wpList P ops Q (o :: rest) a w := by
  refine BigFrame.wpList_want hg fun _ hK => opw_bin (v := .bool (decide (m = n))) ho hx hy (by simp [eqGuard]) (by rw [binOp_eql]; by_cases h : m = n <;> simp [h]) (hK _ _ ?_)
  by_cases h : m = n
  · rw [decide_eq_true h]; exact ht h
  · rw [decide_eq_false h]; exact hf h
theorem st_neq (hg : Region.wanted o (yielded ops a.tmps) = true) (t t2 : TypeId) (x y : Operand) (ho : o.op = .binOp .neq t x y t2) (k : IntKind) (m n : Int) (hx : a.eval x = .int k m) (hy : a.eval y = .int k n)
    (ht : m ≠ n → wpList P ops Q rest (a.put o.dst (.bool true)) w) (hf : ¬ m ≠ n → wpList P ops Q rest (a.put o.dst (.bool false)) w) : wpList P ops Q (o :: rest) a w := by
  refine BigFrame.wpList_want hg fun _ hK => opw_bin (v := .bool (decide (m ≠ n))) ho hx hy (by simp [eqGuard]) (by rw [binOp_neq]; by_cases h : m = n <;> simp [h]) (hK _ _ ?_)
  by_cases h : m ≠ n
  · rw [decide_eq_true h]; exact ht h
  · rw [decide_eq_false h]; exact hf h
end
end Go.Proofs.YtenpkgdnlogfiaaGreatDoor
