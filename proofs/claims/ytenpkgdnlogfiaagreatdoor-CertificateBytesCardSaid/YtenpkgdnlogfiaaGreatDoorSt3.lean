/-
  More laws at the operations over what is known of memory: literals of slices, loads, arithmetic, addresses.
-/
import Derived.Test.YtenpkgdnlogfiaaGreatDoorSt2
import Derived.Test.YtenpkgdnlogfiaaGreatDoorTyp
import Derived.IntWalk
namespace Go.Proofs.YtenpkgdnlogfiaaGreatDoor
open Go.RowKit
attribute [local go_sem ↓] Go.wp_at_zero Go.wp_at_succ
set_option maxRecDepth 20000

/-- a row that is read, perhaps guarded -/
theorem st_loadw {P : Program} {ops : Array Oper} {rest : List Oper} {o : Oper} {a : Act} {w0 w : World} {F : List Fact} {K : (Nat → Prop) → World → Prop} {Q : Exit → Act → World → Prop} (h : St w0 w F K) (i : Nat) (hg : Region.wanted o (yielded ops a.tmps) = true) (ty : TypeId) (x : Operand) (ho : o.op = .load ty x) (g : Nat) (hx : a.eval x = .pointer (some ⟨g, 0, none⟩)) (t : TypeId) (cs : Array Value) (hb : F[i]? = some (.box g t cs))
    (d : TypeDesc) (hu : P.underlying ty = some d) (hd : (match d with | .struct _ | .array _ _ => true | _ => false) = true) (hi : (P.info? ty).map (·.size) = some cs.size)
    (hk : wpList P ops Q rest (a.put o.dst (.agg cs)) w) : wpList P ops Q (o :: rest) a w :=
  BigFrame.wpList_want hg fun _ hK => opw_row ho hx (h.box i hb) hu hd hi (hK _ _ hk)
section
variable {P : Program} {ops : Array Oper} {rest : List Oper} {o o2 : Oper} {a : Act} {w0 w : World} {F : List Fact} {K : (Nat → Prop) → World → Prop} {Q : Exit → Act → World → Prop}
/-- '[]T{}': an empty row of the call's own -/
theorem st_empty (h : St w0 w F K) (hg : o.guard = none) (t e : TypeId) (ho : o.op = .buildSlice t 0 #[]) (ht : P.underlying t = some (.slice e)) (hb : builtSlice P e 0 [] = some #[]) (size : Nat)
    (hk : ∀ g w', St w0 w' (.own (.slice (some ⟨g, 0, none⟩) 0 0) e size 0 [] :: F) K → wpList P ops Q rest (a.put o.dst (.slice (some ⟨g, 0, none⟩) 0 0)) w') : wpList P ops Q (o :: rest) a w :=
  wpList_buildSlice_op hg t e 0 #[] ho ht #[] (by simpa using hb) fun w' hX hB => hk _ w' (h.new hB _ ⟨by simp, .inr ⟨w.heap.size, 0, #[], rfl, Nat.le_refl _, hX, Nat.le_refl _, by simp [maxLen], by simp, by simp⟩⟩)
/-- '[]T{x, ..}': a row of the call's own -/
theorem st_litown (h : St w0 w F K) (hg : o.guard = none) (t e : TypeId) (len : Nat) (parts : Array (Nat × Operand)) (ho : o.op = .buildSlice t len parts) (ht : P.underlying t = some (.slice e)) (cells : Array Value)
    (hb : builtSlice P e len (parts.map fun (i, x) => (i, a.eval x)).toList = some cells) (size : Nat) (hs : cells.size = len * size) (hm : len ≤ 1000000000000)
    (hk : ∀ g w', St w0 w' (.own (.slice (some ⟨g, 0, none⟩) len len) e size len cells.toList :: F) K → wpList P ops Q rest (a.put o.dst (.slice (some ⟨g, 0, none⟩) len len)) w') : wpList P ops Q (o :: rest) a w :=
  wpList_buildSlice_op hg t e len parts ho ht cells hb fun w' hX hB => hk _ w' (h.new hB _ ⟨by simpa using hs, .inr ⟨w.heap.size, len, cells, rfl, Nat.le_refl _, hX, Nat.le_refl _, by unfold maxLen; omega, hs, by rw [← hs, show cells.size = cells.toList.length by simp, List.take_length]⟩⟩)
end
theorem tmod_nat (a b : Nat) : ((a : Int)).tmod (b : Int) = ((a % b : Nat) : Int) := by rw [Int.tmod_eq_emod_of_nonneg (Int.natCast_nonneg _)]; simp
theorem tdiv_nat (a b : Nat) : ((a : Int)).tdiv (b : Int) = ((a / b : Nat) : Int) := by rw [Int.tdiv_eq_ediv_of_nonneg (Int.natCast_nonneg _)]; simp
theorem wrap_u8_nat {m : Nat} (h : m < 256) : IntKind.u8.wrap (m : Int) = (m : Int) := by rw [IntKind.wrap_u8]; omega

/-- a row of the call's own that a callee has handed back -/
theorem St.owned {w0 w w' : World} {F : List Fact} {K : (Nat → Prop) → World → Prop} (h : St w0 w F K) (hb : Below w.heap.size w w') {e : TypeId} {size n : Nat} {v : Value} {xs : List Value} (ho : w'.ownsRow w.heap.size e size v n xs) : St w0 w' (.own v e size n xs :: F) K := h.new hb _ ho
/-- two new facts, about memory that was made since -/
theorem St.new2 {w0 w w' : World} {F : List Fact} {K : (Nat → Prop) → World → Prop} (h : St w0 w F K) (hb : Below w.heap.size w w') (f g : Fact) (hf : f.holds w.heap.size w') (hg : g.holds w.heap.size w') (hd : ∀ k, f.blk = some k → g.blk ≠ some k) : St w0 w' (f :: g :: F) K := by
  have h' := h.new hb g hg
  refine ⟨h'.below, fun x hx => ?_, ?_, h.stable, h.stable _ _ _ _ h.ro hb.size (fun _ _ _ hp hc => (hb.cell hp).trans hc) fun b h1 h2 _ x hx => ?_⟩
  · rcases List.mem_cons.1 hx with rfl | hx
    · exact Fact.down hf h.size
    · exact h'.holds x hx
  · refine List.pairwise_cons.2 ⟨fun x hx k hk e => ?_, h'.apart⟩
    rcases List.mem_cons.1 hx with rfl | hx
    · exact hd k hk e
    · have h1 := Fact.ge hf hk
      have h2 := h.lt hx e
      omega
  · rcases List.mem_cons.1 hx with rfl | hx
    · intro e; have := Fact.ge hf e; omega
    · rcases List.mem_cons.1 hx with rfl | hx
      · intro e; have := Fact.ge hg e; omega
      · exact h1 x hx

section
variable {P : Program} {w : World} {t : TypeId} {a b : Int}
theorem run_add64 (h : -9223372036854775808 ≤ a + b) (h' : a + b < 9223372036854775808) : (binOp .add t (.int .i64 a) (.int .i64 b)).run P w = .ok (.int .i64 (a + b)) w := by
  go_simp; rw [IntWalk.i64_in _ (by omega)]
theorem run_sub64 (h : -9223372036854775808 ≤ a - b) (h' : a - b < 9223372036854775808) : (binOp .sub t (.int .i64 a) (.int .i64 b)).run P w = .ok (.int .i64 (a - b)) w := by
  go_simp; rw [IntWalk.i64_in _ (by omega)]
theorem run_mul64 (h : -9223372036854775808 ≤ a * b) (h' : a * b < 9223372036854775808) : (binOp .mul t (.int .i64 a) (.int .i64 b)).run P w = .ok (.int .i64 (a * b)) w := by
  go_simp; rw [IntWalk.i64_in _ (by omega)]
theorem run_rem64 (h : 0 ≤ a) (h' : 0 < b) : (binOp .rem t (.int .i64 a) (.int .i64 b)).run P w = .ok (.int .i64 (a % b)) w := by
  have hb : ¬ b = 0 := by omega
  go_simp; exact Int.tmod_eq_emod_of_nonneg h
theorem run_quo64 (h : 0 ≤ a ∧ a < 9223372036854775808) (h' : 0 < b) : (binOp .quo t (.int .i64 a) (.int .i64 b)).run P w = .ok (.int .i64 (a / b)) w := by
  have hb : ¬ b = 0 := by omega
  have h1 : 0 ≤ a / b := Int.ediv_nonneg h.1 (by omega)
  have h2 : a / b ≤ a := Int.ediv_le_self b h.1
  go_simp; rw [Int.tdiv_eq_ediv_of_nonneg h.1]; exact IntWalk.i64_in _ (by omega)
end
theorem run_xor64' {P : Program} {w : World} {t : TypeId} {x y : Nat} (hx : x < T64) (hy : y < T64) : (binOp .xor t (.int .u64 (x : Nat)) (.int .u64 (y : Nat))).run P w = .ok (.int .u64 ((x ^^^ y : Nat) : Int)) w := by
  go_simp; rw [xor64 hx hy]
theorem run_iaddr_lit {P : Program} {w : World} {T e : TypeId} {b o n c m size : Nat} {k : IntKind} {i : Int} (hT : P.underlying T = some (.slice e)) (hs : (P.info? e).map (·.size) = some size) (hi : i = (m : Int)) (hm : m < n) :
    (Instr.indexAt T (.slice (some ⟨b, o, none⟩) n c) (.int k i)).run P w = .ok (.pointer (some ⟨b, o + m * size, none⟩)) w := by
  subst hi
  cases h : P.info? e with
  | none => simp [h] at hs
  | some inf =>
    have hs' : inf.size = size := by simpa [h] using hs
    have : ((m : Nat) : Int) < (n : Int) := by omega
    simp [Instr.indexAt, run_underlying hT, this, sizeOf, typeInfo, h, hs', asIntOf, asInt, Addr.add_lit]
    omega
theorem St.drewN {w0 w : World} {F : List Fact} {K : (Nat → Prop) → World → Prop} (h : St w0 w F K) (n : Nat) : St w0 (w.drewN n) F K := h.ext (bel_drewN (Below.refl _ _) n)
theorem sl_one {w : World} {g : Nat} {t : TypeId} {x : Value} (h : Box w g t #[x]) : Sl w (fun _ => True) 1 (.slice (some ⟨g, 0, none⟩) 1 1) 1 [x] := (Sl.of_box (n := 1) (size := 1) h rfl (by decide)).imp fun _ _ _ => trivial
theorem mk_u64s (n : Nat) : (madeCells #[Value.int .u64 0] (n * 1)).toList = u64s (List.replicate n 0) := by rw [Nat.mul_one, madeCells_u64]
theorem wrap_u64_nat {m : Nat} (h : m < T64) : IntKind.u64.wrap (m : Int) = (m : Int) := by rw [IntKind.wrap_u64]; unfold T64 at h; omega
theorem wrap_i64_nat {m : Nat} (h : m < 9223372036854775808) : IntKind.i64.wrap (m : Int) = (m : Int) := by rw [IntKind.wrap_i64]; omega
/-- the first two facts change places -/
theorem St.swap {w0 w : World} {a b : Fact} {X : List Fact} {K : (Nat → Prop) → World → Prop} (h : St w0 w (a :: b :: X) K) : St w0 w (b :: a :: X) K := by
  have hap := h.apart
  have hm : ∀ f, f ∈ b :: a :: X → f ∈ a :: b :: X := fun f hf => by
    rcases List.mem_cons.1 hf with rfl | hf
    · simp
    rcases List.mem_cons.1 hf with rfl | hf
    · simp
    · simp [hf]
  refine ⟨h.below, fun f hf => h.holds f (hm f hf), ?_, h.stable, h.stable _ _ _ _ h.ro (Nat.le_refl _) (fun _ _ _ _ h => h) fun k h1 _ _ f hf => h1 f (hm f hf)⟩
  rw [List.pairwise_cons] at hap ⊢
  obtain ⟨h1, h2⟩ := hap
  rw [List.pairwise_cons] at h2 ⊢
  refine ⟨fun g hg => ?_, fun g hg => h1 g (List.mem_cons_of_mem _ hg), h2.2⟩
  rcases List.mem_cons.1 hg with rfl | hg
  · intro k hk e; exact h1 b (by simp) k e hk
  · exact h2.1 g hg
end Go.Proofs.YtenpkgdnlogfiaaGreatDoor
