/-
  Plain words for memory and for sets of small numbers (no step of the program): a slice that reads as a list of cells; what a call leaves that only makes memory; a number whose bits are a set's members.
-/
import Derived.WalkKit
import Derived.Lib.Hide
import Derived.Deep.Draws
import Derived.Laws.BitsAllLaws
namespace Go.Proofs.YtenpkgdnlogfiaaGreatDoor
open Go.RowKit

/-- v is a slice of n elements of `size` cells each that hold the cells xs, in a block of which D holds -/
def Sl (w : World) (D : Nat → Prop) (size : Nat) (v : Value) (n : Nat) (xs : List Value) : Prop :=
  xs.length = n * size ∧ ∃ A c, v = .slice A n c ∧ n ≤ c ∧ c ≤ maxLen ∧
    (0 < n → ∃ b o, A = some ⟨b, o, none⟩ ∧ D b ∧ b < w.heap.size ∧ ∀ j x, xs[j]? = some x → w.cell? ⟨b, o + j, none⟩ = some x)

/-- what a call that only makes memory leaves: a value of which R holds, all old memory as it was -/
def Ret (R : Value → World → Prop) (w : World) (e : Ending) (w' : World) : Prop := ∃ v, e = .returned v ∧ R v w' ∧ Below w.heap.size w w'
theorem Ret.mk {R : Value → World → Prop} {w : World} {v : Value} {w' : World} (h : R v w') (hb : Below w.heap.size w w') : Ret R w (.returned v) w' := ⟨v, rfl, h, hb⟩

theorem bel_drewN {B : Nat} {a w : World} (h : Below B a w) (n : Nat) : Below B a (w.drewN n) := ⟨h.os, h.tape, h.output, h.size, h.block⟩
theorem bne_cast {x : Nat} (h : ((x : Int) != 0) = true) : x ≠ 0 := by rw [bne_iff_ne] at h; omega
theorem beq_cast {x : Nat} (h : ((x : Int) != 0) = false) : x = 0 := by have := bne_eq_false_iff_eq.1 h; omega
theorem below_grown {w w' : World} (h : Below w.heap.size w w') (row : Option Nat) : w.grownBy w' row := ⟨h.os, h.tape, h.output, h.size, fun k hk _ => h.block k hk⟩
section
variable {w w' : World} {D D' : Nat → Prop} {size n : Nat} {v : Value} {xs : List Value}
theorem Sl.keep (h : Sl w D size v n xs) (hsz : w.heap.size ≤ w'.heap.size) (hk : ∀ p : Addr, D p.block → p.block < w.heap.size → w'.cell? p = w.cell? p) : Sl w' D size v n xs := by
  obtain ⟨h1, A, c, h2, h3, h4, h5⟩ := h
  refine ⟨h1, A, c, h2, h3, h4, fun hn => ?_⟩
  obtain ⟨b, o, h6, h7, h9, h8⟩ := h5 hn
  exact ⟨b, o, h6, h7, by omega, fun j x hj => by rw [hk ⟨b, o + j, none⟩ h7 h9]; exact h8 j x hj⟩
theorem Sl.ext (h : Sl w D size v n xs) (hb : Below w.heap.size w w') : Sl w' D size v n xs := h.keep hb.size fun _ _ hp => hb.cell hp
theorem Sl.imp (h : Sl w D size v n xs) (hD : ∀ b, D b → b < w.heap.size → D' b) : Sl w D' size v n xs := by
  obtain ⟨h1, A, c, h2, h3, h4, h5⟩ := h
  refine ⟨h1, A, c, h2, h3, h4, fun hn => ?_⟩
  obtain ⟨b, o, h6, h7, h9, h8⟩ := h5 hn
  exact ⟨b, o, h6, hD b h7 h9, h9, h8⟩
theorem Sl.alloc (h : Sl w D size v n xs) (o : Obj) : Sl (w.alloc o) D size v n xs := h.keep (by simp) fun p _ hp => World.cell?_alloc_lt w o p hp
theorem Sl.drew (h : Sl w D size v n xs) : Sl w.drew D size v n xs := h
theorem Sl.drewN (h : Sl w D size v n xs) (k : Nat) : Sl (w.drewN k) D size v n xs := h
theorem Sl.setCell (h : Sl w D size v n xs) {q : Addr} (hq : ¬ D q.block) (y : Value) : Sl (w.setCell q y) D size v n xs :=
  h.keep (by simp) fun p hp _ => World.cell?_setCell_other _ _ _ _ (by rintro rfl; exact hq hp)
theorem Sl.none_ : Sl w D size (.slice none 0 0) 0 [] := ⟨by simp, none, 0, rfl, Nat.le_refl _, by simp [maxLen], fun h => absurd h (by omega)⟩
theorem Sl.of_own {base : Nat} {e : TypeId} (h : w.ownsRow base e size v n xs) : Sl w (base ≤ ·) size v n xs := by
  refine ⟨h.1, ?_⟩
  rcases h.2 with ⟨rfl, rfl⟩ | ⟨g, cap, cur, rfl, hb, hg, hnc, hcm, hcs, htake⟩
  · exact ⟨none, 0, rfl, Nat.le_refl _, by simp [maxLen], fun h => absurd h (by omega)⟩
  · refine ⟨_, cap, rfl, hnc, hcm, fun hn => ⟨g, 0, rfl, hb, (Array.getElem?_eq_some_iff.1 hg).1, fun j x hj => ?_⟩⟩
    have := h.cells (g := g) rfl j x hj
    rw [show (⟨g, 0, none⟩ : Addr).add j = ⟨g, 0 + j, none⟩ from by unfold Addr.add; split <;> simp_all] at this
    exact this
end

/-- 2 to the power of 64 -/
def T64 : Nat := 18446744073709551616
theorem T64_eq : T64 = 2 ^ 64 := rfl
/-- the number of a list of words of 64 bits -/
def val : List Nat → Nat
  | [] => 0
  | x :: r => x + T64 * val r
def u64s (l : List Nat) : List Value := l.map fun x : Nat => Value.int .u64 (x : Int)
theorem u64s_length (l : List Nat) : (u64s l).length = l.length := by simp [u64s]
theorem u64s_at (l : List Nat) (k : Nat) (h : k < l.length) : (u64s l)[k]? = some (.int .u64 (l.getD k 0 : Nat)) := by
  simp [u64s, List.getElem?_eq_getElem h]
def Words (l : List Nat) : Prop := ∀ x ∈ l, x < T64
/-- words of 64 bits, the last one not zero, at most 64 of them -/
def Canon (l : List Nat) : Prop := Words l ∧ (∀ x, l.getLast? = some x → x ≠ 0) ∧ l.length ≤ 64
/-- v is a set (as the program has it) whose members are the bits of N -/
def IsSet (w : World) (D : Nat → Prop) (v : Value) (N : Nat) : Prop :=
  ∃ u l, v = .agg #[u] ∧ Canon l ∧ val l = N ∧ Sl w D 1 u l.length (u64s l)
section
variable {w w' : World} {D D' : Nat → Prop} {N : Nat} {v : Value}
theorem IsSet.keep (h : IsSet w D v N) (hsz : w.heap.size ≤ w'.heap.size) (hk : ∀ p : Addr, D p.block → p.block < w.heap.size → w'.cell? p = w.cell? p) : IsSet w' D v N := by
  obtain ⟨u, l, h1, h2, h3, h4⟩ := h
  exact ⟨u, l, h1, h2, h3, h4.keep hsz hk⟩
theorem IsSet.ext (h : IsSet w D v N) (hb : Below w.heap.size w w') : IsSet w' D v N := h.keep hb.size fun _ _ hp => hb.cell hp
theorem IsSet.imp (h : IsSet w D v N) (hD : ∀ b, D b → b < w.heap.size → D' b) : IsSet w D' v N := by
  obtain ⟨u, l, h1, h2, h3, h4⟩ := h
  exact ⟨u, l, h1, h2, h3, h4.imp hD⟩
theorem IsSet.alloc (h : IsSet w D v N) (o : Obj) : IsSet (w.alloc o) D v N := h.keep (by simp) fun p _ hp => World.cell?_alloc_lt w o p hp
theorem IsSet.setCell (h : IsSet w D v N) {q : Addr} (hq : ¬ D q.block) (y : Value) : IsSet (w.setCell q y) D v N :=
  h.keep (by simp) fun p hp _ => World.cell?_setCell_other _ _ _ _ (by rintro rfl; exact hq hp)
theorem IsSet.drew (h : IsSet w D v N) : IsSet w.drew D v N := h
theorem IsSet.drewN (h : IsSet w D v N) (n : Nat) : IsSet (w.drewN n) D v N := h
theorem IsSet.empty : IsSet w D (.agg #[.slice none 0 0]) 0 := ⟨_, [], rfl, ⟨by intro x hx; simp at hx, by simp, by simp⟩, rfl, Sl.none_⟩
end

theorem Words.tail {x : Nat} {r : List Nat} (h : Words (x :: r)) : Words r := fun y hy => h y (by simp [hy])
theorem Words.getD {l : List Nat} (h : Words l) (k : Nat) : l.getD k 0 < T64 := by
  rcases Nat.lt_or_ge k l.length with hk | hk
  · rw [List.getD_eq_getElem?_getD, List.getElem?_eq_getElem hk]; exact h _ (List.getElem_mem hk)
  · rw [List.getD_eq_getElem?_getD, List.getElem?_eq_none hk]; simp [T64]
theorem val_shift (l : List Nat) (k : Nat) (h : Words l) : (val l >>> (64 * k)) % T64 = l.getD k 0 := by
  induction l generalizing k with
  | nil => simp [val]
  | cons x r ih =>
    have hx := h x (by simp)
    cases k with
    | zero => simp only [val, Nat.mul_zero, Nat.shiftRight_zero, List.getD_cons_zero]; unfold T64 at *; omega
    | succ k =>
      have := ih k h.tail
      simp only [List.getD_cons_succ]
      rw [← this, show 64 * (k+1) = 64 + 64 * k by omega, Nat.shiftRight_add]
      congr 2
      simp only [val, Nat.shiftRight_eq_div_pow]
      unfold T64 at *
      omega
/-- word k of a number -/
def wd (N k : Nat) : Nat := (N >>> (64 * k)) % T64
theorem wd_lt (N k : Nat) : wd N k < T64 := Nat.mod_lt _ (by simp [T64])
theorem wd_val {l : List Nat} (h : Words l) (k : Nat) : wd (val l) k = l.getD k 0 := val_shift l k h
theorem testBit_wd (N k i : Nat) (hi : i < 64) : (wd N k).testBit i = N.testBit (64 * k + i) := by
  rw [wd, T64_eq, Nat.testBit_mod_two_pow]; simp [hi]
theorem testBit_val {l : List Nat} (h : Words l) (i : Nat) : (val l).testBit i = (l.getD (i / 64) 0).testBit (i % 64) := by
  rw [← wd_val h, testBit_wd _ _ _ (Nat.mod_lt _ (by omega)), Nat.div_add_mod]
/-- numbers of words that agree in every word are equal -/
theorem val_ext {a : List Nat} {N : Nat} (ha : Words a) (h : ∀ k, a.getD k 0 = wd N k) : val a = N := by
  apply Nat.eq_of_testBit_eq
  intro i
  rw [testBit_val ha, h, testBit_wd _ _ _ (Nat.mod_lt _ (by omega)), Nat.div_add_mod]
theorem Words.range (f : Nat → Nat) (n : Nat) (hf : ∀ j, j < n → f j < T64) : Words ((List.range n).map f) := by
  intro x hx
  obtain ⟨j, hj, rfl⟩ := List.mem_map.1 hx
  exact hf j (List.mem_range.1 hj)
theorem range_getD (f : Nat → Nat) (n k : Nat) : ((List.range n).map f).getD k 0 = if k < n then f k else 0 := by
  rw [List.getD_eq_getElem?_getD]
  by_cases hk : k < n <;> simp [hk]
theorem Canon.range (f : Nat → Nat) (n : Nat) (hf : ∀ j, j < n → f j < T64) (hn : n ≤ 64) (hl : 0 < n → f (n - 1) ≠ 0) : Canon ((List.range n).map f) := by
  refine ⟨Words.range f n hf, fun x hx => ?_, by simpa using hn⟩
  cases n with
  | zero => simp at hx
  | succ n => rw [List.range_succ] at hx; simp at hx; subst hx; simpa using hl (by omega)
/-- how many words a number has -/
theorem wd_ge {l : List Nat} (h : Words l) {k : Nat} (hk : l.length ≤ k) : wd (val l) k = 0 := by
  rw [wd_val h, List.getD_eq_getElem?_getD, List.getElem?_eq_none hk]; rfl
theorem canon_last {l : List Nat} (h : Canon l) (hl : 0 < l.length) : l.getD (l.length - 1) 0 ≠ 0 := by
  have := h.2.1 (l.getD (l.length - 1) 0) (by
    rw [List.getLast?_eq_getElem?, List.getD_eq_getElem?_getD, List.getElem?_eq_getElem (by omega)]; rfl)
  exact this
theorem wd_ne_zero_lt {l : List Nat} (h : Words l) {k : Nat} (hk : wd (val l) k ≠ 0) : k < l.length := by
  rcases Nat.lt_or_ge k l.length with h1 | h1
  · exact h1
  · exact absurd (wd_ge h h1) hk
theorem canon_eq {a b : List Nat} (ha : Canon a) (hb : Canon b) (h : val a = val b) : a = b := by
  have hlen : a.length = b.length := by
    rcases Nat.lt_trichotomy a.length b.length with hlt | heq | hgt
    · have h1 := canon_last hb (by omega)
      rw [← wd_val hb.1, ← h] at h1
      have := wd_ne_zero_lt ha.1 h1
      omega
    · exact heq
    · have h1 := canon_last ha (by omega)
      rw [← wd_val ha.1, h] at h1
      have := wd_ne_zero_lt hb.1 h1
      omega
  apply List.ext_getElem hlen
  intro k h1 h2
  have e1 := wd_val ha.1 k
  have e2 := wd_val hb.1 k
  rw [h] at e1
  rw [e1] at e2
  simpa [List.getD_eq_getElem?_getD, List.getElem?_eq_getElem h1, List.getElem?_eq_getElem h2] using e2
theorem canon_lt {l : List Nat} (h : Canon l) : val l < 2 ^ 4096 := by
  apply Nat.lt_pow_two_of_testBit
  intro i hi
  rw [testBit_val h.1, List.getD_eq_getElem?_getD, List.getElem?_eq_none (by have := h.2.2; omega)]
  simp

/-- the laws on bits of 64, over words -/
theorem and64 {a b : Nat} (ha : a < T64) (hb : b < T64) : bits .and .u64 (a : Int) (b : Int) = ((a &&& b : Nat) : Int) := u64_and_nat a b ha hb
theorem or64 {a b : Nat} (ha : a < T64) (hb : b < T64) : bits .or .u64 (a : Int) (b : Int) = ((a ||| b : Nat) : Int) := u64_or_nat a b ha hb
theorem xor64 {a b : Nat} (ha : a < T64) (hb : b < T64) : bits .xor .u64 (a : Int) (b : Int) = ((a ^^^ b : Nat) : Int) := u64_xor_nat a b ha hb
def not64 (b : Nat) : Nat := T64 - 1 - b
theorem andNot64 {a b : Nat} (ha : a < T64) (hb : b < T64) : bits .andNot .u64 (a : Int) (b : Int) = ((a &&& not64 b : Nat) : Int) := by
  rw [u64_andNot_nat a b ha hb]; rfl
theorem and_lt {a b : Nat} (ha : a < T64) : a &&& b < T64 := Nat.lt_of_le_of_lt Nat.and_le_left ha
theorem or_lt {a b : Nat} (ha : a < T64) (hb : b < T64) : a ||| b < T64 := Nat.or_lt_two_pow (n := 64) ha hb
theorem testBit_not64 {b : Nat} (hb : b < T64) (i : Nat) (hi : i < 64) : (not64 b).testBit i = !b.testBit i := by
  have : not64 b = 2 ^ 64 - (b + 1) := by unfold not64 T64; omega
  rw [this, Nat.testBit_two_pow_sub_succ hb]; simp [hi]
theorem tb_big {x i : Nat} (h : x < T64) (hi : 64 ≤ i) : x.testBit i = false := by
  apply Nat.testBit_lt_two_pow
  rw [T64_eq] at h
  exact Nat.lt_of_lt_of_le h (Nat.pow_le_pow_right (by decide) hi)
theorem wd_or (M N k : Nat) : wd (M ||| N) k = wd M k ||| wd N k := by
  apply Nat.eq_of_testBit_eq
  intro i
  rw [Nat.testBit_or]
  by_cases hi : i < 64
  · simp [testBit_wd, hi]
  · simp [tb_big (wd_lt _ _) (Nat.not_lt.1 hi)]
theorem wd_and (M N k : Nat) : wd (M &&& N) k = wd M k &&& wd N k := by
  apply Nat.eq_of_testBit_eq
  intro i
  rw [Nat.testBit_and]
  by_cases hi : i < 64
  · simp [testBit_wd, hi]
  · simp [tb_big (wd_lt _ _) (Nat.not_lt.1 hi)]

def hasB (N : Nat) (i : Int) : Bool := decide (0 ≤ i) && N.testBit i.toNat
theorem one64 {x : Nat} (hx : x < T64) : bits .and .u64 (x : Int) 1 = ((x % 2 : Nat) : Int) := by
  have := and64 hx (b := 1) (by simp [T64])
  rw [show ((1 : Nat) : Int) = 1 from rfl] at this
  rw [this, Nat.and_one_is_mod]
theorem has_calc (N : Nat) (i : Int) (h0 : 0 ≤ i) : (bits .and .u64 ((wd N (i / 64).toNat : Int) / 2 ^ (i % 64).toNat) 1 == 1) = hasB N i := by
  obtain ⟨i, rfl⟩ := Int.eq_ofNat_of_zero_le h0
  have e1 : ((i : Int) / 64).toNat = i / 64 := by omega
  have e2 : ((i : Int) % 64).toNat = i % 64 := by omega
  have e3 : ((wd N (i / 64) : Int) / 2 ^ (i % 64)) = ((wd N (i / 64) / 2 ^ (i % 64) : Nat) : Int) := by simp
  rw [e1, e2, e3, one64 (Nat.lt_of_le_of_lt (Nat.div_le_self _ _) (wd_lt _ _))]
  have e4 := testBit_wd N (i / 64) (i % 64) (Nat.mod_lt _ (by omega))
  rw [Nat.div_add_mod, Nat.testBit_eq_decide_div_mod_eq] at e4
  simp only [hasB, h0, decide_true, Bool.true_and, Int.toNat_natCast]
  rw [← e4]
  by_cases h : wd N (i / 64) / 2 ^ (i % 64) % 2 = 1
  · simp [h]
  · have : wd N (i / 64) / 2 ^ (i % 64) % 2 = 0 := by omega
    simp [this]
theorem has_neg (N : Nat) (i : Int) (h0 : ¬ 0 ≤ i) : hasB N i = false := by simp [hasB, h0]
set_option exponentiation.threshold 5000 in
theorem has_big (N : Nat) (i : Int) (hN : N < 2 ^ 4096) (h1 : ¬ i ≤ 4095) : hasB N i = false := by
  have : N.testBit i.toNat = false := Nat.testBit_lt_two_pow (Nat.lt_of_lt_of_le hN (Nat.pow_le_pow_right (by decide) (by omega)))
  simp [hasB, this]
theorem empty_calc {l : List Nat} (hl : Canon l) : (val l == 0) = ((l.length : Int) == 0) := by
  by_cases h : l.length = 0
  · obtain rfl : l = [] := List.eq_nil_of_length_eq_zero h
    simp [val]
  · have h1 := canon_last hl (by omega)
    rw [← wd_val hl.1] at h1
    have h2 : val l ≠ 0 := by intro e; rw [e] at h1; simp [wd] at h1
    rw [beq_eq_false_iff_ne.2 h2, beq_eq_false_iff_ne.2 (by omega)]
theorem IsSet.bound {w : World} {D : Nat → Prop} {N : Nat} {v : Value} (h : IsSet w D v N) : N < 2 ^ 4096 := by
  obtain ⟨u, l, rfl, hl, rfl, _⟩ := h; exact canon_lt hl

theorem meets_yes {a b : List Nat} (ha : Words a) (hb : Words b) {k : Nat} (h : a.getD k 0 &&& b.getD k 0 ≠ 0) : (val a &&& val b != 0) = true := by
  rw [bne_iff_ne]
  intro e
  have := wd_and (val a) (val b) k
  rw [e, wd_val ha, wd_val hb] at this
  exact h (by rw [← this]; simp [wd])
theorem meets_no {a b : List Nat} (ha : Words a) (hb : Words b) {k : Nat} (h : ∀ j, j < k → a.getD j 0 &&& b.getD j 0 = 0) (hk : a.length ≤ k ∨ b.length ≤ k) : (val a &&& val b != 0) = false := by
  have : val a &&& val b = 0 := by
    apply Nat.eq_of_testBit_eq
    intro i
    rw [Nat.testBit_and, testBit_val ha, testBit_val hb, ← Nat.testBit_and]
    by_cases hj : i / 64 < k
    · rw [h _ hj]; simp
    · rcases hk with hk | hk
      · rw [List.getD_eq_getElem?_getD (l := a), List.getElem?_eq_none (by omega)]; simp
      · rw [List.getD_eq_getElem?_getD (l := b), List.getElem?_eq_none (by omega)]; simp
  simp [this]
theorem within_no {a b : List Nat} (ha : Words a) (hb : Words b) {k : Nat} (h : a.getD k 0 &&& not64 (b.getD k 0) ≠ 0) : (val a &&& val b == val a) = false := by
  rw [beq_eq_false_iff_ne]
  intro e
  apply h
  have e1 := wd_and (val a) (val b) k
  rw [e, wd_val ha, wd_val hb] at e1
  apply Nat.eq_of_testBit_eq
  intro i
  rw [Nat.testBit_and]
  by_cases hi : i < 64
  · rw [testBit_not64 (hb.getD k) i hi, e1, Nat.testBit_and]
    rw [Nat.zero_testBit]; cases (a.getD k 0).testBit i <;> cases (b.getD k 0).testBit i <;> rfl
  · rw [tb_big (ha.getD k) (by omega)]; simp
theorem within_yes {a b : List Nat} (ha : Words a) (hb : Words b) {k : Nat} (h : ∀ j, j < k → a.getD j 0 &&& not64 (b.getD j 0) = 0) (hk : a.length ≤ k) : (val a &&& val b == val a) = true := by
  rw [beq_iff_eq]
  apply Nat.eq_of_testBit_eq
  intro i
  rw [Nat.testBit_and, testBit_val ha, testBit_val hb]
  by_cases hj : i / 64 < k
  · have := congrArg (fun x => x.testBit (i % 64)) (h _ hj)
    simp only [Nat.testBit_and, testBit_not64 (hb.getD _) _ (Nat.mod_lt i (by omega : 0 < 64)), Nat.zero_testBit] at this
    cases h1 : (a.getD (i / 64) 0).testBit (i % 64) <;> cases h2 : (b.getD (i / 64) 0).testBit (i % 64) <;> simp_all
  · rw [List.getD_eq_getElem?_getD (l := a), List.getElem?_eq_none (by omega)]; simp
theorem equal_no {a b : List Nat} (ha : Canon a) (hb : Canon b) {k : Nat} (h : a.getD k 0 ≠ b.getD k 0) : (val a == val b) = false := by
  rw [beq_eq_false_iff_ne]
  intro e
  rw [canon_eq ha hb e] at h
  exact h rfl
theorem equal_no_len {a b : List Nat} (ha : Canon a) (hb : Canon b) (h : a.length ≠ b.length) : (val a == val b) = false := by
  rw [beq_eq_false_iff_ne]
  intro e
  rw [canon_eq ha hb e] at h
  exact h rfl
theorem equal_yes {a b : List Nat} (hl : a.length = b.length) (h : ∀ j, j < a.length → a.getD j 0 = b.getD j 0) : (val a == val b) = true := by
  have : a = b := by
    apply List.ext_getElem hl
    intro k h1 h2
    simpa [List.getD_eq_getElem?_getD, List.getElem?_eq_getElem h1, List.getElem?_eq_getElem h2] using h k h1
  simp [this]
/-- the cell of word k of a slice of words -/
theorem Sl.word {w : World} {D : Nat → Prop} {A : Option Addr} {c : Nat} {l : List Nat} (h : Sl w D 1 (.slice A l.length c) l.length (u64s l)) {k : Nat} (hk : k < l.length) :
    ∃ b o, A = some ⟨b, o, none⟩ ∧ D b ∧ b < w.heap.size ∧ ∀ j, j < l.length → w.cell? ⟨b, o + j, none⟩ = some (.int .u64 (l.getD j 0 : Nat)) := by
  obtain ⟨_, A', c', h1, _, _, h2⟩ := h
  obtain ⟨b, o, h3, h4, h6, h5⟩ := h2 (by omega)
  injection h1 with h1
  exact ⟨b, o, h1.trans h3, h4, h6, fun j hj => h5 j _ (u64s_at l j hj)⟩
theorem IsSet.parts {w : World} {D : Nat → Prop} {N : Nat} {v : Value} (h : IsSet w D v N) : ∃ A c l, v = .agg #[.slice A l.length c] ∧ Canon l ∧ N = val l ∧ l.length ≤ c ∧ c ≤ maxLen ∧ Sl w D 1 (.slice A l.length c) l.length (u64s l) := by
  obtain ⟨_, l, rfl, hl, rfl, h1, A, c, rfl, h2, h3, h4⟩ := h
  exact ⟨A, c, l, rfl, hl, rfl, h2, h3, h1, A, c, rfl, h2, h3, h4⟩
theorem canon_or {a b : List Nat} {n : Nat} (ha : Canon a) (hb : Canon b) (hn : n = max a.length b.length) :
    Canon ((List.range n).map fun j => wd (val a) j ||| wd (val b) j) ∧ val ((List.range n).map fun j => wd (val a) j ||| wd (val b) j) = val a ||| val b := by
  have hw : ∀ j, j < n → wd (val a) j ||| wd (val b) j < T64 := fun j _ => or_lt (wd_lt _ _) (wd_lt _ _)
  refine ⟨Canon.range _ _ hw (by have := ha.2.2; have := hb.2.2; omega) fun hn0 => ?_, val_ext (Words.range _ _ hw) fun k => ?_⟩
  · rw [wd_val ha.1, wd_val hb.1]
    rcases Nat.le_total a.length b.length with h | h
    · have := canon_last hb (by omega)
      rw [show n - 1 = b.length - 1 by omega]
      intro e
      exact this (Nat.or_eq_zero_iff.1 e).2
    · have := canon_last ha (by omega)
      rw [show n - 1 = a.length - 1 by omega]
      intro e
      exact this (Nat.or_eq_zero_iff.1 e).1
  · rw [range_getD, wd_or]
    split
    · rfl
    · rw [wd_ge ha.1 (by omega), wd_ge hb.1 (by omega)]; rfl
theorem IsSet.of_own {w : World} {base : Nat} {e : TypeId} {u : Value} {l : List Nat} {N : Nat} (hl : Canon l ∧ val l = N) (h : w.ownsRow base e 1 u l.length (u64s l)) : IsSet w (base ≤ ·) (.agg #[u]) N :=
  ⟨u, l, rfl, hl.1, hl.2, Sl.of_own h⟩
theorem IsSet.of_range {w : World} {base : Nat} {e : TypeId} {u : Value} {f : Nat → Nat} {n N : Nat} (hl : Canon ((List.range n).map f) ∧ val ((List.range n).map f) = N) (h : w.ownsRow base e 1 u n (u64s ((List.range n).map f))) : IsSet w (base ≤ ·) (.agg #[u]) N :=
  IsSet.of_own hl (by simpa using h)
theorem madeCells_u64 (n : Nat) : (madeCells #[Value.int .u64 0] n).toList = u64s (List.replicate n 0) := by
  rw [toList_madeCells_one]; simp [u64s]
/-- a row of which the first k of n places are filled -/
def fillTo (f : Nat → Nat) (k n : Nat) : List Nat := (List.range n).map fun j => if j < k then f j else 0
theorem fillTo_zero (f : Nat → Nat) (n : Nat) : fillTo f 0 n = List.replicate n 0 := by
  apply List.ext_getElem <;> simp [fillTo]
theorem fillTo_full (f : Nat → Nat) (n : Nat) : fillTo f n n = (List.range n).map f := by
  apply List.map_congr_left
  intro j hj
  simp [List.mem_range.1 hj]
theorem fillTo_set (f : Nat → Nat) (k n : Nat) : (fillTo f k n).set k (f k) = fillTo f (k + 1) n := by
  apply List.ext_getElem
  · simp [fillTo]
  · intro j h1 h2
    simp only [fillTo, List.getElem_set, List.getElem_map, List.getElem_range]
    by_cases h : k = j
    · subst h; simp
    · simp only [h, if_false]
      by_cases hj : j < k
      · simp [hj, show j < k + 1 by omega]
      · simp [hj, show ¬ j < k + 1 by omega]
theorem u64s_set (l : List Nat) (k x : Nat) : u64s (l.set k x) = (u64s l).set k (.int .u64 (x : Nat)) := by
  simp [u64s, List.map_set]
theorem shl64 (r : Nat) (h : r < 64) : IntKind.u64.wrap ((2 : Int) ^ r) = ((2 ^ r : Nat) : Int) := by
  rw [IntKind.wrap_u64]
  have h1 : (2 : Nat) ^ r < 18446744073709551616 := Nat.pow_lt_pow_right (by decide) h
  have h2 : ((2 : Int) ^ r) = ((2 ^ r : Nat) : Int) := by simp
  rw [h2]
  generalize (2 : Nat) ^ r = x at *
  omega
theorem shl64_sub (r : Nat) (h : r < 64) : IntKind.u64.wrap (IntKind.u64.wrap ((2 : Int) ^ r) - 1) = ((2 ^ r - 1 : Nat) : Int) := by
  rw [shl64 r h, IntKind.wrap_u64]
  have h1 : (2 : Nat) ^ r < 18446744073709551616 := Nat.pow_lt_pow_right (by decide) h
  have h2 : 0 < 2 ^ r := Nat.two_pow_pos r
  generalize (2 : Nat) ^ r = x at *
  omega
theorem own_set {w x : World} {base : Nat} {e : TypeId} {g n cap k y : Nat} {l : List Nat} (h : w.ownsRow base e 1 (.slice (some ⟨g, 0, none⟩) n cap) n (u64s l)) (hb : Below w.heap.size w x) :
    (x.setCell ⟨g, k, none⟩ (.int .u64 (y : Nat))).ownsRow base e 1 (.slice (some ⟨g, 0, none⟩) n cap) n (u64s (l.set k y)) := by
  have h1 := h.kept (row := none) ⟨hb.os, hb.tape, hb.output, hb.size, fun k hk _ => hb.block k hk⟩ (.inr (by simp [Value.ownBlock]))
  have h2 := (h1.stored k (.int .u64 (y : Nat))).1
  rw [← u64s_set] at h2
  exact h2
theorem undrew {w w' : World} (h : Below w.drew.heap.size w.drew w') : Below w.heap.size w w' := ⟨h.os, h.tape, h.output, h.size, h.block⟩
theorem own_fill {w x : World} {base : Nat} {e : TypeId} {g n cap k : Nat} {f : Nat → Nat} (h : w.ownsRow base e 1 (.slice (some ⟨g, 0, none⟩) n cap) n (u64s (fillTo f k n))) (hb : Below w.heap.size w x) :
    (x.setCell ⟨g, k, none⟩ (.int .u64 (f k : Nat))).ownsRow base e 1 (.slice (some ⟨g, 0, none⟩) n cap) n (u64s (fillTo f (k + 1) n)) := by
  have h1 := h.kept (row := none) ⟨hb.os, hb.tape, hb.output, hb.size, fun k hk _ => hb.block k hk⟩ (.inr (by simp [Value.ownBlock]))
  have h2 := (h1.stored k (.int .u64 (f k : Nat))).1
  rw [← u64s_set, fillTo_set] at h2
  exact h2

theorem fillTo_len (f : Nat → Nat) (k n : Nat) : (fillTo f k n).length = n := by simp [fillTo]
theorem fillTo_at (f : Nat → Nat) (k n j : Nat) (h : j < n) : (u64s (fillTo f k n))[j]? = some (.int .u64 ((fillTo f k n).getD j 0 : Nat)) := u64s_at _ _ (by rw [fillTo_len]; exact h)
end Go.Proofs.YtenpkgdnlogfiaaGreatDoor
