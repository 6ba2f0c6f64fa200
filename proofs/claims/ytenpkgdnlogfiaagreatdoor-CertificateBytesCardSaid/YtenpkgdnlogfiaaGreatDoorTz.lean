/-
  The lowest bit of a word: plain laws; what math/bits.TrailingZeros64 computes; a bound on OnesCount64 and on a set's Len.
-/
import Derived.Test.YtenpkgdnlogfiaaGreatDoorSt2
import Derived.Test.YtenpkgdnlogfiaaGreatDoorKec1
namespace Go.Proofs.YtenpkgdnlogfiaaGreatDoor
open Go.RowKit
attribute [local go_sem ↓] Go.wp_at_zero Go.wp_at_succ
set_option maxRecDepth 20000

/-- the bits of a word, ascending -/
def bitsW (y : Nat) : List Nat := (List.range 64).filter fun i => y.testBit i
theorem odd_split (y : Nat) (h : y ≠ 0) : ∃ t m, y = 2 ^ t * (2 * m + 1) := by
  induction y using Nat.strongRecOn with
  | _ y ih =>
    rcases Nat.mod_two_eq_zero_or_one y with h2 | h2
    · obtain ⟨t, m, e⟩ := ih (y / 2) (by omega) (by omega)
      refine ⟨t + 1, m, ?_⟩
      rw [Nat.pow_succ, Nat.mul_right_comm, ← e]; omega
    · exact ⟨0, y / 2, by simp; omega⟩
theorem tb_odd (t m i : Nat) : (2 ^ t * (2 * m + 1)).testBit i = (decide (t ≤ i) && (2 * m + 1).testBit (i - t)) := Nat.testBit_two_pow_mul
theorem tb_at (t m : Nat) : (2 ^ t * (2 * m + 1)).testBit t = true := by rw [tb_odd]; simp
theorem tb_lo (t m i : Nat) (h : i < t) : (2 ^ t * (2 * m + 1)).testBit i = false := by rw [tb_odd]; simp; omega
theorem tb_hi (t m i : Nat) (h : t < i) : (2 ^ t * (2 * m + 1)).testBit i = m.testBit (i - t - 1) := by
  rw [tb_odd, show i - t = (i - t - 1) + 1 by omega, Nat.testBit_succ]
  simp; rw [show (2 * m + 1) / 2 = m by omega, show decide (t ≤ i) = true by simp; omega, Bool.true_and]
theorem pred_eq (t m : Nat) : 2 ^ t * (2 * m + 1) - 1 = 2 ^ (t + 1) * m + (2 ^ t - 1) := by
  have := Nat.two_pow_pos t
  rw [Nat.pow_succ, Nat.mul_add, Nat.mul_one, Nat.mul_assoc]; omega
theorem pb_lo (t m i : Nat) (h : i < t) : (2 ^ t * (2 * m + 1) - 1).testBit i = true := by
  rw [pred_eq, Nat.testBit_two_pow_mul_add _ (by have := Nat.two_pow_pos t; rw [Nat.pow_succ]; omega), if_pos (by omega), Nat.testBit_two_pow_sub_one]; simp [h]
theorem pb_at (t m : Nat) : (2 ^ t * (2 * m + 1) - 1).testBit t = false := by
  rw [pred_eq, Nat.testBit_two_pow_mul_add _ (by have := Nat.two_pow_pos t; rw [Nat.pow_succ]; omega), if_pos (by omega), Nat.testBit_two_pow_sub_one]; simp
theorem pb_hi (t m i : Nat) (h : t < i) : (2 ^ t * (2 * m + 1) - 1).testBit i = m.testBit (i - t - 1) := by
  rw [pred_eq, Nat.testBit_two_pow_mul_add _ (by have := Nat.two_pow_pos t; rw [Nat.pow_succ]; omega), if_neg (by omega)]; congr 1
theorem odd_lt {t m : Nat} (h : 2 ^ t * (2 * m + 1) < T64) : t < 64 := by
  rcases Nat.lt_or_ge t 64 with h1 | h1
  · exact h1
  · have h2 : 2 ^ 64 ≤ 2 ^ t := Nat.pow_le_pow_right (by decide) h1
    have h3 : 2 ^ t * 1 ≤ 2 ^ t * (2 * m + 1) := Nat.mul_le_mul_left _ (by omega)
    rw [T64_eq] at h; omega
/-- the lowest bit taken away -/
theorem dropLow_bit (t m i : Nat) : (2 ^ t * (2 * m + 1) &&& (2 ^ t * (2 * m + 1) - 1)).testBit i = ((2 ^ t * (2 * m + 1)).testBit i && decide (i ≠ t)) := by
  rw [Nat.testBit_and]
  rcases Nat.lt_trichotomy i t with h | h | h
  · rw [tb_lo _ _ _ h]; simp
  · subst h; rw [pb_at]; simp
  · rw [tb_hi _ _ _ h, pb_hi _ _ _ h]; simp; intro _; omega
theorem range_part {t : Nat} (h : t < 64) : List.range 64 = List.range t ++ t :: (List.range (63 - t)).map (t + 1 + ·) := by
  apply List.ext_getElem
  · simp; omega
  · intro i h1 h2
    simp only [List.getElem_range, List.getElem_append, List.getElem_cons, List.getElem_map, List.length_range]
    split
    · rfl
    · split
      · omega
      · omega
theorem bitsW_odd {t m : Nat} (h : 2 ^ t * (2 * m + 1) < T64) : bitsW (2 ^ t * (2 * m + 1)) = t :: bitsW (2 ^ t * (2 * m + 1) &&& (2 ^ t * (2 * m + 1) - 1)) := by
  have ht := odd_lt h
  unfold bitsW
  rw [range_part ht]
  simp only [List.filter_append, List.filter_cons, tb_at, dropLow_bit]
  have h1 : (List.range t).filter (fun i => (2 ^ t * (2 * m + 1)).testBit i) = [] := by
    rw [List.filter_eq_nil_iff]; intro i hi; rw [tb_lo _ _ _ (List.mem_range.1 hi)]; simp
  have h2 : (List.range t).filter (fun i => (2 ^ t * (2 * m + 1)).testBit i && decide (i ≠ t)) = [] := by
    rw [List.filter_eq_nil_iff]; intro i hi; rw [tb_lo _ _ _ (List.mem_range.1 hi)]; simp
  rw [h1, h2]
  simp
  rw [List.filter_map, List.filter_map]
  congr 1
  apply List.filter_congr
  intro i _
  simp; intro _; omega
theorem bitsW_zero : bitsW 0 = [] := by simp [bitsW]
/-- the place of the lowest bit; 64 if there is none -/
def tzN (y : Nat) : Nat := (bitsW y).headD 64
theorem tzN_odd {t m : Nat} (h : 2 ^ t * (2 * m + 1) < T64) : tzN (2 ^ t * (2 * m + 1)) = t := by unfold tzN; rw [bitsW_odd h]; rfl
theorem bitsW_step {y : Nat} (h : y < T64) (h0 : y ≠ 0) : bitsW y = tzN y :: bitsW (y &&& (y - 1)) := by
  obtain ⟨t, m, rfl⟩ := odd_split y h0
  rw [tzN_odd h]; exact bitsW_odd h
theorem tzN_lt {y : Nat} (h : y < T64) (h0 : y ≠ 0) : tzN y < 64 := by
  obtain ⟨t, m, rfl⟩ := odd_split y h0
  rw [tzN_odd h]; exact odd_lt h
theorem dropLow_lt {y : Nat} (h : y < T64) (h0 : y ≠ 0) : y &&& (y - 1) < y := by
  have : y &&& (y - 1) ≤ y - 1 := Nat.and_le_right
  omega
theorem low_pow {y : Nat} (h : y < T64) (h0 : y ≠ 0) : y &&& (T64 - y) = 2 ^ tzN y := by
  obtain ⟨t, m, rfl⟩ := odd_split y h0
  rw [tzN_odd h]
  have ht := odd_lt h
  have hy : 0 < 2 ^ t * (2 * m + 1) := by omega
  have e : T64 - 2 ^ t * (2 * m + 1) = 2 ^ 64 - ((2 ^ t * (2 * m + 1) - 1) + 1) := by rw [T64_eq]; omega
  apply Nat.eq_of_testBit_eq
  intro i
  rw [Nat.testBit_and, e, Nat.testBit_two_pow_sub_succ (by rw [T64_eq] at h; omega), Nat.testBit_two_pow]
  rcases Nat.lt_trichotomy i t with hi | hi | hi
  · rw [tb_lo _ _ _ hi]; simp; omega
  · subst hi; rw [tb_at, pb_at]; simp [ht]
  · rw [tb_hi _ _ _ hi, pb_hi _ _ _ hi]
    cases m.testBit (i - t - 1) <;> simp <;> omega

/-- the table of math/bits -/
def dbL : List Nat := [0, 1, 56, 2, 57, 49, 28, 3, 61, 58, 42, 50, 38, 29, 17, 4, 62, 47, 59, 36, 45, 43, 51, 22, 53, 39, 33, 30, 24, 18, 12, 5, 63, 55, 48, 27, 60, 41, 37, 16, 46, 35, 44, 21, 52, 32, 23, 11, 54, 26, 40, 15, 34, 20, 31, 10, 25, 14, 19, 9, 13, 8, 7, 6]
def DTab (w : World) : Prop := ∀ q, q < 64 → w.cell? ⟨0, q, none⟩ = some (.int .u8 (dbL.getD q 0 : Nat))
theorem DTab.ext {w w' : World} (h : DTab w) (hb : Below w.heap.size w w') : DTab w' := fun q hq => by
  have hl : 0 < w.heap.size := by
    rcases Nat.lt_or_ge 0 w.heap.size with h' | h'
    · exact h'
    · have := h q hq
      simp [World.cell?, Array.getElem?_eq_none h'] at this
  exact (hb.cell (p := ⟨0, q, none⟩) hl).trans (h q hq)
theorem db_all : ∀ t, t < 64 → dbL.getD (2 ^ t * 285870213051353865 % 18446744073709551616 / 2 ^ 58) 0 = t ∧ 2 ^ t * 285870213051353865 % 18446744073709551616 / 2 ^ 58 < 64 := by decide
theorem shr_nat (x k : Nat) : (x : Int) / 2 ^ k = ((x / 2 ^ k : Nat) : Int) := by simp
theorem wrap_nat (x : Nat) : IntKind.u64.wrap (x : Int) = ((x % 18446744073709551616 : Nat) : Int) := by rw [IntKind.wrap_u64]; simp
theorem wrap_neg {y : Nat} (h : y < T64) (h0 : y ≠ 0) : IntKind.u64.wrap (-(y : Int)) = ((T64 - y : Nat) : Int) := by
  rw [IntKind.wrap_u64]; unfold T64 at *; omega
theorem run_mul_db (p : Nat) (w : World) : (binOp .mul 58 (.int .u64 (p : Nat)) (.int .u64 285870213051353865)).run Tryz.prog w = .ok (.int .u64 (p * 285870213051353865 % 18446744073709551616 : Nat)) w := by
  have e3 : IntKind.u64.wrap ((p : Int) * 285870213051353865) = ((p * 285870213051353865 % 18446744073709551616 : Nat) : Int) := by rw [← wrap_nat]; simp
  simp only [binOp, Op.intArith, ne_eq, not_true_eq_false, if_false, e3]
  rfl
theorem run_shr58 (r : Nat) (w : World) : (binOp .shr 58 (.int .u64 (r : Nat)) (.int .u64 58)).run Tryz.prog w = .ok (.int .u64 (r / 2 ^ 58 : Nat)) w := by
  rw [binOp_shr, shift_shr _ _ _ _ (by decide) (by decide)]
  have e4 : (r : Int) / 2 ^ (58 : Int).toNat = ((r / 2 ^ 58 : Nat) : Int) := by
    rw [show (58 : Int).toNat = 58 from rfl]; exact shr_nat r 58
  rw [e4]
  rfl
theorem run_dbidx (q : Nat) (hq : q < 64) (w : World) : (Instr.indexAt 139 (.pointer (some ⟨0, 0, none⟩)) (.int .u64 (q : Nat))).run Tryz.prog w = .ok (.pointer (some ⟨0, q, none⟩)) w := by
  have h : (0 : Int) ≤ q ∧ (q : Int) < 64 := by omega
  go_simp
theorem tz_any (y : Nat) (hy : y < T64) (w : World) (hT : DTab w) :
    Calls Tryz.prog 101 #[.int .u64 y] w fun e w' => e = .returned (.int .i64 (tzN y : Nat)) ∧ w = w' := by
  by_cases h0 : y = 0
  · subst h0
    go_enter Tryz.func101, Tryz.ntmps101
    go_wp2_with (first | ((with_reducible show wpList _ _ _ (⟨_, .binOp _ _ _ _ _, _, _, _, _⟩ :: _) _ _); (first | ((with_reducible show wpList _ _ _ (⟨_, .binOp .lss _ _ _ _, _, _, _, _⟩ :: _) _ _); refine st_lss rfl _ _ _ _ rfl _ _ _ rfl rfl (fun h_ => ?_) (fun h_ => ?_)) | ((with_reducible show wpList _ _ _ (⟨_, .binOp .leq _ _ _ _, _, _, _, _⟩ :: _) _ _); refine st_leq rfl _ _ _ _ rfl _ _ _ rfl rfl (fun h_ => ?_) (fun h_ => ?_)) | ((with_reducible show wpList _ _ _ (⟨_, .binOp .gtr _ _ _ _, _, _, _, _⟩ :: _) _ _); refine st_gtr rfl _ _ _ _ rfl _ _ _ rfl rfl (fun h_ => ?_) (fun h_ => ?_)) | ((with_reducible show wpList _ _ _ (⟨_, .binOp .geq _ _ _ _, _, _, _, _⟩ :: _) _ _); refine st_geq rfl _ _ _ _ rfl _ _ _ rfl rfl (fun h_ => ?_) (fun h_ => ?_)) | ((with_reducible show wpList _ _ _ (⟨_, .binOp .eql _ _ _ _, _, _, _, _⟩ :: _) _ _); refine st_eql rfl _ _ _ _ rfl _ _ _ rfl rfl (fun h_ => ?_) (fun h_ => ?_)) | ((with_reducible show wpList _ _ _ (⟨_, .binOp .neq _ _ _ _, _, _, _, _⟩ :: _) _ _); refine st_neq rfl _ _ _ _ rfl _ _ _ rfl rfl (fun h_ => ?_) (fun h_ => ?_))) <;> go_prune))
    go_ret
    exact ⟨rfl, rfl⟩
  · have e1 := wrap_neg hy h0
    have e2 := and64 hy (b := T64 - y) (by unfold T64; omega)
    rw [low_pow hy h0] at e2
    have ht := tzN_lt hy h0
    obtain ⟨d1, d2⟩ := db_all _ ht
    obtain ⟨p, hp⟩ : ∃ p, p = 2 ^ tzN y := ⟨_, rfl⟩
    rw [← hp] at d1 d2 e2
    clear hp
    have e3 := run_mul_db p w
    generalize p * 285870213051353865 % 18446744073709551616 = r at *
    have E3 := Lib.hid e3
    clear e3
    have E4 := Lib.hid (run_shr58 r w)
    generalize r / 2 ^ 58 = q at *
    have hc := hT q d2
    rw [d1] at hc
    have E5 := Lib.hid (run_dbidx q d2 w)
    have HC := Lib.hid hc
    clear hc
    have hw : IntKind.i64.wrap ((tzN y : Nat) : Int) = ((tzN y : Nat) : Int) := by rw [IntKind.wrap_i64]; omega
    have h0' : ((y : Int) == 0) = false := by simp; omega
    generalize tzN y = z at *
    clear h0 hT d1
    go_enter Tryz.func101, Tryz.ntmps101
    go_wp2_with (first | ((with_reducible show wpList _ _ _ (⟨some 9, _, _, _, _, _⟩ :: _) _ _); refine BigFrame.wpList_want rfl (fun _ hK => opw_bin rfl rfl rfl rfl E3.out (hK _ _ ?_))) | ((with_reducible show wpList _ _ _ (⟨some 10, _, _, _, _, _⟩ :: _) _ _); refine BigFrame.wpList_want rfl (fun _ hK => opw_bin rfl rfl rfl rfl E4.out (hK _ _ ?_))) | ((with_reducible show wpList _ _ _ (⟨some 11, _, _, _, _, _⟩ :: _) _ _); refine BigFrame.wpList_want rfl (fun _ hK => opw_iaddr rfl rfl rfl E5.out (hK _ _ ?_))) | ((with_reducible show wpList _ _ _ (⟨some 12, _, _, _, _, _⟩ :: _) _ _); refine BigFrame.wpList_want rfl (fun _ hK => opw_cell rfl rfl (by decide +kernel) HC.out (hK _ _ ?_))))
    go_ret
    exact ⟨rfl, rfl⟩

theorem andI127 (v : Int) : ∃ n : Nat, n ≤ 127 ∧ bits .and .i64 v 127 = (n : Int) := by
  have h : (BitVec.ofInt 64 v &&& BitVec.ofInt 64 127).toNat ≤ 127 := by
    rw [BitVec.toNat_and]; exact Nat.le_trans Nat.and_le_right (by decide)
  refine ⟨_, h, ?_⟩
  have e : bits .and .i64 v 127 = IntKind.i64.wrap ((BitVec.ofInt 64 v &&& BitVec.ofInt 64 127).toNat : Int) := rfl
  generalize (BitVec.ofInt 64 v &&& BitVec.ofInt 64 127).toNat = z at *
  rw [e, IntKind.wrap_i64]; omega
section
variable {P : Program} {ops : Array Oper} {rest : List Oper} {o : Oper} {a : Act} {w : World} {Q : Exit → Act → World → Prop}
/-- an operation on two numbers of which nothing is said but that it gives one -/
theorem st_num {op : BinOp} (hg : Region.wanted o (yielded ops a.tmps) = true) (t t2 : TypeId) (x y : Operand) (ho : o.op = .binOp op t x y t2) (hop : op = .add ∨ op = .and ∨ op = .shr) (k k2 : IntKind) (m n : Int) (hx : a.eval x = .int k m) (hy : a.eval y = .int k2 n) (hk2 : op = .shr ∨ k = k2) (hs : op = .shr → 0 ≤ n ∧ n ≤ k.bits)
    (hk : ∀ v : Int, wpList P ops Q rest (a.put o.dst (.int k v)) w) : wpList P ops Q (o :: rest) a w := by
  have : ∃ v : Int, (binOp op t (.int k m) (.int k2 n)).run P w = .ok (.int k v) w := by
    rcases hop with rfl | rfl | rfl
    · obtain rfl := hk2.resolve_left (by decide)
      exact ⟨_, by simp [binOp, Op.intArith]; rfl⟩
    · obtain rfl := hk2.resolve_left (by decide)
      exact ⟨_, by simp [binOp, Op.intBits]; rfl⟩
    · exact ⟨_, by rw [binOp_shr, shift_shr _ _ _ _ (hs rfl).1 (hs rfl).2]; rfl⟩
  obtain ⟨v, hv⟩ := this
  exact BigFrame.wpList_want hg fun _ hK => opw_bin ho hx hy (by simp [eqGuard]) hv (hK _ _ (hk v))
end
theorem ones_any (y : Nat) (w : World) : Calls Tryz.prog 99 #[.int .u64 y] w fun e w' => (∃ n : Nat, n ≤ 127 ∧ e = .returned (.int .i64 n)) ∧ w = w' := by
  have HB := Lib.hid andI127
  go_enter Tryz.func99, Tryz.ntmps99
  go_wp2_with (first
    | ((with_reducible show wpList _ _ _ (⟨_, .binOp .add _ _ _ _, _, _, _, _⟩ :: _) _ _); refine st_num rfl _ _ _ _ rfl (.inl rfl) _ _ _ _ rfl rfl (.inr rfl) (fun h => by cases h) ?_; intro z_)
    | ((with_reducible show wpList _ _ _ (⟨_, .binOp .and 58 _ _ _, _, _, _, _⟩ :: _) _ _); refine st_num rfl _ _ _ _ rfl (.inr (.inl rfl)) _ _ _ _ rfl rfl (.inr rfl) (fun h => by cases h) ?_; intro z_)
    | ((with_reducible show wpList _ _ _ (⟨_, .binOp .shr _ _ _ _, _, _, _, _⟩ :: _) _ _); refine st_num rfl _ _ _ _ rfl (.inr (.inr rfl)) _ _ _ _ rfl rfl (.inl rfl) (fun _ => by decide) ?_; intro z_))
  go_ret
  obtain ⟨n, h1, h2⟩ := HB.out (wrap64 z_)
  exact ⟨⟨n, h1, by rw [← h2]; rfl⟩, rfl⟩
theorem len_any (v : Value) (N : Nat) (D : Nat → Prop) (w0 : World) (hv : IsSet w0 D v N) :
    Calls Tryz.prog 92 #[v] w0 (Ret (fun x _ => ∃ n : Nat, n ≤ 8128 ∧ x = .int .i64 n) w0) := by
  obtain ⟨A, c, l, rfl, hl, rfl, _, _, hs⟩ := hv.parts
  obtain ⟨K, k1, hS⟩ : ∃ K, (∀ D w, K D w → Sl w D 1 (.slice A l.length c) l.length (u64s l)) ∧ St w0 w0 [] K := ⟨_, fun _ _ h => h, St.start stable_sl hs⟩
  have hl64 := hl.2.2
  clear hs hv hl
  go_enter Tryz.func92, Tryz.ntmps92
  go_wp2_with (first | ((with_reducible show wpList _ _ _ (⟨some 1, _, _, _, _, _⟩ :: _) _ _); refine st_box hS rfl _ _ rfl _ _ rfl rfl ?_; clear hS; intro g w_ hS; (try simp only [Act.put, Act.eval, List.set_cons_zero, List.set_cons_succ, List.setIfInBounds_toArray, Array.getD_eq_getD_getElem?, List.getElem?_toArray, List.getElem?_cons_succ, List.getElem?_cons_zero, Option.getD_some, Value.cells] at hS)) | ((with_reducible show wpList _ _ _ (⟨_, .load _ _, _, _, _, _⟩ :: _) _ _); first | (refine st_cell hS 0 rfl _ _ rfl _ _ rfl _ _ rfl (by decide +kernel) _ (by first | assumption | rfl) ?_) | (refine st_cell hS 1 rfl _ _ rfl _ _ rfl _ _ rfl (by decide +kernel) _ (by first | assumption | rfl) ?_) | (refine st_cell hS 2 rfl _ _ rfl _ _ rfl _ _ rfl (by decide +kernel) _ (by first | assumption | rfl) ?_)) | ((with_reducible show wpList _ _ _ (⟨_, .binOp _ _ _ _ _, _, _, _, _⟩ :: _) _ _); (first | ((with_reducible show wpList _ _ _ (⟨_, .binOp .lss _ _ _ _, _, _, _, _⟩ :: _) _ _); refine st_lss rfl _ _ _ _ rfl _ _ _ rfl rfl (fun h_ => ?_) (fun h_ => ?_)) | ((with_reducible show wpList _ _ _ (⟨_, .binOp .leq _ _ _ _, _, _, _, _⟩ :: _) _ _); refine st_leq rfl _ _ _ _ rfl _ _ _ rfl rfl (fun h_ => ?_) (fun h_ => ?_)) | ((with_reducible show wpList _ _ _ (⟨_, .binOp .gtr _ _ _ _, _, _, _, _⟩ :: _) _ _); refine st_gtr rfl _ _ _ _ rfl _ _ _ rfl rfl (fun h_ => ?_) (fun h_ => ?_)) | ((with_reducible show wpList _ _ _ (⟨_, .binOp .geq _ _ _ _, _, _, _, _⟩ :: _) _ _); refine st_geq rfl _ _ _ _ rfl _ _ _ rfl rfl (fun h_ => ?_) (fun h_ => ?_)) | ((with_reducible show wpList _ _ _ (⟨_, .binOp .eql _ _ _ _, _, _, _, _⟩ :: _) _ _); refine st_eql rfl _ _ _ _ rfl _ _ _ rfl rfl (fun h_ => ?_) (fun h_ => ?_)) | ((with_reducible show wpList _ _ _ (⟨_, .binOp .neq _ _ _ _, _, _, _, _⟩ :: _) _ _); refine st_neq rfl _ _ _ _ rfl _ _ _ rfl rfl (fun h_ => ?_) (fun h_ => ?_))) <;> go_prune))
  go_loopw [3, 9] (fun s i wr => ∃ k n : Nat, k ≤ l.length ∧ i = .int .i64 k ∧ n ≤ 127 * k ∧ s = .int .i64 n ∧ St w0 wr [.box g 51 #[.slice A l.length c]] K) (fun _ i _ => l.length - (intOf i).toNat)
  case atStart => exact ⟨0, 0, by omega, rfl, by omega, rfl, hS⟩
  case round =>
    obtain ⟨k, n, hk, rfl, hn, rfl, hS⟩ := hrel
    by_cases hlt : k < l.length
    · have f1 := u64s_at l k hlt
      generalize l.getD k 0 = x at *
      go_wp2_with (first | ((with_reducible show wpList _ _ _ (⟨_, .load _ _, _, _, _, _⟩ :: _) _ _); first | (refine st_cell hS 0 rfl _ _ rfl _ _ rfl _ _ rfl (by decide +kernel) _ (by first | assumption | rfl) ?_) | (refine st_cell hS 1 rfl _ _ rfl _ _ rfl _ _ rfl (by decide +kernel) _ (by first | assumption | rfl) ?_) | (refine st_cell hS 2 rfl _ _ rfl _ _ rfl _ _ rfl (by decide +kernel) _ (by first | assumption | rfl) ?_)) | ((with_reducible show wpList _ _ _ (⟨_, .binOp _ _ _ _ _, _, _, _, _⟩ :: _) _ _); (first | ((with_reducible show wpList _ _ _ (⟨_, .binOp .lss _ _ _ _, _, _, _, _⟩ :: _) _ _); refine st_lss rfl _ _ _ _ rfl _ _ _ rfl rfl (fun h_ => ?_) (fun h_ => ?_)) | ((with_reducible show wpList _ _ _ (⟨_, .binOp .leq _ _ _ _, _, _, _, _⟩ :: _) _ _); refine st_leq rfl _ _ _ _ rfl _ _ _ rfl rfl (fun h_ => ?_) (fun h_ => ?_)) | ((with_reducible show wpList _ _ _ (⟨_, .binOp .gtr _ _ _ _, _, _, _, _⟩ :: _) _ _); refine st_gtr rfl _ _ _ _ rfl _ _ _ rfl rfl (fun h_ => ?_) (fun h_ => ?_)) | ((with_reducible show wpList _ _ _ (⟨_, .binOp .geq _ _ _ _, _, _, _, _⟩ :: _) _ _); refine st_geq rfl _ _ _ _ rfl _ _ _ rfl rfl (fun h_ => ?_) (fun h_ => ?_)) | ((with_reducible show wpList _ _ _ (⟨_, .binOp .eql _ _ _ _, _, _, _, _⟩ :: _) _ _); refine st_eql rfl _ _ _ _ rfl _ _ _ rfl rfl (fun h_ => ?_) (fun h_ => ?_)) | ((with_reducible show wpList _ _ _ (⟨_, .binOp .neq _ _ _ _, _, _, _, _⟩ :: _) _ _); refine st_neq rfl _ _ _ _ rfl _ _ _ rfl rfl (fun h_ => ?_) (fun h_ => ?_))) <;> go_prune) | ((with_reducible show wpList _ _ _ (⟨_, .indexAddr _ _ _, _, _, _, _⟩ :: _) _ _); refine st_iaddr1 hS rfl _ _ _ rfl _ rfl rfl (by assumption) Tryz.underlying49 (by kernel_rfl) (by first | assumption | omega) _ (by assumption) ?_; intro p_ hc_) | (go_at_call 99; refine (ones_any x _).mono ?_; rintro e w2 ⟨⟨m, hm, rfl⟩, rfl⟩))
      exact ⟨⟨k + 1, n + m, hlt, by go_num, by omega, by go_num, hS⟩, by simp [intOf]; omega⟩
    · obtain rfl : k = l.length := by omega
      go_wp2_with (first | ((with_reducible show wpList _ _ _ (⟨_, .load _ _, _, _, _, _⟩ :: _) _ _); first | (refine st_cell hS 0 rfl _ _ rfl _ _ rfl _ _ rfl (by decide +kernel) _ (by first | assumption | rfl) ?_) | (refine st_cell hS 1 rfl _ _ rfl _ _ rfl _ _ rfl (by decide +kernel) _ (by first | assumption | rfl) ?_) | (refine st_cell hS 2 rfl _ _ rfl _ _ rfl _ _ rfl (by decide +kernel) _ (by first | assumption | rfl) ?_)) | ((with_reducible show wpList _ _ _ (⟨_, .binOp _ _ _ _ _, _, _, _, _⟩ :: _) _ _); (first | ((with_reducible show wpList _ _ _ (⟨_, .binOp .lss _ _ _ _, _, _, _, _⟩ :: _) _ _); refine st_lss rfl _ _ _ _ rfl _ _ _ rfl rfl (fun h_ => ?_) (fun h_ => ?_)) | ((with_reducible show wpList _ _ _ (⟨_, .binOp .leq _ _ _ _, _, _, _, _⟩ :: _) _ _); refine st_leq rfl _ _ _ _ rfl _ _ _ rfl rfl (fun h_ => ?_) (fun h_ => ?_)) | ((with_reducible show wpList _ _ _ (⟨_, .binOp .gtr _ _ _ _, _, _, _, _⟩ :: _) _ _); refine st_gtr rfl _ _ _ _ rfl _ _ _ rfl rfl (fun h_ => ?_) (fun h_ => ?_)) | ((with_reducible show wpList _ _ _ (⟨_, .binOp .geq _ _ _ _, _, _, _, _⟩ :: _) _ _); refine st_geq rfl _ _ _ _ rfl _ _ _ rfl rfl (fun h_ => ?_) (fun h_ => ?_)) | ((with_reducible show wpList _ _ _ (⟨_, .binOp .eql _ _ _ _, _, _, _, _⟩ :: _) _ _); refine st_eql rfl _ _ _ _ rfl _ _ _ rfl rfl (fun h_ => ?_) (fun h_ => ?_)) | ((with_reducible show wpList _ _ _ (⟨_, .binOp .neq _ _ _ _, _, _, _, _⟩ :: _) _ _); refine st_neq rfl _ _ _ _ rfl _ _ _ rfl rfl (fun h_ => ?_) (fun h_ => ?_))) <;> go_prune))
      go_ret
      exact Ret.mk ⟨n, by omega, rfl⟩ hS.below
end Go.Proofs.YtenpkgdnlogfiaaGreatDoor
