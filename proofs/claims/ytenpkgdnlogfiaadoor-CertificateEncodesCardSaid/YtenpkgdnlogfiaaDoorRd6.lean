/-
  What the writer writes the reader reads (plain).
-/
import Derived.Test.YtenpkgdnlogfiaaDoorRd5
namespace Go.Proofs.YtenpkgdnlogfiaaDoor
open Go.RowKit
set_option maxRecDepth 20000

theorem numR_hi7 : ∀ (f x : Nat) (s : List Nat), x < 128 ^ f → x ≤ 144115188075855871 → numR ((hi7 f x).reverse ++ s) 0 0 = if x = 0 then numR s 0 0 else numR s x (hi7 f x).length
  | 0, x, s, h, _ => by
    obtain rfl : x = 0 := by simpa using h
    simp [hi7]
  | f + 1, x, s, h, hb => by
    by_cases h0 : x = 0
    · simp [hi7, h0]
    · have h1 : x / 128 < 128 ^ f := Nat.div_lt_of_lt_mul (by rw [Nat.mul_comm, ← Nat.pow_succ]; exact h)
      have ih := numR_hi7 f (x / 128) ((x % 128 + 128) :: s) h1 (by omega)
      have e : (hi7 (f + 1) x).reverse ++ s = (hi7 f (x / 128)).reverse ++ ((x % 128 + 128) :: s) := by simp [hi7, h0]
      rw [e, ih, if_neg h0]
      have el : (hi7 (f + 1) x).length = (hi7 f (x / 128)).length + 1 := by simp [hi7, h0]
      rw [el]
      by_cases h2 : x / 128 = 0
      · have ez : hi7 f (x / 128) = [] := by rw [h2]; cases f <;> simp [hi7]
        rw [if_pos h2, ez, numR, if_neg (by omega), if_neg (by omega)]
        congr 1; omega
      · have hn : (hi7 f (x / 128)).length ≠ 0 := by
          cases f with
          | zero => simp at h1; omega
          | succ f => simp [hi7, h2]
        rw [if_neg h2, numR, if_neg (by omega), if_neg (by omega)]
        congr 1; omega
theorem numR_putN {v : Nat} (hv : v < T64) (r : List Nat) : numR (putN v ++ r) 0 0 = (v, (putN v).length) := by
  unfold T64 at hv
  have e : putN v ++ r = (hi7 10 (v / 128)).reverse ++ ((v % 128) :: r) := by simp [putN]
  have el : (putN v).length = (hi7 10 (v / 128)).length + 1 := by simp [putN]
  rw [e, el, numR_hi7 10 (v / 128) _ (by omega) (by omega)]
  by_cases h : v / 128 = 0
  · rw [if_pos h, h, numR, if_neg (by omega), if_pos (by omega)]
    simp [hi7]; omega
  · rw [if_neg h, numR, if_neg (by
      rintro (h1 | h1)
      · omega
      · omega), if_pos (by omega)]
    congr 1; omega
theorem putN_pos (v : Nat) : (putN v).length ≠ 0 := by simp [putN]
theorem readUint_putN {v most : Nat} (hv : v < T64) (hm : v ≤ most) (r : List Nat) : readUint most (putN v ++ r) 0 = (v, r, 0) := by
  have := putN_pos v
  rw [readUint, if_pos rfl, numR_putN hv, if_neg (by omega), if_neg (by omega)]
  simp
theorem readCount_putN {v most : Nat} (hv : v < T64) (hm : v ≤ most) (r : List Nat) : readCount most (putN v ++ r) 0 = (v, r, 0) := by
  have := putN_pos v
  rw [readCount, if_pos rfl, numR_putN hv, if_neg (by omega), if_neg (by omega)]
  simp
theorem readFlag_putFlag (b : Bool) (r : List Nat) : readFlag (putFlag b ++ r) 0 = (b, r, 0) := by cases b <;> simp [readFlag, putFlag]
theorem readRaw_append {n : Nat} {l : List Nat} (h : l.length = n) (r : List Nat) : readRaw n (l ++ r) 0 = (l, r, 0) := by
  subst h
  rw [readRaw, if_pos rfl, if_neg (by simp)]; simp
theorem readBytes_put {l : List Nat} {most : Nat} (h : l.length ≤ most) (hT : l.length < T64) (r : List Nat) : readBytes most (putN l.length ++ (l ++ r)) 0 = (l, r, 0) := by
  have := putN_pos l.length
  rw [readBytes, if_pos rfl, numR_putN hT]
  dsimp only
  rw [if_neg (by omega), if_neg (by omega), if_neg (by simp)]
  simp
theorem valB_append (l : List Nat) (x : Nat) : valB (l ++ [x]) = valB l + x * 2 ^ (8 * l.length) := by
  have h := valB_take (l := l ++ [x]) (k := l.length) (by simp)
  rw [List.take_of_length_le (by simp)] at h
  simpa using h
theorem valB_bytes (N : Nat) : ∀ m, valB ((List.range m).map fun k => (N >>> (8 * k)) % 256) = N % 2 ^ (8 * m)
  | 0 => by simp [valB, Nat.mod_one]
  | m + 1 => by
    rw [List.range_succ, List.map_append, List.map_cons, List.map_nil, valB_append, valB_bytes N m]
    rw [List.length_map, List.length_range, show 8 * (m + 1) = 8 * m + 8 by omega, Nat.pow_add, Nat.mod_mul, Nat.shiftRight_eq_div_pow]
    rw [Nat.mul_comm (2 ^ (8 * m))]
theorem setBytes_val (N : Nat) : valB (setBytes N) = N := by
  unfold setBytes
  split
  · rename_i h; rw [h]; rfl
  · rw [valB_bytes, Nat.mod_eq_of_lt]
    exact Nat.lt_of_lt_of_le Nat.lt_log2_self (Nat.pow_le_pow_right (by decide) (by omega))
theorem setBytes_err {N : Nat} (h : N < 2 ^ 4096) : readErr (setBytes N) = 0 := by
  have h5 := setBytes_len h
  unfold readErr
  rw [if_neg]
  rintro (h1 | ⟨h1, h2⟩)
  · omega
  · have hN : N ≠ 0 := by
      intro e; rw [e] at h1; simp [setBytes] at h1
    have el : (setBytes N).length = N.log2 / 8 + 1 := by simp [setBytes, hN]
    have eg : (setBytes N).getD ((setBytes N).length - 1) 0 = (N >>> (8 * (N.log2 / 8))) % 256 := by
      rw [el]; simp [setBytes, hN]
    rw [eg, Nat.shiftRight_eq_div_pow] at h2
    have hlo : 2 ^ (8 * (N.log2 / 8)) ≤ N := Nat.le_trans (Nat.pow_le_pow_right (by decide) (by omega)) (Nat.log2_self_le hN)
    have hhi : N < 2 ^ (8 * (N.log2 / 8) + 8) := Nat.lt_of_lt_of_le Nat.lt_log2_self (Nat.pow_le_pow_right (by decide) (by omega))
    rw [Nat.pow_add, show (2 : Nat) ^ 8 = 256 from rfl] at hhi
    have hp := Nat.two_pow_pos (8 * (N.log2 / 8))
    generalize 2 ^ (8 * (N.log2 / 8)) = P at *
    have h3 : N / P < 256 := Nat.div_lt_of_lt_mul hhi
    have h4 : 0 < N / P := Nat.div_pos hlo hp
    omega
theorem readSet_put {N most : Nat} (h : N < 2 ^ 4096) (hm : N ≠ 0 → N.log2 ≤ most) (r : List Nat) : readSet most (putSet N ++ r) 0 = (N, r, 0) := by
  have h5 := setBytes_len h
  have e : putSet N ++ r = putN (setBytes N).length ++ (setBytes N ++ r) := by simp [putSet]
  rw [readSet, if_pos rfl, e, readBytes_put h5 (by unfold T64; omega)]
  dsimp only
  rw [if_neg (by simp), setBytes_err h, setBytes_val, if_neg (by simp), if_neg]
  rintro ⟨h1, h2⟩
  have := hm h1
  omega
end Go.Proofs.YtenpkgdnlogfiaaDoor
