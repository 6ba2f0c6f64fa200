/-
  The hash keccak, in plain numbers.
-/
import Derived.Test.YtenpkgdnlogfiaaGreatDoorWire
import Derived.BigRegion
import Derived.StillTailTactics
namespace Go.Proofs.YtenpkgdnlogfiaaGreatDoor
open Go.RowKit
attribute [local go_sem ↓] Go.wp_at_zero Go.wp_at_succ
set_option maxRecDepth 20000

/-- the word x turned to the left by n bits -/
def rotl (x n : Nat) : Nat := (x * 2 ^ n) % T64 ||| x / 2 ^ (64 - n)
theorem rotl_lt {x n : Nat} (h : x < T64) : rotl x n < T64 := or_lt (Nat.mod_lt _ (by simp [T64])) (Nat.lt_of_le_of_lt (Nat.div_le_self _ _) h)
theorem xor_lt {a b : Nat} (ha : a < T64) (hb : b < T64) : a ^^^ b < T64 := Nat.xor_lt_two_pow (n := 64) ha hb
theorem not64_lt (b : Nat) : not64 b < T64 := by unfold not64 T64; omega

theorem wrap_u64 (m : Nat) : IntKind.u64.wrap (m : Int) = ((m % T64 : Nat) : Int) := by
  simp [IntKind.wrap, IntKind.signed, IntKind.bits, T64]
theorem rotl_any (x n : Nat) (w : World) (hx : x < T64) (hn : n < 64) :
    Calls Tryz.prog 104 #[.int .u64 (x : Int), .int .i64 (n : Int)] w (fun e w' => e = .returned (.int .u64 (rotl x n : Nat)) ∧ w' = w) := by
  have h1 : bits .and .u64 (n : Int) 63 = (n : Int) := by
    have := and64 (a := n) (b := 63) (by unfold T64; omega) (by unfold T64; omega)
    rw [show ((63 : Nat) : Int) = 63 from rfl] at this
    rw [this, show (63 : Nat) = 2 ^ 6 - 1 from rfl, Nat.and_two_pow_sub_one_eq_mod, Nat.mod_eq_of_lt (by omega)]
  have h2 : IntKind.u64.wrap (n : Int) = (n : Int) := IntWalk.u64_in _ (by omega)
  have h3 : IntKind.u64.wrap (64 - (n : Int)) = ((64 - n : Nat) : Int) := by rw [IntWalk.u64_in _ (by omega)]; omega
  have h4 : (64 : Int) - (n : Int) = ((64 - n : Nat) : Int) := by omega
  have h5 : IntKind.u64.wrap (((64 - n : Nat) : Nat) : Int) = ((64 - n : Nat) : Int) := IntWalk.u64_in _ (by omega)
  go_enter Tryz.func104, Tryz.ntmps104
  go_wp2_with fail
  go_ret
  refine ⟨?_, rfl⟩
  have h6 : IntKind.u64.wrap ((x : Int) * 2 ^ n) = ((x * 2 ^ n % T64 : Nat) : Int) := by
    rw [show (x : Int) * 2 ^ n = ((x * 2 ^ n : Nat) : Int) by rw [Int.natCast_mul, Int.natCast_pow]; rfl]
    exact wrap_u64 _
  have h7 : (x : Int) / 2 ^ (64 - n) = ((x / 2 ^ (64 - n) : Nat) : Int) := by rw [Int.natCast_ediv, Int.natCast_pow]; rfl
  rw [h6, h7, or64 (Nat.mod_lt _ (by simp [T64])) (Nat.lt_of_le_of_lt (Nat.div_le_self _ _) hx)]
  rfl
theorem notu {b : Nat} (hb : b < T64) : bits .xor .u64 (if IntKind.u64.signed = true then -1 else IntKind.u64.max) (b : Int) = ((not64 b : Nat) : Int) := by
  have h1 : (if IntKind.u64.signed = true then (-1 : Int) else IntKind.u64.max) = ((T64 - 1 : Nat) : Int) := by decide
  rw [h1, xor64 (by unfold T64; omega) hb]
  congr 1
  apply Nat.eq_of_testBit_eq
  intro i
  rcases Nat.lt_or_ge i 64 with h | h
  · rw [Nat.testBit_xor, testBit_not64 hb i h, show T64 - 1 = 2 ^ 64 - 1 from rfl, Nat.testBit_two_pow_sub_one]
    simp [h]
  · rw [Nat.testBit_xor, tb_big hb h, tb_big (not64_lt b) h, tb_big (show T64 - 1 < T64 by unfold T64; omega) h]
    rfl
theorem rotl_one (x : Nat) (w : World) (hx : x < T64) :
    Calls Tryz.prog 104 #[.int .u64 (x : Int), .int .i64 1] w (fun e w' => e = .returned (.int .u64 (rotl x 1 : Nat)) ∧ w' = w) := rotl_any x 1 w hx (by decide)

def roundsL : List Nat := [1, 32898, 9223372036854808714, 9223372039002292224, 32907, 2147483649, 9223372039002292353, 9223372036854808585, 138, 136, 2147516425, 2147483658, 2147516555, 9223372036854775947, 9223372036854808713, 9223372036854808579, 9223372036854808578, 9223372036854775936, 32778, 9223372039002259466, 9223372039002292353, 9223372036854808704, 2147483649, 9223372039002292232]
def turnsL : List Nat := [0, 1, 62, 28, 27, 36, 44, 6, 55, 20, 3, 10, 43, 25, 39, 41, 45, 15, 21, 8, 18, 2, 61, 56, 14]
theorem rounds_lt (k : Nat) : roundsL.getD k 0 < T64 := by
  rcases Nat.lt_or_ge k 24 with h | h
  · have : ∀ j : Fin 24, roundsL.getD j.1 0 < T64 := by decide
    exact this ⟨k, h⟩
  · rw [List.getD_eq_getElem?_getD, List.getElem?_eq_none (by simp [roundsL]; omega)]; simp [T64]
theorem turns_lt (k : Nat) : turnsL.getD k 0 < 64 := by
  rcases Nat.lt_or_ge k 25 with h | h
  · have : ∀ j : Fin 25, turnsL.getD j.1 0 < 64 := by decide
    exact this ⟨k, h⟩
  · rw [List.getD_eq_getElem?_getD, List.getElem?_eq_none (by simp [turnsL]; omega)]; simp
def i64s (l : List Nat) : List Value := l.map fun x : Nat => Value.int .i64 (x : Int)
/-- a block's cells, whatever of them is frozen -/
def BoxF (w : World) (b : Nat) (t : TypeId × (Nat × Nat)) (cs : Array Value) : Prop := w.heap[b]? = some (.cells cs t.1 t.2)
section
variable {w w' : World} {b : Nat} {t : TypeId × (Nat × Nat)} {cs : Array Value}
theorem BoxF.lt (h : BoxF w b t cs) : b < w.heap.size := (Array.getElem?_eq_some_iff.1 h).1
theorem BoxF.cell (h : BoxF w b t cs) (i : Nat) : w.cell? ⟨b, i, none⟩ = cs[i]? := cell_of_row w b i cs t.1 t.2 h
theorem BoxF.below {B : Nat} (h : BoxF w b t cs) (hb : Below B w w') (hl : b < B) : BoxF w' b t cs := (hb.block b hl).trans h
end
/-- the package's tables are laid -/
def Tab (w : World) : Prop := (∃ t, BoxF w 1 t (u64s roundsL).toArray) ∧ ∃ t, BoxF w 2 t (i64s turnsL).toArray
theorem Tab.below {w w' : World} {B : Nat} (h : Tab w) (hb : Below B w w') (h3 : 1 < B ∧ 2 < B) : Tab w' := by
  obtain ⟨⟨t, h1⟩, u, h2⟩ := h
  exact ⟨⟨t, h1.below hb h3.1⟩, u, h2.below hb h3.2⟩
theorem Tab.ext {w w' : World} (h : Tab w) (hb : Below w.heap.size w w') : Tab w' := by
  obtain ⟨⟨t, h1⟩, u, h2⟩ := id h
  exact h.below hb ⟨h1.lt, h2.lt⟩
theorem Tab.alloc {w : World} (h : Tab w) (o : Obj) : Tab (w.alloc o) := h.ext ((Below.refl _ _).alloc (Nat.le_refl _) _)
theorem Tab.wf {w w' : World} {q : Nat} (h : Tab w) (hb : WF (fun _ => False) q w w') (h3 : 1 ≠ q ∧ 2 ≠ q) : Tab w' := by
  obtain ⟨⟨t, h1⟩, u, h2⟩ := id h
  exact ⟨⟨t, (hb.other _ h1.lt h3.1 (fun e => e)).trans h1⟩, u, (hb.other _ h2.lt h3.2 (fun e => e)).trans h2⟩
theorem Tab.turn {w : World} (h : Tab w) {k : Nat} (hk : k < 25) : w.cell? ⟨2, k, none⟩ = some (.int .i64 (turnsL.getD k 0 : Nat)) := by
  obtain ⟨_, u, h2⟩ := h
  rw [h2.cell]
  simp [i64s, List.getD_eq_getElem?_getD, List.getElem?_eq_getElem (show k < turnsL.length from hk)]

section
variable {w : World} {b : Nat} {t : TypeId} {a : List Nat} {rest : List Value}
theorem Box.word (h : Box w b t (u64s a ++ rest).toArray) {i : Nat} (hi : i < a.length) : w.cell? ⟨b, i, none⟩ = some (.int .u64 (a.getD i 0 : Nat)) := by
  rw [h.cell, List.getElem?_toArray, List.getElem?_append_left (by rw [u64s_length]; exact hi), u64s_at _ _ hi]
theorem Box.setW (h : Box w b t (u64s a ++ rest).toArray) {i : Nat} (hi : i < a.length) (x : Nat) : Box (w.setCell ⟨b, i, none⟩ (.int .u64 (x : Int))) b t (u64s (a.set i x) ++ rest).toArray := by
  have := h.set i (.int .u64 (x : Int))
  rw [List.setIfInBounds_toArray, List.set_append_left _ _ (by rw [u64s_length]; exact hi), ← u64s_set] at this
  exact this
end
theorem Words.setN {l : List Nat} (h : Words l) (i : Nat) {x : Nat} (hx : x < T64) : Words (l.set i x) := by
  intro y hy
  rcases List.mem_or_eq_of_mem_set hy with h1 | h1
  · exact h y h1
  · exact h1 ▸ hx

/-- the sums of the columns -/
def kc (a : List Nat) (x : Nat) : Nat := (((a.getD x 0 ^^^ a.getD (x + 5) 0) ^^^ a.getD (x + 10) 0) ^^^ a.getD (x + 15) 0) ^^^ a.getD (x + 20) 0
def kd (c : List Nat) (x : Nat) : Nat := c.getD ((x + 4) % 5) 0 ^^^ rotl (c.getD ((x + 1) % 5) 0) 1
def kbAt (a c : List Nat) (x : Nat) (b : List Nat) (y : Nat) : List Nat := b.set (y + 5 * ((2 * x + 3 * y) % 5)) (rotl (a.getD (x + 5 * y) 0 ^^^ kd c x) (turnsL.getD (x + 5 * y) 0))
def kbRow (a c : List Nat) (b : List Nat) (x : Nat) (k : Nat) : List Nat := (List.range k).foldl (kbAt a c x) b
def kbTo (a c : List Nat) (k : Nat) : List Nat := (List.range k).foldl (fun b x => kbRow a c b x 5) (List.replicate 25 0)
def ka (b : List Nat) (i : Nat) : Nat := b.getD i 0 ^^^ (not64 (b.getD ((i % 5 + 1) % 5 + i / 5 * 5) 0) &&& b.getD ((i % 5 + 2) % 5 + i / 5 * 5) 0)
/-- the first k of 25 words are those of f, the others of a -/
def mixTo (f : Nat → Nat) (a : List Nat) (k : Nat) : List Nat := (List.range 25).map fun j => if j < k then f j else a.getD j 0
def kround (a : List Nat) (c : Nat) : List Nat :=
  let b := kbTo a ((List.range 5).map (kc a)) 5
  ((List.range 25).map (ka b)).set 0 (ka b 0 ^^^ c)
def perm (a : List Nat) : List Nat := roundsL.foldl kround a
theorem kbAt_len (a c : List Nat) (x y : Nat) (b : List Nat) : (kbAt a c x b y).length = b.length := by simp [kbAt]
theorem kbRow_len (a c : List Nat) (b : List Nat) (x k : Nat) : (kbRow a c b x k).length = b.length := by
  unfold kbRow
  induction k with
  | zero => simp
  | succ k ih => rw [List.range_succ, List.foldl_append]; simp [kbAt_len]; exact ih
theorem kbTo_len (a c : List Nat) (k : Nat) : (kbTo a c k).length = 25 := by
  unfold kbTo
  induction k with
  | zero => simp
  | succ k ih => rw [List.range_succ, List.foldl_append]; simp [kbRow_len]; exact ih
theorem kbRow_step (a c : List Nat) (b : List Nat) (x k : Nat) : kbRow a c b x (k + 1) = kbAt a c x (kbRow a c b x k) k := by simp [kbRow, List.range_succ, List.foldl_append]
theorem kbTo_step (a c : List Nat) (k : Nat) : kbTo a c (k + 1) = kbRow a c (kbTo a c k) k 5 := by simp [kbTo, List.range_succ, List.foldl_append]
theorem mixTo_len (f : Nat → Nat) (a : List Nat) (k : Nat) : (mixTo f a k).length = 25 := by simp [mixTo]
theorem mixTo_zero (f : Nat → Nat) (a : List Nat) (h : a.length = 25) : mixTo f a 0 = a := by
  apply List.ext_getElem
  · simp [mixTo, h]
  · intro j h1 h2
    simp [mixTo, List.getElem?_eq_getElem h2]
theorem mixTo_full (f : Nat → Nat) (a : List Nat) : mixTo f a 25 = (List.range 25).map f := by
  apply List.ext_getElem
  · simp [mixTo]
  · intro j h1 h2
    simp [mixTo] at h1
    simp [mixTo, h1]
theorem mixTo_step (f : Nat → Nat) (a : List Nat) (k : Nat) (h : k < 25) : (mixTo f a k).set k (f k) = mixTo f a (k + 1) := by
  apply List.ext_getElem
  · simp [mixTo]
  · intro j h1 h2
    simp [mixTo, List.getElem_set]
    split
    · rename_i h3; subst h3; simp
    · rename_i h3
      by_cases h4 : j < k
      · rw [if_pos h4, if_pos (by omega)]
      · rw [if_neg h4, if_neg (by omega)]
theorem kc_lt {a : List Nat} (h : Words a) (x : Nat) : kc a x < T64 := xor_lt (xor_lt (xor_lt (xor_lt (h.getD _) (h.getD _)) (h.getD _)) (h.getD _)) (h.getD _)
theorem kd_lt {c : List Nat} (h : Words c) (x : Nat) : kd c x < T64 := xor_lt (h.getD _) (rotl_lt (h.getD _))
theorem kbAt_words {a c b : List Nat} (ha : Words a) (hc : Words c) (hb : Words b) (x y : Nat) : Words (kbAt a c x b y) := hb.setN _ (rotl_lt (xor_lt (ha.getD _) (kd_lt hc x)))
theorem kbRow_words {a c b : List Nat} (ha : Words a) (hc : Words c) (hb : Words b) (x k : Nat) : Words (kbRow a c b x k) := by
  induction k with
  | zero => exact hb
  | succ k ih => rw [kbRow_step]; exact kbAt_words ha hc ih x k
theorem Words.zeros (n : Nat) : Words (List.replicate n 0) := by intro x hx; rw [List.eq_of_mem_replicate hx]; simp [T64]
theorem kbTo_words {a c : List Nat} (ha : Words a) (hc : Words c) (k : Nat) : Words (kbTo a c k) := by
  induction k with
  | zero => exact Words.zeros 25
  | succ k ih => rw [kbTo_step]; exact kbRow_words ha hc ih k 5
theorem ka_lt {b : List Nat} (h : Words b) (i : Nat) : ka b i < T64 := xor_lt (h.getD _) (and_lt (not64_lt _))
theorem kc_words {a : List Nat} (h : Words a) : Words ((List.range 5).map (kc a)) := Words.range _ _ fun j _ => kc_lt h j
theorem kround_words {a : List Nat} (h : Words a) {c : Nat} (hc : c < T64) : Words (kround a c) :=
  (Words.range _ _ fun j _ => ka_lt (kbTo_words h (kc_words h) 5) j).setN 0 (xor_lt (ka_lt (kbTo_words h (kc_words h) 5) 0) hc)
theorem kround_len (a : List Nat) (c : Nat) : (kround a c).length = 25 := by simp [kround]
def permTo (a : List Nat) (k : Nat) : List Nat := (roundsL.take k).foldl kround a
theorem permTo_step (a : List Nat) (k : Nat) (h : k < 24) : permTo a (k + 1) = kround (permTo a k) (roundsL.getD k 0) := by
  have h' : k < roundsL.length := h
  rw [permTo, List.take_succ_eq_append_getElem h', List.foldl_append, List.getD_eq_getElem?_getD, List.getElem?_eq_getElem h']
  rfl
theorem permTo_ok {a : List Nat} (h : Words a) (hl : a.length = 25) (k : Nat) (hk : k ≤ 24) : Words (permTo a k) ∧ (permTo a k).length = 25 := by
  induction k with
  | zero => exact ⟨h, hl⟩
  | succ k ih =>
    have := ih (by omega)
    rw [permTo_step a k (by omega)]
    exact ⟨kround_words this.1 (rounds_lt k), kround_len _ _⟩
theorem perm_eq (a : List Nat) : perm a = permTo a 24 := rfl
end Go.Proofs.YtenpkgdnlogfiaaGreatDoor
