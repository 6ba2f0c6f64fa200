/-
  A certificate of a proper form: what the reader reads of its bytes (plain).
-/
import Derived.Test.YtenpkgdnlogfiaaGreatDoorRd4
import Derived.Test.YtenpkgdnlogfiaaGreatDoorCEq1
namespace Go.Proofs.YtenpkgdnlogfiaaGreatDoor
open Go.RowKit
set_option maxRecDepth 20000
set_option exponentiation.threshold 5000

theorem make14_ok {a b : Nat} (ha : a < 256) (hb : b < 256) : cubeE (make14 a b).1 (make14 a b).2 = 0 := by
  have hp : a &&& b &&& 63 ≤ 63 := Nat.and_le_right
  have hq : (a % 64) &&& (255 - b) ≤ 63 := Nat.le_trans Nat.and_le_left (by omega)
  have h0 : (a &&& b &&& 63) &&& ((a % 64) &&& (255 - b)) = 0 := by
    apply Nat.eq_of_testBit_eq
    intro i
    simp only [Nat.testBit_and, Nat.zero_testBit, show 255 - b = 2 ^ 8 - (b + 1) by omega, Nat.testBit_two_pow_sub_succ (show b < 2 ^ 8 by omega)]
    cases b.testBit i <;> simp
  unfold make14
  generalize a &&& b &&& 63 = p at *
  generalize (a % 64) &&& (255 - b) = q at *
  have key : ∀ p, p < 64 → ∀ q, q < 64 → p &&& q = 0 → cubeE (2 * p) (2 * q) = 0 := by decide +kernel
  exact key p (by omega) q (by omega) h0
theorem cubesE_zero {l : List (Nat × Nat)} (h : ∀ z ∈ l, cubeE z.1 z.2 = 0) : cubesE l = 0 := by
  induction l with
  | nil => rfl
  | cons z r ih =>
    obtain ⟨y, n⟩ := z
    rw [cubesE, if_pos (h (y, n) (by simp))]
    exact ih fun z hz => h z (by simp [hz])
theorem cubesM_ok {x : RawCert} (hx : x.ok) (h0 : x.odd = 0) : ∀ z ∈ cubesM x, cubeE z.1 z.2 = 0 := by
  intro z hz
  obtain ⟨c, hc, rfl⟩ := List.mem_map.1 hz
  have hc' := hx.2.2 c (List.mem_of_mem_take hc)
  simp only [fitO, h0, fit]
  simp only [Nat.lt_irrefl, decide_false, Bool.and_false, Bool.false_eq_true, if_false]
  exact make14_ok hc'.1 hc'.2
theorem stepO_ok (s : Int) : 0 ≤ stepO 0 s ∧ stepO 0 s ≤ 63 := by
  have h : (BitVec.ofInt 64 s &&& BitVec.ofInt 64 63).toNat ≤ 63 := by
    rw [BitVec.toNat_and]; exact Nat.le_trans Nat.and_le_right (by decide)
  have e : stepO 0 s = IntKind.i64.wrap ((BitVec.ofInt 64 s &&& BitVec.ofInt 64 63).toNat : Int) := rfl
  generalize (BitVec.ofInt 64 s &&& BitVec.ofInt 64 63).toNat = z at *
  rw [e, IntKind.wrap_i64]; omega
theorem makeC_plan {x : RawCert} (h0 : x.odd = 0) : (makeC x).plan.length ≤ 12 ∧ ∀ k ∈ (makeC x).plan, 0 ≤ k ∧ k ≤ 63 := by
  have h1 : (planM x).length ≤ 12 := by simp [planM]; omega
  have h2 : ∀ k ∈ planM x, 0 ≤ k ∧ k ≤ 63 := by
    intro k hk
    obtain ⟨s, _, rfl⟩ := List.mem_map.1 hk
    rw [h0]; exact stepO_ok s
  unfold makeC
  dsimp only
  generalize List.replicate 10001 (0 : Int) = M
  rw [h0, if_neg (by decide)]
  split
  · exact ⟨by simp, by simp⟩
  · exact ⟨h1, h2⟩
theorem makeC_cubes {x : RawCert} (hx : x.ok) (h0 : x.odd = 0) : (makeC x).cubes.length ≤ 8 ∧ ∀ z ∈ (makeC x).cubes, cubeE z.1 z.2 = 0 := by
  have h1 : (cubesM x).length ≤ 8 := by simp [cubesM]; omega
  have h2 := cubesM_ok hx h0
  unfold makeC
  dsimp only
  generalize List.replicate 2001 ((0 : Nat), (0 : Nat)) = M
  rw [h0, if_neg (by decide), if_neg (by decide)]
  split
  · exact ⟨by simp, by simp⟩
  · exact ⟨h1, h2⟩
theorem makeC_form {x : RawCert} (h0 : x.odd = 0) : ((makeC x).reach = true → (makeC x).cubes = []) ∧ ((makeC x).reach = false → (makeC x).plan = []) := by
  unfold makeC
  dsimp only
  generalize List.replicate 2001 ((0 : Nat), (0 : Nat)) = M
  generalize List.replicate 10001 (0 : Int) = M'
  rw [h0]
  constructor
  · intro h; rw [if_neg (by decide), if_neg (by decide), if_pos ⟨rfl, h⟩]
  · intro h; rw [if_neg (by decide), if_pos ⟨rfl, h⟩]
theorem makeC_check {x : RawCert} (hx : x.ok) (h0 : x.odd = 0) : checkC (makeC x) = 0 := by
  have h1 := makeC_plan h0
  have h2 := makeC_cubes hx h0
  have h3 := makeC_form h0
  generalize makeC x = c at *
  unfold checkC
  rw [if_neg (by omega), if_neg, if_neg]
  · exact cubesE_zero h2.2
  · rw [List.any_eq_true]
    rintro ⟨k, hk, hb⟩
    have := h1.2 k hk
    simp [outB] at hb
    omega
  · rintro (⟨h, h'⟩ | ⟨h, h'⟩)
    · rw [h3.1 h] at h'; simp at h'
    · rw [h3.2 h] at h'; simp at h'
/-- what is left of a certificate's bytes behind its flag -/
def restC (c : CertD) : List Nat := (c.plan.flatMap fun k => putN k.toNat) ++ putCubes c.cubes
theorem bytesC_ok {c : CertD} (h : checkC c = 0) : bytesC c = c.prob ++ (putFlag c.reach ++ (putN c.plan.length ++ restC c)) := by rw [bytesC, if_pos h]; rfl
theorem bytes_app {a b : List Nat} (ha : Bytes a) (hb : Bytes b) : Bytes (a ++ b) := fun x hx => by
  rcases List.mem_append.1 hx with h | h
  · exact ha x h
  · exact hb x h
theorem bytes_flag (b : Bool) : Bytes (putFlag b) := by cases b <;> intro x hx <;> simp [putFlag] at hx <;> omega
theorem bytes_set (N : Nat) : Bytes (putSet N) := bytes_app (putN_byte _) (setBytes_byte N)
theorem bytes_flat {α : Type} (l : List α) (f : α → List Nat) (h : ∀ x, Bytes (f x)) : Bytes (l.flatMap f) := fun x hx => by
  obtain ⟨y, _, hy⟩ := List.mem_flatMap.1 hx
  exact h y x hy
theorem bytes_rest (c : CertD) : Bytes (restC c) := bytes_app (bytes_flat _ _ fun _ => putN_byte _) (bytes_app (putN_byte _) (bytes_flat _ _ fun _ => bytes_app (bytes_set _) (bytes_set _)))
theorem rest_len {c : CertD} (h1 : c.plan.length ≤ 12) (h2 : c.cubes.length ≤ 8) (h3 : Small c.cubes) : (restC c).length ≤ 10000 := by
  have a1 := plan_len c.plan
  have a2 := flat_len c.cubes fun z hz => by
    have h := h3 z hz
    have e : T64 ≤ 2 ^ 4096 := by rw [T64_eq]; exact Nat.pow_le_pow_right (by decide) (by decide)
    exact ⟨Nat.lt_of_lt_of_le h.1 e, Nat.lt_of_lt_of_le h.2 e⟩
  have a3 := putN_len c.cubes.length
  simp only [restC, putCubes, List.length_append]
  omega
theorem t64_4096 : T64 ≤ 2 ^ 4096 := by rw [T64_eq]; exact Nat.pow_le_pow_right (by decide) (by decide)
theorem small_set {N : Nat} (h : N < T64) : N < 2 ^ 4096 ∧ (N ≠ 0 → N.log2 ≤ 63) := by
  refine ⟨Nat.lt_of_lt_of_le h t64_4096, fun h0 => ?_⟩
  have := (Nat.log2_lt h0).2 (by rw [T64_eq] at h; exact h)
  omega
theorem flat_drop {l : List (Nat × Nat)} (hs : Small l) (hl : l.length ≤ 8) (k : Nat) : ((l.drop (k + 1)).flatMap fun z => putCube z.1 z.2).length ≤ 20000 := by
  have a2 := flat_len (l.drop (k + 1)) fun z hz => by
    have h := hs z (List.mem_of_mem_drop hz)
    exact ⟨Nat.lt_of_lt_of_le h.1 t64_4096, Nat.lt_of_lt_of_le h.2 t64_4096⟩
  rw [List.length_drop] at a2; omega
theorem drop_getD {α : Type} (l : List α) (d : α) {k : Nat} (h : k < l.length) : l.drop k = l.getD k d :: l.drop (k + 1) := by
  rw [List.drop_eq_getElem_cons h, List.getD_eq_getElem?_getD, List.getElem?_eq_getElem h]; rfl
end Go.Proofs.YtenpkgdnlogfiaaGreatDoor
