/-
  Reading is one to one: what is read says which bytes were read (plain).
  What certificate.Read gives of the bytes of a certificate, of their beginnings, of longer bytes and of changed ones (plain).
-/
import Derived.Test.YtenpkgdnlogfiaaGreatDoorEnc1
namespace Go.Proofs.YtenpkgdnlogfiaaGreatDoor
open Go.RowKit
set_option maxRecDepth 20000
set_option exponentiation.threshold 5000

/-- the number's bytes, the most significant first, behind a number that is already there -/
def enc7 (x : Nat) : List Nat := (hi7 10 x).reverse
theorem hi7_zero (f : Nat) : hi7 f 0 = [] := by cases f <;> simp [hi7]
theorem hi7_more : ∀ (f x : Nat), x < 128 ^ f → hi7 (f + 1) x = hi7 f x
  | 0, x, h => by
    obtain rfl : x = 0 := by simpa using h
    rfl
  | f + 1, x, h => by
    by_cases h0 : x = 0
    · simp [h0, hi7_zero]
    · rw [hi7, if_neg h0]
      conv => rhs; rw [hi7, if_neg h0]
      rw [hi7_more f (x / 128) (Nat.div_lt_of_lt_mul (by rw [Nat.mul_comm, ← Nat.pow_succ]; exact h))]
theorem enc7_step {v b : Nat} (hv : v * 128 + b < T64) (hb : b < 128) (h0 : v * 128 + b ≠ 0) : enc7 (v * 128 + b) = enc7 v ++ [b + 128] := by
  unfold T64 at hv
  have e1 : (v * 128 + b) % 128 = b := by omega
  have e2 : (v * 128 + b) / 128 = v := by omega
  unfold enc7
  rw [show (10 : Nat) = 9 + 1 from rfl, hi7, if_neg h0, e1, e2, ← hi7_more 9 v (by omega)]
  simp
/-- what a number was read of -/
theorem numR_inv : ∀ (l : List Nat) (v k : Nat), Bytes l → (k = 0 ↔ v = 0) → v < T64 → (numR l v k).2 ≠ 0 →
    (numR l v k).1 < T64 ∧ k < (numR l v k).2 ∧ (numR l v k).2 - k ≤ l.length ∧ enc7 v ++ l.take ((numR l v k).2 - k) = putN (numR l v k).1
  | [], v, k, _, _, _, h => by simp [numR] at h
  | b :: r, v, k, hb, hk, hv, h => by
    have hb8 := hb b (by simp)
    rw [numR] at h ⊢
    by_cases h1 : (k = 0 ∧ b = 128) ∨ 144115188075855871 < v
    · rw [if_pos h1] at h; simp at h
    · rw [if_neg h1] at h ⊢
      have hv2 : v ≤ 144115188075855871 := by omega
      by_cases h2 : b < 128
      · rw [if_pos h2] at h ⊢
        have hm : b % 128 = b := by omega
        rw [hm]
        refine ⟨by unfold T64; omega, by show k < k + 1; omega, by simp, ?_⟩
        have : putN (v * 128 + b) = enc7 v ++ [b] := by
          have e1 : (v * 128 + b) % 128 = b := by omega
          have e2 : (v * 128 + b) / 128 = v := by omega
          simp [putN, enc7, e1, e2]
        rw [this]; simp
      · rw [if_neg h2] at h ⊢
        have hm : b % 128 + 128 = b := by omega
        have hlt : v * 128 + b % 128 < T64 := by unfold T64; omega
        have hne : v * 128 + b % 128 ≠ 0 := by
          intro e
          have : v = 0 := by omega
          have := hk.2 this
          omega
        obtain ⟨i1, i2, i3, i4⟩ := numR_inv r (v * 128 + b % 128) (k + 1) (fun x hx => hb x (by simp [hx])) (by omega) hlt h
        generalize numR r (v * 128 + b % 128) (k + 1) = V at *
        refine ⟨i1, by omega, by simp; omega, ?_⟩
        rw [enc7_step hlt (Nat.mod_lt _ (by decide)) hne, hm] at i4
        rw [show V.2 - k = (V.2 - (k + 1)) + 1 by omega, List.take_succ_cons]
        rw [← i4]; simp
theorem numR_put {l : List Nat} (hb : Bytes l) (h : (numR l 0 0).2 ≠ 0) : (numR l 0 0).1 < T64 ∧ l = putN (numR l 0 0).1 ++ l.drop (numR l 0 0).2 := by
  obtain ⟨i1, _, i3, i4⟩ := numR_inv l 0 0 hb (by simp) (by decide) h
  refine ⟨i1, ?_⟩
  rw [← i4, Nat.sub_zero]
  simp [enc7, hi7_zero, List.take_append_drop]
theorem readUint_err {most : Nat} {l : List Nat} {e : Int} (h : e ≠ 0) : readUint most l e = (0, l, e) := by rw [readUint, if_neg h]
theorem readCount_err {most : Nat} {l : List Nat} {e : Int} (h : e ≠ 0) : readCount most l e = (0, l, e) := by rw [readCount, if_neg h]
theorem readFlag_err {l : List Nat} {e : Int} (h : e ≠ 0) : readFlag l e = (false, l, e) := by unfold readFlag; rw [if_neg h]
theorem readSet_err {most : Nat} {l : List Nat} {e : Int} (h : e ≠ 0) : readSet most l e = (0, l, e) := by rw [readSet, if_neg h]
theorem readUint_inv {most : Nat} {l : List Nat} {e : Int} (hb : Bytes l) (h : (readUint most l e).2.2 = 0) : e = 0 ∧ (readUint most l e).1 ≤ most ∧ (readUint most l e).1 < T64 ∧ l = putN (readUint most l e).1 ++ (readUint most l e).2.1 := by
  by_cases h0 : e = 0
  · subst h0
    unfold readUint at h ⊢
    rw [if_pos rfl] at h ⊢
    split at h
    · simp at h
    · rename_i h1
      split at h
      · simp at h
      · rename_i h2
        rw [if_neg h1, if_neg h2]
        obtain ⟨a, b⟩ := numR_put hb h1
        exact ⟨rfl, by show (numR l 0 0).1 ≤ most; omega, a, b⟩
  · rw [readUint_err h0] at h; exact absurd h h0
theorem readCount_inv {most : Nat} {l : List Nat} {e : Int} (hb : Bytes l) (h : (readCount most l e).2.2 = 0) : e = 0 ∧ (readCount most l e).1 ≤ most ∧ (readCount most l e).1 < T64 ∧ l = putN (readCount most l e).1 ++ (readCount most l e).2.1 := by
  by_cases h0 : e = 0
  · subst h0
    unfold readCount at h ⊢
    rw [if_pos rfl] at h ⊢
    split at h
    · simp at h
    · rename_i h1
      split at h
      · simp at h
      · rename_i h2
        rw [if_neg h1, if_neg h2]
        obtain ⟨a, b⟩ := numR_put hb h1
        exact ⟨rfl, by show (numR l 0 0).1 ≤ most; omega, a, b⟩
  · rw [readCount_err h0] at h; exact absurd h h0
theorem readFlag_inv {l : List Nat} {e : Int} (h : (readFlag l e).2.2 = 0) : e = 0 ∧ l = putFlag (readFlag l e).1 ++ (readFlag l e).2.1 := by
  by_cases h0 : e = 0
  · subst h0
    refine ⟨rfl, ?_⟩
    unfold readFlag at h ⊢
    rw [if_pos rfl] at h ⊢
    cases l with
    | nil => simp at h
    | cons b r =>
      dsimp only at h ⊢
      by_cases h1 : 1 < b
      · rw [if_pos h1] at h; simp at h
      · rw [if_neg h1]
        rcases (by omega : b = 0 ∨ b = 1) with rfl | rfl <;> simp [putFlag]
  · rw [readFlag_err h0] at h; exact absurd h h0
theorem readRaw_inv {n : Nat} {l : List Nat} (h : (readRaw n l 0).2.2 = 0) : (readRaw n l 0).1.length = n ∧ l = (readRaw n l 0).1 ++ (readRaw n l 0).2.1 := by
  unfold readRaw at h ⊢
  rw [if_pos rfl] at h ⊢
  by_cases h1 : l.length < n
  · rw [if_pos h1] at h; simp at h
  · rw [if_neg h1]
    exact ⟨by simp; omega, by simp⟩
theorem readBytes_inv {most : Nat} {l : List Nat} (hb : Bytes l) (h : (readBytes most l 0).2.2 = 0) : (readBytes most l 0).1.length ≤ most ∧ l = putN (readBytes most l 0).1.length ++ ((readBytes most l 0).1 ++ (readBytes most l 0).2.1) := by
  unfold readBytes at h ⊢
  rw [if_pos rfl] at h ⊢
  by_cases h1 : (numR l 0 0).2 = 0
  · rw [if_pos h1] at h; simp at h
  rw [if_neg h1] at h ⊢
  by_cases h2 : most < (numR l 0 0).1
  · rw [if_pos h2] at h; simp at h
  rw [if_neg h2] at h ⊢
  by_cases h3 : l.length - (numR l 0 0).2 < (numR l 0 0).1
  · rw [if_pos h3] at h; simp at h
  rw [if_neg h3]
  obtain ⟨a, b⟩ := numR_put hb h1
  have el : ((l.drop (numR l 0 0).2).take (numR l 0 0).1).length = (numR l 0 0).1 := by simp; omega
  refine ⟨by show (List.take _ _).length ≤ _; rw [el]; omega, ?_⟩
  show l = putN (List.take _ _).length ++ (List.take _ _ ++ List.drop _ _)
  rw [el, List.take_append_drop]
  exact b
theorem valB_get : ∀ (a : List Nat) (k : Nat), Bytes a → k < a.length → (valB a >>> (8 * k)) % 256 = a.getD k 0
  | [], k, _, h => by simp at h
  | x :: r, 0, hb, _ => by
    have := hb x (by simp)
    simp [valB]; omega
  | x :: r, k + 1, hb, h => by
    have h1 := hb x (by simp)
    have ih := valB_get r k (fun y hy => hb y (by simp [hy])) (by simpa using h)
    rw [List.getD_cons_succ, ← ih, valB, show 8 * (k + 1) = 8 + 8 * k by omega, Nat.shiftRight_add]
    congr 2
    rw [Nat.shiftRight_eq_div_pow]; omega
theorem setBytes_valB {a : List Nat} (hb : Bytes a) (he : readErr a = 0) : setBytes (valB a) = a := by
  by_cases h0 : a.length = 0
  · obtain rfl := List.eq_nil_of_length_eq_zero h0
    rfl
  · have hl : a.getD (a.length - 1) 0 ≠ 0 := by
      intro e; unfold readErr at he; rw [if_pos (.inr ⟨by omega, e⟩)] at he; simp at he
    have hlt := valB_lt hb
    have hv := valB_take (l := a) (k := a.length - 1) (by omega)
    rw [show a.length - 1 + 1 = a.length by omega, List.take_length] at hv
    have hge : 2 ^ (8 * (a.length - 1)) ≤ valB a := by
      rw [hv]
      have : 1 * 2 ^ (8 * (a.length - 1)) ≤ a.getD (a.length - 1) 0 * 2 ^ (8 * (a.length - 1)) := Nat.mul_le_mul_right _ (by omega)
      omega
    have hne : valB a ≠ 0 := by have := Nat.two_pow_pos (8 * (a.length - 1)); omega
    have l1 := (Nat.log2_lt hne).2 hlt
    have l2 := (Nat.le_log2 hne).2 hge
    have hm : (valB a).log2 / 8 + 1 = a.length := by omega
    rw [setBytes, if_neg hne, hm]
    apply List.ext_getElem
    · simp
    · intro k h1 h2
      rw [List.getElem_map, List.getElem_range, valB_get a k hb h2, List.getD_eq_getElem?_getD, List.getElem?_eq_getElem h2]; rfl
theorem readSet_inv {most : Nat} {l : List Nat} {e : Int} (hb : Bytes l) (h : (readSet most l e).2.2 = 0) : e = 0 ∧ (readSet most l e).1 < 2 ^ 4096 ∧ ((readSet most l e).1 ≠ 0 → (readSet most l e).1.log2 ≤ most) ∧ l = putSet (readSet most l e).1 ++ (readSet most l e).2.1 := by
  by_cases h0 : e = 0
  · subst h0
    unfold readSet at h ⊢
    rw [if_pos rfl] at h ⊢
    by_cases h1 : (readBytes 512 l 0).2.2 = 0
    · obtain ⟨i1, i2⟩ := readBytes_inv hb h1
      have hbb := (readBytes_mem (most := 512) hb).1
      rw [if_neg (by simpa using h1)] at h ⊢
      generalize readBytes 512 l 0 = V at *
      by_cases h2 : readErr V.1 = 0
      · rw [if_neg (by simpa using h2)] at h ⊢
        by_cases h3 : valB V.1 ≠ 0 ∧ most < (valB V.1).log2
        · rw [if_pos h3] at h; simp at h
        · rw [if_neg h3]
          have hlt := valB_lt hbb
          refine ⟨rfl, Nat.lt_of_lt_of_le hlt (Nat.pow_le_pow_right (by decide) (by omega)), fun h4 => ?_, ?_⟩
          · show (valB V.1).log2 ≤ most
            by_cases h5 : most < (valB V.1).log2
            · exact absurd ⟨h4, h5⟩ h3
            · omega
          · show l = putSet (valB V.1) ++ V.2.1
            rw [putSet, setBytes_valB hbb h2, List.append_assoc]; exact i2
      · rw [if_pos h2] at h; simp at h
    · rw [if_pos h1] at h; exact absurd h h1
  · rw [readSet_err h0] at h; exact absurd h h0
/-- the steps of a plan, read -/
def readNums : Nat → List Nat → Int → List Int × List Nat × Int
  | 0, l, e => ([], l, e)
  | n + 1, l, e => (((readUint 63 l e).1 : Int) :: (readNums n (readUint 63 l e).2.1 (readUint 63 l e).2.2).1, (readNums n (readUint 63 l e).2.1 (readUint 63 l e).2.2).2)
/-- a cube, read -/
def readCube (l : List Nat) (e : Int) : (Nat × Nat) × List Nat × Int :=
  (((readSet 63 l e).1, (readSet 63 (readSet 63 l e).2.1 (readSet 63 l e).2.2).1), (readSet 63 (readSet 63 l e).2.1 (readSet 63 l e).2.2).2)
def readCubes : Nat → List Nat → Int → List (Nat × Nat) × List Nat × Int
  | 0, l, e => ([], l, e)
  | n + 1, l, e => ((readCube l e).1 :: (readCubes n (readCube l e).2.1 (readCube l e).2.2).1, (readCubes n (readCube l e).2.1 (readCube l e).2.2).2)
theorem bytes_suffix {a b : List Nat} (h : Bytes (a ++ b)) : Bytes b := fun x hx => h x (List.mem_append_right _ hx)
theorem readNums_inv : ∀ (n : Nat) (l : List Nat) (e : Int), Bytes l → (readNums n l e).2.2 = 0 → e = 0 ∧ (readNums n l e).1.length = n ∧ (∀ k ∈ (readNums n l e).1, 0 ≤ k ∧ k ≤ 63) ∧ l = ((readNums n l e).1.flatMap fun k => putN k.toNat) ++ (readNums n l e).2.1
  | 0, l, e, _, h => ⟨h, rfl, by simp [readNums], by simp [readNums]⟩
  | n + 1, l, e, hb, h => by
    rw [readNums] at h ⊢
    have hlow : ∀ {l' : List Nat} {e' : Int}, Bytes l' → (readNums n l' e').2.2 = 0 → _ := fun {l' e'} a b => readNums_inv n l' e' a b
    have key : Bytes (readUint 63 l e).2.1 := by
      by_cases h0 : e = 0
      · subst h0; unfold readUint; rw [if_pos rfl]; split
        · exact hb
        · split
          · exact hb
          · exact fun x hx => hb x (List.mem_of_mem_drop hx)
      · rw [readUint_err h0]; exact hb
    obtain ⟨i1, i2, i3, i4⟩ := hlow key h
    obtain ⟨j1, j2, j3, j4⟩ := readUint_inv hb i1
    refine ⟨j1, by simp [i2], ?_, ?_⟩
    · intro k hk
      rcases List.mem_cons.1 hk with rfl | hk
      · omega
      · exact i3 k hk
    · show l = List.flatMap _ (_ :: _) ++ _
      rw [List.flatMap_cons, List.append_assoc, ← i4]
      simpa using j4
theorem readSet_bytes {most : Nat} {l : List Nat} {e : Int} (hb : Bytes l) : Bytes (readSet most l e).2.1 := by
  have hbb : Bytes (readBytes 512 l 0).2.1 := by
    unfold readBytes; rw [if_pos rfl]; split
    · exact hb
    · split
      · exact hb
      · split
        · exact hb
        · exact fun x hx => hb x (List.mem_of_mem_drop (List.mem_of_mem_drop hx))
  unfold readSet
  split
  · split
    · exact hbb
    · split
      · exact hb
      · split
        · exact hb
        · exact hbb
  · exact hb
theorem readCube_inv {l : List Nat} {e : Int} (hb : Bytes l) (h : (readCube l e).2.2 = 0) : e = 0 ∧ l = putCube (readCube l e).1.1 (readCube l e).1.2 ++ (readCube l e).2.1 ∧ Bytes (readCube l e).2.1 := by
  obtain ⟨i1, _, _, i4⟩ := readSet_inv (readSet_bytes hb) (show (readSet 63 (readSet 63 l e).2.1 (readSet 63 l e).2.2).2.2 = 0 from h)
  obtain ⟨j1, _, _, j4⟩ := readSet_inv hb i1
  refine ⟨j1, ?_, readSet_bytes (readSet_bytes hb)⟩
  show l = (putSet (readSet 63 l e).1 ++ putSet (readSet 63 (readSet 63 l e).2.1 (readSet 63 l e).2.2).1) ++ (readSet 63 (readSet 63 l e).2.1 (readSet 63 l e).2.2).2.1
  rw [List.append_assoc, ← i4]; exact j4
theorem readCube_bytes {l : List Nat} {e : Int} (hb : Bytes l) : Bytes (readCube l e).2.1 := readSet_bytes (readSet_bytes hb)
theorem readCubes_inv : ∀ (n : Nat) (l : List Nat) (e : Int), Bytes l → (readCubes n l e).2.2 = 0 → e = 0 ∧ (readCubes n l e).1.length = n ∧ l = ((readCubes n l e).1.flatMap fun z => putCube z.1 z.2) ++ (readCubes n l e).2.1
  | 0, l, e, _, h => ⟨h, rfl, by simp [readCubes]⟩
  | n + 1, l, e, hb, h => by
    rw [readCubes] at h ⊢
    obtain ⟨i1, i2, i3⟩ := readCubes_inv n _ _ (readCube_bytes hb) h
    obtain ⟨j1, j2, _⟩ := readCube_inv hb i1
    refine ⟨j1, by simp [i2], ?_⟩
    show l = List.flatMap _ (_ :: _) ++ _
    rw [List.flatMap_cons, List.append_assoc, ← i3]
    exact j2
theorem readNums_put : ∀ (p : List Int) (r : List Nat), (∀ k ∈ p, 0 ≤ k ∧ k ≤ 63) → readNums p.length ((p.flatMap fun k => putN k.toNat) ++ r) 0 = (p, r, 0)
  | [], r, _ => rfl
  | z :: p, r, h => by
    obtain ⟨h1, h2⟩ := h z (by simp)
    rw [List.length_cons, readNums, List.flatMap_cons, List.append_assoc, readUint_putN (by unfold T64; omega) (by omega)]
    dsimp only
    rw [readNums_put p r fun k hk => h k (by simp [hk])]
    simp; omega
theorem readCubes_put : ∀ (q : List (Nat × Nat)) (r : List Nat), (∀ z ∈ q, z.1 < T64 ∧ z.2 < T64) → readCubes q.length ((q.flatMap fun z => putCube z.1 z.2) ++ r) 0 = (q, r, 0)
  | [], r, _ => rfl
  | (y, n) :: q, r, h => by
    obtain ⟨h1, h2⟩ := h (y, n) (by simp)
    obtain ⟨a1, a2⟩ := small_set h1
    obtain ⟨b1, b2⟩ := small_set h2
    have e : readCube (putSet y ++ (putSet n ++ ((q.flatMap fun z => putCube z.1 z.2) ++ r))) 0 = ((y, n), (q.flatMap fun z => putCube z.1 z.2) ++ r, 0) := by
      unfold readCube
      rw [readSet_put a1 a2]
      dsimp only
      rw [readSet_put b1 b2]
    rw [List.length_cons, readCubes, List.flatMap_cons, List.append_assoc, putCube, List.append_assoc, e]
    dsimp only
    rw [readCubes_put q r fun k hk => h k (by simp [hk])]
/-- the bytes of the parts of a certificate -/
def partsB (c : CertD) : List Nat := c.prob ++ (putFlag c.reach ++ (putN c.plan.length ++ restC c))
/-- the parts of a certificate, read of bytes: the certificate, what is left, the error -/
def parseC (ps : List Nat) : CertD × List Nat × Int :=
  let a := readRaw 32 ps 0
  let b := readFlag a.2.1 a.2.2
  let n := readCount 10000 b.2.1 b.2.2
  let p := readNums n.1 n.2.1 n.2.2
  let m := readCount 2000 p.2.1 p.2.2
  let q := readCubes m.1 m.2.1 m.2.2
  (⟨a.1 ++ List.replicate (32 - a.1.length) 0, b.1, p.1, q.1⟩, q.2.1, q.2.2)
/-- what certificate.Read gives -/
def readC (ps : List Nat) : CertD × Int :=
  if endE (parseC ps).2.1 (parseC ps).2.2 = 0 ∧ checkC (parseC ps).1 = 0 then ((parseC ps).1, 0) else (⟨List.replicate 32 0, false, [], []⟩, 6)
theorem parseC_inv {ps : List Nat} (hb : Bytes ps) (h : (parseC ps).2.2 = 0) : (parseC ps).1.prob.length = 32 ∧ ps = partsB (parseC ps).1 ++ (parseC ps).2.1 := by
  unfold parseC at h ⊢
  dsimp only at h ⊢
  have ha : Bytes (readRaw 32 ps 0).2.1 := by
    unfold readRaw; rw [if_pos rfl]; split
    · exact hb
    · exact fun x hx => hb x (List.mem_of_mem_drop hx)
  have hbb : Bytes (readFlag (readRaw 32 ps 0).2.1 (readRaw 32 ps 0).2.2).2.1 := by
    generalize (readRaw 32 ps 0).2.1 = l at *
    unfold readFlag; split
    · cases l with
      | nil => exact ha
      | cons x r =>
        dsimp only; split
        · exact ha
        · exact fun y hy => ha y (by simp [hy])
    · exact ha
  have hra : ∀ (n : Nat) (e : Int) {l : List Nat}, Bytes l → Bytes (readCount n l e).2.1 := fun n e l hl => by
    unfold readCount; split
    · split
      · exact hl
      · split
        · exact hl
        · exact fun x hx => hl x (List.mem_of_mem_drop hx)
    · exact hl
  have hnn : ∀ (n : Nat) (l : List Nat) (e : Int), Bytes l → Bytes (readNums n l e).2.1 := by
    intro n
    induction n with
    | zero => intro l e hl; exact hl
    | succ n ih =>
      intro l e hl
      refine ih _ _ ?_
      unfold readUint; split
      · split
        · exact hl
        · split
          · exact hl
          · exact fun x hx => hl x (List.mem_of_mem_drop hx)
      · exact hl
  obtain ⟨c1, c2, c3⟩ := readCubes_inv _ _ _ (hra _ _ (hnn _ _ _ (hra _ _ hbb))) h
  obtain ⟨d1, _, _, d2⟩ := readCount_inv (hnn _ _ _ (hra _ _ hbb)) c1
  obtain ⟨e1, e2, _, e3⟩ := readNums_inv _ _ _ (hra _ _ hbb) d1
  obtain ⟨f1, _, _, f2⟩ := readCount_inv hbb e1
  obtain ⟨g1, g2⟩ := readFlag_inv f1
  obtain ⟨k1, k2⟩ := readRaw_inv g1
  refine ⟨by simp [k1], ?_⟩
  conv => lhs; rw [k2, g2, f2, e3, d2, c3]
  simp only [partsB, restC, putCubes, k1, e2, c2, Nat.sub_self, List.replicate_zero, List.append_nil, List.append_assoc]
theorem parseC_put {c : CertD} (h32 : c.prob.length = 32) (hp : c.plan.length ≤ 10000 ∧ ∀ k ∈ c.plan, 0 ≤ k ∧ k ≤ 63) (hq : c.cubes.length ≤ 2000) (hs : Small c.cubes) (r : List Nat) : parseC (partsB c ++ r) = (c, r, 0) := by
  have e : partsB c ++ r = c.prob ++ (putFlag c.reach ++ (putN c.plan.length ++ ((c.plan.flatMap fun k => putN k.toNat) ++ (putN c.cubes.length ++ ((c.cubes.flatMap fun z => putCube z.1 z.2) ++ r))))) := by
    simp only [partsB, restC, putCubes, List.append_assoc]
  unfold parseC
  rw [e, readRaw_append h32]
  dsimp only
  rw [readFlag_putFlag]
  dsimp only
  rw [readCount_putN (by unfold T64; omega) hp.1]
  dsimp only
  rw [readNums_put _ _ hp.2]
  dsimp only
  rw [readCount_putN (by unfold T64; omega) hq]
  dsimp only
  rw [readCubes_put _ _ hs]
  simp [h32]
end Go.Proofs.YtenpkgdnlogfiaaGreatDoor
namespace Go.Proofs.YtenpkgdnlogfiaaGreatDoor
open Go.RowKit
set_option maxRecDepth 20000
set_option exponentiation.threshold 5000

theorem readUint_le (most : Nat) (l : List Nat) (e : Int) : (readUint most l e).1 ≤ most := by
  unfold readUint
  split
  · split
    · exact Nat.zero_le _
    · split
      · exact Nat.zero_le _
      · show (numR l 0 0).1 ≤ most; omega
  · exact Nat.zero_le _
theorem readCount_le (most : Nat) (l : List Nat) (e : Int) : (readCount most l e).1 ≤ most := by
  unfold readCount
  split
  · split
    · exact Nat.zero_le _
    · split
      · exact Nat.zero_le _
      · show (numR l 0 0).1 ≤ most; omega
  · exact Nat.zero_le _
theorem readSet_small (l : List Nat) (e : Int) : (readSet 63 l e).1 < T64 := by
  have h0 : (0 : Nat) < T64 := by decide
  unfold readSet
  split
  · split
    · exact h0
    · split
      · exact h0
      · split
        · exact h0
        · rename_i h
          show valB (readBytes 512 l 0).1 < T64
          by_cases hz : valB (readBytes 512 l 0).1 = 0
          · rw [hz]; exact h0
          · rw [T64_eq]
            refine (Nat.log2_lt hz).1 ?_
            by_cases h5 : 63 < (valB (readBytes 512 l 0).1).log2
            · exact absurd ⟨hz, h5⟩ h
            · omega
  · exact h0
theorem readNums_fit : ∀ (n : Nat) (l : List Nat) (e : Int), (readNums n l e).1.length = n ∧ ∀ k ∈ (readNums n l e).1, 0 ≤ k ∧ k ≤ 63
  | 0, _, _ => ⟨rfl, by simp [readNums]⟩
  | n + 1, l, e => by
    obtain ⟨h1, h2⟩ := readNums_fit n (readUint 63 l e).2.1 (readUint 63 l e).2.2
    refine ⟨by simp [readNums, h1], fun k hk => ?_⟩
    rw [readNums] at hk
    rcases List.mem_cons.1 hk with rfl | hk
    · have := readUint_le 63 l e; omega
    · exact h2 k hk
theorem readCubes_fit : ∀ (n : Nat) (l : List Nat) (e : Int), (readCubes n l e).1.length = n ∧ Small (readCubes n l e).1
  | 0, _, _ => ⟨rfl, fun z hz => by simp [readCubes] at hz⟩
  | n + 1, l, e => by
    obtain ⟨h1, h2⟩ := readCubes_fit n (readCube l e).2.1 (readCube l e).2.2
    refine ⟨by simp [readCubes, h1], fun z hz => ?_⟩
    rw [readCubes] at hz
    rcases List.mem_cons.1 hz with rfl | hz
    · exact ⟨readSet_small _ _, readSet_small _ _⟩
    · exact h2 z hz
theorem readRaw_le (l : List Nat) : (readRaw 32 l 0).1.length ≤ 32 := by
  unfold readRaw; rw [if_pos rfl]; split <;> simp <;> omega
theorem parseC_fit (ps : List Nat) : (parseC ps).1.prob.length = 32 ∧ ((parseC ps).1.plan.length ≤ 10000 ∧ ∀ k ∈ (parseC ps).1.plan, 0 ≤ k ∧ k ≤ 63) ∧ (parseC ps).1.cubes.length ≤ 2000 ∧ Small (parseC ps).1.cubes := by
  unfold parseC
  dsimp only
  have := readRaw_le ps
  refine ⟨by simp; omega, ⟨?_, (readNums_fit _ _ _).2⟩, ?_, (readCubes_fit _ _ _).2⟩
  · rw [(readNums_fit _ _ _).1]; exact readCount_le _ _ _
  · rw [(readCubes_fit _ _ _).1]; exact readCount_le _ _ _
theorem endE_zero {l : List Nat} {e : Int} (h : endE l e = 0) : l = [] ∧ e = 0 := by
  unfold endE at h
  split at h
  · simp at h
  · rename_i hn
    refine ⟨?_, h⟩
    by_cases hl : l = []
    · exact hl
    · exact absurd ⟨h, hl⟩ hn
theorem readC_err (ps : List Nat) (h : (readC ps).2 ≠ 0) : readC ps = (⟨List.replicate 32 0, false, [], []⟩, 6) := by
  unfold readC at h ⊢
  split
  · rename_i hc; rw [if_pos hc] at h; exact absurd rfl h
  · rfl
/-- bytes that are read are those of the certificate -/
theorem readC_ok {ps : List Nat} (hb : Bytes ps) (h : (readC ps).2 = 0) : checkC (readC ps).1 = 0 ∧ bytesC (readC ps).1 = ps ∧ parseC ps = ((readC ps).1, [], 0) := by
  by_cases hc : endE (parseC ps).2.1 (parseC ps).2.2 = 0 ∧ checkC (parseC ps).1 = 0
  · have e : readC ps = ((parseC ps).1, 0) := by rw [readC, if_pos hc]
    obtain ⟨h1, h2⟩ := endE_zero hc.1
    obtain ⟨_, h3⟩ := parseC_inv hb h2
    rw [e]
    refine ⟨hc.2, ?_, ?_⟩
    · rw [bytesC_ok hc.2]
      rw [h1, List.append_nil] at h3
      exact h3.symm
    · show parseC ps = ((parseC ps).1, [], 0)
      rw [← h1, ← h2]
  · rw [readC, if_neg hc] at h; simp at h
/-- a certificate whose bytes are read -/
def Fit (c : CertD) : Prop := checkC c = 0 ∧ c.prob.length = 32 ∧ Bytes c.prob ∧ (c.plan.length ≤ 10000 ∧ ∀ k ∈ c.plan, 0 ≤ k ∧ k ≤ 63) ∧ c.cubes.length ≤ 2000 ∧ Small c.cubes
theorem Fit.parse {c : CertD} (h : Fit c) (r : List Nat) : parseC (bytesC c ++ r) = (c, r, 0) := by
  obtain ⟨h1, h2, _, h4, h5, h6⟩ := h
  rw [bytesC_ok h1]; exact parseC_put h2 h4 h5 h6 r
theorem readC_more {c : CertD} (h : Fit c) (v : Nat) : (readC (bytesC c ++ [v])).2 = 6 := by
  rw [readC, h.parse]
  simp [endE]
theorem readC_cut {c : CertD} (h : Fit c) {k : Nat} (hk : k < (bytesC c).length) : (readC ((bytesC c).take k)).2 = 6 := by
  by_cases h0 : (readC ((bytesC c).take k)).2 = 0
  · exfalso
    have hb : Bytes ((bytesC c).take k) := bytes_take (bytesC_bytes h.2.2.1) k
    obtain ⟨h1, h2, h3⟩ := readC_ok hb h0
    have hf := parseC_fit ((bytesC c).take k)
    rw [h3] at hf
    have e := parseC_put hf.1 hf.2.1 hf.2.2.1 hf.2.2.2 ((bytesC c).drop k)
    have e2 : partsB (readC ((bytesC c).take k)).1 = (bytesC c).take k := (bytesC_ok h1).symm.trans h2
    have e3 := h.parse []
    rw [List.append_nil] at e3
    dsimp only at e
    rw [e2, List.take_append_drop, e3] at e
    injection e with _ e
    injection e with e _
    have := congrArg List.length e
    simp at this; omega
  · rw [readC_err _ h0]
theorem makeC_fit {x : RawCert} (hx : x.ok) (h0 : x.odd = 0) : Fit (makeC x) := by
  have h1 := makeC_plan h0
  have h2 := makeC_cubes hx h0
  refine ⟨makeC_check hx h0, ?_, ?_, ⟨by omega, h1.2⟩, by omega, makeC_small hx⟩
  · show ((List.replicate 32 0).set (x.prob % 32) x.prob).length = 32
    rw [List.length_set, List.length_replicate]
  · show Bytes ((List.replicate 32 0).set (x.prob % 32) x.prob)
    intro y hy
    rcases List.mem_or_eq_of_mem_set hy with h | rfl
    · rw [List.mem_replicate] at h; omega
    · exact hx.1
end Go.Proofs.YtenpkgdnlogfiaaGreatDoor
