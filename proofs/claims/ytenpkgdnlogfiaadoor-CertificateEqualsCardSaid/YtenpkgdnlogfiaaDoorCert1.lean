/-
  What the callees of certificate.Check compute: the look for a step out of range, cube.Empty.
-/
import Derived.Test.YtenpkgdnlogfiaaDoorBits5
namespace Go.Proofs.YtenpkgdnlogfiaaDoor
open Go.RowKit
attribute [local go_sem ↓] Go.wp_at_zero Go.wp_at_succ

/-- a number of a rule that is none -/
def outB (k : Int) : Bool := decide (k < 0) || decide (64 ≤ k)
theorem out_any (k : Int) (w : World) : Calls Tryd.prog 33 #[.int .i64 k] w fun e w' => e = .returned (.bool (outB k)) ∧ w = w' := by
  by_cases h0 : k < 0
  · have HR := Lib.hid (show outB k = true by simp [outB, h0])
    go_enter Tryd.func33, Tryd.ntmps33
    go_wp2
    rw [HR.out]
    go_ret
    exact ⟨rfl, rfl⟩
  · by_cases h1 : 64 ≤ k
    · have HR := Lib.hid (show outB k = true by simp [outB, h1])
      go_enter Tryd.func33, Tryd.ntmps33
      go_wp2
      rw [HR.out]
      go_ret
      exact ⟨rfl, rfl⟩
    · have HR := Lib.hid (show outB k = false by simp [outB, h0, h1])
      go_enter Tryd.func33, Tryd.ntmps33
      go_wp2
      rw [HR.out]
      go_ret
      exact ⟨rfl, rfl⟩

def idxOut : List Int → Int
  | [] => -1
  | x :: r => if outB x then 0 else if idxOut r < 0 then -1 else idxOut r + 1
theorem idx_yes {l : List Int} {k : Nat} (hk : k < l.length) (h : ∀ j, j < k → outB (l.getD j 0) = false) (hx : outB (l.getD k 0) = true) : idxOut l = k := by
  induction l generalizing k with
  | nil => simp at hk
  | cons y r ih =>
    cases k with
    | zero => simp at hx; simp [idxOut, hx]
    | succ k =>
      have h0 := h 0 (by omega)
      simp at h0
      have := ih (k := k) (by simp at hk; omega) (fun j hj => by simpa using h (j + 1) (by omega)) (by simpa using hx)
      simp only [idxOut, h0, this]
      simp
      omega
theorem idx_no {l : List Int} (h : ∀ j, j < l.length → outB (l.getD j 0) = false) : idxOut l = -1 := by
  induction l with
  | nil => rfl
  | cons y r ih =>
    have h0 := h 0 (by simp)
    simp at h0
    have := ih (fun j hj => by simpa using h (j + 1) (by simp; omega))
    simp [idxOut, h0, this]
theorem idx_any (l : List Int) : decide (0 ≤ idxOut l) = l.any outB := by
  induction l with
  | nil => rfl
  | cons y r ih =>
    simp only [idxOut, List.any_cons, ← ih]
    by_cases hy : outB y = true
    · simp [hy]
    · by_cases h : idxOut r < 0
      · simp [hy, h]
      · simp [hy, h]; omega

theorem index_any (v : Value) (l : List Int) (w : World) (D : Nat → Prop) (hs : Sl w D 1 v l.length (ints l)) :
    Calls Tryd.prog 64 #[v, .func (.func 33) #[] #[]] w fun e w' => e = .returned (.int .i64 (idxOut l)) ∧ w = w' := by
  have hs0 := hs
  obtain ⟨_, A, c, rfl, hc1, hc2, _⟩ := hs0
  unfold maxLen at hc2
  have HY := Lib.hid fun k => @idx_yes l k
  have HN := Lib.hid (@idx_no l)
  go_enter Tryd.func64, Tryd.ntmps64
  go_wp2
  go_loop [8] (fun i => ∃ k : Nat, k ≤ l.length ∧ i = .int .i64 k ∧ Hid (∀ j, j < k → outB (l.getD j 0) = false)) (fun i => l.length - (intOf i).toNat)
  case atStart => exact ⟨0, by omega, rfl, fun j hj => absurd hj (by omega)⟩
  case round =>
    obtain ⟨k, hk, rfl, hz⟩ := hrel
    by_cases hlt : k < l.length
    · obtain ⟨b, o, rfl, _, hb, hc⟩ := hs.int hlt
      have hx := hc k hlt
      have HYk := Lib.hid (HY.out k hlt hz.out)
      have HZ := Lib.hid (show outB (l.getD k 0) = false → ∀ j, j < k + 1 → outB (l.getD j 0) = false from fun h0 j hj => by
        rcases Nat.lt_or_ge j k with h | h
        · exact hz.out j h
        · obtain rfl : j = k := by omega
          exact h0)
      clear hc hz
      generalize l.getD k 0 = x at *
      go_wp2_with (go_at_call 33; refine (out_any _ _).mono ?_; rintro e w' ⟨rfl, rfl⟩)
      · rename_i hq
        rw [HYk.out (by assumption)]
        go_ret
        exact ⟨rfl, rfl⟩
      · go_round
        case rel => exact ⟨k + 1, hlt, by go_num, HZ.out (by assumption)⟩
        case measure => simp [intOf]; omega
    · have HR := Lib.hid (HN.out fun j hj => hz.out j (by omega))
      go_wp2
      rw [HR.out]
      go_ret
      exact ⟨rfl, rfl⟩

theorem contains_any (v : Value) (l : List Int) (w : World) (D : Nat → Prop) (hs : Sl w D 1 v l.length (ints l)) :
    Calls Tryd.prog 32 #[v, .func (.func 33) #[] #[]] w fun e w' => e = .returned (.bool (l.any outB)) ∧ w = w' := by
  have HR := Lib.hid (idx_any l)
  go_enter Tryd.func32, Tryd.ntmps32
  go_wp2_with (go_at_call 64; refine (index_any _ l _ D hs).mono ?_; rintro e w' ⟨rfl, rfl⟩)
  go_ret
  exact ⟨by rw [← HR.out]; rfl, rfl⟩

theorem cube_empty_any (y n : Value) (Y N : Nat) (w : World) (D E : Nat → Prop) (hy : IsSet w D (.agg #[y]) Y) (hn : IsSet w E (.agg #[n]) N) :
    Calls Tryd.prog 38 #[.agg #[y, n]] w (Ret (fun u _ => u = .bool (Y &&& N != 0)) w) := by
  obtain ⟨A, l, c, rfl⟩ := hy.shape
  obtain ⟨A', l', c', rfl⟩ := hn.shape
  go_enter Tryd.func38, Tryd.ntmps38
  go_wp2_with (go_at_call 67; refine (meets_any _ _ Y N _ D E (hy.alloc _) (hn.alloc _)).mono ?_; rintro e w' ⟨_, rfl, rfl, hb⟩)
  go_ret
  exact Ret.mk rfl (((Below.refl _ _).alloc (Nat.le_refl _) _).trans (hb.mono (by simp)))
end Go.Proofs.YtenpkgdnlogfiaaDoor
