/-
  The cubes that the references make of raw ones (arbacref14.Make, Fit, Empty).
-/
import Derived.Test.YtenpkgdnlogfiaaGreatDoorRef2
namespace Go.Proofs.YtenpkgdnlogfiaaGreatDoor
open Go.RowKit
attribute [local go_sem ↓] Go.wp_at_zero Go.wp_at_succ
set_option maxRecDepth 20000

/-- the cube over the roles 1 to 6 of two bytes -/
def make14 (a b : Nat) : Nat × Nat := (2 * (a &&& b &&& 63), 2 * ((a % 64) &&& (255 - b)))
theorem wrap_u64_small (x : Nat) (h : x < T64) : IntKind.u64.wrap (x : Int) = (x : Int) := by
  unfold T64 at h
  have : IntKind.u64.wrap (x : Int) = (x : Int) % 18446744073709551616 := by simp [IntKind.wrap]; try rfl
  rw [this]; omega
theorem make14_eq (a b : Nat) (ha : a < 256) (hb : b < 256) :
    IntKind.u64.wrap (IntKind.u64.wrap (bits .and .u8 (bits .and .u8 (a : Int) (b : Int)) 63) * 2) = (((make14 a b).1 : Nat) : Int) ∧
    IntKind.u64.wrap (IntKind.u64.wrap (bits .and .u8 ((a : Int) % 64) (255 - (b : Int))) * 2) = (((make14 a b).2 : Nat) : Int) := by
  have h1 : a &&& b < 256 := Nat.lt_of_le_of_lt Nat.and_le_left ha
  have h2 : a &&& b &&& 63 < 64 := Nat.lt_of_le_of_lt Nat.and_le_right (by omega)
  have h3 : (a % 64) &&& (255 - b) < 64 := Nat.lt_of_le_of_lt Nat.and_le_left (by omega)
  have e1 := u8_and_nat a b ha hb
  have e2 := u8_and_nat (a &&& b) 63 h1 (by omega)
  have e3 := u8_and_nat (a % 64) (255 - b) (by omega) (by omega)
  rw [show ((63 : Nat) : Int) = 63 from rfl] at e2
  rw [show ((a % 64 : Nat) : Int) = (a : Int) % 64 by omega, show ((255 - b : Nat) : Int) = 255 - (b : Int) by omega] at e3
  rw [e1, e2, e3, wrap_u64_small _ (by unfold T64; omega), wrap_u64_small _ (by unfold T64; omega)]
  constructor
  · rw [show ((a &&& b &&& 63 : Nat) : Int) * 2 = ((2 * (a &&& b &&& 63) : Nat) : Int) by omega, wrap_u64_small _ (by unfold T64; omega)]; rfl
  · rw [show (((a % 64) &&& (255 - b) : Nat) : Int) * 2 = ((2 * ((a % 64) &&& (255 - b)) : Nat) : Int) by omega, wrap_u64_small _ (by unfold T64; omega)]; rfl
/-- the value of a cube as the references have it -/
def rcube (z : Nat × Nat) : Value := .agg #[.int .u64 (z.1 : Nat), .int .u64 (z.2 : Nat)]
theorem r14make_any (a b : Nat) (ha : a < 256) (hb : b < 256) (w : World) :
    Calls Tryz.prog 46 #[.int .u8 a, .int .u8 b] w (Ret (fun x _ => x = rcube (make14 a b)) w) := by
  have hq := make14_eq a b ha hb
  have HQ := Lib.hid hq
  clear hq
  go_enter Tryz.func46, Tryz.ntmps46
  go_wp2
  rw [HQ.out.1, HQ.out.2]
  refine bodyPost_ret (v := rcube (make14 a b)) (by simp [results, Tryz.results46, go_sem, rcube]) rfl ?_
  exact Ret.mk rfl ((Below.refl _ _).alloc (Nat.le_refl _) _)
/-- a raw cube -/
structure RawC where
  a : Nat
  b : Nat
  odd : Bool
def RawC.ok (x : RawC) : Prop := x.a < 256 ∧ x.b < 256
/-- the cube that a raw one stands for -/
def fit (x : RawC) : Nat × Nat := if x.odd then (x.a &&& 254, x.b &&& 254) else make14 x.a x.b
theorem fit_eq (a : Nat) (ha : a < 256) : IntKind.u64.wrap (bits .and .u8 (a : Int) 254) = ((a &&& 254 : Nat) : Int) := by
  have e := u8_and_nat a 254 ha (by omega)
  rw [show ((254 : Nat) : Int) = 254 from rfl] at e
  have h2 : a &&& 254 < 256 := Nat.lt_of_le_of_lt Nat.and_le_left ha
  rw [e, wrap_u64_small _ (by unfold T64; omega)]
theorem fit_any (x : RawC) (hx : x.ok) (w : World) :
    Calls Tryz.prog 17 #[.agg #[.int .u8 x.a, .int .u8 x.b, .bool x.odd]] w (Ret (fun u _ => u = rcube (fit x)) w) := by
  obtain ⟨a, b, odd⟩ := x
  obtain ⟨ha, hb⟩ := hx
  dsimp only at ha hb ⊢
  have HA := Lib.hid (fit_eq a ha)
  have HB := Lib.hid (fit_eq b hb)
  cases odd
  · go_enter Tryz.func17, Tryz.ntmps17
    go_wp2_with fail
    have hA := Box.new (w.alloc (.cells #[.int .u8 a, .int .u8 b, .bool false] 57)) 60 #[.int .u64 0, .int .u64 0]
    have hB := ((Below.refl w.heap.size w).alloc (Nat.le_refl _) (.cells #[.int .u8 a, .int .u8 b, .bool false] 57)).alloc (by simp) (.cells #[.int .u64 0, .int .u64 0] 60)
    rw [World.size_alloc] at hA
    generalize ((w.alloc (.cells #[.int .u8 a, .int .u8 b, .bool false] 57)).alloc (.cells #[.int .u64 0, .int .u64 0] 60)) = W at *
    refine (r14make_any a b ha hb W).mono ?_
    rintro e w1 ⟨_, rfl, rfl, hb1⟩
    replace hA := hA.ext hb1
    replace hB := bel_tr hB hb1
    go_wp2_with ((with_reducible show wpList _ _ _ (⟨none, _, _, _, _, _⟩ :: _) _ _); refine wpList_store_op rfl 60 _ _ rfl (w.heap.size + 1) #[.int .u64 ((make14 a b).1 : Nat), .int .u64 ((make14 a b).2 : Nat)] rfl rfl _ _ hA (by kernel_rfl) (by kernel_rfl) (by kernel_rfl) ?_; intro w4 hX hU)
    exact ret_cell rfl rfl hX Tryz.underlying60 rfl (by kernel_rfl) rfl (Ret.mk (by simp [rcube, fit]) (hU.below hB (by omega)))
  · go_enter Tryz.func17, Tryz.ntmps17
    go_wp2_with fail
    rw [HA.out, HB.out]
    refine bodyPost_ret (v := rcube (fit ⟨a, b, true⟩)) (by simp [results, Tryz.results17, go_sem, rcube, fit]) rfl ?_
    exact Ret.mk rfl (((Below.refl _ _).alloc (Nat.le_refl _) _).alloc (by simp) _)
end Go.Proofs.YtenpkgdnlogfiaaGreatDoor
