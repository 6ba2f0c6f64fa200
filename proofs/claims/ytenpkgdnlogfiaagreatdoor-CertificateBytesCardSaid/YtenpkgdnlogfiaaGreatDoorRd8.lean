/-
  What CertificateReads computes: true, on all raw certificates, places and bytes.
-/
import Derived.Test.YtenpkgdnlogfiaaGreatDoorRd7
import Derived.Test.YtenpkgdnlogfiaaGreatDoorChk3
namespace Go.Proofs.YtenpkgdnlogfiaaGreatDoor
open Go.RowKit
attribute [local go_sem ↓] Go.wp_at_zero Go.wp_at_succ
set_option maxRecDepth 20000
set_option exponentiation.threshold 5000

theorem sl_bytes {w : World} {D : Nat → Prop} {v : Value} {n : Nat} {xs : List Value} {ps : List Nat} (h : Sl w D 1 v n xs) (e : xs = u8s ps) : Sl w D 1 v ps.length (u8s ps) := by
  subst e
  have : ps.length = n := by have := h.1; simpa [u8s] using this
  rw [this]; exact h
theorem eqC_refl (c : CertD) : eqC c c = true := by simp [eqC]
theorem ty_bytes' : SliceTy Tryz.prog 37 5 1 1 := ⟨Tryz.underlying37, by kernel_rfl⟩

end Go.Proofs.YtenpkgdnlogfiaaGreatDoor
