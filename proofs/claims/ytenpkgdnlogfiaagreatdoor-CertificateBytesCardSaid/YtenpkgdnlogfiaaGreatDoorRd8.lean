/-
  What CertificateReads computes: true, on all raw certificates, places and bytes.
-/
import Derived.Test.YtenpkgdnlogfiaaGreatDoorRd7
import Derived.Test.YtenpkgdnlogfiaaGreatDoorChk3
namespace Go.Proofs.YtenpkgdnlogfiaaGreatDoor
open Go.RowKit
attribute [local go_sem ↓] Go.wp_at_zero Go.wp_at_succ
set_option maxRecDepth 20000
set_option exponentiation.threshold 5000

section
variable {P : Program} {ops : Array Oper} {rest : List Oper} {o : Oper} {a : Act} {w0 w : World} {F : List Fact} {K : (Nat → Prop) → World → Prop} {Q : Exit → Act → World → Prop}
/-- '[]T{}': an empty row of the call's own -/
theorem st_empty (h : St w0 w F K) (hg : o.guard = none) (t e : TypeId) (ho : o.op = .buildSlice t 0 #[]) (ht : P.underlying t = some (.slice e)) (hb : builtSlice P e 0 [] = some #[]) (size : Nat)
    (hk : ∀ g w', St w0 w' (.own (.slice (some ⟨g, 0, none⟩) 0 0) e size 0 [] :: F) K → wpList P ops Q rest (a.put o.dst (.slice (some ⟨g, 0, none⟩) 0 0)) w') : wpList P ops Q (o :: rest) a w :=
  wpList_buildSlice_op hg t e 0 #[] ho ht #[] (by simpa using hb) fun w' hX hB => hk _ w' (h.new hB _ ⟨by simp, .inr ⟨w.heap.size, 0, #[], rfl, Nat.le_refl _, hX, Nat.le_refl _, by simp [maxLen], by simp, by simp⟩⟩)
end
theorem sl_bytes {w : World} {D : Nat → Prop} {v : Value} {n : Nat} {xs : List Value} {ps : List Nat} (h : Sl w D 1 v n xs) (e : xs = u8s ps) : Sl w D 1 v ps.length (u8s ps) := by
  subst e
  have : ps.length = n := by have := h.1; simpa [u8s] using this
  rw [this]; exact h
theorem eqC_refl (c : CertD) : eqC c c = true := by simp [eqC]
theorem ty_bytes' : SliceTy Tryz.prog 37 5 1 1 := ⟨Tryz.underlying37, by kernel_rfl⟩

end Go.Proofs.YtenpkgdnlogfiaaGreatDoor
