/-
  What arbacref36.Same computes.
-/
import Derived.Test.YtenpkgdnlogfiaaGreatDoorRef7
import Derived.Deep.QuietTactic
import Derived.BigQuiet
namespace Go.Proofs.YtenpkgdnlogfiaaGreatDoor
open Go.RowKit
attribute [local go_sem ↓] Go.wp_at_zero Go.wp_at_succ
set_option maxRecDepth 20000

theorem neq_arr (w : World) (a b : List Nat) (hx : a.length = 32) (hy : b.length = 32) : (binOp .neq 27 (.agg (u8s a).toArray) (.agg (u8s b).toArray)).run Tryz.prog w = .ok (.bool (a != b)) w := by
  obtain ⟨i, hi⟩ : ∃ i, Tryz.prog.info? 5 = some i := Option.isSome_iff_exists.1 (show (Tryz.prog.info? 5).isSome = true by kernel_rfl)
  exact run_neq_u8s w _ 5 32 Tryz.underlying27 i hi Tryz.underlying5 (by kernel_rfl) a b hx hy
theorem eqC_false {a b : CertD} (h : ¬ (a.prob = b.prob ∧ a.reach = b.reach ∧ a.plan = b.plan ∧ a.cubes = b.cubes)) : eqC a b = false := by
  cases hq : eqC a b with
  | false => rfl
  | true =>
    exfalso
    simp only [eqC, Bool.and_eq_true, beq_iff_eq] at hq
    exact h hq

end Go.Proofs.YtenpkgdnlogfiaaGreatDoor
