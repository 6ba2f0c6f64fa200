/-
  The laid tables, as the walks ask for them; a start that fits.
-/
import Derived.Test.YtenpkgdnlogfiaaGreatDoorKec1
import Derived.Test.YtenpkgdnlogfiaaGreatDoorRows
import Derived.ProofKit
import Derived.Lib.LaidU8
import Derived.Lay
namespace Go.Proofs.YtenpkgdnlogfiaaGreatDoor
open Go.RowKit Go.ChangeShapes Go.WideShapes

theorem boxF_of_reads {w : World} {n : String} {g : Nat} {t e : TypeId} {m : Nat} {k : IntKind} {zs : List Int} (hg : Tryz.prog.globalNamed n = some g) (hty : (Tryz.prog.globals[g]?).map (·.type) = some t)
    (ht : Tryz.prog.underlying t = some (.array m e)) (he : Tryz.prog.underlying e = some (.int k)) (hce : Tryz.prog.cellsOf e = 1) (hct : Tryz.prog.cellsOf t = m) (h : Lib.VarReads Tryz.prog w n (Lib.tabData k zs)) :
    ∃ t, BoxF w g t (zs.map fun z => Value.int k z).toArray := by
  obtain ⟨g', t', cs, fuel, p, hg', hty', hvar, hd⟩ := h
  obtain rfl := Option.some.inj (hg.symm.trans hg')
  obtain rfl := Option.some.inj (hty.symm.trans hty')
  have hcs := Lib.cells_of_tab ht he hce hct hd
  simp only [World.var?, hg, Option.bind_some] at hvar
  split at hvar
  · rename_i cs' t'' f heq
    obtain rfl := Option.some.inj hvar
    refine ⟨(t'', f), ?_⟩
    rw [← hcs]
    exact heq
  · cases hvar
theorem tab_of_reads {w : World} (h1 : Lib.VarReads Tryz.prog w "arbac/keccak.rounds" Rows.laid_arbac_keccak_rounds) (h2 : Lib.VarReads Tryz.prog w "arbac/keccak.turns" Rows.laid_arbac_keccak_turns) : Tab w := by
  have e1 : (Rows.laid_arbac_keccak_rounds : DataW Unit) = Lib.tabData .u64 (roundsL.map fun x : Nat => (x : Int)) := by kernel_rfl
  have e2 : (Rows.laid_arbac_keccak_turns : DataW Unit) = Lib.tabData .i64 (turnsL.map fun x : Nat => (x : Int)) := by kernel_rfl
  rw [e1] at h1
  rw [e2] at h2
  obtain ⟨t, b1⟩ := boxF_of_reads (g := 1) (by kernel_rfl) (t := 140) (by kernel_rfl) Tryz.underlying140 Tryz.underlying58 (by kernel_rfl) (by kernel_rfl) h1
  obtain ⟨u, b2⟩ := boxF_of_reads (g := 2) (by kernel_rfl) (t := 142) (by kernel_rfl) Tryz.underlying142 Tryz.underlying3 (by kernel_rfl) (by kernel_rfl) h2
  refine ⟨⟨t, ?_⟩, u, ?_⟩
  · have : (List.map (fun z => Value.int .u64 z) (roundsL.map fun x : Nat => (x : Int))) = u64s roundsL := by simp [u64s]
    rw [← this]; exact b1
  · have : (List.map (fun z => Value.int .i64 z) (turnsL.map fun x : Nat => (x : Int))) = i64s turnsL := by simp [i64s]
    rw [← this]; exact b2
end Go.Proofs.YtenpkgdnlogfiaaGreatDoor
