/-
  The laid table of math/bits, as the walks ask for it.
-/
import Derived.Test.YtenpkgdnlogfiaaGreatDoorOpen2
import Derived.Test.YtenpkgdnlogfiaaGreatDoorTz
namespace Go.Proofs.YtenpkgdnlogfiaaGreatDoor
open Go.RowKit Go.ChangeShapes Go.WideShapes

theorem dtab_of_reads {w : World} (h1 : Lib.VarReads Tryz.prog w "math/bits.deBruijn64tab" Rows.laid_math_bits_deBruijn64tab) : DTab w := by
  have e1 : (Rows.laid_math_bits_deBruijn64tab : DataW Unit) = Lib.tabData .u8 (dbL.map fun x : Nat => (x : Int)) := by kernel_rfl
  rw [e1] at h1
  obtain ⟨t, b1⟩ := boxF_of_reads (g := 0) (by kernel_rfl) (t := 139) (by kernel_rfl) Tryz.underlying139 Tryz.underlying5 (by kernel_rfl) (by kernel_rfl) h1
  have e : (List.map (fun z => Value.int .u8 z) (dbL.map fun x : Nat => (x : Int))) = u8s dbL := by simp [u8s]
  rw [e] at b1
  intro q hq
  rw [b1.cell, List.getElem?_toArray]
  exact u8s_at _ _ hq
theorem tabs_of_reads {w : World} (h0 : Lib.VarReads Tryz.prog w "math/bits.deBruijn64tab" Rows.laid_math_bits_deBruijn64tab) (h1 : Lib.VarReads Tryz.prog w "arbac/keccak.rounds" Rows.laid_arbac_keccak_rounds) (h2 : Lib.VarReads Tryz.prog w "arbac/keccak.turns" Rows.laid_arbac_keccak_turns) : DTab w ∧ Tab w :=
  ⟨dtab_of_reads h0, tab_of_reads h1 h2⟩
end Go.Proofs.YtenpkgdnlogfiaaGreatDoor
