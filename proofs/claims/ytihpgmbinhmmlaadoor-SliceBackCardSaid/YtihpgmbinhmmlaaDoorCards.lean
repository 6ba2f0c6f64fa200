/-
  DERIVED. GIVEN WITH THE SEED: THE CARDS: each row of YtihpgmbinhmmlaaDoorRows.lean that lists a variable, with what it lists TIED to the program's text (the seventh form; the later family's looks); each row that meets fmt, with fmt's text TOLD by the authors' own Lean function (tested against real Go, not proved from fmt's source: count such statements apart). THE CARD IS WHAT COUNTS. Prove the row's statement (the work); the ties are given (YtihpgmbinhmmlaaDoorTie.lean); close each card by the builder's one call (the guide's Derived/Test/ToyasCard.lean, 'card_holds'). Laid BY PROGRAM, IN A SANDBOX (cutbox-door.mjs). By AI agents, Wed Nov 11 2026. No macro, syntax, notation, axiom, sorry.
-/
import Derived.Test.YtihpgmbinhmmlaaDoorRows
import GoSem.ClaimSeven
namespace Go.Proofs.YtihpgmbinhmmlaaDoor
namespace Rows

/-- THE TIED CARD OF 'arbaclaw33.SliceBack'. -/
def sliceBackCard : Claim7 := { stood := { row := sliceBackRow, standIns := [], harness := (true, "a28f260433cf48d5b02cf20bbfb4c15c4404908dfe89d4949903d5c473a80610"), looks := false }, kinds := [], alts := [], laidByText := true, laidKinds := [.data], laidTests := true, laidLooks := .later }
def SliceBackCardSaid : Prop := Claim7.holds Tryd.pinned (.plain (OpenSpec.ofChange sliceBackSpec)) sliceBackCard

/-- THE SECOND FORM's CARD OF 'arbaclaw33.SliceBack'. -/
def sliceBackUptoCard : Claim7 := { stood := { row := sliceBackUptoRow, standIns := [], harness := (true, "a28f260433cf48d5b02cf20bbfb4c15c4404908dfe89d4949903d5c473a80610"), looks := false }, kinds := [], alts := [], laidByText := true, laidKinds := [.data], laidTests := true, laidLooks := .later }
def SliceBackUptoCardSaid : Prop := Claim7.holds Tryd.pinned (.plain (OpenSpec.upto sliceBackSpec)) sliceBackUptoCard
end Rows
end Go.Proofs.YtihpgmbinhmmlaaDoor
