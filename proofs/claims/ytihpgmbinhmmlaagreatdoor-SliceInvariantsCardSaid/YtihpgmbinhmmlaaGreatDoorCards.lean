/-
  DERIVED. GIVEN WITH THE SEED: THE CARDS: each row of YtihpgmbinhmmlaaGreatDoorRows.lean that lists a variable, with what it lists TIED to the program's text (the seventh form; the later family's looks); each row that meets fmt, with fmt's text TOLD by the authors' own Lean function (tested against real Go, not proved from fmt's source: count such statements apart). THE CARD IS WHAT COUNTS. Prove the row's statement (the work); the ties are given (YtihpgmbinhmmlaaGreatDoorTie.lean); close each card by the builder's one call (the guide's Derived/Test/ToyasCard.lean, 'card_holds'). Laid BY PROGRAM, IN A SANDBOX (cutbox-door.mjs). By AI agents, Wed Nov 11 2026. No macro, syntax, notation, axiom, sorry.
-/
import Derived.Test.YtihpgmbinhmmlaaGreatDoorRows
import GoSem.ClaimSeven
namespace Go.Proofs.YtihpgmbinhmmlaaGreatDoor
namespace Rows

/-- THE TIED CARD OF 'arbaclaw33.SliceRelevant'. -/
def sliceRelevantCard : Claim7 := { stood := { row := sliceRelevantRow, standIns := [], harness := (true, "2d0cce7fd9cc136f77960caa9ad49f21584df77fdf1a824aa537d6f087b5c6e9"), looks := false }, kinds := [], alts := [], laidByText := true, laidKinds := [.data], laidTests := true, laidLooks := .later }
def SliceRelevantCardSaid : Prop := Claim7.holds Tryz.pinned (.plain (OpenSpec.ofChange sliceRelevantSpec)) sliceRelevantCard

/-- THE TIED CARD OF 'arbaclaw33.SliceRefuses'. -/
def sliceRefusesCard : Claim7 := { stood := { row := sliceRefusesRow, standIns := [], harness := (true, "2d0cce7fd9cc136f77960caa9ad49f21584df77fdf1a824aa537d6f087b5c6e9"), looks := false }, kinds := [], alts := [], laidByText := true, laidKinds := [.data], laidTests := true, laidLooks := .later }
def SliceRefusesCardSaid : Prop := Claim7.holds Tryz.pinned (.plain (OpenSpec.ofChange sliceRefusesSpec)) sliceRefusesCard

/-- THE TIED CARD OF 'arbaclaw33.SliceDepends'. -/
def sliceDependsCard : Claim7 := { stood := { row := sliceDependsRow, standIns := [], harness := (true, "2d0cce7fd9cc136f77960caa9ad49f21584df77fdf1a824aa537d6f087b5c6e9"), looks := false }, kinds := [], alts := [], laidByText := true, laidKinds := [.data], laidTests := true, laidLooks := .later }
def SliceDependsCardSaid : Prop := Claim7.holds Tryz.pinned (.plain (OpenSpec.ofChange sliceDependsSpec)) sliceDependsCard

/-- THE TIED CARD OF 'arbaclaw33.SliceUseless'. -/
def sliceUselessCard : Claim7 := { stood := { row := sliceUselessRow, standIns := [], harness := (true, "2d0cce7fd9cc136f77960caa9ad49f21584df77fdf1a824aa537d6f087b5c6e9"), looks := false }, kinds := [], alts := [], laidByText := true, laidKinds := [.data], laidTests := true, laidLooks := .later }
def SliceUselessCardSaid : Prop := Claim7.holds Tryz.pinned (.plain (OpenSpec.ofChange sliceUselessSpec)) sliceUselessCard

/-- THE TIED CARD OF 'arbaclaw33.SlicePlans'. -/
def slicePlansCard : Claim7 := { stood := { row := slicePlansRow, standIns := [], harness := (true, "2d0cce7fd9cc136f77960caa9ad49f21584df77fdf1a824aa537d6f087b5c6e9"), looks := false }, kinds := [], alts := [], laidByText := true, laidKinds := [.data], laidTests := true, laidLooks := .later }
def SlicePlansCardSaid : Prop := Claim7.holds Tryz.pinned (.plain (OpenSpec.ofChange slicePlansSpec)) slicePlansCard

/-- THE TIED CARD OF 'arbaclaw33.SliceInvariants'. -/
def sliceInvariantsCard : Claim7 := { stood := { row := sliceInvariantsRow, standIns := [], harness := (true, "2d0cce7fd9cc136f77960caa9ad49f21584df77fdf1a824aa537d6f087b5c6e9"), looks := false }, kinds := [], alts := [], laidByText := true, laidKinds := [.data], laidTests := true, laidLooks := .later }
def SliceInvariantsCardSaid : Prop := Claim7.holds Tryz.pinned (.plain (OpenSpec.ofChange sliceInvariantsSpec)) sliceInvariantsCard

/-- THE TIED CARD OF 'arbaclaw33.SliceOf'. -/
def sliceOfCard : Claim7 := { stood := { row := sliceOfRow, standIns := [], harness := (true, "2d0cce7fd9cc136f77960caa9ad49f21584df77fdf1a824aa537d6f087b5c6e9"), looks := false }, kinds := [], alts := [], laidByText := true, laidKinds := [.data], laidTests := true, laidLooks := .later }
def SliceOfCardSaid : Prop := Claim7.holds Tryz.pinned (.plain (OpenSpec.ofChange sliceOfSpec)) sliceOfCard

/-- THE TIED CARD OF 'arbaclaw33.SliceShortest'. -/
def sliceShortestCard : Claim7 := { stood := { row := sliceShortestRow, standIns := [], harness := (true, "2d0cce7fd9cc136f77960caa9ad49f21584df77fdf1a824aa537d6f087b5c6e9"), looks := false }, kinds := [], alts := [], laidByText := true, laidKinds := [.data], laidTests := true, laidLooks := .later }
def SliceShortestCardSaid : Prop := Claim7.holds Tryz.pinned (.plain (OpenSpec.ofChange sliceShortestSpec)) sliceShortestCard

/-- THE SECOND FORM's CARD OF 'arbaclaw33.SliceRelevant'. -/
def sliceRelevantUptoCard : Claim7 := { stood := { row := sliceRelevantUptoRow, standIns := [], harness := (true, "2d0cce7fd9cc136f77960caa9ad49f21584df77fdf1a824aa537d6f087b5c6e9"), looks := false }, kinds := [], alts := [], laidByText := true, laidKinds := [.data], laidTests := true, laidLooks := .later }
def SliceRelevantUptoCardSaid : Prop := Claim7.holds Tryz.pinned (.plain (OpenSpec.upto sliceRelevantSpec)) sliceRelevantUptoCard

/-- THE SECOND FORM's CARD OF 'arbaclaw33.SliceRefuses'. -/
def sliceRefusesUptoCard : Claim7 := { stood := { row := sliceRefusesUptoRow, standIns := [], harness := (true, "2d0cce7fd9cc136f77960caa9ad49f21584df77fdf1a824aa537d6f087b5c6e9"), looks := false }, kinds := [], alts := [], laidByText := true, laidKinds := [.data], laidTests := true, laidLooks := .later }
def SliceRefusesUptoCardSaid : Prop := Claim7.holds Tryz.pinned (.plain (OpenSpec.upto sliceRefusesSpec)) sliceRefusesUptoCard

/-- THE SECOND FORM's CARD OF 'arbaclaw33.SliceDepends'. -/
def sliceDependsUptoCard : Claim7 := { stood := { row := sliceDependsUptoRow, standIns := [], harness := (true, "2d0cce7fd9cc136f77960caa9ad49f21584df77fdf1a824aa537d6f087b5c6e9"), looks := false }, kinds := [], alts := [], laidByText := true, laidKinds := [.data], laidTests := true, laidLooks := .later }
def SliceDependsUptoCardSaid : Prop := Claim7.holds Tryz.pinned (.plain (OpenSpec.upto sliceDependsSpec)) sliceDependsUptoCard

/-- THE SECOND FORM's CARD OF 'arbaclaw33.SliceUseless'. -/
def sliceUselessUptoCard : Claim7 := { stood := { row := sliceUselessUptoRow, standIns := [], harness := (true, "2d0cce7fd9cc136f77960caa9ad49f21584df77fdf1a824aa537d6f087b5c6e9"), looks := false }, kinds := [], alts := [], laidByText := true, laidKinds := [.data], laidTests := true, laidLooks := .later }
def SliceUselessUptoCardSaid : Prop := Claim7.holds Tryz.pinned (.plain (OpenSpec.upto sliceUselessSpec)) sliceUselessUptoCard

/-- THE SECOND FORM's CARD OF 'arbaclaw33.SlicePlans'. -/
def slicePlansUptoCard : Claim7 := { stood := { row := slicePlansUptoRow, standIns := [], harness := (true, "2d0cce7fd9cc136f77960caa9ad49f21584df77fdf1a824aa537d6f087b5c6e9"), looks := false }, kinds := [], alts := [], laidByText := true, laidKinds := [.data], laidTests := true, laidLooks := .later }
def SlicePlansUptoCardSaid : Prop := Claim7.holds Tryz.pinned (.plain (OpenSpec.upto slicePlansSpec)) slicePlansUptoCard

/-- THE SECOND FORM's CARD OF 'arbaclaw33.SliceInvariants'. -/
def sliceInvariantsUptoCard : Claim7 := { stood := { row := sliceInvariantsUptoRow, standIns := [], harness := (true, "2d0cce7fd9cc136f77960caa9ad49f21584df77fdf1a824aa537d6f087b5c6e9"), looks := false }, kinds := [], alts := [], laidByText := true, laidKinds := [.data], laidTests := true, laidLooks := .later }
def SliceInvariantsUptoCardSaid : Prop := Claim7.holds Tryz.pinned (.plain (OpenSpec.upto sliceInvariantsSpec)) sliceInvariantsUptoCard

/-- THE SECOND FORM's CARD OF 'arbaclaw33.SliceOf'. -/
def sliceOfUptoCard : Claim7 := { stood := { row := sliceOfUptoRow, standIns := [], harness := (true, "2d0cce7fd9cc136f77960caa9ad49f21584df77fdf1a824aa537d6f087b5c6e9"), looks := false }, kinds := [], alts := [], laidByText := true, laidKinds := [.data], laidTests := true, laidLooks := .later }
def SliceOfUptoCardSaid : Prop := Claim7.holds Tryz.pinned (.plain (OpenSpec.upto sliceOfSpec)) sliceOfUptoCard

/-- THE SECOND FORM's CARD OF 'arbaclaw33.SliceShortest'. -/
def sliceShortestUptoCard : Claim7 := { stood := { row := sliceShortestUptoRow, standIns := [], harness := (true, "2d0cce7fd9cc136f77960caa9ad49f21584df77fdf1a824aa537d6f087b5c6e9"), looks := false }, kinds := [], alts := [], laidByText := true, laidKinds := [.data], laidTests := true, laidLooks := .later }
def SliceShortestUptoCardSaid : Prop := Claim7.holds Tryz.pinned (.plain (OpenSpec.upto sliceShortestSpec)) sliceShortestUptoCard
end Rows
end Go.Proofs.YtihpgmbinhmmlaaGreatDoor
