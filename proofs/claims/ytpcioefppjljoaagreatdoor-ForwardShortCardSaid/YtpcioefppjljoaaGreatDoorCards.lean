/-
  DERIVED. GIVEN WITH THE SEED: THE CARDS: each row of YtpcioefppjljoaaGreatDoorRows.lean that lists a variable, with what it lists TIED to the program's text (the seventh form; the later family's looks); each row that meets fmt, with fmt's text TOLD by the authors' own Lean function (tested against real Go, not proved from fmt's source: count such statements apart). THE CARD IS WHAT COUNTS. Prove the row's statement (the work); the ties are given (YtpcioefppjljoaaGreatDoorTie.lean); close each card by the builder's one call (the guide's Derived/Test/ToyasCard.lean, 'card_holds'). Laid BY PROGRAM, IN A SANDBOX (cutbox-door.mjs). By AI agents, Wed Nov 11 2026. No macro, syntax, notation, axiom, sorry.
-/
import Derived.Test.YtpcioefppjljoaaGreatDoorRows
import GoSem.ClaimSeven
namespace Go.Proofs.YtpcioefppjljoaaGreatDoor
namespace Rows

/-- THE TIED CARD OF 'arbaclaw32.ForwardReaches'. -/
def forwardReachesCard : Claim7 := { stood := { row := forwardReachesRow, standIns := [], harness := (true, "02775d1a799b58bb7332b1d57ac71e2e43109816e55cef64a44d674fc24bfe71"), looks := false }, kinds := [], alts := [], laidByText := true, laidKinds := [.data], laidTests := true, laidLooks := .later }
def ForwardReachesCardSaid : Prop := Claim7.holds Tryz.pinned (.plain (OpenSpec.ofChange forwardReachesSpec)) forwardReachesCard

/-- THE TIED CARD OF 'arbaclaw32.ForwardRuns'. -/
def forwardRunsCard : Claim7 := { stood := { row := forwardRunsRow, standIns := [], harness := (true, "02775d1a799b58bb7332b1d57ac71e2e43109816e55cef64a44d674fc24bfe71"), looks := false }, kinds := [], alts := [], laidByText := true, laidKinds := [.data], laidTests := true, laidLooks := .later }
def ForwardRunsCardSaid : Prop := Claim7.holds Tryz.pinned (.plain (OpenSpec.ofChange forwardRunsSpec)) forwardRunsCard

/-- THE TIED CARD OF 'arbaclaw32.ForwardShort'. -/
def forwardShortCard : Claim7 := { stood := { row := forwardShortRow, standIns := [], harness := (true, "02775d1a799b58bb7332b1d57ac71e2e43109816e55cef64a44d674fc24bfe71"), looks := false }, kinds := [], alts := [], laidByText := true, laidKinds := [.data], laidTests := true, laidLooks := .later }
def ForwardShortCardSaid : Prop := Claim7.holds Tryz.pinned (.plain (OpenSpec.ofChange forwardShortSpec)) forwardShortCard

/-- THE TIED CARD OF 'arbaclaw32.ForwardGoals'. -/
def forwardGoalsCard : Claim7 := { stood := { row := forwardGoalsRow, standIns := [], harness := (true, "02775d1a799b58bb7332b1d57ac71e2e43109816e55cef64a44d674fc24bfe71"), looks := false }, kinds := [], alts := [], laidByText := true, laidKinds := [.data], laidTests := true, laidLooks := .later }
def ForwardGoalsCardSaid : Prop := Claim7.holds Tryz.pinned (.plain (OpenSpec.ofChange forwardGoalsSpec)) forwardGoalsCard

/-- THE TIED CARD OF 'arbaclaw32.ForwardClosed'. -/
def forwardClosedCard : Claim7 := { stood := { row := forwardClosedRow, standIns := [], harness := (true, "02775d1a799b58bb7332b1d57ac71e2e43109816e55cef64a44d674fc24bfe71"), looks := false }, kinds := [], alts := [], laidByText := true, laidKinds := [.data], laidTests := true, laidLooks := .later }
def ForwardClosedCardSaid : Prop := Claim7.holds Tryz.pinned (.plain (OpenSpec.ofChange forwardClosedSpec)) forwardClosedCard

/-- THE TIED CARD OF 'arbaclaw32.ForwardCan'. -/
def forwardCanCard : Claim7 := { stood := { row := forwardCanRow, standIns := [], harness := (true, "02775d1a799b58bb7332b1d57ac71e2e43109816e55cef64a44d674fc24bfe71"), looks := false }, kinds := [], alts := [], laidByText := true, laidKinds := [.data], laidTests := true, laidLooks := .later }
def ForwardCanCardSaid : Prop := Claim7.holds Tryz.pinned (.plain (OpenSpec.ofChange forwardCanSpec)) forwardCanCard

/-- THE TIED CARD OF 'arbaclaw32.ForwardAll'. -/
def forwardAllCard : Claim7 := { stood := { row := forwardAllRow, standIns := [], harness := (true, "02775d1a799b58bb7332b1d57ac71e2e43109816e55cef64a44d674fc24bfe71"), looks := false }, kinds := [], alts := [], laidByText := true, laidKinds := [.data], laidTests := true, laidLooks := .later }
def ForwardAllCardSaid : Prop := Claim7.holds Tryz.pinned (.plain (OpenSpec.ofChange forwardAllSpec)) forwardAllCard

/-- THE TIED CARD OF 'arbaclaw32.ForwardLimits'. -/
def forwardLimitsCard : Claim7 := { stood := { row := forwardLimitsRow, standIns := [], harness := (true, "02775d1a799b58bb7332b1d57ac71e2e43109816e55cef64a44d674fc24bfe71"), looks := false }, kinds := [], alts := [], laidByText := true, laidKinds := [.data], laidTests := true, laidLooks := .later }
def ForwardLimitsCardSaid : Prop := Claim7.holds Tryz.pinned (.plain (OpenSpec.ofChange forwardLimitsSpec)) forwardLimitsCard

/-- THE TIED CARD OF 'arbaclaw32.ForwardErrs'. -/
def forwardErrsCard : Claim7 := { stood := { row := forwardErrsRow, standIns := [], harness := (true, "02775d1a799b58bb7332b1d57ac71e2e43109816e55cef64a44d674fc24bfe71"), looks := false }, kinds := [], alts := [], laidByText := true, laidKinds := [.data], laidTests := true, laidLooks := .later }
def ForwardErrsCardSaid : Prop := Claim7.holds Tryz.pinned (.plain (OpenSpec.ofChange forwardErrsSpec)) forwardErrsCard

/-- THE TIED CARD OF 'arbaclaw33.SliceShortest'. -/
def sliceShortestCard : Claim7 := { stood := { row := sliceShortestRow, standIns := [], harness := (true, "02775d1a799b58bb7332b1d57ac71e2e43109816e55cef64a44d674fc24bfe71"), looks := false }, kinds := [], alts := [], laidByText := true, laidKinds := [.data], laidTests := true, laidLooks := .later }
def SliceShortestCardSaid : Prop := Claim7.holds Tryz.pinned (.plain (OpenSpec.ofChange sliceShortestSpec)) sliceShortestCard

/-- THE SECOND FORM's CARD OF 'arbaclaw32.ForwardReaches'. -/
def forwardReachesUptoCard : Claim7 := { stood := { row := forwardReachesUptoRow, standIns := [], harness := (true, "02775d1a799b58bb7332b1d57ac71e2e43109816e55cef64a44d674fc24bfe71"), looks := false }, kinds := [], alts := [], laidByText := true, laidKinds := [.data], laidTests := true, laidLooks := .later }
def ForwardReachesUptoCardSaid : Prop := Claim7.holds Tryz.pinned (.plain (OpenSpec.upto forwardReachesSpec)) forwardReachesUptoCard

/-- THE SECOND FORM's CARD OF 'arbaclaw32.ForwardRuns'. -/
def forwardRunsUptoCard : Claim7 := { stood := { row := forwardRunsUptoRow, standIns := [], harness := (true, "02775d1a799b58bb7332b1d57ac71e2e43109816e55cef64a44d674fc24bfe71"), looks := false }, kinds := [], alts := [], laidByText := true, laidKinds := [.data], laidTests := true, laidLooks := .later }
def ForwardRunsUptoCardSaid : Prop := Claim7.holds Tryz.pinned (.plain (OpenSpec.upto forwardRunsSpec)) forwardRunsUptoCard

/-- THE SECOND FORM's CARD OF 'arbaclaw32.ForwardShort'. -/
def forwardShortUptoCard : Claim7 := { stood := { row := forwardShortUptoRow, standIns := [], harness := (true, "02775d1a799b58bb7332b1d57ac71e2e43109816e55cef64a44d674fc24bfe71"), looks := false }, kinds := [], alts := [], laidByText := true, laidKinds := [.data], laidTests := true, laidLooks := .later }
def ForwardShortUptoCardSaid : Prop := Claim7.holds Tryz.pinned (.plain (OpenSpec.upto forwardShortSpec)) forwardShortUptoCard

/-- THE SECOND FORM's CARD OF 'arbaclaw32.ForwardGoals'. -/
def forwardGoalsUptoCard : Claim7 := { stood := { row := forwardGoalsUptoRow, standIns := [], harness := (true, "02775d1a799b58bb7332b1d57ac71e2e43109816e55cef64a44d674fc24bfe71"), looks := false }, kinds := [], alts := [], laidByText := true, laidKinds := [.data], laidTests := true, laidLooks := .later }
def ForwardGoalsUptoCardSaid : Prop := Claim7.holds Tryz.pinned (.plain (OpenSpec.upto forwardGoalsSpec)) forwardGoalsUptoCard

/-- THE SECOND FORM's CARD OF 'arbaclaw32.ForwardClosed'. -/
def forwardClosedUptoCard : Claim7 := { stood := { row := forwardClosedUptoRow, standIns := [], harness := (true, "02775d1a799b58bb7332b1d57ac71e2e43109816e55cef64a44d674fc24bfe71"), looks := false }, kinds := [], alts := [], laidByText := true, laidKinds := [.data], laidTests := true, laidLooks := .later }
def ForwardClosedUptoCardSaid : Prop := Claim7.holds Tryz.pinned (.plain (OpenSpec.upto forwardClosedSpec)) forwardClosedUptoCard

/-- THE SECOND FORM's CARD OF 'arbaclaw32.ForwardCan'. -/
def forwardCanUptoCard : Claim7 := { stood := { row := forwardCanUptoRow, standIns := [], harness := (true, "02775d1a799b58bb7332b1d57ac71e2e43109816e55cef64a44d674fc24bfe71"), looks := false }, kinds := [], alts := [], laidByText := true, laidKinds := [.data], laidTests := true, laidLooks := .later }
def ForwardCanUptoCardSaid : Prop := Claim7.holds Tryz.pinned (.plain (OpenSpec.upto forwardCanSpec)) forwardCanUptoCard

/-- THE SECOND FORM's CARD OF 'arbaclaw32.ForwardAll'. -/
def forwardAllUptoCard : Claim7 := { stood := { row := forwardAllUptoRow, standIns := [], harness := (true, "02775d1a799b58bb7332b1d57ac71e2e43109816e55cef64a44d674fc24bfe71"), looks := false }, kinds := [], alts := [], laidByText := true, laidKinds := [.data], laidTests := true, laidLooks := .later }
def ForwardAllUptoCardSaid : Prop := Claim7.holds Tryz.pinned (.plain (OpenSpec.upto forwardAllSpec)) forwardAllUptoCard

/-- THE SECOND FORM's CARD OF 'arbaclaw32.ForwardLimits'. -/
def forwardLimitsUptoCard : Claim7 := { stood := { row := forwardLimitsUptoRow, standIns := [], harness := (true, "02775d1a799b58bb7332b1d57ac71e2e43109816e55cef64a44d674fc24bfe71"), looks := false }, kinds := [], alts := [], laidByText := true, laidKinds := [.data], laidTests := true, laidLooks := .later }
def ForwardLimitsUptoCardSaid : Prop := Claim7.holds Tryz.pinned (.plain (OpenSpec.upto forwardLimitsSpec)) forwardLimitsUptoCard

/-- THE SECOND FORM's CARD OF 'arbaclaw32.ForwardErrs'. -/
def forwardErrsUptoCard : Claim7 := { stood := { row := forwardErrsUptoRow, standIns := [], harness := (true, "02775d1a799b58bb7332b1d57ac71e2e43109816e55cef64a44d674fc24bfe71"), looks := false }, kinds := [], alts := [], laidByText := true, laidKinds := [.data], laidTests := true, laidLooks := .later }
def ForwardErrsUptoCardSaid : Prop := Claim7.holds Tryz.pinned (.plain (OpenSpec.upto forwardErrsSpec)) forwardErrsUptoCard

/-- THE SECOND FORM's CARD OF 'arbaclaw33.SliceShortest'. -/
def sliceShortestUptoCard : Claim7 := { stood := { row := sliceShortestUptoRow, standIns := [], harness := (true, "02775d1a799b58bb7332b1d57ac71e2e43109816e55cef64a44d674fc24bfe71"), looks := false }, kinds := [], alts := [], laidByText := true, laidKinds := [.data], laidTests := true, laidLooks := .later }
def SliceShortestUptoCardSaid : Prop := Claim7.holds Tryz.pinned (.plain (OpenSpec.upto sliceShortestSpec)) sliceShortestUptoCard
end Rows
end Go.Proofs.YtpcioefppjljoaaGreatDoor
