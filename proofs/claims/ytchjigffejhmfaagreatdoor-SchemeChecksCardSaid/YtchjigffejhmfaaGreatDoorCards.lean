/-
  DERIVED. GIVEN WITH THE SEED: THE CARDS: each row of YtchjigffejhmfaaGreatDoorRows.lean that lists a variable, with what it lists TIED to the program's text (the seventh form; the later family's looks); each row that meets fmt, with fmt's text TOLD by the authors' own Lean function (tested against real Go, not proved from fmt's source: count such statements apart). THE CARD IS WHAT COUNTS. Prove the row's statement (the work); the ties are given (YtchjigffejhmfaaGreatDoorTie.lean); close each card by the builder's one call (the guide's Derived/Test/ToyasCard.lean, 'card_holds'). Laid BY PROGRAM, IN A SANDBOX (cutbox-door.mjs). By AI agents, Wed Nov 11 2026. No macro, syntax, notation, axiom, sorry.
-/
import Derived.Test.YtchjigffejhmfaaGreatDoorRows
import GoSem.ClaimSeven
namespace Go.Proofs.YtchjigffejhmfaaGreatDoor
namespace Rows

/-- THE TIED CARD OF 'arbaclaw31.SchemeChecks'. -/
def schemeChecksCard : Claim7 := { stood := { row := schemeChecksRow, standIns := [], harness := (true, "2f541ff0f2b150b94377df4c904e54df060b1cc989d168e7cdafb17d6c9b7b94"), looks := false }, kinds := [], alts := [], laidByText := true, laidKinds := [.data], laidTests := true, laidLooks := .later }
def SchemeChecksCardSaid : Prop := Claim7.holds Tryz.pinned (.plain (OpenSpec.ofChange schemeChecksSpec)) schemeChecksCard

/-- THE TIED CARD OF 'arbaclaw31.SchemeExplicit'. -/
def schemeExplicitCard : Claim7 := { stood := { row := schemeExplicitRow, standIns := [], harness := (true, "2f541ff0f2b150b94377df4c904e54df060b1cc989d168e7cdafb17d6c9b7b94"), looks := false }, kinds := [], alts := [], laidByText := true, laidKinds := [.data], laidTests := true, laidLooks := .later }
def SchemeExplicitCardSaid : Prop := Claim7.holds Tryz.pinned (.plain (OpenSpec.ofChange schemeExplicitSpec)) schemeExplicitCard

/-- THE TIED CARD OF 'arbaclaw31.SchemeSteps'. -/
def schemeStepsCard : Claim7 := { stood := { row := schemeStepsRow, standIns := [], harness := (true, "2f541ff0f2b150b94377df4c904e54df060b1cc989d168e7cdafb17d6c9b7b94"), looks := false }, kinds := [], alts := [], laidByText := true, laidKinds := [.data], laidTests := true, laidLooks := .later }
def SchemeStepsCardSaid : Prop := Claim7.holds Tryz.pinned (.plain (OpenSpec.ofChange schemeStepsSpec)) schemeStepsCard

/-- THE TIED CARD OF 'arbaclaw31.SchemeRuns'. -/
def schemeRunsCard : Claim7 := { stood := { row := schemeRunsRow, standIns := [], harness := (true, "2f541ff0f2b150b94377df4c904e54df060b1cc989d168e7cdafb17d6c9b7b94"), looks := false }, kinds := [], alts := [], laidByText := true, laidKinds := [.data], laidTests := true, laidLooks := .later }
def SchemeRunsCardSaid : Prop := Claim7.holds Tryz.pinned (.plain (OpenSpec.ofChange schemeRunsSpec)) schemeRunsCard

/-- THE TIED CARD OF 'arbaclaw31.SchemeEquals'. -/
def schemeEqualsCard : Claim7 := { stood := { row := schemeEqualsRow, standIns := [], harness := (true, "2f541ff0f2b150b94377df4c904e54df060b1cc989d168e7cdafb17d6c9b7b94"), looks := false }, kinds := [], alts := [], laidByText := true, laidKinds := [.data], laidTests := true, laidLooks := .later }
def SchemeEqualsCardSaid : Prop := Claim7.holds Tryz.pinned (.plain (OpenSpec.ofChange schemeEqualsSpec)) schemeEqualsCard

/-- THE TIED CARD OF 'arbaclaw36.CertificateProblems'. -/
def certificateProblemsCard : Claim7 := { stood := { row := certificateProblemsRow, standIns := [], harness := (true, "2f541ff0f2b150b94377df4c904e54df060b1cc989d168e7cdafb17d6c9b7b94"), looks := false }, kinds := [], alts := [], laidByText := true, laidKinds := [.data, .data, .data], laidTests := true, laidLooks := .later }
def CertificateProblemsCardSaid : Prop := Claim7.holds Tryz.pinned (.plain (OpenSpec.ofChange certificateProblemsSpec)) certificateProblemsCard

/-- THE TIED CARD OF 'arbaclaw36.CertificateNames'. -/
def certificateNamesCard : Claim7 := { stood := { row := certificateNamesRow, standIns := [], harness := (true, "2f541ff0f2b150b94377df4c904e54df060b1cc989d168e7cdafb17d6c9b7b94"), looks := false }, kinds := [], alts := [], laidByText := true, laidKinds := [.data, .data, .data], laidTests := true, laidLooks := .later }
def CertificateNamesCardSaid : Prop := Claim7.holds Tryz.pinned (.plain (OpenSpec.ofChange certificateNamesSpec)) certificateNamesCard

/-- THE TIED CARD OF 'arbaclaw36.CertificateMakes'. -/
def certificateMakesCard : Claim7 := { stood := { row := certificateMakesRow, standIns := [], harness := (true, "2f541ff0f2b150b94377df4c904e54df060b1cc989d168e7cdafb17d6c9b7b94"), looks := false }, kinds := [], alts := [], laidByText := true, laidKinds := [.data, .data, .data], laidTests := true, laidLooks := .later }
def CertificateMakesCardSaid : Prop := Claim7.holds Tryz.pinned (.plain (OpenSpec.ofChange certificateMakesSpec)) certificateMakesCard

/-- THE TIED CARD OF 'arbaclaw36.CertificateRuns'. -/
def certificateRunsCard : Claim7 := { stood := { row := certificateRunsRow, standIns := [], harness := (true, "2f541ff0f2b150b94377df4c904e54df060b1cc989d168e7cdafb17d6c9b7b94"), looks := false }, kinds := [], alts := [], laidByText := true, laidKinds := [.data, .data, .data], laidTests := true, laidLooks := .later }
def CertificateRunsCardSaid : Prop := Claim7.holds Tryz.pinned (.plain (OpenSpec.ofChange certificateRunsSpec)) certificateRunsCard

/-- THE SECOND FORM's CARD OF 'arbaclaw31.SchemeChecks'. -/
def schemeChecksUptoCard : Claim7 := { stood := { row := schemeChecksUptoRow, standIns := [], harness := (true, "2f541ff0f2b150b94377df4c904e54df060b1cc989d168e7cdafb17d6c9b7b94"), looks := false }, kinds := [], alts := [], laidByText := true, laidKinds := [.data], laidTests := true, laidLooks := .later }
def SchemeChecksUptoCardSaid : Prop := Claim7.holds Tryz.pinned (.plain (OpenSpec.upto schemeChecksSpec)) schemeChecksUptoCard

/-- THE SECOND FORM's CARD OF 'arbaclaw31.SchemeExplicit'. -/
def schemeExplicitUptoCard : Claim7 := { stood := { row := schemeExplicitUptoRow, standIns := [], harness := (true, "2f541ff0f2b150b94377df4c904e54df060b1cc989d168e7cdafb17d6c9b7b94"), looks := false }, kinds := [], alts := [], laidByText := true, laidKinds := [.data], laidTests := true, laidLooks := .later }
def SchemeExplicitUptoCardSaid : Prop := Claim7.holds Tryz.pinned (.plain (OpenSpec.upto schemeExplicitSpec)) schemeExplicitUptoCard

/-- THE SECOND FORM's CARD OF 'arbaclaw31.SchemeSteps'. -/
def schemeStepsUptoCard : Claim7 := { stood := { row := schemeStepsUptoRow, standIns := [], harness := (true, "2f541ff0f2b150b94377df4c904e54df060b1cc989d168e7cdafb17d6c9b7b94"), looks := false }, kinds := [], alts := [], laidByText := true, laidKinds := [.data], laidTests := true, laidLooks := .later }
def SchemeStepsUptoCardSaid : Prop := Claim7.holds Tryz.pinned (.plain (OpenSpec.upto schemeStepsSpec)) schemeStepsUptoCard

/-- THE SECOND FORM's CARD OF 'arbaclaw31.SchemeRuns'. -/
def schemeRunsUptoCard : Claim7 := { stood := { row := schemeRunsUptoRow, standIns := [], harness := (true, "2f541ff0f2b150b94377df4c904e54df060b1cc989d168e7cdafb17d6c9b7b94"), looks := false }, kinds := [], alts := [], laidByText := true, laidKinds := [.data], laidTests := true, laidLooks := .later }
def SchemeRunsUptoCardSaid : Prop := Claim7.holds Tryz.pinned (.plain (OpenSpec.upto schemeRunsSpec)) schemeRunsUptoCard

/-- THE SECOND FORM's CARD OF 'arbaclaw31.SchemeEquals'. -/
def schemeEqualsUptoCard : Claim7 := { stood := { row := schemeEqualsUptoRow, standIns := [], harness := (true, "2f541ff0f2b150b94377df4c904e54df060b1cc989d168e7cdafb17d6c9b7b94"), looks := false }, kinds := [], alts := [], laidByText := true, laidKinds := [.data], laidTests := true, laidLooks := .later }
def SchemeEqualsUptoCardSaid : Prop := Claim7.holds Tryz.pinned (.plain (OpenSpec.upto schemeEqualsSpec)) schemeEqualsUptoCard

/-- THE SECOND FORM's CARD OF 'arbaclaw36.CertificateProblems'. -/
def certificateProblemsUptoCard : Claim7 := { stood := { row := certificateProblemsUptoRow, standIns := [], harness := (true, "2f541ff0f2b150b94377df4c904e54df060b1cc989d168e7cdafb17d6c9b7b94"), looks := false }, kinds := [], alts := [], laidByText := true, laidKinds := [.data, .data, .data], laidTests := true, laidLooks := .later }
def CertificateProblemsUptoCardSaid : Prop := Claim7.holds Tryz.pinned (.plain (OpenSpec.upto certificateProblemsSpec)) certificateProblemsUptoCard

/-- THE SECOND FORM's CARD OF 'arbaclaw36.CertificateNames'. -/
def certificateNamesUptoCard : Claim7 := { stood := { row := certificateNamesUptoRow, standIns := [], harness := (true, "2f541ff0f2b150b94377df4c904e54df060b1cc989d168e7cdafb17d6c9b7b94"), looks := false }, kinds := [], alts := [], laidByText := true, laidKinds := [.data, .data, .data], laidTests := true, laidLooks := .later }
def CertificateNamesUptoCardSaid : Prop := Claim7.holds Tryz.pinned (.plain (OpenSpec.upto certificateNamesSpec)) certificateNamesUptoCard

/-- THE SECOND FORM's CARD OF 'arbaclaw36.CertificateMakes'. -/
def certificateMakesUptoCard : Claim7 := { stood := { row := certificateMakesUptoRow, standIns := [], harness := (true, "2f541ff0f2b150b94377df4c904e54df060b1cc989d168e7cdafb17d6c9b7b94"), looks := false }, kinds := [], alts := [], laidByText := true, laidKinds := [.data, .data, .data], laidTests := true, laidLooks := .later }
def CertificateMakesUptoCardSaid : Prop := Claim7.holds Tryz.pinned (.plain (OpenSpec.upto certificateMakesSpec)) certificateMakesUptoCard

/-- THE SECOND FORM's CARD OF 'arbaclaw36.CertificateRuns'. -/
def certificateRunsUptoCard : Claim7 := { stood := { row := certificateRunsUptoRow, standIns := [], harness := (true, "2f541ff0f2b150b94377df4c904e54df060b1cc989d168e7cdafb17d6c9b7b94"), looks := false }, kinds := [], alts := [], laidByText := true, laidKinds := [.data, .data, .data], laidTests := true, laidLooks := .later }
def CertificateRunsUptoCardSaid : Prop := Claim7.holds Tryz.pinned (.plain (OpenSpec.upto certificateRunsSpec)) certificateRunsUptoCard
end Rows
end Go.Proofs.YtchjigffejhmfaaGreatDoor
