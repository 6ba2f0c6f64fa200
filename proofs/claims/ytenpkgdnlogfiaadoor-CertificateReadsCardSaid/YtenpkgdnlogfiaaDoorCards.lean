/-
  DERIVED. GIVEN WITH THE SEED: THE CARDS: each row of YtenpkgdnlogfiaaDoorRows.lean that lists a variable, with what it lists TIED to the program's text (the seventh form; the later family's looks); each row that meets fmt, with fmt's text TOLD by the authors' own Lean function (tested against real Go, not proved from fmt's source: count such statements apart). THE CARD IS WHAT COUNTS. Prove the row's statement (the work); the ties are given (YtenpkgdnlogfiaaDoorTie.lean); close each card by the builder's one call (the guide's Derived/Test/ToyasCard.lean, 'card_holds'). Laid BY PROGRAM, IN A SANDBOX (cutbox-door.mjs). By AI agents, Wed Nov 11 2026. No macro, syntax, notation, axiom, sorry.
-/
import Derived.Test.YtenpkgdnlogfiaaDoorRows
import GoSem.ClaimSeven
namespace Go.Proofs.YtenpkgdnlogfiaaDoor
namespace Rows

/-- THE TIED CARD OF 'arbaclaw36.CertificateEquals'. -/
def certificateEqualsCard : Claim7 := { stood := { row := certificateEqualsRow, standIns := [], harness := (true, "3ec967828f7ee5e30e14dc5b7b336ce7ac71a1162fec72200ce2248004db0790"), looks := false }, kinds := [], alts := [], laidByText := true, laidKinds := [.data, .data], laidTests := true, laidLooks := .later }
def CertificateEqualsCardSaid : Prop := Claim7.holds Tryd.pinned (.plain (OpenSpec.ofChange certificateEqualsSpec)) certificateEqualsCard

/-- THE TIED CARD OF 'arbaclaw36.CertificateChecks'. -/
def certificateChecksCard : Claim7 := { stood := { row := certificateChecksRow, standIns := [], harness := (true, "3ec967828f7ee5e30e14dc5b7b336ce7ac71a1162fec72200ce2248004db0790"), looks := false }, kinds := [], alts := [], laidByText := true, laidKinds := [.data, .data, .data], laidTests := true, laidLooks := .later }
def CertificateChecksCardSaid : Prop := Claim7.holds Tryd.pinned (.plain (OpenSpec.ofChange certificateChecksSpec)) certificateChecksCard

/-- THE TIED CARD OF 'arbaclaw36.CertificateEncodes'. -/
def certificateEncodesCard : Claim7 := { stood := { row := certificateEncodesRow, standIns := [], harness := (true, "3ec967828f7ee5e30e14dc5b7b336ce7ac71a1162fec72200ce2248004db0790"), looks := false }, kinds := [], alts := [], laidByText := true, laidKinds := [.data, .data], laidTests := true, laidLooks := .later }
def CertificateEncodesCardSaid : Prop := Claim7.holds Tryd.pinned (.plain (OpenSpec.ofChange certificateEncodesSpec)) certificateEncodesCard

/-- THE TIED CARD OF 'arbaclaw36.CertificateReads'. -/
def certificateReadsCard : Claim7 := { stood := { row := certificateReadsRow, standIns := [], harness := (true, "3ec967828f7ee5e30e14dc5b7b336ce7ac71a1162fec72200ce2248004db0790"), looks := false }, kinds := [], alts := [], laidByText := true, laidKinds := [.data, .data, .data], laidTests := true, laidLooks := .later }
def CertificateReadsCardSaid : Prop := Claim7.holds Tryd.pinned (.plain (OpenSpec.ofChange certificateReadsSpec)) certificateReadsCard

/-- THE SECOND FORM's CARD OF 'arbaclaw36.CertificateEquals'. -/
def certificateEqualsUptoCard : Claim7 := { stood := { row := certificateEqualsUptoRow, standIns := [], harness := (true, "3ec967828f7ee5e30e14dc5b7b336ce7ac71a1162fec72200ce2248004db0790"), looks := false }, kinds := [], alts := [], laidByText := true, laidKinds := [.data, .data], laidTests := true, laidLooks := .later }
def CertificateEqualsUptoCardSaid : Prop := Claim7.holds Tryd.pinned (.plain (OpenSpec.upto certificateEqualsSpec)) certificateEqualsUptoCard

/-- THE SECOND FORM's CARD OF 'arbaclaw36.CertificateChecks'. -/
def certificateChecksUptoCard : Claim7 := { stood := { row := certificateChecksUptoRow, standIns := [], harness := (true, "3ec967828f7ee5e30e14dc5b7b336ce7ac71a1162fec72200ce2248004db0790"), looks := false }, kinds := [], alts := [], laidByText := true, laidKinds := [.data, .data, .data], laidTests := true, laidLooks := .later }
def CertificateChecksUptoCardSaid : Prop := Claim7.holds Tryd.pinned (.plain (OpenSpec.upto certificateChecksSpec)) certificateChecksUptoCard

/-- THE SECOND FORM's CARD OF 'arbaclaw36.CertificateEncodes'. -/
def certificateEncodesUptoCard : Claim7 := { stood := { row := certificateEncodesUptoRow, standIns := [], harness := (true, "3ec967828f7ee5e30e14dc5b7b336ce7ac71a1162fec72200ce2248004db0790"), looks := false }, kinds := [], alts := [], laidByText := true, laidKinds := [.data, .data], laidTests := true, laidLooks := .later }
def CertificateEncodesUptoCardSaid : Prop := Claim7.holds Tryd.pinned (.plain (OpenSpec.upto certificateEncodesSpec)) certificateEncodesUptoCard

/-- THE SECOND FORM's CARD OF 'arbaclaw36.CertificateReads'. -/
def certificateReadsUptoCard : Claim7 := { stood := { row := certificateReadsUptoRow, standIns := [], harness := (true, "3ec967828f7ee5e30e14dc5b7b336ce7ac71a1162fec72200ce2248004db0790"), looks := false }, kinds := [], alts := [], laidByText := true, laidKinds := [.data, .data, .data], laidTests := true, laidLooks := .later }
def CertificateReadsUptoCardSaid : Prop := Claim7.holds Tryd.pinned (.plain (OpenSpec.upto certificateReadsSpec)) certificateReadsUptoCard
end Rows
end Go.Proofs.YtenpkgdnlogfiaaDoor
