/-
  DERIVED. GIVEN WITH THE SEED: THE CARDS: each row of YtenpkgdnlogfiaaGreatDoorRows.lean that lists a variable, with what it lists TIED to the program's text (the seventh form; the later family's looks); each row that meets fmt, with fmt's text TOLD by the authors' own Lean function (tested against real Go, not proved from fmt's source: count such statements apart). THE CARD IS WHAT COUNTS. Prove the row's statement (the work); the ties are given (YtenpkgdnlogfiaaGreatDoorTie.lean); close each card by the builder's one call (the guide's Derived/Test/ToyasCard.lean, 'card_holds'). Laid BY PROGRAM, IN A SANDBOX (cutbox-door.mjs). By AI agents, Wed Nov 11 2026. No macro, syntax, notation, axiom, sorry.
-/
import Derived.Test.YtenpkgdnlogfiaaGreatDoorRows
import GoSem.ClaimSeven
namespace Go.Proofs.YtenpkgdnlogfiaaGreatDoor
namespace Rows

/-- THE TIED CARD OF 'arbaclaw36.CertificateBytes'. -/
def certificateBytesCard : Claim7 := { stood := { row := certificateBytesRow, standIns := [], harness := (true, "c53ec25f4e9497bba17802e812df32ce82e2a00bfd7d2d980abfc1152d319789"), looks := false }, kinds := [], alts := [], laidByText := true, laidKinds := [.data, .data, .data], laidTests := true, laidLooks := .later }
def CertificateBytesCardSaid : Prop := Claim7.holds Tryz.pinned (.plain (OpenSpec.ofChange certificateBytesSpec)) certificateBytesCard

/-- THE SECOND FORM's CARD OF 'arbaclaw36.CertificateBytes'. -/
def certificateBytesUptoCard : Claim7 := { stood := { row := certificateBytesUptoRow, standIns := [], harness := (true, "c53ec25f4e9497bba17802e812df32ce82e2a00bfd7d2d980abfc1152d319789"), looks := false }, kinds := [], alts := [], laidByText := true, laidKinds := [.data, .data, .data], laidTests := true, laidLooks := .later }
def CertificateBytesUptoCardSaid : Prop := Claim7.holds Tryz.pinned (.plain (OpenSpec.upto certificateBytesSpec)) certificateBytesUptoCard
end Rows
end Go.Proofs.YtenpkgdnlogfiaaGreatDoor
