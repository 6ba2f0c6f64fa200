/-
  DERIVED. GIVEN WITH THE SEED: THE CARDS: each row of YtmlkgaiphpimiaaDoorRows.lean that lists a variable, with what it lists TIED to the program's text (the seventh form; the later family's looks); each row that meets fmt, with fmt's text TOLD by the authors' own Lean function (tested against real Go, not proved from fmt's source: count such statements apart). THE CARD IS WHAT COUNTS. Prove the row's statement (the work); the ties are given (YtmlkgaiphpimiaaDoorTie.lean); close each card by the builder's one call (the guide's Derived/Test/ToyasCard.lean, 'card_holds'). Laid BY PROGRAM, IN A SANDBOX (cutbox-door.mjs). By AI agents, Wed Nov 11 2026. No macro, syntax, notation, axiom, sorry.
-/
import Derived.Test.YtmlkgaiphpimiaaDoorRows
import GoSem.ClaimSeven
namespace Go.Proofs.YtmlkgaiphpimiaaDoor
namespace Rows

/-- THE TIED CARD OF 'arbaclaw10.HierarchyImplies'. -/
def hierarchyImpliesCard : Claim7 := { stood := { row := hierarchyImpliesRow, standIns := [], harness := (true, "cfd49cb4656b8bd54bde5f9242d591093a1a57a61d44ec1a091c4818a6365428"), looks := false }, kinds := [], alts := [], laidByText := true, laidKinds := [.data], laidTests := true, laidLooks := .later }
def HierarchyImpliesCardSaid : Prop := Claim7.holds Tryd.pinned (.plain (OpenSpec.ofChange hierarchyImpliesSpec)) hierarchyImpliesCard

/-- THE TIED CARD OF 'arbaclaw10.HierarchyChains'. -/
def hierarchyChainsCard : Claim7 := { stood := { row := hierarchyChainsRow, standIns := [], harness := (true, "cfd49cb4656b8bd54bde5f9242d591093a1a57a61d44ec1a091c4818a6365428"), looks := false }, kinds := [], alts := [], laidByText := true, laidKinds := [.data], laidTests := true, laidLooks := .later }
def HierarchyChainsCardSaid : Prop := Claim7.holds Tryd.pinned (.plain (OpenSpec.ofChange hierarchyChainsSpec)) hierarchyChainsCard

/-- THE TIED CARD OF 'arbaclaw10.HierarchyOrders'. -/
def hierarchyOrdersCard : Claim7 := { stood := { row := hierarchyOrdersRow, standIns := [], harness := (true, "cfd49cb4656b8bd54bde5f9242d591093a1a57a61d44ec1a091c4818a6365428"), looks := false }, kinds := [], alts := [], laidByText := true, laidKinds := [.data], laidTests := true, laidLooks := .later }
def HierarchyOrdersCardSaid : Prop := Claim7.holds Tryd.pinned (.plain (OpenSpec.ofChange hierarchyOrdersSpec)) hierarchyOrdersCard

/-- THE TIED CARD OF 'arbaclaw10.HierarchyLinks'. -/
def hierarchyLinksCard : Claim7 := { stood := { row := hierarchyLinksRow, standIns := [], harness := (true, "cfd49cb4656b8bd54bde5f9242d591093a1a57a61d44ec1a091c4818a6365428"), looks := false }, kinds := [], alts := [], laidByText := true, laidKinds := [.data], laidTests := true, laidLooks := .later }
def HierarchyLinksCardSaid : Prop := Claim7.holds Tryd.pinned (.plain (OpenSpec.ofChange hierarchyLinksSpec)) hierarchyLinksCard

/-- THE TIED CARD OF 'arbaclaw10.HierarchyRedundant'. -/
def hierarchyRedundantCard : Claim7 := { stood := { row := hierarchyRedundantRow, standIns := [], harness := (true, "cfd49cb4656b8bd54bde5f9242d591093a1a57a61d44ec1a091c4818a6365428"), looks := false }, kinds := [], alts := [], laidByText := true, laidKinds := [.data], laidTests := true, laidLooks := .later }
def HierarchyRedundantCardSaid : Prop := Claim7.holds Tryd.pinned (.plain (OpenSpec.ofChange hierarchyRedundantSpec)) hierarchyRedundantCard

/-- THE TIED CARD OF 'arbaclaw10.HierarchySets'. -/
def hierarchySetsCard : Claim7 := { stood := { row := hierarchySetsRow, standIns := [], harness := (true, "cfd49cb4656b8bd54bde5f9242d591093a1a57a61d44ec1a091c4818a6365428"), looks := false }, kinds := [], alts := [], laidByText := true, laidKinds := [.data], laidTests := true, laidLooks := .later }
def HierarchySetsCardSaid : Prop := Claim7.holds Tryd.pinned (.plain (OpenSpec.ofChange hierarchySetsSpec)) hierarchySetsCard

/-- THE TIED CARD OF 'arbaclaw10.HierarchyCloses'. -/
def hierarchyClosesCard : Claim7 := { stood := { row := hierarchyClosesRow, standIns := [], harness := (true, "cfd49cb4656b8bd54bde5f9242d591093a1a57a61d44ec1a091c4818a6365428"), looks := false }, kinds := [], alts := [], laidByText := true, laidKinds := [.data], laidTests := true, laidLooks := .later }
def HierarchyClosesCardSaid : Prop := Claim7.holds Tryd.pinned (.plain (OpenSpec.ofChange hierarchyClosesSpec)) hierarchyClosesCard

/-- THE TIED CARD OF 'arbaclaw10.HierarchyKeeps'. -/
def hierarchyKeepsCard : Claim7 := { stood := { row := hierarchyKeepsRow, standIns := [], harness := (true, "cfd49cb4656b8bd54bde5f9242d591093a1a57a61d44ec1a091c4818a6365428"), looks := false }, kinds := [], alts := [], laidByText := true, laidKinds := [.data], laidTests := true, laidLooks := .later }
def HierarchyKeepsCardSaid : Prop := Claim7.holds Tryd.pinned (.plain (OpenSpec.ofChange hierarchyKeepsSpec)) hierarchyKeepsCard

/-- THE TIED CARD OF 'arbaclaw10.HierarchyReads'. -/
def hierarchyReadsCard : Claim7 := { stood := { row := hierarchyReadsRow, standIns := [], harness := (true, "cfd49cb4656b8bd54bde5f9242d591093a1a57a61d44ec1a091c4818a6365428"), looks := false }, kinds := [], alts := [], laidByText := true, laidKinds := [.data], laidTests := true, laidLooks := .later }
def HierarchyReadsCardSaid : Prop := Claim7.holds Tryd.pinned (.plain (OpenSpec.ofChange hierarchyReadsSpec)) hierarchyReadsCard

/-- THE TIED CARD OF 'arbaclaw10.HierarchyBytes'. -/
def hierarchyBytesCard : Claim7 := { stood := { row := hierarchyBytesRow, standIns := [], harness := (true, "cfd49cb4656b8bd54bde5f9242d591093a1a57a61d44ec1a091c4818a6365428"), looks := false }, kinds := [], alts := [], laidByText := true, laidKinds := [.data], laidTests := true, laidLooks := .later }
def HierarchyBytesCardSaid : Prop := Claim7.holds Tryd.pinned (.plain (OpenSpec.ofChange hierarchyBytesSpec)) hierarchyBytesCard

/-- THE SECOND FORM's CARD OF 'arbaclaw10.HierarchyImplies'. -/
def hierarchyImpliesUptoCard : Claim7 := { stood := { row := hierarchyImpliesUptoRow, standIns := [], harness := (true, "cfd49cb4656b8bd54bde5f9242d591093a1a57a61d44ec1a091c4818a6365428"), looks := false }, kinds := [], alts := [], laidByText := true, laidKinds := [.data], laidTests := true, laidLooks := .later }
def HierarchyImpliesUptoCardSaid : Prop := Claim7.holds Tryd.pinned (.plain (OpenSpec.upto hierarchyImpliesSpec)) hierarchyImpliesUptoCard

/-- THE SECOND FORM's CARD OF 'arbaclaw10.HierarchyChains'. -/
def hierarchyChainsUptoCard : Claim7 := { stood := { row := hierarchyChainsUptoRow, standIns := [], harness := (true, "cfd49cb4656b8bd54bde5f9242d591093a1a57a61d44ec1a091c4818a6365428"), looks := false }, kinds := [], alts := [], laidByText := true, laidKinds := [.data], laidTests := true, laidLooks := .later }
def HierarchyChainsUptoCardSaid : Prop := Claim7.holds Tryd.pinned (.plain (OpenSpec.upto hierarchyChainsSpec)) hierarchyChainsUptoCard

/-- THE SECOND FORM's CARD OF 'arbaclaw10.HierarchyOrders'. -/
def hierarchyOrdersUptoCard : Claim7 := { stood := { row := hierarchyOrdersUptoRow, standIns := [], harness := (true, "cfd49cb4656b8bd54bde5f9242d591093a1a57a61d44ec1a091c4818a6365428"), looks := false }, kinds := [], alts := [], laidByText := true, laidKinds := [.data], laidTests := true, laidLooks := .later }
def HierarchyOrdersUptoCardSaid : Prop := Claim7.holds Tryd.pinned (.plain (OpenSpec.upto hierarchyOrdersSpec)) hierarchyOrdersUptoCard

/-- THE SECOND FORM's CARD OF 'arbaclaw10.HierarchyLinks'. -/
def hierarchyLinksUptoCard : Claim7 := { stood := { row := hierarchyLinksUptoRow, standIns := [], harness := (true, "cfd49cb4656b8bd54bde5f9242d591093a1a57a61d44ec1a091c4818a6365428"), looks := false }, kinds := [], alts := [], laidByText := true, laidKinds := [.data], laidTests := true, laidLooks := .later }
def HierarchyLinksUptoCardSaid : Prop := Claim7.holds Tryd.pinned (.plain (OpenSpec.upto hierarchyLinksSpec)) hierarchyLinksUptoCard

/-- THE SECOND FORM's CARD OF 'arbaclaw10.HierarchyRedundant'. -/
def hierarchyRedundantUptoCard : Claim7 := { stood := { row := hierarchyRedundantUptoRow, standIns := [], harness := (true, "cfd49cb4656b8bd54bde5f9242d591093a1a57a61d44ec1a091c4818a6365428"), looks := false }, kinds := [], alts := [], laidByText := true, laidKinds := [.data], laidTests := true, laidLooks := .later }
def HierarchyRedundantUptoCardSaid : Prop := Claim7.holds Tryd.pinned (.plain (OpenSpec.upto hierarchyRedundantSpec)) hierarchyRedundantUptoCard

/-- THE SECOND FORM's CARD OF 'arbaclaw10.HierarchySets'. -/
def hierarchySetsUptoCard : Claim7 := { stood := { row := hierarchySetsUptoRow, standIns := [], harness := (true, "cfd49cb4656b8bd54bde5f9242d591093a1a57a61d44ec1a091c4818a6365428"), looks := false }, kinds := [], alts := [], laidByText := true, laidKinds := [.data], laidTests := true, laidLooks := .later }
def HierarchySetsUptoCardSaid : Prop := Claim7.holds Tryd.pinned (.plain (OpenSpec.upto hierarchySetsSpec)) hierarchySetsUptoCard

/-- THE SECOND FORM's CARD OF 'arbaclaw10.HierarchyCloses'. -/
def hierarchyClosesUptoCard : Claim7 := { stood := { row := hierarchyClosesUptoRow, standIns := [], harness := (true, "cfd49cb4656b8bd54bde5f9242d591093a1a57a61d44ec1a091c4818a6365428"), looks := false }, kinds := [], alts := [], laidByText := true, laidKinds := [.data], laidTests := true, laidLooks := .later }
def HierarchyClosesUptoCardSaid : Prop := Claim7.holds Tryd.pinned (.plain (OpenSpec.upto hierarchyClosesSpec)) hierarchyClosesUptoCard

/-- THE SECOND FORM's CARD OF 'arbaclaw10.HierarchyKeeps'. -/
def hierarchyKeepsUptoCard : Claim7 := { stood := { row := hierarchyKeepsUptoRow, standIns := [], harness := (true, "cfd49cb4656b8bd54bde5f9242d591093a1a57a61d44ec1a091c4818a6365428"), looks := false }, kinds := [], alts := [], laidByText := true, laidKinds := [.data], laidTests := true, laidLooks := .later }
def HierarchyKeepsUptoCardSaid : Prop := Claim7.holds Tryd.pinned (.plain (OpenSpec.upto hierarchyKeepsSpec)) hierarchyKeepsUptoCard

/-- THE SECOND FORM's CARD OF 'arbaclaw10.HierarchyReads'. -/
def hierarchyReadsUptoCard : Claim7 := { stood := { row := hierarchyReadsUptoRow, standIns := [], harness := (true, "cfd49cb4656b8bd54bde5f9242d591093a1a57a61d44ec1a091c4818a6365428"), looks := false }, kinds := [], alts := [], laidByText := true, laidKinds := [.data], laidTests := true, laidLooks := .later }
def HierarchyReadsUptoCardSaid : Prop := Claim7.holds Tryd.pinned (.plain (OpenSpec.upto hierarchyReadsSpec)) hierarchyReadsUptoCard

/-- THE SECOND FORM's CARD OF 'arbaclaw10.HierarchyBytes'. -/
def hierarchyBytesUptoCard : Claim7 := { stood := { row := hierarchyBytesUptoRow, standIns := [], harness := (true, "cfd49cb4656b8bd54bde5f9242d591093a1a57a61d44ec1a091c4818a6365428"), looks := false }, kinds := [], alts := [], laidByText := true, laidKinds := [.data], laidTests := true, laidLooks := .later }
def HierarchyBytesUptoCardSaid : Prop := Claim7.holds Tryd.pinned (.plain (OpenSpec.upto hierarchyBytesSpec)) hierarchyBytesUptoCard
end Rows
end Go.Proofs.YtmlkgaiphpimiaaDoor
