/-
  DERIVED. GIVEN WITH THE SEED: THE CARDS: each row of YtjjhcdkamohgnaaGreatDoorRows.lean that lists a variable, with what it lists TIED to the program's text (the seventh form; the later family's looks); each row that meets fmt, with fmt's text TOLD by the authors' own Lean function (tested against real Go, not proved from fmt's source: count such statements apart). THE CARD IS WHAT COUNTS. Prove the row's statement (the work); the ties are given (YtjjhcdkamohgnaaGreatDoorTie.lean); close each card by the builder's one call (the guide's Derived/Test/ToyasCard.lean, 'card_holds'). Laid BY PROGRAM, IN A SANDBOX (cutbox-door.mjs). By AI agents, Wed Nov 11 2026. No macro, syntax, notation, axiom, sorry.
-/
import Derived.Test.YtjjhcdkamohgnaaGreatDoorRows
import GoSem.ClaimSeven
namespace Go.Proofs.YtjjhcdkamohgnaaGreatDoor
namespace Rows

/-- THE TIED CARD OF 'arbaclaw35.SaturateFragment'. -/
def saturateFragmentCard : Claim7 := { stood := { row := saturateFragmentRow, standIns := [], harness := (true, "c3149becd198d29015449e0d705ae27b5a03ac5ddd59b56b3bc98e4a229c6d98"), looks := false }, kinds := [], alts := [], laidByText := true, laidKinds := [.data], laidTests := true, laidLooks := .later }
def SaturateFragmentCardSaid : Prop := Claim7.holds Tryz.pinned (.plain (OpenSpec.ofChange saturateFragmentSpec)) saturateFragmentCard

/-- THE TIED CARD OF 'arbaclaw35.SaturateUpper'. -/
def saturateUpperCard : Claim7 := { stood := { row := saturateUpperRow, standIns := [], harness := (true, "c3149becd198d29015449e0d705ae27b5a03ac5ddd59b56b3bc98e4a229c6d98"), looks := false }, kinds := [], alts := [], laidByText := true, laidKinds := [.data], laidTests := true, laidLooks := .later }
def SaturateUpperCardSaid : Prop := Claim7.holds Tryz.pinned (.plain (OpenSpec.ofChange saturateUpperSpec)) saturateUpperCard

/-- THE TIED CARD OF 'arbaclaw35.SaturateObtainable'. -/
def saturateObtainableCard : Claim7 := { stood := { row := saturateObtainableRow, standIns := [], harness := (true, "c3149becd198d29015449e0d705ae27b5a03ac5ddd59b56b3bc98e4a229c6d98"), looks := false }, kinds := [], alts := [], laidByText := true, laidKinds := [.data], laidTests := true, laidLooks := .later }
def SaturateObtainableCardSaid : Prop := Claim7.holds Tryz.pinned (.plain (OpenSpec.ofChange saturateObtainableSpec)) saturateObtainableCard

/-- THE TIED CARD OF 'arbaclaw35.SaturateRefuses'. -/
def saturateRefusesCard : Claim7 := { stood := { row := saturateRefusesRow, standIns := [], harness := (true, "c3149becd198d29015449e0d705ae27b5a03ac5ddd59b56b3bc98e4a229c6d98"), looks := false }, kinds := [], alts := [], laidByText := true, laidKinds := [.data], laidTests := true, laidLooks := .later }
def SaturateRefusesCardSaid : Prop := Claim7.holds Tryz.pinned (.plain (OpenSpec.ofChange saturateRefusesSpec)) saturateRefusesCard

/-- THE TIED CARD OF 'arbaclaw35.SaturateGrows'. -/
def saturateGrowsCard : Claim7 := { stood := { row := saturateGrowsRow, standIns := [], harness := (true, "c3149becd198d29015449e0d705ae27b5a03ac5ddd59b56b3bc98e4a229c6d98"), looks := false }, kinds := [], alts := [], laidByText := true, laidKinds := [.data], laidTests := true, laidLooks := .later }
def SaturateGrowsCardSaid : Prop := Claim7.holds Tryz.pinned (.plain (OpenSpec.ofChange saturateGrowsSpec)) saturateGrowsCard

/-- THE TIED CARD OF 'arbaclaw35.SaturateSlices'. -/
def saturateSlicesCard : Claim7 := { stood := { row := saturateSlicesRow, standIns := [], harness := (true, "c3149becd198d29015449e0d705ae27b5a03ac5ddd59b56b3bc98e4a229c6d98"), looks := false }, kinds := [], alts := [], laidByText := true, laidKinds := [.data], laidTests := true, laidLooks := .later }
def SaturateSlicesCardSaid : Prop := Claim7.holds Tryz.pinned (.plain (OpenSpec.ofChange saturateSlicesSpec)) saturateSlicesCard

/-- THE TIED CARD OF 'arbaclaw35.SaturateSearches'. -/
def saturateSearchesCard : Claim7 := { stood := { row := saturateSearchesRow, standIns := [], harness := (true, "c3149becd198d29015449e0d705ae27b5a03ac5ddd59b56b3bc98e4a229c6d98"), looks := false }, kinds := [], alts := [], laidByText := true, laidKinds := [.data], laidTests := true, laidLooks := .later }
def SaturateSearchesCardSaid : Prop := Claim7.holds Tryz.pinned (.plain (OpenSpec.ofChange saturateSearchesSpec)) saturateSearchesCard

/-- THE TIED CARD OF 'arbaclaw35.SaturateInvariants'. -/
def saturateInvariantsCard : Claim7 := { stood := { row := saturateInvariantsRow, standIns := [], harness := (true, "c3149becd198d29015449e0d705ae27b5a03ac5ddd59b56b3bc98e4a229c6d98"), looks := false }, kinds := [], alts := [], laidByText := true, laidKinds := [.data], laidTests := true, laidLooks := .later }
def SaturateInvariantsCardSaid : Prop := Claim7.holds Tryz.pinned (.plain (OpenSpec.ofChange saturateInvariantsSpec)) saturateInvariantsCard

/-- THE TIED CARD OF 'arbaclaw35.SaturatePlans'. -/
def saturatePlansCard : Claim7 := { stood := { row := saturatePlansRow, standIns := [], harness := (true, "c3149becd198d29015449e0d705ae27b5a03ac5ddd59b56b3bc98e4a229c6d98"), looks := false }, kinds := [], alts := [], laidByText := true, laidKinds := [.data], laidTests := true, laidLooks := .later }
def SaturatePlansCardSaid : Prop := Claim7.holds Tryz.pinned (.plain (OpenSpec.ofChange saturatePlansSpec)) saturatePlansCard

/-- THE SECOND FORM's CARD OF 'arbaclaw35.SaturateFragment'. -/
def saturateFragmentUptoCard : Claim7 := { stood := { row := saturateFragmentUptoRow, standIns := [], harness := (true, "c3149becd198d29015449e0d705ae27b5a03ac5ddd59b56b3bc98e4a229c6d98"), looks := false }, kinds := [], alts := [], laidByText := true, laidKinds := [.data], laidTests := true, laidLooks := .later }
def SaturateFragmentUptoCardSaid : Prop := Claim7.holds Tryz.pinned (.plain (OpenSpec.upto saturateFragmentSpec)) saturateFragmentUptoCard

/-- THE SECOND FORM's CARD OF 'arbaclaw35.SaturateUpper'. -/
def saturateUpperUptoCard : Claim7 := { stood := { row := saturateUpperUptoRow, standIns := [], harness := (true, "c3149becd198d29015449e0d705ae27b5a03ac5ddd59b56b3bc98e4a229c6d98"), looks := false }, kinds := [], alts := [], laidByText := true, laidKinds := [.data], laidTests := true, laidLooks := .later }
def SaturateUpperUptoCardSaid : Prop := Claim7.holds Tryz.pinned (.plain (OpenSpec.upto saturateUpperSpec)) saturateUpperUptoCard

/-- THE SECOND FORM's CARD OF 'arbaclaw35.SaturateObtainable'. -/
def saturateObtainableUptoCard : Claim7 := { stood := { row := saturateObtainableUptoRow, standIns := [], harness := (true, "c3149becd198d29015449e0d705ae27b5a03ac5ddd59b56b3bc98e4a229c6d98"), looks := false }, kinds := [], alts := [], laidByText := true, laidKinds := [.data], laidTests := true, laidLooks := .later }
def SaturateObtainableUptoCardSaid : Prop := Claim7.holds Tryz.pinned (.plain (OpenSpec.upto saturateObtainableSpec)) saturateObtainableUptoCard

/-- THE SECOND FORM's CARD OF 'arbaclaw35.SaturateRefuses'. -/
def saturateRefusesUptoCard : Claim7 := { stood := { row := saturateRefusesUptoRow, standIns := [], harness := (true, "c3149becd198d29015449e0d705ae27b5a03ac5ddd59b56b3bc98e4a229c6d98"), looks := false }, kinds := [], alts := [], laidByText := true, laidKinds := [.data], laidTests := true, laidLooks := .later }
def SaturateRefusesUptoCardSaid : Prop := Claim7.holds Tryz.pinned (.plain (OpenSpec.upto saturateRefusesSpec)) saturateRefusesUptoCard

/-- THE SECOND FORM's CARD OF 'arbaclaw35.SaturateGrows'. -/
def saturateGrowsUptoCard : Claim7 := { stood := { row := saturateGrowsUptoRow, standIns := [], harness := (true, "c3149becd198d29015449e0d705ae27b5a03ac5ddd59b56b3bc98e4a229c6d98"), looks := false }, kinds := [], alts := [], laidByText := true, laidKinds := [.data], laidTests := true, laidLooks := .later }
def SaturateGrowsUptoCardSaid : Prop := Claim7.holds Tryz.pinned (.plain (OpenSpec.upto saturateGrowsSpec)) saturateGrowsUptoCard

/-- THE SECOND FORM's CARD OF 'arbaclaw35.SaturateSlices'. -/
def saturateSlicesUptoCard : Claim7 := { stood := { row := saturateSlicesUptoRow, standIns := [], harness := (true, "c3149becd198d29015449e0d705ae27b5a03ac5ddd59b56b3bc98e4a229c6d98"), looks := false }, kinds := [], alts := [], laidByText := true, laidKinds := [.data], laidTests := true, laidLooks := .later }
def SaturateSlicesUptoCardSaid : Prop := Claim7.holds Tryz.pinned (.plain (OpenSpec.upto saturateSlicesSpec)) saturateSlicesUptoCard

/-- THE SECOND FORM's CARD OF 'arbaclaw35.SaturateSearches'. -/
def saturateSearchesUptoCard : Claim7 := { stood := { row := saturateSearchesUptoRow, standIns := [], harness := (true, "c3149becd198d29015449e0d705ae27b5a03ac5ddd59b56b3bc98e4a229c6d98"), looks := false }, kinds := [], alts := [], laidByText := true, laidKinds := [.data], laidTests := true, laidLooks := .later }
def SaturateSearchesUptoCardSaid : Prop := Claim7.holds Tryz.pinned (.plain (OpenSpec.upto saturateSearchesSpec)) saturateSearchesUptoCard

/-- THE SECOND FORM's CARD OF 'arbaclaw35.SaturateInvariants'. -/
def saturateInvariantsUptoCard : Claim7 := { stood := { row := saturateInvariantsUptoRow, standIns := [], harness := (true, "c3149becd198d29015449e0d705ae27b5a03ac5ddd59b56b3bc98e4a229c6d98"), looks := false }, kinds := [], alts := [], laidByText := true, laidKinds := [.data], laidTests := true, laidLooks := .later }
def SaturateInvariantsUptoCardSaid : Prop := Claim7.holds Tryz.pinned (.plain (OpenSpec.upto saturateInvariantsSpec)) saturateInvariantsUptoCard

/-- THE SECOND FORM's CARD OF 'arbaclaw35.SaturatePlans'. -/
def saturatePlansUptoCard : Claim7 := { stood := { row := saturatePlansUptoRow, standIns := [], harness := (true, "c3149becd198d29015449e0d705ae27b5a03ac5ddd59b56b3bc98e4a229c6d98"), looks := false }, kinds := [], alts := [], laidByText := true, laidKinds := [.data], laidTests := true, laidLooks := .later }
def SaturatePlansUptoCardSaid : Prop := Claim7.holds Tryz.pinned (.plain (OpenSpec.upto saturatePlansSpec)) saturatePlansUptoCard
end Rows
end Go.Proofs.YtjjhcdkamohgnaaGreatDoor
