/-
  NARROWER THAN 'FOR EVERY INPUT', by the rows' own cells (each row's printed sentence says how): SaturateFragment: laid · SaturateUpper: laid · SaturateObtainable: laid · SaturateRefuses: laid · SaturateGrows: laid · SaturateSlices: laid · SaturateSearches: laid · SaturateInvariants: laid · SaturatePlans: laid.
  DERIVED. THE GIVEN ROWS OF THIS SEAT. 9 by the template 'for every input the law returns true; each argument reads behind the call as it read before'; 0 by the template 'total and deterministic' (their statements: YtjjhcdkamohgnaaGreatDoorTotals.lean).
  GIVEN WITH THE SEED: the statements are not yours to turn. If you find one false, say at which input.
  Laid BY PROGRAM, IN A SANDBOX (cutbox-rows.mjs): the forced cells as the released guide's own fill.sh prints them over the translation a8c7fdf8be588c0a… (all of the seat's roots in one cut). By AI agents, Wed Nov 11 2026. No macro, syntax, notation, axiom, sorry.
-/
import Derived.Test.YtjjhcdkamohgnaaGreatDoorChecked
import GoSem.Claim
import GoSem.ClaimJoined
import GoSem.ClaimMapViews
import Derived.JoinedTies
import Derived.KernelRfl
namespace Go.Proofs.YtjjhcdkamohgnaaGreatDoor
/- THE CELL 'sum', in the pinned program and in every row, IS THE sha256 OF THE DUMP (.gsa) THAT YtjjhcdkamohgnaaGreatDoorProg.lean LOADS. Nothing in Lean hashes anything: it is a label: what it is worth is what the hold of that sum in a sandbox is worth. -/
noncomputable def Tryz.pinned : Pinned := { name := "ytjjhcdkamohgnaagreatdoor", sum := "a8c7fdf8be588c0a51d52115f52621087ed5671cdd3ba4586cec2bc2022281af", checked := Tryz.checked }
namespace Rows
def none {H : Type} : Left H := { results := [], args := [] }

/- WHAT THE LISTED PACKAGE-LEVEL VARIABLES READ AS WHEN THE CALL BEGINS. Each datum BY PROGRAM (the guide's laid-datum.mjs) off the statement by which the dump's own 'gosem.cut.vars' lays the variable. In a bare row this is a premise. The card (YtjjhcdkamohgnaaGreatDoorCards.lean) ties it to the program's text. -/
def laid_math_bits_deBruijn64tab {H : Type} : DataW H := .agg [.lit (.int .u8 0), .lit (.int .u8 1), .lit (.int .u8 56), .lit (.int .u8 2), .lit (.int .u8 57), .lit (.int .u8 49), .lit (.int .u8 28), .lit (.int .u8 3), .lit (.int .u8 61), .lit (.int .u8 58), .lit (.int .u8 42), .lit (.int .u8 50), .lit (.int .u8 38), .lit (.int .u8 29), .lit (.int .u8 17), .lit (.int .u8 4), .lit (.int .u8 62), .lit (.int .u8 47), .lit (.int .u8 59), .lit (.int .u8 36), .lit (.int .u8 45), .lit (.int .u8 43), .lit (.int .u8 51), .lit (.int .u8 22), .lit (.int .u8 53), .lit (.int .u8 39), .lit (.int .u8 33), .lit (.int .u8 30), .lit (.int .u8 24), .lit (.int .u8 18), .lit (.int .u8 12), .lit (.int .u8 5), .lit (.int .u8 63), .lit (.int .u8 55), .lit (.int .u8 48), .lit (.int .u8 27), .lit (.int .u8 60), .lit (.int .u8 41), .lit (.int .u8 37), .lit (.int .u8 16), .lit (.int .u8 46), .lit (.int .u8 35), .lit (.int .u8 44), .lit (.int .u8 21), .lit (.int .u8 52), .lit (.int .u8 32), .lit (.int .u8 23), .lit (.int .u8 11), .lit (.int .u8 54), .lit (.int .u8 26), .lit (.int .u8 40), .lit (.int .u8 15), .lit (.int .u8 34), .lit (.int .u8 20), .lit (.int .u8 31), .lit (.int .u8 10), .lit (.int .u8 25), .lit (.int .u8 14), .lit (.int .u8 19), .lit (.int .u8 9), .lit (.int .u8 13), .lit (.int .u8 8), .lit (.int .u8 7), .lit (.int .u8 6)]

/-- 'arbaclaw35.SaturateFragment': WHATEVER THE INPUT: true; the input reads as it did. -/
def saturateFragmentSpec : ChangeSpec := { name := "saturateFragment", fn := fun _ => fun
  | [d1, d2] => { results := [.lit (.bool true)], args := [d1, d2] }
  | _ => none }
def saturateFragmentRow : OpenClaim := { program := "ytjjhcdkamohgnaagreatdoor", sum := "a8c7fdf8be588c0a51d52115f52621087ed5671cdd3ba4586cec2bc2022281af", func := "arbac/arbaclaw35.SaturateFragment", spec := "saturateFragment", unfollowed := true, recurses := true, named := ["math/bits.deBruijn64tab"], apart := false, laid := [("math/bits.deBruijn64tab", laid_math_bits_deBruijn64tab)] }
def SaturateFragmentSaid : Prop := saturateFragmentRow.holds Tryz.pinned (OpenSpec.ofChange saturateFragmentSpec)

/-- ITS FALSE NEIGHBOUR: 'it returns false'. Refute it at one input. -/
def saturateFragmentWrong : ChangeSpec := { name := "saturateFragment", fn := fun _ => fun
  | [d1, d2] => { results := [.lit (.bool false)], args := [d1, d2] }
  | _ => none }
def SaturateFragmentWrongFalsely : Prop := saturateFragmentRow.holds Tryz.pinned (OpenSpec.ofChange saturateFragmentWrong)

/-- 'arbaclaw35.SaturateUpper': WHATEVER THE INPUT: true; the input reads as it did. -/
def saturateUpperSpec : ChangeSpec := { name := "saturateUpper", fn := fun _ => fun
  | [d1, d2] => { results := [.lit (.bool true)], args := [d1, d2] }
  | _ => none }
def saturateUpperRow : OpenClaim := { program := "ytjjhcdkamohgnaagreatdoor", sum := "a8c7fdf8be588c0a51d52115f52621087ed5671cdd3ba4586cec2bc2022281af", func := "arbac/arbaclaw35.SaturateUpper", spec := "saturateUpper", unfollowed := true, recurses := true, named := ["math/bits.deBruijn64tab"], apart := false, laid := [("math/bits.deBruijn64tab", laid_math_bits_deBruijn64tab)] }
def SaturateUpperSaid : Prop := saturateUpperRow.holds Tryz.pinned (OpenSpec.ofChange saturateUpperSpec)

/-- ITS FALSE NEIGHBOUR: 'it returns false'. Refute it at one input. -/
def saturateUpperWrong : ChangeSpec := { name := "saturateUpper", fn := fun _ => fun
  | [d1, d2] => { results := [.lit (.bool false)], args := [d1, d2] }
  | _ => none }
def SaturateUpperWrongFalsely : Prop := saturateUpperRow.holds Tryz.pinned (OpenSpec.ofChange saturateUpperWrong)

/-- 'arbaclaw35.SaturateObtainable': WHATEVER THE INPUT: true; the input reads as it did. -/
def saturateObtainableSpec : ChangeSpec := { name := "saturateObtainable", fn := fun _ => fun
  | [d1, d2] => { results := [.lit (.bool true)], args := [d1, d2] }
  | _ => none }
def saturateObtainableRow : OpenClaim := { program := "ytjjhcdkamohgnaagreatdoor", sum := "a8c7fdf8be588c0a51d52115f52621087ed5671cdd3ba4586cec2bc2022281af", func := "arbac/arbaclaw35.SaturateObtainable", spec := "saturateObtainable", unfollowed := true, recurses := true, named := ["math/bits.deBruijn64tab"], apart := false, laid := [("math/bits.deBruijn64tab", laid_math_bits_deBruijn64tab)] }
def SaturateObtainableSaid : Prop := saturateObtainableRow.holds Tryz.pinned (OpenSpec.ofChange saturateObtainableSpec)

/-- ITS FALSE NEIGHBOUR: 'it returns false'. Refute it at one input. -/
def saturateObtainableWrong : ChangeSpec := { name := "saturateObtainable", fn := fun _ => fun
  | [d1, d2] => { results := [.lit (.bool false)], args := [d1, d2] }
  | _ => none }
def SaturateObtainableWrongFalsely : Prop := saturateObtainableRow.holds Tryz.pinned (OpenSpec.ofChange saturateObtainableWrong)

/-- 'arbaclaw35.SaturateRefuses': WHATEVER THE INPUT: true; the input reads as it did. -/
def saturateRefusesSpec : ChangeSpec := { name := "saturateRefuses", fn := fun _ => fun
  | [d1, d2] => { results := [.lit (.bool true)], args := [d1, d2] }
  | _ => none }
def saturateRefusesRow : OpenClaim := { program := "ytjjhcdkamohgnaagreatdoor", sum := "a8c7fdf8be588c0a51d52115f52621087ed5671cdd3ba4586cec2bc2022281af", func := "arbac/arbaclaw35.SaturateRefuses", spec := "saturateRefuses", unfollowed := true, recurses := true, named := ["math/bits.deBruijn64tab"], apart := false, laid := [("math/bits.deBruijn64tab", laid_math_bits_deBruijn64tab)] }
def SaturateRefusesSaid : Prop := saturateRefusesRow.holds Tryz.pinned (OpenSpec.ofChange saturateRefusesSpec)

/-- ITS FALSE NEIGHBOUR: 'it returns false'. Refute it at one input. -/
def saturateRefusesWrong : ChangeSpec := { name := "saturateRefuses", fn := fun _ => fun
  | [d1, d2] => { results := [.lit (.bool false)], args := [d1, d2] }
  | _ => none }
def SaturateRefusesWrongFalsely : Prop := saturateRefusesRow.holds Tryz.pinned (OpenSpec.ofChange saturateRefusesWrong)

/-- 'arbaclaw35.SaturateGrows': WHATEVER THE INPUT: true; the input reads as it did. -/
def saturateGrowsSpec : ChangeSpec := { name := "saturateGrows", fn := fun _ => fun
  | [d1, d2, d3] => { results := [.lit (.bool true)], args := [d1, d2, d3] }
  | _ => none }
def saturateGrowsRow : OpenClaim := { program := "ytjjhcdkamohgnaagreatdoor", sum := "a8c7fdf8be588c0a51d52115f52621087ed5671cdd3ba4586cec2bc2022281af", func := "arbac/arbaclaw35.SaturateGrows", spec := "saturateGrows", unfollowed := true, recurses := true, named := ["math/bits.deBruijn64tab"], apart := false, laid := [("math/bits.deBruijn64tab", laid_math_bits_deBruijn64tab)] }
def SaturateGrowsSaid : Prop := saturateGrowsRow.holds Tryz.pinned (OpenSpec.ofChange saturateGrowsSpec)

/-- ITS FALSE NEIGHBOUR: 'it returns false'. Refute it at one input. -/
def saturateGrowsWrong : ChangeSpec := { name := "saturateGrows", fn := fun _ => fun
  | [d1, d2, d3] => { results := [.lit (.bool false)], args := [d1, d2, d3] }
  | _ => none }
def SaturateGrowsWrongFalsely : Prop := saturateGrowsRow.holds Tryz.pinned (OpenSpec.ofChange saturateGrowsWrong)

/-- 'arbaclaw35.SaturateSlices': WHATEVER THE INPUT: true; the input reads as it did. -/
def saturateSlicesSpec : ChangeSpec := { name := "saturateSlices", fn := fun _ => fun
  | [d1, d2] => { results := [.lit (.bool true)], args := [d1, d2] }
  | _ => none }
def saturateSlicesRow : OpenClaim := { program := "ytjjhcdkamohgnaagreatdoor", sum := "a8c7fdf8be588c0a51d52115f52621087ed5671cdd3ba4586cec2bc2022281af", func := "arbac/arbaclaw35.SaturateSlices", spec := "saturateSlices", unfollowed := true, recurses := true, named := ["math/bits.deBruijn64tab"], apart := false, laid := [("math/bits.deBruijn64tab", laid_math_bits_deBruijn64tab)] }
def SaturateSlicesSaid : Prop := saturateSlicesRow.holds Tryz.pinned (OpenSpec.ofChange saturateSlicesSpec)

/-- ITS FALSE NEIGHBOUR: 'it returns false'. Refute it at one input. -/
def saturateSlicesWrong : ChangeSpec := { name := "saturateSlices", fn := fun _ => fun
  | [d1, d2] => { results := [.lit (.bool false)], args := [d1, d2] }
  | _ => none }
def SaturateSlicesWrongFalsely : Prop := saturateSlicesRow.holds Tryz.pinned (OpenSpec.ofChange saturateSlicesWrong)

/-- 'arbaclaw35.SaturateSearches': WHATEVER THE INPUT: true; the input reads as it did. -/
def saturateSearchesSpec : ChangeSpec := { name := "saturateSearches", fn := fun _ => fun
  | [d1, d2] => { results := [.lit (.bool true)], args := [d1, d2] }
  | _ => none }
def saturateSearchesRow : OpenClaim := { program := "ytjjhcdkamohgnaagreatdoor", sum := "a8c7fdf8be588c0a51d52115f52621087ed5671cdd3ba4586cec2bc2022281af", func := "arbac/arbaclaw35.SaturateSearches", spec := "saturateSearches", unfollowed := true, recurses := true, named := ["math/bits.deBruijn64tab"], apart := false, laid := [("math/bits.deBruijn64tab", laid_math_bits_deBruijn64tab)] }
def SaturateSearchesSaid : Prop := saturateSearchesRow.holds Tryz.pinned (OpenSpec.ofChange saturateSearchesSpec)

/-- ITS FALSE NEIGHBOUR: 'it returns false'. Refute it at one input. -/
def saturateSearchesWrong : ChangeSpec := { name := "saturateSearches", fn := fun _ => fun
  | [d1, d2] => { results := [.lit (.bool false)], args := [d1, d2] }
  | _ => none }
def SaturateSearchesWrongFalsely : Prop := saturateSearchesRow.holds Tryz.pinned (OpenSpec.ofChange saturateSearchesWrong)

/-- 'arbaclaw35.SaturateInvariants': WHATEVER THE INPUT: true; the input reads as it did. -/
def saturateInvariantsSpec : ChangeSpec := { name := "saturateInvariants", fn := fun _ => fun
  | [d] => { results := [.lit (.bool true)], args := [d] }
  | _ => none }
def saturateInvariantsRow : OpenClaim := { program := "ytjjhcdkamohgnaagreatdoor", sum := "a8c7fdf8be588c0a51d52115f52621087ed5671cdd3ba4586cec2bc2022281af", func := "arbac/arbaclaw35.SaturateInvariants", spec := "saturateInvariants", unfollowed := true, recurses := true, named := ["math/bits.deBruijn64tab"], apart := false, laid := [("math/bits.deBruijn64tab", laid_math_bits_deBruijn64tab)] }
def SaturateInvariantsSaid : Prop := saturateInvariantsRow.holds Tryz.pinned (OpenSpec.ofChange saturateInvariantsSpec)

/-- ITS FALSE NEIGHBOUR: 'it returns false'. Refute it at one input. -/
def saturateInvariantsWrong : ChangeSpec := { name := "saturateInvariants", fn := fun _ => fun
  | [d] => { results := [.lit (.bool false)], args := [d] }
  | _ => none }
def SaturateInvariantsWrongFalsely : Prop := saturateInvariantsRow.holds Tryz.pinned (OpenSpec.ofChange saturateInvariantsWrong)

/-- 'arbaclaw35.SaturatePlans': WHATEVER THE INPUT: true; the input reads as it did. -/
def saturatePlansSpec : ChangeSpec := { name := "saturatePlans", fn := fun _ => fun
  | [d] => { results := [.lit (.bool true)], args := [d] }
  | _ => none }
def saturatePlansRow : OpenClaim := { program := "ytjjhcdkamohgnaagreatdoor", sum := "a8c7fdf8be588c0a51d52115f52621087ed5671cdd3ba4586cec2bc2022281af", func := "arbac/arbaclaw35.SaturatePlans", spec := "saturatePlans", unfollowed := true, recurses := true, named := ["math/bits.deBruijn64tab"], apart := false, laid := [("math/bits.deBruijn64tab", laid_math_bits_deBruijn64tab)] }
def SaturatePlansSaid : Prop := saturatePlansRow.holds Tryz.pinned (OpenSpec.ofChange saturatePlansSpec)

/-- ITS FALSE NEIGHBOUR: 'it returns false'. Refute it at one input. -/
def saturatePlansWrong : ChangeSpec := { name := "saturatePlans", fn := fun _ => fun
  | [d] => { results := [.lit (.bool false)], args := [d] }
  | _ => none }
def SaturatePlansWrongFalsely : Prop := saturatePlansRow.holds Tryz.pinned (OpenSpec.ofChange saturatePlansWrong)

/- THE SECOND FORM. 'bulk': how many values and letters a reading holds, each counted each time it is reached (what is shared counts as often as it is met; a slice's spare places count too). A statement '..UptoSaid' is the law's where the arguments, and the package variables that the reading takes, are together of bulk at most 1048576: NARROWER than '..Said'. Prove '..Said' where nothing that the law and all that it calls make is longer than what came in: it says more and counts as full. Else prove '..UptoSaid'. A law counts once. -/
mutual
def uptoBulk {H : Type} : DataW H → Nat
  | .lit (.string bytes) => bytes.length + 1
  | .lit _ => 1
  | .nil => 1
  | .ptr d => uptoBulk d + 1
  | .slice elems spare => uptoBulkAll elems + uptoBulkAll spare + 1
  | .agg parts => uptoBulkAll parts + 1
  | .iface _ d => uptoBulk d + 1
  | .map entries => uptoBulkEntries entries + 1
  | .held _ => 1
def uptoBulkAll {H : Type} : List (DataW H) → Nat
  | [] => 0
  | d :: r => uptoBulk d + uptoBulkAll r
def uptoBulkEntries {H : Type} : List (Lit × DataW H) → Nat
  | [] => 0
  | x :: r => uptoBulkEntry x + uptoBulkEntries r
def uptoBulkEntry {H : Type} : Lit × DataW H → Nat
  | (.string bytes, d) => bytes.length + uptoBulk d + 1
  | (_, d) => uptoBulk d + 1
 end
def uptoSmall : (H : Type) → List (DataW H) → Bool := fun _ ds => decide (uptoBulkAll ds ≤ 1048576)
def OpenSpec.upto (s : _root_.Go.ChangeSpec) : _root_.Go.OpenSpec := { _root_.Go.OpenSpec.ofChange s with cond := some uptoSmall }

/-- 'arbaclaw35.SaturateFragment', WHERE WHAT IT READS IS OF BULK AT MOST 1048576: true; the input reads as it did. -/
def saturateFragmentUptoRow : OpenClaim := { program := "ytjjhcdkamohgnaagreatdoor", sum := "a8c7fdf8be588c0a51d52115f52621087ed5671cdd3ba4586cec2bc2022281af", func := "arbac/arbaclaw35.SaturateFragment", spec := "saturateFragment", unfollowed := true, recurses := true, named := ["math/bits.deBruijn64tab"], apart := false, laid := [("math/bits.deBruijn64tab", laid_math_bits_deBruijn64tab)], narrowed := true }
def SaturateFragmentUptoSaid : Prop := saturateFragmentUptoRow.holds Tryz.pinned (OpenSpec.upto saturateFragmentSpec)

/-- 'arbaclaw35.SaturateUpper', WHERE WHAT IT READS IS OF BULK AT MOST 1048576: true; the input reads as it did. -/
def saturateUpperUptoRow : OpenClaim := { program := "ytjjhcdkamohgnaagreatdoor", sum := "a8c7fdf8be588c0a51d52115f52621087ed5671cdd3ba4586cec2bc2022281af", func := "arbac/arbaclaw35.SaturateUpper", spec := "saturateUpper", unfollowed := true, recurses := true, named := ["math/bits.deBruijn64tab"], apart := false, laid := [("math/bits.deBruijn64tab", laid_math_bits_deBruijn64tab)], narrowed := true }
def SaturateUpperUptoSaid : Prop := saturateUpperUptoRow.holds Tryz.pinned (OpenSpec.upto saturateUpperSpec)

/-- 'arbaclaw35.SaturateObtainable', WHERE WHAT IT READS IS OF BULK AT MOST 1048576: true; the input reads as it did. -/
def saturateObtainableUptoRow : OpenClaim := { program := "ytjjhcdkamohgnaagreatdoor", sum := "a8c7fdf8be588c0a51d52115f52621087ed5671cdd3ba4586cec2bc2022281af", func := "arbac/arbaclaw35.SaturateObtainable", spec := "saturateObtainable", unfollowed := true, recurses := true, named := ["math/bits.deBruijn64tab"], apart := false, laid := [("math/bits.deBruijn64tab", laid_math_bits_deBruijn64tab)], narrowed := true }
def SaturateObtainableUptoSaid : Prop := saturateObtainableUptoRow.holds Tryz.pinned (OpenSpec.upto saturateObtainableSpec)

/-- 'arbaclaw35.SaturateRefuses', WHERE WHAT IT READS IS OF BULK AT MOST 1048576: true; the input reads as it did. -/
def saturateRefusesUptoRow : OpenClaim := { program := "ytjjhcdkamohgnaagreatdoor", sum := "a8c7fdf8be588c0a51d52115f52621087ed5671cdd3ba4586cec2bc2022281af", func := "arbac/arbaclaw35.SaturateRefuses", spec := "saturateRefuses", unfollowed := true, recurses := true, named := ["math/bits.deBruijn64tab"], apart := false, laid := [("math/bits.deBruijn64tab", laid_math_bits_deBruijn64tab)], narrowed := true }
def SaturateRefusesUptoSaid : Prop := saturateRefusesUptoRow.holds Tryz.pinned (OpenSpec.upto saturateRefusesSpec)

/-- 'arbaclaw35.SaturateGrows', WHERE WHAT IT READS IS OF BULK AT MOST 1048576: true; the input reads as it did. -/
def saturateGrowsUptoRow : OpenClaim := { program := "ytjjhcdkamohgnaagreatdoor", sum := "a8c7fdf8be588c0a51d52115f52621087ed5671cdd3ba4586cec2bc2022281af", func := "arbac/arbaclaw35.SaturateGrows", spec := "saturateGrows", unfollowed := true, recurses := true, named := ["math/bits.deBruijn64tab"], apart := false, laid := [("math/bits.deBruijn64tab", laid_math_bits_deBruijn64tab)], narrowed := true }
def SaturateGrowsUptoSaid : Prop := saturateGrowsUptoRow.holds Tryz.pinned (OpenSpec.upto saturateGrowsSpec)

/-- 'arbaclaw35.SaturateSlices', WHERE WHAT IT READS IS OF BULK AT MOST 1048576: true; the input reads as it did. -/
def saturateSlicesUptoRow : OpenClaim := { program := "ytjjhcdkamohgnaagreatdoor", sum := "a8c7fdf8be588c0a51d52115f52621087ed5671cdd3ba4586cec2bc2022281af", func := "arbac/arbaclaw35.SaturateSlices", spec := "saturateSlices", unfollowed := true, recurses := true, named := ["math/bits.deBruijn64tab"], apart := false, laid := [("math/bits.deBruijn64tab", laid_math_bits_deBruijn64tab)], narrowed := true }
def SaturateSlicesUptoSaid : Prop := saturateSlicesUptoRow.holds Tryz.pinned (OpenSpec.upto saturateSlicesSpec)

/-- 'arbaclaw35.SaturateSearches', WHERE WHAT IT READS IS OF BULK AT MOST 1048576: true; the input reads as it did. -/
def saturateSearchesUptoRow : OpenClaim := { program := "ytjjhcdkamohgnaagreatdoor", sum := "a8c7fdf8be588c0a51d52115f52621087ed5671cdd3ba4586cec2bc2022281af", func := "arbac/arbaclaw35.SaturateSearches", spec := "saturateSearches", unfollowed := true, recurses := true, named := ["math/bits.deBruijn64tab"], apart := false, laid := [("math/bits.deBruijn64tab", laid_math_bits_deBruijn64tab)], narrowed := true }
def SaturateSearchesUptoSaid : Prop := saturateSearchesUptoRow.holds Tryz.pinned (OpenSpec.upto saturateSearchesSpec)

/-- 'arbaclaw35.SaturateInvariants', WHERE WHAT IT READS IS OF BULK AT MOST 1048576: true; the input reads as it did. -/
def saturateInvariantsUptoRow : OpenClaim := { program := "ytjjhcdkamohgnaagreatdoor", sum := "a8c7fdf8be588c0a51d52115f52621087ed5671cdd3ba4586cec2bc2022281af", func := "arbac/arbaclaw35.SaturateInvariants", spec := "saturateInvariants", unfollowed := true, recurses := true, named := ["math/bits.deBruijn64tab"], apart := false, laid := [("math/bits.deBruijn64tab", laid_math_bits_deBruijn64tab)], narrowed := true }
def SaturateInvariantsUptoSaid : Prop := saturateInvariantsUptoRow.holds Tryz.pinned (OpenSpec.upto saturateInvariantsSpec)

/-- 'arbaclaw35.SaturatePlans', WHERE WHAT IT READS IS OF BULK AT MOST 1048576: true; the input reads as it did. -/
def saturatePlansUptoRow : OpenClaim := { program := "ytjjhcdkamohgnaagreatdoor", sum := "a8c7fdf8be588c0a51d52115f52621087ed5671cdd3ba4586cec2bc2022281af", func := "arbac/arbaclaw35.SaturatePlans", spec := "saturatePlans", unfollowed := true, recurses := true, named := ["math/bits.deBruijn64tab"], apart := false, laid := [("math/bits.deBruijn64tab", laid_math_bits_deBruijn64tab)], narrowed := true }
def SaturatePlansUptoSaid : Prop := saturatePlansUptoRow.holds Tryz.pinned (OpenSpec.upto saturatePlansSpec)

end Rows
end Go.Proofs.YtjjhcdkamohgnaaGreatDoor
