/-
  NARROWER THAN 'FOR EVERY INPUT', by the rows' own cells (each row's printed sentence says how): SliceRelevant: laid · SliceRefuses: laid · SliceDepends: laid · SliceUseless: laid · SlicePlans: laid · SliceInvariants: laid · SliceOf: laid · SliceShortest: laid.
  DERIVED. THE GIVEN ROWS OF THIS SEAT. 8 by the template 'for every input the law returns true; each argument reads behind the call as it read before'; 0 by the template 'total and deterministic' (their statements: YtihpgmbinhmmlaaGreatDoorTotals.lean).
  GIVEN WITH THE SEED: the statements are not yours to turn. If you find one false, say at which input.
  Laid BY PROGRAM, IN A SANDBOX (cutbox-rows.mjs): the forced cells as the released guide's own fill.sh prints them over the translation e17b84eaee4cd9f9… (all of the seat's roots in one cut). By AI agents, Wed Nov 11 2026. No macro, syntax, notation, axiom, sorry.
-/
import Derived.Test.YtihpgmbinhmmlaaGreatDoorChecked
import GoSem.Claim
import GoSem.ClaimJoined
import GoSem.ClaimMapViews
import Derived.JoinedTies
import Derived.KernelRfl
namespace Go.Proofs.YtihpgmbinhmmlaaGreatDoor
/- THE CELL 'sum', in the pinned program and in every row, IS THE sha256 OF THE DUMP (.gsa) THAT YtihpgmbinhmmlaaGreatDoorProg.lean LOADS. Nothing in Lean hashes anything: it is a label: what it is worth is what the hold of that sum in a sandbox is worth. -/
noncomputable def Tryz.pinned : Pinned := { name := "ytihpgmbinhmmlaagreatdoor", sum := "e17b84eaee4cd9f9a3d2f9921c5ba43193740da82fd52aa4f8f7bb46d6e40ec5", checked := Tryz.checked }
namespace Rows
def none {H : Type} : Left H := { results := [], args := [] }

/- WHAT THE LISTED PACKAGE-LEVEL VARIABLES READ AS WHEN THE CALL BEGINS. Each datum BY PROGRAM (the guide's laid-datum.mjs) off the statement by which the dump's own 'gosem.cut.vars' lays the variable. In a bare row this is a premise. The card (YtihpgmbinhmmlaaGreatDoorCards.lean) ties it to the program's text. -/
def laid_math_bits_deBruijn64tab {H : Type} : DataW H := .agg [.lit (.int .u8 0), .lit (.int .u8 1), .lit (.int .u8 56), .lit (.int .u8 2), .lit (.int .u8 57), .lit (.int .u8 49), .lit (.int .u8 28), .lit (.int .u8 3), .lit (.int .u8 61), .lit (.int .u8 58), .lit (.int .u8 42), .lit (.int .u8 50), .lit (.int .u8 38), .lit (.int .u8 29), .lit (.int .u8 17), .lit (.int .u8 4), .lit (.int .u8 62), .lit (.int .u8 47), .lit (.int .u8 59), .lit (.int .u8 36), .lit (.int .u8 45), .lit (.int .u8 43), .lit (.int .u8 51), .lit (.int .u8 22), .lit (.int .u8 53), .lit (.int .u8 39), .lit (.int .u8 33), .lit (.int .u8 30), .lit (.int .u8 24), .lit (.int .u8 18), .lit (.int .u8 12), .lit (.int .u8 5), .lit (.int .u8 63), .lit (.int .u8 55), .lit (.int .u8 48), .lit (.int .u8 27), .lit (.int .u8 60), .lit (.int .u8 41), .lit (.int .u8 37), .lit (.int .u8 16), .lit (.int .u8 46), .lit (.int .u8 35), .lit (.int .u8 44), .lit (.int .u8 21), .lit (.int .u8 52), .lit (.int .u8 32), .lit (.int .u8 23), .lit (.int .u8 11), .lit (.int .u8 54), .lit (.int .u8 26), .lit (.int .u8 40), .lit (.int .u8 15), .lit (.int .u8 34), .lit (.int .u8 20), .lit (.int .u8 31), .lit (.int .u8 10), .lit (.int .u8 25), .lit (.int .u8 14), .lit (.int .u8 19), .lit (.int .u8 9), .lit (.int .u8 13), .lit (.int .u8 8), .lit (.int .u8 7), .lit (.int .u8 6)]

/-- 'arbaclaw33.SliceRelevant': WHATEVER THE INPUT: true; the input reads as it did. -/
def sliceRelevantSpec : ChangeSpec := { name := "sliceRelevant", fn := fun _ => fun
  | [d] => { results := [.lit (.bool true)], args := [d] }
  | _ => none }
def sliceRelevantRow : OpenClaim := { program := "ytihpgmbinhmmlaagreatdoor", sum := "e17b84eaee4cd9f9a3d2f9921c5ba43193740da82fd52aa4f8f7bb46d6e40ec5", func := "arbac/arbaclaw33.SliceRelevant", spec := "sliceRelevant", unfollowed := true, recurses := true, named := ["math/bits.deBruijn64tab"], apart := false, laid := [("math/bits.deBruijn64tab", laid_math_bits_deBruijn64tab)] }
def SliceRelevantSaid : Prop := sliceRelevantRow.holds Tryz.pinned (OpenSpec.ofChange sliceRelevantSpec)

/-- ITS FALSE NEIGHBOUR: 'it returns false'. Refute it at one input. -/
def sliceRelevantWrong : ChangeSpec := { name := "sliceRelevant", fn := fun _ => fun
  | [d] => { results := [.lit (.bool false)], args := [d] }
  | _ => none }
def SliceRelevantWrongFalsely : Prop := sliceRelevantRow.holds Tryz.pinned (OpenSpec.ofChange sliceRelevantWrong)

/-- 'arbaclaw33.SliceRefuses': WHATEVER THE INPUT: true; the input reads as it did. -/
def sliceRefusesSpec : ChangeSpec := { name := "sliceRefuses", fn := fun _ => fun
  | [d1, d2] => { results := [.lit (.bool true)], args := [d1, d2] }
  | _ => none }
def sliceRefusesRow : OpenClaim := { program := "ytihpgmbinhmmlaagreatdoor", sum := "e17b84eaee4cd9f9a3d2f9921c5ba43193740da82fd52aa4f8f7bb46d6e40ec5", func := "arbac/arbaclaw33.SliceRefuses", spec := "sliceRefuses", unfollowed := true, recurses := true, named := ["math/bits.deBruijn64tab"], apart := false, laid := [("math/bits.deBruijn64tab", laid_math_bits_deBruijn64tab)] }
def SliceRefusesSaid : Prop := sliceRefusesRow.holds Tryz.pinned (OpenSpec.ofChange sliceRefusesSpec)

/-- ITS FALSE NEIGHBOUR: 'it returns false'. Refute it at one input. -/
def sliceRefusesWrong : ChangeSpec := { name := "sliceRefuses", fn := fun _ => fun
  | [d1, d2] => { results := [.lit (.bool false)], args := [d1, d2] }
  | _ => none }
def SliceRefusesWrongFalsely : Prop := sliceRefusesRow.holds Tryz.pinned (OpenSpec.ofChange sliceRefusesWrong)

/-- 'arbaclaw33.SliceDepends': WHATEVER THE INPUT: true; the input reads as it did. -/
def sliceDependsSpec : ChangeSpec := { name := "sliceDepends", fn := fun _ => fun
  | [d1, d2, d3] => { results := [.lit (.bool true)], args := [d1, d2, d3] }
  | _ => none }
def sliceDependsRow : OpenClaim := { program := "ytihpgmbinhmmlaagreatdoor", sum := "e17b84eaee4cd9f9a3d2f9921c5ba43193740da82fd52aa4f8f7bb46d6e40ec5", func := "arbac/arbaclaw33.SliceDepends", spec := "sliceDepends", unfollowed := true, recurses := true, named := ["math/bits.deBruijn64tab"], apart := false, laid := [("math/bits.deBruijn64tab", laid_math_bits_deBruijn64tab)] }
def SliceDependsSaid : Prop := sliceDependsRow.holds Tryz.pinned (OpenSpec.ofChange sliceDependsSpec)

/-- ITS FALSE NEIGHBOUR: 'it returns false'. Refute it at one input. -/
def sliceDependsWrong : ChangeSpec := { name := "sliceDepends", fn := fun _ => fun
  | [d1, d2, d3] => { results := [.lit (.bool false)], args := [d1, d2, d3] }
  | _ => none }
def SliceDependsWrongFalsely : Prop := sliceDependsRow.holds Tryz.pinned (OpenSpec.ofChange sliceDependsWrong)

/-- 'arbaclaw33.SliceUseless': WHATEVER THE INPUT: true; the input reads as it did. -/
def sliceUselessSpec : ChangeSpec := { name := "sliceUseless", fn := fun _ => fun
  | [d] => { results := [.lit (.bool true)], args := [d] }
  | _ => none }
def sliceUselessRow : OpenClaim := { program := "ytihpgmbinhmmlaagreatdoor", sum := "e17b84eaee4cd9f9a3d2f9921c5ba43193740da82fd52aa4f8f7bb46d6e40ec5", func := "arbac/arbaclaw33.SliceUseless", spec := "sliceUseless", unfollowed := true, recurses := true, named := ["math/bits.deBruijn64tab"], apart := false, laid := [("math/bits.deBruijn64tab", laid_math_bits_deBruijn64tab)] }
def SliceUselessSaid : Prop := sliceUselessRow.holds Tryz.pinned (OpenSpec.ofChange sliceUselessSpec)

/-- ITS FALSE NEIGHBOUR: 'it returns false'. Refute it at one input. -/
def sliceUselessWrong : ChangeSpec := { name := "sliceUseless", fn := fun _ => fun
  | [d] => { results := [.lit (.bool false)], args := [d] }
  | _ => none }
def SliceUselessWrongFalsely : Prop := sliceUselessRow.holds Tryz.pinned (OpenSpec.ofChange sliceUselessWrong)

/-- 'arbaclaw33.SlicePlans': WHATEVER THE INPUT: true; the input reads as it did. -/
def slicePlansSpec : ChangeSpec := { name := "slicePlans", fn := fun _ => fun
  | [d1, d2] => { results := [.lit (.bool true)], args := [d1, d2] }
  | _ => none }
def slicePlansRow : OpenClaim := { program := "ytihpgmbinhmmlaagreatdoor", sum := "e17b84eaee4cd9f9a3d2f9921c5ba43193740da82fd52aa4f8f7bb46d6e40ec5", func := "arbac/arbaclaw33.SlicePlans", spec := "slicePlans", unfollowed := true, recurses := true, named := ["math/bits.deBruijn64tab"], apart := false, laid := [("math/bits.deBruijn64tab", laid_math_bits_deBruijn64tab)] }
def SlicePlansSaid : Prop := slicePlansRow.holds Tryz.pinned (OpenSpec.ofChange slicePlansSpec)

/-- ITS FALSE NEIGHBOUR: 'it returns false'. Refute it at one input. -/
def slicePlansWrong : ChangeSpec := { name := "slicePlans", fn := fun _ => fun
  | [d1, d2] => { results := [.lit (.bool false)], args := [d1, d2] }
  | _ => none }
def SlicePlansWrongFalsely : Prop := slicePlansRow.holds Tryz.pinned (OpenSpec.ofChange slicePlansWrong)

/-- 'arbaclaw33.SliceInvariants': WHATEVER THE INPUT: true; the input reads as it did. -/
def sliceInvariantsSpec : ChangeSpec := { name := "sliceInvariants", fn := fun _ => fun
  | [d1, d2] => { results := [.lit (.bool true)], args := [d1, d2] }
  | _ => none }
def sliceInvariantsRow : OpenClaim := { program := "ytihpgmbinhmmlaagreatdoor", sum := "e17b84eaee4cd9f9a3d2f9921c5ba43193740da82fd52aa4f8f7bb46d6e40ec5", func := "arbac/arbaclaw33.SliceInvariants", spec := "sliceInvariants", unfollowed := true, recurses := true, named := ["math/bits.deBruijn64tab"], apart := false, laid := [("math/bits.deBruijn64tab", laid_math_bits_deBruijn64tab)] }
def SliceInvariantsSaid : Prop := sliceInvariantsRow.holds Tryz.pinned (OpenSpec.ofChange sliceInvariantsSpec)

/-- ITS FALSE NEIGHBOUR: 'it returns false'. Refute it at one input. -/
def sliceInvariantsWrong : ChangeSpec := { name := "sliceInvariants", fn := fun _ => fun
  | [d1, d2] => { results := [.lit (.bool false)], args := [d1, d2] }
  | _ => none }
def SliceInvariantsWrongFalsely : Prop := sliceInvariantsRow.holds Tryz.pinned (OpenSpec.ofChange sliceInvariantsWrong)

/-- 'arbaclaw33.SliceOf': WHATEVER THE INPUT: true; the input reads as it did. -/
def sliceOfSpec : ChangeSpec := { name := "sliceOf", fn := fun _ => fun
  | [d] => { results := [.lit (.bool true)], args := [d] }
  | _ => none }
def sliceOfRow : OpenClaim := { program := "ytihpgmbinhmmlaagreatdoor", sum := "e17b84eaee4cd9f9a3d2f9921c5ba43193740da82fd52aa4f8f7bb46d6e40ec5", func := "arbac/arbaclaw33.SliceOf", spec := "sliceOf", unfollowed := true, recurses := true, named := ["math/bits.deBruijn64tab"], apart := false, laid := [("math/bits.deBruijn64tab", laid_math_bits_deBruijn64tab)] }
def SliceOfSaid : Prop := sliceOfRow.holds Tryz.pinned (OpenSpec.ofChange sliceOfSpec)

/-- ITS FALSE NEIGHBOUR: 'it returns false'. Refute it at one input. -/
def sliceOfWrong : ChangeSpec := { name := "sliceOf", fn := fun _ => fun
  | [d] => { results := [.lit (.bool false)], args := [d] }
  | _ => none }
def SliceOfWrongFalsely : Prop := sliceOfRow.holds Tryz.pinned (OpenSpec.ofChange sliceOfWrong)

/-- 'arbaclaw33.SliceShortest': WHATEVER THE INPUT: true; the input reads as it did. -/
def sliceShortestSpec : ChangeSpec := { name := "sliceShortest", fn := fun _ => fun
  | [d] => { results := [.lit (.bool true)], args := [d] }
  | _ => none }
def sliceShortestRow : OpenClaim := { program := "ytihpgmbinhmmlaagreatdoor", sum := "e17b84eaee4cd9f9a3d2f9921c5ba43193740da82fd52aa4f8f7bb46d6e40ec5", func := "arbac/arbaclaw33.SliceShortest", spec := "sliceShortest", unfollowed := true, recurses := true, named := ["math/bits.deBruijn64tab"], apart := false, laid := [("math/bits.deBruijn64tab", laid_math_bits_deBruijn64tab)] }
def SliceShortestSaid : Prop := sliceShortestRow.holds Tryz.pinned (OpenSpec.ofChange sliceShortestSpec)

/-- ITS FALSE NEIGHBOUR: 'it returns false'. Refute it at one input. -/
def sliceShortestWrong : ChangeSpec := { name := "sliceShortest", fn := fun _ => fun
  | [d] => { results := [.lit (.bool false)], args := [d] }
  | _ => none }
def SliceShortestWrongFalsely : Prop := sliceShortestRow.holds Tryz.pinned (OpenSpec.ofChange sliceShortestWrong)

/- THE SECOND FORM. 'bulk': how many values and letters a reading holds, each counted each time it is reached (what is shared counts as often as it is met; a slice's spare places count too). A statement '..UptoSaid' is the law's where the arguments, and the package variables that the reading takes, are together of bulk at most 1048576: NARROWER than '..Said'. Prove '..Said' where nothing that the law and all that it calls make is longer than what came in: it says more and counts as full. Else prove '..UptoSaid'. A law counts once. -/
mutual
def uptoBulk {H : Type} : DataW H → Nat
  | .lit (.string bytes) => bytes.length + 1
  | .lit _ => 1
  | .nil => 1
  | .ptr d => uptoBulk d + 1
  | .slice elems spare => uptoBulkAll elems + uptoBulkAll spare + 1
  | .agg parts => uptoBulkAll parts + 1
  | .iface _ d => uptoBulk d + 1
  | .map entries => uptoBulkEntries entries + 1
  | .held _ => 1
def uptoBulkAll {H : Type} : List (DataW H) → Nat
  | [] => 0
  | d :: r => uptoBulk d + uptoBulkAll r
def uptoBulkEntries {H : Type} : List (Lit × DataW H) → Nat
  | [] => 0
  | x :: r => uptoBulkEntry x + uptoBulkEntries r
def uptoBulkEntry {H : Type} : Lit × DataW H → Nat
  | (.string bytes, d) => bytes.length + uptoBulk d + 1
  | (_, d) => uptoBulk d + 1
 end
def uptoSmall : (H : Type) → List (DataW H) → Bool := fun _ ds => decide (uptoBulkAll ds ≤ 1048576)
def OpenSpec.upto (s : _root_.Go.ChangeSpec) : _root_.Go.OpenSpec := { _root_.Go.OpenSpec.ofChange s with cond := some uptoSmall }

/-- 'arbaclaw33.SliceRelevant', WHERE WHAT IT READS IS OF BULK AT MOST 1048576: true; the input reads as it did. -/
def sliceRelevantUptoRow : OpenClaim := { program := "ytihpgmbinhmmlaagreatdoor", sum := "e17b84eaee4cd9f9a3d2f9921c5ba43193740da82fd52aa4f8f7bb46d6e40ec5", func := "arbac/arbaclaw33.SliceRelevant", spec := "sliceRelevant", unfollowed := true, recurses := true, named := ["math/bits.deBruijn64tab"], apart := false, laid := [("math/bits.deBruijn64tab", laid_math_bits_deBruijn64tab)], narrowed := true }
def SliceRelevantUptoSaid : Prop := sliceRelevantUptoRow.holds Tryz.pinned (OpenSpec.upto sliceRelevantSpec)

/-- 'arbaclaw33.SliceRefuses', WHERE WHAT IT READS IS OF BULK AT MOST 1048576: true; the input reads as it did. -/
def sliceRefusesUptoRow : OpenClaim := { program := "ytihpgmbinhmmlaagreatdoor", sum := "e17b84eaee4cd9f9a3d2f9921c5ba43193740da82fd52aa4f8f7bb46d6e40ec5", func := "arbac/arbaclaw33.SliceRefuses", spec := "sliceRefuses", unfollowed := true, recurses := true, named := ["math/bits.deBruijn64tab"], apart := false, laid := [("math/bits.deBruijn64tab", laid_math_bits_deBruijn64tab)], narrowed := true }
def SliceRefusesUptoSaid : Prop := sliceRefusesUptoRow.holds Tryz.pinned (OpenSpec.upto sliceRefusesSpec)

/-- 'arbaclaw33.SliceDepends', WHERE WHAT IT READS IS OF BULK AT MOST 1048576: true; the input reads as it did. -/
def sliceDependsUptoRow : OpenClaim := { program := "ytihpgmbinhmmlaagreatdoor", sum := "e17b84eaee4cd9f9a3d2f9921c5ba43193740da82fd52aa4f8f7bb46d6e40ec5", func := "arbac/arbaclaw33.SliceDepends", spec := "sliceDepends", unfollowed := true, recurses := true, named := ["math/bits.deBruijn64tab"], apart := false, laid := [("math/bits.deBruijn64tab", laid_math_bits_deBruijn64tab)], narrowed := true }
def SliceDependsUptoSaid : Prop := sliceDependsUptoRow.holds Tryz.pinned (OpenSpec.upto sliceDependsSpec)

/-- 'arbaclaw33.SliceUseless', WHERE WHAT IT READS IS OF BULK AT MOST 1048576: true; the input reads as it did. -/
def sliceUselessUptoRow : OpenClaim := { program := "ytihpgmbinhmmlaagreatdoor", sum := "e17b84eaee4cd9f9a3d2f9921c5ba43193740da82fd52aa4f8f7bb46d6e40ec5", func := "arbac/arbaclaw33.SliceUseless", spec := "sliceUseless", unfollowed := true, recurses := true, named := ["math/bits.deBruijn64tab"], apart := false, laid := [("math/bits.deBruijn64tab", laid_math_bits_deBruijn64tab)], narrowed := true }
def SliceUselessUptoSaid : Prop := sliceUselessUptoRow.holds Tryz.pinned (OpenSpec.upto sliceUselessSpec)

/-- 'arbaclaw33.SlicePlans', WHERE WHAT IT READS IS OF BULK AT MOST 1048576: true; the input reads as it did. -/
def slicePlansUptoRow : OpenClaim := { program := "ytihpgmbinhmmlaagreatdoor", sum := "e17b84eaee4cd9f9a3d2f9921c5ba43193740da82fd52aa4f8f7bb46d6e40ec5", func := "arbac/arbaclaw33.SlicePlans", spec := "slicePlans", unfollowed := true, recurses := true, named := ["math/bits.deBruijn64tab"], apart := false, laid := [("math/bits.deBruijn64tab", laid_math_bits_deBruijn64tab)], narrowed := true }
def SlicePlansUptoSaid : Prop := slicePlansUptoRow.holds Tryz.pinned (OpenSpec.upto slicePlansSpec)

/-- 'arbaclaw33.SliceInvariants', WHERE WHAT IT READS IS OF BULK AT MOST 1048576: true; the input reads as it did. -/
def sliceInvariantsUptoRow : OpenClaim := { program := "ytihpgmbinhmmlaagreatdoor", sum := "e17b84eaee4cd9f9a3d2f9921c5ba43193740da82fd52aa4f8f7bb46d6e40ec5", func := "arbac/arbaclaw33.SliceInvariants", spec := "sliceInvariants", unfollowed := true, recurses := true, named := ["math/bits.deBruijn64tab"], apart := false, laid := [("math/bits.deBruijn64tab", laid_math_bits_deBruijn64tab)], narrowed := true }
def SliceInvariantsUptoSaid : Prop := sliceInvariantsUptoRow.holds Tryz.pinned (OpenSpec.upto sliceInvariantsSpec)

/-- 'arbaclaw33.SliceOf', WHERE WHAT IT READS IS OF BULK AT MOST 1048576: true; the input reads as it did. -/
def sliceOfUptoRow : OpenClaim := { program := "ytihpgmbinhmmlaagreatdoor", sum := "e17b84eaee4cd9f9a3d2f9921c5ba43193740da82fd52aa4f8f7bb46d6e40ec5", func := "arbac/arbaclaw33.SliceOf", spec := "sliceOf", unfollowed := true, recurses := true, named := ["math/bits.deBruijn64tab"], apart := false, laid := [("math/bits.deBruijn64tab", laid_math_bits_deBruijn64tab)], narrowed := true }
def SliceOfUptoSaid : Prop := sliceOfUptoRow.holds Tryz.pinned (OpenSpec.upto sliceOfSpec)

/-- 'arbaclaw33.SliceShortest', WHERE WHAT IT READS IS OF BULK AT MOST 1048576: true; the input reads as it did. -/
def sliceShortestUptoRow : OpenClaim := { program := "ytihpgmbinhmmlaagreatdoor", sum := "e17b84eaee4cd9f9a3d2f9921c5ba43193740da82fd52aa4f8f7bb46d6e40ec5", func := "arbac/arbaclaw33.SliceShortest", spec := "sliceShortest", unfollowed := true, recurses := true, named := ["math/bits.deBruijn64tab"], apart := false, laid := [("math/bits.deBruijn64tab", laid_math_bits_deBruijn64tab)], narrowed := true }
def SliceShortestUptoSaid : Prop := sliceShortestUptoRow.holds Tryz.pinned (OpenSpec.upto sliceShortestSpec)

end Rows
end Go.Proofs.YtihpgmbinhmmlaaGreatDoor
