/-
  NARROWER THAN 'FOR EVERY INPUT', by the rows' own cells (each row's printed sentence says how): ForwardReaches: laid · ForwardRuns: laid · ForwardShort: laid · ForwardGoals: laid · ForwardClosed: laid · ForwardCan: laid · ForwardAll: laid · ForwardLimits: laid · ForwardErrs: laid · SliceShortest: laid.
  DERIVED. THE GIVEN ROWS OF THIS SEAT. 10 by the template 'for every input the law returns true; each argument reads behind the call as it read before'; 0 by the template 'total and deterministic' (their statements: YtpcioefppjljoaaGreatDoorTotals.lean).
  GIVEN WITH THE SEED: the statements are not yours to turn. If you find one false, say at which input.
  Laid BY PROGRAM, IN A SANDBOX (cutbox-rows.mjs): the forced cells as the released guide's own fill.sh prints them over the translation c0f1f51ef97174e9… (all of the seat's roots in one cut). By AI agents, Wed Nov 11 2026. No macro, syntax, notation, axiom, sorry.
-/
import Derived.Test.YtpcioefppjljoaaGreatDoorChecked
import GoSem.Claim
import GoSem.ClaimJoined
import GoSem.ClaimMapViews
import Derived.JoinedTies
import Derived.KernelRfl
namespace Go.Proofs.YtpcioefppjljoaaGreatDoor
/- THE CELL 'sum', in the pinned program and in every row, IS THE sha256 OF THE DUMP (.gsa) THAT YtpcioefppjljoaaGreatDoorProg.lean LOADS. Nothing in Lean hashes anything: it is a label: what it is worth is what the hold of that sum in a sandbox is worth. -/
noncomputable def Tryz.pinned : Pinned := { name := "ytpcioefppjljoaagreatdoor", sum := "c0f1f51ef97174e96be76e35ed9940c339f91f560e6742e0d01d50f1f4798b2f", checked := Tryz.checked }
namespace Rows
def none {H : Type} : Left H := { results := [], args := [] }

/- WHAT THE LISTED PACKAGE-LEVEL VARIABLES READ AS WHEN THE CALL BEGINS. Each datum BY PROGRAM (the guide's laid-datum.mjs) off the statement by which the dump's own 'gosem.cut.vars' lays the variable. In a bare row this is a premise. The card (YtpcioefppjljoaaGreatDoorCards.lean) ties it to the program's text. -/
def laid_math_bits_deBruijn64tab {H : Type} : DataW H := .agg [.lit (.int .u8 0), .lit (.int .u8 1), .lit (.int .u8 56), .lit (.int .u8 2), .lit (.int .u8 57), .lit (.int .u8 49), .lit (.int .u8 28), .lit (.int .u8 3), .lit (.int .u8 61), .lit (.int .u8 58), .lit (.int .u8 42), .lit (.int .u8 50), .lit (.int .u8 38), .lit (.int .u8 29), .lit (.int .u8 17), .lit (.int .u8 4), .lit (.int .u8 62), .lit (.int .u8 47), .lit (.int .u8 59), .lit (.int .u8 36), .lit (.int .u8 45), .lit (.int .u8 43), .lit (.int .u8 51), .lit (.int .u8 22), .lit (.int .u8 53), .lit (.int .u8 39), .lit (.int .u8 33), .lit (.int .u8 30), .lit (.int .u8 24), .lit (.int .u8 18), .lit (.int .u8 12), .lit (.int .u8 5), .lit (.int .u8 63), .lit (.int .u8 55), .lit (.int .u8 48), .lit (.int .u8 27), .lit (.int .u8 60), .lit (.int .u8 41), .lit (.int .u8 37), .lit (.int .u8 16), .lit (.int .u8 46), .lit (.int .u8 35), .lit (.int .u8 44), .lit (.int .u8 21), .lit (.int .u8 52), .lit (.int .u8 32), .lit (.int .u8 23), .lit (.int .u8 11), .lit (.int .u8 54), .lit (.int .u8 26), .lit (.int .u8 40), .lit (.int .u8 15), .lit (.int .u8 34), .lit (.int .u8 20), .lit (.int .u8 31), .lit (.int .u8 10), .lit (.int .u8 25), .lit (.int .u8 14), .lit (.int .u8 19), .lit (.int .u8 9), .lit (.int .u8 13), .lit (.int .u8 8), .lit (.int .u8 7), .lit (.int .u8 6)]

/-- 'arbaclaw32.ForwardReaches': WHATEVER THE INPUT: true; the input reads as it did. -/
def forwardReachesSpec : ChangeSpec := { name := "forwardReaches", fn := fun _ => fun
  | [d] => { results := [.lit (.bool true)], args := [d] }
  | _ => none }
def forwardReachesRow : OpenClaim := { program := "ytpcioefppjljoaagreatdoor", sum := "c0f1f51ef97174e96be76e35ed9940c339f91f560e6742e0d01d50f1f4798b2f", func := "arbac/arbaclaw32.ForwardReaches", spec := "forwardReaches", unfollowed := true, recurses := true, named := ["math/bits.deBruijn64tab"], apart := false, laid := [("math/bits.deBruijn64tab", laid_math_bits_deBruijn64tab)] }
def ForwardReachesSaid : Prop := forwardReachesRow.holds Tryz.pinned (OpenSpec.ofChange forwardReachesSpec)

/-- ITS FALSE NEIGHBOUR: 'it returns false'. Refute it at one input. -/
def forwardReachesWrong : ChangeSpec := { name := "forwardReaches", fn := fun _ => fun
  | [d] => { results := [.lit (.bool false)], args := [d] }
  | _ => none }
def ForwardReachesWrongFalsely : Prop := forwardReachesRow.holds Tryz.pinned (OpenSpec.ofChange forwardReachesWrong)

/-- 'arbaclaw32.ForwardRuns': WHATEVER THE INPUT: true; the input reads as it did. -/
def forwardRunsSpec : ChangeSpec := { name := "forwardRuns", fn := fun _ => fun
  | [d] => { results := [.lit (.bool true)], args := [d] }
  | _ => none }
def forwardRunsRow : OpenClaim := { program := "ytpcioefppjljoaagreatdoor", sum := "c0f1f51ef97174e96be76e35ed9940c339f91f560e6742e0d01d50f1f4798b2f", func := "arbac/arbaclaw32.ForwardRuns", spec := "forwardRuns", unfollowed := true, recurses := true, named := ["math/bits.deBruijn64tab"], apart := false, laid := [("math/bits.deBruijn64tab", laid_math_bits_deBruijn64tab)] }
def ForwardRunsSaid : Prop := forwardRunsRow.holds Tryz.pinned (OpenSpec.ofChange forwardRunsSpec)

/-- ITS FALSE NEIGHBOUR: 'it returns false'. Refute it at one input. -/
def forwardRunsWrong : ChangeSpec := { name := "forwardRuns", fn := fun _ => fun
  | [d] => { results := [.lit (.bool false)], args := [d] }
  | _ => none }
def ForwardRunsWrongFalsely : Prop := forwardRunsRow.holds Tryz.pinned (OpenSpec.ofChange forwardRunsWrong)

/-- 'arbaclaw32.ForwardShort': WHATEVER THE INPUT: true; the input reads as it did. -/
def forwardShortSpec : ChangeSpec := { name := "forwardShort", fn := fun _ => fun
  | [d] => { results := [.lit (.bool true)], args := [d] }
  | _ => none }
def forwardShortRow : OpenClaim := { program := "ytpcioefppjljoaagreatdoor", sum := "c0f1f51ef97174e96be76e35ed9940c339f91f560e6742e0d01d50f1f4798b2f", func := "arbac/arbaclaw32.ForwardShort", spec := "forwardShort", unfollowed := true, recurses := true, named := ["math/bits.deBruijn64tab"], apart := false, laid := [("math/bits.deBruijn64tab", laid_math_bits_deBruijn64tab)] }
def ForwardShortSaid : Prop := forwardShortRow.holds Tryz.pinned (OpenSpec.ofChange forwardShortSpec)

/-- ITS FALSE NEIGHBOUR: 'it returns false'. Refute it at one input. -/
def forwardShortWrong : ChangeSpec := { name := "forwardShort", fn := fun _ => fun
  | [d] => { results := [.lit (.bool false)], args := [d] }
  | _ => none }
def ForwardShortWrongFalsely : Prop := forwardShortRow.holds Tryz.pinned (OpenSpec.ofChange forwardShortWrong)

/-- 'arbaclaw32.ForwardGoals': WHATEVER THE INPUT: true; the input reads as it did. -/
def forwardGoalsSpec : ChangeSpec := { name := "forwardGoals", fn := fun _ => fun
  | [d] => { results := [.lit (.bool true)], args := [d] }
  | _ => none }
def forwardGoalsRow : OpenClaim := { program := "ytpcioefppjljoaagreatdoor", sum := "c0f1f51ef97174e96be76e35ed9940c339f91f560e6742e0d01d50f1f4798b2f", func := "arbac/arbaclaw32.ForwardGoals", spec := "forwardGoals", unfollowed := true, recurses := true, named := ["math/bits.deBruijn64tab"], apart := false, laid := [("math/bits.deBruijn64tab", laid_math_bits_deBruijn64tab)] }
def ForwardGoalsSaid : Prop := forwardGoalsRow.holds Tryz.pinned (OpenSpec.ofChange forwardGoalsSpec)

/-- ITS FALSE NEIGHBOUR: 'it returns false'. Refute it at one input. -/
def forwardGoalsWrong : ChangeSpec := { name := "forwardGoals", fn := fun _ => fun
  | [d] => { results := [.lit (.bool false)], args := [d] }
  | _ => none }
def ForwardGoalsWrongFalsely : Prop := forwardGoalsRow.holds Tryz.pinned (OpenSpec.ofChange forwardGoalsWrong)

/-- 'arbaclaw32.ForwardClosed': WHATEVER THE INPUT: true; the input reads as it did. -/
def forwardClosedSpec : ChangeSpec := { name := "forwardClosed", fn := fun _ => fun
  | [d] => { results := [.lit (.bool true)], args := [d] }
  | _ => none }
def forwardClosedRow : OpenClaim := { program := "ytpcioefppjljoaagreatdoor", sum := "c0f1f51ef97174e96be76e35ed9940c339f91f560e6742e0d01d50f1f4798b2f", func := "arbac/arbaclaw32.ForwardClosed", spec := "forwardClosed", unfollowed := true, recurses := true, named := ["math/bits.deBruijn64tab"], apart := false, laid := [("math/bits.deBruijn64tab", laid_math_bits_deBruijn64tab)] }
def ForwardClosedSaid : Prop := forwardClosedRow.holds Tryz.pinned (OpenSpec.ofChange forwardClosedSpec)

/-- ITS FALSE NEIGHBOUR: 'it returns false'. Refute it at one input. -/
def forwardClosedWrong : ChangeSpec := { name := "forwardClosed", fn := fun _ => fun
  | [d] => { results := [.lit (.bool false)], args := [d] }
  | _ => none }
def ForwardClosedWrongFalsely : Prop := forwardClosedRow.holds Tryz.pinned (OpenSpec.ofChange forwardClosedWrong)

/-- 'arbaclaw32.ForwardCan': WHATEVER THE INPUT: true; the input reads as it did. -/
def forwardCanSpec : ChangeSpec := { name := "forwardCan", fn := fun _ => fun
  | [d1, d2, d3] => { results := [.lit (.bool true)], args := [d1, d2, d3] }
  | _ => none }
def forwardCanRow : OpenClaim := { program := "ytpcioefppjljoaagreatdoor", sum := "c0f1f51ef97174e96be76e35ed9940c339f91f560e6742e0d01d50f1f4798b2f", func := "arbac/arbaclaw32.ForwardCan", spec := "forwardCan", unfollowed := true, recurses := true, named := ["math/bits.deBruijn64tab"], apart := false, laid := [("math/bits.deBruijn64tab", laid_math_bits_deBruijn64tab)] }
def ForwardCanSaid : Prop := forwardCanRow.holds Tryz.pinned (OpenSpec.ofChange forwardCanSpec)

/-- ITS FALSE NEIGHBOUR: 'it returns false'. Refute it at one input. -/
def forwardCanWrong : ChangeSpec := { name := "forwardCan", fn := fun _ => fun
  | [d1, d2, d3] => { results := [.lit (.bool false)], args := [d1, d2, d3] }
  | _ => none }
def ForwardCanWrongFalsely : Prop := forwardCanRow.holds Tryz.pinned (OpenSpec.ofChange forwardCanWrong)

/-- 'arbaclaw32.ForwardAll': WHATEVER THE INPUT: true; the input reads as it did. -/
def forwardAllSpec : ChangeSpec := { name := "forwardAll", fn := fun _ => fun
  | [d] => { results := [.lit (.bool true)], args := [d] }
  | _ => none }
def forwardAllRow : OpenClaim := { program := "ytpcioefppjljoaagreatdoor", sum := "c0f1f51ef97174e96be76e35ed9940c339f91f560e6742e0d01d50f1f4798b2f", func := "arbac/arbaclaw32.ForwardAll", spec := "forwardAll", unfollowed := true, recurses := true, named := ["math/bits.deBruijn64tab"], apart := false, laid := [("math/bits.deBruijn64tab", laid_math_bits_deBruijn64tab)] }
def ForwardAllSaid : Prop := forwardAllRow.holds Tryz.pinned (OpenSpec.ofChange forwardAllSpec)

/-- ITS FALSE NEIGHBOUR: 'it returns false'. Refute it at one input. -/
def forwardAllWrong : ChangeSpec := { name := "forwardAll", fn := fun _ => fun
  | [d] => { results := [.lit (.bool false)], args := [d] }
  | _ => none }
def ForwardAllWrongFalsely : Prop := forwardAllRow.holds Tryz.pinned (OpenSpec.ofChange forwardAllWrong)

/-- 'arbaclaw32.ForwardLimits': WHATEVER THE INPUT: true; the input reads as it did. -/
def forwardLimitsSpec : ChangeSpec := { name := "forwardLimits", fn := fun _ => fun
  | [d1, d2] => { results := [.lit (.bool true)], args := [d1, d2] }
  | _ => none }
def forwardLimitsRow : OpenClaim := { program := "ytpcioefppjljoaagreatdoor", sum := "c0f1f51ef97174e96be76e35ed9940c339f91f560e6742e0d01d50f1f4798b2f", func := "arbac/arbaclaw32.ForwardLimits", spec := "forwardLimits", unfollowed := true, recurses := true, named := ["math/bits.deBruijn64tab"], apart := false, laid := [("math/bits.deBruijn64tab", laid_math_bits_deBruijn64tab)] }
def ForwardLimitsSaid : Prop := forwardLimitsRow.holds Tryz.pinned (OpenSpec.ofChange forwardLimitsSpec)

/-- ITS FALSE NEIGHBOUR: 'it returns false'. Refute it at one input. -/
def forwardLimitsWrong : ChangeSpec := { name := "forwardLimits", fn := fun _ => fun
  | [d1, d2] => { results := [.lit (.bool false)], args := [d1, d2] }
  | _ => none }
def ForwardLimitsWrongFalsely : Prop := forwardLimitsRow.holds Tryz.pinned (OpenSpec.ofChange forwardLimitsWrong)

/-- 'arbaclaw32.ForwardErrs': WHATEVER THE INPUT: true; the input reads as it did. -/
def forwardErrsSpec : ChangeSpec := { name := "forwardErrs", fn := fun _ => fun
  | [d1, d2, d3] => { results := [.lit (.bool true)], args := [d1, d2, d3] }
  | _ => none }
def forwardErrsRow : OpenClaim := { program := "ytpcioefppjljoaagreatdoor", sum := "c0f1f51ef97174e96be76e35ed9940c339f91f560e6742e0d01d50f1f4798b2f", func := "arbac/arbaclaw32.ForwardErrs", spec := "forwardErrs", unfollowed := true, recurses := true, named := ["math/bits.deBruijn64tab"], apart := false, laid := [("math/bits.deBruijn64tab", laid_math_bits_deBruijn64tab)] }
def ForwardErrsSaid : Prop := forwardErrsRow.holds Tryz.pinned (OpenSpec.ofChange forwardErrsSpec)

/-- ITS FALSE NEIGHBOUR: 'it returns false'. Refute it at one input. -/
def forwardErrsWrong : ChangeSpec := { name := "forwardErrs", fn := fun _ => fun
  | [d1, d2, d3] => { results := [.lit (.bool false)], args := [d1, d2, d3] }
  | _ => none }
def ForwardErrsWrongFalsely : Prop := forwardErrsRow.holds Tryz.pinned (OpenSpec.ofChange forwardErrsWrong)

/-- 'arbaclaw33.SliceShortest': WHATEVER THE INPUT: true; the input reads as it did. -/
def sliceShortestSpec : ChangeSpec := { name := "sliceShortest", fn := fun _ => fun
  | [d] => { results := [.lit (.bool true)], args := [d] }
  | _ => none }
def sliceShortestRow : OpenClaim := { program := "ytpcioefppjljoaagreatdoor", sum := "c0f1f51ef97174e96be76e35ed9940c339f91f560e6742e0d01d50f1f4798b2f", func := "arbac/arbaclaw33.SliceShortest", spec := "sliceShortest", unfollowed := true, recurses := true, named := ["math/bits.deBruijn64tab"], apart := false, laid := [("math/bits.deBruijn64tab", laid_math_bits_deBruijn64tab)] }
def SliceShortestSaid : Prop := sliceShortestRow.holds Tryz.pinned (OpenSpec.ofChange sliceShortestSpec)

/-- ITS FALSE NEIGHBOUR: 'it returns false'. Refute it at one input. -/
def sliceShortestWrong : ChangeSpec := { name := "sliceShortest", fn := fun _ => fun
  | [d] => { results := [.lit (.bool false)], args := [d] }
  | _ => none }
def SliceShortestWrongFalsely : Prop := sliceShortestRow.holds Tryz.pinned (OpenSpec.ofChange sliceShortestWrong)

/- THE SECOND FORM. 'bulk': how many values and letters a reading holds, each counted each time it is reached (what is shared counts as often as it is met; a slice's spare places count too). A statement '..UptoSaid' is the law's where the arguments, and the package variables that the reading takes, are together of bulk at most 1048576: NARROWER than '..Said'. Prove '..Said' where nothing that the law and all that it calls make is longer than what came in: it says more and counts as full. Else prove '..UptoSaid'. A law counts once. -/
mutual
def uptoBulk {H : Type} : DataW H → Nat
  | .lit (.string bytes) => bytes.length + 1
  | .lit _ => 1
  | .nil => 1
  | .ptr d => uptoBulk d + 1
  | .slice elems spare => uptoBulkAll elems + uptoBulkAll spare + 1
  | .agg parts => uptoBulkAll parts + 1
  | .iface _ d => uptoBulk d + 1
  | .map entries => uptoBulkEntries entries + 1
  | .held _ => 1
def uptoBulkAll {H : Type} : List (DataW H) → Nat
  | [] => 0
  | d :: r => uptoBulk d + uptoBulkAll r
def uptoBulkEntries {H : Type} : List (Lit × DataW H) → Nat
  | [] => 0
  | x :: r => uptoBulkEntry x + uptoBulkEntries r
def uptoBulkEntry {H : Type} : Lit × DataW H → Nat
  | (.string bytes, d) => bytes.length + uptoBulk d + 1
  | (_, d) => uptoBulk d + 1
 end
def uptoSmall : (H : Type) → List (DataW H) → Bool := fun _ ds => decide (uptoBulkAll ds ≤ 1048576)
def OpenSpec.upto (s : _root_.Go.ChangeSpec) : _root_.Go.OpenSpec := { _root_.Go.OpenSpec.ofChange s with cond := some uptoSmall }

/-- 'arbaclaw32.ForwardReaches', WHERE WHAT IT READS IS OF BULK AT MOST 1048576: true; the input reads as it did. -/
def forwardReachesUptoRow : OpenClaim := { program := "ytpcioefppjljoaagreatdoor", sum := "c0f1f51ef97174e96be76e35ed9940c339f91f560e6742e0d01d50f1f4798b2f", func := "arbac/arbaclaw32.ForwardReaches", spec := "forwardReaches", unfollowed := true, recurses := true, named := ["math/bits.deBruijn64tab"], apart := false, laid := [("math/bits.deBruijn64tab", laid_math_bits_deBruijn64tab)], narrowed := true }
def ForwardReachesUptoSaid : Prop := forwardReachesUptoRow.holds Tryz.pinned (OpenSpec.upto forwardReachesSpec)

/-- 'arbaclaw32.ForwardRuns', WHERE WHAT IT READS IS OF BULK AT MOST 1048576: true; the input reads as it did. -/
def forwardRunsUptoRow : OpenClaim := { program := "ytpcioefppjljoaagreatdoor", sum := "c0f1f51ef97174e96be76e35ed9940c339f91f560e6742e0d01d50f1f4798b2f", func := "arbac/arbaclaw32.ForwardRuns", spec := "forwardRuns", unfollowed := true, recurses := true, named := ["math/bits.deBruijn64tab"], apart := false, laid := [("math/bits.deBruijn64tab", laid_math_bits_deBruijn64tab)], narrowed := true }
def ForwardRunsUptoSaid : Prop := forwardRunsUptoRow.holds Tryz.pinned (OpenSpec.upto forwardRunsSpec)

/-- 'arbaclaw32.ForwardShort', WHERE WHAT IT READS IS OF BULK AT MOST 1048576: true; the input reads as it did. -/
def forwardShortUptoRow : OpenClaim := { program := "ytpcioefppjljoaagreatdoor", sum := "c0f1f51ef97174e96be76e35ed9940c339f91f560e6742e0d01d50f1f4798b2f", func := "arbac/arbaclaw32.ForwardShort", spec := "forwardShort", unfollowed := true, recurses := true, named := ["math/bits.deBruijn64tab"], apart := false, laid := [("math/bits.deBruijn64tab", laid_math_bits_deBruijn64tab)], narrowed := true }
def ForwardShortUptoSaid : Prop := forwardShortUptoRow.holds Tryz.pinned (OpenSpec.upto forwardShortSpec)

/-- 'arbaclaw32.ForwardGoals', WHERE WHAT IT READS IS OF BULK AT MOST 1048576: true; the input reads as it did. -/
def forwardGoalsUptoRow : OpenClaim := { program := "ytpcioefppjljoaagreatdoor", sum := "c0f1f51ef97174e96be76e35ed9940c339f91f560e6742e0d01d50f1f4798b2f", func := "arbac/arbaclaw32.ForwardGoals", spec := "forwardGoals", unfollowed := true, recurses := true, named := ["math/bits.deBruijn64tab"], apart := false, laid := [("math/bits.deBruijn64tab", laid_math_bits_deBruijn64tab)], narrowed := true }
def ForwardGoalsUptoSaid : Prop := forwardGoalsUptoRow.holds Tryz.pinned (OpenSpec.upto forwardGoalsSpec)

/-- 'arbaclaw32.ForwardClosed', WHERE WHAT IT READS IS OF BULK AT MOST 1048576: true; the input reads as it did. -/
def forwardClosedUptoRow : OpenClaim := { program := "ytpcioefppjljoaagreatdoor", sum := "c0f1f51ef97174e96be76e35ed9940c339f91f560e6742e0d01d50f1f4798b2f", func := "arbac/arbaclaw32.ForwardClosed", spec := "forwardClosed", unfollowed := true, recurses := true, named := ["math/bits.deBruijn64tab"], apart := false, laid := [("math/bits.deBruijn64tab", laid_math_bits_deBruijn64tab)], narrowed := true }
def ForwardClosedUptoSaid : Prop := forwardClosedUptoRow.holds Tryz.pinned (OpenSpec.upto forwardClosedSpec)

/-- 'arbaclaw32.ForwardCan', WHERE WHAT IT READS IS OF BULK AT MOST 1048576: true; the input reads as it did. -/
def forwardCanUptoRow : OpenClaim := { program := "ytpcioefppjljoaagreatdoor", sum := "c0f1f51ef97174e96be76e35ed9940c339f91f560e6742e0d01d50f1f4798b2f", func := "arbac/arbaclaw32.ForwardCan", spec := "forwardCan", unfollowed := true, recurses := true, named := ["math/bits.deBruijn64tab"], apart := false, laid := [("math/bits.deBruijn64tab", laid_math_bits_deBruijn64tab)], narrowed := true }
def ForwardCanUptoSaid : Prop := forwardCanUptoRow.holds Tryz.pinned (OpenSpec.upto forwardCanSpec)

/-- 'arbaclaw32.ForwardAll', WHERE WHAT IT READS IS OF BULK AT MOST 1048576: true; the input reads as it did. -/
def forwardAllUptoRow : OpenClaim := { program := "ytpcioefppjljoaagreatdoor", sum := "c0f1f51ef97174e96be76e35ed9940c339f91f560e6742e0d01d50f1f4798b2f", func := "arbac/arbaclaw32.ForwardAll", spec := "forwardAll", unfollowed := true, recurses := true, named := ["math/bits.deBruijn64tab"], apart := false, laid := [("math/bits.deBruijn64tab", laid_math_bits_deBruijn64tab)], narrowed := true }
def ForwardAllUptoSaid : Prop := forwardAllUptoRow.holds Tryz.pinned (OpenSpec.upto forwardAllSpec)

/-- 'arbaclaw32.ForwardLimits', WHERE WHAT IT READS IS OF BULK AT MOST 1048576: true; the input reads as it did. -/
def forwardLimitsUptoRow : OpenClaim := { program := "ytpcioefppjljoaagreatdoor", sum := "c0f1f51ef97174e96be76e35ed9940c339f91f560e6742e0d01d50f1f4798b2f", func := "arbac/arbaclaw32.ForwardLimits", spec := "forwardLimits", unfollowed := true, recurses := true, named := ["math/bits.deBruijn64tab"], apart := false, laid := [("math/bits.deBruijn64tab", laid_math_bits_deBruijn64tab)], narrowed := true }
def ForwardLimitsUptoSaid : Prop := forwardLimitsUptoRow.holds Tryz.pinned (OpenSpec.upto forwardLimitsSpec)

/-- 'arbaclaw32.ForwardErrs', WHERE WHAT IT READS IS OF BULK AT MOST 1048576: true; the input reads as it did. -/
def forwardErrsUptoRow : OpenClaim := { program := "ytpcioefppjljoaagreatdoor", sum := "c0f1f51ef97174e96be76e35ed9940c339f91f560e6742e0d01d50f1f4798b2f", func := "arbac/arbaclaw32.ForwardErrs", spec := "forwardErrs", unfollowed := true, recurses := true, named := ["math/bits.deBruijn64tab"], apart := false, laid := [("math/bits.deBruijn64tab", laid_math_bits_deBruijn64tab)], narrowed := true }
def ForwardErrsUptoSaid : Prop := forwardErrsUptoRow.holds Tryz.pinned (OpenSpec.upto forwardErrsSpec)

/-- 'arbaclaw33.SliceShortest', WHERE WHAT IT READS IS OF BULK AT MOST 1048576: true; the input reads as it did. -/
def sliceShortestUptoRow : OpenClaim := { program := "ytpcioefppjljoaagreatdoor", sum := "c0f1f51ef97174e96be76e35ed9940c339f91f560e6742e0d01d50f1f4798b2f", func := "arbac/arbaclaw33.SliceShortest", spec := "sliceShortest", unfollowed := true, recurses := true, named := ["math/bits.deBruijn64tab"], apart := false, laid := [("math/bits.deBruijn64tab", laid_math_bits_deBruijn64tab)], narrowed := true }
def SliceShortestUptoSaid : Prop := sliceShortestUptoRow.holds Tryz.pinned (OpenSpec.upto sliceShortestSpec)

end Rows
end Go.Proofs.YtpcioefppjljoaaGreatDoor
