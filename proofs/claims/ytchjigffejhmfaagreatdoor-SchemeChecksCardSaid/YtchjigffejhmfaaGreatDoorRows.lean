/-
  NARROWER THAN 'FOR EVERY INPUT', by the rows' own cells (each row's printed sentence says how): SchemeChecks: laid · SchemeExplicit: laid · SchemeSteps: laid · SchemeRuns: laid · SchemeEquals: laid · CertificateProblems: laid · CertificateNames: laid · CertificateMakes: laid · CertificateRuns: laid.
  DERIVED. THE GIVEN ROWS OF THIS SEAT. 9 by the template 'for every input the law returns true; each argument reads behind the call as it read before'; 0 by the template 'total and deterministic' (their statements: YtchjigffejhmfaaGreatDoorTotals.lean).
  GIVEN WITH THE SEED: the statements are not yours to turn. If you find one false, say at which input.
  Laid BY PROGRAM, IN A SANDBOX (cutbox-rows.mjs): the forced cells as the released guide's own fill.sh prints them over the translation 9e3e3c9e72389c44… (all of the seat's roots in one cut). By AI agents, Wed Nov 11 2026. No macro, syntax, notation, axiom, sorry.
-/
import Derived.Test.YtchjigffejhmfaaGreatDoorChecked
import GoSem.Claim
import GoSem.ClaimJoined
import GoSem.ClaimMapViews
import Derived.JoinedTies
import Derived.KernelRfl
namespace Go.Proofs.YtchjigffejhmfaaGreatDoor
/- THE CELL 'sum', in the pinned program and in every row, IS THE sha256 OF THE DUMP (.gsa) THAT YtchjigffejhmfaaGreatDoorProg.lean LOADS. Nothing in Lean hashes anything: it is a label: what it is worth is what the hold of that sum in a sandbox is worth. -/
noncomputable def Tryz.pinned : Pinned := { name := "ytchjigffejhmfaagreatdoor", sum := "9e3e3c9e72389c44465e19d733eac6d64ae57700e6d5abbe8e193d431a856d3f", checked := Tryz.checked }
namespace Rows
def none {H : Type} : Left H := { results := [], args := [] }

/- WHAT THE LISTED PACKAGE-LEVEL VARIABLES READ AS WHEN THE CALL BEGINS. Each datum BY PROGRAM (the guide's laid-datum.mjs) off the statement by which the dump's own 'gosem.cut.vars' lays the variable. In a bare row this is a premise. The card (YtchjigffejhmfaaGreatDoorCards.lean) ties it to the program's text. -/
def laid_math_bits_deBruijn64tab {H : Type} : DataW H := .agg [.lit (.int .u8 0), .lit (.int .u8 1), .lit (.int .u8 56), .lit (.int .u8 2), .lit (.int .u8 57), .lit (.int .u8 49), .lit (.int .u8 28), .lit (.int .u8 3), .lit (.int .u8 61), .lit (.int .u8 58), .lit (.int .u8 42), .lit (.int .u8 50), .lit (.int .u8 38), .lit (.int .u8 29), .lit (.int .u8 17), .lit (.int .u8 4), .lit (.int .u8 62), .lit (.int .u8 47), .lit (.int .u8 59), .lit (.int .u8 36), .lit (.int .u8 45), .lit (.int .u8 43), .lit (.int .u8 51), .lit (.int .u8 22), .lit (.int .u8 53), .lit (.int .u8 39), .lit (.int .u8 33), .lit (.int .u8 30), .lit (.int .u8 24), .lit (.int .u8 18), .lit (.int .u8 12), .lit (.int .u8 5), .lit (.int .u8 63), .lit (.int .u8 55), .lit (.int .u8 48), .lit (.int .u8 27), .lit (.int .u8 60), .lit (.int .u8 41), .lit (.int .u8 37), .lit (.int .u8 16), .lit (.int .u8 46), .lit (.int .u8 35), .lit (.int .u8 44), .lit (.int .u8 21), .lit (.int .u8 52), .lit (.int .u8 32), .lit (.int .u8 23), .lit (.int .u8 11), .lit (.int .u8 54), .lit (.int .u8 26), .lit (.int .u8 40), .lit (.int .u8 15), .lit (.int .u8 34), .lit (.int .u8 20), .lit (.int .u8 31), .lit (.int .u8 10), .lit (.int .u8 25), .lit (.int .u8 14), .lit (.int .u8 19), .lit (.int .u8 9), .lit (.int .u8 13), .lit (.int .u8 8), .lit (.int .u8 7), .lit (.int .u8 6)]
def laid_arbac_keccak_rounds {H : Type} : DataW H := .agg [.lit (.int .u64 1), .lit (.int .u64 32898), .lit (.int .u64 9223372036854808714), .lit (.int .u64 9223372039002292224), .lit (.int .u64 32907), .lit (.int .u64 2147483649), .lit (.int .u64 9223372039002292353), .lit (.int .u64 9223372036854808585), .lit (.int .u64 138), .lit (.int .u64 136), .lit (.int .u64 2147516425), .lit (.int .u64 2147483658), .lit (.int .u64 2147516555), .lit (.int .u64 9223372036854775947), .lit (.int .u64 9223372036854808713), .lit (.int .u64 9223372036854808579), .lit (.int .u64 9223372036854808578), .lit (.int .u64 9223372036854775936), .lit (.int .u64 32778), .lit (.int .u64 9223372039002259466), .lit (.int .u64 9223372039002292353), .lit (.int .u64 9223372036854808704), .lit (.int .u64 2147483649), .lit (.int .u64 9223372039002292232)]
def laid_arbac_keccak_turns {H : Type} : DataW H := .agg [.lit (.int .i64 0), .lit (.int .i64 1), .lit (.int .i64 62), .lit (.int .i64 28), .lit (.int .i64 27), .lit (.int .i64 36), .lit (.int .i64 44), .lit (.int .i64 6), .lit (.int .i64 55), .lit (.int .i64 20), .lit (.int .i64 3), .lit (.int .i64 10), .lit (.int .i64 43), .lit (.int .i64 25), .lit (.int .i64 39), .lit (.int .i64 41), .lit (.int .i64 45), .lit (.int .i64 15), .lit (.int .i64 21), .lit (.int .i64 8), .lit (.int .i64 18), .lit (.int .i64 2), .lit (.int .i64 61), .lit (.int .i64 56), .lit (.int .i64 14)]

/-- 'arbaclaw31.SchemeChecks': WHATEVER THE INPUT: true; the input reads as it did. -/
def schemeChecksSpec : ChangeSpec := { name := "schemeChecks", fn := fun _ => fun
  | [d1, d2] => { results := [.lit (.bool true)], args := [d1, d2] }
  | _ => none }
def schemeChecksRow : OpenClaim := { program := "ytchjigffejhmfaagreatdoor", sum := "9e3e3c9e72389c44465e19d733eac6d64ae57700e6d5abbe8e193d431a856d3f", func := "arbac/arbaclaw31.SchemeChecks", spec := "schemeChecks", unfollowed := true, recurses := true, named := ["math/bits.deBruijn64tab"], apart := false, laid := [("math/bits.deBruijn64tab", laid_math_bits_deBruijn64tab)] }
def SchemeChecksSaid : Prop := schemeChecksRow.holds Tryz.pinned (OpenSpec.ofChange schemeChecksSpec)

/-- ITS FALSE NEIGHBOUR: 'it returns false'. Refute it at one input. -/
def schemeChecksWrong : ChangeSpec := { name := "schemeChecks", fn := fun _ => fun
  | [d1, d2] => { results := [.lit (.bool false)], args := [d1, d2] }
  | _ => none }
def SchemeChecksWrongFalsely : Prop := schemeChecksRow.holds Tryz.pinned (OpenSpec.ofChange schemeChecksWrong)

/-- 'arbaclaw31.SchemeExplicit': WHATEVER THE INPUT: true; the input reads as it did. -/
def schemeExplicitSpec : ChangeSpec := { name := "schemeExplicit", fn := fun _ => fun
  | [d1, d2] => { results := [.lit (.bool true)], args := [d1, d2] }
  | _ => none }
def schemeExplicitRow : OpenClaim := { program := "ytchjigffejhmfaagreatdoor", sum := "9e3e3c9e72389c44465e19d733eac6d64ae57700e6d5abbe8e193d431a856d3f", func := "arbac/arbaclaw31.SchemeExplicit", spec := "schemeExplicit", unfollowed := true, recurses := true, named := ["math/bits.deBruijn64tab"], apart := false, laid := [("math/bits.deBruijn64tab", laid_math_bits_deBruijn64tab)] }
def SchemeExplicitSaid : Prop := schemeExplicitRow.holds Tryz.pinned (OpenSpec.ofChange schemeExplicitSpec)

/-- ITS FALSE NEIGHBOUR: 'it returns false'. Refute it at one input. -/
def schemeExplicitWrong : ChangeSpec := { name := "schemeExplicit", fn := fun _ => fun
  | [d1, d2] => { results := [.lit (.bool false)], args := [d1, d2] }
  | _ => none }
def SchemeExplicitWrongFalsely : Prop := schemeExplicitRow.holds Tryz.pinned (OpenSpec.ofChange schemeExplicitWrong)

/-- 'arbaclaw31.SchemeSteps': WHATEVER THE INPUT: true; the input reads as it did. -/
def schemeStepsSpec : ChangeSpec := { name := "schemeSteps", fn := fun _ => fun
  | [d1, d2, d3] => { results := [.lit (.bool true)], args := [d1, d2, d3] }
  | _ => none }
def schemeStepsRow : OpenClaim := { program := "ytchjigffejhmfaagreatdoor", sum := "9e3e3c9e72389c44465e19d733eac6d64ae57700e6d5abbe8e193d431a856d3f", func := "arbac/arbaclaw31.SchemeSteps", spec := "schemeSteps", unfollowed := true, recurses := true, named := ["math/bits.deBruijn64tab"], apart := false, laid := [("math/bits.deBruijn64tab", laid_math_bits_deBruijn64tab)] }
def SchemeStepsSaid : Prop := schemeStepsRow.holds Tryz.pinned (OpenSpec.ofChange schemeStepsSpec)

/-- ITS FALSE NEIGHBOUR: 'it returns false'. Refute it at one input. -/
def schemeStepsWrong : ChangeSpec := { name := "schemeSteps", fn := fun _ => fun
  | [d1, d2, d3] => { results := [.lit (.bool false)], args := [d1, d2, d3] }
  | _ => none }
def SchemeStepsWrongFalsely : Prop := schemeStepsRow.holds Tryz.pinned (OpenSpec.ofChange schemeStepsWrong)

/-- 'arbaclaw31.SchemeRuns': WHATEVER THE INPUT: true; the input reads as it did. -/
def schemeRunsSpec : ChangeSpec := { name := "schemeRuns", fn := fun _ => fun
  | [d1, d2] => { results := [.lit (.bool true)], args := [d1, d2] }
  | _ => none }
def schemeRunsRow : OpenClaim := { program := "ytchjigffejhmfaagreatdoor", sum := "9e3e3c9e72389c44465e19d733eac6d64ae57700e6d5abbe8e193d431a856d3f", func := "arbac/arbaclaw31.SchemeRuns", spec := "schemeRuns", unfollowed := true, recurses := true, named := ["math/bits.deBruijn64tab"], apart := false, laid := [("math/bits.deBruijn64tab", laid_math_bits_deBruijn64tab)] }
def SchemeRunsSaid : Prop := schemeRunsRow.holds Tryz.pinned (OpenSpec.ofChange schemeRunsSpec)

/-- ITS FALSE NEIGHBOUR: 'it returns false'. Refute it at one input. -/
def schemeRunsWrong : ChangeSpec := { name := "schemeRuns", fn := fun _ => fun
  | [d1, d2] => { results := [.lit (.bool false)], args := [d1, d2] }
  | _ => none }
def SchemeRunsWrongFalsely : Prop := schemeRunsRow.holds Tryz.pinned (OpenSpec.ofChange schemeRunsWrong)

/-- 'arbaclaw31.SchemeEquals': WHATEVER THE INPUT: true; the input reads as it did. -/
def schemeEqualsSpec : ChangeSpec := { name := "schemeEquals", fn := fun _ => fun
  | [d1, d2, d3] => { results := [.lit (.bool true)], args := [d1, d2, d3] }
  | _ => none }
def schemeEqualsRow : OpenClaim := { program := "ytchjigffejhmfaagreatdoor", sum := "9e3e3c9e72389c44465e19d733eac6d64ae57700e6d5abbe8e193d431a856d3f", func := "arbac/arbaclaw31.SchemeEquals", spec := "schemeEquals", unfollowed := true, recurses := true, named := ["math/bits.deBruijn64tab"], apart := false, laid := [("math/bits.deBruijn64tab", laid_math_bits_deBruijn64tab)] }
def SchemeEqualsSaid : Prop := schemeEqualsRow.holds Tryz.pinned (OpenSpec.ofChange schemeEqualsSpec)

/-- ITS FALSE NEIGHBOUR: 'it returns false'. Refute it at one input. -/
def schemeEqualsWrong : ChangeSpec := { name := "schemeEquals", fn := fun _ => fun
  | [d1, d2, d3] => { results := [.lit (.bool false)], args := [d1, d2, d3] }
  | _ => none }
def SchemeEqualsWrongFalsely : Prop := schemeEqualsRow.holds Tryz.pinned (OpenSpec.ofChange schemeEqualsWrong)

/-- 'arbaclaw36.CertificateProblems': WHATEVER THE INPUT: true; the input reads as it did. -/
def certificateProblemsSpec : ChangeSpec := { name := "certificateProblems", fn := fun _ => fun
  | [d1, d2] => { results := [.lit (.bool true)], args := [d1, d2] }
  | _ => none }
def certificateProblemsRow : OpenClaim := { program := "ytchjigffejhmfaagreatdoor", sum := "9e3e3c9e72389c44465e19d733eac6d64ae57700e6d5abbe8e193d431a856d3f", func := "arbac/arbaclaw36.CertificateProblems", spec := "certificateProblems", unfollowed := true, recurses := true, named := ["arbac/keccak.rounds", "arbac/keccak.turns", "math/bits.deBruijn64tab"], apart := false, laid := [("math/bits.deBruijn64tab", laid_math_bits_deBruijn64tab), ("arbac/keccak.rounds", laid_arbac_keccak_rounds), ("arbac/keccak.turns", laid_arbac_keccak_turns)] }
def CertificateProblemsSaid : Prop := certificateProblemsRow.holds Tryz.pinned (OpenSpec.ofChange certificateProblemsSpec)

/-- ITS FALSE NEIGHBOUR: 'it returns false'. Refute it at one input. -/
def certificateProblemsWrong : ChangeSpec := { name := "certificateProblems", fn := fun _ => fun
  | [d1, d2] => { results := [.lit (.bool false)], args := [d1, d2] }
  | _ => none }
def CertificateProblemsWrongFalsely : Prop := certificateProblemsRow.holds Tryz.pinned (OpenSpec.ofChange certificateProblemsWrong)

/-- 'arbaclaw36.CertificateNames': WHATEVER THE INPUT: true; the input reads as it did. -/
def certificateNamesSpec : ChangeSpec := { name := "certificateNames", fn := fun _ => fun
  | [d1, d2, d3] => { results := [.lit (.bool true)], args := [d1, d2, d3] }
  | _ => none }
def certificateNamesRow : OpenClaim := { program := "ytchjigffejhmfaagreatdoor", sum := "9e3e3c9e72389c44465e19d733eac6d64ae57700e6d5abbe8e193d431a856d3f", func := "arbac/arbaclaw36.CertificateNames", spec := "certificateNames", unfollowed := true, recurses := true, named := ["arbac/keccak.rounds", "arbac/keccak.turns", "math/bits.deBruijn64tab"], apart := false, laid := [("math/bits.deBruijn64tab", laid_math_bits_deBruijn64tab), ("arbac/keccak.rounds", laid_arbac_keccak_rounds), ("arbac/keccak.turns", laid_arbac_keccak_turns)] }
def CertificateNamesSaid : Prop := certificateNamesRow.holds Tryz.pinned (OpenSpec.ofChange certificateNamesSpec)

/-- ITS FALSE NEIGHBOUR: 'it returns false'. Refute it at one input. -/
def certificateNamesWrong : ChangeSpec := { name := "certificateNames", fn := fun _ => fun
  | [d1, d2, d3] => { results := [.lit (.bool false)], args := [d1, d2, d3] }
  | _ => none }
def CertificateNamesWrongFalsely : Prop := certificateNamesRow.holds Tryz.pinned (OpenSpec.ofChange certificateNamesWrong)

/-- 'arbaclaw36.CertificateMakes': WHATEVER THE INPUT: true; the input reads as it did. -/
def certificateMakesSpec : ChangeSpec := { name := "certificateMakes", fn := fun _ => fun
  | [d1, d2, d3] => { results := [.lit (.bool true)], args := [d1, d2, d3] }
  | _ => none }
def certificateMakesRow : OpenClaim := { program := "ytchjigffejhmfaagreatdoor", sum := "9e3e3c9e72389c44465e19d733eac6d64ae57700e6d5abbe8e193d431a856d3f", func := "arbac/arbaclaw36.CertificateMakes", spec := "certificateMakes", unfollowed := true, recurses := true, named := ["arbac/keccak.rounds", "arbac/keccak.turns", "math/bits.deBruijn64tab"], apart := false, laid := [("math/bits.deBruijn64tab", laid_math_bits_deBruijn64tab), ("arbac/keccak.rounds", laid_arbac_keccak_rounds), ("arbac/keccak.turns", laid_arbac_keccak_turns)] }
def CertificateMakesSaid : Prop := certificateMakesRow.holds Tryz.pinned (OpenSpec.ofChange certificateMakesSpec)

/-- ITS FALSE NEIGHBOUR: 'it returns false'. Refute it at one input. -/
def certificateMakesWrong : ChangeSpec := { name := "certificateMakes", fn := fun _ => fun
  | [d1, d2, d3] => { results := [.lit (.bool false)], args := [d1, d2, d3] }
  | _ => none }
def CertificateMakesWrongFalsely : Prop := certificateMakesRow.holds Tryz.pinned (OpenSpec.ofChange certificateMakesWrong)

/-- 'arbaclaw36.CertificateRuns': WHATEVER THE INPUT: true; the input reads as it did. -/
def certificateRunsSpec : ChangeSpec := { name := "certificateRuns", fn := fun _ => fun
  | [d1, d2] => { results := [.lit (.bool true)], args := [d1, d2] }
  | _ => none }
def certificateRunsRow : OpenClaim := { program := "ytchjigffejhmfaagreatdoor", sum := "9e3e3c9e72389c44465e19d733eac6d64ae57700e6d5abbe8e193d431a856d3f", func := "arbac/arbaclaw36.CertificateRuns", spec := "certificateRuns", unfollowed := true, recurses := true, named := ["arbac/keccak.rounds", "arbac/keccak.turns", "math/bits.deBruijn64tab"], apart := false, laid := [("math/bits.deBruijn64tab", laid_math_bits_deBruijn64tab), ("arbac/keccak.rounds", laid_arbac_keccak_rounds), ("arbac/keccak.turns", laid_arbac_keccak_turns)] }
def CertificateRunsSaid : Prop := certificateRunsRow.holds Tryz.pinned (OpenSpec.ofChange certificateRunsSpec)

/-- ITS FALSE NEIGHBOUR: 'it returns false'. Refute it at one input. -/
def certificateRunsWrong : ChangeSpec := { name := "certificateRuns", fn := fun _ => fun
  | [d1, d2] => { results := [.lit (.bool false)], args := [d1, d2] }
  | _ => none }
def CertificateRunsWrongFalsely : Prop := certificateRunsRow.holds Tryz.pinned (OpenSpec.ofChange certificateRunsWrong)

/- THE SECOND FORM. 'bulk': how many values and letters a reading holds, each counted each time it is reached (what is shared counts as often as it is met; a slice's spare places count too). A statement '..UptoSaid' is the law's where the arguments, and the package variables that the reading takes, are together of bulk at most 1048576: NARROWER than '..Said'. Prove '..Said' where nothing that the law and all that it calls make is longer than what came in: it says more and counts as full. Else prove '..UptoSaid'. A law counts once. -/
mutual
def uptoBulk {H : Type} : DataW H → Nat
  | .lit (.string bytes) => bytes.length + 1
  | .lit _ => 1
  | .nil => 1
  | .ptr d => uptoBulk d + 1
  | .slice elems spare => uptoBulkAll elems + uptoBulkAll spare + 1
  | .agg parts => uptoBulkAll parts + 1
  | .iface _ d => uptoBulk d + 1
  | .map entries => uptoBulkEntries entries + 1
  | .held _ => 1
def uptoBulkAll {H : Type} : List (DataW H) → Nat
  | [] => 0
  | d :: r => uptoBulk d + uptoBulkAll r
def uptoBulkEntries {H : Type} : List (Lit × DataW H) → Nat
  | [] => 0
  | x :: r => uptoBulkEntry x + uptoBulkEntries r
def uptoBulkEntry {H : Type} : Lit × DataW H → Nat
  | (.string bytes, d) => bytes.length + uptoBulk d + 1
  | (_, d) => uptoBulk d + 1
 end
def uptoSmall : (H : Type) → List (DataW H) → Bool := fun _ ds => decide (uptoBulkAll ds ≤ 1048576)
def OpenSpec.upto (s : _root_.Go.ChangeSpec) : _root_.Go.OpenSpec := { _root_.Go.OpenSpec.ofChange s with cond := some uptoSmall }

/-- 'arbaclaw31.SchemeChecks', WHERE WHAT IT READS IS OF BULK AT MOST 1048576: true; the input reads as it did. -/
def schemeChecksUptoRow : OpenClaim := { program := "ytchjigffejhmfaagreatdoor", sum := "9e3e3c9e72389c44465e19d733eac6d64ae57700e6d5abbe8e193d431a856d3f", func := "arbac/arbaclaw31.SchemeChecks", spec := "schemeChecks", unfollowed := true, recurses := true, named := ["math/bits.deBruijn64tab"], apart := false, laid := [("math/bits.deBruijn64tab", laid_math_bits_deBruijn64tab)], narrowed := true }
def SchemeChecksUptoSaid : Prop := schemeChecksUptoRow.holds Tryz.pinned (OpenSpec.upto schemeChecksSpec)

/-- 'arbaclaw31.SchemeExplicit', WHERE WHAT IT READS IS OF BULK AT MOST 1048576: true; the input reads as it did. -/
def schemeExplicitUptoRow : OpenClaim := { program := "ytchjigffejhmfaagreatdoor", sum := "9e3e3c9e72389c44465e19d733eac6d64ae57700e6d5abbe8e193d431a856d3f", func := "arbac/arbaclaw31.SchemeExplicit", spec := "schemeExplicit", unfollowed := true, recurses := true, named := ["math/bits.deBruijn64tab"], apart := false, laid := [("math/bits.deBruijn64tab", laid_math_bits_deBruijn64tab)], narrowed := true }
def SchemeExplicitUptoSaid : Prop := schemeExplicitUptoRow.holds Tryz.pinned (OpenSpec.upto schemeExplicitSpec)

/-- 'arbaclaw31.SchemeSteps', WHERE WHAT IT READS IS OF BULK AT MOST 1048576: true; the input reads as it did. -/
def schemeStepsUptoRow : OpenClaim := { program := "ytchjigffejhmfaagreatdoor", sum := "9e3e3c9e72389c44465e19d733eac6d64ae57700e6d5abbe8e193d431a856d3f", func := "arbac/arbaclaw31.SchemeSteps", spec := "schemeSteps", unfollowed := true, recurses := true, named := ["math/bits.deBruijn64tab"], apart := false, laid := [("math/bits.deBruijn64tab", laid_math_bits_deBruijn64tab)], narrowed := true }
def SchemeStepsUptoSaid : Prop := schemeStepsUptoRow.holds Tryz.pinned (OpenSpec.upto schemeStepsSpec)

/-- 'arbaclaw31.SchemeRuns', WHERE WHAT IT READS IS OF BULK AT MOST 1048576: true; the input reads as it did. -/
def schemeRunsUptoRow : OpenClaim := { program := "ytchjigffejhmfaagreatdoor", sum := "9e3e3c9e72389c44465e19d733eac6d64ae57700e6d5abbe8e193d431a856d3f", func := "arbac/arbaclaw31.SchemeRuns", spec := "schemeRuns", unfollowed := true, recurses := true, named := ["math/bits.deBruijn64tab"], apart := false, laid := [("math/bits.deBruijn64tab", laid_math_bits_deBruijn64tab)], narrowed := true }
def SchemeRunsUptoSaid : Prop := schemeRunsUptoRow.holds Tryz.pinned (OpenSpec.upto schemeRunsSpec)

/-- 'arbaclaw31.SchemeEquals', WHERE WHAT IT READS IS OF BULK AT MOST 1048576: true; the input reads as it did. -/
def schemeEqualsUptoRow : OpenClaim := { program := "ytchjigffejhmfaagreatdoor", sum := "9e3e3c9e72389c44465e19d733eac6d64ae57700e6d5abbe8e193d431a856d3f", func := "arbac/arbaclaw31.SchemeEquals", spec := "schemeEquals", unfollowed := true, recurses := true, named := ["math/bits.deBruijn64tab"], apart := false, laid := [("math/bits.deBruijn64tab", laid_math_bits_deBruijn64tab)], narrowed := true }
def SchemeEqualsUptoSaid : Prop := schemeEqualsUptoRow.holds Tryz.pinned (OpenSpec.upto schemeEqualsSpec)

/-- 'arbaclaw36.CertificateProblems', WHERE WHAT IT READS IS OF BULK AT MOST 1048576: true; the input reads as it did. -/
def certificateProblemsUptoRow : OpenClaim := { program := "ytchjigffejhmfaagreatdoor", sum := "9e3e3c9e72389c44465e19d733eac6d64ae57700e6d5abbe8e193d431a856d3f", func := "arbac/arbaclaw36.CertificateProblems", spec := "certificateProblems", unfollowed := true, recurses := true, named := ["arbac/keccak.rounds", "arbac/keccak.turns", "math/bits.deBruijn64tab"], apart := false, laid := [("math/bits.deBruijn64tab", laid_math_bits_deBruijn64tab), ("arbac/keccak.rounds", laid_arbac_keccak_rounds), ("arbac/keccak.turns", laid_arbac_keccak_turns)], narrowed := true }
def CertificateProblemsUptoSaid : Prop := certificateProblemsUptoRow.holds Tryz.pinned (OpenSpec.upto certificateProblemsSpec)

/-- 'arbaclaw36.CertificateNames', WHERE WHAT IT READS IS OF BULK AT MOST 1048576: true; the input reads as it did. -/
def certificateNamesUptoRow : OpenClaim := { program := "ytchjigffejhmfaagreatdoor", sum := "9e3e3c9e72389c44465e19d733eac6d64ae57700e6d5abbe8e193d431a856d3f", func := "arbac/arbaclaw36.CertificateNames", spec := "certificateNames", unfollowed := true, recurses := true, named := ["arbac/keccak.rounds", "arbac/keccak.turns", "math/bits.deBruijn64tab"], apart := false, laid := [("math/bits.deBruijn64tab", laid_math_bits_deBruijn64tab), ("arbac/keccak.rounds", laid_arbac_keccak_rounds), ("arbac/keccak.turns", laid_arbac_keccak_turns)], narrowed := true }
def CertificateNamesUptoSaid : Prop := certificateNamesUptoRow.holds Tryz.pinned (OpenSpec.upto certificateNamesSpec)

/-- 'arbaclaw36.CertificateMakes', WHERE WHAT IT READS IS OF BULK AT MOST 1048576: true; the input reads as it did. -/
def certificateMakesUptoRow : OpenClaim := { program := "ytchjigffejhmfaagreatdoor", sum := "9e3e3c9e72389c44465e19d733eac6d64ae57700e6d5abbe8e193d431a856d3f", func := "arbac/arbaclaw36.CertificateMakes", spec := "certificateMakes", unfollowed := true, recurses := true, named := ["arbac/keccak.rounds", "arbac/keccak.turns", "math/bits.deBruijn64tab"], apart := false, laid := [("math/bits.deBruijn64tab", laid_math_bits_deBruijn64tab), ("arbac/keccak.rounds", laid_arbac_keccak_rounds), ("arbac/keccak.turns", laid_arbac_keccak_turns)], narrowed := true }
def CertificateMakesUptoSaid : Prop := certificateMakesUptoRow.holds Tryz.pinned (OpenSpec.upto certificateMakesSpec)

/-- 'arbaclaw36.CertificateRuns', WHERE WHAT IT READS IS OF BULK AT MOST 1048576: true; the input reads as it did. -/
def certificateRunsUptoRow : OpenClaim := { program := "ytchjigffejhmfaagreatdoor", sum := "9e3e3c9e72389c44465e19d733eac6d64ae57700e6d5abbe8e193d431a856d3f", func := "arbac/arbaclaw36.CertificateRuns", spec := "certificateRuns", unfollowed := true, recurses := true, named := ["arbac/keccak.rounds", "arbac/keccak.turns", "math/bits.deBruijn64tab"], apart := false, laid := [("math/bits.deBruijn64tab", laid_math_bits_deBruijn64tab), ("arbac/keccak.rounds", laid_arbac_keccak_rounds), ("arbac/keccak.turns", laid_arbac_keccak_turns)], narrowed := true }
def CertificateRunsUptoSaid : Prop := certificateRunsUptoRow.holds Tryz.pinned (OpenSpec.upto certificateRunsSpec)

end Rows
end Go.Proofs.YtchjigffejhmfaaGreatDoor
