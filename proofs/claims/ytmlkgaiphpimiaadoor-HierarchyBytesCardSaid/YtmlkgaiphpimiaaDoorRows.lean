/-
  NARROWER THAN 'FOR EVERY INPUT', by the rows' own cells (each row's printed sentence says how): HierarchyImplies: laid · HierarchyChains: laid · HierarchyOrders: laid · HierarchyLinks: laid · HierarchyRedundant: laid · HierarchySets: laid · HierarchyCloses: laid · HierarchyKeeps: laid · HierarchyReads: laid · HierarchyBytes: laid.
  DERIVED. THE GIVEN ROWS OF THIS SEAT. 10 by the template 'for every input the law returns true; each argument reads behind the call as it read before'; 0 by the template 'total and deterministic' (their statements: YtmlkgaiphpimiaaDoorTotals.lean).
  GIVEN WITH THE SEED: the statements are not yours to turn. If you find one false, say at which input.
  Laid BY PROGRAM, IN A SANDBOX (cutbox-rows.mjs): the forced cells as the released guide's own fill.sh prints them over the translation b99a08ff91eb6520… (all of the seat's roots in one cut). By AI agents, Wed Nov 11 2026. No macro, syntax, notation, axiom, sorry.
-/
import Derived.Test.YtmlkgaiphpimiaaDoorChecked
import GoSem.Claim
import GoSem.ClaimJoined
import GoSem.ClaimMapViews
import Derived.JoinedTies
import Derived.KernelRfl
namespace Go.Proofs.YtmlkgaiphpimiaaDoor
/- THE CELL 'sum', in the pinned program and in every row, IS THE sha256 OF THE DUMP (.gsa) THAT YtmlkgaiphpimiaaDoorProg.lean LOADS. Nothing in Lean hashes anything: it is a label: what it is worth is what the hold of that sum in a sandbox is worth. -/
noncomputable def Tryd.pinned : Pinned := { name := "ytmlkgaiphpimiaadoor", sum := "b99a08ff91eb6520b10c1433df4ab9581dc6f7b246bbf7d601688288b09d25b8", checked := Tryd.checked }
namespace Rows
def none {H : Type} : Left H := { results := [], args := [] }

/- WHAT THE LISTED PACKAGE-LEVEL VARIABLES READ AS WHEN THE CALL BEGINS. Each datum BY PROGRAM (the guide's laid-datum.mjs) off the statement by which the dump's own 'gosem.cut.vars' lays the variable. In a bare row this is a premise. The card (YtmlkgaiphpimiaaDoorCards.lean) ties it to the program's text. -/
def laid_math_bits_deBruijn64tab {H : Type} : DataW H := .agg [.lit (.int .u8 0), .lit (.int .u8 1), .lit (.int .u8 56), .lit (.int .u8 2), .lit (.int .u8 57), .lit (.int .u8 49), .lit (.int .u8 28), .lit (.int .u8 3), .lit (.int .u8 61), .lit (.int .u8 58), .lit (.int .u8 42), .lit (.int .u8 50), .lit (.int .u8 38), .lit (.int .u8 29), .lit (.int .u8 17), .lit (.int .u8 4), .lit (.int .u8 62), .lit (.int .u8 47), .lit (.int .u8 59), .lit (.int .u8 36), .lit (.int .u8 45), .lit (.int .u8 43), .lit (.int .u8 51), .lit (.int .u8 22), .lit (.int .u8 53), .lit (.int .u8 39), .lit (.int .u8 33), .lit (.int .u8 30), .lit (.int .u8 24), .lit (.int .u8 18), .lit (.int .u8 12), .lit (.int .u8 5), .lit (.int .u8 63), .lit (.int .u8 55), .lit (.int .u8 48), .lit (.int .u8 27), .lit (.int .u8 60), .lit (.int .u8 41), .lit (.int .u8 37), .lit (.int .u8 16), .lit (.int .u8 46), .lit (.int .u8 35), .lit (.int .u8 44), .lit (.int .u8 21), .lit (.int .u8 52), .lit (.int .u8 32), .lit (.int .u8 23), .lit (.int .u8 11), .lit (.int .u8 54), .lit (.int .u8 26), .lit (.int .u8 40), .lit (.int .u8 15), .lit (.int .u8 34), .lit (.int .u8 20), .lit (.int .u8 31), .lit (.int .u8 10), .lit (.int .u8 25), .lit (.int .u8 14), .lit (.int .u8 19), .lit (.int .u8 9), .lit (.int .u8 13), .lit (.int .u8 8), .lit (.int .u8 7), .lit (.int .u8 6)]

/-- 'arbaclaw10.HierarchyImplies': WHATEVER THE INPUT: true; the input reads as it did. -/
def hierarchyImpliesSpec : ChangeSpec := { name := "hierarchyImplies", fn := fun _ => fun
  | [d1, d2, d3] => { results := [.lit (.bool true)], args := [d1, d2, d3] }
  | _ => none }
def hierarchyImpliesRow : OpenClaim := { program := "ytmlkgaiphpimiaadoor", sum := "b99a08ff91eb6520b10c1433df4ab9581dc6f7b246bbf7d601688288b09d25b8", func := "arbac/arbaclaw10.HierarchyImplies", spec := "hierarchyImplies", unfollowed := true, recurses := true, named := ["math/bits.deBruijn64tab"], apart := false, laid := [("math/bits.deBruijn64tab", laid_math_bits_deBruijn64tab)] }
def HierarchyImpliesSaid : Prop := hierarchyImpliesRow.holds Tryd.pinned (OpenSpec.ofChange hierarchyImpliesSpec)

/-- ITS FALSE NEIGHBOUR: 'it returns false'. Refute it at one input. -/
def hierarchyImpliesWrong : ChangeSpec := { name := "hierarchyImplies", fn := fun _ => fun
  | [d1, d2, d3] => { results := [.lit (.bool false)], args := [d1, d2, d3] }
  | _ => none }
def HierarchyImpliesWrongFalsely : Prop := hierarchyImpliesRow.holds Tryd.pinned (OpenSpec.ofChange hierarchyImpliesWrong)

/-- 'arbaclaw10.HierarchyChains': WHATEVER THE INPUT: true; the input reads as it did. -/
def hierarchyChainsSpec : ChangeSpec := { name := "hierarchyChains", fn := fun _ => fun
  | [d1, d2, d3] => { results := [.lit (.bool true)], args := [d1, d2, d3] }
  | _ => none }
def hierarchyChainsRow : OpenClaim := { program := "ytmlkgaiphpimiaadoor", sum := "b99a08ff91eb6520b10c1433df4ab9581dc6f7b246bbf7d601688288b09d25b8", func := "arbac/arbaclaw10.HierarchyChains", spec := "hierarchyChains", unfollowed := true, recurses := true, named := ["math/bits.deBruijn64tab"], apart := false, laid := [("math/bits.deBruijn64tab", laid_math_bits_deBruijn64tab)] }
def HierarchyChainsSaid : Prop := hierarchyChainsRow.holds Tryd.pinned (OpenSpec.ofChange hierarchyChainsSpec)

/-- ITS FALSE NEIGHBOUR: 'it returns false'. Refute it at one input. -/
def hierarchyChainsWrong : ChangeSpec := { name := "hierarchyChains", fn := fun _ => fun
  | [d1, d2, d3] => { results := [.lit (.bool false)], args := [d1, d2, d3] }
  | _ => none }
def HierarchyChainsWrongFalsely : Prop := hierarchyChainsRow.holds Tryd.pinned (OpenSpec.ofChange hierarchyChainsWrong)

/-- 'arbaclaw10.HierarchyOrders': WHATEVER THE INPUT: true; the input reads as it did. -/
def hierarchyOrdersSpec : ChangeSpec := { name := "hierarchyOrders", fn := fun _ => fun
  | [d] => { results := [.lit (.bool true)], args := [d] }
  | _ => none }
def hierarchyOrdersRow : OpenClaim := { program := "ytmlkgaiphpimiaadoor", sum := "b99a08ff91eb6520b10c1433df4ab9581dc6f7b246bbf7d601688288b09d25b8", func := "arbac/arbaclaw10.HierarchyOrders", spec := "hierarchyOrders", unfollowed := true, recurses := true, named := ["math/bits.deBruijn64tab"], apart := false, laid := [("math/bits.deBruijn64tab", laid_math_bits_deBruijn64tab)] }
def HierarchyOrdersSaid : Prop := hierarchyOrdersRow.holds Tryd.pinned (OpenSpec.ofChange hierarchyOrdersSpec)

/-- ITS FALSE NEIGHBOUR: 'it returns false'. Refute it at one input. -/
def hierarchyOrdersWrong : ChangeSpec := { name := "hierarchyOrders", fn := fun _ => fun
  | [d] => { results := [.lit (.bool false)], args := [d] }
  | _ => none }
def HierarchyOrdersWrongFalsely : Prop := hierarchyOrdersRow.holds Tryd.pinned (OpenSpec.ofChange hierarchyOrdersWrong)

/-- 'arbaclaw10.HierarchyLinks': WHATEVER THE INPUT: true; the input reads as it did. -/
def hierarchyLinksSpec : ChangeSpec := { name := "hierarchyLinks", fn := fun _ => fun
  | [d] => { results := [.lit (.bool true)], args := [d] }
  | _ => none }
def hierarchyLinksRow : OpenClaim := { program := "ytmlkgaiphpimiaadoor", sum := "b99a08ff91eb6520b10c1433df4ab9581dc6f7b246bbf7d601688288b09d25b8", func := "arbac/arbaclaw10.HierarchyLinks", spec := "hierarchyLinks", unfollowed := true, recurses := true, named := ["math/bits.deBruijn64tab"], apart := false, laid := [("math/bits.deBruijn64tab", laid_math_bits_deBruijn64tab)] }
def HierarchyLinksSaid : Prop := hierarchyLinksRow.holds Tryd.pinned (OpenSpec.ofChange hierarchyLinksSpec)

/-- ITS FALSE NEIGHBOUR: 'it returns false'. Refute it at one input. -/
def hierarchyLinksWrong : ChangeSpec := { name := "hierarchyLinks", fn := fun _ => fun
  | [d] => { results := [.lit (.bool false)], args := [d] }
  | _ => none }
def HierarchyLinksWrongFalsely : Prop := hierarchyLinksRow.holds Tryd.pinned (OpenSpec.ofChange hierarchyLinksWrong)

/-- 'arbaclaw10.HierarchyRedundant': WHATEVER THE INPUT: true; the input reads as it did. -/
def hierarchyRedundantSpec : ChangeSpec := { name := "hierarchyRedundant", fn := fun _ => fun
  | [d] => { results := [.lit (.bool true)], args := [d] }
  | _ => none }
def hierarchyRedundantRow : OpenClaim := { program := "ytmlkgaiphpimiaadoor", sum := "b99a08ff91eb6520b10c1433df4ab9581dc6f7b246bbf7d601688288b09d25b8", func := "arbac/arbaclaw10.HierarchyRedundant", spec := "hierarchyRedundant", unfollowed := true, recurses := true, named := ["math/bits.deBruijn64tab"], apart := false, laid := [("math/bits.deBruijn64tab", laid_math_bits_deBruijn64tab)] }
def HierarchyRedundantSaid : Prop := hierarchyRedundantRow.holds Tryd.pinned (OpenSpec.ofChange hierarchyRedundantSpec)

/-- ITS FALSE NEIGHBOUR: 'it returns false'. Refute it at one input. -/
def hierarchyRedundantWrong : ChangeSpec := { name := "hierarchyRedundant", fn := fun _ => fun
  | [d] => { results := [.lit (.bool false)], args := [d] }
  | _ => none }
def HierarchyRedundantWrongFalsely : Prop := hierarchyRedundantRow.holds Tryd.pinned (OpenSpec.ofChange hierarchyRedundantWrong)

/-- 'arbaclaw10.HierarchySets': WHATEVER THE INPUT: true; the input reads as it did. -/
def hierarchySetsSpec : ChangeSpec := { name := "hierarchySets", fn := fun _ => fun
  | [d1, d2, d3] => { results := [.lit (.bool true)], args := [d1, d2, d3] }
  | _ => none }
def hierarchySetsRow : OpenClaim := { program := "ytmlkgaiphpimiaadoor", sum := "b99a08ff91eb6520b10c1433df4ab9581dc6f7b246bbf7d601688288b09d25b8", func := "arbac/arbaclaw10.HierarchySets", spec := "hierarchySets", unfollowed := true, recurses := true, named := ["math/bits.deBruijn64tab"], apart := false, laid := [("math/bits.deBruijn64tab", laid_math_bits_deBruijn64tab)] }
def HierarchySetsSaid : Prop := hierarchySetsRow.holds Tryd.pinned (OpenSpec.ofChange hierarchySetsSpec)

/-- ITS FALSE NEIGHBOUR: 'it returns false'. Refute it at one input. -/
def hierarchySetsWrong : ChangeSpec := { name := "hierarchySets", fn := fun _ => fun
  | [d1, d2, d3] => { results := [.lit (.bool false)], args := [d1, d2, d3] }
  | _ => none }
def HierarchySetsWrongFalsely : Prop := hierarchySetsRow.holds Tryd.pinned (OpenSpec.ofChange hierarchySetsWrong)

/-- 'arbaclaw10.HierarchyCloses': WHATEVER THE INPUT: true; the input reads as it did. -/
def hierarchyClosesSpec : ChangeSpec := { name := "hierarchyCloses", fn := fun _ => fun
  | [d1, d2, d3] => { results := [.lit (.bool true)], args := [d1, d2, d3] }
  | _ => none }
def hierarchyClosesRow : OpenClaim := { program := "ytmlkgaiphpimiaadoor", sum := "b99a08ff91eb6520b10c1433df4ab9581dc6f7b246bbf7d601688288b09d25b8", func := "arbac/arbaclaw10.HierarchyCloses", spec := "hierarchyCloses", unfollowed := true, recurses := true, named := ["math/bits.deBruijn64tab"], apart := false, laid := [("math/bits.deBruijn64tab", laid_math_bits_deBruijn64tab)] }
def HierarchyClosesSaid : Prop := hierarchyClosesRow.holds Tryd.pinned (OpenSpec.ofChange hierarchyClosesSpec)

/-- ITS FALSE NEIGHBOUR: 'it returns false'. Refute it at one input. -/
def hierarchyClosesWrong : ChangeSpec := { name := "hierarchyCloses", fn := fun _ => fun
  | [d1, d2, d3] => { results := [.lit (.bool false)], args := [d1, d2, d3] }
  | _ => none }
def HierarchyClosesWrongFalsely : Prop := hierarchyClosesRow.holds Tryd.pinned (OpenSpec.ofChange hierarchyClosesWrong)

/-- 'arbaclaw10.HierarchyKeeps': WHATEVER THE INPUT: true; the input reads as it did. -/
def hierarchyKeepsSpec : ChangeSpec := { name := "hierarchyKeeps", fn := fun _ => fun
  | [d1, d2, d3] => { results := [.lit (.bool true)], args := [d1, d2, d3] }
  | _ => none }
def hierarchyKeepsRow : OpenClaim := { program := "ytmlkgaiphpimiaadoor", sum := "b99a08ff91eb6520b10c1433df4ab9581dc6f7b246bbf7d601688288b09d25b8", func := "arbac/arbaclaw10.HierarchyKeeps", spec := "hierarchyKeeps", unfollowed := true, recurses := true, named := ["math/bits.deBruijn64tab"], apart := false, laid := [("math/bits.deBruijn64tab", laid_math_bits_deBruijn64tab)] }
def HierarchyKeepsSaid : Prop := hierarchyKeepsRow.holds Tryd.pinned (OpenSpec.ofChange hierarchyKeepsSpec)

/-- ITS FALSE NEIGHBOUR: 'it returns false'. Refute it at one input. -/
def hierarchyKeepsWrong : ChangeSpec := { name := "hierarchyKeeps", fn := fun _ => fun
  | [d1, d2, d3] => { results := [.lit (.bool false)], args := [d1, d2, d3] }
  | _ => none }
def HierarchyKeepsWrongFalsely : Prop := hierarchyKeepsRow.holds Tryd.pinned (OpenSpec.ofChange hierarchyKeepsWrong)

/-- 'arbaclaw10.HierarchyReads': WHATEVER THE INPUT: true; the input reads as it did. -/
def hierarchyReadsSpec : ChangeSpec := { name := "hierarchyReads", fn := fun _ => fun
  | [d1, d2, d3] => { results := [.lit (.bool true)], args := [d1, d2, d3] }
  | _ => none }
def hierarchyReadsRow : OpenClaim := { program := "ytmlkgaiphpimiaadoor", sum := "b99a08ff91eb6520b10c1433df4ab9581dc6f7b246bbf7d601688288b09d25b8", func := "arbac/arbaclaw10.HierarchyReads", spec := "hierarchyReads", unfollowed := true, recurses := true, named := ["math/bits.deBruijn64tab"], apart := false, laid := [("math/bits.deBruijn64tab", laid_math_bits_deBruijn64tab)] }
def HierarchyReadsSaid : Prop := hierarchyReadsRow.holds Tryd.pinned (OpenSpec.ofChange hierarchyReadsSpec)

/-- ITS FALSE NEIGHBOUR: 'it returns false'. Refute it at one input. -/
def hierarchyReadsWrong : ChangeSpec := { name := "hierarchyReads", fn := fun _ => fun
  | [d1, d2, d3] => { results := [.lit (.bool false)], args := [d1, d2, d3] }
  | _ => none }
def HierarchyReadsWrongFalsely : Prop := hierarchyReadsRow.holds Tryd.pinned (OpenSpec.ofChange hierarchyReadsWrong)

/-- 'arbaclaw10.HierarchyBytes': WHATEVER THE INPUT: true; the input reads as it did. -/
def hierarchyBytesSpec : ChangeSpec := { name := "hierarchyBytes", fn := fun _ => fun
  | [d1, d2, d3] => { results := [.lit (.bool true)], args := [d1, d2, d3] }
  | _ => none }
def hierarchyBytesRow : OpenClaim := { program := "ytmlkgaiphpimiaadoor", sum := "b99a08ff91eb6520b10c1433df4ab9581dc6f7b246bbf7d601688288b09d25b8", func := "arbac/arbaclaw10.HierarchyBytes", spec := "hierarchyBytes", unfollowed := true, recurses := true, named := ["math/bits.deBruijn64tab"], apart := false, laid := [("math/bits.deBruijn64tab", laid_math_bits_deBruijn64tab)] }
def HierarchyBytesSaid : Prop := hierarchyBytesRow.holds Tryd.pinned (OpenSpec.ofChange hierarchyBytesSpec)

/-- ITS FALSE NEIGHBOUR: 'it returns false'. Refute it at one input. -/
def hierarchyBytesWrong : ChangeSpec := { name := "hierarchyBytes", fn := fun _ => fun
  | [d1, d2, d3] => { results := [.lit (.bool false)], args := [d1, d2, d3] }
  | _ => none }
def HierarchyBytesWrongFalsely : Prop := hierarchyBytesRow.holds Tryd.pinned (OpenSpec.ofChange hierarchyBytesWrong)

/- THE SECOND FORM. 'bulk': how many values and letters a reading holds, each counted each time it is reached (what is shared counts as often as it is met; a slice's spare places count too). A statement '..UptoSaid' is the law's where the arguments, and the package variables that the reading takes, are together of bulk at most 1048576: NARROWER than '..Said'. Prove '..Said' where nothing that the law and all that it calls make is longer than what came in: it says more and counts as full. Else prove '..UptoSaid'. A law counts once. -/
mutual
def uptoBulk {H : Type} : DataW H → Nat
  | .lit (.string bytes) => bytes.length + 1
  | .lit _ => 1
  | .nil => 1
  | .ptr d => uptoBulk d + 1
  | .slice elems spare => uptoBulkAll elems + uptoBulkAll spare + 1
  | .agg parts => uptoBulkAll parts + 1
  | .iface _ d => uptoBulk d + 1
  | .map entries => uptoBulkEntries entries + 1
  | .held _ => 1
def uptoBulkAll {H : Type} : List (DataW H) → Nat
  | [] => 0
  | d :: r => uptoBulk d + uptoBulkAll r
def uptoBulkEntries {H : Type} : List (Lit × DataW H) → Nat
  | [] => 0
  | x :: r => uptoBulkEntry x + uptoBulkEntries r
def uptoBulkEntry {H : Type} : Lit × DataW H → Nat
  | (.string bytes, d) => bytes.length + uptoBulk d + 1
  | (_, d) => uptoBulk d + 1
 end
def uptoSmall : (H : Type) → List (DataW H) → Bool := fun _ ds => decide (uptoBulkAll ds ≤ 1048576)
def OpenSpec.upto (s : _root_.Go.ChangeSpec) : _root_.Go.OpenSpec := { _root_.Go.OpenSpec.ofChange s with cond := some uptoSmall }

/-- 'arbaclaw10.HierarchyImplies', WHERE WHAT IT READS IS OF BULK AT MOST 1048576: true; the input reads as it did. -/
def hierarchyImpliesUptoRow : OpenClaim := { program := "ytmlkgaiphpimiaadoor", sum := "b99a08ff91eb6520b10c1433df4ab9581dc6f7b246bbf7d601688288b09d25b8", func := "arbac/arbaclaw10.HierarchyImplies", spec := "hierarchyImplies", unfollowed := true, recurses := true, named := ["math/bits.deBruijn64tab"], apart := false, laid := [("math/bits.deBruijn64tab", laid_math_bits_deBruijn64tab)], narrowed := true }
def HierarchyImpliesUptoSaid : Prop := hierarchyImpliesUptoRow.holds Tryd.pinned (OpenSpec.upto hierarchyImpliesSpec)

/-- 'arbaclaw10.HierarchyChains', WHERE WHAT IT READS IS OF BULK AT MOST 1048576: true; the input reads as it did. -/
def hierarchyChainsUptoRow : OpenClaim := { program := "ytmlkgaiphpimiaadoor", sum := "b99a08ff91eb6520b10c1433df4ab9581dc6f7b246bbf7d601688288b09d25b8", func := "arbac/arbaclaw10.HierarchyChains", spec := "hierarchyChains", unfollowed := true, recurses := true, named := ["math/bits.deBruijn64tab"], apart := false, laid := [("math/bits.deBruijn64tab", laid_math_bits_deBruijn64tab)], narrowed := true }
def HierarchyChainsUptoSaid : Prop := hierarchyChainsUptoRow.holds Tryd.pinned (OpenSpec.upto hierarchyChainsSpec)

/-- 'arbaclaw10.HierarchyOrders', WHERE WHAT IT READS IS OF BULK AT MOST 1048576: true; the input reads as it did. -/
def hierarchyOrdersUptoRow : OpenClaim := { program := "ytmlkgaiphpimiaadoor", sum := "b99a08ff91eb6520b10c1433df4ab9581dc6f7b246bbf7d601688288b09d25b8", func := "arbac/arbaclaw10.HierarchyOrders", spec := "hierarchyOrders", unfollowed := true, recurses := true, named := ["math/bits.deBruijn64tab"], apart := false, laid := [("math/bits.deBruijn64tab", laid_math_bits_deBruijn64tab)], narrowed := true }
def HierarchyOrdersUptoSaid : Prop := hierarchyOrdersUptoRow.holds Tryd.pinned (OpenSpec.upto hierarchyOrdersSpec)

/-- 'arbaclaw10.HierarchyLinks', WHERE WHAT IT READS IS OF BULK AT MOST 1048576: true; the input reads as it did. -/
def hierarchyLinksUptoRow : OpenClaim := { program := "ytmlkgaiphpimiaadoor", sum := "b99a08ff91eb6520b10c1433df4ab9581dc6f7b246bbf7d601688288b09d25b8", func := "arbac/arbaclaw10.HierarchyLinks", spec := "hierarchyLinks", unfollowed := true, recurses := true, named := ["math/bits.deBruijn64tab"], apart := false, laid := [("math/bits.deBruijn64tab", laid_math_bits_deBruijn64tab)], narrowed := true }
def HierarchyLinksUptoSaid : Prop := hierarchyLinksUptoRow.holds Tryd.pinned (OpenSpec.upto hierarchyLinksSpec)

/-- 'arbaclaw10.HierarchyRedundant', WHERE WHAT IT READS IS OF BULK AT MOST 1048576: true; the input reads as it did. -/
def hierarchyRedundantUptoRow : OpenClaim := { program := "ytmlkgaiphpimiaadoor", sum := "b99a08ff91eb6520b10c1433df4ab9581dc6f7b246bbf7d601688288b09d25b8", func := "arbac/arbaclaw10.HierarchyRedundant", spec := "hierarchyRedundant", unfollowed := true, recurses := true, named := ["math/bits.deBruijn64tab"], apart := false, laid := [("math/bits.deBruijn64tab", laid_math_bits_deBruijn64tab)], narrowed := true }
def HierarchyRedundantUptoSaid : Prop := hierarchyRedundantUptoRow.holds Tryd.pinned (OpenSpec.upto hierarchyRedundantSpec)

/-- 'arbaclaw10.HierarchySets', WHERE WHAT IT READS IS OF BULK AT MOST 1048576: true; the input reads as it did. -/
def hierarchySetsUptoRow : OpenClaim := { program := "ytmlkgaiphpimiaadoor", sum := "b99a08ff91eb6520b10c1433df4ab9581dc6f7b246bbf7d601688288b09d25b8", func := "arbac/arbaclaw10.HierarchySets", spec := "hierarchySets", unfollowed := true, recurses := true, named := ["math/bits.deBruijn64tab"], apart := false, laid := [("math/bits.deBruijn64tab", laid_math_bits_deBruijn64tab)], narrowed := true }
def HierarchySetsUptoSaid : Prop := hierarchySetsUptoRow.holds Tryd.pinned (OpenSpec.upto hierarchySetsSpec)

/-- 'arbaclaw10.HierarchyCloses', WHERE WHAT IT READS IS OF BULK AT MOST 1048576: true; the input reads as it did. -/
def hierarchyClosesUptoRow : OpenClaim := { program := "ytmlkgaiphpimiaadoor", sum := "b99a08ff91eb6520b10c1433df4ab9581dc6f7b246bbf7d601688288b09d25b8", func := "arbac/arbaclaw10.HierarchyCloses", spec := "hierarchyCloses", unfollowed := true, recurses := true, named := ["math/bits.deBruijn64tab"], apart := false, laid := [("math/bits.deBruijn64tab", laid_math_bits_deBruijn64tab)], narrowed := true }
def HierarchyClosesUptoSaid : Prop := hierarchyClosesUptoRow.holds Tryd.pinned (OpenSpec.upto hierarchyClosesSpec)

/-- 'arbaclaw10.HierarchyKeeps', WHERE WHAT IT READS IS OF BULK AT MOST 1048576: true; the input reads as it did. -/
def hierarchyKeepsUptoRow : OpenClaim := { program := "ytmlkgaiphpimiaadoor", sum := "b99a08ff91eb6520b10c1433df4ab9581dc6f7b246bbf7d601688288b09d25b8", func := "arbac/arbaclaw10.HierarchyKeeps", spec := "hierarchyKeeps", unfollowed := true, recurses := true, named := ["math/bits.deBruijn64tab"], apart := false, laid := [("math/bits.deBruijn64tab", laid_math_bits_deBruijn64tab)], narrowed := true }
def HierarchyKeepsUptoSaid : Prop := hierarchyKeepsUptoRow.holds Tryd.pinned (OpenSpec.upto hierarchyKeepsSpec)

/-- 'arbaclaw10.HierarchyReads', WHERE WHAT IT READS IS OF BULK AT MOST 1048576: true; the input reads as it did. -/
def hierarchyReadsUptoRow : OpenClaim := { program := "ytmlkgaiphpimiaadoor", sum := "b99a08ff91eb6520b10c1433df4ab9581dc6f7b246bbf7d601688288b09d25b8", func := "arbac/arbaclaw10.HierarchyReads", spec := "hierarchyReads", unfollowed := true, recurses := true, named := ["math/bits.deBruijn64tab"], apart := false, laid := [("math/bits.deBruijn64tab", laid_math_bits_deBruijn64tab)], narrowed := true }
def HierarchyReadsUptoSaid : Prop := hierarchyReadsUptoRow.holds Tryd.pinned (OpenSpec.upto hierarchyReadsSpec)

/-- 'arbaclaw10.HierarchyBytes', WHERE WHAT IT READS IS OF BULK AT MOST 1048576: true; the input reads as it did. -/
def hierarchyBytesUptoRow : OpenClaim := { program := "ytmlkgaiphpimiaadoor", sum := "b99a08ff91eb6520b10c1433df4ab9581dc6f7b246bbf7d601688288b09d25b8", func := "arbac/arbaclaw10.HierarchyBytes", spec := "hierarchyBytes", unfollowed := true, recurses := true, named := ["math/bits.deBruijn64tab"], apart := false, laid := [("math/bits.deBruijn64tab", laid_math_bits_deBruijn64tab)], narrowed := true }
def HierarchyBytesUptoSaid : Prop := hierarchyBytesUptoRow.holds Tryd.pinned (OpenSpec.upto hierarchyBytesSpec)

end Rows
end Go.Proofs.YtmlkgaiphpimiaaDoor
