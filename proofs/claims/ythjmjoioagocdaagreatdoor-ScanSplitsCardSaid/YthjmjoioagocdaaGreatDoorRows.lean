/-
  NARROWER THAN 'FOR EVERY INPUT', by the rows' own cells (each row's printed sentence says how): ScanRows: laid · ScanSpans: laid · ScanSplits: laid · ScanValues: laid.
  DERIVED. THE GIVEN ROWS OF THIS SEAT. 4 by the template 'for every input the law returns true; each argument reads behind the call as it read before'; 0 by the template 'total and deterministic' (their statements: YthjmjoioagocdaaGreatDoorTotals.lean).
  GIVEN WITH THE SEED: the statements are not yours to turn. If you find one false, say at which input.
  Laid BY PROGRAM, IN A SANDBOX (cutbox-rows.mjs): the forced cells as the released guide's own fill.sh prints them over the translation 628b9aea1a770743… (all of the seat's roots in one cut). By AI agents, Wed Nov 11 2026. No macro, syntax, notation, axiom, sorry.
-/
import Derived.Test.YthjmjoioagocdaaGreatDoorChecked
import GoSem.PinnedTables
import GoSem.Claim
import GoSem.ClaimJoined
import GoSem.ClaimMapViews
import Derived.JoinedTies
import Derived.KernelRfl
namespace Go.Proofs.YthjmjoioagocdaaGreatDoor
/- THE CELL 'sum', in the pinned program and in every row, IS THE sha256 OF THE DUMP (.gsa) THAT YthjmjoioagocdaaGreatDoorProg.lean LOADS. Nothing in Lean hashes anything: it is a label: what it is worth is what the hold of that sum in a sandbox is worth. -/
noncomputable def Tryz.pinned : Pinned := { name := "ythjmjoioagocdaagreatdoor", sum := "628b9aea1a770743b2ede501102b3e5a2b157e7d0d6b4a105e18b20c445f4fdf", checked := Tryz.checked }
namespace Rows
def none {H : Type} : Left H := { results := [], args := [] }

/- WHAT THE LISTED PACKAGE-LEVEL VARIABLES READ AS WHEN THE CALL BEGINS. Each datum BY PROGRAM (the guide's laid-datum.mjs) off the statement by which the dump's own 'gosem.cut.vars' lays the variable. In a bare row this is a premise. The card (YthjmjoioagocdaaGreatDoorCards.lean) ties it to the program's text. -/
def laid_unicode_utf8_acceptRanges {H : Type} : DataW H := .agg [.agg [.lit (.int .u8 128), .lit (.int .u8 191)], .agg [.lit (.int .u8 160), .lit (.int .u8 191)], .agg [.lit (.int .u8 128), .lit (.int .u8 159)], .agg [.lit (.int .u8 144), .lit (.int .u8 191)], .agg [.lit (.int .u8 128), .lit (.int .u8 143)], .agg [.lit (.int .u8 0), .lit (.int .u8 0)], .agg [.lit (.int .u8 0), .lit (.int .u8 0)], .agg [.lit (.int .u8 0), .lit (.int .u8 0)], .agg [.lit (.int .u8 0), .lit (.int .u8 0)], .agg [.lit (.int .u8 0), .lit (.int .u8 0)], .agg [.lit (.int .u8 0), .lit (.int .u8 0)], .agg [.lit (.int .u8 0), .lit (.int .u8 0)], .agg [.lit (.int .u8 0), .lit (.int .u8 0)], .agg [.lit (.int .u8 0), .lit (.int .u8 0)], .agg [.lit (.int .u8 0), .lit (.int .u8 0)], .agg [.lit (.int .u8 0), .lit (.int .u8 0)]]
/-- One of Go's own tables, pinned by name: the form's constant. -/
def laid_unicode_utf8_first : DataW Unit := Go.Pinned.utf8First

/-- 'refitlaw23.ScanRows': WHATEVER THE INPUT: true; the input reads as it did. -/
def scanRowsSpec : ChangeSpec := { name := "scanRows", fn := fun _ => fun
  | [d1, d2, d3] => { results := [.lit (.bool true)], args := [d1, d2, d3] }
  | _ => none }
def scanRowsRow : OpenClaim := { program := "ythjmjoioagocdaagreatdoor", sum := "628b9aea1a770743b2ede501102b3e5a2b157e7d0d6b4a105e18b20c445f4fdf", func := "refit/refitlaw23.ScanRows", spec := "scanRows", inPlace := ["slices.overlaps[string]", "slices.overlaps[*refit/tree.node[string]]"], unfollowed := true, recurses := true, named := ["unicode/utf8.first", "unicode/utf8.acceptRanges"], apart := false, laid := [("unicode/utf8.acceptRanges", laid_unicode_utf8_acceptRanges), ("unicode/utf8.first", laid_unicode_utf8_first)] }
def ScanRowsSaid : Prop := scanRowsRow.holds Tryz.pinned (OpenSpec.ofChange scanRowsSpec)

/-- ITS FALSE NEIGHBOUR: 'it returns false'. Refute it at one input. -/
def scanRowsWrong : ChangeSpec := { name := "scanRows", fn := fun _ => fun
  | [d1, d2, d3] => { results := [.lit (.bool false)], args := [d1, d2, d3] }
  | _ => none }
def ScanRowsWrongFalsely : Prop := scanRowsRow.holds Tryz.pinned (OpenSpec.ofChange scanRowsWrong)

/-- 'refitlaw23.ScanSpans': WHATEVER THE INPUT: true; the input reads as it did. -/
def scanSpansSpec : ChangeSpec := { name := "scanSpans", fn := fun _ => fun
  | [d1, d2, d3] => { results := [.lit (.bool true)], args := [d1, d2, d3] }
  | _ => none }
def scanSpansRow : OpenClaim := { program := "ythjmjoioagocdaagreatdoor", sum := "628b9aea1a770743b2ede501102b3e5a2b157e7d0d6b4a105e18b20c445f4fdf", func := "refit/refitlaw23.ScanSpans", spec := "scanSpans", inPlace := ["slices.overlaps[string]", "slices.overlaps[*refit/tree.node[string]]"], unfollowed := true, recurses := true, named := ["unicode/utf8.first", "unicode/utf8.acceptRanges"], apart := false, laid := [("unicode/utf8.acceptRanges", laid_unicode_utf8_acceptRanges), ("unicode/utf8.first", laid_unicode_utf8_first)] }
def ScanSpansSaid : Prop := scanSpansRow.holds Tryz.pinned (OpenSpec.ofChange scanSpansSpec)

/-- ITS FALSE NEIGHBOUR: 'it returns false'. Refute it at one input. -/
def scanSpansWrong : ChangeSpec := { name := "scanSpans", fn := fun _ => fun
  | [d1, d2, d3] => { results := [.lit (.bool false)], args := [d1, d2, d3] }
  | _ => none }
def ScanSpansWrongFalsely : Prop := scanSpansRow.holds Tryz.pinned (OpenSpec.ofChange scanSpansWrong)

/-- 'refitlaw23.ScanSplits': WHATEVER THE INPUT: true; the input reads as it did. -/
def scanSplitsSpec : ChangeSpec := { name := "scanSplits", fn := fun _ => fun
  | [d1, d2, d3] => { results := [.lit (.bool true)], args := [d1, d2, d3] }
  | _ => none }
def scanSplitsRow : OpenClaim := { program := "ythjmjoioagocdaagreatdoor", sum := "628b9aea1a770743b2ede501102b3e5a2b157e7d0d6b4a105e18b20c445f4fdf", func := "refit/refitlaw23.ScanSplits", spec := "scanSplits", inPlace := ["slices.overlaps[string]", "slices.overlaps[*refit/tree.node[string]]"], unfollowed := true, recurses := true, named := ["unicode/utf8.first", "unicode/utf8.acceptRanges"], apart := false, laid := [("unicode/utf8.acceptRanges", laid_unicode_utf8_acceptRanges), ("unicode/utf8.first", laid_unicode_utf8_first)] }
def ScanSplitsSaid : Prop := scanSplitsRow.holds Tryz.pinned (OpenSpec.ofChange scanSplitsSpec)

/-- ITS FALSE NEIGHBOUR: 'it returns false'. Refute it at one input. -/
def scanSplitsWrong : ChangeSpec := { name := "scanSplits", fn := fun _ => fun
  | [d1, d2, d3] => { results := [.lit (.bool false)], args := [d1, d2, d3] }
  | _ => none }
def ScanSplitsWrongFalsely : Prop := scanSplitsRow.holds Tryz.pinned (OpenSpec.ofChange scanSplitsWrong)

/-- 'refitlaw23.ScanValues': WHATEVER THE INPUT: true; the input reads as it did. -/
def scanValuesSpec : ChangeSpec := { name := "scanValues", fn := fun _ => fun
  | [d1, d2] => { results := [.lit (.bool true)], args := [d1, d2] }
  | _ => none }
def scanValuesRow : OpenClaim := { program := "ythjmjoioagocdaagreatdoor", sum := "628b9aea1a770743b2ede501102b3e5a2b157e7d0d6b4a105e18b20c445f4fdf", func := "refit/refitlaw23.ScanValues", spec := "scanValues", inPlace := ["slices.overlaps[string]", "slices.overlaps[*refit/tree.node[string]]"], unfollowed := true, recurses := true, named := ["unicode/utf8.first", "unicode/utf8.acceptRanges"], apart := false, laid := [("unicode/utf8.acceptRanges", laid_unicode_utf8_acceptRanges), ("unicode/utf8.first", laid_unicode_utf8_first)] }
def ScanValuesSaid : Prop := scanValuesRow.holds Tryz.pinned (OpenSpec.ofChange scanValuesSpec)

/-- ITS FALSE NEIGHBOUR: 'it returns false'. Refute it at one input. -/
def scanValuesWrong : ChangeSpec := { name := "scanValues", fn := fun _ => fun
  | [d1, d2] => { results := [.lit (.bool false)], args := [d1, d2] }
  | _ => none }
def ScanValuesWrongFalsely : Prop := scanValuesRow.holds Tryz.pinned (OpenSpec.ofChange scanValuesWrong)

/- THE SECOND FORM. 'bulk': how many values and letters a reading holds, each counted each time it is reached (what is shared counts as often as it is met; a slice's spare places count too). A statement '..UptoSaid' is the law's where the arguments, and the package variables that the reading takes, are together of bulk at most 1048576: NARROWER than '..Said'. Prove '..Said' where nothing that the law and all that it calls make is longer than what came in: it says more and counts as full. Else prove '..UptoSaid'. A law counts once. -/
mutual
def uptoBulk {H : Type} : DataW H → Nat
  | .lit (.string bytes) => bytes.length + 1
  | .lit _ => 1
  | .nil => 1
  | .ptr d => uptoBulk d + 1
  | .slice elems spare => uptoBulkAll elems + uptoBulkAll spare + 1
  | .agg parts => uptoBulkAll parts + 1
  | .iface _ d => uptoBulk d + 1
  | .map entries => uptoBulkEntries entries + 1
  | .held _ => 1
def uptoBulkAll {H : Type} : List (DataW H) → Nat
  | [] => 0
  | d :: r => uptoBulk d + uptoBulkAll r
def uptoBulkEntries {H : Type} : List (Lit × DataW H) → Nat
  | [] => 0
  | x :: r => uptoBulkEntry x + uptoBulkEntries r
def uptoBulkEntry {H : Type} : Lit × DataW H → Nat
  | (.string bytes, d) => bytes.length + uptoBulk d + 1
  | (_, d) => uptoBulk d + 1
 end
def uptoSmall : (H : Type) → List (DataW H) → Bool := fun _ ds => decide (uptoBulkAll ds ≤ 1048576)
def OpenSpec.upto (s : _root_.Go.ChangeSpec) : _root_.Go.OpenSpec := { _root_.Go.OpenSpec.ofChange s with cond := some uptoSmall }

/-- 'refitlaw23.ScanRows', WHERE WHAT IT READS IS OF BULK AT MOST 1048576: true; the input reads as it did. -/
def scanRowsUptoRow : OpenClaim := { program := "ythjmjoioagocdaagreatdoor", sum := "628b9aea1a770743b2ede501102b3e5a2b157e7d0d6b4a105e18b20c445f4fdf", func := "refit/refitlaw23.ScanRows", spec := "scanRows", inPlace := ["slices.overlaps[string]", "slices.overlaps[*refit/tree.node[string]]"], unfollowed := true, recurses := true, named := ["unicode/utf8.first", "unicode/utf8.acceptRanges"], apart := false, laid := [("unicode/utf8.acceptRanges", laid_unicode_utf8_acceptRanges), ("unicode/utf8.first", laid_unicode_utf8_first)], narrowed := true }
def ScanRowsUptoSaid : Prop := scanRowsUptoRow.holds Tryz.pinned (OpenSpec.upto scanRowsSpec)

/-- 'refitlaw23.ScanSpans', WHERE WHAT IT READS IS OF BULK AT MOST 1048576: true; the input reads as it did. -/
def scanSpansUptoRow : OpenClaim := { program := "ythjmjoioagocdaagreatdoor", sum := "628b9aea1a770743b2ede501102b3e5a2b157e7d0d6b4a105e18b20c445f4fdf", func := "refit/refitlaw23.ScanSpans", spec := "scanSpans", inPlace := ["slices.overlaps[string]", "slices.overlaps[*refit/tree.node[string]]"], unfollowed := true, recurses := true, named := ["unicode/utf8.first", "unicode/utf8.acceptRanges"], apart := false, laid := [("unicode/utf8.acceptRanges", laid_unicode_utf8_acceptRanges), ("unicode/utf8.first", laid_unicode_utf8_first)], narrowed := true }
def ScanSpansUptoSaid : Prop := scanSpansUptoRow.holds Tryz.pinned (OpenSpec.upto scanSpansSpec)

/-- 'refitlaw23.ScanSplits', WHERE WHAT IT READS IS OF BULK AT MOST 1048576: true; the input reads as it did. -/
def scanSplitsUptoRow : OpenClaim := { program := "ythjmjoioagocdaagreatdoor", sum := "628b9aea1a770743b2ede501102b3e5a2b157e7d0d6b4a105e18b20c445f4fdf", func := "refit/refitlaw23.ScanSplits", spec := "scanSplits", inPlace := ["slices.overlaps[string]", "slices.overlaps[*refit/tree.node[string]]"], unfollowed := true, recurses := true, named := ["unicode/utf8.first", "unicode/utf8.acceptRanges"], apart := false, laid := [("unicode/utf8.acceptRanges", laid_unicode_utf8_acceptRanges), ("unicode/utf8.first", laid_unicode_utf8_first)], narrowed := true }
def ScanSplitsUptoSaid : Prop := scanSplitsUptoRow.holds Tryz.pinned (OpenSpec.upto scanSplitsSpec)

/-- 'refitlaw23.ScanValues', WHERE WHAT IT READS IS OF BULK AT MOST 1048576: true; the input reads as it did. -/
def scanValuesUptoRow : OpenClaim := { program := "ythjmjoioagocdaagreatdoor", sum := "628b9aea1a770743b2ede501102b3e5a2b157e7d0d6b4a105e18b20c445f4fdf", func := "refit/refitlaw23.ScanValues", spec := "scanValues", inPlace := ["slices.overlaps[string]", "slices.overlaps[*refit/tree.node[string]]"], unfollowed := true, recurses := true, named := ["unicode/utf8.first", "unicode/utf8.acceptRanges"], apart := false, laid := [("unicode/utf8.acceptRanges", laid_unicode_utf8_acceptRanges), ("unicode/utf8.first", laid_unicode_utf8_first)], narrowed := true }
def ScanValuesUptoSaid : Prop := scanValuesUptoRow.holds Tryz.pinned (OpenSpec.upto scanValuesSpec)

end Rows
end Go.Proofs.YthjmjoioagocdaaGreatDoor
