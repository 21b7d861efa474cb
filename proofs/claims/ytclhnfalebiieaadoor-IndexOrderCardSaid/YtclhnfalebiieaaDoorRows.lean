/-
  NARROWER THAN 'FOR EVERY INPUT', by the rows' own cells (each row's printed sentence says how): KeysPuts: laid · KeysGets: laid · KeysOrder: laid · KeysAbove: laid · KeysJoin: laid · IndexSpans: laid · IndexOrder: laid.
  DERIVED. THE GIVEN ROWS OF THIS SEAT. 7 by the template 'for every input the law returns true; each argument reads behind the call as it read before'; 0 by the template 'total and deterministic' (their statements: YtclhnfalebiieaaDoorTotals.lean).
  GIVEN WITH THE SEED: the statements are not yours to turn. If you find one false, say at which input.
  Laid BY PROGRAM, IN A SANDBOX (cutbox-rows.mjs): the forced cells as the released guide's own fill.sh prints them over the translation 588600cabc65e666… (all of the seat's roots in one cut). By AI agents, Wed Nov 11 2026. No macro, syntax, notation, axiom, sorry.
-/
import Derived.Test.YtclhnfalebiieaaDoorChecked
import GoSem.PinnedTables
import GoSem.Claim
import GoSem.ClaimJoined
import GoSem.ClaimMapViews
import Derived.JoinedTies
import Derived.KernelRfl
namespace Go.Proofs.YtclhnfalebiieaaDoor
/- THE CELL 'sum', in the pinned program and in every row, IS THE sha256 OF THE DUMP (.gsa) THAT YtclhnfalebiieaaDoorProg.lean LOADS. Nothing in Lean hashes anything: it is a label: what it is worth is what the hold of that sum in a sandbox is worth. -/
noncomputable def Tryd.pinned : Pinned := { name := "ytclhnfalebiieaadoor", sum := "588600cabc65e6663be7e6d52f7a559a31f2c40005038232d8098dc4d46083e6", checked := Tryd.checked }
namespace Rows
def none {H : Type} : Left H := { results := [], args := [] }

/- WHAT THE LISTED PACKAGE-LEVEL VARIABLES READ AS WHEN THE CALL BEGINS. Each datum BY PROGRAM (the guide's laid-datum.mjs) off the statement by which the dump's own 'gosem.cut.vars' lays the variable. In a bare row this is a premise. The card (YtclhnfalebiieaaDoorCards.lean) ties it to the program's text. -/
def laid_unicode_utf8_acceptRanges {H : Type} : DataW H := .agg [.agg [.lit (.int .u8 128), .lit (.int .u8 191)], .agg [.lit (.int .u8 160), .lit (.int .u8 191)], .agg [.lit (.int .u8 128), .lit (.int .u8 159)], .agg [.lit (.int .u8 144), .lit (.int .u8 191)], .agg [.lit (.int .u8 128), .lit (.int .u8 143)], .agg [.lit (.int .u8 0), .lit (.int .u8 0)], .agg [.lit (.int .u8 0), .lit (.int .u8 0)], .agg [.lit (.int .u8 0), .lit (.int .u8 0)], .agg [.lit (.int .u8 0), .lit (.int .u8 0)], .agg [.lit (.int .u8 0), .lit (.int .u8 0)], .agg [.lit (.int .u8 0), .lit (.int .u8 0)], .agg [.lit (.int .u8 0), .lit (.int .u8 0)], .agg [.lit (.int .u8 0), .lit (.int .u8 0)], .agg [.lit (.int .u8 0), .lit (.int .u8 0)], .agg [.lit (.int .u8 0), .lit (.int .u8 0)], .agg [.lit (.int .u8 0), .lit (.int .u8 0)]]
/-- One of Go's own tables, pinned by name: the form's constant. -/
def laid_unicode_utf8_first : DataW Unit := Go.Pinned.utf8First

/-- 'refitlaw05.KeysPuts': WHATEVER THE INPUT: true; the input reads as it did. -/
def keysPutsSpec : ChangeSpec := { name := "keysPuts", fn := fun _ => fun
  | [d] => { results := [.lit (.bool true)], args := [d] }
  | _ => none }
def keysPutsRow : OpenClaim := { program := "ytclhnfalebiieaadoor", sum := "588600cabc65e6663be7e6d52f7a559a31f2c40005038232d8098dc4d46083e6", func := "refit/refitlaw05.KeysPuts", spec := "keysPuts", named := ["unicode/utf8.first", "unicode/utf8.acceptRanges"], apart := false, laid := [("unicode/utf8.acceptRanges", laid_unicode_utf8_acceptRanges), ("unicode/utf8.first", laid_unicode_utf8_first)] }
def KeysPutsSaid : Prop := keysPutsRow.holds Tryd.pinned (OpenSpec.ofChange keysPutsSpec)

/-- ITS FALSE NEIGHBOUR: 'it returns false'. Refute it at one input. -/
def keysPutsWrong : ChangeSpec := { name := "keysPuts", fn := fun _ => fun
  | [d] => { results := [.lit (.bool false)], args := [d] }
  | _ => none }
def KeysPutsWrongFalsely : Prop := keysPutsRow.holds Tryd.pinned (OpenSpec.ofChange keysPutsWrong)

/-- 'refitlaw05.KeysGets': WHATEVER THE INPUT: true; the input reads as it did. -/
def keysGetsSpec : ChangeSpec := { name := "keysGets", fn := fun _ => fun
  | [d] => { results := [.lit (.bool true)], args := [d] }
  | _ => none }
def keysGetsRow : OpenClaim := { program := "ytclhnfalebiieaadoor", sum := "588600cabc65e6663be7e6d52f7a559a31f2c40005038232d8098dc4d46083e6", func := "refit/refitlaw05.KeysGets", spec := "keysGets", named := ["unicode/utf8.first", "unicode/utf8.acceptRanges"], apart := false, laid := [("unicode/utf8.acceptRanges", laid_unicode_utf8_acceptRanges), ("unicode/utf8.first", laid_unicode_utf8_first)] }
def KeysGetsSaid : Prop := keysGetsRow.holds Tryd.pinned (OpenSpec.ofChange keysGetsSpec)

/-- ITS FALSE NEIGHBOUR: 'it returns false'. Refute it at one input. -/
def keysGetsWrong : ChangeSpec := { name := "keysGets", fn := fun _ => fun
  | [d] => { results := [.lit (.bool false)], args := [d] }
  | _ => none }
def KeysGetsWrongFalsely : Prop := keysGetsRow.holds Tryd.pinned (OpenSpec.ofChange keysGetsWrong)

/-- 'refitlaw05.KeysOrder': WHATEVER THE INPUT: true; the input reads as it did. -/
def keysOrderSpec : ChangeSpec := { name := "keysOrder", fn := fun _ => fun
  | [d1, d2] => { results := [.lit (.bool true)], args := [d1, d2] }
  | _ => none }
def keysOrderRow : OpenClaim := { program := "ytclhnfalebiieaadoor", sum := "588600cabc65e6663be7e6d52f7a559a31f2c40005038232d8098dc4d46083e6", func := "refit/refitlaw05.KeysOrder", spec := "keysOrder", named := ["unicode/utf8.first", "unicode/utf8.acceptRanges"], apart := false, laid := [("unicode/utf8.acceptRanges", laid_unicode_utf8_acceptRanges), ("unicode/utf8.first", laid_unicode_utf8_first)] }
def KeysOrderSaid : Prop := keysOrderRow.holds Tryd.pinned (OpenSpec.ofChange keysOrderSpec)

/-- ITS FALSE NEIGHBOUR: 'it returns false'. Refute it at one input. -/
def keysOrderWrong : ChangeSpec := { name := "keysOrder", fn := fun _ => fun
  | [d1, d2] => { results := [.lit (.bool false)], args := [d1, d2] }
  | _ => none }
def KeysOrderWrongFalsely : Prop := keysOrderRow.holds Tryd.pinned (OpenSpec.ofChange keysOrderWrong)

/-- 'refitlaw05.KeysAbove': WHATEVER THE INPUT: true; the input reads as it did. -/
def keysAboveSpec : ChangeSpec := { name := "keysAbove", fn := fun _ => fun
  | [d1, d2] => { results := [.lit (.bool true)], args := [d1, d2] }
  | _ => none }
def keysAboveRow : OpenClaim := { program := "ytclhnfalebiieaadoor", sum := "588600cabc65e6663be7e6d52f7a559a31f2c40005038232d8098dc4d46083e6", func := "refit/refitlaw05.KeysAbove", spec := "keysAbove", named := ["unicode/utf8.first", "unicode/utf8.acceptRanges"], apart := false, laid := [("unicode/utf8.acceptRanges", laid_unicode_utf8_acceptRanges), ("unicode/utf8.first", laid_unicode_utf8_first)] }
def KeysAboveSaid : Prop := keysAboveRow.holds Tryd.pinned (OpenSpec.ofChange keysAboveSpec)

/-- ITS FALSE NEIGHBOUR: 'it returns false'. Refute it at one input. -/
def keysAboveWrong : ChangeSpec := { name := "keysAbove", fn := fun _ => fun
  | [d1, d2] => { results := [.lit (.bool false)], args := [d1, d2] }
  | _ => none }
def KeysAboveWrongFalsely : Prop := keysAboveRow.holds Tryd.pinned (OpenSpec.ofChange keysAboveWrong)

/-- 'refitlaw05.KeysJoin': WHATEVER THE INPUT: true; the input reads as it did. -/
def keysJoinSpec : ChangeSpec := { name := "keysJoin", fn := fun _ => fun
  | [d1, d2] => { results := [.lit (.bool true)], args := [d1, d2] }
  | _ => none }
def keysJoinRow : OpenClaim := { program := "ytclhnfalebiieaadoor", sum := "588600cabc65e6663be7e6d52f7a559a31f2c40005038232d8098dc4d46083e6", func := "refit/refitlaw05.KeysJoin", spec := "keysJoin", named := ["unicode/utf8.first", "unicode/utf8.acceptRanges"], apart := false, laid := [("unicode/utf8.acceptRanges", laid_unicode_utf8_acceptRanges), ("unicode/utf8.first", laid_unicode_utf8_first)] }
def KeysJoinSaid : Prop := keysJoinRow.holds Tryd.pinned (OpenSpec.ofChange keysJoinSpec)

/-- ITS FALSE NEIGHBOUR: 'it returns false'. Refute it at one input. -/
def keysJoinWrong : ChangeSpec := { name := "keysJoin", fn := fun _ => fun
  | [d1, d2] => { results := [.lit (.bool false)], args := [d1, d2] }
  | _ => none }
def KeysJoinWrongFalsely : Prop := keysJoinRow.holds Tryd.pinned (OpenSpec.ofChange keysJoinWrong)

/-- 'refitlaw13.IndexSpans': WHATEVER THE INPUT: true; the input reads as it did. -/
def indexSpansSpec : ChangeSpec := { name := "indexSpans", fn := fun _ => fun
  | [d1, d2, d3] => { results := [.lit (.bool true)], args := [d1, d2, d3] }
  | _ => none }
def indexSpansRow : OpenClaim := { program := "ytclhnfalebiieaadoor", sum := "588600cabc65e6663be7e6d52f7a559a31f2c40005038232d8098dc4d46083e6", func := "refit/refitlaw13.IndexSpans", spec := "indexSpans", unfollowed := true, recurses := true, named := ["unicode/utf8.first", "unicode/utf8.acceptRanges"], apart := false, laid := [("unicode/utf8.acceptRanges", laid_unicode_utf8_acceptRanges), ("unicode/utf8.first", laid_unicode_utf8_first)] }
def IndexSpansSaid : Prop := indexSpansRow.holds Tryd.pinned (OpenSpec.ofChange indexSpansSpec)

/-- ITS FALSE NEIGHBOUR: 'it returns false'. Refute it at one input. -/
def indexSpansWrong : ChangeSpec := { name := "indexSpans", fn := fun _ => fun
  | [d1, d2, d3] => { results := [.lit (.bool false)], args := [d1, d2, d3] }
  | _ => none }
def IndexSpansWrongFalsely : Prop := indexSpansRow.holds Tryd.pinned (OpenSpec.ofChange indexSpansWrong)

/-- 'refitlaw13.IndexOrder': WHATEVER THE INPUT: true; the input reads as it did. -/
def indexOrderSpec : ChangeSpec := { name := "indexOrder", fn := fun _ => fun
  | [d1, d2, d3] => { results := [.lit (.bool true)], args := [d1, d2, d3] }
  | _ => none }
def indexOrderRow : OpenClaim := { program := "ytclhnfalebiieaadoor", sum := "588600cabc65e6663be7e6d52f7a559a31f2c40005038232d8098dc4d46083e6", func := "refit/refitlaw13.IndexOrder", spec := "indexOrder", unfollowed := true, recurses := true, named := ["unicode/utf8.first", "unicode/utf8.acceptRanges"], apart := false, laid := [("unicode/utf8.acceptRanges", laid_unicode_utf8_acceptRanges), ("unicode/utf8.first", laid_unicode_utf8_first)] }
def IndexOrderSaid : Prop := indexOrderRow.holds Tryd.pinned (OpenSpec.ofChange indexOrderSpec)

/-- ITS FALSE NEIGHBOUR: 'it returns false'. Refute it at one input. -/
def indexOrderWrong : ChangeSpec := { name := "indexOrder", fn := fun _ => fun
  | [d1, d2, d3] => { results := [.lit (.bool false)], args := [d1, d2, d3] }
  | _ => none }
def IndexOrderWrongFalsely : Prop := indexOrderRow.holds Tryd.pinned (OpenSpec.ofChange indexOrderWrong)

/- THE SECOND FORM. 'bulk': how many values and letters a reading holds, each counted each time it is reached (what is shared counts as often as it is met; a slice's spare places count too). A statement '..UptoSaid' is the law's where the arguments, and the package variables that the reading takes, are together of bulk at most 1048576: NARROWER than '..Said'. Prove '..Said' where nothing that the law and all that it calls make is longer than what came in: it says more and counts as full. Else prove '..UptoSaid'. A law counts once. -/
mutual
def uptoBulk {H : Type} : DataW H → Nat
  | .lit (.string bytes) => bytes.length + 1
  | .lit _ => 1
  | .nil => 1
  | .ptr d => uptoBulk d + 1
  | .slice elems spare => uptoBulkAll elems + uptoBulkAll spare + 1
  | .agg parts => uptoBulkAll parts + 1
  | .iface _ d => uptoBulk d + 1
  | .map entries => uptoBulkEntries entries + 1
  | .held _ => 1
def uptoBulkAll {H : Type} : List (DataW H) → Nat
  | [] => 0
  | d :: r => uptoBulk d + uptoBulkAll r
def uptoBulkEntries {H : Type} : List (Lit × DataW H) → Nat
  | [] => 0
  | x :: r => uptoBulkEntry x + uptoBulkEntries r
def uptoBulkEntry {H : Type} : Lit × DataW H → Nat
  | (.string bytes, d) => bytes.length + uptoBulk d + 1
  | (_, d) => uptoBulk d + 1
 end
def uptoSmall : (H : Type) → List (DataW H) → Bool := fun _ ds => decide (uptoBulkAll ds ≤ 1048576)
def OpenSpec.upto (s : _root_.Go.ChangeSpec) : _root_.Go.OpenSpec := { _root_.Go.OpenSpec.ofChange s with cond := some uptoSmall }

/-- 'refitlaw05.KeysPuts', WHERE WHAT IT READS IS OF BULK AT MOST 1048576: true; the input reads as it did. -/
def keysPutsUptoRow : OpenClaim := { program := "ytclhnfalebiieaadoor", sum := "588600cabc65e6663be7e6d52f7a559a31f2c40005038232d8098dc4d46083e6", func := "refit/refitlaw05.KeysPuts", spec := "keysPuts", named := ["unicode/utf8.first", "unicode/utf8.acceptRanges"], apart := false, laid := [("unicode/utf8.acceptRanges", laid_unicode_utf8_acceptRanges), ("unicode/utf8.first", laid_unicode_utf8_first)], narrowed := true }
def KeysPutsUptoSaid : Prop := keysPutsUptoRow.holds Tryd.pinned (OpenSpec.upto keysPutsSpec)

/-- 'refitlaw05.KeysGets', WHERE WHAT IT READS IS OF BULK AT MOST 1048576: true; the input reads as it did. -/
def keysGetsUptoRow : OpenClaim := { program := "ytclhnfalebiieaadoor", sum := "588600cabc65e6663be7e6d52f7a559a31f2c40005038232d8098dc4d46083e6", func := "refit/refitlaw05.KeysGets", spec := "keysGets", named := ["unicode/utf8.first", "unicode/utf8.acceptRanges"], apart := false, laid := [("unicode/utf8.acceptRanges", laid_unicode_utf8_acceptRanges), ("unicode/utf8.first", laid_unicode_utf8_first)], narrowed := true }
def KeysGetsUptoSaid : Prop := keysGetsUptoRow.holds Tryd.pinned (OpenSpec.upto keysGetsSpec)

/-- 'refitlaw05.KeysOrder', WHERE WHAT IT READS IS OF BULK AT MOST 1048576: true; the input reads as it did. -/
def keysOrderUptoRow : OpenClaim := { program := "ytclhnfalebiieaadoor", sum := "588600cabc65e6663be7e6d52f7a559a31f2c40005038232d8098dc4d46083e6", func := "refit/refitlaw05.KeysOrder", spec := "keysOrder", named := ["unicode/utf8.first", "unicode/utf8.acceptRanges"], apart := false, laid := [("unicode/utf8.acceptRanges", laid_unicode_utf8_acceptRanges), ("unicode/utf8.first", laid_unicode_utf8_first)], narrowed := true }
def KeysOrderUptoSaid : Prop := keysOrderUptoRow.holds Tryd.pinned (OpenSpec.upto keysOrderSpec)

/-- 'refitlaw05.KeysAbove', WHERE WHAT IT READS IS OF BULK AT MOST 1048576: true; the input reads as it did. -/
def keysAboveUptoRow : OpenClaim := { program := "ytclhnfalebiieaadoor", sum := "588600cabc65e6663be7e6d52f7a559a31f2c40005038232d8098dc4d46083e6", func := "refit/refitlaw05.KeysAbove", spec := "keysAbove", named := ["unicode/utf8.first", "unicode/utf8.acceptRanges"], apart := false, laid := [("unicode/utf8.acceptRanges", laid_unicode_utf8_acceptRanges), ("unicode/utf8.first", laid_unicode_utf8_first)], narrowed := true }
def KeysAboveUptoSaid : Prop := keysAboveUptoRow.holds Tryd.pinned (OpenSpec.upto keysAboveSpec)

/-- 'refitlaw05.KeysJoin', WHERE WHAT IT READS IS OF BULK AT MOST 1048576: true; the input reads as it did. -/
def keysJoinUptoRow : OpenClaim := { program := "ytclhnfalebiieaadoor", sum := "588600cabc65e6663be7e6d52f7a559a31f2c40005038232d8098dc4d46083e6", func := "refit/refitlaw05.KeysJoin", spec := "keysJoin", named := ["unicode/utf8.first", "unicode/utf8.acceptRanges"], apart := false, laid := [("unicode/utf8.acceptRanges", laid_unicode_utf8_acceptRanges), ("unicode/utf8.first", laid_unicode_utf8_first)], narrowed := true }
def KeysJoinUptoSaid : Prop := keysJoinUptoRow.holds Tryd.pinned (OpenSpec.upto keysJoinSpec)

/-- 'refitlaw13.IndexSpans', WHERE WHAT IT READS IS OF BULK AT MOST 1048576: true; the input reads as it did. -/
def indexSpansUptoRow : OpenClaim := { program := "ytclhnfalebiieaadoor", sum := "588600cabc65e6663be7e6d52f7a559a31f2c40005038232d8098dc4d46083e6", func := "refit/refitlaw13.IndexSpans", spec := "indexSpans", unfollowed := true, recurses := true, named := ["unicode/utf8.first", "unicode/utf8.acceptRanges"], apart := false, laid := [("unicode/utf8.acceptRanges", laid_unicode_utf8_acceptRanges), ("unicode/utf8.first", laid_unicode_utf8_first)], narrowed := true }
def IndexSpansUptoSaid : Prop := indexSpansUptoRow.holds Tryd.pinned (OpenSpec.upto indexSpansSpec)

/-- 'refitlaw13.IndexOrder', WHERE WHAT IT READS IS OF BULK AT MOST 1048576: true; the input reads as it did. -/
def indexOrderUptoRow : OpenClaim := { program := "ytclhnfalebiieaadoor", sum := "588600cabc65e6663be7e6d52f7a559a31f2c40005038232d8098dc4d46083e6", func := "refit/refitlaw13.IndexOrder", spec := "indexOrder", unfollowed := true, recurses := true, named := ["unicode/utf8.first", "unicode/utf8.acceptRanges"], apart := false, laid := [("unicode/utf8.acceptRanges", laid_unicode_utf8_acceptRanges), ("unicode/utf8.first", laid_unicode_utf8_first)], narrowed := true }
def IndexOrderUptoSaid : Prop := indexOrderUptoRow.holds Tryd.pinned (OpenSpec.upto indexOrderSpec)

end Rows
end Go.Proofs.YtclhnfalebiieaaDoor
