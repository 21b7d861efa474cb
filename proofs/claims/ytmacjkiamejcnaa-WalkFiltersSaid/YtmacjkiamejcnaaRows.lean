/-
  No cell of these rows narrows 'for every input' (looked for: loops, veiled, ifaces, maps, wideKeys, modest, calm, conditions, laid).
  DERIVED. THE GIVEN ROWS OF THIS SEAT. 7 by the template 'for every input the law returns true; each argument reads behind the call as it read before'; 0 by the template 'total and deterministic' (their statements: YtmacjkiamejcnaaTotals.lean).
  GIVEN WITH THE SEED: the statements are not yours to turn. If you find one false, say at which input.
  Laid BY PROGRAM, IN A SANDBOX (cutbox-rows.mjs): the forced cells as the released guide's own fill.sh prints them over the translation da77a03158515635… (all of the seat's roots in one cut). By AI agents, Wed Nov 11 2026. No macro, syntax, notation, axiom, sorry.
-/
import Derived.Test.YtmacjkiamejcnaaChecked
import GoSem.Claim
import GoSem.ClaimJoined
import GoSem.ClaimMapViews
import Derived.JoinedTies
import Derived.KernelRfl
namespace Go.Proofs.Ytmacjkiamejcnaa
/- THE CELL 'sum', in the pinned program and in every row, IS THE sha256 OF THE DUMP (.gsa) THAT YtmacjkiamejcnaaProg.lean LOADS. Nothing in Lean hashes anything: it is a label: what it is worth is what the hold of that sum in a sandbox is worth. -/
noncomputable def Try.pinned : Pinned := { name := "ytmacjkiamejcnaa", sum := "da77a03158515635dd00c4855fab2243c79d5b2cc90a6ff7044505737a96784a", checked := Try.checked }
namespace Rows
def none {H : Type} : Left H := { results := [], args := [] }

/-- 'refitlaw09.WalkTrees': WHATEVER THE INPUT: true; the input reads as it did. -/
def walkTreesSpec : ChangeSpec := { name := "walkTrees", fn := fun _ => fun
  | [d1, d2, d3] => { results := [.lit (.bool true)], args := [d1, d2, d3] }
  | _ => none }
def walkTreesRow : OpenClaim := { program := "ytmacjkiamejcnaa", sum := "da77a03158515635dd00c4855fab2243c79d5b2cc90a6ff7044505737a96784a", func := "refit/refitlaw09.WalkTrees", spec := "walkTrees", inPlace := ["slices.overlaps[string]", "slices.overlaps[int]", "slices.overlaps[*refit/tree.node[int]]"], unfollowed := true, recurses := true, apart := false }
def WalkTreesSaid : Prop := walkTreesRow.holds Try.pinned (OpenSpec.ofChange walkTreesSpec)

/-- ITS FALSE NEIGHBOUR: 'it returns false'. Refute it at one input. -/
def walkTreesWrong : ChangeSpec := { name := "walkTrees", fn := fun _ => fun
  | [d1, d2, d3] => { results := [.lit (.bool false)], args := [d1, d2, d3] }
  | _ => none }
def WalkTreesWrongFalsely : Prop := walkTreesRow.holds Try.pinned (OpenSpec.ofChange walkTreesWrong)

/-- 'refitlaw09.WalkDiffs': WHATEVER THE INPUT: true; the input reads as it did. -/
def walkDiffsSpec : ChangeSpec := { name := "walkDiffs", fn := fun _ => fun
  | [d1, d2] => { results := [.lit (.bool true)], args := [d1, d2] }
  | _ => none }
def walkDiffsRow : OpenClaim := { program := "ytmacjkiamejcnaa", sum := "da77a03158515635dd00c4855fab2243c79d5b2cc90a6ff7044505737a96784a", func := "refit/refitlaw09.WalkDiffs", spec := "walkDiffs", inPlace := ["slices.overlaps[string]", "slices.overlaps[int]", "slices.overlaps[*refit/tree.node[int]]"], unfollowed := true, recurses := true, apart := false }
def WalkDiffsSaid : Prop := walkDiffsRow.holds Try.pinned (OpenSpec.ofChange walkDiffsSpec)

/-- ITS FALSE NEIGHBOUR: 'it returns false'. Refute it at one input. -/
def walkDiffsWrong : ChangeSpec := { name := "walkDiffs", fn := fun _ => fun
  | [d1, d2] => { results := [.lit (.bool false)], args := [d1, d2] }
  | _ => none }
def WalkDiffsWrongFalsely : Prop := walkDiffsRow.holds Try.pinned (OpenSpec.ofChange walkDiffsWrong)

/-- 'refitlaw09.WalkFilters': WHATEVER THE INPUT: true; the input reads as it did. -/
def walkFiltersSpec : ChangeSpec := { name := "walkFilters", fn := fun _ => fun
  | [d1, d2, d3] => { results := [.lit (.bool true)], args := [d1, d2, d3] }
  | _ => none }
def walkFiltersRow : OpenClaim := { program := "ytmacjkiamejcnaa", sum := "da77a03158515635dd00c4855fab2243c79d5b2cc90a6ff7044505737a96784a", func := "refit/refitlaw09.WalkFilters", spec := "walkFilters", inPlace := ["slices.overlaps[string]", "slices.overlaps[int]", "slices.overlaps[*refit/tree.node[int]]"], unfollowed := true, recurses := true, apart := false }
def WalkFiltersSaid : Prop := walkFiltersRow.holds Try.pinned (OpenSpec.ofChange walkFiltersSpec)

/-- ITS FALSE NEIGHBOUR: 'it returns false'. Refute it at one input. -/
def walkFiltersWrong : ChangeSpec := { name := "walkFilters", fn := fun _ => fun
  | [d1, d2, d3] => { results := [.lit (.bool false)], args := [d1, d2, d3] }
  | _ => none }
def WalkFiltersWrongFalsely : Prop := walkFiltersRow.holds Try.pinned (OpenSpec.ofChange walkFiltersWrong)

/-- 'refitlaw08.TreeOrders': WHATEVER THE INPUT: true; the input reads as it did. -/
def treeOrdersSpec : ChangeSpec := { name := "treeOrders", fn := fun _ => fun
  | [d] => { results := [.lit (.bool true)], args := [d] }
  | _ => none }
def treeOrdersRow : OpenClaim := { program := "ytmacjkiamejcnaa", sum := "da77a03158515635dd00c4855fab2243c79d5b2cc90a6ff7044505737a96784a", func := "refit/refitlaw08.TreeOrders", spec := "treeOrders", inPlace := ["slices.overlaps[string]", "slices.overlaps[int]", "slices.overlaps[*refit/tree.node[int]]"], unfollowed := true, recurses := true, apart := false }
def TreeOrdersSaid : Prop := treeOrdersRow.holds Try.pinned (OpenSpec.ofChange treeOrdersSpec)

/-- ITS FALSE NEIGHBOUR: 'it returns false'. Refute it at one input. -/
def treeOrdersWrong : ChangeSpec := { name := "treeOrders", fn := fun _ => fun
  | [d] => { results := [.lit (.bool false)], args := [d] }
  | _ => none }
def TreeOrdersWrongFalsely : Prop := treeOrdersRow.holds Try.pinned (OpenSpec.ofChange treeOrdersWrong)

/-- 'refitlaw08.TreePlays': WHATEVER THE INPUT: true; the input reads as it did. -/
def treePlaysSpec : ChangeSpec := { name := "treePlays", fn := fun _ => fun
  | [d] => { results := [.lit (.bool true)], args := [d] }
  | _ => none }
def treePlaysRow : OpenClaim := { program := "ytmacjkiamejcnaa", sum := "da77a03158515635dd00c4855fab2243c79d5b2cc90a6ff7044505737a96784a", func := "refit/refitlaw08.TreePlays", spec := "treePlays", inPlace := ["slices.overlaps[string]", "slices.overlaps[int]", "slices.overlaps[*refit/tree.node[int]]"], unfollowed := true, recurses := true, apart := false }
def TreePlaysSaid : Prop := treePlaysRow.holds Try.pinned (OpenSpec.ofChange treePlaysSpec)

/-- ITS FALSE NEIGHBOUR: 'it returns false'. Refute it at one input. -/
def treePlaysWrong : ChangeSpec := { name := "treePlays", fn := fun _ => fun
  | [d] => { results := [.lit (.bool false)], args := [d] }
  | _ => none }
def TreePlaysWrongFalsely : Prop := treePlaysRow.holds Try.pinned (OpenSpec.ofChange treePlaysWrong)

/-- 'refitlaw08.TreeShapes': WHATEVER THE INPUT: true; the input reads as it did. -/
def treeShapesSpec : ChangeSpec := { name := "treeShapes", fn := fun _ => fun
  | [d1, d2] => { results := [.lit (.bool true)], args := [d1, d2] }
  | _ => none }
def treeShapesRow : OpenClaim := { program := "ytmacjkiamejcnaa", sum := "da77a03158515635dd00c4855fab2243c79d5b2cc90a6ff7044505737a96784a", func := "refit/refitlaw08.TreeShapes", spec := "treeShapes", inPlace := ["slices.overlaps[string]", "slices.overlaps[int]", "slices.overlaps[*refit/tree.node[int]]"], unfollowed := true, recurses := true, apart := false }
def TreeShapesSaid : Prop := treeShapesRow.holds Try.pinned (OpenSpec.ofChange treeShapesSpec)

/-- ITS FALSE NEIGHBOUR: 'it returns false'. Refute it at one input. -/
def treeShapesWrong : ChangeSpec := { name := "treeShapes", fn := fun _ => fun
  | [d1, d2] => { results := [.lit (.bool false)], args := [d1, d2] }
  | _ => none }
def TreeShapesWrongFalsely : Prop := treeShapesRow.holds Try.pinned (OpenSpec.ofChange treeShapesWrong)

/-- 'refitlaw08.TreeWalks': WHATEVER THE INPUT: true; the input reads as it did. -/
def treeWalksSpec : ChangeSpec := { name := "treeWalks", fn := fun _ => fun
  | [d1, d2] => { results := [.lit (.bool true)], args := [d1, d2] }
  | _ => none }
def treeWalksRow : OpenClaim := { program := "ytmacjkiamejcnaa", sum := "da77a03158515635dd00c4855fab2243c79d5b2cc90a6ff7044505737a96784a", func := "refit/refitlaw08.TreeWalks", spec := "treeWalks", inPlace := ["slices.overlaps[string]", "slices.overlaps[int]", "slices.overlaps[*refit/tree.node[int]]"], unfollowed := true, recurses := true, apart := false }
def TreeWalksSaid : Prop := treeWalksRow.holds Try.pinned (OpenSpec.ofChange treeWalksSpec)

/-- ITS FALSE NEIGHBOUR: 'it returns false'. Refute it at one input. -/
def treeWalksWrong : ChangeSpec := { name := "treeWalks", fn := fun _ => fun
  | [d1, d2] => { results := [.lit (.bool false)], args := [d1, d2] }
  | _ => none }
def TreeWalksWrongFalsely : Prop := treeWalksRow.holds Try.pinned (OpenSpec.ofChange treeWalksWrong)

/- THE SECOND FORM. 'bulk': how many values and letters a reading holds, each counted each time it is reached (what is shared counts as often as it is met; a slice's spare places count too). A statement '..UptoSaid' is the law's where the arguments, and the package variables that the reading takes, are together of bulk at most 1048576: NARROWER than '..Said'. Prove '..Said' where nothing that the law and all that it calls make is longer than what came in: it says more and counts as full. Else prove '..UptoSaid'. A law counts once. -/
mutual
def uptoBulk {H : Type} : DataW H → Nat
  | .lit (.string bytes) => bytes.length + 1
  | .lit _ => 1
  | .nil => 1
  | .ptr d => uptoBulk d + 1
  | .slice elems spare => uptoBulkAll elems + uptoBulkAll spare + 1
  | .agg parts => uptoBulkAll parts + 1
  | .iface _ d => uptoBulk d + 1
  | .map entries => uptoBulkEntries entries + 1
  | .held _ => 1
def uptoBulkAll {H : Type} : List (DataW H) → Nat
  | [] => 0
  | d :: r => uptoBulk d + uptoBulkAll r
def uptoBulkEntries {H : Type} : List (Lit × DataW H) → Nat
  | [] => 0
  | x :: r => uptoBulkEntry x + uptoBulkEntries r
def uptoBulkEntry {H : Type} : Lit × DataW H → Nat
  | (.string bytes, d) => bytes.length + uptoBulk d + 1
  | (_, d) => uptoBulk d + 1
 end
def uptoSmall : (H : Type) → List (DataW H) → Bool := fun _ ds => decide (uptoBulkAll ds ≤ 1048576)
def OpenSpec.upto (s : _root_.Go.ChangeSpec) : _root_.Go.OpenSpec := { _root_.Go.OpenSpec.ofChange s with cond := some uptoSmall }

/-- 'refitlaw09.WalkTrees', WHERE WHAT IT READS IS OF BULK AT MOST 1048576: true; the input reads as it did. -/
def walkTreesUptoRow : OpenClaim := { program := "ytmacjkiamejcnaa", sum := "da77a03158515635dd00c4855fab2243c79d5b2cc90a6ff7044505737a96784a", func := "refit/refitlaw09.WalkTrees", spec := "walkTrees", inPlace := ["slices.overlaps[string]", "slices.overlaps[int]", "slices.overlaps[*refit/tree.node[int]]"], unfollowed := true, recurses := true, apart := false, narrowed := true }
def WalkTreesUptoSaid : Prop := walkTreesUptoRow.holds Try.pinned (OpenSpec.upto walkTreesSpec)

/-- 'refitlaw09.WalkDiffs', WHERE WHAT IT READS IS OF BULK AT MOST 1048576: true; the input reads as it did. -/
def walkDiffsUptoRow : OpenClaim := { program := "ytmacjkiamejcnaa", sum := "da77a03158515635dd00c4855fab2243c79d5b2cc90a6ff7044505737a96784a", func := "refit/refitlaw09.WalkDiffs", spec := "walkDiffs", inPlace := ["slices.overlaps[string]", "slices.overlaps[int]", "slices.overlaps[*refit/tree.node[int]]"], unfollowed := true, recurses := true, apart := false, narrowed := true }
def WalkDiffsUptoSaid : Prop := walkDiffsUptoRow.holds Try.pinned (OpenSpec.upto walkDiffsSpec)

/-- 'refitlaw09.WalkFilters', WHERE WHAT IT READS IS OF BULK AT MOST 1048576: true; the input reads as it did. -/
def walkFiltersUptoRow : OpenClaim := { program := "ytmacjkiamejcnaa", sum := "da77a03158515635dd00c4855fab2243c79d5b2cc90a6ff7044505737a96784a", func := "refit/refitlaw09.WalkFilters", spec := "walkFilters", inPlace := ["slices.overlaps[string]", "slices.overlaps[int]", "slices.overlaps[*refit/tree.node[int]]"], unfollowed := true, recurses := true, apart := false, narrowed := true }
def WalkFiltersUptoSaid : Prop := walkFiltersUptoRow.holds Try.pinned (OpenSpec.upto walkFiltersSpec)

/-- 'refitlaw08.TreeOrders', WHERE WHAT IT READS IS OF BULK AT MOST 1048576: true; the input reads as it did. -/
def treeOrdersUptoRow : OpenClaim := { program := "ytmacjkiamejcnaa", sum := "da77a03158515635dd00c4855fab2243c79d5b2cc90a6ff7044505737a96784a", func := "refit/refitlaw08.TreeOrders", spec := "treeOrders", inPlace := ["slices.overlaps[string]", "slices.overlaps[int]", "slices.overlaps[*refit/tree.node[int]]"], unfollowed := true, recurses := true, apart := false, narrowed := true }
def TreeOrdersUptoSaid : Prop := treeOrdersUptoRow.holds Try.pinned (OpenSpec.upto treeOrdersSpec)

/-- 'refitlaw08.TreePlays', WHERE WHAT IT READS IS OF BULK AT MOST 1048576: true; the input reads as it did. -/
def treePlaysUptoRow : OpenClaim := { program := "ytmacjkiamejcnaa", sum := "da77a03158515635dd00c4855fab2243c79d5b2cc90a6ff7044505737a96784a", func := "refit/refitlaw08.TreePlays", spec := "treePlays", inPlace := ["slices.overlaps[string]", "slices.overlaps[int]", "slices.overlaps[*refit/tree.node[int]]"], unfollowed := true, recurses := true, apart := false, narrowed := true }
def TreePlaysUptoSaid : Prop := treePlaysUptoRow.holds Try.pinned (OpenSpec.upto treePlaysSpec)

/-- 'refitlaw08.TreeShapes', WHERE WHAT IT READS IS OF BULK AT MOST 1048576: true; the input reads as it did. -/
def treeShapesUptoRow : OpenClaim := { program := "ytmacjkiamejcnaa", sum := "da77a03158515635dd00c4855fab2243c79d5b2cc90a6ff7044505737a96784a", func := "refit/refitlaw08.TreeShapes", spec := "treeShapes", inPlace := ["slices.overlaps[string]", "slices.overlaps[int]", "slices.overlaps[*refit/tree.node[int]]"], unfollowed := true, recurses := true, apart := false, narrowed := true }
def TreeShapesUptoSaid : Prop := treeShapesUptoRow.holds Try.pinned (OpenSpec.upto treeShapesSpec)

/-- 'refitlaw08.TreeWalks', WHERE WHAT IT READS IS OF BULK AT MOST 1048576: true; the input reads as it did. -/
def treeWalksUptoRow : OpenClaim := { program := "ytmacjkiamejcnaa", sum := "da77a03158515635dd00c4855fab2243c79d5b2cc90a6ff7044505737a96784a", func := "refit/refitlaw08.TreeWalks", spec := "treeWalks", inPlace := ["slices.overlaps[string]", "slices.overlaps[int]", "slices.overlaps[*refit/tree.node[int]]"], unfollowed := true, recurses := true, apart := false, narrowed := true }
def TreeWalksUptoSaid : Prop := treeWalksUptoRow.holds Try.pinned (OpenSpec.upto treeWalksSpec)

end Rows
end Go.Proofs.Ytmacjkiamejcnaa
