/-
  DERIVED. GIVEN WITH THE SEED: THE CARDS: each row of YtllpobcecingiaaGreatDoorRows.lean that lists a variable, with what it lists TIED to the program's text (the seventh form; the later family's looks); each row that meets fmt, with fmt's text TOLD by the authors' own Lean function (tested against real Go, not proved from fmt's source: count such statements apart). THE CARD IS WHAT COUNTS. Prove the row's statement (the work); the ties are given (YtllpobcecingiaaGreatDoorTie.lean); close each card by the builder's one call (the guide's Derived/Test/ToyasCard.lean, 'card_holds'). Laid BY PROGRAM, IN A SANDBOX (cutbox-door.mjs). By AI agents, Wed Nov 11 2026. No macro, syntax, notation, axiom, sorry.
-/
import Derived.Test.YtllpobcecingiaaGreatDoorRows
import GoSem.ClaimSeven
namespace Go.Proofs.YtllpobcecingiaaGreatDoor
namespace Rows

/-- THE TIED CARD OF 'refitlaw04.CastValues'. -/
def castValuesCard : Claim7 := { stood := { row := castValuesRow, standIns := [], harness := (true, "85ba1564fd992405f2f5f79150447d93b307526c1cb8b44118b8e12bba10e934"), looks := true }, kinds := [], alts := [], laidByText := true, laidKinds := [.data, .data, .data, .data, .sentinel, .sentinel, .pinned], laidTests := true, laidLooks := .later }
def CastValuesCardSaid : Prop := Claim7.holds Tryz.pinned (.plain (OpenSpec.ofChange castValuesSpec)) castValuesCard

/-- THE TIED CARD OF 'refitlaw22.EvalLogic'. -/
def evalLogicCard : Claim7 := { stood := { row := evalLogicRow, standIns := [], harness := (true, "85ba1564fd992405f2f5f79150447d93b307526c1cb8b44118b8e12bba10e934"), looks := true }, kinds := [], alts := [], laidByText := true, laidKinds := [.data, .data, .data, .data, .sentinel, .sentinel, .pinned], laidTests := true, laidLooks := .later }
def EvalLogicCardSaid : Prop := Claim7.holds Tryz.pinned (.plain (OpenSpec.ofChange evalLogicSpec)) evalLogicCard

/-- THE TIED CARD OF 'refitlaw22.EvalCompares'. -/
def evalComparesCard : Claim7 := { stood := { row := evalComparesRow, standIns := [], harness := (true, "85ba1564fd992405f2f5f79150447d93b307526c1cb8b44118b8e12bba10e934"), looks := true }, kinds := [], alts := [], laidByText := true, laidKinds := [.data, .data, .data, .data, .sentinel, .sentinel, .pinned], laidTests := true, laidLooks := .later }
def EvalComparesCardSaid : Prop := Claim7.holds Tryz.pinned (.plain (OpenSpec.ofChange evalComparesSpec)) evalComparesCard

/-- THE TIED CARD OF 'refitlaw22.EvalLists'. -/
def evalListsCard : Claim7 := { stood := { row := evalListsRow, standIns := [], harness := (true, "85ba1564fd992405f2f5f79150447d93b307526c1cb8b44118b8e12bba10e934"), looks := true }, kinds := [], alts := [], laidByText := true, laidKinds := [.data, .data, .data, .data, .sentinel, .sentinel, .pinned], laidTests := true, laidLooks := .later }
def EvalListsCardSaid : Prop := Claim7.holds Tryz.pinned (.plain (OpenSpec.ofChange evalListsSpec)) evalListsCard

/-- THE SECOND FORM's CARD OF 'refitlaw04.CastValues'. -/
def castValuesUptoCard : Claim7 := { stood := { row := castValuesUptoRow, standIns := [], harness := (true, "85ba1564fd992405f2f5f79150447d93b307526c1cb8b44118b8e12bba10e934"), looks := true }, kinds := [], alts := [], laidByText := true, laidKinds := [.data, .data, .data, .data, .sentinel, .sentinel, .pinned], laidTests := true, laidLooks := .later }
def CastValuesUptoCardSaid : Prop := Claim7.holds Tryz.pinned (.plain (OpenSpec.upto castValuesSpec)) castValuesUptoCard

/-- THE SECOND FORM's CARD OF 'refitlaw22.EvalLogic'. -/
def evalLogicUptoCard : Claim7 := { stood := { row := evalLogicUptoRow, standIns := [], harness := (true, "85ba1564fd992405f2f5f79150447d93b307526c1cb8b44118b8e12bba10e934"), looks := true }, kinds := [], alts := [], laidByText := true, laidKinds := [.data, .data, .data, .data, .sentinel, .sentinel, .pinned], laidTests := true, laidLooks := .later }
def EvalLogicUptoCardSaid : Prop := Claim7.holds Tryz.pinned (.plain (OpenSpec.upto evalLogicSpec)) evalLogicUptoCard

/-- THE SECOND FORM's CARD OF 'refitlaw22.EvalCompares'. -/
def evalComparesUptoCard : Claim7 := { stood := { row := evalComparesUptoRow, standIns := [], harness := (true, "85ba1564fd992405f2f5f79150447d93b307526c1cb8b44118b8e12bba10e934"), looks := true }, kinds := [], alts := [], laidByText := true, laidKinds := [.data, .data, .data, .data, .sentinel, .sentinel, .pinned], laidTests := true, laidLooks := .later }
def EvalComparesUptoCardSaid : Prop := Claim7.holds Tryz.pinned (.plain (OpenSpec.upto evalComparesSpec)) evalComparesUptoCard

/-- THE SECOND FORM's CARD OF 'refitlaw22.EvalLists'. -/
def evalListsUptoCard : Claim7 := { stood := { row := evalListsUptoRow, standIns := [], harness := (true, "85ba1564fd992405f2f5f79150447d93b307526c1cb8b44118b8e12bba10e934"), looks := true }, kinds := [], alts := [], laidByText := true, laidKinds := [.data, .data, .data, .data, .sentinel, .sentinel, .pinned], laidTests := true, laidLooks := .later }
def EvalListsUptoCardSaid : Prop := Claim7.holds Tryz.pinned (.plain (OpenSpec.upto evalListsSpec)) evalListsUptoCard
end Rows
end Go.Proofs.YtllpobcecingiaaGreatDoor
