/-
  DERIVED. GIVEN WITH THE SEED: THE CARDS: each row of YtelckbphbkebkaaGreatDoorRows.lean that lists a variable, with what it lists TIED to the program's text (the seventh form; the later family's looks); each row that meets fmt, with fmt's text TOLD by the authors' own Lean function (tested against real Go, not proved from fmt's source: count such statements apart). THE CARD IS WHAT COUNTS. Prove the row's statement (the work); the ties are given (YtelckbphbkebkaaGreatDoorTie.lean); close each card by the builder's one call (the guide's Derived/Test/ToyasCard.lean, 'card_holds'). Laid BY PROGRAM, IN A SANDBOX (cutbox-door.mjs). By AI agents, Wed Nov 11 2026. No macro, syntax, notation, axiom, sorry.
-/
import Derived.Test.YtelckbphbkebkaaGreatDoorRows
import GoSem.ClaimSeven
namespace Go.Proofs.YtelckbphbkebkaaGreatDoor
namespace Rows

/-- THE TIED CARD OF 'refitlaw22.EvalLogic'. -/
def evalLogicCard : Claim7 := { stood := { row := evalLogicRow, standIns := [], harness := (true, "06261d745fb47abb41829999bc4d41a10b7da1e21a2d7872cc69ffe1bcd7f5db"), looks := true }, kinds := [], alts := [], laidByText := true, laidKinds := [.data, .data, .data, .data, .sentinel, .sentinel, .pinned], laidTests := true, laidLooks := .later }
def EvalLogicCardSaid : Prop := Claim7.holds Tryz.pinned (.plain (OpenSpec.ofChange evalLogicSpec)) evalLogicCard

/-- THE TIED CARD OF 'refitlaw22.EvalCompares'. -/
def evalComparesCard : Claim7 := { stood := { row := evalComparesRow, standIns := [], harness := (true, "06261d745fb47abb41829999bc4d41a10b7da1e21a2d7872cc69ffe1bcd7f5db"), looks := true }, kinds := [], alts := [], laidByText := true, laidKinds := [.data, .data, .data, .data, .sentinel, .sentinel, .pinned], laidTests := true, laidLooks := .later }
def EvalComparesCardSaid : Prop := Claim7.holds Tryz.pinned (.plain (OpenSpec.ofChange evalComparesSpec)) evalComparesCard

/-- THE TIED CARD OF 'refitlaw22.EvalLists'. -/
def evalListsCard : Claim7 := { stood := { row := evalListsRow, standIns := [], harness := (true, "06261d745fb47abb41829999bc4d41a10b7da1e21a2d7872cc69ffe1bcd7f5db"), looks := true }, kinds := [], alts := [], laidByText := true, laidKinds := [.data, .data, .data, .data, .sentinel, .sentinel, .pinned], laidTests := true, laidLooks := .later }
def EvalListsCardSaid : Prop := Claim7.holds Tryz.pinned (.plain (OpenSpec.ofChange evalListsSpec)) evalListsCard

/-- THE TIED CARD OF 'refitlaw24.PlanQuiet'. -/
def planQuietCard : Claim7 := { stood := { row := planQuietRow, standIns := [], harness := (true, "06261d745fb47abb41829999bc4d41a10b7da1e21a2d7872cc69ffe1bcd7f5db"), looks := true }, kinds := [], alts := [], laidByText := true, laidKinds := [.data, .data, .data, .data, .sentinel, .sentinel, .pinned], laidTests := true, laidLooks := .later }
def PlanQuietCardSaid : Prop := Claim7.holds Tryz.pinned (.plain (OpenSpec.ofChange planQuietSpec)) planQuietCard

/-- THE SECOND FORM's CARD OF 'refitlaw22.EvalLogic'. -/
def evalLogicUptoCard : Claim7 := { stood := { row := evalLogicUptoRow, standIns := [], harness := (true, "06261d745fb47abb41829999bc4d41a10b7da1e21a2d7872cc69ffe1bcd7f5db"), looks := true }, kinds := [], alts := [], laidByText := true, laidKinds := [.data, .data, .data, .data, .sentinel, .sentinel, .pinned], laidTests := true, laidLooks := .later }
def EvalLogicUptoCardSaid : Prop := Claim7.holds Tryz.pinned (.plain (OpenSpec.upto evalLogicSpec)) evalLogicUptoCard

/-- THE SECOND FORM's CARD OF 'refitlaw22.EvalCompares'. -/
def evalComparesUptoCard : Claim7 := { stood := { row := evalComparesUptoRow, standIns := [], harness := (true, "06261d745fb47abb41829999bc4d41a10b7da1e21a2d7872cc69ffe1bcd7f5db"), looks := true }, kinds := [], alts := [], laidByText := true, laidKinds := [.data, .data, .data, .data, .sentinel, .sentinel, .pinned], laidTests := true, laidLooks := .later }
def EvalComparesUptoCardSaid : Prop := Claim7.holds Tryz.pinned (.plain (OpenSpec.upto evalComparesSpec)) evalComparesUptoCard

/-- THE SECOND FORM's CARD OF 'refitlaw22.EvalLists'. -/
def evalListsUptoCard : Claim7 := { stood := { row := evalListsUptoRow, standIns := [], harness := (true, "06261d745fb47abb41829999bc4d41a10b7da1e21a2d7872cc69ffe1bcd7f5db"), looks := true }, kinds := [], alts := [], laidByText := true, laidKinds := [.data, .data, .data, .data, .sentinel, .sentinel, .pinned], laidTests := true, laidLooks := .later }
def EvalListsUptoCardSaid : Prop := Claim7.holds Tryz.pinned (.plain (OpenSpec.upto evalListsSpec)) evalListsUptoCard

/-- THE SECOND FORM's CARD OF 'refitlaw24.PlanQuiet'. -/
def planQuietUptoCard : Claim7 := { stood := { row := planQuietUptoRow, standIns := [], harness := (true, "06261d745fb47abb41829999bc4d41a10b7da1e21a2d7872cc69ffe1bcd7f5db"), looks := true }, kinds := [], alts := [], laidByText := true, laidKinds := [.data, .data, .data, .data, .sentinel, .sentinel, .pinned], laidTests := true, laidLooks := .later }
def PlanQuietUptoCardSaid : Prop := Claim7.holds Tryz.pinned (.plain (OpenSpec.upto planQuietSpec)) planQuietUptoCard
end Rows
end Go.Proofs.YtelckbphbkebkaaGreatDoor
