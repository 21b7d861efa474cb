/-
  DERIVED. GIVEN WITH THE SEED: THE CARDS: each row of YtegmldndflfohaaGreatDoorRows.lean that lists a variable, with what it lists TIED to the program's text (the seventh form; the later family's looks); each row that meets fmt, with fmt's text TOLD by the authors' own Lean function (tested against real Go, not proved from fmt's source: count such statements apart). THE CARD IS WHAT COUNTS. Prove the row's statement (the work); the ties are given (YtegmldndflfohaaGreatDoorTie.lean); close each card by the builder's one call (the guide's Derived/Test/ToyasCard.lean, 'card_holds'). Laid BY PROGRAM, IN A SANDBOX (cutbox-door.mjs). By AI agents, Wed Nov 11 2026. No macro, syntax, notation, axiom, sorry.
-/
import Derived.Test.YtegmldndflfohaaGreatDoorRows
import GoSem.ClaimSeven
namespace Go.Proofs.YtegmldndflfohaaGreatDoor
namespace Rows

/-- THE TIED CARD OF 'refitlaw24.PlanLeaves'. -/
def planLeavesCard : Claim7 := { stood := { row := planLeavesRow, standIns := [], harness := (true, "32172857d4d7c4636224c623acaba3d225a456496e60473123294fcca098e01a"), looks := true }, kinds := [], alts := [], laidByText := true, laidKinds := [.data, .data, .data, .data, .sentinel, .sentinel, .pinned], laidTests := true, laidLooks := .later }
def PlanLeavesCardSaid : Prop := Claim7.holds Tryz.pinned (.plain (OpenSpec.ofChange planLeavesSpec)) planLeavesCard

/-- THE SECOND FORM's CARD OF 'refitlaw24.PlanLeaves'. -/
def planLeavesUptoCard : Claim7 := { stood := { row := planLeavesUptoRow, standIns := [], harness := (true, "32172857d4d7c4636224c623acaba3d225a456496e60473123294fcca098e01a"), looks := true }, kinds := [], alts := [], laidByText := true, laidKinds := [.data, .data, .data, .data, .sentinel, .sentinel, .pinned], laidTests := true, laidLooks := .later }
def PlanLeavesUptoCardSaid : Prop := Claim7.holds Tryz.pinned (.plain (OpenSpec.upto planLeavesSpec)) planLeavesUptoCard
end Rows
end Go.Proofs.YtegmldndflfohaaGreatDoor
