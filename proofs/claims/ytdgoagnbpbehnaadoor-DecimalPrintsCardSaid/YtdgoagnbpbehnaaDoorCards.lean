/-
  DERIVED. GIVEN WITH THE SEED: THE CARDS: each row of YtdgoagnbpbehnaaDoorRows.lean that lists a variable, with what it lists TIED to the program's text (the seventh form; the later family's looks); each row that meets fmt, with fmt's text TOLD by the authors' own Lean function (tested against real Go, not proved from fmt's source: count such statements apart). THE CARD IS WHAT COUNTS. Prove the row's statement (the work); the ties are given (YtdgoagnbpbehnaaDoorTie.lean); close each card by the builder's one call (the guide's Derived/Test/ToyasCard.lean, 'card_holds'). Laid BY PROGRAM, IN A SANDBOX (cutbox-door.mjs). By AI agents, Wed Nov 11 2026. No macro, syntax, notation, axiom, sorry.
-/
import Derived.Test.YtdgoagnbpbehnaaDoorRows
import GoSem.ClaimSeven
namespace Go.Proofs.YtdgoagnbpbehnaaDoor
namespace Rows

/-- THE TIED CARD OF 'refitlaw02.DecimalParses'. -/
def decimalParsesCard : Claim7 := { stood := { row := decimalParsesRow, standIns := [], harness := (true, "8335c1df90663de105efba51a06397a1f796131b67638a159f219d8dc7103372"), looks := true }, kinds := [], alts := [], laidByText := true, laidKinds := [.data, .data, .data, .sentinel, .sentinel], laidTests := true, laidLooks := .later }
def DecimalParsesCardSaid : Prop := Claim7.holds Tryd.pinned (.plain (OpenSpec.ofChange decimalParsesSpec)) decimalParsesCard

/-- THE TIED CARD OF 'refitlaw02.DecimalPrints'. -/
def decimalPrintsCard : Claim7 := { stood := { row := decimalPrintsRow, standIns := [], harness := (true, "8335c1df90663de105efba51a06397a1f796131b67638a159f219d8dc7103372"), looks := true }, kinds := [], alts := [], laidByText := true, laidKinds := [.data, .data, .data, .sentinel, .sentinel], laidTests := true, laidLooks := .later }
def DecimalPrintsCardSaid : Prop := Claim7.holds Tryd.pinned (.plain (OpenSpec.ofChange decimalPrintsSpec)) decimalPrintsCard

/-- THE TIED CARD OF 'refitlaw02.DecimalScales'. -/
def decimalScalesCard : Claim7 := { stood := { row := decimalScalesRow, standIns := [], harness := (true, "8335c1df90663de105efba51a06397a1f796131b67638a159f219d8dc7103372"), looks := true }, kinds := [], alts := [], laidByText := true, laidKinds := [.data, .data, .data, .sentinel, .sentinel], laidTests := true, laidLooks := .later }
def DecimalScalesCardSaid : Prop := Claim7.holds Tryd.pinned (.plain (OpenSpec.ofChange decimalScalesSpec)) decimalScalesCard

/-- THE TIED CARD OF 'refitlaw02.DecimalTimes'. -/
def decimalTimesCard : Claim7 := { stood := { row := decimalTimesRow, standIns := [], harness := (true, "8335c1df90663de105efba51a06397a1f796131b67638a159f219d8dc7103372"), looks := true }, kinds := [], alts := [], laidByText := true, laidKinds := [.data, .data, .data, .sentinel, .sentinel], laidTests := true, laidLooks := .later }
def DecimalTimesCardSaid : Prop := Claim7.holds Tryd.pinned (.plain (OpenSpec.ofChange decimalTimesSpec)) decimalTimesCard

/-- THE TIED CARD OF 'refitlaw02.DecimalSwaps'. -/
def decimalSwapsCard : Claim7 := { stood := { row := decimalSwapsRow, standIns := [], harness := (true, "8335c1df90663de105efba51a06397a1f796131b67638a159f219d8dc7103372"), looks := true }, kinds := [], alts := [], laidByText := true, laidKinds := [.data, .data, .data, .sentinel, .sentinel], laidTests := true, laidLooks := .later }
def DecimalSwapsCardSaid : Prop := Claim7.holds Tryd.pinned (.plain (OpenSpec.ofChange decimalSwapsSpec)) decimalSwapsCard

/-- THE TIED CARD OF 'refitlaw02.DecimalSums'. -/
def decimalSumsCard : Claim7 := { stood := { row := decimalSumsRow, standIns := [], harness := (true, "8335c1df90663de105efba51a06397a1f796131b67638a159f219d8dc7103372"), looks := true }, kinds := [], alts := [], laidByText := true, laidKinds := [.data, .data, .data, .sentinel, .sentinel], laidTests := true, laidLooks := .later }
def DecimalSumsCardSaid : Prop := Claim7.holds Tryd.pinned (.plain (OpenSpec.ofChange decimalSumsSpec)) decimalSumsCard

/-- THE TIED CARD OF 'refitlaw02.DecimalCompares'. -/
def decimalComparesCard : Claim7 := { stood := { row := decimalComparesRow, standIns := [], harness := (true, "8335c1df90663de105efba51a06397a1f796131b67638a159f219d8dc7103372"), looks := true }, kinds := [], alts := [], laidByText := true, laidKinds := [.data, .data, .data, .sentinel, .sentinel], laidTests := true, laidLooks := .later }
def DecimalComparesCardSaid : Prop := Claim7.holds Tryd.pinned (.plain (OpenSpec.ofChange decimalComparesSpec)) decimalComparesCard

/-- THE TIED CARD OF 'refitlaw02.DecimalOrders'. -/
def decimalOrdersCard : Claim7 := { stood := { row := decimalOrdersRow, standIns := [], harness := (true, "8335c1df90663de105efba51a06397a1f796131b67638a159f219d8dc7103372"), looks := true }, kinds := [], alts := [], laidByText := true, laidKinds := [.data, .data, .data, .sentinel, .sentinel], laidTests := true, laidLooks := .later }
def DecimalOrdersCardSaid : Prop := Claim7.holds Tryd.pinned (.plain (OpenSpec.ofChange decimalOrdersSpec)) decimalOrdersCard

/-- THE TIED CARD OF 'refitlaw02.DecimalRests'. -/
def decimalRestsCard : Claim7 := { stood := { row := decimalRestsRow, standIns := [], harness := (true, "8335c1df90663de105efba51a06397a1f796131b67638a159f219d8dc7103372"), looks := true }, kinds := [], alts := [], laidByText := true, laidKinds := [.data, .data, .data, .sentinel, .sentinel], laidTests := true, laidLooks := .later }
def DecimalRestsCardSaid : Prop := Claim7.holds Tryd.pinned (.plain (OpenSpec.ofChange decimalRestsSpec)) decimalRestsCard

/-- THE SECOND FORM's CARD OF 'refitlaw02.DecimalParses'. -/
def decimalParsesUptoCard : Claim7 := { stood := { row := decimalParsesUptoRow, standIns := [], harness := (true, "8335c1df90663de105efba51a06397a1f796131b67638a159f219d8dc7103372"), looks := true }, kinds := [], alts := [], laidByText := true, laidKinds := [.data, .data, .data, .sentinel, .sentinel], laidTests := true, laidLooks := .later }
def DecimalParsesUptoCardSaid : Prop := Claim7.holds Tryd.pinned (.plain (OpenSpec.upto decimalParsesSpec)) decimalParsesUptoCard

/-- THE SECOND FORM's CARD OF 'refitlaw02.DecimalPrints'. -/
def decimalPrintsUptoCard : Claim7 := { stood := { row := decimalPrintsUptoRow, standIns := [], harness := (true, "8335c1df90663de105efba51a06397a1f796131b67638a159f219d8dc7103372"), looks := true }, kinds := [], alts := [], laidByText := true, laidKinds := [.data, .data, .data, .sentinel, .sentinel], laidTests := true, laidLooks := .later }
def DecimalPrintsUptoCardSaid : Prop := Claim7.holds Tryd.pinned (.plain (OpenSpec.upto decimalPrintsSpec)) decimalPrintsUptoCard

/-- THE SECOND FORM's CARD OF 'refitlaw02.DecimalScales'. -/
def decimalScalesUptoCard : Claim7 := { stood := { row := decimalScalesUptoRow, standIns := [], harness := (true, "8335c1df90663de105efba51a06397a1f796131b67638a159f219d8dc7103372"), looks := true }, kinds := [], alts := [], laidByText := true, laidKinds := [.data, .data, .data, .sentinel, .sentinel], laidTests := true, laidLooks := .later }
def DecimalScalesUptoCardSaid : Prop := Claim7.holds Tryd.pinned (.plain (OpenSpec.upto decimalScalesSpec)) decimalScalesUptoCard

/-- THE SECOND FORM's CARD OF 'refitlaw02.DecimalTimes'. -/
def decimalTimesUptoCard : Claim7 := { stood := { row := decimalTimesUptoRow, standIns := [], harness := (true, "8335c1df90663de105efba51a06397a1f796131b67638a159f219d8dc7103372"), looks := true }, kinds := [], alts := [], laidByText := true, laidKinds := [.data, .data, .data, .sentinel, .sentinel], laidTests := true, laidLooks := .later }
def DecimalTimesUptoCardSaid : Prop := Claim7.holds Tryd.pinned (.plain (OpenSpec.upto decimalTimesSpec)) decimalTimesUptoCard

/-- THE SECOND FORM's CARD OF 'refitlaw02.DecimalSwaps'. -/
def decimalSwapsUptoCard : Claim7 := { stood := { row := decimalSwapsUptoRow, standIns := [], harness := (true, "8335c1df90663de105efba51a06397a1f796131b67638a159f219d8dc7103372"), looks := true }, kinds := [], alts := [], laidByText := true, laidKinds := [.data, .data, .data, .sentinel, .sentinel], laidTests := true, laidLooks := .later }
def DecimalSwapsUptoCardSaid : Prop := Claim7.holds Tryd.pinned (.plain (OpenSpec.upto decimalSwapsSpec)) decimalSwapsUptoCard

/-- THE SECOND FORM's CARD OF 'refitlaw02.DecimalSums'. -/
def decimalSumsUptoCard : Claim7 := { stood := { row := decimalSumsUptoRow, standIns := [], harness := (true, "8335c1df90663de105efba51a06397a1f796131b67638a159f219d8dc7103372"), looks := true }, kinds := [], alts := [], laidByText := true, laidKinds := [.data, .data, .data, .sentinel, .sentinel], laidTests := true, laidLooks := .later }
def DecimalSumsUptoCardSaid : Prop := Claim7.holds Tryd.pinned (.plain (OpenSpec.upto decimalSumsSpec)) decimalSumsUptoCard

/-- THE SECOND FORM's CARD OF 'refitlaw02.DecimalCompares'. -/
def decimalComparesUptoCard : Claim7 := { stood := { row := decimalComparesUptoRow, standIns := [], harness := (true, "8335c1df90663de105efba51a06397a1f796131b67638a159f219d8dc7103372"), looks := true }, kinds := [], alts := [], laidByText := true, laidKinds := [.data, .data, .data, .sentinel, .sentinel], laidTests := true, laidLooks := .later }
def DecimalComparesUptoCardSaid : Prop := Claim7.holds Tryd.pinned (.plain (OpenSpec.upto decimalComparesSpec)) decimalComparesUptoCard

/-- THE SECOND FORM's CARD OF 'refitlaw02.DecimalOrders'. -/
def decimalOrdersUptoCard : Claim7 := { stood := { row := decimalOrdersUptoRow, standIns := [], harness := (true, "8335c1df90663de105efba51a06397a1f796131b67638a159f219d8dc7103372"), looks := true }, kinds := [], alts := [], laidByText := true, laidKinds := [.data, .data, .data, .sentinel, .sentinel], laidTests := true, laidLooks := .later }
def DecimalOrdersUptoCardSaid : Prop := Claim7.holds Tryd.pinned (.plain (OpenSpec.upto decimalOrdersSpec)) decimalOrdersUptoCard

/-- THE SECOND FORM's CARD OF 'refitlaw02.DecimalRests'. -/
def decimalRestsUptoCard : Claim7 := { stood := { row := decimalRestsUptoRow, standIns := [], harness := (true, "8335c1df90663de105efba51a06397a1f796131b67638a159f219d8dc7103372"), looks := true }, kinds := [], alts := [], laidByText := true, laidKinds := [.data, .data, .data, .sentinel, .sentinel], laidTests := true, laidLooks := .later }
def DecimalRestsUptoCardSaid : Prop := Claim7.holds Tryd.pinned (.plain (OpenSpec.upto decimalRestsSpec)) decimalRestsUptoCard
end Rows
end Go.Proofs.YtdgoagnbpbehnaaDoor
