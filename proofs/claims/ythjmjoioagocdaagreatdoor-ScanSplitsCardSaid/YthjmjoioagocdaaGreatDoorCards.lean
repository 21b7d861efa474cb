/-
  DERIVED. GIVEN WITH THE SEED: THE CARDS: each row of YthjmjoioagocdaaGreatDoorRows.lean that lists a variable, with what it lists TIED to the program's text (the seventh form; the later family's looks); each row that meets fmt, with fmt's text TOLD by the authors' own Lean function (tested against real Go, not proved from fmt's source: count such statements apart). THE CARD IS WHAT COUNTS. Prove the row's statement (the work); the ties are given (YthjmjoioagocdaaGreatDoorTie.lean); close each card by the builder's one call (the guide's Derived/Test/ToyasCard.lean, 'card_holds'). Laid BY PROGRAM, IN A SANDBOX (cutbox-door.mjs). By AI agents, Wed Nov 11 2026. No macro, syntax, notation, axiom, sorry.
-/
import Derived.Test.YthjmjoioagocdaaGreatDoorRows
import GoSem.ClaimSeven
namespace Go.Proofs.YthjmjoioagocdaaGreatDoor
namespace Rows

/-- THE TIED CARD OF 'refitlaw23.ScanRows'. -/
def scanRowsCard : Claim7 := { stood := { row := scanRowsRow, standIns := [], harness := (true, "2e63151f8ef28d97a67590d781b12f25bab0df88964ef8c65137474fc1687149"), looks := false }, kinds := [], alts := [], laidByText := true, laidKinds := [.data, .pinned], laidTests := true, laidLooks := .later }
def ScanRowsCardSaid : Prop := Claim7.holds Tryz.pinned (.plain (OpenSpec.ofChange scanRowsSpec)) scanRowsCard

/-- THE TIED CARD OF 'refitlaw23.ScanSpans'. -/
def scanSpansCard : Claim7 := { stood := { row := scanSpansRow, standIns := [], harness := (true, "2e63151f8ef28d97a67590d781b12f25bab0df88964ef8c65137474fc1687149"), looks := false }, kinds := [], alts := [], laidByText := true, laidKinds := [.data, .pinned], laidTests := true, laidLooks := .later }
def ScanSpansCardSaid : Prop := Claim7.holds Tryz.pinned (.plain (OpenSpec.ofChange scanSpansSpec)) scanSpansCard

/-- THE TIED CARD OF 'refitlaw23.ScanSplits'. -/
def scanSplitsCard : Claim7 := { stood := { row := scanSplitsRow, standIns := [], harness := (true, "2e63151f8ef28d97a67590d781b12f25bab0df88964ef8c65137474fc1687149"), looks := false }, kinds := [], alts := [], laidByText := true, laidKinds := [.data, .pinned], laidTests := true, laidLooks := .later }
def ScanSplitsCardSaid : Prop := Claim7.holds Tryz.pinned (.plain (OpenSpec.ofChange scanSplitsSpec)) scanSplitsCard

/-- THE TIED CARD OF 'refitlaw23.ScanValues'. -/
def scanValuesCard : Claim7 := { stood := { row := scanValuesRow, standIns := [], harness := (true, "2e63151f8ef28d97a67590d781b12f25bab0df88964ef8c65137474fc1687149"), looks := false }, kinds := [], alts := [], laidByText := true, laidKinds := [.data, .pinned], laidTests := true, laidLooks := .later }
def ScanValuesCardSaid : Prop := Claim7.holds Tryz.pinned (.plain (OpenSpec.ofChange scanValuesSpec)) scanValuesCard

/-- THE SECOND FORM's CARD OF 'refitlaw23.ScanRows'. -/
def scanRowsUptoCard : Claim7 := { stood := { row := scanRowsUptoRow, standIns := [], harness := (true, "2e63151f8ef28d97a67590d781b12f25bab0df88964ef8c65137474fc1687149"), looks := false }, kinds := [], alts := [], laidByText := true, laidKinds := [.data, .pinned], laidTests := true, laidLooks := .later }
def ScanRowsUptoCardSaid : Prop := Claim7.holds Tryz.pinned (.plain (OpenSpec.upto scanRowsSpec)) scanRowsUptoCard

/-- THE SECOND FORM's CARD OF 'refitlaw23.ScanSpans'. -/
def scanSpansUptoCard : Claim7 := { stood := { row := scanSpansUptoRow, standIns := [], harness := (true, "2e63151f8ef28d97a67590d781b12f25bab0df88964ef8c65137474fc1687149"), looks := false }, kinds := [], alts := [], laidByText := true, laidKinds := [.data, .pinned], laidTests := true, laidLooks := .later }
def ScanSpansUptoCardSaid : Prop := Claim7.holds Tryz.pinned (.plain (OpenSpec.upto scanSpansSpec)) scanSpansUptoCard

/-- THE SECOND FORM's CARD OF 'refitlaw23.ScanSplits'. -/
def scanSplitsUptoCard : Claim7 := { stood := { row := scanSplitsUptoRow, standIns := [], harness := (true, "2e63151f8ef28d97a67590d781b12f25bab0df88964ef8c65137474fc1687149"), looks := false }, kinds := [], alts := [], laidByText := true, laidKinds := [.data, .pinned], laidTests := true, laidLooks := .later }
def ScanSplitsUptoCardSaid : Prop := Claim7.holds Tryz.pinned (.plain (OpenSpec.upto scanSplitsSpec)) scanSplitsUptoCard

/-- THE SECOND FORM's CARD OF 'refitlaw23.ScanValues'. -/
def scanValuesUptoCard : Claim7 := { stood := { row := scanValuesUptoRow, standIns := [], harness := (true, "2e63151f8ef28d97a67590d781b12f25bab0df88964ef8c65137474fc1687149"), looks := false }, kinds := [], alts := [], laidByText := true, laidKinds := [.data, .pinned], laidTests := true, laidLooks := .later }
def ScanValuesUptoCardSaid : Prop := Claim7.holds Tryz.pinned (.plain (OpenSpec.upto scanValuesSpec)) scanValuesUptoCard
end Rows
end Go.Proofs.YthjmjoioagocdaaGreatDoor
