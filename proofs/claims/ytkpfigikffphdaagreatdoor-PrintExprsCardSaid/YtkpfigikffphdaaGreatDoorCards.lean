/-
  DERIVED. GIVEN WITH THE SEED: THE CARDS: each row of YtkpfigikffphdaaGreatDoorRows.lean that lists a variable, with what it lists TIED to the program's text (the seventh form; the later family's looks); each row that meets fmt, with fmt's text TOLD by the authors' own Lean function (tested against real Go, not proved from fmt's source: count such statements apart). THE CARD IS WHAT COUNTS. Prove the row's statement (the work); the ties are given (YtkpfigikffphdaaGreatDoorTie.lean); close each card by the builder's one call (the guide's Derived/Test/ToyasCard.lean, 'card_holds'). Laid BY PROGRAM, IN A SANDBOX (cutbox-door.mjs). By AI agents, Wed Nov 11 2026. No macro, syntax, notation, axiom, sorry.
-/
import Derived.Test.YtkpfigikffphdaaGreatDoorRows
import GoSem.ClaimSeven
namespace Go.Proofs.YtkpfigikffphdaaGreatDoor
namespace Rows

/-- THE TIED CARD OF 'refitlaw19.ParseExprs'. -/
def parseExprsCard : Claim7 := { stood := { row := parseExprsRow, standIns := [], harness := (true, "969719cda882f2d9b15ed2c19d32bbbaafdec14ceb9efd430fed5ef756c8e008"), looks := true }, kinds := [], alts := [], laidByText := true, laidKinds := [.data, .data, .data, .data, .sentinel, .sentinel, .listed, .data, .pinned], laidTests := true, laidLooks := .later }
def ParseExprsCardSaid : Prop := Claim7.holds Tryz.pinned (.plain (OpenSpec.ofChange parseExprsSpec)) parseExprsCard

/-- THE TIED CARD OF 'refitlaw19.ParseDeep'. -/
def parseDeepCard : Claim7 := { stood := { row := parseDeepRow, standIns := [], harness := (true, "969719cda882f2d9b15ed2c19d32bbbaafdec14ceb9efd430fed5ef756c8e008"), looks := true }, kinds := [], alts := [], laidByText := true, laidKinds := [.data, .data, .data, .data, .sentinel, .sentinel, .listed, .data, .pinned], laidTests := true, laidLooks := .later }
def ParseDeepCardSaid : Prop := Claim7.holds Tryz.pinned (.plain (OpenSpec.ofChange parseDeepSpec)) parseDeepCard

/-- THE TIED CARD OF 'refitlaw19.ParseBlanks'. -/
def parseBlanksCard : Claim7 := { stood := { row := parseBlanksRow, standIns := [], harness := (true, "969719cda882f2d9b15ed2c19d32bbbaafdec14ceb9efd430fed5ef756c8e008"), looks := true }, kinds := [], alts := [], laidByText := true, laidKinds := [.data, .data, .data, .data, .sentinel, .sentinel, .listed, .data, .pinned], laidTests := true, laidLooks := .later }
def ParseBlanksCardSaid : Prop := Claim7.holds Tryz.pinned (.plain (OpenSpec.ofChange parseBlanksSpec)) parseBlanksCard

/-- THE TIED CARD OF 'refitlaw20.PrintAgain'. -/
def printAgainCard : Claim7 := { stood := { row := printAgainRow, standIns := [], harness := (true, "969719cda882f2d9b15ed2c19d32bbbaafdec14ceb9efd430fed5ef756c8e008"), looks := true }, kinds := [], alts := [], laidByText := true, laidKinds := [.data, .data, .data, .data, .sentinel, .sentinel, .listed, .data, .pinned], laidTests := true, laidLooks := .later }
def PrintAgainCardSaid : Prop := Claim7.holds Tryz.pinned (.plain (OpenSpec.ofChange printAgainSpec)) printAgainCard

/-- THE TIED CARD OF 'refitlaw20.PrintExprs'. -/
def printExprsCard : Claim7 := { stood := { row := printExprsRow, standIns := [], harness := (true, "969719cda882f2d9b15ed2c19d32bbbaafdec14ceb9efd430fed5ef756c8e008"), looks := true }, kinds := [], alts := [], laidByText := true, laidKinds := [.data, .data, .data, .data, .sentinel, .sentinel, .listed, .data, .pinned], laidTests := true, laidLooks := .later }
def PrintExprsCardSaid : Prop := Claim7.holds Tryz.pinned (.plain (OpenSpec.ofChange printExprsSpec)) printExprsCard

/-- THE SECOND FORM's CARD OF 'refitlaw19.ParseExprs'. -/
def parseExprsUptoCard : Claim7 := { stood := { row := parseExprsUptoRow, standIns := [], harness := (true, "969719cda882f2d9b15ed2c19d32bbbaafdec14ceb9efd430fed5ef756c8e008"), looks := true }, kinds := [], alts := [], laidByText := true, laidKinds := [.data, .data, .data, .data, .sentinel, .sentinel, .listed, .data, .pinned], laidTests := true, laidLooks := .later }
def ParseExprsUptoCardSaid : Prop := Claim7.holds Tryz.pinned (.plain (OpenSpec.upto parseExprsSpec)) parseExprsUptoCard

/-- THE SECOND FORM's CARD OF 'refitlaw19.ParseDeep'. -/
def parseDeepUptoCard : Claim7 := { stood := { row := parseDeepUptoRow, standIns := [], harness := (true, "969719cda882f2d9b15ed2c19d32bbbaafdec14ceb9efd430fed5ef756c8e008"), looks := true }, kinds := [], alts := [], laidByText := true, laidKinds := [.data, .data, .data, .data, .sentinel, .sentinel, .listed, .data, .pinned], laidTests := true, laidLooks := .later }
def ParseDeepUptoCardSaid : Prop := Claim7.holds Tryz.pinned (.plain (OpenSpec.upto parseDeepSpec)) parseDeepUptoCard

/-- THE SECOND FORM's CARD OF 'refitlaw19.ParseBlanks'. -/
def parseBlanksUptoCard : Claim7 := { stood := { row := parseBlanksUptoRow, standIns := [], harness := (true, "969719cda882f2d9b15ed2c19d32bbbaafdec14ceb9efd430fed5ef756c8e008"), looks := true }, kinds := [], alts := [], laidByText := true, laidKinds := [.data, .data, .data, .data, .sentinel, .sentinel, .listed, .data, .pinned], laidTests := true, laidLooks := .later }
def ParseBlanksUptoCardSaid : Prop := Claim7.holds Tryz.pinned (.plain (OpenSpec.upto parseBlanksSpec)) parseBlanksUptoCard

/-- THE SECOND FORM's CARD OF 'refitlaw20.PrintAgain'. -/
def printAgainUptoCard : Claim7 := { stood := { row := printAgainUptoRow, standIns := [], harness := (true, "969719cda882f2d9b15ed2c19d32bbbaafdec14ceb9efd430fed5ef756c8e008"), looks := true }, kinds := [], alts := [], laidByText := true, laidKinds := [.data, .data, .data, .data, .sentinel, .sentinel, .listed, .data, .pinned], laidTests := true, laidLooks := .later }
def PrintAgainUptoCardSaid : Prop := Claim7.holds Tryz.pinned (.plain (OpenSpec.upto printAgainSpec)) printAgainUptoCard

/-- THE SECOND FORM's CARD OF 'refitlaw20.PrintExprs'. -/
def printExprsUptoCard : Claim7 := { stood := { row := printExprsUptoRow, standIns := [], harness := (true, "969719cda882f2d9b15ed2c19d32bbbaafdec14ceb9efd430fed5ef756c8e008"), looks := true }, kinds := [], alts := [], laidByText := true, laidKinds := [.data, .data, .data, .data, .sentinel, .sentinel, .listed, .data, .pinned], laidTests := true, laidLooks := .later }
def PrintExprsUptoCardSaid : Prop := Claim7.holds Tryz.pinned (.plain (OpenSpec.upto printExprsSpec)) printExprsUptoCard
end Rows
end Go.Proofs.YtkpfigikffphdaaGreatDoor
