/-
  DERIVED. GIVEN WITH THE SEED: THE CARDS: each row of YtllpobcecingiaaDoorRows.lean that lists a variable, with what it lists TIED to the program's text (the seventh form; the later family's looks); each row that meets fmt, with fmt's text TOLD by the authors' own Lean function (tested against real Go, not proved from fmt's source: count such statements apart). THE CARD IS WHAT COUNTS. Prove the row's statement (the work); the ties are given (YtllpobcecingiaaDoorTie.lean); close each card by the builder's one call (the guide's Derived/Test/ToyasCard.lean, 'card_holds'). Laid BY PROGRAM, IN A SANDBOX (cutbox-door.mjs). By AI agents, Wed Nov 11 2026. No macro, syntax, notation, axiom, sorry.
-/
import Derived.Test.YtllpobcecingiaaDoorRows
import GoSem.ClaimSeven
namespace Go.Proofs.YtllpobcecingiaaDoor
namespace Rows

/-- THE TIED CARD OF 'refitlaw04.CastSafe'. -/
def castSafeCard : Claim7 := { stood := { row := castSafeRow, standIns := [], harness := (true, "9434fa6d2cae1f5d91981405486d450d65f2aff78b860233ded253c3cb964c1a"), looks := true }, kinds := [], alts := [], laidByText := true, laidKinds := [.data, .data, .data, .data, .sentinel, .sentinel, .pinned], laidTests := true, laidLooks := .later }
def CastSafeCardSaid : Prop := Claim7.holds Tryd.pinned (.plain (OpenSpec.ofChange castSafeSpec)) castSafeCard

/-- THE TIED CARD OF 'refitlaw04.CastBack'. -/
def castBackCard : Claim7 := { stood := { row := castBackRow, standIns := [], harness := (true, "9434fa6d2cae1f5d91981405486d450d65f2aff78b860233ded253c3cb964c1a"), looks := true }, kinds := [], alts := [], laidByText := true, laidKinds := [.data, .data, .data, .data, .sentinel, .sentinel, .pinned], laidTests := true, laidLooks := .later }
def CastBackCardSaid : Prop := Claim7.holds Tryd.pinned (.plain (OpenSpec.ofChange castBackSpec)) castBackCard

/-- THE TIED CARD OF 'refitlaw04.CastFits'. -/
def castFitsCard : Claim7 := { stood := { row := castFitsRow, standIns := [], harness := (true, "9434fa6d2cae1f5d91981405486d450d65f2aff78b860233ded253c3cb964c1a"), looks := true }, kinds := [], alts := [], laidByText := true, laidKinds := [.data, .data, .data, .data, .sentinel, .sentinel, .pinned], laidTests := true, laidLooks := .later }
def CastFitsCardSaid : Prop := Claim7.holds Tryd.pinned (.plain (OpenSpec.ofChange castFitsSpec)) castFitsCard

/-- THE SECOND FORM's CARD OF 'refitlaw04.CastSafe'. -/
def castSafeUptoCard : Claim7 := { stood := { row := castSafeUptoRow, standIns := [], harness := (true, "9434fa6d2cae1f5d91981405486d450d65f2aff78b860233ded253c3cb964c1a"), looks := true }, kinds := [], alts := [], laidByText := true, laidKinds := [.data, .data, .data, .data, .sentinel, .sentinel, .pinned], laidTests := true, laidLooks := .later }
def CastSafeUptoCardSaid : Prop := Claim7.holds Tryd.pinned (.plain (OpenSpec.upto castSafeSpec)) castSafeUptoCard

/-- THE SECOND FORM's CARD OF 'refitlaw04.CastBack'. -/
def castBackUptoCard : Claim7 := { stood := { row := castBackUptoRow, standIns := [], harness := (true, "9434fa6d2cae1f5d91981405486d450d65f2aff78b860233ded253c3cb964c1a"), looks := true }, kinds := [], alts := [], laidByText := true, laidKinds := [.data, .data, .data, .data, .sentinel, .sentinel, .pinned], laidTests := true, laidLooks := .later }
def CastBackUptoCardSaid : Prop := Claim7.holds Tryd.pinned (.plain (OpenSpec.upto castBackSpec)) castBackUptoCard

/-- THE SECOND FORM's CARD OF 'refitlaw04.CastFits'. -/
def castFitsUptoCard : Claim7 := { stood := { row := castFitsUptoRow, standIns := [], harness := (true, "9434fa6d2cae1f5d91981405486d450d65f2aff78b860233ded253c3cb964c1a"), looks := true }, kinds := [], alts := [], laidByText := true, laidKinds := [.data, .data, .data, .data, .sentinel, .sentinel, .pinned], laidTests := true, laidLooks := .later }
def CastFitsUptoCardSaid : Prop := Claim7.holds Tryd.pinned (.plain (OpenSpec.upto castFitsSpec)) castFitsUptoCard
end Rows
end Go.Proofs.YtllpobcecingiaaDoor
