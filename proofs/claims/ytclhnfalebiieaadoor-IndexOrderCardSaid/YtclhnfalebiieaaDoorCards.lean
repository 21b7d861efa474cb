/-
  DERIVED. GIVEN WITH THE SEED: THE CARDS: each row of YtclhnfalebiieaaDoorRows.lean that lists a variable, with what it lists TIED to the program's text (the seventh form; the later family's looks); each row that meets fmt, with fmt's text TOLD by the authors' own Lean function (tested against real Go, not proved from fmt's source: count such statements apart). THE CARD IS WHAT COUNTS. Prove the row's statement (the work); the ties are given (YtclhnfalebiieaaDoorTie.lean); close each card by the builder's one call (the guide's Derived/Test/ToyasCard.lean, 'card_holds'). Laid BY PROGRAM, IN A SANDBOX (cutbox-door.mjs). By AI agents, Wed Nov 11 2026. No macro, syntax, notation, axiom, sorry.
-/
import Derived.Test.YtclhnfalebiieaaDoorRows
import GoSem.ClaimSeven
namespace Go.Proofs.YtclhnfalebiieaaDoor
namespace Rows

/-- THE TIED CARD OF 'refitlaw05.KeysPuts'. -/
def keysPutsCard : Claim7 := { stood := { row := keysPutsRow, standIns := [], harness := (true, "c0f7f0079cfeb5c6b9e6f00de2e7004ad60b350fc26da72172e4ae64a50f9586"), looks := false }, kinds := [], alts := [], laidByText := true, laidKinds := [.data, .pinned], laidTests := true, laidLooks := .later }
def KeysPutsCardSaid : Prop := Claim7.holds Tryd.pinned (.plain (OpenSpec.ofChange keysPutsSpec)) keysPutsCard

/-- THE TIED CARD OF 'refitlaw05.KeysGets'. -/
def keysGetsCard : Claim7 := { stood := { row := keysGetsRow, standIns := [], harness := (true, "c0f7f0079cfeb5c6b9e6f00de2e7004ad60b350fc26da72172e4ae64a50f9586"), looks := false }, kinds := [], alts := [], laidByText := true, laidKinds := [.data, .pinned], laidTests := true, laidLooks := .later }
def KeysGetsCardSaid : Prop := Claim7.holds Tryd.pinned (.plain (OpenSpec.ofChange keysGetsSpec)) keysGetsCard

/-- THE TIED CARD OF 'refitlaw05.KeysOrder'. -/
def keysOrderCard : Claim7 := { stood := { row := keysOrderRow, standIns := [], harness := (true, "c0f7f0079cfeb5c6b9e6f00de2e7004ad60b350fc26da72172e4ae64a50f9586"), looks := false }, kinds := [], alts := [], laidByText := true, laidKinds := [.data, .pinned], laidTests := true, laidLooks := .later }
def KeysOrderCardSaid : Prop := Claim7.holds Tryd.pinned (.plain (OpenSpec.ofChange keysOrderSpec)) keysOrderCard

/-- THE TIED CARD OF 'refitlaw05.KeysAbove'. -/
def keysAboveCard : Claim7 := { stood := { row := keysAboveRow, standIns := [], harness := (true, "c0f7f0079cfeb5c6b9e6f00de2e7004ad60b350fc26da72172e4ae64a50f9586"), looks := false }, kinds := [], alts := [], laidByText := true, laidKinds := [.data, .pinned], laidTests := true, laidLooks := .later }
def KeysAboveCardSaid : Prop := Claim7.holds Tryd.pinned (.plain (OpenSpec.ofChange keysAboveSpec)) keysAboveCard

/-- THE TIED CARD OF 'refitlaw05.KeysJoin'. -/
def keysJoinCard : Claim7 := { stood := { row := keysJoinRow, standIns := [], harness := (true, "c0f7f0079cfeb5c6b9e6f00de2e7004ad60b350fc26da72172e4ae64a50f9586"), looks := false }, kinds := [], alts := [], laidByText := true, laidKinds := [.data, .pinned], laidTests := true, laidLooks := .later }
def KeysJoinCardSaid : Prop := Claim7.holds Tryd.pinned (.plain (OpenSpec.ofChange keysJoinSpec)) keysJoinCard

/-- THE TIED CARD OF 'refitlaw13.IndexSpans'. -/
def indexSpansCard : Claim7 := { stood := { row := indexSpansRow, standIns := [], harness := (true, "c0f7f0079cfeb5c6b9e6f00de2e7004ad60b350fc26da72172e4ae64a50f9586"), looks := false }, kinds := [], alts := [], laidByText := true, laidKinds := [.data, .pinned], laidTests := true, laidLooks := .later }
def IndexSpansCardSaid : Prop := Claim7.holds Tryd.pinned (.plain (OpenSpec.ofChange indexSpansSpec)) indexSpansCard

/-- THE TIED CARD OF 'refitlaw13.IndexOrder'. -/
def indexOrderCard : Claim7 := { stood := { row := indexOrderRow, standIns := [], harness := (true, "c0f7f0079cfeb5c6b9e6f00de2e7004ad60b350fc26da72172e4ae64a50f9586"), looks := false }, kinds := [], alts := [], laidByText := true, laidKinds := [.data, .pinned], laidTests := true, laidLooks := .later }
def IndexOrderCardSaid : Prop := Claim7.holds Tryd.pinned (.plain (OpenSpec.ofChange indexOrderSpec)) indexOrderCard

/-- THE SECOND FORM's CARD OF 'refitlaw05.KeysPuts'. -/
def keysPutsUptoCard : Claim7 := { stood := { row := keysPutsUptoRow, standIns := [], harness := (true, "c0f7f0079cfeb5c6b9e6f00de2e7004ad60b350fc26da72172e4ae64a50f9586"), looks := false }, kinds := [], alts := [], laidByText := true, laidKinds := [.data, .pinned], laidTests := true, laidLooks := .later }
def KeysPutsUptoCardSaid : Prop := Claim7.holds Tryd.pinned (.plain (OpenSpec.upto keysPutsSpec)) keysPutsUptoCard

/-- THE SECOND FORM's CARD OF 'refitlaw05.KeysGets'. -/
def keysGetsUptoCard : Claim7 := { stood := { row := keysGetsUptoRow, standIns := [], harness := (true, "c0f7f0079cfeb5c6b9e6f00de2e7004ad60b350fc26da72172e4ae64a50f9586"), looks := false }, kinds := [], alts := [], laidByText := true, laidKinds := [.data, .pinned], laidTests := true, laidLooks := .later }
def KeysGetsUptoCardSaid : Prop := Claim7.holds Tryd.pinned (.plain (OpenSpec.upto keysGetsSpec)) keysGetsUptoCard

/-- THE SECOND FORM's CARD OF 'refitlaw05.KeysOrder'. -/
def keysOrderUptoCard : Claim7 := { stood := { row := keysOrderUptoRow, standIns := [], harness := (true, "c0f7f0079cfeb5c6b9e6f00de2e7004ad60b350fc26da72172e4ae64a50f9586"), looks := false }, kinds := [], alts := [], laidByText := true, laidKinds := [.data, .pinned], laidTests := true, laidLooks := .later }
def KeysOrderUptoCardSaid : Prop := Claim7.holds Tryd.pinned (.plain (OpenSpec.upto keysOrderSpec)) keysOrderUptoCard

/-- THE SECOND FORM's CARD OF 'refitlaw05.KeysAbove'. -/
def keysAboveUptoCard : Claim7 := { stood := { row := keysAboveUptoRow, standIns := [], harness := (true, "c0f7f0079cfeb5c6b9e6f00de2e7004ad60b350fc26da72172e4ae64a50f9586"), looks := false }, kinds := [], alts := [], laidByText := true, laidKinds := [.data, .pinned], laidTests := true, laidLooks := .later }
def KeysAboveUptoCardSaid : Prop := Claim7.holds Tryd.pinned (.plain (OpenSpec.upto keysAboveSpec)) keysAboveUptoCard

/-- THE SECOND FORM's CARD OF 'refitlaw05.KeysJoin'. -/
def keysJoinUptoCard : Claim7 := { stood := { row := keysJoinUptoRow, standIns := [], harness := (true, "c0f7f0079cfeb5c6b9e6f00de2e7004ad60b350fc26da72172e4ae64a50f9586"), looks := false }, kinds := [], alts := [], laidByText := true, laidKinds := [.data, .pinned], laidTests := true, laidLooks := .later }
def KeysJoinUptoCardSaid : Prop := Claim7.holds Tryd.pinned (.plain (OpenSpec.upto keysJoinSpec)) keysJoinUptoCard

/-- THE SECOND FORM's CARD OF 'refitlaw13.IndexSpans'. -/
def indexSpansUptoCard : Claim7 := { stood := { row := indexSpansUptoRow, standIns := [], harness := (true, "c0f7f0079cfeb5c6b9e6f00de2e7004ad60b350fc26da72172e4ae64a50f9586"), looks := false }, kinds := [], alts := [], laidByText := true, laidKinds := [.data, .pinned], laidTests := true, laidLooks := .later }
def IndexSpansUptoCardSaid : Prop := Claim7.holds Tryd.pinned (.plain (OpenSpec.upto indexSpansSpec)) indexSpansUptoCard

/-- THE SECOND FORM's CARD OF 'refitlaw13.IndexOrder'. -/
def indexOrderUptoCard : Claim7 := { stood := { row := indexOrderUptoRow, standIns := [], harness := (true, "c0f7f0079cfeb5c6b9e6f00de2e7004ad60b350fc26da72172e4ae64a50f9586"), looks := false }, kinds := [], alts := [], laidByText := true, laidKinds := [.data, .pinned], laidTests := true, laidLooks := .later }
def IndexOrderUptoCardSaid : Prop := Claim7.holds Tryd.pinned (.plain (OpenSpec.upto indexOrderSpec)) indexOrderUptoCard
end Rows
end Go.Proofs.YtclhnfalebiieaaDoor
