/-
  DERIVED. GIVEN WITH THE SEED: THE CARDS: each row of YtgmiampijdnebaaGreatDoorRows.lean that lists a variable, with what it lists TIED to the program's text (the seventh form; the later family's looks); each row that meets fmt, with fmt's text TOLD by the authors' own Lean function (tested against real Go, not proved from fmt's source: count such statements apart). THE CARD IS WHAT COUNTS. Prove the row's statement (the work); the ties are given (YtgmiampijdnebaaGreatDoorTie.lean); close each card by the builder's one call (the guide's Derived/Test/ToyasCard.lean, 'card_holds'). Laid BY PROGRAM, IN A SANDBOX (cutbox-door.mjs). By AI agents, Wed Nov 11 2026. No macro, syntax, notation, axiom, sorry.
-/
import Derived.Test.YtgmiampijdnebaaGreatDoorRows
import GoSem.ClaimSeven
namespace Go.Proofs.YtgmiampijdnebaaGreatDoor
namespace Rows

/-- THE TIED CARD OF 'amanuensislaw13.GlyphKnown'. -/
def glyphKnownCard : Claim7 := { stood := { row := glyphKnownRow, standIns := [], harness := (true, "25d38420ff61fda8687ad84131d782d569dfc8d8b8d098c52156ff5daab7470c"), looks := true }, kinds := [], alts := [], laidByText := true, laidKinds := [.data, .data, .data, .data, .sentinel, .sentinel, .listed, .data, .pinned], laidTests := true, laidLooks := .later }
def GlyphKnownCardSaid : Prop := Claim7.holds Tryz.pinned (.plain (OpenSpec.ofChange glyphKnownSpec)) glyphKnownCard

/-- THE TIED CARD OF 'amanuensislaw13.GlyphBytes'. -/
def glyphBytesCard : Claim7 := { stood := { row := glyphBytesRow, standIns := [], harness := (true, "25d38420ff61fda8687ad84131d782d569dfc8d8b8d098c52156ff5daab7470c"), looks := true }, kinds := [], alts := [], laidByText := true, laidKinds := [.data, .data, .data, .data, .sentinel, .sentinel, .listed, .data, .pinned], laidTests := true, laidLooks := .later }
def GlyphBytesCardSaid : Prop := Claim7.holds Tryz.pinned (.plain (OpenSpec.ofChange glyphBytesSpec)) glyphBytesCard

/-- THE SECOND FORM's CARD OF 'amanuensislaw13.GlyphKnown'. -/
def glyphKnownUptoCard : Claim7 := { stood := { row := glyphKnownUptoRow, standIns := [], harness := (true, "25d38420ff61fda8687ad84131d782d569dfc8d8b8d098c52156ff5daab7470c"), looks := true }, kinds := [], alts := [], laidByText := true, laidKinds := [.data, .data, .data, .data, .sentinel, .sentinel, .listed, .data, .pinned], laidTests := true, laidLooks := .later }
def GlyphKnownUptoCardSaid : Prop := Claim7.holds Tryz.pinned (.plain (OpenSpec.upto glyphKnownSpec)) glyphKnownUptoCard

/-- THE SECOND FORM's CARD OF 'amanuensislaw13.GlyphBytes'. -/
def glyphBytesUptoCard : Claim7 := { stood := { row := glyphBytesUptoRow, standIns := [], harness := (true, "25d38420ff61fda8687ad84131d782d569dfc8d8b8d098c52156ff5daab7470c"), looks := true }, kinds := [], alts := [], laidByText := true, laidKinds := [.data, .data, .data, .data, .sentinel, .sentinel, .listed, .data, .pinned], laidTests := true, laidLooks := .later }
def GlyphBytesUptoCardSaid : Prop := Claim7.holds Tryz.pinned (.plain (OpenSpec.upto glyphBytesSpec)) glyphBytesUptoCard
end Rows
end Go.Proofs.YtgmiampijdnebaaGreatDoor
