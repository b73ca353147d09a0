/-
  DERIVED. GIVEN WITH THE SEED: THE CARDS: each row of YtkjapeafhcdnkaaDoorRows.lean that lists a variable, with what it lists TIED to the program's text (the seventh form; the later family's looks); each row that meets fmt, with fmt's text TOLD by the authors' own Lean function (tested against real Go, not proved from fmt's source: count such statements apart). THE CARD IS WHAT COUNTS. Prove the row's statement (the work); the ties are given (YtkjapeafhcdnkaaDoorTie.lean); close each card by the builder's one call (the guide's Derived/Test/ToyasCard.lean, 'card_holds'). Laid BY PROGRAM, IN A SANDBOX (cutbox-door.mjs). By AI agents, Wed Nov 11 2026. No macro, syntax, notation, axiom, sorry.
-/
import Derived.Test.YtkjapeafhcdnkaaDoorRows
import GoSem.ClaimSeven
namespace Go.Proofs.YtkjapeafhcdnkaaDoor
namespace Rows

/-- THE TIED CARD OF 'apographlaw53.PagedescLossless'. -/
def pagedescLosslessCard : Claim7 := { stood := { row := pagedescLosslessRow, standIns := [], harness := (true, "239135ba02d3e358ed422b3286aeb90ca21ec773e17294092b744f5e4d7bcd2c"), looks := true }, kinds := [], alts := [], laidByText := true, laidKinds := [.data, .data, .data, .data, .sentinel, .sentinel, .pinned], laidTests := true, laidLooks := .later }
def PagedescLosslessCardSaid : Prop := Claim7.holds Tryd.pinned (.plain (OpenSpec.ofChange pagedescLosslessSpec)) pagedescLosslessCard

/-- THE TIED CARD OF 'apographlaw53.PagedescBounds'. -/
def pagedescBoundsCard : Claim7 := { stood := { row := pagedescBoundsRow, standIns := [], harness := (true, "239135ba02d3e358ed422b3286aeb90ca21ec773e17294092b744f5e4d7bcd2c"), looks := true }, kinds := [], alts := [], laidByText := true, laidKinds := [.data, .data, .data, .data, .sentinel, .sentinel, .pinned], laidTests := true, laidLooks := .later }
def PagedescBoundsCardSaid : Prop := Claim7.holds Tryd.pinned (.plain (OpenSpec.ofChange pagedescBoundsSpec)) pagedescBoundsCard

/-- THE TIED CARD OF 'apographlaw53.PagedescTexts'. -/
def pagedescTextsCard : Claim7 := { stood := { row := pagedescTextsRow, standIns := [], harness := (true, "239135ba02d3e358ed422b3286aeb90ca21ec773e17294092b744f5e4d7bcd2c"), looks := true }, kinds := [], alts := [], laidByText := true, laidKinds := [.data, .data, .data, .data, .sentinel, .sentinel, .pinned], laidTests := true, laidLooks := .later }
def PagedescTextsCardSaid : Prop := Claim7.holds Tryd.pinned (.plain (OpenSpec.ofChange pagedescTextsSpec)) pagedescTextsCard

/-- THE TIED CARD OF 'apographlaw53.PagedescLines'. -/
def pagedescLinesCard : Claim7 := { stood := { row := pagedescLinesRow, standIns := [], harness := (true, "239135ba02d3e358ed422b3286aeb90ca21ec773e17294092b744f5e4d7bcd2c"), looks := true }, kinds := [], alts := [], laidByText := true, laidKinds := [.data, .data, .data, .data, .sentinel, .sentinel, .pinned], laidTests := true, laidLooks := .later }
def PagedescLinesCardSaid : Prop := Claim7.holds Tryd.pinned (.plain (OpenSpec.ofChange pagedescLinesSpec)) pagedescLinesCard

/-- THE TIED CARD OF 'apographlaw53.PagedescOverlaps'. -/
def pagedescOverlapsCard : Claim7 := { stood := { row := pagedescOverlapsRow, standIns := [], harness := (true, "239135ba02d3e358ed422b3286aeb90ca21ec773e17294092b744f5e4d7bcd2c"), looks := true }, kinds := [], alts := [], laidByText := true, laidKinds := [.data, .data, .data, .data, .sentinel, .sentinel, .pinned], laidTests := true, laidLooks := .later }
def PagedescOverlapsCardSaid : Prop := Claim7.holds Tryd.pinned (.plain (OpenSpec.ofChange pagedescOverlapsSpec)) pagedescOverlapsCard

/-- THE TIED CARD OF 'apographlaw53.PagedescBoxes'. -/
def pagedescBoxesCard : Claim7 := { stood := { row := pagedescBoxesRow, standIns := [], harness := (true, "239135ba02d3e358ed422b3286aeb90ca21ec773e17294092b744f5e4d7bcd2c"), looks := true }, kinds := [], alts := [], laidByText := true, laidKinds := [.data, .data, .data, .data, .sentinel, .sentinel, .pinned], laidTests := true, laidLooks := .later }
def PagedescBoxesCardSaid : Prop := Claim7.holds Tryd.pinned (.plain (OpenSpec.ofChange pagedescBoxesSpec)) pagedescBoxesCard

/-- THE TIED CARD OF 'apographlaw53.PagedescPlaces'. -/
def pagedescPlacesCard : Claim7 := { stood := { row := pagedescPlacesRow, standIns := [], harness := (true, "239135ba02d3e358ed422b3286aeb90ca21ec773e17294092b744f5e4d7bcd2c"), looks := true }, kinds := [], alts := [], laidByText := true, laidKinds := [.data, .data, .data, .data, .sentinel, .sentinel, .pinned], laidTests := true, laidLooks := .later }
def PagedescPlacesCardSaid : Prop := Claim7.holds Tryd.pinned (.plain (OpenSpec.ofChange pagedescPlacesSpec)) pagedescPlacesCard

/-- THE TIED CARD OF 'apographlaw53.PagedescMoves'. -/
def pagedescMovesCard : Claim7 := { stood := { row := pagedescMovesRow, standIns := [], harness := (true, "239135ba02d3e358ed422b3286aeb90ca21ec773e17294092b744f5e4d7bcd2c"), looks := true }, kinds := [], alts := [], laidByText := true, laidKinds := [.data, .data, .data, .data, .sentinel, .sentinel, .pinned], laidTests := true, laidLooks := .later }
def PagedescMovesCardSaid : Prop := Claim7.holds Tryd.pinned (.plain (OpenSpec.ofChange pagedescMovesSpec)) pagedescMovesCard

/-- THE SECOND FORM's CARD OF 'apographlaw53.PagedescLossless'. -/
def pagedescLosslessUptoCard : Claim7 := { stood := { row := pagedescLosslessUptoRow, standIns := [], harness := (true, "239135ba02d3e358ed422b3286aeb90ca21ec773e17294092b744f5e4d7bcd2c"), looks := true }, kinds := [], alts := [], laidByText := true, laidKinds := [.data, .data, .data, .data, .sentinel, .sentinel, .pinned], laidTests := true, laidLooks := .later }
def PagedescLosslessUptoCardSaid : Prop := Claim7.holds Tryd.pinned (.plain (OpenSpec.upto pagedescLosslessSpec)) pagedescLosslessUptoCard

/-- THE SECOND FORM's CARD OF 'apographlaw53.PagedescBounds'. -/
def pagedescBoundsUptoCard : Claim7 := { stood := { row := pagedescBoundsUptoRow, standIns := [], harness := (true, "239135ba02d3e358ed422b3286aeb90ca21ec773e17294092b744f5e4d7bcd2c"), looks := true }, kinds := [], alts := [], laidByText := true, laidKinds := [.data, .data, .data, .data, .sentinel, .sentinel, .pinned], laidTests := true, laidLooks := .later }
def PagedescBoundsUptoCardSaid : Prop := Claim7.holds Tryd.pinned (.plain (OpenSpec.upto pagedescBoundsSpec)) pagedescBoundsUptoCard

/-- THE SECOND FORM's CARD OF 'apographlaw53.PagedescTexts'. -/
def pagedescTextsUptoCard : Claim7 := { stood := { row := pagedescTextsUptoRow, standIns := [], harness := (true, "239135ba02d3e358ed422b3286aeb90ca21ec773e17294092b744f5e4d7bcd2c"), looks := true }, kinds := [], alts := [], laidByText := true, laidKinds := [.data, .data, .data, .data, .sentinel, .sentinel, .pinned], laidTests := true, laidLooks := .later }
def PagedescTextsUptoCardSaid : Prop := Claim7.holds Tryd.pinned (.plain (OpenSpec.upto pagedescTextsSpec)) pagedescTextsUptoCard

/-- THE SECOND FORM's CARD OF 'apographlaw53.PagedescLines'. -/
def pagedescLinesUptoCard : Claim7 := { stood := { row := pagedescLinesUptoRow, standIns := [], harness := (true, "239135ba02d3e358ed422b3286aeb90ca21ec773e17294092b744f5e4d7bcd2c"), looks := true }, kinds := [], alts := [], laidByText := true, laidKinds := [.data, .data, .data, .data, .sentinel, .sentinel, .pinned], laidTests := true, laidLooks := .later }
def PagedescLinesUptoCardSaid : Prop := Claim7.holds Tryd.pinned (.plain (OpenSpec.upto pagedescLinesSpec)) pagedescLinesUptoCard

/-- THE SECOND FORM's CARD OF 'apographlaw53.PagedescOverlaps'. -/
def pagedescOverlapsUptoCard : Claim7 := { stood := { row := pagedescOverlapsUptoRow, standIns := [], harness := (true, "239135ba02d3e358ed422b3286aeb90ca21ec773e17294092b744f5e4d7bcd2c"), looks := true }, kinds := [], alts := [], laidByText := true, laidKinds := [.data, .data, .data, .data, .sentinel, .sentinel, .pinned], laidTests := true, laidLooks := .later }
def PagedescOverlapsUptoCardSaid : Prop := Claim7.holds Tryd.pinned (.plain (OpenSpec.upto pagedescOverlapsSpec)) pagedescOverlapsUptoCard

/-- THE SECOND FORM's CARD OF 'apographlaw53.PagedescBoxes'. -/
def pagedescBoxesUptoCard : Claim7 := { stood := { row := pagedescBoxesUptoRow, standIns := [], harness := (true, "239135ba02d3e358ed422b3286aeb90ca21ec773e17294092b744f5e4d7bcd2c"), looks := true }, kinds := [], alts := [], laidByText := true, laidKinds := [.data, .data, .data, .data, .sentinel, .sentinel, .pinned], laidTests := true, laidLooks := .later }
def PagedescBoxesUptoCardSaid : Prop := Claim7.holds Tryd.pinned (.plain (OpenSpec.upto pagedescBoxesSpec)) pagedescBoxesUptoCard

/-- THE SECOND FORM's CARD OF 'apographlaw53.PagedescPlaces'. -/
def pagedescPlacesUptoCard : Claim7 := { stood := { row := pagedescPlacesUptoRow, standIns := [], harness := (true, "239135ba02d3e358ed422b3286aeb90ca21ec773e17294092b744f5e4d7bcd2c"), looks := true }, kinds := [], alts := [], laidByText := true, laidKinds := [.data, .data, .data, .data, .sentinel, .sentinel, .pinned], laidTests := true, laidLooks := .later }
def PagedescPlacesUptoCardSaid : Prop := Claim7.holds Tryd.pinned (.plain (OpenSpec.upto pagedescPlacesSpec)) pagedescPlacesUptoCard

/-- THE SECOND FORM's CARD OF 'apographlaw53.PagedescMoves'. -/
def pagedescMovesUptoCard : Claim7 := { stood := { row := pagedescMovesUptoRow, standIns := [], harness := (true, "239135ba02d3e358ed422b3286aeb90ca21ec773e17294092b744f5e4d7bcd2c"), looks := true }, kinds := [], alts := [], laidByText := true, laidKinds := [.data, .data, .data, .data, .sentinel, .sentinel, .pinned], laidTests := true, laidLooks := .later }
def PagedescMovesUptoCardSaid : Prop := Claim7.holds Tryd.pinned (.plain (OpenSpec.upto pagedescMovesSpec)) pagedescMovesUptoCard
end Rows
end Go.Proofs.YtkjapeafhcdnkaaDoor
