/-
  DERIVED. GIVEN WITH THE SEED: THE CARDS: each row of YtajhkfmhoihjfaaDoorRows.lean that lists a variable, with what it lists TIED to the program's text (the seventh form; the later family's looks); each row that meets fmt, with fmt's text TOLD by the authors' own Lean function (tested against real Go, not proved from fmt's source: count such statements apart). THE CARD IS WHAT COUNTS. Prove the row's statement (the work); the ties are given (YtajhkfmhoihjfaaDoorTie.lean); close each card by the builder's one call (the guide's Derived/Test/ToyasCard.lean, 'card_holds'). Laid BY PROGRAM, IN A SANDBOX (cutbox-door.mjs). By AI agents, Wed Nov 11 2026. No macro, syntax, notation, axiom, sorry.
-/
import Derived.Test.YtajhkfmhoihjfaaDoorRows
import GoSem.ClaimSeven
namespace Go.Proofs.YtajhkfmhoihjfaaDoor
namespace Rows

/-- THE TIED CARD OF 'apographlaw50.NotesSets'. -/
def notesSetsCard : Claim7 := { stood := { row := notesSetsRow, standIns := [], harness := (true, "3caa8c9362156548e4a8710dc1c1d09101b2ea49941a8ddb4fa9287fec7731ee"), looks := false }, kinds := [], alts := [], laidByText := true, laidKinds := [.data, .pinned], laidTests := true, laidLooks := .later }
def NotesSetsCardSaid : Prop := Claim7.holds Tryd.pinned (.plain (OpenSpec.ofChange notesSetsSpec)) notesSetsCard

/-- THE TIED CARD OF 'apographlaw50.NotesBack'. -/
def notesBackCard : Claim7 := { stood := { row := notesBackRow, standIns := [], harness := (true, "3caa8c9362156548e4a8710dc1c1d09101b2ea49941a8ddb4fa9287fec7731ee"), looks := false }, kinds := [], alts := [], laidByText := true, laidKinds := [.data, .pinned], laidTests := true, laidLooks := .later }
def NotesBackCardSaid : Prop := Claim7.holds Tryd.pinned (.plain (OpenSpec.ofChange notesBackSpec)) notesBackCard

/-- THE TIED CARD OF 'apographlaw50.NotesFewest'. -/
def notesFewestCard : Claim7 := { stood := { row := notesFewestRow, standIns := [], harness := (true, "3caa8c9362156548e4a8710dc1c1d09101b2ea49941a8ddb4fa9287fec7731ee"), looks := false }, kinds := [], alts := [], laidByText := true, laidKinds := [.data, .pinned], laidTests := true, laidLooks := .later }
def NotesFewestCardSaid : Prop := Claim7.holds Tryd.pinned (.plain (OpenSpec.ofChange notesFewestSpec)) notesFewestCard

/-- THE TIED CARD OF 'apographlaw50.NotesWider'. -/
def notesWiderCard : Claim7 := { stood := { row := notesWiderRow, standIns := [], harness := (true, "3caa8c9362156548e4a8710dc1c1d09101b2ea49941a8ddb4fa9287fec7731ee"), looks := false }, kinds := [], alts := [], laidByText := true, laidKinds := [.data, .pinned], laidTests := true, laidLooks := .later }
def NotesWiderCardSaid : Prop := Claim7.holds Tryd.pinned (.plain (OpenSpec.ofChange notesWiderSpec)) notesWiderCard

/-- THE TIED CARD OF 'apographlaw50.NotesRoom'. -/
def notesRoomCard : Claim7 := { stood := { row := notesRoomRow, standIns := [], harness := (true, "3caa8c9362156548e4a8710dc1c1d09101b2ea49941a8ddb4fa9287fec7731ee"), looks := false }, kinds := [], alts := [], laidByText := true, laidKinds := [.data, .pinned], laidTests := true, laidLooks := .later }
def NotesRoomCardSaid : Prop := Claim7.holds Tryd.pinned (.plain (OpenSpec.ofChange notesRoomSpec)) notesRoomCard

/-- THE TIED CARD OF 'apographlaw50.NotesOrder'. -/
def notesOrderCard : Claim7 := { stood := { row := notesOrderRow, standIns := [], harness := (true, "3caa8c9362156548e4a8710dc1c1d09101b2ea49941a8ddb4fa9287fec7731ee"), looks := false }, kinds := [], alts := [], laidByText := true, laidKinds := [.data, .pinned], laidTests := true, laidLooks := .later }
def NotesOrderCardSaid : Prop := Claim7.holds Tryd.pinned (.plain (OpenSpec.ofChange notesOrderSpec)) notesOrderCard

/-- THE TIED CARD OF 'apographlaw50.NotesBlocks'. -/
def notesBlocksCard : Claim7 := { stood := { row := notesBlocksRow, standIns := [], harness := (true, "3caa8c9362156548e4a8710dc1c1d09101b2ea49941a8ddb4fa9287fec7731ee"), looks := false }, kinds := [], alts := [], laidByText := true, laidKinds := [.data, .pinned], laidTests := true, laidLooks := .later }
def NotesBlocksCardSaid : Prop := Claim7.holds Tryd.pinned (.plain (OpenSpec.ofChange notesBlocksSpec)) notesBlocksCard

/-- THE TIED CARD OF 'apographlaw50.NotesHeights'. -/
def notesHeightsCard : Claim7 := { stood := { row := notesHeightsRow, standIns := [], harness := (true, "3caa8c9362156548e4a8710dc1c1d09101b2ea49941a8ddb4fa9287fec7731ee"), looks := false }, kinds := [], alts := [], laidByText := true, laidKinds := [.data, .pinned], laidTests := true, laidLooks := .later }
def NotesHeightsCardSaid : Prop := Claim7.holds Tryd.pinned (.plain (OpenSpec.ofChange notesHeightsSpec)) notesHeightsCard

/-- THE SECOND FORM's CARD OF 'apographlaw50.NotesSets'. -/
def notesSetsUptoCard : Claim7 := { stood := { row := notesSetsUptoRow, standIns := [], harness := (true, "3caa8c9362156548e4a8710dc1c1d09101b2ea49941a8ddb4fa9287fec7731ee"), looks := false }, kinds := [], alts := [], laidByText := true, laidKinds := [.data, .pinned], laidTests := true, laidLooks := .later }
def NotesSetsUptoCardSaid : Prop := Claim7.holds Tryd.pinned (.plain (OpenSpec.upto notesSetsSpec)) notesSetsUptoCard

/-- THE SECOND FORM's CARD OF 'apographlaw50.NotesBack'. -/
def notesBackUptoCard : Claim7 := { stood := { row := notesBackUptoRow, standIns := [], harness := (true, "3caa8c9362156548e4a8710dc1c1d09101b2ea49941a8ddb4fa9287fec7731ee"), looks := false }, kinds := [], alts := [], laidByText := true, laidKinds := [.data, .pinned], laidTests := true, laidLooks := .later }
def NotesBackUptoCardSaid : Prop := Claim7.holds Tryd.pinned (.plain (OpenSpec.upto notesBackSpec)) notesBackUptoCard

/-- THE SECOND FORM's CARD OF 'apographlaw50.NotesFewest'. -/
def notesFewestUptoCard : Claim7 := { stood := { row := notesFewestUptoRow, standIns := [], harness := (true, "3caa8c9362156548e4a8710dc1c1d09101b2ea49941a8ddb4fa9287fec7731ee"), looks := false }, kinds := [], alts := [], laidByText := true, laidKinds := [.data, .pinned], laidTests := true, laidLooks := .later }
def NotesFewestUptoCardSaid : Prop := Claim7.holds Tryd.pinned (.plain (OpenSpec.upto notesFewestSpec)) notesFewestUptoCard

/-- THE SECOND FORM's CARD OF 'apographlaw50.NotesWider'. -/
def notesWiderUptoCard : Claim7 := { stood := { row := notesWiderUptoRow, standIns := [], harness := (true, "3caa8c9362156548e4a8710dc1c1d09101b2ea49941a8ddb4fa9287fec7731ee"), looks := false }, kinds := [], alts := [], laidByText := true, laidKinds := [.data, .pinned], laidTests := true, laidLooks := .later }
def NotesWiderUptoCardSaid : Prop := Claim7.holds Tryd.pinned (.plain (OpenSpec.upto notesWiderSpec)) notesWiderUptoCard

/-- THE SECOND FORM's CARD OF 'apographlaw50.NotesRoom'. -/
def notesRoomUptoCard : Claim7 := { stood := { row := notesRoomUptoRow, standIns := [], harness := (true, "3caa8c9362156548e4a8710dc1c1d09101b2ea49941a8ddb4fa9287fec7731ee"), looks := false }, kinds := [], alts := [], laidByText := true, laidKinds := [.data, .pinned], laidTests := true, laidLooks := .later }
def NotesRoomUptoCardSaid : Prop := Claim7.holds Tryd.pinned (.plain (OpenSpec.upto notesRoomSpec)) notesRoomUptoCard

/-- THE SECOND FORM's CARD OF 'apographlaw50.NotesOrder'. -/
def notesOrderUptoCard : Claim7 := { stood := { row := notesOrderUptoRow, standIns := [], harness := (true, "3caa8c9362156548e4a8710dc1c1d09101b2ea49941a8ddb4fa9287fec7731ee"), looks := false }, kinds := [], alts := [], laidByText := true, laidKinds := [.data, .pinned], laidTests := true, laidLooks := .later }
def NotesOrderUptoCardSaid : Prop := Claim7.holds Tryd.pinned (.plain (OpenSpec.upto notesOrderSpec)) notesOrderUptoCard

/-- THE SECOND FORM's CARD OF 'apographlaw50.NotesBlocks'. -/
def notesBlocksUptoCard : Claim7 := { stood := { row := notesBlocksUptoRow, standIns := [], harness := (true, "3caa8c9362156548e4a8710dc1c1d09101b2ea49941a8ddb4fa9287fec7731ee"), looks := false }, kinds := [], alts := [], laidByText := true, laidKinds := [.data, .pinned], laidTests := true, laidLooks := .later }
def NotesBlocksUptoCardSaid : Prop := Claim7.holds Tryd.pinned (.plain (OpenSpec.upto notesBlocksSpec)) notesBlocksUptoCard

/-- THE SECOND FORM's CARD OF 'apographlaw50.NotesHeights'. -/
def notesHeightsUptoCard : Claim7 := { stood := { row := notesHeightsUptoRow, standIns := [], harness := (true, "3caa8c9362156548e4a8710dc1c1d09101b2ea49941a8ddb4fa9287fec7731ee"), looks := false }, kinds := [], alts := [], laidByText := true, laidKinds := [.data, .pinned], laidTests := true, laidLooks := .later }
def NotesHeightsUptoCardSaid : Prop := Claim7.holds Tryd.pinned (.plain (OpenSpec.upto notesHeightsSpec)) notesHeightsUptoCard
end Rows
end Go.Proofs.YtajhkfmhoihjfaaDoor
