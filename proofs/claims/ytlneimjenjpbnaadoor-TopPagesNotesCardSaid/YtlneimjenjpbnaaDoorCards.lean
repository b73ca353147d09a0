/-
  DERIVED. GIVEN WITH THE SEED: THE CARDS: each row of YtlneimjenjpbnaaDoorRows.lean that lists a variable, with what it lists TIED to the program's text (the seventh form; the later family's looks); each row that meets fmt, with fmt's text TOLD by the authors' own Lean function (tested against real Go, not proved from fmt's source: count such statements apart). THE CARD IS WHAT COUNTS. Prove the row's statement (the work); the ties are given (YtlneimjenjpbnaaDoorTie.lean); close each card by the builder's one call (the guide's Derived/Test/ToyasCard.lean, 'card_holds'). Laid BY PROGRAM, IN A SANDBOX (cutbox-door.mjs). By AI agents, Wed Nov 11 2026. No macro, syntax, notation, axiom, sorry.
-/
import Derived.Test.YtlneimjenjpbnaaDoorRows
import GoSem.ClaimSeven
namespace Go.Proofs.YtlneimjenjpbnaaDoor
namespace Rows

/-- THE TIED CARD OF 'apographtop.TopPagesNotes'. -/
def topPagesNotesCard : Claim7 := { stood := { row := topPagesNotesRow, standIns := [], harness := (true, "935cc7e8cd7efbf44efafd82fd1b1dafc4cb202f28605c4863fae316d15db5bc"), looks := false }, kinds := [], alts := [], laidByText := true, laidKinds := [.data, .pinned], laidTests := true, laidLooks := .later }
def TopPagesNotesCardSaid : Prop := Claim7.holds Tryd.pinned (.plain (OpenSpec.ofChange topPagesNotesSpec)) topPagesNotesCard

/-- THE SECOND FORM's CARD OF 'apographtop.TopPagesNotes'. -/
def topPagesNotesUptoCard : Claim7 := { stood := { row := topPagesNotesUptoRow, standIns := [], harness := (true, "935cc7e8cd7efbf44efafd82fd1b1dafc4cb202f28605c4863fae316d15db5bc"), looks := false }, kinds := [], alts := [], laidByText := true, laidKinds := [.data, .pinned], laidTests := true, laidLooks := .later }
def TopPagesNotesUptoCardSaid : Prop := Claim7.holds Tryd.pinned (.plain (OpenSpec.upto topPagesNotesSpec)) topPagesNotesUptoCard
end Rows
end Go.Proofs.YtlneimjenjpbnaaDoor
