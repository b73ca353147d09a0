/-
  DERIVED. GIVEN WITH THE SEED: THE CARDS: each row of YtigaflmhdbgmdaaDoorRows.lean that lists a variable, with what it lists TIED to the program's text (the seventh form; the later family's looks); each row that meets fmt, with fmt's text TOLD by the authors' own Lean function (tested against real Go, not proved from fmt's source: count such statements apart). THE CARD IS WHAT COUNTS. Prove the row's statement (the work); the ties are given (YtigaflmhdbgmdaaDoorTie.lean); close each card by the builder's one call (the guide's Derived/Test/ToyasCard.lean, 'card_holds'). Laid BY PROGRAM, IN A SANDBOX (cutbox-door.mjs). By AI agents, Wed Nov 11 2026. No macro, syntax, notation, axiom, sorry.
-/
import Derived.Test.YtigaflmhdbgmdaaDoorRows
import GoSem.ClaimSeven
namespace Go.Proofs.YtigaflmhdbgmdaaDoor
namespace Rows

/-- THE TIED CARD OF 'apographlaw42.SiglaTexts'. -/
def siglaTextsCard : Claim7 := { stood := { row := siglaTextsRow, standIns := [], harness := (true, "923855db674a9f01262dce21c719c7d231b8adbee0394332c6f35eed3198b8e2"), looks := false }, kinds := [], alts := [], laidByText := true, laidKinds := [.data, .pinned], laidTests := true, laidLooks := .later }
def SiglaTextsCardSaid : Prop := Claim7.holds Tryd.pinned (.plain (OpenSpec.ofChange siglaTextsSpec)) siglaTextsCard

/-- THE TIED CARD OF 'apographlaw42.SiglaLists'. -/
def siglaListsCard : Claim7 := { stood := { row := siglaListsRow, standIns := [], harness := (true, "923855db674a9f01262dce21c719c7d231b8adbee0394332c6f35eed3198b8e2"), looks := false }, kinds := [], alts := [], laidByText := true, laidKinds := [.data, .pinned], laidTests := true, laidLooks := .later }
def SiglaListsCardSaid : Prop := Claim7.holds Tryd.pinned (.plain (OpenSpec.ofChange siglaListsSpec)) siglaListsCard

/-- THE SECOND FORM's CARD OF 'apographlaw42.SiglaTexts'. -/
def siglaTextsUptoCard : Claim7 := { stood := { row := siglaTextsUptoRow, standIns := [], harness := (true, "923855db674a9f01262dce21c719c7d231b8adbee0394332c6f35eed3198b8e2"), looks := false }, kinds := [], alts := [], laidByText := true, laidKinds := [.data, .pinned], laidTests := true, laidLooks := .later }
def SiglaTextsUptoCardSaid : Prop := Claim7.holds Tryd.pinned (.plain (OpenSpec.upto siglaTextsSpec)) siglaTextsUptoCard

/-- THE SECOND FORM's CARD OF 'apographlaw42.SiglaLists'. -/
def siglaListsUptoCard : Claim7 := { stood := { row := siglaListsUptoRow, standIns := [], harness := (true, "923855db674a9f01262dce21c719c7d231b8adbee0394332c6f35eed3198b8e2"), looks := false }, kinds := [], alts := [], laidByText := true, laidKinds := [.data, .pinned], laidTests := true, laidLooks := .later }
def SiglaListsUptoCardSaid : Prop := Claim7.holds Tryd.pinned (.plain (OpenSpec.upto siglaListsSpec)) siglaListsUptoCard
end Rows
end Go.Proofs.YtigaflmhdbgmdaaDoor
