/-
  DERIVED. GIVEN WITH THE SEED: THE CARDS: each row of YtjhdeoniafahbaaGreatDoorRows.lean that lists a variable, with what it lists TIED to the program's text (the seventh form; the later family's looks); each row that meets fmt, with fmt's text TOLD by the authors' own Lean function (tested against real Go, not proved from fmt's source: count such statements apart). THE CARD IS WHAT COUNTS. Prove the row's statement (the work); the ties are given (YtjhdeoniafahbaaGreatDoorTie.lean); close each card by the builder's one call (the guide's Derived/Test/ToyasCard.lean, 'card_holds'). Laid BY PROGRAM, IN A SANDBOX (cutbox-door.mjs). By AI agents, Wed Nov 11 2026. No macro, syntax, notation, axiom, sorry.
-/
import Derived.Test.YtjhdeoniafahbaaGreatDoorRows
import GoSem.ClaimSeven
namespace Go.Proofs.YtjhdeoniafahbaaGreatDoor
namespace Rows

/-- THE TIED CARD OF 'apographlaw45.NotationEntries'. -/
def notationEntriesCard : Claim7 := { stood := { row := notationEntriesRow, standIns := [], harness := (true, "30ca3487273d847c83ac81715af46aea29b45d9cd236c515baa50f46b6026aae"), looks := true }, kinds := [], alts := [], laidByText := true, laidKinds := [.data, .data, .data, .data, .sentinel, .sentinel, .pinned], laidTests := true, laidLooks := .later }
def NotationEntriesCardSaid : Prop := Claim7.holds Tryz.pinned (.plain (OpenSpec.ofChange notationEntriesSpec)) notationEntriesCard

/-- THE TIED CARD OF 'apographlaw45.NotationLossless'. -/
def notationLosslessCard : Claim7 := { stood := { row := notationLosslessRow, standIns := [], harness := (true, "30ca3487273d847c83ac81715af46aea29b45d9cd236c515baa50f46b6026aae"), looks := true }, kinds := [], alts := [], laidByText := true, laidKinds := [.data, .data, .data, .data, .sentinel, .sentinel, .pinned], laidTests := true, laidLooks := .later }
def NotationLosslessCardSaid : Prop := Claim7.holds Tryz.pinned (.plain (OpenSpec.ofChange notationLosslessSpec)) notationLosslessCard

/-- THE TIED CARD OF 'apographlaw45.NotationResolves'. -/
def notationResolvesCard : Claim7 := { stood := { row := notationResolvesRow, standIns := [], harness := (true, "30ca3487273d847c83ac81715af46aea29b45d9cd236c515baa50f46b6026aae"), looks := true }, kinds := [], alts := [], laidByText := true, laidKinds := [.data, .data, .data, .data, .sentinel, .sentinel, .pinned], laidTests := true, laidLooks := .later }
def NotationResolvesCardSaid : Prop := Claim7.holds Tryz.pinned (.plain (OpenSpec.ofChange notationResolvesSpec)) notationResolvesCard

/-- THE TIED CARD OF 'apographlaw45.NotationLines'. -/
def notationLinesCard : Claim7 := { stood := { row := notationLinesRow, standIns := [], harness := (true, "30ca3487273d847c83ac81715af46aea29b45d9cd236c515baa50f46b6026aae"), looks := true }, kinds := [], alts := [], laidByText := true, laidKinds := [.data, .data, .data, .data, .sentinel, .sentinel, .pinned], laidTests := true, laidLooks := .later }
def NotationLinesCardSaid : Prop := Claim7.holds Tryz.pinned (.plain (OpenSpec.ofChange notationLinesSpec)) notationLinesCard

/-- THE TIED CARD OF 'apographlaw45.NotationVariants'. -/
def notationVariantsCard : Claim7 := { stood := { row := notationVariantsRow, standIns := [], harness := (true, "30ca3487273d847c83ac81715af46aea29b45d9cd236c515baa50f46b6026aae"), looks := true }, kinds := [], alts := [], laidByText := true, laidKinds := [.data, .data, .data, .data, .sentinel, .sentinel, .pinned], laidTests := true, laidLooks := .later }
def NotationVariantsCardSaid : Prop := Claim7.holds Tryz.pinned (.plain (OpenSpec.ofChange notationVariantsSpec)) notationVariantsCard

/-- THE TIED CARD OF 'apographlaw45.NotationSupport'. -/
def notationSupportCard : Claim7 := { stood := { row := notationSupportRow, standIns := [], harness := (true, "30ca3487273d847c83ac81715af46aea29b45d9cd236c515baa50f46b6026aae"), looks := true }, kinds := [], alts := [], laidByText := true, laidKinds := [.data, .data, .data, .data, .sentinel, .sentinel, .pinned], laidTests := true, laidLooks := .later }
def NotationSupportCardSaid : Prop := Claim7.holds Tryz.pinned (.plain (OpenSpec.ofChange notationSupportSpec)) notationSupportCard

/-- THE TIED CARD OF 'apographlaw45.NotationForms'. -/
def notationFormsCard : Claim7 := { stood := { row := notationFormsRow, standIns := [], harness := (true, "30ca3487273d847c83ac81715af46aea29b45d9cd236c515baa50f46b6026aae"), looks := true }, kinds := [], alts := [], laidByText := true, laidKinds := [.data, .data, .data, .data, .sentinel, .sentinel, .pinned], laidTests := true, laidLooks := .later }
def NotationFormsCardSaid : Prop := Claim7.holds Tryz.pinned (.plain (OpenSpec.ofChange notationFormsSpec)) notationFormsCard

/-- THE TIED CARD OF 'apographlaw45.NotationQuotes'. -/
def notationQuotesCard : Claim7 := { stood := { row := notationQuotesRow, standIns := [], harness := (true, "30ca3487273d847c83ac81715af46aea29b45d9cd236c515baa50f46b6026aae"), looks := true }, kinds := [], alts := [], laidByText := true, laidKinds := [.data, .data, .data, .data, .sentinel, .sentinel, .pinned], laidTests := true, laidLooks := .later }
def NotationQuotesCardSaid : Prop := Claim7.holds Tryz.pinned (.plain (OpenSpec.ofChange notationQuotesSpec)) notationQuotesCard

/-- THE SECOND FORM's CARD OF 'apographlaw45.NotationEntries'. -/
def notationEntriesUptoCard : Claim7 := { stood := { row := notationEntriesUptoRow, standIns := [], harness := (true, "30ca3487273d847c83ac81715af46aea29b45d9cd236c515baa50f46b6026aae"), looks := true }, kinds := [], alts := [], laidByText := true, laidKinds := [.data, .data, .data, .data, .sentinel, .sentinel, .pinned], laidTests := true, laidLooks := .later }
def NotationEntriesUptoCardSaid : Prop := Claim7.holds Tryz.pinned (.plain (OpenSpec.upto notationEntriesSpec)) notationEntriesUptoCard

/-- THE SECOND FORM's CARD OF 'apographlaw45.NotationLossless'. -/
def notationLosslessUptoCard : Claim7 := { stood := { row := notationLosslessUptoRow, standIns := [], harness := (true, "30ca3487273d847c83ac81715af46aea29b45d9cd236c515baa50f46b6026aae"), looks := true }, kinds := [], alts := [], laidByText := true, laidKinds := [.data, .data, .data, .data, .sentinel, .sentinel, .pinned], laidTests := true, laidLooks := .later }
def NotationLosslessUptoCardSaid : Prop := Claim7.holds Tryz.pinned (.plain (OpenSpec.upto notationLosslessSpec)) notationLosslessUptoCard

/-- THE SECOND FORM's CARD OF 'apographlaw45.NotationResolves'. -/
def notationResolvesUptoCard : Claim7 := { stood := { row := notationResolvesUptoRow, standIns := [], harness := (true, "30ca3487273d847c83ac81715af46aea29b45d9cd236c515baa50f46b6026aae"), looks := true }, kinds := [], alts := [], laidByText := true, laidKinds := [.data, .data, .data, .data, .sentinel, .sentinel, .pinned], laidTests := true, laidLooks := .later }
def NotationResolvesUptoCardSaid : Prop := Claim7.holds Tryz.pinned (.plain (OpenSpec.upto notationResolvesSpec)) notationResolvesUptoCard

/-- THE SECOND FORM's CARD OF 'apographlaw45.NotationLines'. -/
def notationLinesUptoCard : Claim7 := { stood := { row := notationLinesUptoRow, standIns := [], harness := (true, "30ca3487273d847c83ac81715af46aea29b45d9cd236c515baa50f46b6026aae"), looks := true }, kinds := [], alts := [], laidByText := true, laidKinds := [.data, .data, .data, .data, .sentinel, .sentinel, .pinned], laidTests := true, laidLooks := .later }
def NotationLinesUptoCardSaid : Prop := Claim7.holds Tryz.pinned (.plain (OpenSpec.upto notationLinesSpec)) notationLinesUptoCard

/-- THE SECOND FORM's CARD OF 'apographlaw45.NotationVariants'. -/
def notationVariantsUptoCard : Claim7 := { stood := { row := notationVariantsUptoRow, standIns := [], harness := (true, "30ca3487273d847c83ac81715af46aea29b45d9cd236c515baa50f46b6026aae"), looks := true }, kinds := [], alts := [], laidByText := true, laidKinds := [.data, .data, .data, .data, .sentinel, .sentinel, .pinned], laidTests := true, laidLooks := .later }
def NotationVariantsUptoCardSaid : Prop := Claim7.holds Tryz.pinned (.plain (OpenSpec.upto notationVariantsSpec)) notationVariantsUptoCard

/-- THE SECOND FORM's CARD OF 'apographlaw45.NotationSupport'. -/
def notationSupportUptoCard : Claim7 := { stood := { row := notationSupportUptoRow, standIns := [], harness := (true, "30ca3487273d847c83ac81715af46aea29b45d9cd236c515baa50f46b6026aae"), looks := true }, kinds := [], alts := [], laidByText := true, laidKinds := [.data, .data, .data, .data, .sentinel, .sentinel, .pinned], laidTests := true, laidLooks := .later }
def NotationSupportUptoCardSaid : Prop := Claim7.holds Tryz.pinned (.plain (OpenSpec.upto notationSupportSpec)) notationSupportUptoCard

/-- THE SECOND FORM's CARD OF 'apographlaw45.NotationForms'. -/
def notationFormsUptoCard : Claim7 := { stood := { row := notationFormsUptoRow, standIns := [], harness := (true, "30ca3487273d847c83ac81715af46aea29b45d9cd236c515baa50f46b6026aae"), looks := true }, kinds := [], alts := [], laidByText := true, laidKinds := [.data, .data, .data, .data, .sentinel, .sentinel, .pinned], laidTests := true, laidLooks := .later }
def NotationFormsUptoCardSaid : Prop := Claim7.holds Tryz.pinned (.plain (OpenSpec.upto notationFormsSpec)) notationFormsUptoCard

/-- THE SECOND FORM's CARD OF 'apographlaw45.NotationQuotes'. -/
def notationQuotesUptoCard : Claim7 := { stood := { row := notationQuotesUptoRow, standIns := [], harness := (true, "30ca3487273d847c83ac81715af46aea29b45d9cd236c515baa50f46b6026aae"), looks := true }, kinds := [], alts := [], laidByText := true, laidKinds := [.data, .data, .data, .data, .sentinel, .sentinel, .pinned], laidTests := true, laidLooks := .later }
def NotationQuotesUptoCardSaid : Prop := Claim7.holds Tryz.pinned (.plain (OpenSpec.upto notationQuotesSpec)) notationQuotesUptoCard
end Rows
end Go.Proofs.YtjhdeoniafahbaaGreatDoor
