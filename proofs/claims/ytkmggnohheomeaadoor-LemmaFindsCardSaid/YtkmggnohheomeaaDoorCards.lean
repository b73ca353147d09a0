/-
  DERIVED. GIVEN WITH THE SEED: THE CARDS: each row of YtkmggnohheomeaaDoorRows.lean that lists a variable, with what it lists TIED to the program's text (the seventh form; the later family's looks); each row that meets fmt, with fmt's text TOLD by the authors' own Lean function (tested against real Go, not proved from fmt's source: count such statements apart). THE CARD IS WHAT COUNTS. Prove the row's statement (the work); the ties are given (YtkmggnohheomeaaDoorTie.lean); close each card by the builder's one call (the guide's Derived/Test/ToyasCard.lean, 'card_holds'). Laid BY PROGRAM, IN A SANDBOX (cutbox-door.mjs). By AI agents, Wed Nov 11 2026. No macro, syntax, notation, axiom, sorry.
-/
import Derived.Test.YtkmggnohheomeaaDoorRows
import GoSem.ClaimSeven
namespace Go.Proofs.YtkmggnohheomeaaDoor
namespace Rows

/-- THE TIED CARD OF 'apographlaw43.LemmaOnly'. -/
def lemmaOnlyCard : Claim7 := { stood := { row := lemmaOnlyRow, standIns := [], harness := (true, "a9c7e50369b3aa11621cf9ae5db7338ab96c3a31d344f7f0e1d725e2b112856d"), looks := true }, kinds := [], alts := [], laidByText := true, laidKinds := [.data, .data, .data, .sentinel, .sentinel], laidTests := true, laidLooks := .later }
def LemmaOnlyCardSaid : Prop := Claim7.holds Tryd.pinned (.plain (OpenSpec.ofChange lemmaOnlySpec)) lemmaOnlyCard

/-- THE TIED CARD OF 'apographlaw43.LemmaNumbers'. -/
def lemmaNumbersCard : Claim7 := { stood := { row := lemmaNumbersRow, standIns := [], harness := (true, "a9c7e50369b3aa11621cf9ae5db7338ab96c3a31d344f7f0e1d725e2b112856d"), looks := true }, kinds := [], alts := [], laidByText := true, laidKinds := [.data, .data, .data, .sentinel, .sentinel], laidTests := true, laidLooks := .later }
def LemmaNumbersCardSaid : Prop := Claim7.holds Tryd.pinned (.plain (OpenSpec.ofChange lemmaNumbersSpec)) lemmaNumbersCard

/-- THE TIED CARD OF 'apographlaw43.LemmaFinds'. -/
def lemmaFindsCard : Claim7 := { stood := { row := lemmaFindsRow, standIns := [], harness := (true, "a9c7e50369b3aa11621cf9ae5db7338ab96c3a31d344f7f0e1d725e2b112856d"), looks := true }, kinds := [], alts := [], laidByText := true, laidKinds := [.data, .data, .data, .sentinel, .sentinel], laidTests := true, laidLooks := .later }
def LemmaFindsCardSaid : Prop := Claim7.holds Tryd.pinned (.plain (OpenSpec.ofChange lemmaFindsSpec)) lemmaFindsCard

/-- THE TIED CARD OF 'apographlaw43.LemmaFound'. -/
def lemmaFoundCard : Claim7 := { stood := { row := lemmaFoundRow, standIns := [], harness := (true, "a9c7e50369b3aa11621cf9ae5db7338ab96c3a31d344f7f0e1d725e2b112856d"), looks := true }, kinds := [], alts := [], laidByText := true, laidKinds := [.data, .data, .data, .sentinel, .sentinel], laidTests := true, laidLooks := .later }
def LemmaFoundCardSaid : Prop := Claim7.holds Tryd.pinned (.plain (OpenSpec.ofChange lemmaFoundSpec)) lemmaFoundCard

/-- THE TIED CARD OF 'apographlaw43.LemmaEach'. -/
def lemmaEachCard : Claim7 := { stood := { row := lemmaEachRow, standIns := [], harness := (true, "a9c7e50369b3aa11621cf9ae5db7338ab96c3a31d344f7f0e1d725e2b112856d"), looks := true }, kinds := [], alts := [], laidByText := true, laidKinds := [.data, .data, .data, .sentinel, .sentinel], laidTests := true, laidLooks := .later }
def LemmaEachCardSaid : Prop := Claim7.holds Tryd.pinned (.plain (OpenSpec.ofChange lemmaEachSpec)) lemmaEachCard

/-- THE TIED CARD OF 'apographlaw43.LemmaOthers'. -/
def lemmaOthersCard : Claim7 := { stood := { row := lemmaOthersRow, standIns := [], harness := (true, "a9c7e50369b3aa11621cf9ae5db7338ab96c3a31d344f7f0e1d725e2b112856d"), looks := true }, kinds := [], alts := [], laidByText := true, laidKinds := [.data, .data, .data, .sentinel, .sentinel], laidTests := true, laidLooks := .later }
def LemmaOthersCardSaid : Prop := Claim7.holds Tryd.pinned (.plain (OpenSpec.ofChange lemmaOthersSpec)) lemmaOthersCard

/-- THE TIED CARD OF 'apographlaw43.LemmaTexts'. -/
def lemmaTextsCard : Claim7 := { stood := { row := lemmaTextsRow, standIns := [], harness := (true, "a9c7e50369b3aa11621cf9ae5db7338ab96c3a31d344f7f0e1d725e2b112856d"), looks := true }, kinds := [], alts := [], laidByText := true, laidKinds := [.data, .data, .data, .data, .sentinel, .sentinel, .pinned], laidTests := true, laidLooks := .later }
def LemmaTextsCardSaid : Prop := Claim7.holds Tryd.pinned (.plain (OpenSpec.ofChange lemmaTextsSpec)) lemmaTextsCard

/-- THE SECOND FORM's CARD OF 'apographlaw43.LemmaOnly'. -/
def lemmaOnlyUptoCard : Claim7 := { stood := { row := lemmaOnlyUptoRow, standIns := [], harness := (true, "a9c7e50369b3aa11621cf9ae5db7338ab96c3a31d344f7f0e1d725e2b112856d"), looks := true }, kinds := [], alts := [], laidByText := true, laidKinds := [.data, .data, .data, .sentinel, .sentinel], laidTests := true, laidLooks := .later }
def LemmaOnlyUptoCardSaid : Prop := Claim7.holds Tryd.pinned (.plain (OpenSpec.upto lemmaOnlySpec)) lemmaOnlyUptoCard

/-- THE SECOND FORM's CARD OF 'apographlaw43.LemmaNumbers'. -/
def lemmaNumbersUptoCard : Claim7 := { stood := { row := lemmaNumbersUptoRow, standIns := [], harness := (true, "a9c7e50369b3aa11621cf9ae5db7338ab96c3a31d344f7f0e1d725e2b112856d"), looks := true }, kinds := [], alts := [], laidByText := true, laidKinds := [.data, .data, .data, .sentinel, .sentinel], laidTests := true, laidLooks := .later }
def LemmaNumbersUptoCardSaid : Prop := Claim7.holds Tryd.pinned (.plain (OpenSpec.upto lemmaNumbersSpec)) lemmaNumbersUptoCard

/-- THE SECOND FORM's CARD OF 'apographlaw43.LemmaFinds'. -/
def lemmaFindsUptoCard : Claim7 := { stood := { row := lemmaFindsUptoRow, standIns := [], harness := (true, "a9c7e50369b3aa11621cf9ae5db7338ab96c3a31d344f7f0e1d725e2b112856d"), looks := true }, kinds := [], alts := [], laidByText := true, laidKinds := [.data, .data, .data, .sentinel, .sentinel], laidTests := true, laidLooks := .later }
def LemmaFindsUptoCardSaid : Prop := Claim7.holds Tryd.pinned (.plain (OpenSpec.upto lemmaFindsSpec)) lemmaFindsUptoCard

/-- THE SECOND FORM's CARD OF 'apographlaw43.LemmaFound'. -/
def lemmaFoundUptoCard : Claim7 := { stood := { row := lemmaFoundUptoRow, standIns := [], harness := (true, "a9c7e50369b3aa11621cf9ae5db7338ab96c3a31d344f7f0e1d725e2b112856d"), looks := true }, kinds := [], alts := [], laidByText := true, laidKinds := [.data, .data, .data, .sentinel, .sentinel], laidTests := true, laidLooks := .later }
def LemmaFoundUptoCardSaid : Prop := Claim7.holds Tryd.pinned (.plain (OpenSpec.upto lemmaFoundSpec)) lemmaFoundUptoCard

/-- THE SECOND FORM's CARD OF 'apographlaw43.LemmaEach'. -/
def lemmaEachUptoCard : Claim7 := { stood := { row := lemmaEachUptoRow, standIns := [], harness := (true, "a9c7e50369b3aa11621cf9ae5db7338ab96c3a31d344f7f0e1d725e2b112856d"), looks := true }, kinds := [], alts := [], laidByText := true, laidKinds := [.data, .data, .data, .sentinel, .sentinel], laidTests := true, laidLooks := .later }
def LemmaEachUptoCardSaid : Prop := Claim7.holds Tryd.pinned (.plain (OpenSpec.upto lemmaEachSpec)) lemmaEachUptoCard

/-- THE SECOND FORM's CARD OF 'apographlaw43.LemmaOthers'. -/
def lemmaOthersUptoCard : Claim7 := { stood := { row := lemmaOthersUptoRow, standIns := [], harness := (true, "a9c7e50369b3aa11621cf9ae5db7338ab96c3a31d344f7f0e1d725e2b112856d"), looks := true }, kinds := [], alts := [], laidByText := true, laidKinds := [.data, .data, .data, .sentinel, .sentinel], laidTests := true, laidLooks := .later }
def LemmaOthersUptoCardSaid : Prop := Claim7.holds Tryd.pinned (.plain (OpenSpec.upto lemmaOthersSpec)) lemmaOthersUptoCard

/-- THE SECOND FORM's CARD OF 'apographlaw43.LemmaTexts'. -/
def lemmaTextsUptoCard : Claim7 := { stood := { row := lemmaTextsUptoRow, standIns := [], harness := (true, "a9c7e50369b3aa11621cf9ae5db7338ab96c3a31d344f7f0e1d725e2b112856d"), looks := true }, kinds := [], alts := [], laidByText := true, laidKinds := [.data, .data, .data, .data, .sentinel, .sentinel, .pinned], laidTests := true, laidLooks := .later }
def LemmaTextsUptoCardSaid : Prop := Claim7.holds Tryd.pinned (.plain (OpenSpec.upto lemmaTextsSpec)) lemmaTextsUptoCard
end Rows
end Go.Proofs.YtkmggnohheomeaaDoor
