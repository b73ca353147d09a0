/-
  DERIVED. GIVEN WITH THE SEED: THE CARDS: each row of YtmbehkanhefcpaaGreatDoorRows.lean that lists a variable, with what it lists TIED to the program's text (the seventh form; the later family's looks); each row that meets fmt, with fmt's text TOLD by the authors' own Lean function (tested against real Go, not proved from fmt's source: count such statements apart). THE CARD IS WHAT COUNTS. Prove the row's statement (the work); the ties are given (YtmbehkanhefcpaaGreatDoorTie.lean); close each card by the builder's one call (the guide's Derived/Test/ToyasCard.lean, 'card_holds'). Laid BY PROGRAM, IN A SANDBOX (cutbox-door.mjs). By AI agents, Wed Nov 11 2026. No macro, syntax, notation, axiom, sorry.
-/
import Derived.Test.YtmbehkanhefcpaaGreatDoorRows
import GoSem.ClaimSeven
namespace Go.Proofs.YtmbehkanhefcpaaGreatDoor
namespace Rows

/-- THE TIED CARD OF 'apographlaw43.LemmaReads'. -/
def lemmaReadsCard : Claim7 := { stood := { row := lemmaReadsRow, standIns := [], harness := (true, "1c9ac7fb8d425eac7754a76f540872f4d42e72af438e08f4572692f9db2b0154"), looks := true }, kinds := [], alts := [], laidByText := true, laidKinds := [.data, .data, .data, .data, .sentinel, .sentinel, .pinned], laidTests := true, laidLooks := .later }
def LemmaReadsCardSaid : Prop := Claim7.holds Tryz.pinned (.plain (OpenSpec.ofChange lemmaReadsSpec)) lemmaReadsCard

/-- THE SECOND FORM's CARD OF 'apographlaw43.LemmaReads'. -/
def lemmaReadsUptoCard : Claim7 := { stood := { row := lemmaReadsUptoRow, standIns := [], harness := (true, "1c9ac7fb8d425eac7754a76f540872f4d42e72af438e08f4572692f9db2b0154"), looks := true }, kinds := [], alts := [], laidByText := true, laidKinds := [.data, .data, .data, .data, .sentinel, .sentinel, .pinned], laidTests := true, laidLooks := .later }
def LemmaReadsUptoCardSaid : Prop := Claim7.holds Tryz.pinned (.plain (OpenSpec.upto lemmaReadsSpec)) lemmaReadsUptoCard
end Rows
end Go.Proofs.YtmbehkanhefcpaaGreatDoor
