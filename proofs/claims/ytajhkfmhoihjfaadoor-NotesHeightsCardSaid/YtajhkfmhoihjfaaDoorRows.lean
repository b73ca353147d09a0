/-
  NARROWER THAN 'FOR EVERY INPUT', by the rows' own cells (each row's printed sentence says how): NotesSets: laid · NotesBack: laid · NotesFewest: laid · NotesWider: laid · NotesRoom: laid · NotesOrder: laid · NotesBlocks: laid · NotesHeights: laid.
  DERIVED. THE GIVEN ROWS OF THIS SEAT. 8 by the template 'for every input the law returns true; each argument reads behind the call as it read before'; 0 by the template 'total and deterministic' (their statements: YtajhkfmhoihjfaaDoorTotals.lean).
  GIVEN WITH THE SEED: the statements are not yours to turn. If you find one false, say at which input.
  Laid BY PROGRAM, IN A SANDBOX (cutbox-rows.mjs): the forced cells as the released guide's own fill.sh prints them over the translation 44a338336532fcc2… (all of the seat's roots in one cut). By AI agents, Wed Nov 11 2026. No macro, syntax, notation, axiom, sorry.
-/
import Derived.Test.YtajhkfmhoihjfaaDoorChecked
import GoSem.PinnedTables
import GoSem.Claim
import GoSem.ClaimJoined
import GoSem.ClaimMapViews
import Derived.JoinedTies
import Derived.KernelRfl
namespace Go.Proofs.YtajhkfmhoihjfaaDoor
/- THE CELL 'sum', in the pinned program and in every row, IS THE sha256 OF THE DUMP (.gsa) THAT YtajhkfmhoihjfaaDoorProg.lean LOADS. Nothing in Lean hashes anything: it is a label: what it is worth is what the hold of that sum in a sandbox is worth. -/
noncomputable def Tryd.pinned : Pinned := { name := "ytajhkfmhoihjfaadoor", sum := "44a338336532fcc2f93911e4a69376ade9f545a3dfb619f56cee8a11c7dceabe", checked := Tryd.checked }
namespace Rows
def none {H : Type} : Left H := { results := [], args := [] }

/- WHAT THE LISTED PACKAGE-LEVEL VARIABLES READ AS WHEN THE CALL BEGINS. Each datum BY PROGRAM (the guide's laid-datum.mjs) off the statement by which the dump's own 'gosem.cut.vars' lays the variable. In a bare row this is a premise. The card (YtajhkfmhoihjfaaDoorCards.lean) ties it to the program's text. -/
def laid_unicode_utf8_acceptRanges {H : Type} : DataW H := .agg [.agg [.lit (.int .u8 128), .lit (.int .u8 191)], .agg [.lit (.int .u8 160), .lit (.int .u8 191)], .agg [.lit (.int .u8 128), .lit (.int .u8 159)], .agg [.lit (.int .u8 144), .lit (.int .u8 191)], .agg [.lit (.int .u8 128), .lit (.int .u8 143)], .agg [.lit (.int .u8 0), .lit (.int .u8 0)], .agg [.lit (.int .u8 0), .lit (.int .u8 0)], .agg [.lit (.int .u8 0), .lit (.int .u8 0)], .agg [.lit (.int .u8 0), .lit (.int .u8 0)], .agg [.lit (.int .u8 0), .lit (.int .u8 0)], .agg [.lit (.int .u8 0), .lit (.int .u8 0)], .agg [.lit (.int .u8 0), .lit (.int .u8 0)], .agg [.lit (.int .u8 0), .lit (.int .u8 0)], .agg [.lit (.int .u8 0), .lit (.int .u8 0)], .agg [.lit (.int .u8 0), .lit (.int .u8 0)], .agg [.lit (.int .u8 0), .lit (.int .u8 0)]]
/-- One of Go's own tables, pinned by name: the form's constant. -/
def laid_unicode_utf8_first : DataW Unit := Go.Pinned.utf8First

/-- 'apographlaw50.NotesSets': WHATEVER THE INPUT: true; the input reads as it did. -/
def notesSetsSpec : ChangeSpec := { name := "notesSets", fn := fun _ => fun
  | [d1, d2, d3] => { results := [.lit (.bool true)], args := [d1, d2, d3] }
  | _ => none }
def notesSetsRow : OpenClaim := { program := "ytajhkfmhoihjfaadoor", sum := "44a338336532fcc2f93911e4a69376ade9f545a3dfb619f56cee8a11c7dceabe", func := "apograph/apographlaw50.NotesSets", spec := "notesSets", inPlace := ["internal/bytealg.IndexByteString", "internal/bytealg.IndexString", "internal/bytealg.CountString", "internal/abi.NoEscape", "internal/bytealg.MakeNoZero"], unfollowed := true, recurses := true, named := ["internal/bytealg.MaxLen", "unicode/utf8.first", "unicode/utf8.acceptRanges"], apart := false, laid := [("unicode/utf8.acceptRanges", laid_unicode_utf8_acceptRanges), ("unicode/utf8.first", laid_unicode_utf8_first)] }
def NotesSetsSaid : Prop := notesSetsRow.holds Tryd.pinned (OpenSpec.ofChange notesSetsSpec)

/-- ITS FALSE NEIGHBOUR: 'it returns false'. Refute it at one input. -/
def notesSetsWrong : ChangeSpec := { name := "notesSets", fn := fun _ => fun
  | [d1, d2, d3] => { results := [.lit (.bool false)], args := [d1, d2, d3] }
  | _ => none }
def NotesSetsWrongFalsely : Prop := notesSetsRow.holds Tryd.pinned (OpenSpec.ofChange notesSetsWrong)

/-- 'apographlaw50.NotesBack': WHATEVER THE INPUT: true; the input reads as it did. -/
def notesBackSpec : ChangeSpec := { name := "notesBack", fn := fun _ => fun
  | [d1, d2, d3, d4] => { results := [.lit (.bool true)], args := [d1, d2, d3, d4] }
  | _ => none }
def notesBackRow : OpenClaim := { program := "ytajhkfmhoihjfaadoor", sum := "44a338336532fcc2f93911e4a69376ade9f545a3dfb619f56cee8a11c7dceabe", func := "apograph/apographlaw50.NotesBack", spec := "notesBack", inPlace := ["internal/bytealg.IndexByteString", "internal/bytealg.IndexString", "internal/bytealg.CountString", "internal/abi.NoEscape", "internal/bytealg.MakeNoZero"], unfollowed := true, recurses := true, named := ["internal/bytealg.MaxLen", "unicode/utf8.first", "unicode/utf8.acceptRanges"], apart := false, laid := [("unicode/utf8.acceptRanges", laid_unicode_utf8_acceptRanges), ("unicode/utf8.first", laid_unicode_utf8_first)] }
def NotesBackSaid : Prop := notesBackRow.holds Tryd.pinned (OpenSpec.ofChange notesBackSpec)

/-- ITS FALSE NEIGHBOUR: 'it returns false'. Refute it at one input. -/
def notesBackWrong : ChangeSpec := { name := "notesBack", fn := fun _ => fun
  | [d1, d2, d3, d4] => { results := [.lit (.bool false)], args := [d1, d2, d3, d4] }
  | _ => none }
def NotesBackWrongFalsely : Prop := notesBackRow.holds Tryd.pinned (OpenSpec.ofChange notesBackWrong)

/-- 'apographlaw50.NotesFewest': WHATEVER THE INPUT: true; the input reads as it did. -/
def notesFewestSpec : ChangeSpec := { name := "notesFewest", fn := fun _ => fun
  | [d1, d2, d3, d4, d5] => { results := [.lit (.bool true)], args := [d1, d2, d3, d4, d5] }
  | _ => none }
def notesFewestRow : OpenClaim := { program := "ytajhkfmhoihjfaadoor", sum := "44a338336532fcc2f93911e4a69376ade9f545a3dfb619f56cee8a11c7dceabe", func := "apograph/apographlaw50.NotesFewest", spec := "notesFewest", inPlace := ["internal/bytealg.IndexByteString", "internal/bytealg.IndexString", "internal/bytealg.CountString", "internal/abi.NoEscape", "internal/bytealg.MakeNoZero"], unfollowed := true, recurses := true, named := ["internal/bytealg.MaxLen", "unicode/utf8.first", "unicode/utf8.acceptRanges"], apart := false, laid := [("unicode/utf8.acceptRanges", laid_unicode_utf8_acceptRanges), ("unicode/utf8.first", laid_unicode_utf8_first)] }
def NotesFewestSaid : Prop := notesFewestRow.holds Tryd.pinned (OpenSpec.ofChange notesFewestSpec)

/-- ITS FALSE NEIGHBOUR: 'it returns false'. Refute it at one input. -/
def notesFewestWrong : ChangeSpec := { name := "notesFewest", fn := fun _ => fun
  | [d1, d2, d3, d4, d5] => { results := [.lit (.bool false)], args := [d1, d2, d3, d4, d5] }
  | _ => none }
def NotesFewestWrongFalsely : Prop := notesFewestRow.holds Tryd.pinned (OpenSpec.ofChange notesFewestWrong)

/-- 'apographlaw50.NotesWider': WHATEVER THE INPUT: true; the input reads as it did. -/
def notesWiderSpec : ChangeSpec := { name := "notesWider", fn := fun _ => fun
  | [d1, d2, d3, d4, d5] => { results := [.lit (.bool true)], args := [d1, d2, d3, d4, d5] }
  | _ => none }
def notesWiderRow : OpenClaim := { program := "ytajhkfmhoihjfaadoor", sum := "44a338336532fcc2f93911e4a69376ade9f545a3dfb619f56cee8a11c7dceabe", func := "apograph/apographlaw50.NotesWider", spec := "notesWider", inPlace := ["internal/bytealg.IndexByteString", "internal/bytealg.IndexString", "internal/bytealg.CountString", "internal/abi.NoEscape", "internal/bytealg.MakeNoZero"], unfollowed := true, recurses := true, named := ["internal/bytealg.MaxLen", "unicode/utf8.first", "unicode/utf8.acceptRanges"], apart := false, laid := [("unicode/utf8.acceptRanges", laid_unicode_utf8_acceptRanges), ("unicode/utf8.first", laid_unicode_utf8_first)] }
def NotesWiderSaid : Prop := notesWiderRow.holds Tryd.pinned (OpenSpec.ofChange notesWiderSpec)

/-- ITS FALSE NEIGHBOUR: 'it returns false'. Refute it at one input. -/
def notesWiderWrong : ChangeSpec := { name := "notesWider", fn := fun _ => fun
  | [d1, d2, d3, d4, d5] => { results := [.lit (.bool false)], args := [d1, d2, d3, d4, d5] }
  | _ => none }
def NotesWiderWrongFalsely : Prop := notesWiderRow.holds Tryd.pinned (OpenSpec.ofChange notesWiderWrong)

/-- 'apographlaw50.NotesRoom': WHATEVER THE INPUT: true; the input reads as it did. -/
def notesRoomSpec : ChangeSpec := { name := "notesRoom", fn := fun _ => fun
  | [d1, d2, d3, d4] => { results := [.lit (.bool true)], args := [d1, d2, d3, d4] }
  | _ => none }
def notesRoomRow : OpenClaim := { program := "ytajhkfmhoihjfaadoor", sum := "44a338336532fcc2f93911e4a69376ade9f545a3dfb619f56cee8a11c7dceabe", func := "apograph/apographlaw50.NotesRoom", spec := "notesRoom", inPlace := ["internal/bytealg.IndexByteString", "internal/bytealg.IndexString", "internal/bytealg.CountString", "internal/abi.NoEscape", "internal/bytealg.MakeNoZero"], unfollowed := true, recurses := true, named := ["internal/bytealg.MaxLen", "unicode/utf8.first", "unicode/utf8.acceptRanges"], apart := false, laid := [("unicode/utf8.acceptRanges", laid_unicode_utf8_acceptRanges), ("unicode/utf8.first", laid_unicode_utf8_first)] }
def NotesRoomSaid : Prop := notesRoomRow.holds Tryd.pinned (OpenSpec.ofChange notesRoomSpec)

/-- ITS FALSE NEIGHBOUR: 'it returns false'. Refute it at one input. -/
def notesRoomWrong : ChangeSpec := { name := "notesRoom", fn := fun _ => fun
  | [d1, d2, d3, d4] => { results := [.lit (.bool false)], args := [d1, d2, d3, d4] }
  | _ => none }
def NotesRoomWrongFalsely : Prop := notesRoomRow.holds Tryd.pinned (OpenSpec.ofChange notesRoomWrong)

/-- 'apographlaw50.NotesOrder': WHATEVER THE INPUT: true; the input reads as it did. -/
def notesOrderSpec : ChangeSpec := { name := "notesOrder", fn := fun _ => fun
  | [d1, d2] => { results := [.lit (.bool true)], args := [d1, d2] }
  | _ => none }
def notesOrderRow : OpenClaim := { program := "ytajhkfmhoihjfaadoor", sum := "44a338336532fcc2f93911e4a69376ade9f545a3dfb619f56cee8a11c7dceabe", func := "apograph/apographlaw50.NotesOrder", spec := "notesOrder", inPlace := ["internal/bytealg.IndexByteString", "internal/bytealg.IndexString", "internal/bytealg.CountString", "internal/abi.NoEscape", "internal/bytealg.MakeNoZero"], unfollowed := true, recurses := true, named := ["internal/bytealg.MaxLen", "unicode/utf8.first", "unicode/utf8.acceptRanges"], apart := false, laid := [("unicode/utf8.acceptRanges", laid_unicode_utf8_acceptRanges), ("unicode/utf8.first", laid_unicode_utf8_first)] }
def NotesOrderSaid : Prop := notesOrderRow.holds Tryd.pinned (OpenSpec.ofChange notesOrderSpec)

/-- ITS FALSE NEIGHBOUR: 'it returns false'. Refute it at one input. -/
def notesOrderWrong : ChangeSpec := { name := "notesOrder", fn := fun _ => fun
  | [d1, d2] => { results := [.lit (.bool false)], args := [d1, d2] }
  | _ => none }
def NotesOrderWrongFalsely : Prop := notesOrderRow.holds Tryd.pinned (OpenSpec.ofChange notesOrderWrong)

/-- 'apographlaw50.NotesBlocks': WHATEVER THE INPUT: true; the input reads as it did. -/
def notesBlocksSpec : ChangeSpec := { name := "notesBlocks", fn := fun _ => fun
  | [d] => { results := [.lit (.bool true)], args := [d] }
  | _ => none }
def notesBlocksRow : OpenClaim := { program := "ytajhkfmhoihjfaadoor", sum := "44a338336532fcc2f93911e4a69376ade9f545a3dfb619f56cee8a11c7dceabe", func := "apograph/apographlaw50.NotesBlocks", spec := "notesBlocks", inPlace := ["internal/bytealg.IndexByteString", "internal/bytealg.IndexString", "internal/bytealg.CountString", "internal/abi.NoEscape", "internal/bytealg.MakeNoZero"], unfollowed := true, recurses := true, named := ["internal/bytealg.MaxLen", "unicode/utf8.first", "unicode/utf8.acceptRanges"], apart := false, laid := [("unicode/utf8.acceptRanges", laid_unicode_utf8_acceptRanges), ("unicode/utf8.first", laid_unicode_utf8_first)] }
def NotesBlocksSaid : Prop := notesBlocksRow.holds Tryd.pinned (OpenSpec.ofChange notesBlocksSpec)

/-- ITS FALSE NEIGHBOUR: 'it returns false'. Refute it at one input. -/
def notesBlocksWrong : ChangeSpec := { name := "notesBlocks", fn := fun _ => fun
  | [d] => { results := [.lit (.bool false)], args := [d] }
  | _ => none }
def NotesBlocksWrongFalsely : Prop := notesBlocksRow.holds Tryd.pinned (OpenSpec.ofChange notesBlocksWrong)

/-- 'apographlaw50.NotesHeights': WHATEVER THE INPUT: true; the input reads as it did. -/
def notesHeightsSpec : ChangeSpec := { name := "notesHeights", fn := fun _ => fun
  | [d1, d2] => { results := [.lit (.bool true)], args := [d1, d2] }
  | _ => none }
def notesHeightsRow : OpenClaim := { program := "ytajhkfmhoihjfaadoor", sum := "44a338336532fcc2f93911e4a69376ade9f545a3dfb619f56cee8a11c7dceabe", func := "apograph/apographlaw50.NotesHeights", spec := "notesHeights", inPlace := ["internal/bytealg.IndexByteString", "internal/bytealg.IndexString", "internal/bytealg.CountString", "internal/abi.NoEscape", "internal/bytealg.MakeNoZero"], unfollowed := true, recurses := true, named := ["internal/bytealg.MaxLen", "unicode/utf8.first", "unicode/utf8.acceptRanges"], apart := false, laid := [("unicode/utf8.acceptRanges", laid_unicode_utf8_acceptRanges), ("unicode/utf8.first", laid_unicode_utf8_first)] }
def NotesHeightsSaid : Prop := notesHeightsRow.holds Tryd.pinned (OpenSpec.ofChange notesHeightsSpec)

/-- ITS FALSE NEIGHBOUR: 'it returns false'. Refute it at one input. -/
def notesHeightsWrong : ChangeSpec := { name := "notesHeights", fn := fun _ => fun
  | [d1, d2] => { results := [.lit (.bool false)], args := [d1, d2] }
  | _ => none }
def NotesHeightsWrongFalsely : Prop := notesHeightsRow.holds Tryd.pinned (OpenSpec.ofChange notesHeightsWrong)

/- THE SECOND FORM. 'bulk': how many values and letters a reading holds, each counted each time it is reached (what is shared counts as often as it is met; a slice's spare places count too). A statement '..UptoSaid' is the law's where the arguments, and the package variables that the reading takes, are together of bulk at most 1048576: NARROWER than '..Said'. Prove '..Said' where nothing that the law and all that it calls make is longer than what came in: it says more and counts as full. Else prove '..UptoSaid'. A law counts once. -/
mutual
def uptoBulk {H : Type} : DataW H → Nat
  | .lit (.string bytes) => bytes.length + 1
  | .lit _ => 1
  | .nil => 1
  | .ptr d => uptoBulk d + 1
  | .slice elems spare => uptoBulkAll elems + uptoBulkAll spare + 1
  | .agg parts => uptoBulkAll parts + 1
  | .iface _ d => uptoBulk d + 1
  | .map entries => uptoBulkEntries entries + 1
  | .held _ => 1
def uptoBulkAll {H : Type} : List (DataW H) → Nat
  | [] => 0
  | d :: r => uptoBulk d + uptoBulkAll r
def uptoBulkEntries {H : Type} : List (Lit × DataW H) → Nat
  | [] => 0
  | x :: r => uptoBulkEntry x + uptoBulkEntries r
def uptoBulkEntry {H : Type} : Lit × DataW H → Nat
  | (.string bytes, d) => bytes.length + uptoBulk d + 1
  | (_, d) => uptoBulk d + 1
 end
def uptoSmall : (H : Type) → List (DataW H) → Bool := fun _ ds => decide (uptoBulkAll ds ≤ 1048576)
def OpenSpec.upto (s : _root_.Go.ChangeSpec) : _root_.Go.OpenSpec := { _root_.Go.OpenSpec.ofChange s with cond := some uptoSmall }

/-- 'apographlaw50.NotesSets', WHERE WHAT IT READS IS OF BULK AT MOST 1048576: true; the input reads as it did. -/
def notesSetsUptoRow : OpenClaim := { program := "ytajhkfmhoihjfaadoor", sum := "44a338336532fcc2f93911e4a69376ade9f545a3dfb619f56cee8a11c7dceabe", func := "apograph/apographlaw50.NotesSets", spec := "notesSets", inPlace := ["internal/bytealg.IndexByteString", "internal/bytealg.IndexString", "internal/bytealg.CountString", "internal/abi.NoEscape", "internal/bytealg.MakeNoZero"], unfollowed := true, recurses := true, named := ["internal/bytealg.MaxLen", "unicode/utf8.first", "unicode/utf8.acceptRanges"], apart := false, laid := [("unicode/utf8.acceptRanges", laid_unicode_utf8_acceptRanges), ("unicode/utf8.first", laid_unicode_utf8_first)], narrowed := true }
def NotesSetsUptoSaid : Prop := notesSetsUptoRow.holds Tryd.pinned (OpenSpec.upto notesSetsSpec)

/-- 'apographlaw50.NotesBack', WHERE WHAT IT READS IS OF BULK AT MOST 1048576: true; the input reads as it did. -/
def notesBackUptoRow : OpenClaim := { program := "ytajhkfmhoihjfaadoor", sum := "44a338336532fcc2f93911e4a69376ade9f545a3dfb619f56cee8a11c7dceabe", func := "apograph/apographlaw50.NotesBack", spec := "notesBack", inPlace := ["internal/bytealg.IndexByteString", "internal/bytealg.IndexString", "internal/bytealg.CountString", "internal/abi.NoEscape", "internal/bytealg.MakeNoZero"], unfollowed := true, recurses := true, named := ["internal/bytealg.MaxLen", "unicode/utf8.first", "unicode/utf8.acceptRanges"], apart := false, laid := [("unicode/utf8.acceptRanges", laid_unicode_utf8_acceptRanges), ("unicode/utf8.first", laid_unicode_utf8_first)], narrowed := true }
def NotesBackUptoSaid : Prop := notesBackUptoRow.holds Tryd.pinned (OpenSpec.upto notesBackSpec)

/-- 'apographlaw50.NotesFewest', WHERE WHAT IT READS IS OF BULK AT MOST 1048576: true; the input reads as it did. -/
def notesFewestUptoRow : OpenClaim := { program := "ytajhkfmhoihjfaadoor", sum := "44a338336532fcc2f93911e4a69376ade9f545a3dfb619f56cee8a11c7dceabe", func := "apograph/apographlaw50.NotesFewest", spec := "notesFewest", inPlace := ["internal/bytealg.IndexByteString", "internal/bytealg.IndexString", "internal/bytealg.CountString", "internal/abi.NoEscape", "internal/bytealg.MakeNoZero"], unfollowed := true, recurses := true, named := ["internal/bytealg.MaxLen", "unicode/utf8.first", "unicode/utf8.acceptRanges"], apart := false, laid := [("unicode/utf8.acceptRanges", laid_unicode_utf8_acceptRanges), ("unicode/utf8.first", laid_unicode_utf8_first)], narrowed := true }
def NotesFewestUptoSaid : Prop := notesFewestUptoRow.holds Tryd.pinned (OpenSpec.upto notesFewestSpec)

/-- 'apographlaw50.NotesWider', WHERE WHAT IT READS IS OF BULK AT MOST 1048576: true; the input reads as it did. -/
def notesWiderUptoRow : OpenClaim := { program := "ytajhkfmhoihjfaadoor", sum := "44a338336532fcc2f93911e4a69376ade9f545a3dfb619f56cee8a11c7dceabe", func := "apograph/apographlaw50.NotesWider", spec := "notesWider", inPlace := ["internal/bytealg.IndexByteString", "internal/bytealg.IndexString", "internal/bytealg.CountString", "internal/abi.NoEscape", "internal/bytealg.MakeNoZero"], unfollowed := true, recurses := true, named := ["internal/bytealg.MaxLen", "unicode/utf8.first", "unicode/utf8.acceptRanges"], apart := false, laid := [("unicode/utf8.acceptRanges", laid_unicode_utf8_acceptRanges), ("unicode/utf8.first", laid_unicode_utf8_first)], narrowed := true }
def NotesWiderUptoSaid : Prop := notesWiderUptoRow.holds Tryd.pinned (OpenSpec.upto notesWiderSpec)

/-- 'apographlaw50.NotesRoom', WHERE WHAT IT READS IS OF BULK AT MOST 1048576: true; the input reads as it did. -/
def notesRoomUptoRow : OpenClaim := { program := "ytajhkfmhoihjfaadoor", sum := "44a338336532fcc2f93911e4a69376ade9f545a3dfb619f56cee8a11c7dceabe", func := "apograph/apographlaw50.NotesRoom", spec := "notesRoom", inPlace := ["internal/bytealg.IndexByteString", "internal/bytealg.IndexString", "internal/bytealg.CountString", "internal/abi.NoEscape", "internal/bytealg.MakeNoZero"], unfollowed := true, recurses := true, named := ["internal/bytealg.MaxLen", "unicode/utf8.first", "unicode/utf8.acceptRanges"], apart := false, laid := [("unicode/utf8.acceptRanges", laid_unicode_utf8_acceptRanges), ("unicode/utf8.first", laid_unicode_utf8_first)], narrowed := true }
def NotesRoomUptoSaid : Prop := notesRoomUptoRow.holds Tryd.pinned (OpenSpec.upto notesRoomSpec)

/-- 'apographlaw50.NotesOrder', WHERE WHAT IT READS IS OF BULK AT MOST 1048576: true; the input reads as it did. -/
def notesOrderUptoRow : OpenClaim := { program := "ytajhkfmhoihjfaadoor", sum := "44a338336532fcc2f93911e4a69376ade9f545a3dfb619f56cee8a11c7dceabe", func := "apograph/apographlaw50.NotesOrder", spec := "notesOrder", inPlace := ["internal/bytealg.IndexByteString", "internal/bytealg.IndexString", "internal/bytealg.CountString", "internal/abi.NoEscape", "internal/bytealg.MakeNoZero"], unfollowed := true, recurses := true, named := ["internal/bytealg.MaxLen", "unicode/utf8.first", "unicode/utf8.acceptRanges"], apart := false, laid := [("unicode/utf8.acceptRanges", laid_unicode_utf8_acceptRanges), ("unicode/utf8.first", laid_unicode_utf8_first)], narrowed := true }
def NotesOrderUptoSaid : Prop := notesOrderUptoRow.holds Tryd.pinned (OpenSpec.upto notesOrderSpec)

/-- 'apographlaw50.NotesBlocks', WHERE WHAT IT READS IS OF BULK AT MOST 1048576: true; the input reads as it did. -/
def notesBlocksUptoRow : OpenClaim := { program := "ytajhkfmhoihjfaadoor", sum := "44a338336532fcc2f93911e4a69376ade9f545a3dfb619f56cee8a11c7dceabe", func := "apograph/apographlaw50.NotesBlocks", spec := "notesBlocks", inPlace := ["internal/bytealg.IndexByteString", "internal/bytealg.IndexString", "internal/bytealg.CountString", "internal/abi.NoEscape", "internal/bytealg.MakeNoZero"], unfollowed := true, recurses := true, named := ["internal/bytealg.MaxLen", "unicode/utf8.first", "unicode/utf8.acceptRanges"], apart := false, laid := [("unicode/utf8.acceptRanges", laid_unicode_utf8_acceptRanges), ("unicode/utf8.first", laid_unicode_utf8_first)], narrowed := true }
def NotesBlocksUptoSaid : Prop := notesBlocksUptoRow.holds Tryd.pinned (OpenSpec.upto notesBlocksSpec)

/-- 'apographlaw50.NotesHeights', WHERE WHAT IT READS IS OF BULK AT MOST 1048576: true; the input reads as it did. -/
def notesHeightsUptoRow : OpenClaim := { program := "ytajhkfmhoihjfaadoor", sum := "44a338336532fcc2f93911e4a69376ade9f545a3dfb619f56cee8a11c7dceabe", func := "apograph/apographlaw50.NotesHeights", spec := "notesHeights", inPlace := ["internal/bytealg.IndexByteString", "internal/bytealg.IndexString", "internal/bytealg.CountString", "internal/abi.NoEscape", "internal/bytealg.MakeNoZero"], unfollowed := true, recurses := true, named := ["internal/bytealg.MaxLen", "unicode/utf8.first", "unicode/utf8.acceptRanges"], apart := false, laid := [("unicode/utf8.acceptRanges", laid_unicode_utf8_acceptRanges), ("unicode/utf8.first", laid_unicode_utf8_first)], narrowed := true }
def NotesHeightsUptoSaid : Prop := notesHeightsUptoRow.holds Tryd.pinned (OpenSpec.upto notesHeightsSpec)

end Rows
end Go.Proofs.YtajhkfmhoihjfaaDoor
