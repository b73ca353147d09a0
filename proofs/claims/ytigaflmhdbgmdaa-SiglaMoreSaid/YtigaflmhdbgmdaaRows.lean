/-
  No cell of these rows narrows 'for every input' (looked for: loops, veiled, ifaces, maps, wideKeys, modest, calm, conditions, laid).
  DERIVED. THE GIVEN ROWS OF THIS SEAT. 6 by the template 'for every input the law returns true; each argument reads behind the call as it read before'; 0 by the template 'total and deterministic' (their statements: YtigaflmhdbgmdaaTotals.lean).
  GIVEN WITH THE SEED: the statements are not yours to turn. If you find one false, say at which input.
  Laid BY PROGRAM, IN A SANDBOX (cutbox-rows.mjs): the forced cells as the released guide's own fill.sh prints them over the translation 46619052fc226acd… (all of the seat's roots in one cut). By AI agents, Wed Nov 11 2026. No macro, syntax, notation, axiom, sorry.
-/
import Derived.Test.YtigaflmhdbgmdaaChecked
import GoSem.Claim
import GoSem.ClaimJoined
import GoSem.ClaimMapViews
import Derived.JoinedTies
import Derived.KernelRfl
namespace Go.Proofs.Ytigaflmhdbgmdaa
/- THE CELL 'sum', in the pinned program and in every row, IS THE sha256 OF THE DUMP (.gsa) THAT YtigaflmhdbgmdaaProg.lean LOADS. Nothing in Lean hashes anything: it is a label: what it is worth is what the hold of that sum in a sandbox is worth. -/
noncomputable def Try.pinned : Pinned := { name := "ytigaflmhdbgmdaa", sum := "46619052fc226acd8aeae8e73c9799f2e7337085baecfb0eef31890d17b9d1d5", checked := Try.checked }
namespace Rows
def none {H : Type} : Left H := { results := [], args := [] }

/-- 'apographlaw42.SiglaMeans': WHATEVER THE INPUT: true; the input reads as it did. -/
def siglaMeansSpec : ChangeSpec := { name := "siglaMeans", fn := fun _ => fun
  | [d1, d2, d3] => { results := [.lit (.bool true)], args := [d1, d2, d3] }
  | _ => none }
def siglaMeansRow : OpenClaim := { program := "ytigaflmhdbgmdaa", sum := "46619052fc226acd8aeae8e73c9799f2e7337085baecfb0eef31890d17b9d1d5", func := "apograph/apographlaw42.SiglaMeans", spec := "siglaMeans", inPlace := ["internal/bytealg.IndexByteString", "internal/abi.NoEscape", "internal/bytealg.MakeNoZero"], unfollowed := true, recurses := true, apart := false }
def SiglaMeansSaid : Prop := siglaMeansRow.holds Try.pinned (OpenSpec.ofChange siglaMeansSpec)

/-- ITS FALSE NEIGHBOUR: 'it returns false'. Refute it at one input. -/
def siglaMeansWrong : ChangeSpec := { name := "siglaMeans", fn := fun _ => fun
  | [d1, d2, d3] => { results := [.lit (.bool false)], args := [d1, d2, d3] }
  | _ => none }
def SiglaMeansWrongFalsely : Prop := siglaMeansRow.holds Try.pinned (OpenSpec.ofChange siglaMeansWrong)

/-- 'apographlaw42.SiglaForms': WHATEVER THE INPUT: true; the input reads as it did. -/
def siglaFormsSpec : ChangeSpec := { name := "siglaForms", fn := fun _ => fun
  | [d1, d2, d3] => { results := [.lit (.bool true)], args := [d1, d2, d3] }
  | _ => none }
def siglaFormsRow : OpenClaim := { program := "ytigaflmhdbgmdaa", sum := "46619052fc226acd8aeae8e73c9799f2e7337085baecfb0eef31890d17b9d1d5", func := "apograph/apographlaw42.SiglaForms", spec := "siglaForms", inPlace := ["internal/bytealg.IndexByteString", "internal/abi.NoEscape", "internal/bytealg.MakeNoZero"], unfollowed := true, recurses := true, apart := false }
def SiglaFormsSaid : Prop := siglaFormsRow.holds Try.pinned (OpenSpec.ofChange siglaFormsSpec)

/-- ITS FALSE NEIGHBOUR: 'it returns false'. Refute it at one input. -/
def siglaFormsWrong : ChangeSpec := { name := "siglaForms", fn := fun _ => fun
  | [d1, d2, d3] => { results := [.lit (.bool false)], args := [d1, d2, d3] }
  | _ => none }
def SiglaFormsWrongFalsely : Prop := siglaFormsRow.holds Try.pinned (OpenSpec.ofChange siglaFormsWrong)

/-- 'apographlaw42.SiglaGroups': WHATEVER THE INPUT: true; the input reads as it did. -/
def siglaGroupsSpec : ChangeSpec := { name := "siglaGroups", fn := fun _ => fun
  | [d1, d2, d3] => { results := [.lit (.bool true)], args := [d1, d2, d3] }
  | _ => none }
def siglaGroupsRow : OpenClaim := { program := "ytigaflmhdbgmdaa", sum := "46619052fc226acd8aeae8e73c9799f2e7337085baecfb0eef31890d17b9d1d5", func := "apograph/apographlaw42.SiglaGroups", spec := "siglaGroups", inPlace := ["internal/bytealg.IndexByteString", "internal/abi.NoEscape", "internal/bytealg.MakeNoZero"], unfollowed := true, recurses := true, apart := false }
def SiglaGroupsSaid : Prop := siglaGroupsRow.holds Try.pinned (OpenSpec.ofChange siglaGroupsSpec)

/-- ITS FALSE NEIGHBOUR: 'it returns false'. Refute it at one input. -/
def siglaGroupsWrong : ChangeSpec := { name := "siglaGroups", fn := fun _ => fun
  | [d1, d2, d3] => { results := [.lit (.bool false)], args := [d1, d2, d3] }
  | _ => none }
def SiglaGroupsWrongFalsely : Prop := siglaGroupsRow.holds Try.pinned (OpenSpec.ofChange siglaGroupsWrong)

/-- 'apographlaw42.SiglaShortest': WHATEVER THE INPUT: true; the input reads as it did. -/
def siglaShortestSpec : ChangeSpec := { name := "siglaShortest", fn := fun _ => fun
  | [d1, d2, d3] => { results := [.lit (.bool true)], args := [d1, d2, d3] }
  | _ => none }
def siglaShortestRow : OpenClaim := { program := "ytigaflmhdbgmdaa", sum := "46619052fc226acd8aeae8e73c9799f2e7337085baecfb0eef31890d17b9d1d5", func := "apograph/apographlaw42.SiglaShortest", spec := "siglaShortest", inPlace := ["internal/bytealg.IndexByteString", "internal/abi.NoEscape", "internal/bytealg.MakeNoZero"], unfollowed := true, recurses := true, apart := false }
def SiglaShortestSaid : Prop := siglaShortestRow.holds Try.pinned (OpenSpec.ofChange siglaShortestSpec)

/-- ITS FALSE NEIGHBOUR: 'it returns false'. Refute it at one input. -/
def siglaShortestWrong : ChangeSpec := { name := "siglaShortest", fn := fun _ => fun
  | [d1, d2, d3] => { results := [.lit (.bool false)], args := [d1, d2, d3] }
  | _ => none }
def SiglaShortestWrongFalsely : Prop := siglaShortestRow.holds Try.pinned (OpenSpec.ofChange siglaShortestWrong)

/-- 'apographlaw42.SiglaKeeps': WHATEVER THE INPUT: true; the input reads as it did. -/
def siglaKeepsSpec : ChangeSpec := { name := "siglaKeeps", fn := fun _ => fun
  | [d1, d2, d3] => { results := [.lit (.bool true)], args := [d1, d2, d3] }
  | _ => none }
def siglaKeepsRow : OpenClaim := { program := "ytigaflmhdbgmdaa", sum := "46619052fc226acd8aeae8e73c9799f2e7337085baecfb0eef31890d17b9d1d5", func := "apograph/apographlaw42.SiglaKeeps", spec := "siglaKeeps", inPlace := ["internal/bytealg.IndexByteString", "internal/abi.NoEscape", "internal/bytealg.MakeNoZero"], unfollowed := true, recurses := true, apart := false }
def SiglaKeepsSaid : Prop := siglaKeepsRow.holds Try.pinned (OpenSpec.ofChange siglaKeepsSpec)

/-- ITS FALSE NEIGHBOUR: 'it returns false'. Refute it at one input. -/
def siglaKeepsWrong : ChangeSpec := { name := "siglaKeeps", fn := fun _ => fun
  | [d1, d2, d3] => { results := [.lit (.bool false)], args := [d1, d2, d3] }
  | _ => none }
def SiglaKeepsWrongFalsely : Prop := siglaKeepsRow.holds Try.pinned (OpenSpec.ofChange siglaKeepsWrong)

/-- 'apographlaw42.SiglaMore': WHATEVER THE INPUT: true; the input reads as it did. -/
def siglaMoreSpec : ChangeSpec := { name := "siglaMore", fn := fun _ => fun
  | [d1, d2, d3] => { results := [.lit (.bool true)], args := [d1, d2, d3] }
  | _ => none }
def siglaMoreRow : OpenClaim := { program := "ytigaflmhdbgmdaa", sum := "46619052fc226acd8aeae8e73c9799f2e7337085baecfb0eef31890d17b9d1d5", func := "apograph/apographlaw42.SiglaMore", spec := "siglaMore", inPlace := ["internal/bytealg.IndexByteString", "internal/abi.NoEscape", "internal/bytealg.MakeNoZero"], unfollowed := true, recurses := true, apart := false }
def SiglaMoreSaid : Prop := siglaMoreRow.holds Try.pinned (OpenSpec.ofChange siglaMoreSpec)

/-- ITS FALSE NEIGHBOUR: 'it returns false'. Refute it at one input. -/
def siglaMoreWrong : ChangeSpec := { name := "siglaMore", fn := fun _ => fun
  | [d1, d2, d3] => { results := [.lit (.bool false)], args := [d1, d2, d3] }
  | _ => none }
def SiglaMoreWrongFalsely : Prop := siglaMoreRow.holds Try.pinned (OpenSpec.ofChange siglaMoreWrong)

/- THE SECOND FORM. 'bulk': how many values and letters a reading holds, each counted each time it is reached (what is shared counts as often as it is met; a slice's spare places count too). A statement '..UptoSaid' is the law's where the arguments, and the package variables that the reading takes, are together of bulk at most 1048576: NARROWER than '..Said'. Prove '..Said' where nothing that the law and all that it calls make is longer than what came in: it says more and counts as full. Else prove '..UptoSaid'. A law counts once. -/
mutual
def uptoBulk {H : Type} : DataW H → Nat
  | .lit (.string bytes) => bytes.length + 1
  | .lit _ => 1
  | .nil => 1
  | .ptr d => uptoBulk d + 1
  | .slice elems spare => uptoBulkAll elems + uptoBulkAll spare + 1
  | .agg parts => uptoBulkAll parts + 1
  | .iface _ d => uptoBulk d + 1
  | .map entries => uptoBulkEntries entries + 1
  | .held _ => 1
def uptoBulkAll {H : Type} : List (DataW H) → Nat
  | [] => 0
  | d :: r => uptoBulk d + uptoBulkAll r
def uptoBulkEntries {H : Type} : List (Lit × DataW H) → Nat
  | [] => 0
  | x :: r => uptoBulkEntry x + uptoBulkEntries r
def uptoBulkEntry {H : Type} : Lit × DataW H → Nat
  | (.string bytes, d) => bytes.length + uptoBulk d + 1
  | (_, d) => uptoBulk d + 1
 end
def uptoSmall : (H : Type) → List (DataW H) → Bool := fun _ ds => decide (uptoBulkAll ds ≤ 1048576)
def OpenSpec.upto (s : _root_.Go.ChangeSpec) : _root_.Go.OpenSpec := { _root_.Go.OpenSpec.ofChange s with cond := some uptoSmall }

/-- 'apographlaw42.SiglaMeans', WHERE WHAT IT READS IS OF BULK AT MOST 1048576: true; the input reads as it did. -/
def siglaMeansUptoRow : OpenClaim := { program := "ytigaflmhdbgmdaa", sum := "46619052fc226acd8aeae8e73c9799f2e7337085baecfb0eef31890d17b9d1d5", func := "apograph/apographlaw42.SiglaMeans", spec := "siglaMeans", inPlace := ["internal/bytealg.IndexByteString", "internal/abi.NoEscape", "internal/bytealg.MakeNoZero"], unfollowed := true, recurses := true, apart := false, narrowed := true }
def SiglaMeansUptoSaid : Prop := siglaMeansUptoRow.holds Try.pinned (OpenSpec.upto siglaMeansSpec)

/-- 'apographlaw42.SiglaForms', WHERE WHAT IT READS IS OF BULK AT MOST 1048576: true; the input reads as it did. -/
def siglaFormsUptoRow : OpenClaim := { program := "ytigaflmhdbgmdaa", sum := "46619052fc226acd8aeae8e73c9799f2e7337085baecfb0eef31890d17b9d1d5", func := "apograph/apographlaw42.SiglaForms", spec := "siglaForms", inPlace := ["internal/bytealg.IndexByteString", "internal/abi.NoEscape", "internal/bytealg.MakeNoZero"], unfollowed := true, recurses := true, apart := false, narrowed := true }
def SiglaFormsUptoSaid : Prop := siglaFormsUptoRow.holds Try.pinned (OpenSpec.upto siglaFormsSpec)

/-- 'apographlaw42.SiglaGroups', WHERE WHAT IT READS IS OF BULK AT MOST 1048576: true; the input reads as it did. -/
def siglaGroupsUptoRow : OpenClaim := { program := "ytigaflmhdbgmdaa", sum := "46619052fc226acd8aeae8e73c9799f2e7337085baecfb0eef31890d17b9d1d5", func := "apograph/apographlaw42.SiglaGroups", spec := "siglaGroups", inPlace := ["internal/bytealg.IndexByteString", "internal/abi.NoEscape", "internal/bytealg.MakeNoZero"], unfollowed := true, recurses := true, apart := false, narrowed := true }
def SiglaGroupsUptoSaid : Prop := siglaGroupsUptoRow.holds Try.pinned (OpenSpec.upto siglaGroupsSpec)

/-- 'apographlaw42.SiglaShortest', WHERE WHAT IT READS IS OF BULK AT MOST 1048576: true; the input reads as it did. -/
def siglaShortestUptoRow : OpenClaim := { program := "ytigaflmhdbgmdaa", sum := "46619052fc226acd8aeae8e73c9799f2e7337085baecfb0eef31890d17b9d1d5", func := "apograph/apographlaw42.SiglaShortest", spec := "siglaShortest", inPlace := ["internal/bytealg.IndexByteString", "internal/abi.NoEscape", "internal/bytealg.MakeNoZero"], unfollowed := true, recurses := true, apart := false, narrowed := true }
def SiglaShortestUptoSaid : Prop := siglaShortestUptoRow.holds Try.pinned (OpenSpec.upto siglaShortestSpec)

/-- 'apographlaw42.SiglaKeeps', WHERE WHAT IT READS IS OF BULK AT MOST 1048576: true; the input reads as it did. -/
def siglaKeepsUptoRow : OpenClaim := { program := "ytigaflmhdbgmdaa", sum := "46619052fc226acd8aeae8e73c9799f2e7337085baecfb0eef31890d17b9d1d5", func := "apograph/apographlaw42.SiglaKeeps", spec := "siglaKeeps", inPlace := ["internal/bytealg.IndexByteString", "internal/abi.NoEscape", "internal/bytealg.MakeNoZero"], unfollowed := true, recurses := true, apart := false, narrowed := true }
def SiglaKeepsUptoSaid : Prop := siglaKeepsUptoRow.holds Try.pinned (OpenSpec.upto siglaKeepsSpec)

/-- 'apographlaw42.SiglaMore', WHERE WHAT IT READS IS OF BULK AT MOST 1048576: true; the input reads as it did. -/
def siglaMoreUptoRow : OpenClaim := { program := "ytigaflmhdbgmdaa", sum := "46619052fc226acd8aeae8e73c9799f2e7337085baecfb0eef31890d17b9d1d5", func := "apograph/apographlaw42.SiglaMore", spec := "siglaMore", inPlace := ["internal/bytealg.IndexByteString", "internal/abi.NoEscape", "internal/bytealg.MakeNoZero"], unfollowed := true, recurses := true, apart := false, narrowed := true }
def SiglaMoreUptoSaid : Prop := siglaMoreUptoRow.holds Try.pinned (OpenSpec.upto siglaMoreSpec)

end Rows
end Go.Proofs.Ytigaflmhdbgmdaa
