/-
  Joined, what is needed of: Laid43.
-/
import Derived.Test.YtjhdeoniafahbaaGreatDoorRows
import Derived.Lib.LaidIn
import Derived.Lib.LaidTab
import Derived.Stop.LaidErr
import Derived.LaidSub
import Derived.PinnedBridge
import Derived.Deep.DeepHandedRow
import Derived.Deep.DeepWitnessRowRef
import Derived.ProofKit
import Derived.Test.YtjhdeoniafahbaaGreatDoorY01
namespace Go.Proofs.YtjhdeoniafahbaaGreatDoor
theorem knob : ownKnob Tryz.prog.godebug = none := by kernel_rfl
theorem laidOut : laidOutB Tryz.prog = true := by kernel_rfl
def laid43 : List (String × DataW Unit) := [("math/bits.deBruijn32tab", Rows.laid_math_bits_deBruijn32tab), ("math/bits.deBruijn64tab", Rows.laid_math_bits_deBruijn64tab), ("internal/strconv.uint64pow10", Rows.laid_internal_strconv_uint64pow10), ("strconv.ErrRange", Rows.laid_strconv_ErrRange), ("strconv.ErrSyntax", Rows.laid_strconv_ErrSyntax)]
/-- The cells of a table of numbers, read off its datum. -/
def cellsOfData : DataW Unit → Array Value
  | .agg l => (l.map fun d => match d with | .lit (.int k z) => Value.int k z | _ => .nilIface).toArray
  | _ => #[]
def rngS : ByteArray := ⟨#[118, 97, 108, 117, 101, 32, 111, 117, 116, 32, 111, 102, 32, 114, 97, 110, 103, 101]⟩
def synS : ByteArray := ⟨#[105, 110, 118, 97, 108, 105, 100, 32, 115, 121, 110, 116, 97, 120]⟩
noncomputable def low : Nat := (World.holding Tryz.prog default ⟨#[], #[], []⟩).heap.size
noncomputable def laidWorld (os : Os) : World :=
  let w0 := World.holding Tryz.prog os ⟨#[.cells #[.string rngS] 197, .cells #[.string synS] 197], #[], []⟩
  let put (h : Array Obj) (g : Nat) (cs : Array Value) : Array Obj := h.modify g fun
    | .cells _ t frozen => .cells cs t frozen
    | o => o
  let h1 := put w0.heap 6 (cellsOfData Rows.laid_math_bits_deBruijn32tab)
  let h2 := put h1 7 (cellsOfData Rows.laid_math_bits_deBruijn64tab)
  let h3 := put h2 3 (cellsOfData Rows.laid_internal_strconv_uint64pow10)
  let h4 := put h3 2 #[.iface 195 (.pointer (some ⟨low, 0, none⟩))]
  let h5 := put h4 1 #[.iface 195 (.pointer (some ⟨low + 1, 0, none⟩))]
  { w0 with heap := h5 }
theorem laid_met (os : Os) (args : Array Value) : laidMet Tryz.prog laid43 ((laidWorld os).forCall (fun _ _ => 0) ⟨#[], args, []⟩).memory :=
  laidMet_of_run3 8 (by kernel_rfl) (by kernel_rfl) (by kernel_rfl)
theorem star : "*" ++ "errors.errorString" = "*errors.errorString" := by decide
theorem rowErr (u : TypeId) (h : Tryz.prog.typeName? 3 u = some "*errors.errorString") : u = 195 :=
  typeName_ptr_named (nm := "errors.errorString") (by rw [star]; kernel_rfl) (by kernel_rfl) (by decide) u (by rw [star]; exact h)
theorem pow10_data : Rows.laid_internal_strconv_uint64pow10 = (Lib.tabData .u64 Lib.pow10Tab : DataW Unit) := by rfl
theorem env_of {W : World} (h : laidMetH Tryz.prog laid43 W) : Env W := by
  have h1 := (laidMetH_iff.1 h).1
  have e : (laid43.filter fun x => x.2.handleName?.isNone) = laid43 := by rfl
  rw [e] at h1
  have h3 := h1.tail.tail
  have h4 := h3.tail
  have h5 := h4.tail
  obtain ⟨a0, s0, hv0, -, -, -⟩ := laid_sentinel h4 (g := 2) (by kernel_rfl) (ti := 103) (by kernel_rfl) Tryz.underlying103 rowErr Tryz.underlying195 Tryz.underlying197 rfl rfl Tryz.underlying9 (by kernel_rfl) (by kernel_rfl)
  obtain ⟨a1, s1, hv1, -, -, -⟩ := laid_sentinel h5 (g := 1) (by kernel_rfl) (ti := 103) (by kernel_rfl) Tryz.underlying103 rowErr Tryz.underlying195 Tryz.underlying197 rfl rfl Tryz.underlying9 (by kernel_rfl) (by kernel_rfl)
  have hp : Lib.TabIs Tryz.prog W "internal/strconv.uint64pow10" .u64 Lib.pow10Tab :=
    Lib.tabIs_of_head (g := 3) (t := 187) (e := 169) (n := 20) (by kernel_rfl) (by kernel_rfl) Tryz.underlying187 Tryz.underlying169 (by kernel_rfl) (by kernel_rfl) (by rw [← pow10_data]; exact h3)
  exact ⟨⟨_, _, by have h0 := World.var?_cell (g := 1) (by kernel_rfl) hv1 0; simpa using h0⟩, ⟨_, _, by have h0 := World.var?_cell (g := 2) (by kernel_rfl) hv0 0; simpa using h0⟩, hp⟩
end Go.Proofs.YtjhdeoniafahbaaGreatDoor
