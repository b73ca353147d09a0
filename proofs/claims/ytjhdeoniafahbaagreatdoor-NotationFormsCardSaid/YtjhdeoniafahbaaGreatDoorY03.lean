/-
  Joined, what is needed of: Laid43T.
-/
import Derived.Lib.LaidU8
import Derived.Test.YtjhdeoniafahbaaGreatDoorY02
namespace Go.Proofs.YtjhdeoniafahbaaGreatDoor
def laid43T : List (String × DataW Unit) := [("math/bits.deBruijn32tab", Rows.laid_math_bits_deBruijn32tab), ("math/bits.deBruijn64tab", Rows.laid_math_bits_deBruijn64tab), ("internal/strconv.uint64pow10", Rows.laid_internal_strconv_uint64pow10), ("unicode/utf8.acceptRanges", Rows.laid_unicode_utf8_acceptRanges), ("strconv.ErrRange", Rows.laid_strconv_ErrRange), ("strconv.ErrSyntax", Rows.laid_strconv_ErrSyntax), ("unicode/utf8.first", Rows.laid_unicode_utf8_first)]
noncomputable def laidWorldT (os : Os) : World :=
  let w0 := laidWorld os
  let put (h : Array Obj) (g : Nat) (cs : Array Value) : Array Obj := h.modify g fun
    | .cells _ t frozen => .cells cs t frozen
    | o => o
  let h1 := put w0.heap 4 (Lib.firstTab.map fun z => Value.int .u8 z).toArray
  let h2 := put h1 5 ((List.range 16).flatMap fun i => [Value.int .u8 (Lib.accLo i), Value.int .u8 (Lib.accHi i)]).toArray
  { w0 with heap := h2 }
theorem laid_metT (os : Os) (args : Array Value) : laidMet Tryz.prog laid43T ((laidWorldT os).forCall (fun _ _ => 0) ⟨#[], args, []⟩).memory :=
  laidMet_of_run3 8 (by kernel_rfl) (by kernel_rfl) (by kernel_rfl)
theorem env_ofT {W : World} (h : laidMetH Tryz.prog laid43T W) : Env W := by
  have h1 := (laidMetH_iff.1 h).1
  have e : (laid43T.filter fun x => x.2.handleName?.isNone) = laid43T := by rfl
  rw [e] at h1
  have h3 := h1.tail.tail
  have h4 := h3.tail.tail
  have h5 := h4.tail
  obtain ⟨a0, s0, hv0, -, -, -⟩ := laid_sentinel h4 (g := 2) (by kernel_rfl) (ti := 103) (by kernel_rfl) Tryz.underlying103 rowErr Tryz.underlying195 Tryz.underlying197 rfl rfl Tryz.underlying9 (by kernel_rfl) (by kernel_rfl)
  obtain ⟨a1, s1, hv1, -, -, -⟩ := laid_sentinel h5 (g := 1) (by kernel_rfl) (ti := 103) (by kernel_rfl) Tryz.underlying103 rowErr Tryz.underlying195 Tryz.underlying197 rfl rfl Tryz.underlying9 (by kernel_rfl) (by kernel_rfl)
  have hp : Lib.TabIs Tryz.prog W "internal/strconv.uint64pow10" .u64 Lib.pow10Tab :=
    Lib.tabIs_of_head (g := 3) (t := 187) (e := 169) (n := 20) (by kernel_rfl) (by kernel_rfl) Tryz.underlying187 Tryz.underlying169 (by kernel_rfl) (by kernel_rfl) (by rw [← pow10_data]; exact h3)
  exact ⟨⟨_, _, by have h0 := World.var?_cell (g := 1) (by kernel_rfl) hv1 0; simpa using h0⟩, ⟨_, _, by have h0 := World.var?_cell (g := 2) (by kernel_rfl) hv0 0; simpa using h0⟩, hp⟩
end Go.Proofs.YtjhdeoniafahbaaGreatDoor
