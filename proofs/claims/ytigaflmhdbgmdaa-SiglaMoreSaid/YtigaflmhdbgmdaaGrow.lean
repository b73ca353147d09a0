/-
  slices.Grow of no groups.
-/
import Derived.Test.YtigaflmhdbgmdaaKeep
import Derived.Lib.AppendZerosOnto
import Derived.Lib.SliceRun
import Derived.Lib.Walk
import Derived.Shelf.RegionOpenPlain
namespace Go.Proofs.Ytigaflmhdbgmdaa
open Go.RowKit Go.Lib

set_option maxHeartbeats 2000000 in
set_option maxRecDepth 100000 in
theorem grow_any (n : Nat) (w : World) (hn : n ≤ 1000) :
    Calls Try.prog 59 #[.slice none 0 0, .int .i64 n] w fun e w' => ∃ v, e = .returned v ∧ w'.ownsRow w.heap.size 40 2 v 0 [] ∧ Below w.heap.size w w' := by
  by_cases h0 : n = 0
  · subst h0
    go_enter Try.func59, Try.ntmps59
    go_wp2
    go_ret
    exact ⟨_, rfl, World.ownsRow_nil _ _ _ _, Below.refl _ _⟩
  · obtain ⟨i0, hi1, hi2, hi3, hi4⟩ := info_parts infoGrp
    have hG := grownCap_ge w n 0 40
    have hGm := grownCap_le_maxLen w n 0 40 (by unfold maxLen; omega)
    have hrz : ∀ ty, (Builtin.append_ #[23, 3] ty #[.slice none 0 0, .int .i64 (n : Int)]).run Try.prog w =
        .ok (.slice (some ⟨w.heap.size, 0, none⟩) n (grownCap w n 0 40)) (w.drew.alloc (.cells (#[] ++ Builtin.zeroCells (Value.agg #[.string ⟨#[]⟩, .slice none 0 0]).cells n ++ Builtin.zeroCells (Value.agg #[.string ⟨#[]⟩, .slice none 0 0]).cells (grownCap w n 0 40 - n)) 40)) := fun ty => by
      have h := Lib.run_append_grow_zeros (P := Try.prog) w 23 3 ty 40 i0 _ .i64 .i64 Try.underlying23 Try.underlying3 hi1 hi2 none 0 0 [] (run_firstCells_none w.drew i0.size 0 0 0) n (by omega) (by omega) (by omega) (by omega)
        (by rw [hi4]; omega) (growslice_fits (by omega) (by rw [hi4]; omega))
      simpa using h
    generalize grownCap w n 0 40 = G at *
    have hsz : (#[] ++ Builtin.zeroCells (Value.agg #[.string ⟨#[]⟩, .slice none 0 0]).cells n ++ Builtin.zeroCells (Value.agg #[.string ⟨#[]⟩, .slice none 0 0]).cells (G - n)).size = G * 2 := by
      simp [size_zeroCells, Value.cells]; omega
    generalize #[] ++ Builtin.zeroCells (Value.agg #[.string ⟨#[]⟩, .slice none 0 0]).cells n ++ Builtin.zeroCells (Value.agg #[.string ⟨#[]⟩, .slice none 0 0]).cells (G - n) = cur at *
    have hown : (w.drew.alloc (.cells cur 40)).ownsRow w.heap.size 40 2 (.slice (some ⟨w.heap.size, 0, none⟩) 0 G) 0 [] := World.ownsRow_made w.drew cur G (Nat.le_refl _) hGm hsz
    have hBz : Below w.heap.size w (w.drew.alloc (.cells cur 40)) := ((Below.refl _ w).drew).alloc (Nat.le_refl _) _
    have hG63 : G ≤ 9223372036854775807 := by unfold maxLen at hGm; omega
    clear hsz hi1 hi2 hi3 hi4 hGm
    go_enter Try.func59, Try.ntmps59
    go_wp2_with (at_builtin; refine Lib.wpList_append_run _ rfl _ _ _ _ rfl _ _ rfl rfl _ _ (hrz _) ?_)
    go_ret
    exact ⟨_, rfl, hown, hBz⟩
end Go.Proofs.Ytigaflmhdbgmdaa
