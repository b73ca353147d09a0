/-
  P50.5: the walk of NotesHeights, its three ways together.
-/
import Derived.Test.YtajhkfmhoihjfaaDoorLawHo
namespace Go.Proofs.YtajhkfmhoihjfaaDoor
open Go.RowKit

theorem lheightsI_any (x : Cs) (l1 l2 : List Int) (l3 : List ByteArray) (b : Int) (hb : 0 ≤ b ∧ b < 256) (m : Int) (w : World) (hr : CsR w x l1 l2 l3) (hz : Szs l3) (hm : w.cell? ⟨0, 0, none⟩ = some (.int .i64 m)) :
    Calls Tryd.prog 10 #[.agg x.cells, .int .u8 b] w fun e w' => e = .returned (.bool true) ∧ Below w.heap.size w w' := by
  obtain ⟨u, rfl⟩ := Int.eq_ofNat_of_zero_le hb.1
  cases hg : greatC x l1 l2 l3 with
  | true => exact lheights_yes x l1 l2 l3 u m w hr hz hg hm
  | false =>
    by_cases hI : blocksI x.st x.count x.blocks l1 l2 l3 = 0
    · exact lheights_ok x l1 l2 l3 u (by omega) m w hr hz hg hI hm
    · exact lheights_err x l1 l2 l3 u m w hr hz hg hI hm
end Go.Proofs.YtajhkfmhoihjfaaDoor
