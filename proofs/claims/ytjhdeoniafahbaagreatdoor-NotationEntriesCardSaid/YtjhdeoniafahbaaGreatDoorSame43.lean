/-
  The statements' SameInts and SameTable, on tables that are equal.
-/
import Derived.Test.YtjhdeoniafahbaaGreatDoorOccs
import Derived.Deep.RegionHeld3
namespace Go.Proofs.YtjhdeoniafahbaaGreatDoor
open Go.RowKit

theorem rdI_two {w : World} {r : Nat} {p : Nat × Nat} (h1 : w.cell? ⟨r, 0, none⟩ = some (.int .i64 (p.1 : Int))) (h2 : w.cell? ⟨r, 1, none⟩ = some (.int .i64 (p.2 : Int))) : RdI w (.slice (some ⟨r, 0, none⟩) 2 2) [(p.1 : Int), (p.2 : Int)] := by
  refine ⟨some ⟨r, 0, none⟩, 2, rfl, Nat.le_refl _, by unfold maxLen; omega, fun i x hx => ⟨r, 0, rfl, ?_⟩⟩
  match i, hx with
  | 0, hx => cases hx; exact h1
  | 1, hx => cases hx; exact h2

end Go.Proofs.YtjhdeoniafahbaaGreatDoor
