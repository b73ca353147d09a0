/-
  A slice that was just built of constants reads as its list.
-/
import Derived.Test.YtmbehkanhefcpaaGreatDoorLib
namespace Go.Proofs.YtmbehkanhefcpaaGreatDoor
open Go.RowKit

/-- A slice that was just built of constants. -/
theorem Rd.lit {α : Type} {enc : α → Value} (W : World) (l : List α) (cs : Array Value) (t : TypeId) (n : Nat) (hc : cs = (l.map enc).toArray) (hn : n = l.length) (hm : n ≤ maxLen) :
    Rd enc (W.alloc (.cells cs t)) (.slice (some ⟨W.heap.size, 0, none⟩) n n) l := by
  subst hn
  refine ⟨some ⟨W.heap.size, 0, none⟩, l.length, rfl, Nat.le_refl _, hm, fun i x hx => ⟨W.heap.size, 0, rfl, ?_⟩⟩
  rw [Nat.zero_add]
  exact cell_nw W cs t i (by subst hc; simp [hx])
end Go.Proofs.YtmbehkanhefcpaaGreatDoor
