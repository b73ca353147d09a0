/-
  A fact kept from the walk; equations on endings.
-/
import Derived.WalkKit
namespace Go.Proofs.Ytlneimjenjpbnaa
open Go.RowKit
theorem hid {p : Prop} (h : p) : Hid p := h
theorem ret_int {k : IntKind} {a b : Int} (h : a = b) : Ending.returned (.int k a) = .returned (.int k b) := by rw [h]
theorem ret_bool {a b : Bool} (h : a = b) : Ending.returned (.bool a) = .returned (.bool b) := by rw [h]
end Go.Proofs.Ytlneimjenjpbnaa
