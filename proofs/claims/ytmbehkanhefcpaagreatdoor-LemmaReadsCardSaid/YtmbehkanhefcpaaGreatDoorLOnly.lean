/-
  P43.3: the walk of LemmaOnly.
-/
import Derived.Test.YtmbehkanhefcpaaGreatDoorAwk43
namespace Go.Proofs.YtmbehkanhefcpaaGreatDoor
open Go.RowKit

theorem ba_inj {a b : ByteArray} (h : a.toList = b.toList) : a = b := by
  have h2 := ba_beq a b
  rw [h] at h2
  simpa using h2.symm

end Go.Proofs.YtmbehkanhefcpaaGreatDoor
