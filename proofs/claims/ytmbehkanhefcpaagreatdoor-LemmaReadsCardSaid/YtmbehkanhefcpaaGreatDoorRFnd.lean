/-
  The reference's Find.
-/
import Derived.Test.YtmbehkanhefcpaaGreatDoorROf
import Derived.Test.YtmbehkanhefcpaaGreatDoorLEach
namespace Go.Proofs.YtmbehkanhefcpaaGreatDoor
open Go.RowKit

end Go.Proofs.YtmbehkanhefcpaaGreatDoor
