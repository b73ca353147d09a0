/-
  Contracts: closures on a group's name; IndexFunc, ContainsFunc; Clone; Concat.
-/
import Derived.Test.YtmbehkanhefcpaaGreatDoorSl
import Derived.BigCall
namespace Go.Proofs.YtmbehkanhefcpaaGreatDoor
open Go.RowKit

end Go.Proofs.YtmbehkanhefcpaaGreatDoor
