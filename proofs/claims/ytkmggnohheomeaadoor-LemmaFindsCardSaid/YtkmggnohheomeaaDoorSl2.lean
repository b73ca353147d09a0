/-
  Contracts: closures on a group's name; IndexFunc, ContainsFunc; Clone; Concat.
-/
import Derived.Test.YtkmggnohheomeaaDoorSl
import Derived.BigCall
namespace Go.Proofs.YtkmggnohheomeaaDoor
open Go.RowKit

end Go.Proofs.YtkmggnohheomeaaDoor
