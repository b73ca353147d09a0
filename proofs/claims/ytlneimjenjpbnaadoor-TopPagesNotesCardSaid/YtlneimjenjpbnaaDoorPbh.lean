/-
  pagebreak.Height of a page problem that is right.
-/
import Derived.Test.YtlneimjenjpbnaaDoorNsw
import Derived.Test.YtlneimjenjpbnaaDoorHgt
namespace Go.Proofs.YtlneimjenjpbnaaDoor
open Go.RowKit

end Go.Proofs.YtlneimjenjpbnaaDoor
