/-
  The reference's charset functions: Kind, Letters, right, Check, IsWord, IsName.
-/
import Derived.Test.YtalpgilncohkbaaSigA
import Derived.Test.YtalpgilncohkbaaBits
namespace Go.Proofs.Ytalpgilncohkbaa
open Go.RowKit

end Go.Proofs.Ytalpgilncohkbaa
