/-
  math/bits.OnesCount64 at numbers below 256.
-/
import Derived.Test.YtigaflmhdbgmdaaDoorBits
namespace Go.Proofs.YtigaflmhdbgmdaaDoor
open Go.RowKit
set_option maxHeartbeats 1000000 in
set_option maxRecDepth 100000 in
theorem ones_any (n : Nat) (h1 : n < 256) (w : World) :
    Calls Tryd.prog 47 #[.int .u64 n] w fun e w' => e = .returned (.int .i64 (bitsL n).length) ∧ w = w' := by
  have h2 : 0 ≤ (n : Int) := by omega
  go_enter Tryd.func47, Tryd.ntmps47
  go_wp2
  go_ret
  refine ⟨ret_int ?_, rfl⟩
  clear w h2
  revert n
  decide +kernel
end Go.Proofs.YtigaflmhdbgmdaaDoor
