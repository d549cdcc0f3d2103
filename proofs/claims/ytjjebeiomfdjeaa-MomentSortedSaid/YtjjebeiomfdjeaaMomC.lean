/-
  What math.NaN gives.
-/
import Derived.Test.YtjjebeiomfdjeaaMomD
namespace Go.Proofs.Ytjjebeiomfdjeaa
set_option linter.unusedVariables false
open Go.RowKit

theorem frombits_run (n : Int) (w : World) : (callFunc 10 #[.int .u64 n]).run Try.prog w = .ok (.value (.float .f64 n.toNat)) w := by kernel_rfl

set_option maxHeartbeats 400000 in
theorem nan_any (w : World) : Calls Try.prog 27 #[] w fun e w' => e = .returned (.float .f64 aN) ∧ w = w' := by
  have hf := frombits_run
  go_enter Try.func27, Try.ntmps27
  go_wp2
  go_ret
  exact ⟨closed_float (by decide +kernel), rfl⟩

end Go.Proofs.Ytjjebeiomfdjeaa
