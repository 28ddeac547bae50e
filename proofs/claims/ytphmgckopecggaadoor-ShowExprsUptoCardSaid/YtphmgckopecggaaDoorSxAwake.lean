/- The document's examples, run. -/
import Derived.Test.YtphmgckopecggaaDoorSxHook
namespace Go.Sx
open Go Go.Ev Go.Proofs
set_option maxRecDepth 100000
theorem awake_run (σ : Hp) : evF F H 200 6 [] σ = some (.bool true, σ) := by kernel_rfl
end Go.Sx
