/- More facts on types and functions of the seat Ytgfhddockofdnaa, gathered. -/
import Derived.Test.YtgfhddockofdnaaE20
set_option linter.unusedVariables false
set_option linter.unusedSimpArgs false
namespace Go.Eng
open Go.Proofs
theorem okF_69 : okF Go.Proofs.Try.prog 69 = true := by kernel_rfl
attribute [go_sem] okF_69
end Go.Eng
