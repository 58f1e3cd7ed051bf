/- Facts on the fields of the seat Ytgfhddockofdnaa, gathered. -/
import Derived.Test.YtgfhddockofdnaaF1
set_option linter.unusedVariables false
set_option linter.unusedSimpArgs false
namespace Go.Eng
open Go.Proofs
theorem fldT_59_0 : fldT Try.prog 59 0 = some (0, 1, 23) := by kernel_rfl
theorem fldT_59_1 : fldT Try.prog 59 1 = some (1, 1, 3) := by kernel_rfl
theorem fldT_25_0 : fldT Try.prog 25 0 = some (0, 1, 5) := by kernel_rfl
theorem fldT_25_1 : fldT Try.prog 25 1 = some (1, 1, 5) := by kernel_rfl
theorem fldT_25_2 : fldT Try.prog 25 2 = some (2, 1, 23) := by kernel_rfl
theorem bdT_59 : bdT Try.prog 59 = some ([AV.nils, AV.int IntKind.i64 0], [(0, 1), (1, 1)]) := by kernel_rfl
attribute [go_sem] bdT_59 fldT_59_0 fldT_59_1 fldT_25_0 fldT_25_1 fldT_25_2
end Go.Eng
