/- What the laws of folder 05 are awake to. -/
import Derived.Test.YtpmnipaimoaagaaDoorSh
import Derived.KernelRfl
set_option linter.unusedVariables false
set_option linter.unusedSimpArgs false
namespace Go.Px.Pu
open Go Go.Px
theorem w05_awake_eq : w05_awake () = some true := by kernel_rfl
end Go.Px.Pu
