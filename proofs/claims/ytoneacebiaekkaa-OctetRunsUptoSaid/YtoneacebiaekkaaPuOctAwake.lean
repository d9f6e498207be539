/- What the reference is awake to. -/
import Derived.Test.YtoneacebiaekkaaShoct
import Derived.KernelRfl
set_option linter.unusedVariables false
set_option linter.unusedSimpArgs false
namespace Go.Px.Pu
open Go Go.Px
theorem w02_awake_eq : w02_awake () = some true := by kernel_rfl
end Go.Px.Pu
