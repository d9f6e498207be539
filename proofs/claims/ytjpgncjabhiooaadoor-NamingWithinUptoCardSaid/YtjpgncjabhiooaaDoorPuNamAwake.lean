/- What the laws of folder 03 are awake to. -/
import Derived.Test.YtjpgncjabhiooaaDoorSh
import Derived.KernelRfl
set_option linter.unusedVariables false
set_option linter.unusedSimpArgs false
namespace Go.Px.Pu
open Go Go.Px
theorem w03_awake_eq : w03_awake () = some true := by kernel_rfl
end Go.Px.Pu
