/- NamingFolds: the name of any text, or the place at fault. -/
import Derived.Test.YtjpgncjabhiooaaDoorPuNamRef
import Derived.Test.YtjpgncjabhiooaaDoorPuNamAwake
set_option linter.unusedVariables false
set_option linter.unusedSimpArgs false
namespace Go.Px
open Go Go.Px.Pu
theorem folds_main (s : ByteArray) (R : ByteArray × Int × Int × Unit) (f9 : Unit → Option Bool) (f10 f15 : (ByteArray × Unit) → Option (ByteArray × Int × Int × Unit)) (h9 : f9 () = some true) (h10 : f10 (s, ()) = some R) (h15 : f15 (s, ()) = some R) : w03_NamingFolds.b f9 f10 f15 (s, ()) = some true := by
  simp only [w03_NamingFolds.b, h9, h10, h15, Option.bind_some]
  rw [seq_self, ieq_iff.2 rfl, ieq_iff.2 rfl]; rfl
theorem pure_NamingFolds (x0 : ByteArray) (w0 : x0.size ≤ 140737488351232) (hb : x0.size ≤ 1048576) : w03_NamingFolds (x0, ()) = some true :=
  folds_main x0 _ w03_awake naming_Fold r03_Fold w03_awake_eq (naming_Fold_eq x0) (r03_Fold_eq (by omega))
end Go.Px
